/- The law holds: part 217. Conditions: none. -/
import Derived.Test.YtpndfdfipkadkaaGreatDoorKS6
set_option linter.all false
set_option maxRecDepth 100000
namespace Go.Proofs.YtpndfdfipkadkaaGreatDoor
open Go Go.Wx Go.Ax
structure Use where
 name:ByteArray
 kind:Int
 frm:Int
 til:Int
def Use.enc(u:Use):List D:=[ds' u.name,du u.kind,di u.frm,di u.til]
structure Pl where
 id:Int
 parent:Int
 into:Int
 ex:Bool
 uses:List Use
def Pl.enc(p:Pl):List D:=[di p.id,di p.parent,di p.into,db p.ex,rows Use.enc p.uses]
def ienc(n:Int):List D:=[di n]
def senc(s:ByteArray):List D:=[ds' s]
theorem pdUse:∀u:Use,PdL u.enc:=fun _=> .cons (.v _) (.cons (.v _) (.cons (.v _) (.cons (.v _) .nil)))
theorem pdPl:∀u:Pl,PdL u.enc:=fun _=> .cons (.v _) (.cons (.v _) (.cons (.v _) (.cons (.v _) (.cons (pd_rows pdUse _) .nil))))
theorem pdI:∀n:Int,PdL (ienc n):=fun _=> .one (.v _)
theorem pdS:∀n:ByteArray,PdL (senc n):=fun _=> .one (.v _)
theorem at_c(s:List Pl)(p:Int):Pur Pg 105 [rows Pl.enc s,di p] (di (idx (fun x=>x.id==p) s)):=by
 refine Pur_len 0 rfl fun hl=>fn Tryz.func105 [] [] (PdL.cons (pd_rows pdPl s) (PdL.cons (.v _) .nil)) ?_
 rw[List.length_map]at hl
 refine AW_idx s.length (fun i st=>(∀x∈s.take i,(x.id==p)=false)∧Has [(0,rows Pl.enc s),(1,di p),(5,di i)] [] st) ⟨by simp,has ⟨rfl,rfl,rfl,trivial⟩ rfl⟩ ?_
 rintro i st _ ⟨h3,e,rfl⟩
 refine go [] [] (if_ (fun hlt=>?_) (fun hlt=>?_))
 ·simp at hlt
  refine row_at hlt (if_ (fun he=>?_) (fun he=>⟨hlt,take_succ hlt h3 he,has ⟨rfl,rfl,inc hlt hl,trivial⟩ rfl⟩))
  exact frzi (by rw[idx_hit hlt he h3])
 ·simp at hlt
  exact frzi (by rw[idx_none (List.take_of_length_le hlt▸h3)])
def get(s:List Pl)(p:Int):Option Pl:=s.find? fun x=>x.id==p
theorem get_idx{s:List Pl}{p:Int}:(idx (fun x=>x.id==p) s= -1∧get s p=none)∨∃i:Nat,idx (fun x=>x.id==p) s=i∧∃hi:i<s.length,get s p=some s[i]:=by
 unfold idx get
 cases hf:s.findIdx? (fun x=>x.id==p)with
 | none=>
  rw[List.findIdx?_eq_none_iff]at hf
  exact .inl ⟨rfl,List.find?_eq_none.2 fun x hx=>by simp[hf x hx]⟩
 | some i=>
  rw[List.findIdx?_eq_some_iff_getElem]at hf
  obtain⟨hi,h1,h2⟩:=hf
  exact .inr ⟨i,rfl,hi,List.find?_eq_some_iff_getElem.2 ⟨h1,i,hi,rfl,fun j hj=>by simpa using h2 j hj⟩⟩
def hereB(s:List Pl)(p:Int):Bool:=match get s p with | some x=>x.ex | none=>false
def parI(s:List Pl)(p:Int):Int:=match get s p with | some x=>if x.ex then x.parent else 0 | none=>0
theorem here_c(s:List Pl)(p:Int):Pur Pg 126 [rows Pl.enc s,di p] (db (hereB s p)):=by
 refine fn Tryz.func126 [] [] (PdL.cons (pd_rows pdPl s) (PdL.cons (.v _) .nil)) ?_
 refine(at_c s p).call ?_
 rcases get_idx (s:=s) (p:=p)with⟨h1,h2⟩ | ⟨i,h1,hi,h2⟩
 ·rw[h1]
  exact frzb (by simp[hereB,h2])
 ·rw[h1]
  exact row_at hi (frzb (by simp[hereB,h2]))
theorem parent_c(s:List Pl)(p:Int):Pur Pg 127 [rows Pl.enc s,di p] (di (parI s p)):=by
 refine fn Tryz.func127 [] [] (PdL.cons (pd_rows pdPl s) (PdL.cons (.v _) .nil)) ?_
 refine(at_c s p).call ?_
 rcases get_idx (s:=s) (p:=p)with⟨h1,h2⟩ | ⟨i,h1,hi,h2⟩
 ·rw[h1]
  exact frzi (by simp[parI,h2])
 ·rw[h1]
  refine row_at hi (if_ (fun h3=>?_) fun h3=>row_at hi ?_)
  ·exact frzi (by simp_all[parI])
  ·exact frzi (by simp_all[parI])
theorem has_c(l:List Int)(n:Int):Pur Pg 169 [rows ienc l,di n] (db (l.any (· ==n))):=by
 refine Pur_len 0 rfl fun hl=>fn Tryz.func169 [] [] (PdL.cons (pd_rows pdI l) (PdL.cons (.v _) .nil)) ?_
 rw[List.length_map]at hl
 refine AW_idx l.length (fun i st=>(∀x∈l.take i,(x==n)=false)∧Has [(0,rows ienc l),(1,di n),(5,di i)] [] st) ⟨by simp,has ⟨rfl,rfl,rfl,trivial⟩ rfl⟩ ?_
 rintro i st _ ⟨h3,e,rfl⟩
 refine go [] [] (if_ (fun hlt=>?_) (fun hlt=>?_))
 ·simp at hlt
  refine row_at hlt (if_ (fun he=>?_) (fun he=>⟨hlt,take_succ hlt h3 he,has ⟨rfl,rfl,inc hlt hl,trivial⟩ rfl⟩))
  exact frzb (List.any_eq_true.2 ⟨l[i],List.getElem_mem hlt,he⟩).symm
 ·simp at hlt
  exact frzb (List.any_eq_false.2 (fun x hx=>by simp[(List.take_of_length_le hlt▸h3) x hx])).symm
def IsPath(s:List Pl):Int→List Int→Prop
 | p,[]=>parI s p=0
 | p,q::l=>parI s p=q∧q≠0∧IsPath s q l
theorem path_c(s:List Pl)(p:Int)(l:List Int)(h:IsPath s p l)(hl:l.length≤1000):Pur Pg 104 [rows Pl.enc s,di p] (rows ienc l):=by
 refine fn Tryz.func104 [] [] (PdL.cons (pd_rows pdPl s) (PdL.cons (.v _) .nil)) ?_
 refine(parent_c s p).call ?_
 refine AW_ghost 5 3 1 (Nat.zero_le _) ?_
 refine AW_idx l.length (fun i st=>∃pre rest q xs,l=pre++rest∧pre.length=i∧IsPath s q rest∧xs=pre.map ienc∧Has [(0,rows Pl.enc s),(5,.sl 0 0 i i),(6,di (parI s q))] [.arr 3 1 xs] st) ⟨[],l,p,[],rfl,rfl,h,rfl,has ⟨rfl,rfl,rfl,trivial⟩ rfl⟩ ?_
 rintro i _ _ ⟨pre,rest,q,xs,h1,h2,h3,h4,e,rfl⟩
 subst h4
 refine go [] [] (if_ (fun hlt=>?_) (fun hlt=>?_))
 ·refine push (by simp[h2]) (by omega) ?_
  refine(parent_c s _).call ?_
  cases rest with
  | nil=>simp[IsPath]at h3;rw[h3]at hlt;cases hlt
  | cons r rest=>
   obtain⟨h4,h5,h6⟩:=h3
   refine⟨by rw[h1];simp;omega,pre++[r],rest,r,pre.map ienc++[ienc r],by simp[h1],by simp[h2],h6,by simp,has ⟨rfl,rfl,by rw[h4];rfl,trivial⟩ (by rw[h4];rfl)⟩
 ·cases rest with
  | nil=>
   simp at h1;subst h1;subst h2
   exact frz_rows rfl rfl (by simp) pdI fun _=>rfl
  | cons r rest=>
   obtain⟨h4,h5,h6⟩:=h3
   rw[h4]at hlt;simp at hlt;exact absurd hlt h5
def contB(s:List Pl)(a b:Int)(l:List Int):Bool:=hereB s a&&(hereB s b&&(a==b||l.any (· ==a)))
theorem contains_c(s:List Pl)(a b:Int)(l:List Int)(h:IsPath s b l)(hl:l.length≤1000):Pur Pg 102 [rows Pl.enc s,di a,di b] (db (contB s a b l)):=by
 refine fn Tryz.func102 [] [] (PdL.cons (pd_rows pdPl s) (.cons (.v _) (.cons (.v _) .nil))) ?_
 refine(here_c s a).call ?_
 refine(here_c s b).call ?_
 refine(path_c s b l h hl).call ?_
 refine(has_c l a).call ?_
 refine if_ (fun h1=>?_) (fun h1=>?_)
 ·refine if_ (fun h2=>?_) (fun h2=>?_)
  ·refine if_ (fun h3=>?_) (fun h3=>?_)<;>exact frzb (by simp_all[contB])
  ·exact frzb (by simp_all[contB])
 ·exact frzb (by simp_all[contB])
def addS:List ByteArray→ByteArray→List ByteArray
 |[],s=>[s]
 | x::r,s=>if strLt s x||strEq s x then(if strEq s x then s::r else s::x::r)else x::addS r s
theorem added_c(l:List ByteArray)(s:ByteArray)(hl:l.length≤800000):Pur Pg 181 [rows senc l,ds' s] (rows senc (addS l s)):=by
 refine fn Tryz.func181 [] [] (PdL.cons (pd_rows pdS l) (.cons (.v _) .nil)) ?_
 refine AW_ghost 5 9 1 (Nat.zero_le _) ?_
 refine AW_idx l.length (fun i st=>∃n out d xs,addS l s=out++(if d then l.drop i else addS (l.drop i) s)∧n≤i+d.toNat∧out.length=n∧xs=out.map senc∧Has [(0,rows senc l),(1,ds' s),(5,.sl 0 0 n n),(6,db d),(7,di i)] [.arr 9 1 xs] st) ⟨0,[],false,[],by simp,by simp,rfl,rfl,has ⟨rfl,rfl,rfl,rfl,rfl,trivial⟩ rfl⟩ ?_
 rintro i _ _ ⟨n,out,d,xs,h1,h2,hn,rfl,e,rfl⟩
 have h5:n≤i+1:=by have:=Bool.toNat_le d;omega
 refine go [] [] (if_ (fun hlt=>?_) (fun hlt=>?_))
 ·simp at hlt
  have hdrop:l.drop i=l[i]::l.drop (i+1):=List.drop_eq_getElem_cons hlt
  rw[hdrop]at h1
  refine if_ (fun hd=>?_) (fun hd=>?_)
  ·refine row_at hlt ?_
   simp at hd
   subst hd
   refine if_ (fun h3=>?_) (fun h3=>?_)
   ·refine push (by simp[hn]) (by omega) ?_
    refine row_at hlt ?_
    refine if_ (fun h4=>?_) (fun h4=>?_)
    ·exact⟨hlt,n+1,out++[s],true,out.map senc++[senc s],by rw[h1];simp[addS,h3,h4],by simp at h2 ⊢;omega,by simp[hn],by simp,has ⟨rfl,rfl,rfl,rfl,inc hlt (by simp only[maxLen];omega),trivial⟩ rfl⟩
    ·refine row_at hlt ?_
     refine push (n:=n+1) (by simp[hn]) (by simp at h2;omega) ?_
     have h3':strLt s l[i]=true:=by simpa[h4]using h3
     exact⟨hlt,n+2,out++[s,l[i]],true,out.map senc++[senc s]++[senc l[i]],by rw[h1];simp[addS,h3',h4],by simp at h2 ⊢;omega,by simp[hn],by simp,has ⟨rfl,rfl,rfl,rfl,inc hlt (by simp only[maxLen];omega),trivial⟩ rfl⟩
   ·refine row_at hlt ?_
    refine push (by simp[hn]) (by omega) ?_
    exact⟨hlt,n+1,out++[l[i]],false,out.map senc++[senc l[i]],by rw[h1];simp[addS,h3],by simp at h2 ⊢;omega,by simp[hn],by simp,has ⟨rfl,rfl,rfl,rfl,inc hlt (by simp only[maxLen];omega),trivial⟩ rfl⟩
  ·simp at hd
   subst hd
   refine row_at hlt ?_
   refine push (by simp[hn]) (by omega) ?_
   exact⟨hlt,n+1,out++[l[i]],true,out.map senc++[senc l[i]],by rw[h1];simp,by simp at h2 ⊢;omega,by simp[hn],by simp,has ⟨rfl,rfl,rfl,rfl,inc hlt (by simp only[maxLen];omega),trivial⟩ rfl⟩
 ·simp at hlt
  rw[List.drop_of_length_le hlt]at h1
  refine if_ (fun hd=>?_) (fun hd=>?_)
  ·simp at hd
   subst hd
   refine push (by simp[hn]) (by omega) ?_
   rw[h1]
   exact frz_rows (enc:=senc) (xs:=out++[s]) (T:=9) (by simp;rfl) (by simp[hn]) (by simp[hn]) pdS fun _=>rfl
  ·simp at hd
   subst hd
   rw[h1]
   exact frz_rows (enc:=senc) (xs:=out++[]) (T:=9) (by simp) (by simp[hn]) (by simp[hn]) pdS fun _=>rfl
def addI:List Int→Int→List Int
 |[],s=>[s]
 | x::r,s=>if decide (s≤x)then(if s==x then s::r else s::x::r)else x::addI r s
theorem sorted_c(l:List Int)(s:Int)(hl:l.length≤800000):Pur Pg 124 [rows ienc l,di s] (rows ienc (addI l s)):=by
 refine fn Tryz.func124 [] [] (PdL.cons (pd_rows pdI l) (.cons (.v _) .nil)) ?_
 refine AW_ghost 5 3 1 (Nat.zero_le _) ?_
 refine AW_idx l.length (fun i st=>∃n out d xs,addI l s=out++(if d then l.drop i else addI (l.drop i) s)∧n≤i+d.toNat∧out.length=n∧xs=out.map ienc∧Has [(0,rows ienc l),(1,di s),(5,.sl 0 0 n n),(6,db d),(7,di i)] [.arr 3 1 xs] st) ⟨0,[],false,[],by simp,by simp,rfl,rfl,has ⟨rfl,rfl,rfl,rfl,rfl,trivial⟩ rfl⟩ ?_
 rintro i _ _ ⟨n,out,d,xs,h1,h2,hn,rfl,e,rfl⟩
 have h5:n≤i+1:=by have:=Bool.toNat_le d;omega
 refine go [] [] (if_ (fun hlt=>?_) (fun hlt=>?_))
 ·simp at hlt
  have hdrop:l.drop i=l[i]::l.drop (i+1):=List.drop_eq_getElem_cons hlt
  rw[hdrop]at h1
  refine if_ (fun hd=>?_) (fun hd=>?_)
  ·refine row_at hlt ?_
   simp at hd
   subst hd
   refine if_ (fun h3=>?_) (fun h3=>?_)
   ·refine push (by simp[hn]) (by omega) ?_
    refine row_at hlt ?_
    refine if_ (fun h4=>?_) (fun h4=>?_)
    ·exact⟨hlt,n+1,out++[s],true,out.map ienc++[ienc s],by rw[h1];simp_all[addI],by simp at h2 ⊢;omega,by simp[hn],by simp,has ⟨rfl,rfl,rfl,rfl,inc hlt (by simp only[maxLen];omega),trivial⟩ rfl⟩
    ·refine row_at hlt ?_
     refine push (n:=n+1) (by simp[hn]) (by simp at h2;omega) ?_
     exact⟨hlt,n+2,out++[s,l[i]],true,out.map ienc++[ienc s]++[ienc l[i]],by rw[h1];simp_all[addI],by simp at h2 ⊢;omega,by simp[hn],by simp,has ⟨rfl,rfl,rfl,rfl,inc hlt (by simp only[maxLen];omega),trivial⟩ rfl⟩
   ·refine row_at hlt ?_
    refine push (by simp[hn]) (by omega) ?_
    exact⟨hlt,n+1,out++[l[i]],false,out.map ienc++[ienc l[i]],by rw[h1];simp only[addI,h3];simp,by simp at h2 ⊢;omega,by simp[hn],by simp,has ⟨rfl,rfl,rfl,rfl,inc hlt (by simp only[maxLen];omega),trivial⟩ rfl⟩
  ·simp at hd
   subst hd
   refine row_at hlt ?_
   refine push (by simp[hn]) (by omega) ?_
   exact⟨hlt,n+1,out++[l[i]],true,out.map ienc++[ienc l[i]],by rw[h1];simp,by simp at h2 ⊢;omega,by simp[hn],by simp,has ⟨rfl,rfl,rfl,rfl,inc hlt (by simp only[maxLen];omega),trivial⟩ rfl⟩
 ·simp at hlt
  rw[List.drop_of_length_le hlt]at h1
  refine if_ (fun hd=>?_) (fun hd=>?_)
  ·simp at hd
   subst hd
   refine push (by simp[hn]) (by omega) ?_
   rw[h1]
   exact frz_rows (enc:=ienc) (xs:=out++[s]) (T:=3) (by simp;rfl) (by simp[hn]) (by simp[hn]) pdI fun _=>rfl
  ·simp at hd
   subst hd
   rw[h1]
   exact frz_rows (enc:=ienc) (xs:=out++[]) (T:=3) (by simp) (by simp[hn]) (by simp[hn]) pdI fun _=>rfl
end Go.Proofs.YtpndfdfipkadkaaGreatDoor
set_option maxRecDepth 100000
namespace Go.Proofs.YtpndfdfipkadkaaGreatDoor
open Go Go.Wx Go.Ax
def inUse(day:Int)(u:Use):Bool:=decide (u.frm≤day)&&decide (day<u.til)
def usingL(l:List Use)(day:Int):List ByteArray:=l.foldl (fun out u=>if inUse day u then addS out u.name else out) []
theorem addS_len(l:List ByteArray)(s:ByteArray):(addS l s).length≤l.length+1:=by
 induction l with
 | nil=>simp[addS]
 | cons x r ih=>
  rw[addS]
  split
  ·split<;>simp
  ·simp;omega
theorem using_len(l:List Use)(day:Int):(usingL l day).length≤l.length:=by
 unfold usingL
 have:∀(l:List Use) (out:List ByteArray),(l.foldl (fun out u=>if inUse day u then addS out u.name else out) out).length≤out.length+l.length:=by
  intro l
  induction l with
  | nil=>intro out;simp
  | cons u l ih=>
   intro out
   rw[List.foldl_cons]
   refine Nat.le_trans (ih _) ?_
   have:=addS_len out u.name
   split<;>simp<;>omega
 simpa using this l []
theorem using_take{l:List Use}{i:Nat}(h:i<l.length)(day:Int):usingL (l.take (i+1)) day=if inUse day l[i]then addS (usingL (l.take i) day) l[i].name else usingL (l.take i) day:=by
 unfold usingL
 rw[List.take_succ_eq_append_getElem h,List.foldl_append]
 rfl
theorem using_c(l:List Use)(day:Int)(hl:l.length≤700000):Pur Pg 128 [rows Use.enc l,di day] (rows senc (usingL l day)):=by
 refine fn Tryz.func128 [] [] (PdL.cons (pd_rows pdUse l) (.cons (.v _) .nil)) ?_
 refine AW_nil 5 ?_
 refine AW_idx l.length (fun i st=>∃out,out=usingL (l.take i) day∧Has [(0,rows Use.enc l),(1,di day),(5,rows senc out),(6,di i)] [] st) ⟨[],by simp[usingL],has ⟨rfl,rfl,rfl,rfl,trivial⟩ rfl⟩ ?_
 rintro i _ _ ⟨out,h1,e,rfl⟩
 refine go [] [] (if_ (fun hlt=>?_) (fun hlt=>?_))
 ·simp at hlt
  have hm:(i:Nat)<maxLen:=by simp only[maxLen];omega
  refine row_at hlt (if_ (fun h2=>row_at hlt (if_ (fun h3=>row_at hlt ?_) fun h3=>?_)) fun h2=>?_)
  ·refine(added_c out l[i].name ?_).call ?_
   ·have:=using_len (l.take i) day
    rw[←h1,List.length_take]at this
    omega
   exact⟨hlt,_,by rw[using_take hlt,h1];simp[inUse,h2,h3],has ⟨rfl,rfl,rfl,inc hlt (by simp only[maxLen];omega),trivial⟩ rfl⟩
  ·exact⟨hlt,out,by rw[using_take hlt,h1];simp[inUse,h2,h3],has ⟨rfl,rfl,rfl,inc hlt (by simp only[maxLen];omega),trivial⟩ rfl⟩
  ·exact⟨hlt,out,by rw[using_take hlt,h1];simp[inUse,h2],has ⟨rfl,rfl,rfl,inc hlt (by simp only[maxLen];omega),trivial⟩ rfl⟩
 ·simp at hlt
  rw[List.take_of_length_le hlt]at h1
  subst h1
  exact .pd (pd_rows pdS _)
def lastT:List Use→Int
 |[]=> -1
 | u::r=>if lastT r≥0 then lastT r+1 else if u.kind==1 then 0 else -1
theorem lastT_snoc(l:List Use)(u:Use):lastT (l++[u])=if u.kind==1 then(l.length:Int)else lastT l:=by
 induction l with
 | nil=>simp[lastT]
 | cons x r ih=>
  rw[List.cons_append,lastT,ih]
  by_cases hk:u.kind==1
  ·simp[hk]
  ·simp only[hk]
   rfl
theorem last_c(l:List Use):Pur Pg 106 [rows Use.enc l] (di (lastT l)):=by
 refine Pur_len 0 rfl fun hl=>fn Tryz.func106 [] [] (.one (pd_rows pdUse l)) ?_
 rw[List.length_map]at hl
 refine AW_idx l.length (fun i st=>Has [(0,rows Use.enc l),(3,di (lastT (l.take i))),(4,di i)] [] st) (has ⟨rfl,rfl,rfl,trivial⟩ rfl) ?_
 rintro i _ _ ⟨e,rfl⟩
 refine go [] [] (if_ (fun hlt=>?_) (fun hlt=>?_))
 ·simp at hlt
  refine row_at hlt (if_ (fun h2=>?_) fun h2=>?_)
  ·exact⟨hlt,has ⟨rfl,by rw[List.take_succ_eq_append_getElem hlt,lastT_snoc,if_pos h2,List.length_take,Nat.min_eq_left (by omega)];rfl,inc hlt hl,trivial⟩ rfl⟩
  ·exact⟨hlt,has ⟨rfl,by rw[List.take_succ_eq_append_getElem hlt,lastT_snoc,if_neg (by simpa using h2)];rfl,inc hlt hl,trivial⟩ rfl⟩
 ·simp at hlt
  exact frzi (by rw[List.take_of_length_le hlt])
def openB(l:List Use)(name:ByteArray)(kind:Int):Bool:=l.any fun u=>strEq u.name name&&(u.til==100001&&(kind==0||u.kind==kind))
theorem open_c(l:List Use)(name:ByteArray)(kind:Int):Pur Pg 107 [rows Use.enc l,ds' name,du kind] (db (openB l name kind)):=by
 refine Pur_len 0 rfl fun hl=>fn Tryz.func107 [] [] (.cons (pd_rows pdUse l) (.cons (.v _) (.cons (.v _) .nil))) ?_
 rw[List.length_map]at hl
 refine AW_idx l.length (fun i st=>(∀u∈l.take i,(strEq u.name name&&(u.til==100001&&(kind==0||u.kind==kind)))=false)∧Has [(0,rows Use.enc l),(1,ds' name),(2,du kind),(7,di i)] [] st) ⟨by simp,has ⟨rfl,rfl,rfl,rfl,trivial⟩ rfl⟩ ?_
 rintro i _ _ ⟨h1,e,rfl⟩
 refine go [] [] (if_ (fun hlt=>?_) (fun hlt=>?_))
 ·simp at hlt
  have yes:(strEq l[i].name name&&(l[i].til==100001&&(kind==0||l[i].kind==kind)))=true→Frz [] (.v (.bool true)) (db (openB l name kind)):=fun h=>frzb (List.any_eq_true.2 ⟨l[i],List.getElem_mem hlt,h⟩).symm
  have no:(strEq l[i].name name&&(l[i].til==100001&&(kind==0||l[i].kind==kind)))=false→∀x∈l.take (i+1),(strEq x.name name&&(x.til==100001&&(kind==0||x.kind==kind)))=false:=fun h=>take_succ hlt h1 h
  refine row_at hlt (if_ (fun h2=>row_at hlt (if_ (fun h3=>if_ (fun h4=>?_) fun h4=>row_at hlt (if_ (fun h5=>?_) fun h5=>?_)) fun h3=>?_)) fun h2=>?_)
  ·exact yes (by simp_all)
  ·exact yes (by simp_all)
  ·exact⟨hlt,no (by simp_all),has ⟨rfl,rfl,rfl,inc hlt hl,trivial⟩ rfl⟩
  ·exact⟨hlt,no (by simp_all),has ⟨rfl,rfl,rfl,inc hlt hl,trivial⟩ rfl⟩
  ·exact⟨hlt,no (by simp_all),has ⟨rfl,rfl,rfl,inc hlt hl,trivial⟩ rfl⟩
 ·simp at hlt
  exact frzb (List.any_eq_false.2 (fun x hx=>by simp[(List.take_of_length_le hlt▸h1) x hx])).symm
def newT(name:ByteArray)(day:Int):Use:=⟨name,1,day,100001⟩
def newA(name:ByteArray)(day:Int):Use:=⟨name,2,day,100001⟩
def setAt(k:Int)(t:Int)(l:List Use):List Use:=l.mapIdx fun i u=>if(i:Int)==k then{u with til:=t}else u
theorem setAt_take{l:List Use}{i:Nat}(h:i<l.length)(k t:Int):(setAt k t l).take (i+1)=(setAt k t l).take i++[if(i:Int)==k then{l[i]with til:=t}else l[i]]:=by
 have h':i<(setAt k t l).length:=by simp[setAt,h]
 rw[List.take_succ_eq_append_getElem h']
 congr 1
 simp[setAt]
def renL(l:List Use)(name:ByteArray)(day:Int):List Use:=setAt (lastT l) (min (day+3650) 100001) l++[newT name day]
theorem renamed_c(l:List Use)(name:ByteArray)(day:Int)(hl:l.length≤700000)(hd:0≤day∧day≤100000):Pur Pg 170 [rows Use.enc l,ds' name,di day] (rows Use.enc (renL l name day)):=by
 refine fn Tryz.func170 [] [] (.cons (pd_rows pdUse l) (.cons (.v _) (.cons (.v _) .nil))) ?_
 refine(last_c l).call ?_
 refine AW_ghost 8 142 4 (Nat.zero_le _) ?_
 have hw:IntKind.wrap .i64 (day+3650)=day+3650:=wadd (by omega) (by omega)
 have hmin:(if(100001:Int)<day+3650 then 100001 else day+3650)=min (day+3650) 100001:=by split<;>omega
 refine AW_idx l.length (fun i st=>∃xs,xs=((setAt (lastT l) (min (day+3650) 100001) l).take i).map Use.enc∧HasG [(0,rows Use.enc l),(1,ds' name),(2,di day),(7,di (lastT l)),(8,.sl 0 0 i i),(9,di i)] [.arr 142 4 xs] st) ⟨[],by simp,hasG (G:=[]) ⟨rfl,rfl,rfl,rfl,rfl,rfl,trivial⟩ rfl⟩ ?_
 rintro i _ _ ⟨xs,rfl,e,G,rfl⟩
 refine AW_drop (BlL.cons (.pd (pd_rows pdUse l)) (.v (.v (.v (.cons (.sl (by simp)) (.v .nil)))))) (BlH.cons (BlO.enc pdUse) .nil) (Nat.zero_le _) fun e=>?_
 have hlen:i≤l.length→(((setAt (lastT l) (min (day+3650) 100001) l).take i).map Use.enc).length=i:=fun h=>by simp[setAt,h]
 refine go [] [] (if_ (fun hlt=>?_) (fun hlt=>?_))
 ·simp at hlt
  refine row_at hlt (if_ (fun h2=>?_) fun h2=>?_)
  ·refine push (hlen (by omega)) (by omega) ?_
   refine⟨hlt,_,?_,hasG ⟨rfl,rfl,rfl,rfl,rfl,inc hlt (by simp only[maxLen];omega),trivial⟩ rfl⟩
   rw[setAt_take hlt,List.map_append,if_pos h2]
   rw[hw,hmin]
   rfl
  ·refine push (hlen (by omega)) (by omega) ?_
   refine⟨hlt,_,?_,hasG ⟨rfl,rfl,rfl,rfl,rfl,inc hlt (by simp only[maxLen];omega),trivial⟩ rfl⟩
   rw[setAt_take hlt,List.map_append,if_neg (by simpa using h2)]
   rfl
 ·simp at hlt
  obtain rfl:i=l.length:=by omega
  refine push (hlen (by omega)) (by omega) ?_
  refine frz_rows (xs:=renL l name day) (T:=142) ?_ (by simp[renL,setAt]) (by simp[renL,setAt]) pdUse (sz:=4) fun _=>rfl
  rw[renL,List.map_append,List.take_of_length_le (by simp[setAt])]
  rfl
def capT(day:Int)(l:List Use):List Use:=l.map fun u=>{u with til:=min u.til day}
def mergedL(l other:List Use)(day:Int):List Use:=(usingL other day).foldl (fun out n=>if openB l n 2 then out else out++[newA n day]) l
theorem merged_c(l other:List Use)(day:Int)(hl:l.length≤400000)(ho:other.length≤400000):Pur Pg 171 [rows Use.enc l,rows Use.enc other,di day] (.tup [rows Use.enc (mergedL l other day),rows Use.enc (capT day other)]):=by
 refine fn Tryz.func171 [] [] (.cons (pd_rows pdUse l) (.cons (pd_rows pdUse other) (.cons (.v _) .nil))) ?_
 refine push0 (fun _=>rfl) (by omega) ?_
 refine(using_c other day (by omega)).call ?_
 have hns:=using_len other day
 generalize hn:usingL other day=ns at hns
 have hml:∀(ns:List ByteArray) (out:List Use),(ns.foldl (fun out n=>if openB l n 2 then out else out++[newA n day]) out).length≤out.length+ns.length:=by
  intro ns
  induction ns with
  | nil=>simp
  | cons n ns ih=>
   intro out
   rw[List.foldl_cons]
   refine Nat.le_trans (ih _) ?_
   split<;>simp<;>omega
 refine AW_idx ns.length (fun i st=>∃n out xs,out=(ns.take i).foldl (fun out n=>if openB l n 2 then out else out++[newA n day]) l∧out.length=n∧xs=out.map Use.enc∧Has [(0,rows Use.enc l),(1,rows Use.enc other),(2,di day),(8,.sl 0 0 n n),(9,rows senc ns),(10,di i)] [.arr 142 4 xs] st) ⟨(l.map Use.enc).length,l,_,rfl,by simp,rfl,has ⟨rfl,rfl,rfl,rfl,rfl,rfl,trivial⟩ rfl⟩ ?_
 rintro i _ _ ⟨n,out,xs,h1,h2,rfl,e,rfl⟩
 refine go [] [] (if_ (fun hlt=>?_) (fun hlt=>?_))
 ·simp at hlt
  refine row_at hlt ?_
  refine(open_c l ns[i] 2).call ?_
  have hi:=hml (ns.take i) l
  rw[←h1,List.length_take]at hi
  refine if_ (fun h3=>row_at hlt ?_) fun h3=>?_
  ·refine push (by simp[h2]) (by omega) ?_
   exact⟨hlt,n+1,out++[newA ns[i] day],_,by rw[List.take_succ_eq_append_getElem hlt,List.foldl_append,←h1];simp at h3;simp[h3],by simp[h2],by rw[List.map_append];rfl,has ⟨rfl,rfl,rfl,rfl,rfl,inc hlt (by simp only[maxLen];omega),trivial⟩ rfl⟩
  ·exact⟨hlt,n,out,_,by rw[List.take_succ_eq_append_getElem hlt,List.foldl_append,←h1];simp at h3;simp[h3],h2,rfl,has ⟨rfl,rfl,rfl,rfl,rfl,inc hlt (by simp only[maxLen];omega),trivial⟩ rfl⟩
 simp at hlt
 rw[List.take_of_length_le hlt]at h1
 refine AW_ghost 12 142 4 (Nat.zero_le _) ?_
 refine AW_idx other.length (fun i st=>∃xs,xs=((capT day other).take i).map Use.enc∧HasG [(1,rows Use.enc other),(2,di day),(8,.sl 0 0 n n),(12,.sl 1 0 i i),(13,di i)] [.arr 142 4 (out.map Use.enc),.arr 142 4 xs] st) ⟨[],by simp,hasG (G:=[]) ⟨rfl,rfl,rfl,rfl,rfl,trivial⟩ rfl⟩ ?_
 rintro i _ _ ⟨xs,rfl,e,G,rfl⟩
 refine AW_drop (BlL.cons (.pd (pd_rows pdUse other)) (.v (.cons (.sl (by simp)) (.cons (.sl (by simp)) (.v .nil))))) (BlH.cons (BlO.enc pdUse) (.cons (BlO.enc pdUse) .nil)) (Nat.zero_le _) fun e=>?_
 refine go [] [] (if_ (fun hlt=>?_) (fun hlt=>?_))
 ·simp at hlt
  refine row_at hlt ?_
  refine push (by simp[capT];omega) (by omega) ?_
  refine⟨hlt,_,?_,hasG ⟨rfl,rfl,rfl,rfl,inc hlt (by simp only[maxLen];omega),trivial⟩ rfl⟩
  have hmin:(if day<other[i].til then day else other[i].til)=min other[i].til day:=by split<;>omega
  rw[List.take_succ_eq_append_getElem (by simp[capT,hlt]),List.map_append]
  simp only[capT,List.getElem_map,←hmin]
  rfl
 ·simp at hlt
  obtain rfl:i=other.length:=by omega
  have hm:mergedL l other day=out:=by rw[mergedL,hn,h1]
  have hc:(capT day other).take other.length=capT day other:=List.take_of_length_le (by simp[capT])
  refine .tup2 (frz_rows (T:=142) (sz:=4) (xs:=mergedL l other day) (by rw[hm];rfl) (by rw[hm,h2]) (by rw[hm,h2]) pdUse fun _=>rfl) (frz_rows (T:=142) (sz:=4) (xs:=capT day other) (by rw[hc];rfl) (by simp[capT]) (by simp[capT]) pdUse fun _=>rfl)
end Go.Proofs.YtpndfdfipkadkaaGreatDoor
