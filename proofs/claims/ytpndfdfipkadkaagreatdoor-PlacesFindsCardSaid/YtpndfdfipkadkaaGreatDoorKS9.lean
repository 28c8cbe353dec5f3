/- The law holds: part 219. Conditions: none. -/
import Derived.Test.YtpndfdfipkadkaaGreatDoorKS8
set_option linter.all false
set_option maxRecDepth 100000
namespace Go.Proofs.YtpndfdfipkadkaaGreatDoor
open Go Go.Wx Go.Ax
def upToL(l:List Ev)(day:Int):List Pl:=l.foldl (fun s e=>if e.day≤day then afterL s e else s) []
def RunOk(l:List Ev)(day:Int):Prop:=l.length≤1000∧∀(i:Nat) (h:i<l.length),l[i].day≤day→evOk (upToL (l.take i) day) l[i]
theorem upTo_take{l:List Ev}{i:Nat}(h:i<l.length)(day:Int):upToL (l.take (i+1)) day=if l[i].day≤day then afterL (upToL (l.take i) day) l[i]else upToL (l.take i) day:=by
 unfold upToL
 rw[List.take_succ_eq_append_getElem h,List.foldl_append]
 rfl
theorem upTo_c(l:List Ev)(day:Int)(h:RunOk l day):Pur Pg 100 [rows Ev.enc l,di day] (rows Pl.enc (upToL l day)):=by
 obtain⟨hl,hok⟩:=h
 refine fn Tryz.func100 [] [] (.cons (pd_rows pdEv l) (.cons (.v _) .nil)) ?_
 refine AW_nil 5 ?_
 refine AW_idx l.length (fun i st=>∃s,s=upToL (l.take i) day∧Has [(0,rows Ev.enc l),(1,di day),(5,rows Pl.enc s),(6,di i)] [] st) ⟨[],by simp[upToL],has ⟨rfl,rfl,rfl,rfl,trivial⟩ rfl⟩ ?_
 rintro i _ _ ⟨s,h1,e,rfl⟩
 refine go [] [] (if_ (fun hlt=>?_) (fun hlt=>?_))
 ·simp at hlt
  refine row_at hlt (if_ (fun h2=>row_at hlt ?_) fun h2=>?_)
  ·have h2':l[i].day≤day:=by simpa using h2
   refine(after_c s l[i] (by rw[h1];exact hok i hlt h2')).call ?_
   exact⟨hlt,_,by rw[upTo_take hlt,h1,if_pos h2'],has ⟨rfl,rfl,rfl,inc hlt (by simp only[maxLen];omega),trivial⟩ rfl⟩
  ·exact⟨hlt,s,by rw[upTo_take hlt,h1,if_neg (by simpa using h2)],has ⟨rfl,rfl,rfl,inc hlt (by simp only[maxLen];omega),trivial⟩ rfl⟩
 ·simp at hlt
  rw[List.take_of_length_le hlt]at h1
  subst h1
  exact .pd (pd_rows pdPl _)
def onL(l:List Ev)(day:Int):List Pl:=if decide (day<0)||decide (day>100000)then []else upToL l day
def refG(l:List Ev):D:= .fp [rows Ev.enc l]
theorem pd_refG(l:List Ev):Pd (refG l):= .fp fun d hd=>by rw[List.mem_singleton]at hd;subst hd;exact pd_rows pdEv l
theorem on_c(l:List Ev)(day:Int)(h:RunOk l day):Pur Pg 125 [refG l,di day] (rows Pl.enc (onL l day)):=by
 refine fn Tryz.func125 [] [] (.cons (pd_refG l) (.cons (.v _) .nil)) ?_
 refine if_ (fun h1=>?_) (fun h1=>if_ (fun h2=>?_) fun h2=>?_)
 ·rw[show onL l day=[] by simp[onL,h1]]
  exact .nil
 ·rw[show onL l day=[] by simp[onL,h2]]
  exact .nil
 ·refine(upTo_c l day h).call ?_
  rw[show onL l day=upToL l day by simp[onL,h1,h2]]
  exact .pd (pd_rows pdPl _)
theorem refPath_c(l:List Ev)(p day:Int)(h:RunOk l day)(r:List Int)(hr:IsPath (onL l day) p r)(hl:r.length≤1000):Pur Pg 56 [refG l,di p,di day] (rows ienc r):=by
 refine fn Tryz.func56 [] [] (.cons (pd_refG l) (.cons (.v _) (.cons (.v _) .nil))) ?_
 refine(on_c l day h).call ?_
 refine(path_c _ p r hr hl).call ?_
 exact .pd (pd_rows pdI _)
def nameL(s:List Pl)(p:Int):ByteArray:=match get s p with
 | some x=>if x.ex then(match x.uses[(lastT x.uses).toNat]? with | some u=>u.name | none=>⟨#[]⟩)else⟨#[]⟩
 | none=>⟨#[]⟩
def namesL(s:List Pl)(p day:Int):List ByteArray:=match get s p with
 | some x=>if x.ex then usingL x.uses day else []
 | none=>[]
theorem lastT_lt(l:List Use):lastT l<l.length:=by
 induction l with
 | nil=>simp[lastT]
 | cons u r ih=>rw[lastT];simp only[List.length_cons];split<;>(try split)<;>omega
theorem refNames_c(l:List Ev)(p day:Int)(h:RunOk l day)(hu:∀x,get (onL l day) p=some x→x.uses.length≤700000):Pur Pg 58 [refG l,di p,di day] (rows senc (namesL (onL l day) p day)):=by
 refine fn Tryz.func58 [] [] (.cons (pd_refG l) (.cons (.v _) (.cons (.v _) .nil))) ?_
 refine(on_c l day h).call ?_
 generalize onL l day=s at hu
 refine(at_c s p).call ?_
 rcases get_idx (s:=s) (p:=p)with⟨h1,h2⟩ | ⟨i,h1,hi,h2⟩
 ·rw[h1,show namesL s p day=[] by simp[namesL,h2]]
  exact .nil
 ·rw[h1]
  refine row_at hi (if_ (fun h3=>?_) fun h3=>?_)
  ·rw[show namesL s p day=[] by simp at h3;simp[namesL,h2,h3]]
   exact .nil
  ·have hex:s[i].ex=true:=by simpa using h3
   refine row_at hi ?_
   refine(using_c s[i].uses day (hu _ h2)).call ?_
   rw[show namesL s p day=usingL s[i].uses day by simp[namesL,h2,hex]]
   exact .pd (pd_rows pdS _)
def allL(s:List Pl):List Int:=s.foldl (fun out x=>if x.ex then addI out x.id else out) []
theorem addI_len(l:List Int)(s:Int):(addI l s).length≤l.length+1:=by
 induction l with
 | nil=>simp[addI]
 | cons x r ih=>
  rw[addI]
  split
  ·split<;>simp
  ·simp;omega
theorem fold_len{α:Type}(f:α→List Int→List Int)(hf:∀x out,(f x out).length≤out.length+1):∀(s:List α) (out:List Int),(s.foldl (fun out x=>f x out) out).length≤out.length+s.length
 |[],out=>by simp
 | x::s,out=>by
  rw[List.foldl_cons]
  refine Nat.le_trans (fold_len f hf s _) ?_
  have:=hf x out
  simp;omega
theorem foldl_take{α β:Type}(f:β→α→β)(b:β){l:List α}{i:Nat}(h:i<l.length):(l.take (i+1)).foldl f b=f ((l.take i).foldl f b) l[i]:=by
 rw[List.take_succ_eq_append_getElem h,List.foldl_append]
 rfl
theorem refAll_c(l:List Ev)(day:Int)(h:RunOk l day)(hs:(onL l day).length≤700000):Pur Pg 55 [refG l,di day] (rows ienc (allL (onL l day))):=by
 refine fn Tryz.func55 [] [] (.cons (pd_refG l) (.cons (.v _) .nil)) ?_
 refine(on_c l day h).call ?_
 generalize onL l day=s at hs
 refine AW_nil 6 ?_
 refine AW_idx s.length (fun i st=>∃out,out=allL (s.take i)∧Has [(5,rows Pl.enc s),(6,rows ienc out),(7,di i)] [] st) ⟨[],by simp[allL],has ⟨rfl,rfl,rfl,trivial⟩ rfl⟩ ?_
 rintro i _ _ ⟨out,h1,e,rfl⟩
 refine go [] [] (if_ (fun hlt=>?_) (fun hlt=>?_))
 ·simp at hlt
  refine row_at hlt (if_ (fun h2=>row_at hlt ?_) fun h2=>?_)
  ·refine(sorted_c out s[i].id ?_).call ?_
   ·have:=fold_len (fun(x:Pl) out=>if x.ex then addI out x.id else out) (fun x out=>by split;exact addI_len _ _;omega) (s.take i) []
    rw[h1]
    simp only[allL]
    simp only[List.length_nil,List.length_take]at this
    omega
   exact⟨hlt,_,by rw[allL,foldl_take _ _ hlt,if_pos h2];rw[h1];rfl,has ⟨rfl,rfl,inc hlt (by simp only[maxLen];omega),trivial⟩ rfl⟩
  ·exact⟨hlt,out,by rw[allL,foldl_take _ _ hlt,if_neg (by simpa using h2)];exact h1,has ⟨rfl,rfl,inc hlt (by simp only[maxLen];omega),trivial⟩ rfl⟩
 ·simp at hlt
  rw[List.take_of_length_le hlt]at h1
  subst h1
  exact .pd (pd_rows pdI _)
end Go.Proofs.YtpndfdfipkadkaaGreatDoor
set_option maxRecDepth 100000
namespace Go.Proofs.YtpndfdfipkadkaaGreatDoor
open Go Go.Wx Go.Ax
def pthN(s:List Pl):Nat→Int→List Int
 | 0,_=>[]
 | n+1,p=>if parI s p==0 then []else parI s p::pthN s n (parI s p)
def pth(s:List Pl)(p:Int):List Int:=pthN s (s.length+1) p
def PathsOk(s:List Pl):Prop:=∀p,IsPath s p (pth s p)∧(pth s p).length≤1000
def cont(s:List Pl)(a b:Int):Bool:=contB s a b (pth s b)
theorem cont_c(s:List Pl)(a b:Int)(h:PathsOk s):Pur Pg 102 [rows Pl.enc s,di a,di b] (db (cont s a b)):=contains_c s a b _ (h b).1 (h b).2
def insideL(s:List Pl)(p:Int):List Int:=s.foldl (fun out x=>if cont s p x.id then addI out x.id else out) []
theorem refInside_c(l:List Ev)(p day:Int)(h:RunOk l day)(hs:(onL l day).length≤700000)(hp:PathsOk (onL l day)):Pur Pg 57 [refG l,di p,di day] (rows ienc (insideL (onL l day) p)):=by
 refine fn Tryz.func57 [] [] (.cons (pd_refG l) (.cons (.v _) (.cons (.v _) .nil))) ?_
 refine(on_c l day h).call ?_
 generalize onL l day=s at hs hp
 refine AW_nil 8 ?_
 refine AW_idx s.length (fun i st=>∃out,out=(s.take i).foldl (fun out x=>if cont s p x.id then addI out x.id else out) []∧Has [(1,di p),(7,rows Pl.enc s),(8,rows ienc out),(9,di i)] [] st) ⟨[],by simp,has ⟨rfl,rfl,rfl,rfl,trivial⟩ rfl⟩ ?_
 rintro i _ _ ⟨out,h1,e,rfl⟩
 refine go [] [] (if_ (fun hlt=>?_) (fun hlt=>?_))
 ·simp at hlt
  refine row_at hlt ?_
  refine(cont_c s p s[i].id hp).call ?_
  refine if_ (fun h2=>row_at hlt ?_) fun h2=>?_
  ·refine(sorted_c out s[i].id ?_).call ?_
   ·have:=fold_len (fun(x:Pl) out=>if cont s p x.id then addI out x.id else out) (fun x out=>by split;exact addI_len _ _;omega) (s.take i) []
    rw[h1]
    simp only[List.length_nil,List.length_take]at this
    omega
   exact⟨hlt,_,by rw[foldl_take _ _ hlt,if_pos h2];rw[h1],has ⟨rfl,rfl,rfl,inc hlt (by simp only[maxLen];omega),trivial⟩ rfl⟩
  ·exact⟨hlt,out,by rw[foldl_take _ _ hlt,if_neg (by simpa using h2)];exact h1,has ⟨rfl,rfl,rfl,inc hlt (by simp only[maxLen];omega),trivial⟩ rfl⟩
 ·simp at hlt
  rw[List.take_of_length_le hlt]at h1
  subst h1
  exact .pd (pd_rows pdI _)
def goN(s:List Pl):Nat→Int→Int
 | 0,_=>0
 | n+1,p=>match get s p with
  | none=>0
  | some x=>if x.ex then p else goN s n x.into
end Go.Proofs.YtpndfdfipkadkaaGreatDoor
set_option maxRecDepth 100000
namespace Go.Proofs.YtpndfdfipkadkaaGreatDoor
open Go Go.Wx Go.Ax
def idB(n:Int):Bool:=decide (n≥1)&&decide (n≤1000000)
def namedB(k:Int):Bool:=k==1||(k==2||k==5)
def otherB(e:Ev):Bool:=if e.kind==1||e.kind==3 then e.other==0||idB e.other else if e.kind==4 then idB e.other&&e.other !=e.place else if e.kind==2||e.kind==5 then e.other==0 else false
def okEv(e:Ev):Bool:=decide (e.day≥0)&&(decide (e.day≤100000)&&(idB e.place&&(otherB e&&(namedB e.kind||strEq e.name ⟨#[]⟩))))
def wrongL(e:Ev):Int:=if okEv e then(if namedB e.kind&& !nameB e.name then 4 else 0)else 1
theorem formed_c(e:Ev)(hs:e.name.size≤maxLen):Pur Pg 75 [.agg e.enc] (di (wrongL e)):=by
 obtain⟨day,kind,place,other,name⟩:=e
 refine fn Tryz.func75 [] [] (.cons (.agg (pdEv _)) .nil) ?_
 by_cases k1:kind=1
 ·subst k1
  refine(id_c other).call ?_
  refine(id_c place).call ?_
  repeat' refine if_ (fun _=>?_) (fun _=>?_)
  all_goals first
   | exact frzi (by simp_all[wrongL,okEv,otherB,namedB,idB]<;>omega)
   | skip
  all_goals refine(refName_c name hs).call ?_
  all_goals refine if_ (fun _=>?_) (fun _=>?_)
  all_goals exact frzi (by simp_all[wrongL,okEv,otherB,namedB,idB]<;>omega)
 by_cases k2:kind=2
 ·subst k2
  refine(id_c other).call ?_
  refine(id_c place).call ?_
  repeat' refine if_ (fun _=>?_) (fun _=>?_)
  all_goals first
   | exact frzi (by simp_all[wrongL,okEv,otherB,namedB,idB]<;>omega)
   | skip
  all_goals refine(refName_c name hs).call ?_
  all_goals refine if_ (fun _=>?_) (fun _=>?_)
  all_goals exact frzi (by simp_all[wrongL,okEv,otherB,namedB,idB]<;>omega)
 by_cases k3:kind=3
 ·subst k3
  refine(id_c other).call ?_
  refine(id_c place).call ?_
  repeat' refine if_ (fun _=>?_) (fun _=>?_)
  all_goals first
   | exact frzi (by simp_all[wrongL,okEv,otherB,namedB,idB]<;>omega)
   | skip
  all_goals refine(refName_c name hs).call ?_
  all_goals exact frzi (by simp_all[wrongL,okEv,otherB,namedB,idB]<;>omega)
 by_cases k4:kind=4
 ·subst k4
  refine(id_c other).call ?_
  refine(id_c place).call ?_
  repeat' refine if_ (fun _=>?_) (fun _=>?_)
  all_goals first
   | exact frzi (by simp_all[wrongL,okEv,otherB,namedB,idB]<;>omega)
   | skip
  all_goals refine(refName_c name hs).call ?_
  all_goals exact frzi (by simp_all[wrongL,okEv,otherB,namedB,idB]<;>omega)
 by_cases k5:kind=5
 ·subst k5
  refine(id_c other).call ?_
  refine(id_c place).call ?_
  repeat' refine if_ (fun _=>?_) (fun _=>?_)
  all_goals first
   | exact frzi (by simp_all[wrongL,okEv,otherB,namedB,idB]<;>omega)
   | skip
  all_goals refine(refName_c name hs).call ?_
  all_goals refine if_ (fun _=>?_) (fun _=>?_)
  all_goals exact frzi (by simp_all[wrongL,okEv,otherB,namedB,idB]<;>omega)
 have n1:(kind==1)=false:=by simpa using k1
 have n2:(kind==2)=false:=by simpa using k2
 have n3:(kind==3)=false:=by simpa using k3
 have n4:(kind==4)=false:=by simpa using k4
 have n5:(kind==5)=false:=by simpa using k5
 refine iff_ n1 (iff_ n2 ?_)
 refine(id_c other).call ?_
 refine(id_c place).call ?_
 repeat' first
  | refine iff_ n1 ?_
  | refine iff_ n2 ?_
  | refine iff_ n3 ?_
  | refine iff_ n4 ?_
  | refine iff_ n5 ?_
  | refine if_ (fun _=>?_) (fun _=>?_)
 all_goals exact frzi (by simp_all[wrongL,okEv,otherB,namedB,idB])
theorem wrong_c(e:Ev):Pur Pg 71 [.agg e.enc] (di (wrongL e)):=by
 obtain⟨day,kind,place,other,name⟩:=e
 refine fn Tryz.func71 [] [] (.cons (.agg (pdEv _)) .nil) ?_
 by_cases k1:kind=1
 ·subst k1
  repeat' first
   | refine if_ (fun _=>?_) (fun _=>?_)
   | refine(isId_c _).call ?_
   | refine(isName_c _).call ?_
  all_goals exact frzi (by simp_all[wrongL,okEv,otherB,namedB,idB]<;>omega)
 by_cases k2:kind=2
 ·subst k2
  repeat' first
   | refine if_ (fun _=>?_) (fun _=>?_)
   | refine(isId_c _).call ?_
   | refine(isName_c _).call ?_
  all_goals exact frzi (by simp_all[wrongL,okEv,otherB,namedB,idB]<;>omega)
 by_cases k3:kind=3
 ·subst k3
  repeat' first
   | refine if_ (fun _=>?_) (fun _=>?_)
   | refine(isId_c _).call ?_
   | refine(isName_c _).call ?_
  all_goals exact frzi (by simp_all[wrongL,okEv,otherB,namedB,idB]<;>omega)
 by_cases k4:kind=4
 ·subst k4
  repeat' first
   | refine if_ (fun _=>?_) (fun _=>?_)
   | refine(isId_c _).call ?_
   | refine(isName_c _).call ?_
  all_goals exact frzi (by simp_all[wrongL,okEv,otherB,namedB,idB]<;>omega)
 by_cases k5:kind=5
 ·subst k5
  repeat' first
   | refine if_ (fun _=>?_) (fun _=>?_)
   | refine(isId_c _).call ?_
   | refine(isName_c _).call ?_
  all_goals exact frzi (by simp_all[wrongL,okEv,otherB,namedB,idB]<;>omega)
 have n1:(kind==1)=false:=by simpa using k1
 have n2:(kind==2)=false:=by simpa using k2
 have n3:(kind==3)=false:=by simpa using k3
 have n4:(kind==4)=false:=by simpa using k4
 have n5:(kind==5)=false:=by simpa using k5
 refine iff_ n1 (iff_ n2 ?_)
 repeat' first
  | refine iff_ n1 ?_
  | refine iff_ n2 ?_
  | refine iff_ n3 ?_
  | refine iff_ n4 ?_
  | refine iff_ n5 ?_
  | refine if_ (fun _=>?_) (fun _=>?_)
  | refine(isId_c _).call ?_
 all_goals exact frzi (by simp_all[wrongL,okEv,otherB,namedB,idB])
end Go.Proofs.YtpndfdfipkadkaaGreatDoor
set_option maxRecDepth 100000
namespace Go.Proofs.YtpndfdfipkadkaaGreatDoor
open Go Go.Wx Go.Ax
theorem strEq_iff{x y:ByteArray}:strEq x y=true↔x=y:=by
 unfold strEq
 rw[beq_iff_eq,ByteArray.toList_eq,ByteArray.toList_eq]
 constructor
 ·intro h
  cases x;cases y
  simp only at h
  congr 1
  exact Array.ext' h
 ·rintro rfl;rfl
theorem strEq_eq(x y:ByteArray):strEq x y=decide (x=y):=by
 rw[Bool.eq_iff_iff,strEq_iff];simp
theorem list_ne{α:Type}{a b:List α}{i:Nat}(hi:i<a.length)(hb:i<b.length)(h:a[i]≠b[i]):a≠b:=fun e=>by subst e;exact h rfl
theorem list_eq{α:Type}{a b:List α}(hl:a.length=b.length)(h:∀j,j<a.length→∀(h1:j<a.length) (h2:j<b.length),a[j]=b[j]):a=b:=List.ext_getElem hl fun j h1 h2=>h j h1 h1 h2
def pl39:Plan:=[(6,[.p 0,.p 1,.p 2,.l 3,.p 4,.p 5,.p 6,.l 7,.p 8])]
theorem sameInts_c(a b:List Int):Pur Pg 39 [rows ienc a,rows ienc b] (db (decide (a=b))):=by
 refine Pur_len 0 rfl fun hl=>fn Tryz.func39 [] pl39 (.cons (pd_rows pdI a) (.cons (pd_rows pdI b) .nil)) ?_
 rw[List.length_map]at hl
 refine if_ (fun h0=>?_) fun h0=>?_
 ·exact frzb (by simp at h0;rw[eq_comm,decide_eq_false_iff_not];exact fun e=>h0 (by rw[e]))
 have hlen:a.length=b.length:=by simp at h0;omega
 refine AW_idx a.length (fun i st=>(∀j,j<i→∀(h1:j<a.length) (h2:j<b.length),a[j]=b[j])∧Has [(0,rows ienc a),(1,rows ienc b),(5,di i)] [] st) ⟨fun j hj=>absurd hj (by omega),has ⟨rfl,rfl,rfl,trivial⟩ rfl⟩ ?_
 rintro i _ _ ⟨h3,e,rfl⟩
 refine go [] pl39 (if_ (fun hlt=>?_) (fun hlt=>?_))
 ·simp at hlt
  have hlb:i<b.length:=by omega
  refine row_at hlt (row_at hlb (if_ (fun h4=>?_) fun h4=>?_))
  ·exact frzb (by rw[eq_comm,decide_eq_false_iff_not];exact list_ne hlt hlb (by simpa using h4))
  ·refine⟨hlt,fun j hj h1 h2=>?_,has ⟨rfl,rfl,inc hlt hl,trivial⟩ rfl⟩
   rcases Nat.lt_or_eq_of_le (Nat.le_of_lt_succ hj)with h | rfl
   ·exact h3 j h h1 h2
   ·simpa using h4
 ·simp at hlt
  exact frzb (by rw[eq_comm,decide_eq_true_iff];exact list_eq hlen fun j hj=>h3 j (by omega))
def pl49:Plan:=[(6,[.p 0,.p 1,.p 2,.l 3,.p 4,.p 5,.p 6,.l 7,.p 8])]
theorem sameStrings_c(a b:List ByteArray):Pur Pg 49 [rows senc a,rows senc b] (db (decide (a=b))):=by
 refine Pur_len 0 rfl fun hl=>fn Tryz.func49 [] pl49 (.cons (pd_rows pdS a) (.cons (pd_rows pdS b) .nil)) ?_
 rw[List.length_map]at hl
 refine if_ (fun h0=>?_) fun h0=>?_
 ·exact frzb (by simp at h0;rw[eq_comm,decide_eq_false_iff_not];exact fun e=>h0 (by rw[e]))
 have hlen:a.length=b.length:=by simp at h0;omega
 refine AW_idx a.length (fun i st=>(∀j,j<i→∀(h1:j<a.length) (h2:j<b.length),a[j]=b[j])∧Has [(0,rows senc a),(1,rows senc b),(5,di i)] [] st) ⟨fun j hj=>absurd hj (by omega),has ⟨rfl,rfl,rfl,trivial⟩ rfl⟩ ?_
 rintro i _ _ ⟨h3,e,rfl⟩
 refine go [] pl49 (if_ (fun hlt=>?_) (fun hlt=>?_))
 ·simp at hlt
  have hlb:i<b.length:=by omega
  refine row_at hlt (row_at hlb (if_ (fun h4=>?_) fun h4=>?_))
  ·exact frzb (by rw[eq_comm,decide_eq_false_iff_not];exact list_ne hlt hlb (by rw[strEq_eq]at h4;simpa using h4))
  ·refine⟨hlt,fun j hj h1 h2=>?_,has ⟨rfl,rfl,inc hlt hl,trivial⟩ rfl⟩
   rcases Nat.lt_or_eq_of_le (Nat.le_of_lt_succ hj)with h | rfl
   ·exact h3 j h h1 h2
   ·rw[strEq_eq]at h4;simpa using h4
 ·simp at hlt
  exact frzb (by rw[eq_comm,decide_eq_true_iff];exact list_eq hlen fun j hj=>h3 j (by omega))
def foundedL(s:List Pl)(e:Ev):Int:=
 if e.kind==1&&(get s e.place).isSome then 6
 else if e.kind !=1&&(get s e.place).isNone then 5
 else if e.kind !=1&& !hereB s e.place then 22
 else if e.other !=0&&(get s e.other).isNone then 5
 else if e.other !=0&& !hereB s e.other then 22 else 0
theorem founded_c(s:List Pl)(e:Ev):Pur Pg 101 [rows Pl.enc s,.agg e.enc] (di (foundedL s e)):=by
 refine fn Tryz.func101 [] [] (.cons (pd_rows pdPl s) (.cons (.agg (pdEv e)) .nil)) ?_
 refine(at_c s e.place).call ?_
 refine(at_c s e.other).call ?_
 rcases get_idx (s:=s) (p:=e.place)with⟨g1,g2⟩ | ⟨i,g1,hi,g2⟩<;>rcases get_idx (s:=s) (p:=e.other)with⟨k1,k2⟩ | ⟨k,k1,hk,k2⟩<;>rw[g1,k1]
 all_goals repeat' first
  | refine if_ (fun _=>?_) (fun _=>?_)
  | refine row_at hi ?_
  | refine row_at hk ?_
 all_goals first
  | (exfalso;simp_all;done)
  | exact frzi (by simp_all[foundedL,hereB])
end Go.Proofs.YtpndfdfipkadkaaGreatDoor
