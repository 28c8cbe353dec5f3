/- The law holds: part 338. Conditions: none. -/
import Derived.Test.YtpndfdfipkadkaaGreatDoorKU5
set_option linter.all false
set_option maxRecDepth 100000
namespace Go.Proofs.YtpndfdfipkadkaaGreatDoor
open Go Go.Wx Go.Ax
structure Spell where
 frm:ByteArray
 to:ByteArray
 cost:Int
def Spell.enc(x:Spell):List D:=[ds' x.frm,ds' x.to,di x.cost]
theorem pdSpell:∀u:Spell,PdL u.enc:=fun _=> .cons (.v _) (.cons (.v _) (.cons (.v _) .nil))
def Spell.ok(x:Spell):Prop:=x.frm.size≤maxLen∧x.to.size≤maxLen
def firstN(f:Nat→Int)(n:Nat):Int:=(((List.range n).map f).find? (· !=0)).getD 0
theorem firstN_none{f:Nat→Int}{n:Nat}(h:∀j,j<n→f j=0):firstN f n=0:=by
 unfold firstN
 rw[List.find?_eq_none.2 (fun x hx=>by
  obtain⟨j,hj,rfl⟩:=List.mem_map.1 hx
  simp[h j (List.mem_range.1 hj)])]
 rfl
theorem firstN_hit{f:Nat→Int}{n i:Nat}{r:Int}(hi:i<n)(hb:∀j,j<i→f j=0)(hr:f i=r)(h0:r≠0):firstN f n=r:=by
 unfold firstN
 have hsplit:(List.range n).map f=(List.range i).map f++(f i::(List.range' (i+1) (n-i-1)).map f):=by
  have h1:List.range n=List.range i++(i::List.range' (i+1) (n-i-1)):=by
   rw[List.range_eq_range',List.range_eq_range',show n=i+((n-i-1)+1) by omega,←List.range'_append_1,Nat.zero_add,List.range'_succ]
   congr 3<;>omega
  rw[h1];simp
 rw[hsplit,List.find?_append,List.find?_eq_none.2 (fun x hx=>by
  obtain⟨j,hj,rfl⟩:=List.mem_map.1 hx
  simp[hb j (List.mem_range.1 hj)])]
 rw[List.find?_cons_of_pos (by simp[hr,h0])]
 simp[hr]
def sideB(s:ByteArray):Bool:=decide ((s.size:Int)≥1)&&(decide ((s.size:Int)≤3)&&letS s)
theorem lettered1_c(s:ByteArray)(hs:s.size≤maxLen):Pur Pg 86 [ds' s] (db (sideB s)):=by
 refine fn Tryz.func86 [] [] (.one (.v _)) ?_
 refine AW_idx s.size (fun i st=>(∀j,j<i→letB (byteAt s j)=true)∧Has [(0,ds' s),(5,di s.size),(6,di i)] [] st) ⟨by simp,has ⟨rfl,rfl,rfl,trivial⟩ rfl⟩ ?_
 rintro i _ _ ⟨h3,e,rfl⟩
 refine go [] [] (if_ (fun hlt=>?_) (fun hlt=>?_))
 ·simp at hlt
  refine ck (sidx hlt) ?_
  refine(isLetter_c _).call ?_
  refine if_ (fun he=>?_) (fun he=>?_)
  ·exact frzb (by rw[sideB,show letS s=false from all_range_f hlt (by simpa using he)];simp)
  ·exact⟨hlt,lt_succ_all h3 (by simpa using he),has ⟨rfl,rfl,inc hlt hs,trivial⟩ rfl⟩
 ·simp at hlt
  have hl:letS s=true:=all_range.2 fun j hj=>h3 j (by omega)
  refine if_ (fun h1=>?_) (fun h1=>?_)
  ·exact frzb (by simp_all[sideB])
  ·exact frzb (by simp_all[sideB]<;>omega)
def sameS(x y:Spell):Bool:=strEq x.frm y.frm&&strEq x.to y.to
def chkAt(l:List Spell)(i:Nat):Int:=match l[i]? with
 | none=>0
 | some x=>if !sideB x.frm|| !sideB x.to then 4 else if strEq x.frm x.to||(decide (x.cost<0)||decide (x.cost>1000))then 1 else if(l.take i).any (sameS · x)then 6 else 0
def chkS(l:List Spell):Int:=if l.length>24 then 2 else firstN (chkAt l) l.length
def idx{α:Type}(p:α→Bool)(s:List α):Int:=match s.findIdx? p with | some i=>i | none=> -1
theorem idx_none{α:Type}{p:α→Bool}{s:List α}(h:∀x∈s,p x=false):idx p s= -1:=by
 unfold idx;rw[List.findIdx?_eq_none_iff.2 h]
theorem idx_hit{α:Type}{p:α→Bool}{s:List α}{i:Nat}(hi:i<s.length)(h:p s[i]=true)(hb:∀x∈s.take i,p x=false):idx p s=i:=by
 unfold idx
 rw[List.findIdx?_eq_some_iff_getElem.2 ⟨hi,h,fun j hj=>by
  have:=hb (s[j]'(by omega)) (by rw[List.mem_take_iff_getElem];exact⟨j,by omega,rfl⟩)
  simp[this]⟩]
theorem idx_any{α:Type}{p:α→Bool}{s:List α}:decide (idx p s≥0)=s.any p:=by
 unfold idx
 cases h:s.findIdx? p with
 | none=>
  rw[List.findIdx?_eq_none_iff]at h
  have:s.any p=false:=List.any_eq_false.2 fun x hx=>by simp[h x hx]
  rw[this];rfl
 | some i=>
  rw[List.findIdx?_eq_some_iff_getElem]at h
  obtain⟨hi,h1,_⟩:=h
  have:s.any p=true:=List.any_eq_true.2 ⟨s[i],List.getElem_mem hi,h1⟩
  rw[this];simp
theorem fnE {f : FuncId} {fn : Func} {c : Code} {args : List D} {n : Nat} {res : D} {H : Heap} (hf : Pg.funcs[f]? = some fn) (hp : List Nat) (pl : Plan)
    (h : dcode Pg n (fun _ => false) H.length hp pl c (dret Pg fn.results.toList (fun d H' ms => d = res ∧ H' = H ∧ ms = []) []) (dargs args) H) (hb : fn.body = some c := by rfl) (hn : fn.ntmps = n := by rfl) (hle : Nat.ble args.length n = true := by rfl)
    (hpl : plansOk pl c = true := by kernel_rfl) (hcb : callB Pg f = true := by kernel_rfl) : Ex Pg f args H res :=
  AC_fn hf hb hn hle [] (fun _ => false) (fun b _ h => nomatch h) (go hp pl h (by kernel_rfl) hpl) hcb
theorem idxSpell_c(l:List Spell)(f:FuncId)(caps:List D)(p:Spell→Bool)(H:Heap)(hl:l.length≤maxLen)(hc:∀x,x∈l→Ex Pg f (.agg x.enc::caps) H (db (p x))):Ex Pg 158 [rows Spell.enc l,.clo f caps] H (di (idx p l)):=by
 refine fnE Tryz.func158 [] [] ?_
 refine AW_idx l.length (fun i st=>(∀x∈l.take i,p x=false)∧Has [(0,rows Spell.enc l),(1,.clo f caps),(7,di l.length),(8,di i)] H st) ⟨by simp,has ⟨rfl,rfl,by simp[dset,rows,di];rfl,rfl,trivial⟩ rfl⟩ ?_
 rintro i _ _ ⟨h3,e,rfl⟩
 refine go [] [] (if_ (fun hlt=>?_) (fun hlt=>?_))
 ·simp at hlt
  refine row_at hlt ?_
  refine(hc _ (List.getElem_mem hlt)).call ?_
  refine if_ (fun he=>⟨?_,rfl,rfl⟩) fun he=>⟨hlt,take_succ hlt h3 he,has ⟨rfl,rfl,rfl,inc hlt hl,trivial⟩ rfl⟩
  rw[idx_hit hlt he h3];rfl
 ·simp at hlt
  refine⟨?_,rfl,rfl⟩
  rw[idx_none (List.take_of_length_le hlt▸h3)];rfl
theorem containsSpell_c(l:List Spell)(f:FuncId)(caps:List D)(p:Spell→Bool)(H:Heap)(hl:l.length≤maxLen)(hc:∀x,x∈l→Ex Pg f (.agg x.enc::caps) H (db (p x))):Ex Pg 88 [rows Spell.enc l,.clo f caps] H (db (l.any p)):=by
 refine fnE Tryz.func88 [] [] ?_
 refine(idxSpell_c l f caps p H hl hc).call ?_
 exact⟨by rw[←idx_any];rfl,rfl,rfl⟩
theorem same_c(x y:Spell):Ex Pg 89 [.agg y.enc,.ptr 0 0 0 1] [.arr 113 3 [x.enc]] (db (sameS y x)):=by
 refine Ex_of (.v _) (by simp[BlO];exact fun d hd=> .pd (pdSpell x d hd)) ?_
 refine AC_fn Tryz.func89 rfl rfl rfl [] (fun b=>Nat.ble 1 b) (fun b h1 h2=>?_) (go [] [] ?_)
 ·simp at h1;subst h1;cases h2
 refine if_ (fun h1=>?_) fun h1=>?_
 all_goals exact⟨eqb (by simp[sameS,h1]),⟨_,rfl⟩,rfl⟩
theorem chk_c(l:List Spell)(hs:∀x∈l,x.ok):Pur Pg 22 [rows Spell.enc l] (di (chkS l)):=by
 refine Pur_len 0 rfl fun hl=>fn Tryz.func22 [] [] (.one (pd_rows pdSpell l)) ?_
 rw[List.length_map]at hl
 refine if_ (fun h0=>?_) (fun h0=>?_)
 ·simp at h0
  exact frzi (by rw[chkS,if_pos (by omega)])
 simp at h0
 refine AW_idx l.length (fun i st=>(∀j,j<i→chkAt l j=0)∧HasG [(0,rows Spell.enc l),(3,.v (.func (.func 86) ⟨[]⟩ ⟨[]⟩)),(9,rows Spell.enc l),(10,di l.length),(11,di i)] [] st) ⟨by simp,hasG0 ⟨rfl,rfl,rfl,by simp[dset,rows,di];rfl,rfl,trivial⟩⟩ ?_
 rintro i _ _ ⟨h3,e,G,rfl⟩
 refine AW_drop (BlL.cons (.pd (pd_rows pdSpell l)) (.v (.cons (.pd (pd_rows pdSpell l)) (.v (.v .nil))))) (fun _ h=>nomatch h) (Nat.zero_le _) fun e=>?_
 refine go [] [] (if_ (fun hlt=>?_) (fun hlt=>?_))
 ·simp at hlt
  have hx:l[i]? =some l[i]:=List.getElem?_eq_getElem hlt
  have hbad:∀r,chkAt l i=r→r≠0→∀H,Frz H (.v (.int .i64 r)) (di (chkS l)):=fun r h1 h2 H=>frzi (by rw[chkS,if_neg (by omega),firstN_hit hlt h3 h1 h2])
  refine row_at hlt ?_
  have hm:=hs _ (List.getElem_mem hlt)
  refine(lettered1_c _ hm.1).call ?_
  refine if_ (fun h1=>?_) (fun h1=>?_)
  ·exact hbad 4 (by simp_all[chkAt]) (by decide) _
  refine(lettered1_c _ hm.2).call ?_
  refine if_ (fun h2=>?_) (fun h2=>?_)
  ·exact hbad 4 (by simp_all[chkAt]) (by decide) _
  refine if_ (fun h4=>?_) fun h4=>if_ (fun h5=>?_) fun h5=>if_ (fun h6=>?_) fun h6=>?_
  ·exact hbad 1 (by simp_all[chkAt]) (by decide) _
  ·exact hbad 1 (by simp_all[chkAt]) (by decide) _
  ·exact hbad 1 (by simp_all[chkAt]) (by decide) _
  refine ck (and_t (upto (by simp;omega)) (enc_all fun _=>rfl)) ?_
  refine AC.via (Ex.call (containsSpell_c (l.take i) 89 [.ptr 0 0 0 1] (sameS · l[i]) [.arr 113 3 [l[i].enc]] (by rw[List.length_take];omega) fun x _=>same_c _ _) ?_) (congrArg (fun xs=>[D.row false xs,.clo 89 [.ptr 0 0 0 1]]) List.map_take.symm)
  refine if_ (fun h7=>?_) fun h7=>?_
  ·exact hbad 6 (by simp only[chkAt,hx,h7];simp_all) (by decide) _
  ·exact⟨hlt,fun j hj=>by
    rcases Nat.lt_or_eq_of_le (Nat.le_of_lt_succ hj)with h' | rfl
    ·exact h3 j h'
    ·simp only[chkAt,hx,h7];simp_all,hasG ⟨rfl,rfl,rfl,rfl,inc hlt hl,trivial⟩ rfl⟩
 ·simp at hlt
  exact frzi (by rw[chkS,if_neg (by omega),firstN_none fun j hj=>h3 j (by omega)])
end Go.Proofs.YtpndfdfipkadkaaGreatDoor
