/- The law holds: part 337. Conditions: none. -/
import Derived.Test.YtpndfdfipkadkaaGreatDoorKU3
import Derived.Lib.LaidTab
import Derived.Lib.ItoaNum
import Derived.Test.YtpndfdfipkadkaaGreatDoorProg
set_option linter.all false
set_option maxRecDepth 100000
namespace Go.Proofs.YtpndfdfipkadkaaGreatDoor
open Go Go.Wx Go.Ax
noncomputable abbrev Pg:Program:=Tryz.prog
def glOk(w:World):Prop:=Lib.TabIs Pg w "internal/strconv.uint64pow10" .u64 Lib.pow10Tab∧(∃t p,w.var? Pg "strconv.ErrSyntax" =some #[.iface t p])∧∃t p,w.var? Pg "strconv.ErrRange" =some #[.iface t p]
theorem var_cong{name:String}{g:Nat}(hg:Pg.globalNamed name=some g){w w':World}(h:w'.heap[g]? =w.heap[g]?):w'.var? Pg name=w.var? Pg name:=by
 unfold World.var?
 rw[hg]
 simp only[Option.bind_some,h]
instance : Globs where
 ok:=glOk
 blk:=[1,2,3]
 cong h hk:=by
  unfold glOk Lib.TabIs at h ⊢
  rw[var_cong (name:= "internal/strconv.uint64pow10") (g:=3) (by kernel_rfl) (hk 3 (by simp)),var_cong (name:= "strconv.ErrSyntax") (g:=1) (by kernel_rfl) (hk 1 (by simp)),var_cong (name:= "strconv.ErrRange") (g:=2) (by kernel_rfl) (hk 2 (by simp))]
  exact h
theorem frzb{H:Heap}{b b':Bool}(h:b=b'):Frz H (.v (.bool b)) (db b'):=by subst h;exact .pd (.v _)
theorem frzi{H:Heap}{b b':Int}(h:b=b'):Frz H (.v (.int .i64 b)) (di b'):=by subst h;exact .pd (.v _)
theorem frzs{H:Heap}{b b':ByteArray}(h:b=b'):Frz H (.v (.string b)) (ds' b'):=by subst h;exact .pd (.v _)
theorem fn {f : FuncId} {fn : Func} {c : Code} {args : List D} {n : Nat} {res : D} (hf : Pg.funcs[f]? = some fn) (hp : List Nat) (pl : Plan) (hpd : PdL args)
    (h : dcode Pg n (fun _ => true) 0 hp pl c (dret Pg fn.results.toList (fun d H' _ => Frz H' d res) []) (dargs args) []) (hb : fn.body = some c := by rfl) (hn : fn.ntmps = n := by rfl) (hle : Nat.ble args.length n = true := by rfl)
    (hpl : plansOk pl c = true := by kernel_rfl) (hcb : callB Pg f = true := by kernel_rfl) : Pur Pg f args res :=
  Pur_of hpd (AC_fn hf hb hn hle [] (fun _ => true) (fun b h => nomatch h) (go hp pl h (by kernel_rfl) hpl) hcb)
theorem take_succ{α:Type}{s:List α}{i:Nat}(h:i<s.length){p:α→Prop}(h1:∀x∈s.take i,p x)(h2:p s[i]):∀x∈s.take (i+1),p x:=by
 intro x hx
 rw[List.take_succ_eq_append_getElem h]at hx
 rcases List.mem_append.1 hx with hx | hx
 ·exact h1 x hx
 ·simp at hx;rw[hx];exact h2
theorem sidx{s:ByteArray}{i:Nat}(h:i<s.size):(nonneg (i:Int)&&Nat.blt ((i:Int)).toNat s.size)=true:=by simp[nonneg_iff.2 (Int.natCast_nonneg i),Nat.blt_eq,h]
theorem all_range{p:Nat→Bool}{n:Nat}:(List.range n).all p=true↔∀j,j<n→p j=true:=by simp[List.all_eq_true]
theorem all_range_f{p:Nat→Bool}{n j:Nat}(hj:j<n)(h:p j=false):(List.range n).all p=false:=by
 rw[Bool.eq_false_iff];intro hh;rw[all_range.1 hh j hj]at h;cases h
theorem lt_succ_all{p:Nat→Prop}{i:Nat}(h:∀j,j<i→p j)(hi:p i):∀j,j<i+1→p j:=fun j hj=>by
 rcases Nat.lt_or_eq_of_le (Nat.le_of_lt_succ hj)with h' | rfl
 ·exact h j h'
 ·exact hi
end Go.Proofs.YtpndfdfipkadkaaGreatDoor
set_option maxRecDepth 100000
namespace Go.Proofs.YtpndfdfipkadkaaGreatDoor
open Go Go.Wx Go.Ax
def letB(c:Int):Bool:=decide (c≥97)&&decide (c≤122)||(decide (c≥48)&&decide (c≤57))||c==32||c==45
theorem isLetter_c(c:Int):Pur Pg 87 [du c] (db (letB c)):=by
 refine fn Tryz.func87 [] [] (.one (.v _)) ?_
 repeat' refine if_ (fun _=>?_) (fun _=>?_)
 all_goals (refine frzb ?_;simp_all[letB]<;>omega)
def letS(s:ByteArray):Bool:=(List.range s.size).all fun j=>letB (byteAt s j)
def nameB(s:ByteArray):Bool:=decide ((s.size:Int)≥1)&&(decide ((s.size:Int)≤24)&&(letS s&&(((byteAt s 0:Nat):Int) !=32&&((byteAt s (s.size-1):Nat):Int) !=32)))
theorem letters_c(s:ByteArray)(hs:s.size≤maxLen):Pur Pg 191 [ds' s] (db (letS s)):=by
 refine fn Tryz.func191 [] [] (.one (.v _)) ?_
 refine AW_idx s.size (fun i st=>(∀j,j<i→letB (byteAt s j)=true)∧Has [(0,ds' s),(5,di s.size),(6,di i)] [] st) ⟨by simp,has ⟨rfl,rfl,rfl,trivial⟩ rfl⟩ ?_
 rintro i _ _ ⟨h3,e,rfl⟩
 refine go [] [] (if_ (fun hlt=>?_) (fun hlt=>?_))
 ·simp at hlt
  refine ck (sidx hlt) ?_
  refine(isLetter_c _).call ?_
  refine if_ (fun he=>?_) (fun he=>?_)
  ·exact frzb (all_range_f hlt (by simpa using he)).symm
  ·exact⟨hlt,lt_succ_all h3 (by simpa using he),has ⟨rfl,rfl,inc hlt hs,trivial⟩ rfl⟩
 ·simp at hlt
  exact frzb (all_range.2 fun j hj=>h3 j (by omega)).symm
theorem isName_c(s:ByteArray):Pur Pg 141 [ds' s] (db (nameB s)):=by
 refine fn Tryz.func141 [] [] (.one (.v _)) ?_
 refine if_ (fun h1=>?_) (fun h1=>?_)
 ·refine if_ (fun h2=>?_) (fun h2=>?_)
  ·refine(letters_c s ?_).call ?_
   ·simp at h2;simp only[maxLen];omega
   refine if_ (fun h3=>?_) (fun h3=>?_)
   ·refine ck (sidx (i:=0) (by simp at h1;omega)) ?_
    refine if_ (fun h4=>?_) (fun h4=>?_)
    ·have hw:IntKind.wrap .i64 ((s.size:Int)-1)=((s.size-1:Nat):Int):=by
      simp at h1 h2
      rw[wrap_id (by omega) (by omega)];omega
     refine ck (by rw[hw];exact sidx (by simp at h1;omega)) (frzb ?_)
     rw[hw]
     simp_all[nameB]
    ·exact frzb (by simp_all[nameB]<;>omega)
   ·exact frzb (by simp_all[nameB])
  ·exact frzb (by simp_all[nameB]<;>omega)
 ·exact frzb (by simp_all[nameB]<;>omega)
theorem isId_c(n:Int):Pur Pg 140 [di n] (db (decide (n≥1)&&decide (n≤1000000))):=by
 refine fn Tryz.func140 [] [] (.one (.v _)) ?_
 refine if_ (fun _=>?_) (fun _=>?_)<;>exact frzb (by simp_all<;>omega)
end Go.Proofs.YtpndfdfipkadkaaGreatDoor
