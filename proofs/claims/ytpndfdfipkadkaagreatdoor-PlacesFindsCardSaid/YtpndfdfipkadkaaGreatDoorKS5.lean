/- The law holds: part 215. Conditions: none. -/
import Derived.Test.YtpndfdfipkadkaaGreatDoorKS3
import Derived.Lib.LaidTab
import Derived.Lib.ItoaNum
import Derived.Test.YtpndfdfipkadkaaGreatDoorProg
set_option linter.all false
set_option maxRecDepth 100000
namespace Go.Proofs.YtpndfdfipkadkaaGreatDoor
open Go Go.Wx Go.Ax
noncomputable abbrev Pg:Program:=Tryz.prog
def glOk(w:World):Prop:=Lib.TabIs Pg w "internal/strconv.uint64pow10" .u64 Lib.pow10Tab∧(∃t p,w.var? Pg "strconv.ErrSyntax" =some #[.iface t p])∧∃t p,w.var? Pg "strconv.ErrRange" =some #[.iface t p]
theorem var_cong{name:String}{g:Nat}(hg:Pg.globalNamed name=some g){w w':World}(h:w'.heap[g]? =w.heap[g]?):w'.var? Pg name=w.var? Pg name:=by
 unfold World.var?
 rw[hg]
 simp only[Option.bind_some,h]
instance : Globs where
 ok:=glOk
 blk:=[1,2,3]
 cong h hk:=by
  unfold glOk Lib.TabIs at h ⊢
  rw[var_cong (name:= "internal/strconv.uint64pow10") (g:=3) (by kernel_rfl) (hk 3 (by simp)),var_cong (name:= "strconv.ErrSyntax") (g:=1) (by kernel_rfl) (hk 1 (by simp)),var_cong (name:= "strconv.ErrRange") (g:=2) (by kernel_rfl) (hk 2 (by simp))]
  exact h
theorem frzb{H:Heap}{b b':Bool}(h:b=b'):Frz H (.v (.bool b)) (db b'):=by subst h;exact .pd (.v _)
theorem frzi{H:Heap}{b b':Int}(h:b=b'):Frz H (.v (.int .i64 b)) (di b'):=by subst h;exact .pd (.v _)
theorem frzs{H:Heap}{b b':ByteArray}(h:b=b'):Frz H (.v (.string b)) (ds' b'):=by subst h;exact .pd (.v _)
theorem fn {f : FuncId} {fn : Func} {c : Code} {args : List D} {n : Nat} {res : D} (hf : Pg.funcs[f]? = some fn) (hp : List Nat) (pl : Plan) (hpd : PdL args)
    (h : dcode Pg n (fun _ => true) 0 hp pl c (dret Pg fn.results.toList (fun d H' _ => Frz H' d res) []) (dargs args) []) (hb : fn.body = some c := by rfl) (hn : fn.ntmps = n := by rfl) (hle : Nat.ble args.length n = true := by rfl)
    (hpl : plansOk pl c = true := by kernel_rfl) (hcb : callB Pg f = true := by kernel_rfl) : Pur Pg f args res :=
  Pur_of hpd (AC_fn hf hb hn hle [] (fun _ => true) (fun b h => nomatch h) (go hp pl h (by kernel_rfl) hpl) hcb)
theorem take_succ{α:Type}{s:List α}{i:Nat}(h:i<s.length){p:α→Prop}(h1:∀x∈s.take i,p x)(h2:p s[i]):∀x∈s.take (i+1),p x:=by
 intro x hx
 rw[List.take_succ_eq_append_getElem h]at hx
 rcases List.mem_append.1 hx with hx | hx
 ·exact h1 x hx
 ·simp at hx;rw[hx];exact h2
theorem sidx{s:ByteArray}{i:Nat}(h:i<s.size):(nonneg (i:Int)&&Nat.blt ((i:Int)).toNat s.size)=true:=by simp[nonneg_iff.2 (Int.natCast_nonneg i),Nat.blt_eq,h]
theorem all_range{p:Nat→Bool}{n:Nat}:(List.range n).all p=true↔∀j,j<n→p j=true:=by simp[List.all_eq_true]
theorem all_range_f{p:Nat→Bool}{n j:Nat}(hj:j<n)(h:p j=false):(List.range n).all p=false:=by
 rw[Bool.eq_false_iff];intro hh;rw[all_range.1 hh j hj]at h;cases h
theorem lt_succ_all{p:Nat→Prop}{i:Nat}(h:∀j,j<i→p j)(hi:p i):∀j,j<i+1→p j:=fun j hj=>by
 rcases Nat.lt_or_eq_of_le (Nat.le_of_lt_succ hj)with h' | rfl
 ·exact h j h'
 ·exact hi
end Go.Proofs.YtpndfdfipkadkaaGreatDoor
set_option maxRecDepth 100000
namespace Go.Proofs.YtpndfdfipkadkaaGreatDoor
open Go Go.Wx Go.Ax
def letB(c:Int):Bool:=decide (c≥97)&&decide (c≤122)||(decide (c≥48)&&decide (c≤57))||c==32||c==45
theorem isLetter_c(c:Int):Pur Pg 87 [du c] (db (letB c)):=by
 refine fn Tryz.func87 [] [] (.one (.v _)) ?_
 repeat' refine if_ (fun _=>?_) (fun _=>?_)
 all_goals (refine frzb ?_;simp_all[letB]<;>omega)
def letS(s:ByteArray):Bool:=(List.range s.size).all fun j=>letB (byteAt s j)
def nameB(s:ByteArray):Bool:=decide ((s.size:Int)≥1)&&(decide ((s.size:Int)≤24)&&(letS s&&(((byteAt s 0:Nat):Int) !=32&&((byteAt s (s.size-1):Nat):Int) !=32)))
theorem letters_c(s:ByteArray)(hs:s.size≤maxLen):Pur Pg 191 [ds' s] (db (letS s)):=by
 refine fn Tryz.func191 [] [] (.one (.v _)) ?_
 refine AW_idx s.size (fun i st=>(∀j,j<i→letB (byteAt s j)=true)∧Has [(0,ds' s),(5,di s.size),(6,di i)] [] st) ⟨by simp,has ⟨rfl,rfl,rfl,trivial⟩ rfl⟩ ?_
 rintro i _ _ ⟨h3,e,rfl⟩
 refine go [] [] (if_ (fun hlt=>?_) (fun hlt=>?_))
 ·simp at hlt
  refine ck (sidx hlt) ?_
  refine(isLetter_c _).call ?_
  refine if_ (fun he=>?_) (fun he=>?_)
  ·exact frzb (all_range_f hlt (by simpa using he)).symm
  ·exact⟨hlt,lt_succ_all h3 (by simpa using he),has ⟨rfl,rfl,inc hlt hs,trivial⟩ rfl⟩
 ·simp at hlt
  exact frzb (all_range.2 fun j hj=>h3 j (by omega)).symm
theorem isName_c(s:ByteArray):Pur Pg 141 [ds' s] (db (nameB s)):=by
 refine fn Tryz.func141 [] [] (.one (.v _)) ?_
 refine if_ (fun h1=>?_) (fun h1=>?_)
 ·refine if_ (fun h2=>?_) (fun h2=>?_)
  ·refine(letters_c s ?_).call ?_
   ·simp at h2;simp only[maxLen];omega
   refine if_ (fun h3=>?_) (fun h3=>?_)
   ·refine ck (sidx (i:=0) (by simp at h1;omega)) ?_
    refine if_ (fun h4=>?_) (fun h4=>?_)
    ·have hw:IntKind.wrap .i64 ((s.size:Int)-1)=((s.size-1:Nat):Int):=by
      simp at h1 h2
      rw[wrap_id (by omega) (by omega)];omega
     refine ck (by rw[hw];exact sidx (by simp at h1;omega)) (frzb ?_)
     rw[hw]
     simp_all[nameB]
    ·exact frzb (by simp_all[nameB]<;>omega)
   ·exact frzb (by simp_all[nameB])
  ·exact frzb (by simp_all[nameB]<;>omega)
 ·exact frzb (by simp_all[nameB]<;>omega)
theorem isId_c(n:Int):Pur Pg 140 [di n] (db (decide (n≥1)&&decide (n≤1000000))):=by
 refine fn Tryz.func140 [] [] (.one (.v _)) ?_
 refine if_ (fun _=>?_) (fun _=>?_)<;>exact frzb (by simp_all<;>omega)
theorem id_c(n:Int):Pur Pg 146 [di n] (db (decide (n≥1)&&decide (n≤1000000))):=by
 refine fn Tryz.func146 [] [] (.one (.v _)) ?_
 refine if_ (fun _=>?_) (fun _=>?_)<;>exact frzb (by simp_all<;>omega)
def alphB:ByteArray:=⟨#[32,45,48,49,50,51,52,53,54,55,56,57,97,98,99,100,101,102,103,104,105,106,107,108,109,110,111,112,113,114,115,116,117,118,119,120,121,122]⟩
theorem alph_in:∀j,j<38→letB (byteAt alphB j)=true:=by decide+kernel
theorem alph_out{c:Int}(h:∀j,j<38→((byteAt alphB j:Int)==c)=false):letB c=false:=by
 have h1:∀v:Nat,v<123→letB (v:Int)=true→∃j,j<38∧byteAt alphB j=v:=by decide+kernel
 cases hc:letB c with
 | false=>rfl
 | true=>
  have hr:0≤c∧c<123:=by
   simp[letB]at hc
   omega
  obtain⟨j,hj,he⟩:=h1 c.toNat (by omega) (by rw[Int.toNat_of_nonneg hr.1];exact hc)
  have:=h j hj
  rw[he,Int.toNat_of_nonneg hr.1]at this
  simp at this
theorem place_c(c:Int):∃r:Int,(decide (r≥0)=letB c)∧Pur Pg 183 [du c] (di r):=by
 by_cases hex:∃i:Nat,i<38∧((byteAt alphB i:Int)==c)=true∧∀j,j<i→((byteAt alphB j:Int)==c)=false
 ·obtain⟨i0,h0,h1,h2⟩:=hex
  refine⟨i0,by rw[←of_decide_eq_true (p:=(byteAt alphB i0:Int)=c) h1,alph_in i0 h0];simp,?_⟩
  refine fn Tryz.func183 [] [] (.one (.v _)) ?_
  refine AW_idx 38 (fun i st=>i≤i0∧Has [(0,du c),(3,di i)] [] st) ⟨by omega,has ⟨rfl,rfl,trivial⟩ rfl⟩ ?_
  rintro i _ _ ⟨h3,e,rfl⟩
  refine go [] [] (if_ (fun hlt=>?_) (fun hlt=>?_))
  ·have hlt:i<38:=by simp at hlt;omega
   refine ck (sidx (s:=alphB) (show i<38 by omega)) (if_ (fun he=>?_) (fun he=>?_))
   ·refine frzi ?_
    rcases Nat.lt_or_eq_of_le h3 with h | h
    ·have:((byteAt alphB i:Int)==c)=true:=he
     rw[h2 i h]at this;cases this
    ·rw[h]
   ·refine⟨hlt,?_,has ⟨rfl,inc hlt (N:=38) (by simp only[maxLen];omega),trivial⟩ rfl⟩
    rcases Nat.lt_or_eq_of_le h3 with h | h
    ·omega
    ·have:((byteAt alphB i:Int)==c)=false:=he
     rw[h,h1]at this;cases this
  ·simp at hlt;omega
 ·have hall:∀j,j<38→((byteAt alphB j:Int)==c)=false:=by
   intro j
   induction j using Nat.strongRecOn with
   | _ j ih=>
    intro hj
    cases hb:((byteAt alphB j:Int)==c)with
    | false=>rfl
    | true=>exact absurd ⟨j,hj,hb,fun k hk=>ih k hk (by omega)⟩ hex
  refine⟨-1,by rw[alph_out hall];rfl,?_⟩
  refine fn Tryz.func183 [] [] (.one (.v _)) ?_
  refine AW_idx 38 (fun i st=>Has [(0,du c),(3,di i)] [] st) (has ⟨rfl,rfl,trivial⟩ rfl) ?_
  rintro i _ _ ⟨e,rfl⟩
  refine go [] [] (if_ (fun hlt=>?_) (fun hlt=>?_))
  ·have hlt:i<38:=by simp at hlt;omega
   refine ck (sidx (s:=alphB) (show i<38 by omega)) (if_ (fun he=>?_) (fun he=>?_))
   ·have:((byteAt alphB i:Int)==c)=true:=he
    rw[hall i hlt]at this;cases this
   ·exact⟨hlt,has ⟨rfl,inc hlt (N:=38) (by simp only[maxLen];omega),trivial⟩ rfl⟩
  ·exact frzi rfl
theorem refLetter_c(c:Int):Pur Pg 159 [du c] (db (letB c)):=by
 obtain⟨r,h1,h2⟩:=place_c c
 refine fn Tryz.func159 [] [] (.one (.v _)) ?_
 refine h2.call ?_
 exact frzb h1
theorem lettered_c(s:ByteArray)(hs:s.size≤maxLen):Pur Pg 195 [ds' s] (db (letS s)):=by
 refine fn Tryz.func195 [] [] (.one (.v _)) ?_
 refine AW_idx s.size (fun i st=>(∀j,j<i→letB (byteAt s j)=true)∧Has [(0,ds' s),(3,di i)] [] st) ⟨by simp,has ⟨rfl,rfl,trivial⟩ rfl⟩ ?_
 rintro i _ _ ⟨h3,e,rfl⟩
 refine go [] [] (if_ (fun hlt=>?_) (fun hlt=>?_))
 ·simp at hlt
  refine ck (sidx hlt) ?_
  obtain⟨r,h1,h2⟩:=place_c (byteAt s i)
  refine h2.call ?_
  refine if_ (fun he=>?_) (fun he=>?_)
  ·exact frzb (all_range_f hlt (by rw[←h1];simp at he ⊢;omega)).symm
  ·exact⟨hlt,lt_succ_all h3 (by rw[←h1];simp at he ⊢;omega),has ⟨rfl,inc hlt hs,trivial⟩ rfl⟩
 ·simp at hlt
  exact frzb (all_range.2 fun j hj=>h3 j (by omega)).symm
theorem refName_c(s:ByteArray)(hs:s.size≤maxLen):Pur Pg 147 [ds' s] (db (nameB s)):=by
 refine fn Tryz.func147 [] [] (.one (.v _)) ?_
 refine(lettered_c s hs).call ?_
 refine if_ (fun h3=>?_) (fun h3=>?_)
 ·refine if_ (fun h1=>?_) (fun h1=>?_)
  ·refine if_ (fun h2=>?_) (fun h2=>?_)
   ·refine ck (sidx (i:=0) (by simp at h1;omega)) ?_
    refine if_ (fun h4=>?_) (fun h4=>?_)
    ·have hw:IntKind.wrap .i64 ((s.size:Int)-1)=((s.size-1:Nat):Int):=by
      simp at h1 h2
      rw[wrap_id (by omega) (by omega)];omega
     refine ck (by rw[hw];exact sidx (by simp at h1;omega)) (frzb ?_)
     rw[hw]
     simp_all[nameB]
    ·exact frzb (by simp_all[nameB]<;>omega)
   ·exact frzb (by simp_all[nameB]<;>omega)
  ·exact frzb (by simp_all[nameB]<;>omega)
 ·exact frzb (by simp_all[nameB]<;>omega)
end Go.Proofs.YtpndfdfipkadkaaGreatDoor
