/- The law holds: part 357. Conditions: none. -/
import Derived.Test.YtpndfdfipkadkaaGreatDoorKU19
import Derived.Test.YtpndfdfipkadkaaGreatDoorKU20
import Derived.Test.YtpndfdfipkadkaaGreatDoorKU24
set_option linter.all false
set_option maxRecDepth 100000
namespace Go.Proofs.YtpndfdfipkadkaaGreatDoor
open Go Go.Wx Go.Ax Go.Sort
theorem swo_asym{α:Type}{lt:α→α→Bool}(hS:SWO lt){x y:α}(h:lt x y=true):lt y x=false:=by
 cases h2:lt y x with
 | false=>rfl
 | true=>
  have:=hS.trans _ _ _ h h2
  rw[hS.irrefl]at this;cases this
section
variable {α : Type} (lt : α → α → Bool)
def isortIn(x:α):List α→List α
 |[]=>[x]
 | y::ys=>if lt x y then x::y::ys else y::isortIn x ys
def isort:List α→List α
 |[]=>[]
 | x::xs=>isortIn lt x (isort xs)
variable {lt}
theorem isortIn_perm(x:α):∀l,(isortIn lt x l).Perm (x::l)
 |[]=> .refl _
 | y::ys=>by
  unfold isortIn
  split
  ·exact .refl _
  ·exact((isortIn_perm x ys).cons y).trans (.swap x y ys)
theorem isort_perm:∀l,(isort lt l).Perm l
 |[]=> .refl _
 | x::xs=>(isortIn_perm x _).trans ((isort_perm xs).cons x)
def Asc(lt:α→α→Bool)(l:List α):Prop:=l.Pairwise fun x y=>lt y x=false
theorem isortIn_asc(hS:SWO lt)(x:α):∀l,Asc lt l→Asc lt (isortIn lt x l)
 |[],_=>by simp[isortIn,Asc]
 | y::ys,h=>by
  obtain⟨h1,h2⟩:=List.pairwise_cons.1 h
  unfold isortIn
  split
  ·rename_i hxy
   refine List.pairwise_cons.2 ⟨fun z hz=>?_,h⟩
   rcases List.mem_cons.1 hz with rfl | hz
   ·exact swo_asym hS hxy
   ·exact hS.ntrans _ _ _ (h1 z hz) (swo_asym hS hxy)
  ·rename_i hxy
   refine List.pairwise_cons.2 ⟨fun z hz=>?_,isortIn_asc hS x ys h2⟩
   rcases List.mem_cons.1 ((isortIn_perm x ys).mem_iff.1 hz)with rfl | hz
   ·simpa using hxy
   ·exact h1 z hz
theorem isort_asc(hS:SWO lt):∀l,Asc lt (isort lt l)
 |[]=> .nil
 | x::xs=>isortIn_asc hS x _ (isort_asc hS xs)
theorem isort_unique(hS:SWO lt){l l':List α}(hp:l'.Perm l)(ha:Asc lt l')(hk:∀x∈l,∀y∈l,lt x y=false→lt y x=false→x=y):l'=isort lt l:=
 List.Perm.eq_of_pairwise (le:=fun x y=>lt y x=false) (fun a b h1 h2 h3 h4=>hk a (hp.mem_iff.1 h1) b ((isort_perm l).mem_iff.1 h2) h4 h3) ha (isort_asc hS l) (hp.trans (isort_perm l).symm)
theorem asc_of_sortedIn [Inhabited α]{d:Array α}(h:SortedIn lt 0 d.size d):Asc lt d.toList:=by
 refine List.pairwise_iff_getElem.2 fun i j hi hj hij=>?_
 have:=h i j (Nat.zero_le _) hij (by simpa using hj)
 rw[getElem!_pos d j (by simpa using hj),getElem!_pos d i (by simpa using hi)]at this
 simpa using this
theorem perm_of_permIn [Inhabited α]{d d':Array α}(h:PermIn 0 d.size d d'):d'.toList.Perm d.toList:=by
 obtain⟨h1,_,h3⟩:=h
 rw[Array.extract_size]at h3
 have:d'.extract 0 d.size=d':=by rw[←h1];exact Array.extract_size
 rwa[this]at h3
end
instance : Inhabited Arc := ⟨⟨0, 0, 0, 0⟩⟩
def Arc.vals(x:Arc):List Value:=[.int .i64 x.frm,.int .i64 x.to,.int .u8 x.letter,.int .i64 x.cost]
theorem arcLt_iff{x y:Arc}:arcLt x y=true↔x.frm<y.frm∨x.frm=y.frm∧(x.to<y.to∨x.to=y.to∧x.letter<y.letter):=by
 unfold arcLt
 by_cases h1:x.frm=y.frm
 ·by_cases h2:x.to=y.to
  ·simp[h1,h2]
  ·simp[h1,h2]
 ·simp[h1]
theorem swoArc:SWO arcLt:=by
 refine⟨fun x=>?_,fun x y z h1 h2=>?_,fun x y z h1 h2=>?_⟩
 ·cases h:arcLt x x with
  | false=>rfl
  | true=>rw[arcLt_iff]at h;omega
 ·rw[arcLt_iff]at*;omega
 ·cases h:arcLt x z with
  | false=>rfl
  | true=>
   have n1:¬arcLt x y=true:=by rw[h1];simp
   have n2:¬arcLt y z=true:=by rw[h2];simp
   rw[arcLt_iff]at*;omega
theorem arcLt_cmp(x y:Arc):decide (arcCmp x y<0)=arcLt x y:=by
 have h:=arcCmp_lt x y
 cases hl:arcLt x y with
 | true=>rw[hl]at h;simp at h ⊢;omega
 | false=>rw[hl]at h;simp at h ⊢;omega
theorem lt_of_cf:Go.Proofs.ltOf arcCmp=arcLt:=by
 funext x y
 exact arcLt_cmp x y
theorem callB_enters{g:Nat}(h:callB Pg g=true):∀args w,(callFunc g args).run Pg w= .ok (.enter g args) w:=by
 unfold callB at h
 split at h
 ·rename_i fn hf
  simp only[Bool.and_eq_true,Bool.not_eq_true']at h
  obtain⟨c,hc⟩:=Option.isSome_iff_exists.1 h.2
  exact enters_of hf h.1 hc
 ·cases h
theorem arcEnc(l:List Arc):l.map Arc.enc=encK Arc.vals l:=by
 unfold encK
 exact List.map_congr_left fun x _=>rfl
theorem sortArcs_c (l : List Arc) (hk : ∀ x ∈ l, ∀ y ∈ l, arcLt x y = false → arcLt y x = false → x = y) {b n : Nat} {H : Heap} (hb : H[b]? = some (.arr 205 4 (l.map Arc.enc))) (hn : l.length = n) (hm : n ≤ 1000000) :
    AC Pg 213 [.sl b 0 n n, .v (.func (.func 214) #[] #[])] H fun d H' ms => d = .any ∧ H' = H.set b (.arr 205 4 ((isort arcLt l).map Arc.enc)) ∧ ms = [b] := by
  rw [arcEnc] at hb ⊢
  refine AC_rowK (enc := Arc.vals) (fun _ => rfl) (fun x => List.all_eq_true.1 rfl) hb hn (isort_perm l).length_eq (by kernel_rfl) (fun _ a c w => ?_) fun blk c w _ hnc hH hblk => ?_
  · refine Calls.mono (Go.Proofs.AnyF.slices_SortFunc_none Go.Proofs.Tryz.sortArc a c _ w) ?_
    rintro e w' ⟨rfl, rfl⟩
    exact ⟨⟨_, rfl⟩, rfl⟩
  · have h := Go.Proofs.AnyQ.slices_SortFunc (P := Pg) Go.Proofs.Tryz.sortArc 4 (fun w => (tyk_run (w := w) (show tyk Pg _ = some (true, 4) by kernel_rfl)).1) (fun w => (tyk_run (w := w) (show tyk Pg _ = some (true, 4) by kernel_rfl)).2) Arc.vals (fun _ => rfl) (fun x => List.all_eq_true.1 rfl) arcCmp (by rw [lt_of_cf]; exact swoArc) 214 #[] blk 0 c l.toArray w (callB_enters (by kernel_rfl)) (fun m os dk hdk x y => Calls.mono (Fx.cmpArc_z ⟨x.frm, x.to, x.letter, x.cost⟩ ⟨y.frm, y.to, y.letter, y.cost⟩ _) fun e w' h => h) hH hblk (by simp; omega)
    rw [show l.toArray.size = n by simpa using hn] at h
    refine Calls.mono h ?_
    rintro e w' ⟨rfl, d', m, os, hp, hs, rfl⟩
    refine ⟨⟨_, rfl⟩, m, os, ?_⟩
    rw [lt_of_cf] at hs
    have hd : d'.size = n := hp.1.trans (by simpa using hn)
    have he := isort_unique swoArc (perm_of_permIn (d := l.toArray) (d' := d') (by rw [show l.toArray.size = n by simpa using hn]; exact hp)) (asc_of_sortedIn (by rw [hd]; exact hs)) hk
    congr 1
    apply Array.ext'
    simpa using he
end Go.Proofs.YtpndfdfipkadkaaGreatDoor
