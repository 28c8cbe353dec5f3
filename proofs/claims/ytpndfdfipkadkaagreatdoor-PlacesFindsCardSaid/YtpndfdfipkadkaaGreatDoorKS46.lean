/- The law holds: part 256. Conditions: none. -/
import Derived.Test.YtpndfdfipkadkaaGreatDoorKS43
import Derived.Test.YtpndfdfipkadkaaGreatDoorKS44
import Derived.Test.YtpndfdfipkadkaaGreatDoorKS45
set_option linter.all false
set_option maxRecDepth 100000
namespace Go.Proofs.YtpndfdfipkadkaaGreatDoor
open Go Go.Wx Go.Ax
section
variable {a b : Auto} {A B : Nat}
theorem m8 {T : Tbl} {H : Heap} (hT : Tab a b A B (VT T) (UT T) H) {f t g u : Nat} (hf : f < A) (ht : t < A) (hg : g < B) (hu : u < B) {l m c d : Int} (hc : 0 ≤ c ∧ c ≤ 1000000) (hd : 0 ≤ d ∧ d ≤ 1000000) (hl : 0 ≤ l ∧ l < 256) (hS : Small 401 (T t u)) {i k : Nat} (hk4 : k ≤ 4000)
    (hx : a.arcs[i]? = some ⟨f, t, l, c⟩) (hy : b.arcs[k]? = some ⟨g, u, m, d⟩) (e0 : Nat → D) :
    AW Pg Tryz.f134.ntmps (fun _ => true) 0 b8 (fun ex st => ex = .normal ∧ ∃ H', Tab a b A B (VT (tStep ⟨f, t, l, c⟩ T ⟨g, u, m, d⟩)) (UT (tStep ⟨f, t, l, c⟩ T ⟨g, u, m, d⟩)) H' ∧ Has (slM A i ((k : Int) - 1)) H' st)
      ⟨dupds e0 (slM A i k), H⟩ := by
  refine goC 1 [] pl134 ?_
  conv => whnf
  refine AW_rest (c' := restC 1 b8) (AW_has (l := slM A i k) (fun e1 => ?_) (by exact ⟨rfl, rfl, rfl, rfl, rfl, rfl, rfl, rfl, rfl, trivial⟩))
  refine AW_seq (AW_block (AW_rest (c' := b9) (AW_mono (m9 hT hf ht hg hu hc hd hl hS hx hy e1) ?_)))
  rintro ex st ⟨hex, H', hT', e2, rfl⟩
  have rest : AW Pg Tryz.f134.ntmps (fun _ => true) 0 (restC 2 b8) (fun ex st => ex = .normal ∧ ∃ H', Tab a b A B (VT (tStep ⟨f, t, l, c⟩ T ⟨g, u, m, d⟩)) (UT (tStep ⟨f, t, l, c⟩ T ⟨g, u, m, d⟩)) H' ∧ Has (slM A i ((k : Int) - 1)) H' st) ⟨dupds e2 (slM A i k), H'⟩ := by
    refine go [] pl134 ?_
    conv => whnf
    refine ⟨rfl, H', hT', has ⟨rfl, rfl, rfl, rfl, rfl, rfl, rfl, rfl, ?_, trivial⟩ rfl⟩
    exact congrArg di (wrap_id (by omega) (by omega))
  rcases hex with rfl | rfl
  · exact rest
  · exact rest
theorem drop_back{α:Type}{xs:List α}{t:Nat}(h:t<xs.length):xs.drop (xs.length-(t+1))=xs[xs.length-1-t]::xs.drop (xs.length-t):=by
 rw[List.drop_eq_getElem_cons (show xs.length-(t+1)<xs.length by omega)]
 congr 1
 ·congr 1
  omega
 ·congr 1
  omega
abbrev sl6(A:Nat)(i:Int):List (Nat × D):=[(2,.ptr 0 0 0 1),(3,.ptr 1 0 0 1),(4,.ptr 2 0 0 1),(5,db false),(6,di 0),(9,.sl 3 0 A A),(10,.sl 4 0 A A),(14,di i)]
theorem m6 (va : Valid a) (vb : Valid b) (hA : a.states = A) (hB : b.states = B) {T : Tbl} {H : Heap} {i : Nat} (hi : i < a.arcs.length) (hT : Tab a b A B (VT T) (UT T) H) (hO : TOk a b (a.arcs.drop (i + 1)) T) (e0 : Nat → D) :
    AW Pg Tryz.f134.ntmps (fun _ => true) 0 b6 (fun ex st => ex = .normal ∧ ∃ T' H', TOk a b (a.arcs.drop i) T' ∧ Tab a b A B (VT T') (UT T') H' ∧ Has (sl6 A ((i : Int) - 1)) H' st)
      ⟨dupds e0 (sl6 A i), H⟩ := by
  have hal := va.al
  have hbl := vb.al
  obtain ⟨x, hx⟩ : ∃ x, a.arcs[i] = x := ⟨_, rfl⟩
  have hxi : a.arcs[i]? = some x := by rw [List.getElem?_eq_getElem hi, hx]
  have hxm : x ∈ a.arcs := List.mem_of_getElem? hxi
  have hxv := va.arc x hxm
  have hbh := behind_drop va hxi
  have hdr : a.arcs.drop i = x :: a.arcs.drop (i + 1) := by rw [List.drop_eq_getElem_cons hi, hx]
  have hsub : ∀ z ∈ a.arcs.drop (i + 1), z ∈ a.arcs := fun z hz => List.mem_of_mem_drop hz
  obtain ⟨xf, xt, xl, xc⟩ := x
  obtain ⟨f, hf⟩ : ∃ f : Nat, xf = f := ⟨xf.toNat, by simp only at hxv; omega⟩
  obtain ⟨t, ht⟩ : ∃ t : Nat, xt = t := ⟨xt.toNat, by simp only at hxv; omega⟩
  subst hf
  subst ht
  simp only at hxv
  have hfA : f < A := by omega
  have htA : t < A := by omega
  have hxl : 0 ≤ xl ∧ xl < 256 := by have := hxv.2.2.2.1; simp [letB] at this; omega
  refine goC 1 [] pl134 ?_
  conv => whnf
  refine AW_rest (c' := restC 1 b6) (AW_has (l := sl6 A i) (fun e1 => ?_) (by exact ⟨rfl, rfl, rfl, rfl, rfl, rfl, rfl, rfl, trivial⟩))
  refine AW_seq (AW_block ?_)
  refine go [] pl134 ?_
  repeat ((conv => whnf); (first | refine datarr_at hT.h1 ?_))
  conv => whnf
  have hwM : IntKind.wrap .i64 ((b.arcs.length : Int) - 1) = (b.arcs.length : Int) - 1 := wrap_id (by omega) (by omega)
  refine AW_idx b.arcs.length (fun v st => ∃ T H, TOk2 a b (a.arcs.drop (i + 1)) ⟨f, t, xl, xc⟩ (b.arcs.drop (b.arcs.length - v)) T ∧ Tab a b A B (VT T) (UT T) H ∧ Has (slM A i ((b.arcs.length : Int) - 1 - v)) H st) ⟨T, H, ?_, hT, has ⟨rfl, rfl, rfl, rfl, rfl, rfl, rfl, rfl, ?_, trivial⟩ rfl⟩ ?_
  · rw [Nat.sub_zero, List.drop_length]
    exact TOk2.zero _ hO
  · show D.v (.int .i64 (IntKind.wrap .i64 (((b.arcs.map Arc.enc).length : Int) - 1))) = di ((b.arcs.length : Int) - 1 - (0 : Nat))
    rw [List.length_map, hwM]
    exact congrArg di (by omega)
  · rintro v _ hv ⟨T, H, hO, hT, e2, rfl⟩
    by_cases hvl : v < b.arcs.length
    · obtain ⟨k, hk⟩ : ∃ k : Nat, k = b.arcs.length - 1 - v := ⟨_, rfl⟩
      have hkl : k < b.arcs.length := by omega
      have hkk : (b.arcs.length : Int) - 1 - v = (k : Int) := by omega
      rw [hkk]
      obtain ⟨y, hy⟩ : ∃ y, b.arcs[k] = y := ⟨_, rfl⟩
      have hyk : b.arcs[k]? = some y := by rw [List.getElem?_eq_getElem hkl, hy]
      have hym : y ∈ b.arcs := List.mem_of_getElem? hyk
      have hyv := vb.arc y hym
      have hdb : b.arcs.drop (b.arcs.length - (v + 1)) = y :: b.arcs.drop (b.arcs.length - v) := by
        rw [drop_back hvl]
        congr 1
        rw [← hy]
        simp only [hk]
      have hstep := hO.step va hsub hxm hbh (y := y)
      have hat := hO.at va hsub hxm hbh y.to
      obtain ⟨yf, yt, yl, yc⟩ := y
      obtain ⟨g, hg⟩ : ∃ g : Nat, yf = g := ⟨yf.toNat, by simp only at hyv; omega⟩
      obtain ⟨u, hu⟩ : ∃ u : Nat, yt = u := ⟨yt.toNat, by simp only at hyv; omega⟩
      subst hg
      subst hu
      simp only at hyv hat
      have hS : Small 401 (T t u) := by rw [hat]; exact meetA_small va vb _ _
      refine AW_rest (c' := b8) (AW_mono (m8 hT hfA htA (by omega) (by omega) ⟨hxv.2.2.2.2.1, hxv.2.2.2.2.2⟩ ⟨hyv.2.2.2.2.1, hyv.2.2.2.2.2⟩ hxl hS (by omega) hxi hyk e2) ?_)
      rintro ex st ⟨rfl, H', hT', hst⟩
      refine ⟨hvl, _, H', ?_, hT', ?_⟩
      · rw [hdb]
        exact hstep
      · rw [show (b.arcs.length : Int) - 1 - ((v + 1 : Nat) : Int) = (k : Int) - 1 by omega]
        exact hst
    · have hvl : v = b.arcs.length := by omega
      subst hvl
      rw [Nat.sub_self, List.drop_zero] at hO
      rw [show (b.arcs.length : Int) - 1 - (b.arcs.length : Int) = -1 by omega]
      refine go [] pl134 ?_
      conv => whnf
      refine AW_has (l := sl6 A i) (fun e3 => ?_) (by exact ⟨rfl, rfl, rfl, rfl, rfl, rfl, rfl, rfl, trivial⟩)
      refine go [] pl134 ?_
      conv => whnf
      refine ⟨rfl, T, H, ?_, hT, has ⟨rfl, rfl, rfl, rfl, rfl, rfl, rfl, congrArg di (wrap_id (by omega) (by omega)), trivial⟩ rfl⟩
      rw [hdr]
      exact hO.full
theorem meet9 (va : Valid a) (vb : Valid b) (hA : a.states = A) (hB : b.states = B)
    (next : ∀ (H : Heap) e0 (T : Tbl), T 0 0 = meetA a b 0 0 → Tab a b A B (VT T) (UT T) H → AW Pg Tryz.f134.ntmps (fun _ => true) 0 (restC 10 c134) (RM a b) ⟨dupds e0 [(2, .ptr 0 0 0 1), (3, .ptr 1 0 0 1), (4, .ptr 2 0 0 1), (5, db false), (6, di 0), (9, .sl 3 0 A A), (10, .sl 4 0 A A)], H⟩) (H : Heap) (e0 : Nat → D) (T : Tbl) (hs : T = startA a b)
    (hT : Tab a b A B (VT T) (UT T) H) :
    AW Pg Tryz.f134.ntmps (fun _ => true) 0 (restC 9 c134) (RM a b) ⟨dupds e0 [(2, .ptr 0 0 0 1), (3, .ptr 1 0 0 1), (4, .ptr 2 0 0 1), (5, db false), (6, di 0), (9, .sl 3 0 A A), (10, .sl 4 0 A A)], H⟩ := by
  have hal := va.al
  refine goC 1 [] pl134 ?_
  repeat ((conv => whnf); (first | refine datarr_at hT.h0 ?_))
  conv => whnf
  have hwM : IntKind.wrap .i64 ((a.arcs.length : Int) - 1) = (a.arcs.length : Int) - 1 := wrap_id (by omega) (by omega)
  refine AW_idx a.arcs.length (fun v st => ∃ T H, TOk a b (a.arcs.drop (a.arcs.length - v)) T ∧ Tab a b A B (VT T) (UT T) H ∧ Has (sl6 A ((a.arcs.length : Int) - 1 - v)) H st) ⟨T, H, ?_, hT, has ⟨rfl, rfl, rfl, rfl, rfl, rfl, rfl, ?_, trivial⟩ rfl⟩ ?_
  · rw [Nat.sub_zero, List.drop_length, hs]
    exact TOk.start a b
  · show D.v (.int .i64 (IntKind.wrap .i64 (((a.arcs.map Arc.enc).length : Int) - 1))) = di ((a.arcs.length : Int) - 1 - (0 : Nat))
    rw [List.length_map, hwM]
    exact congrArg di (by omega)
  · rintro v _ hv ⟨T, H, hO, hT, e2, rfl⟩
    by_cases hvl : v < a.arcs.length
    · obtain ⟨i, hi⟩ : ∃ i : Nat, i = a.arcs.length - 1 - v := ⟨_, rfl⟩
      have hil : i < a.arcs.length := by omega
      rw [show (a.arcs.length : Int) - 1 - v = (i : Int) by omega]
      refine AW_rest (c' := b6) (AW_mono (m6 va vb hA hB hil hT (by rw [show i + 1 = a.arcs.length - v by omega]; exact hO) e2) ?_)
      rintro ex st ⟨rfl, T', H', hO', hT', hst⟩
      refine ⟨hvl, T', H', by rw [show a.arcs.length - (v + 1) = i by omega]; exact hO', hT', ?_⟩
      rw [show (a.arcs.length : Int) - 1 - ((v + 1 : Nat) : Int) = (i : Int) - 1 by omega]
      exact hst
    · have hvl : v = a.arcs.length := by omega
      subst hvl
      rw [Nat.sub_self, List.drop_zero] at hO
      rw [show (a.arcs.length : Int) - 1 - (a.arcs.length : Int) = -1 by omega]
      refine go [] pl134 ?_
      conv => whnf
      exact AW_rest (c' := restC 10 c134) (AW_has (l := [(2, .ptr 0 0 0 1), (3, .ptr 1 0 0 1), (4, .ptr 2 0 0 1), (5, db false), (6, di 0), (9, .sl 3 0 A A), (10, .sl 4 0 A A)]) (fun e0 => next H e0 T (hO.done va (Int.le_refl 0) 0) hT) (by exact ⟨rfl, rfl, rfl, rfl, rfl, rfl, rfl, trivial⟩))
theorem meet10 (ha : chkA a = 0) (hb : chkA b = 0) (h1 : 0 < A) (h2 : 0 < B) (H : Heap) (e0 : Nat → D) (T : Tbl) (hm : T 0 0 = meetA a b 0 0) (hT : Tab a b A B (VT T) (UT T) H) :
    AW Pg Tryz.f134.ntmps (fun _ => true) 0 (restC 10 c134) (RM a b) ⟨dupds e0 [(2, .ptr 0 0 0 1), (3, .ptr 1 0 0 1), (4, .ptr 2 0 0 1), (5, db false), (6, di 0), (9, .sl 3 0 A A), (10, .sl 4 0 A A)], H⟩ := by
  have hD : meetD a b = match meetA a b 0 0 with | none => .tup [.agg (rdE noRd), db false, di 0] | some r => .tup [.agg (rdE r), db true, di 0] := by
    rw [meetD, if_neg (by simpa using ha), if_neg (by simpa using hb)]
    rfl
  have hol : ((List.range A).map fun p => [D.sl (5 + 2 * p) 0 B B]).length = A := by simp
  have hol2 : ((List.range A).map fun p => [D.sl (6 + 2 * p) 0 B B]).length = A := by simp
  refine go [] pl134 ?_
  repeat ((conv => whnf); (first | refine datarr_at hT.h3 ?_ | refine datarr_at hT.h4 ?_))
  conv => whnf
  refine ck (and_t (beq_len hol) rfl) ?_
  refine ixl_any (i := 0) (by rw [hol]; exact h1) h1 ?_
  repeat ((conv => whnf); (first | refine datarr_at hT.h3 ?_ | refine datarr_at hT.h4 ?_ | refine datarr_at (hT.row 0 h1) ?_ | refine datarr_at (hT.irow 0 h1) ?_ | refine datarr_at hT.h2 ?_))
  conv => whnf
  refine ck (beq_len hol) ?_
  refine lst_at (inner_at (q := 0) h1) ?_
  repeat ((conv => whnf); (first | refine datarr_at hT.h3 ?_ | refine datarr_at hT.h4 ?_ | refine datarr_at (hT.row 0 h1) ?_ | refine datarr_at (hT.irow 0 h1) ?_ | refine datarr_at hT.h2 ?_))
  conv => whnf
  refine ck (and_t (beq_len (by simp)) rfl) ?_
  refine ixl_any (i := 0) (by simp; exact h2) h2 ?_
  repeat ((conv => whnf); (first | refine datarr_at hT.h3 ?_ | refine datarr_at hT.h4 ?_ | refine datarr_at (hT.row 0 h1) ?_ | refine datarr_at (hT.irow 0 h1) ?_ | refine datarr_at hT.h2 ?_))
  conv => whnf
  refine ck (beq_len (by simp)) ?_
  refine lst_at (inner_at (q := 0) h2) ?_
  repeat ((conv => whnf); (first | refine datarr_at hT.h3 ?_ | refine datarr_at hT.h4 ?_ | refine datarr_at (hT.row 0 h1) ?_ | refine datarr_at (hT.irow 0 h1) ?_ | refine datarr_at hT.h2 ?_))
  conv => whnf
  refine ck (and_t (beq_len hol2) rfl) ?_
  refine ixl_any (i := 0) (by rw [hol2]; exact h1) h1 ?_
  repeat ((conv => whnf); (first | refine datarr_at hT.h3 ?_ | refine datarr_at hT.h4 ?_ | refine datarr_at (hT.row 0 h1) ?_ | refine datarr_at (hT.irow 0 h1) ?_ | refine datarr_at hT.h2 ?_))
  conv => whnf
  refine ck (beq_len hol2) ?_
  refine lst_at (inner_at (q := 0) h1) ?_
  repeat ((conv => whnf); (first | refine datarr_at hT.h3 ?_ | refine datarr_at hT.h4 ?_ | refine datarr_at (hT.row 0 h1) ?_ | refine datarr_at (hT.irow 0 h1) ?_ | refine datarr_at hT.h2 ?_))
  conv => whnf
  refine ck (and_t (beq_len (by simp)) rfl) ?_
  refine ixl_any (i := 0) (by simp; exact h2) h2 ?_
  repeat ((conv => whnf); (first | refine datarr_at hT.h3 ?_ | refine datarr_at hT.h4 ?_ | refine datarr_at (hT.row 0 h1) ?_ | refine datarr_at (hT.irow 0 h1) ?_ | refine datarr_at hT.h2 ?_))
  conv => whnf
  refine ck (beq_len (by simp)) ?_
  refine lst_at (inner_at (q := 0) h2) ?_
  repeat ((conv => whnf); (first | refine datarr_at hT.h3 ?_ | refine datarr_at hT.h4 ?_ | refine datarr_at (hT.row 0 h1) ?_ | refine datarr_at (hT.irow 0 h1) ?_ | refine datarr_at hT.h2 ?_))
  conv => whnf
  have hs2 : ∀ {z : AO}, (H.set 2 z)[2]? = some z := fun {z} => List.getElem?_set_self (lt_of_some hT.h2)
  refine datarr_at hs2 ?_
  conv => whnf
  have fin : ∀ Hx : Heap, FrzK 0 Hx (.tup [.agg (rdE (VT T 0 0)), db (UT T 0 0), di 0]) (meetD a b) := fun Hx => by
    rw [hD]
    unfold VT UT
    rw [hm]
    cases meetA a b 0 0 with
    | none => exact .pd (.tup fun d hd => by simp at hd; rcases hd with rfl | rfl | rfl; exact .agg (pdE noRd); exact .v _; exact .v _)
    | some r => exact .pd (.tup fun d hd => by simp at hd; rcases hd with rfl | rfl | rfl; exact .agg (pdE r); exact .v _; exact .v _)
  exact fin _
end
theorem rMeet_c(a b:Auto):Pur Pg 134 [.agg a.enc,.agg b.enc] (meetD a b):=by
 refine Pur_of (PdL.cons (.agg (pdAuto a)) (.one (.agg (pdAuto b)))) (AC_fn Tryz.func134 rfl rfl rfl [] (fun _=>true) (fun b h=>nomatch h) (AW_rest (c':=restC 0 c134) ?_))
 refine goC 3 [] pl134 ?_
 refine(rCheck_c a).call ?_
 refine if_ (fun h=>?_) fun h=>?_
 ·have h0:chkA a≠0:=by simpa using h
  have hm:meetD a b= .tup [.agg (rdE noRd),db false,di (chkA a)]:=by rw[meetD,if_pos h0]
  rw[hm]
  exact .pd (.tup fun d hd=>by simp at hd;rcases hd with rfl | rfl | rfl;exact .agg (pdE noRd);exact .v _;exact .v _)
 have ha:chkA a=0:=by simpa using h
 have va:=valid_of ha
 clear h
 conv=>whnf
 refine AW_rest (c':=restC 3 c134) (AW_has (l:=[(2,.ptr 0 0 0 1),(3,.ptr 1 0 0 1),(4,.ptr 2 0 0 1),(5,db false),(6,di 0)]) (fun e0=>?_) (by exact⟨rfl,rfl,rfl,rfl,rfl,trivial⟩))
 refine goC 2 [] pl134 ?_
 refine(rCheck_c b).call ?_
 refine if_ (fun h=>?_) fun h=>?_
 ·have h0:chkA b≠0:=by simpa using h
  have hm:meetD a b= .tup [.agg (rdE noRd),db false,di (chkA b)]:=by rw[meetD,if_neg (by simpa using ha),if_pos h0]
  rw[hm]
  exact .pd (.tup fun d hd=>by simp at hd;rcases hd with rfl | rfl | rfl;exact .agg (pdE noRd);exact .v _;exact .v _)
 have hb:chkA b=0:=by simpa using h
 have vb:=valid_of hb
 clear h
 have a1:=va.st1
 have a2:=va.st2
 have b1:=vb.st1
 have b2:=vb.st2
 obtain⟨A,hA⟩:∃A:Nat,a.states=A:=⟨a.states.toNat,by omega⟩
 obtain⟨B,hB⟩:∃B:Nat,b.states=B:=⟨b.states.toNat,by omega⟩
 conv=>whnf
 refine AW_rest (c':=restC 5 c134) (AW_has (l:=[(2,.ptr 0 0 0 1),(3,.ptr 1 0 0 1),(4,.ptr 2 0 0 1),(5,db false),(6,di 0)]) (fun e1=>?_) (by exact⟨rfl,rfl,rfl,rfl,rfl,trivial⟩))
 have next:=fun(H:Heap) e0 (h:Tab a b A B (fun _ _=>noRd) (fun _ _=>false) H)=>meet8 a b va vb A B hA hB (fun H e0 T hs hT=>meet9 va vb hA hB (fun H e0 T hm hT=>meet10 ha hb (by omega) (by omega) H e0 T hm hT) H e0 T hs hT) H e0 h
 have h7:=meet7 a b A B hA hB (by omega) (by omega) (by omega) next
 have mk:∀n:Nat,n≤400→(Nat.ble n n&&(Nat.ble (24*n) 281474976710656&&Nat.ble n maxLen))=true:=fun n hn=>and_t (Nat.ble_eq_true_of_le (Nat.le_refl _)) (and_t (Nat.ble_eq_true_of_le (by omega)) (Nat.ble_eq_true_of_le (by simp only[maxLen];omega)))
 refine goC 2 [] pl134 ?_
 conv=>whnf
 rw[hA]
 refine ck (mk A (by omega)) ?_
 conv=>whnf
 rw[hA]
 refine ck (mk A (by omega)) ?_
 conv=>whnf
 exact AW_rest (c':=restC 7 c134) (AW_has (l:=[(2,.ptr 0 0 0 1),(3,.ptr 1 0 0 1),(4,.ptr 2 0 0 1),(5,db false),(6,di 0),(9,.sl 3 0 A A),(10,.sl 4 0 A A)]) (fun e0=>h7 e0) (by exact⟨rfl,rfl,rfl,rfl,rfl,rfl,rfl,trivial⟩))
end Go.Proofs.YtpndfdfipkadkaaGreatDoor
set_option maxRecDepth 100000
namespace Go.Proofs.YtpndfdfipkadkaaGreatDoor
open Go Go.Wx Go.Ax
end Go.Proofs.YtpndfdfipkadkaaGreatDoor
