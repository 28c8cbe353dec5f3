/- The law holds: part 47. Conditions: none. -/
import Derived.Test.YtpndfdfipkadkaaGreatDoorKP46
set_option linter.all false
set_option maxRecDepth 100000
namespace Go.Proofs.YtpndfdfipkadkaaGreatDoor
open Go Go.Wx Go.Ax
def evF (d : Int) (n : ByteArray) : Ev := ⟨d, 1, 1, 0, n⟩
def evM (d : Int) : Ev := ⟨d, 3, 1, 0, ⟨#[]⟩⟩
def lim (d : Int) (n : ByteArray) (k : Nat) : List Ev := evF d n :: List.replicate k (evM d)
def limS (d : Int) (n : ByteArray) : List Pl := [⟨1, 0, 0, true, [newT n d]⟩]
theorem lim_succ (d : Int) (n : ByteArray) (k : Nat) : lim d n k ++ [evM d] = lim d n (k + 1) := by
  unfold lim
  rw [List.replicate_succ', List.cons_append]
theorem lim_len (d : Int) (n : ByteArray) (k : Nat) : (lim d n k).length = k + 1 := by simp [lim]
theorem lim_day {d : Int} {n : ByteArray} {k : Nat} {e : Ev} (h : e ∈ lim d n k) : e.day = d := by
  unfold lim at h
  rcases List.mem_cons.1 h with rfl | h
  · rfl
  · rw [List.eq_of_mem_replicate h]; rfl
theorem lim_st (d : Int) (n : ByteArray) : ∀ k, stL (lim d n k) = limS d n
  | 0 => rfl
  | k + 1 => by rw [← lim_succ, stL_snoc, lim_st d n k]; rfl
theorem lim_up {d t : Int} (h : d ≤ t) (n : ByteArray) (k : Nat) : upToL (lim d n k) t = limS d n := by
  rw [upTo_filter, List.filter_eq_self.2 fun e he => by rw [lim_day he]; simpa using h, lim_st]
theorem lim_add {d : Int} {n : ByteArray} (h : addE [] (evF d n) = 0) (k : Nat) : addE (lim d n k) (evM d) = if k + 1 ≥ 400 then 2 else 0 := by
  have f := wrong_form (addE_zero h).form
  have h0 : 0 ≤ d := f.day0
  have h1 : d ≤ 100000 := f.day1
  have hw : wrongL (evM d) = 0 := by
    have : okEv (evM d) = true := by
      unfold okEv
      rw [show (evM d).day = d from rfl, decide_eq_true h0, decide_eq_true h1]
      show (true && (true && (idB 1 && (otherB (evM d) && (namedB 3 || strEq ⟨#[]⟩ ⟨#[]⟩))))) = true
      rw [strEq_refl]
      rfl
    unfold wrongL
    rw [this]
    rfl
  have hl : lateB (lim d n k) (evM d) = false := by
    unfold lateB
    cases hg : (lim d n k).getLast? with
    | none => rfl
    | some x =>
      have := lim_day (List.mem_of_getLast? hg)
      simp [this, evM]
  unfold addE
  rw [hw, hl, lim_up h1, lim_len]
  by_cases hk : k + 1 ≥ 400
  · rw [if_pos hk, if_neg (by decide), if_pos (by simp; omega)]
  · rw [if_neg hk, if_neg (by decide), if_neg (by simp; omega), if_neg (by decide)]
    rfl
theorem lim_acc {d : Int} {n : ByteArray} (h : addE [] (evF d n) = 0) : ∀ k, k + 1 ≤ 400 → Acc (lim d n k)
  | 0, _ => .snoc (l := []) .nil h
  | k + 1, hk => by
    rw [← lim_succ]
    exact .snoc (lim_acc h k (by omega)) (by rw [lim_add h, if_neg (by omega)])
theorem lim_name {d : Int} {n : ByteArray} (h : addE [] (evF d n) = 0) (k : Nat) : nameL (onL (lim d n k) d) 1 = n := by
  have f := wrong_form (addE_zero h).form
  have h0 : 0 ≤ d := f.day0
  have h1 : d ≤ 100000 := f.day1
  rw [onL, if_neg (by simp; omega), lim_up (Int.le_refl _)]
  rfl
def LimP (d : Int) (n : ByteArray) (k : Nat) (m : List Ev) : Prop := addE [] (evF d n) = 0 ∧ m = lim d n k
theorem LimP.zero {d : Int} {n : ByteArray} (h : addE [] (evF d n) = 0) : LimP d n 0 (grown [] (evF d n)) := ⟨h, by rw [grown, h]; rfl⟩
theorem LimP.acc {d : Int} {n : ByteArray} {k : Nat} {m : List Ev} (h : LimP d n k m) (hk : k + 1 ≤ 400) : Acc m := by rw [h.2]; exact lim_acc h.1 k hk
theorem LimP.len {d : Int} {n : ByteArray} {k : Nat} {m : List Ev} (h : LimP d n k m) : m.length = k + 1 := by rw [h.2]; exact lim_len d n k
theorem LimP.add {d : Int} {n : ByteArray} {k : Nat} {m : List Ev} (h : LimP d n k m) : addE m (evM d) = if k + 1 ≥ 400 then 2 else 0 := by rw [h.2]; exact lim_add h.1 k
theorem LimP.next {d : Int} {n : ByteArray} {k : Nat} {m : List Ev} (h : LimP d n k m) (hk : k + 1 < 400) : LimP d n (k + 1) (grown m (evM d)) := by
  refine ⟨h.1, ?_⟩
  have hz : addE m (evM d) = 0 := by rw [h.add, if_neg (by omega)]
  rw [grown, hz, if_pos (show ((0 : Int) == 0) = true from rfl), h.2, lim_succ]
theorem LimP.name {d : Int} {n : ByteArray} {k : Nat} {m : List Ev} (h : LimP d n k m) : nameL (onL m d) 1 = n := by rw [h.2]; exact lim_name h.1 k
noncomputable def c7 : Code := Tryz.f7.body.getD .skip
theorem lim_end {d : Int} {n : ByteArray} (m : List Ev) (e0 : Nat → D) (ha : Acc m) (hl : m.length = 399 + 1) (hz : addE m (evM d) = 2) (hg : grown m (evM d) = m) (hnm : nameL (onL m d) 1 = n) :
    AW Pg Tryz.f7.ntmps (fun _ => true) 0 (restC 5 c7) (fun ex s' => dret Pg Tryz.f7.results.toList (fun d H' _ => Frz H' d (db true)) [] ex s'.e s'.H) ⟨dupds e0 [(0, di d), (1, ds' n), (5, .ptr 0 0 0 1)], hpG m⟩ := by
  refine go [] [] ?_
  conv => whnf
  refine alive_c.call ?_
  conv => whnf
  have hadd := addAt_c m (evM d) ha (H := hpG m) (g := 0) (v := 1) rfl rfl (by decide)
  rw [hz, hg] at hadd
  refine AC.mono hadd ?_
  rintro _ _ _ ⟨rfl, rfl, rfl⟩
  conv => whnf
  refine (eventsM_c m (by omega) (H := hpG m) (g := 0) (v := 1) rfl rfl (blo_gaz _)).call ?_
  refine ift (show ((((m).map Ev.enc).length : Int) == 400) = true by rw [List.length_map, hl]; rfl) ?_
  refine (Pur.borrow (qName_c m 1 d ha) (.v _) (H := hpG m) (.cons (frz_gaz rfl rfl) (.cons (.pd (.v _)) (.cons (.pd (.v _)) .nil)))).call ?_
  exact frzb (by rw [hnm]; exact strEq_refl n)
theorem lawLimit_c (d : Int) (n : ByteArray) : Pur Pg 7 [di d, ds' n] (db true) := by
  refine Pur_of (PdL.cons (.v _) (PdL.one (.v _))) (AC_fn Tryz.func7 rfl rfl rfl [] (fun _ => true) (fun b h => nomatch h) (AW_rest (c' := restC 0 c7) ?_))
  obtain ⟨N, hN⟩ : ∃ N : Nat, N = 399 := ⟨_, rfl⟩
  have tail : ∀ m e0, LimP d n 0 m → AW Pg Tryz.f7.ntmps (fun _ => true) 0 (restC 4 c7) (fun ex s' => dret Pg Tryz.f7.results.toList (fun d H' _ => Frz H' d (db true)) [] ex s'.e s'.H) ⟨dupds e0 [(0, di d), (1, ds' n), (5, .ptr 0 0 0 1)], hpG m⟩ := by
    intro m e0 h
    refine AW_seq (AW_seq ?_)
    refine goC 1 [] [] ?_
    conv => whnf
    refine AW_block ?_
    refine AW_idx N (fun i st => ∃ m, LimP d n i m ∧ Has [(0, di d), (1, ds' n), (5, .ptr 0 0 0 1), (22, di i)] (hpG m) st) ⟨m, h, has (by exact ⟨rfl, rfl, rfl, rfl, trivial⟩) rfl⟩ ?_
    rintro i _ hi ⟨m, h, e1, rfl⟩
    refine go [] [] (if_ (fun hlt => ?_) (fun hlt => ?_))
    · have hlt : i < N := by simp at hlt; omega
      have ha := h.acc (by omega)
      have hz : addE m (evM d) = 0 := by rw [h.add, if_neg (by omega)]
      have hadd := addAt_c m (evM d) ha (H := hpG m) (g := 0) (v := 1) rfl rfl (by decide)
      rw [hz] at hadd
      refine AC.mono hadd ?_
      rintro _ _ _ ⟨rfl, rfl, rfl⟩
      conv => whnf
      exact ⟨hlt, grown m (evM d), h.next (by omega), has (by exact ⟨rfl, rfl, rfl, inc hlt (by rw [hN]; decide), trivial⟩) rfl⟩
    · have hi : i = N := by simp at hlt; omega
      have ha := h.acc (by omega)
      have hz : addE m (evM d) = 2 := by rw [h.add, if_pos (by omega)]
      have hg : grown m (evM d) = m := by rw [grown, hz]; rfl
      exact AW_rest (c' := restC 5 c7) (AW_has (fun e0 => lim_end m e0 ha (by rw [h.len]; omega) hz hg h.name) (by exact ⟨rfl, rfl, rfl, trivial⟩))
  refine goC 3 [] [] ?_
  refine AC.mono (newP_c _) ?_
  rintro _ _ _ ⟨rfl, rfl, rfl⟩
  conv => whnf
  refine AW_gcell 0 0 0 126 1 23 5 (xs := [[.v (.slice none 0 0)]]) (ds := [.v (.slice none 0 0)]) rfl rfl rfl (.inl (Nat.zero_le _)) (Nat.zero_le _) ?_
  refine AW_rest (c' := restC 3 c7) ?_
  have mid : ∀ e0, AW Pg Tryz.f7.ntmps (fun _ => true) 0 (restC 3 c7) (fun ex s' => dret Pg Tryz.f7.results.toList (fun d H' _ => Frz H' d (db true)) [] ex s'.e s'.H) ⟨dupds e0 [(0, di d), (1, ds' n), (5, .ptr 0 0 0 1)], hpG []⟩ := by
    intro e0
    refine goC 1 [] [] ?_
    refine AC.mono (addAt_c [] (evF d n) .nil (H := hpG []) (g := 0) (v := 1) rfl rfl (by decide)) ?_
    rintro _ _ _ ⟨rfl, rfl, rfl⟩
    refine if_ (fun hz => ?_) fun hz => ?_
    · have hz : addE [] (evF d n) ≠ 0 := by simpa using hz
      have hg : grown [] (evF d n) = [] := by rw [grown, if_neg (by simpa using hz)]
      rw [hg]
      refine alive_c.call ?_
      conv => whnf
      refine (eventsM_c [] (by decide) (H := hpG []) (g := 0) (v := 1) rfl rfl (blo_gaz _)).call ?_
      exact frzt
    · have hz : addE [] (evF d n) = 0 := by simpa using hz
      exact AW_rest (c' := restC 4 c7) (AW_has (fun e0 => tail _ e0 (.zero hz)) (by exact ⟨rfl, rfl, rfl, trivial⟩))
  exact AW_has mid (by exact ⟨rfl, rfl, rfl, trivial⟩)
end Go.Proofs.YtpndfdfipkadkaaGreatDoor
