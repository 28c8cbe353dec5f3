/- The law holds: part 49. Conditions: none. -/
import Derived.Test.YtpndfdfipkadkaaGreatDoorKP48
set_option linter.all false
set_option maxRecDepth 100000
namespace Go.Proofs.YtpndfdfipkadkaaGreatDoor
open Go Go.Wx Go.Ax
noncomputable def c48 : Code := Tryz.f48.body.getD .skip
def daysA (l : List Ev) : List Int := l.foldl (fun out e => addI out e.day) []
def daysB (hs : List Use) (d0 : List Int) : List Int := (hs.filter fun u => decide (u.til ≤ 100000)).foldl (fun out u => addI out u.til) d0
theorem daysB_take {hs : List Use} {d0 : List Int} {i : Nat} (h : i < hs.length) : daysB (hs.take (i + 1)) d0 = if hs[i].til ≤ 100000 then addI (daysB (hs.take i) d0) hs[i].til else daysB (hs.take i) d0 := by
  unfold daysB
  rw [List.take_succ_eq_append_getElem h, List.filter_append, List.foldl_append]
  by_cases hc : hs[i].til ≤ 100000
  · rw [if_pos hc, List.filter_cons_of_pos (by simpa using hc)]; rfl
  · rw [if_neg hc, List.filter_cons_of_neg (by simpa using hc)]; rfl
theorem daysA_len (l : List Ev) : (daysA l).length ≤ l.length := by
  have := fold_len (fun (e : Ev) out => addI out e.day) (fun e out => addI_len out e.day) l []
  simpa [daysA] using this
theorem daysB_len (hs : List Use) (d0 : List Int) : (daysB hs d0).length ≤ d0.length + hs.length := by
  have := fold_len (fun (u : Use) out => addI out u.til) (fun u out => addI_len out u.til) (hs.filter fun u => decide (u.til ≤ 100000)) d0
  have h2 := List.length_filter_le (fun u : Use => decide (u.til ≤ 100000)) hs
  unfold daysB
  omega
theorem days_rng {l : List Ev} (ha : Acc l) {p d : Int} (h : d ∈ chDaysR l p) : 0 ≤ d ∧ d ≤ 200000 := by
  rw [chDaysR_eq, uniqI_mem] at h
  rcases List.mem_append.1 h with h | h
  · obtain ⟨e, he, rfl⟩ := List.mem_map.1 h
    have f := ha.ok.form e he
    have h0 := f.day0
    have h1 := f.day1
    omega
  · obtain ⟨u, hu, rfl⟩ := List.mem_map.1 h
    have hu := (List.mem_filter.1 hu).1
    unfold histL at hu
    cases hg : get (stL l) p with
    | none => rw [hg] at hu; cases hu
    | some x =>
      rw [hg] at hu
      rcases ha.uses.til p x hg u hu with ht | ⟨e, he, ht⟩
      · omega
      · have f := ha.ok.form e he
        have h0 := f.day0
        have h1 := f.day1
        omega
theorem rChanges_c (l : List Ev) (p : Int) (ha : Acc l) : Pur Pg 48 [refG l, di p] (rows ienc (chL l p)) := by
  have hlen := ha.ok.len
  obtain ⟨hs, hhs⟩ : ∃ hs, histL (stL l) p = hs := ⟨_, rfl⟩
  have hhl : hs.length ≤ 16 := by
    rw [← hhs]
    unfold histL
    cases hg : get (stL l) p with
    | none => simp
    | some x => exact ha.ok.inv.few x (get_mem hg).1
  obtain ⟨D, hD⟩ : ∃ D, chDaysR l p = D := ⟨_, rfl⟩
  have hDB : daysB hs (daysA l) = D := by rw [← hD, ← hhs]; rfl
  have hDl : D.length ≤ 500 := by
    rw [← hDB]
    have h1 := daysB_len hs (daysA l)
    have h2 := daysA_len l
    omega
  refine Pur_of (PdL.cons (pd_refG l) (PdL.one (.v _))) (AC_fn Tryz.func48 rfl rfl rfl [] (fun _ => true) (fun b h => nomatch h) (AW_rest (c' := restC 0 c48) ?_))
  have tail3 : ∀ e0, AW Pg Tryz.f48.ntmps (fun _ => true) 0 (restC 5 c48) (fun ex s' => dret Pg Tryz.f48.results.toList (fun d H' _ => Frz H' d (rows ienc (chL l p))) [] ex s'.e s'.H) ⟨dupds e0 [(0, refG l), (1, di p), (5, rows ienc D)], []⟩ := by
    intro e0
    have hres : D.filter (chB l p) = chL l p := by rw [← hD]; exact ch_eq ha p
    refine goC 1 [] [] ?_
    refine AW_ghost 9 3 1 (Nat.zero_le _) ?_
    refine AW_seq (AW_seq ?_)
    refine goC 1 [] [] ?_
    conv => whnf
    refine AW_block ?_
    refine AW_idx D.length (fun i st => ∃ n, ((D.take i).filter (chB l p)).length = n ∧ n ≤ i ∧ Has [(0, refG l), (1, di p), (5, rows ienc D), (9, .sl 0 0 n n), (10, di i)] [.arr 3 1 (((D.take i).filter (chB l p)).map ienc)] st) ⟨0, rfl, Nat.le_refl _, has (by exact ⟨rfl, rfl, rfl, rfl, rfl, trivial⟩) rfl⟩ ?_
    rintro i _ hi ⟨n, hn, hni, e1, rfl⟩
    refine go [] [] (if_ (fun hlt => ?_) (fun hlt => ?_))
    · simp at hlt
      have hr := days_rng ha (p := p) (d := D[i]) (by rw [hD]; exact List.getElem_mem hlt)
      have hw : IntKind.wrap .i64 (D[i] - 1) = D[i] - 1 := wrap_id (by omega) (by omega)
      have hF : (D.take (i + 1)).filter (chB l p) = if chB l p D[i] then (D.take i).filter (chB l p) ++ [D[i]] else (D.take i).filter (chB l p) := by
        rw [List.take_succ_eq_append_getElem hlt, List.filter_append]
        by_cases hc : chB l p D[i] = true
        · rw [if_pos hc, List.filter_cons_of_pos hc]; rfl
        · rw [if_neg hc, List.filter_cons_of_neg hc]; simp
      have hch : chB l p D[i] = ((!(hereB (onL l D[i]) p == hereB (onL l (IntKind.wrap .i64 (D[i] - 1))) p)) || (!decide (namesL (onL l D[i]) p D[i] = namesL (onL l (IntKind.wrap .i64 (D[i] - 1))) p (IntKind.wrap .i64 (D[i] - 1))) || !decide (pth (onL l D[i]) p = pth (onL l (IntKind.wrap .i64 (D[i] - 1))) p))) := by
        rw [hw]
        unfold chB
        rw [show decide (namesL (onL l (D[i] - 1)) p (D[i] - 1) = namesL (onL l D[i]) p D[i]) = decide (namesL (onL l D[i]) p D[i] = namesL (onL l (D[i] - 1)) p (D[i] - 1)) from decide_eq_decide.2 eq_comm, show decide (pth (onL l (D[i] - 1)) p = pth (onL l D[i]) p) = decide (pth (onL l D[i]) p = pth (onL l (D[i] - 1)) p) from decide_eq_decide.2 eq_comm]
        cases hereB (onL l (D[i] - 1)) p <;> cases hereB (onL l D[i]) p <;> simp
      refine row_at hlt ?_
      refine (rExists_c l p _ ha).call ?_
      refine (rExists_c l p _ ha).call ?_
      refine (rNames_c l p _ ha).call ?_
      refine (rNames_c l p _ ha).call ?_
      refine (rPath_c l p _ ha).call ?_
      refine (rPath_c l p _ ha).call ?_
      refine (sameStrings_c _ _).call ?_
      refine (sameInts_c _ _).call ?_
      conv => whnf
      have yes : ∀ st : St, (∃ e2, st = ⟨dupds e2 [(0, refG l), (1, di p), (5, rows ienc D), (9, .sl 0 0 (n + 1) (n + 1)), (10, di ((i + 1 : Nat) : Int))], [.arr 3 1 (((D.take i).filter (chB l p) ++ [D[i]]).map ienc)]⟩) → chB l p D[i] = true → i < D.length ∧ ∃ n, ((D.take (i + 1)).filter (chB l p)).length = n ∧ n ≤ i + 1 ∧ Has [(0, refG l), (1, di p), (5, rows ienc D), (9, .sl 0 0 n n), (10, di ((i + 1 : Nat) : Int))] [.arr 3 1 (((D.take (i + 1)).filter (chB l p)).map ienc)] st := by
        rintro st ⟨e2, rfl⟩ hc
        rw [if_pos hc] at hF
        rw [hF]
        exact ⟨hlt, n + 1, by rw [List.length_append, hn]; rfl, by omega, e2, rfl⟩
      have no : ∀ st : St, (∃ e2, st = ⟨dupds e2 [(0, refG l), (1, di p), (5, rows ienc D), (9, .sl 0 0 n n), (10, di ((i + 1 : Nat) : Int))], [.arr 3 1 (((D.take i).filter (chB l p)).map ienc)]⟩) → chB l p D[i] = false → i < D.length ∧ ∃ n, ((D.take (i + 1)).filter (chB l p)).length = n ∧ n ≤ i + 1 ∧ Has [(0, refG l), (1, di p), (5, rows ienc D), (9, .sl 0 0 n n), (10, di ((i + 1 : Nat) : Int))] [.arr 3 1 (((D.take (i + 1)).filter (chB l p)).map ienc)] st := by
        rintro st ⟨e2, rfl⟩ hc
        rw [if_neg (by rw [hc]; simp)] at hF
        rw [hF]
        exact ⟨hlt, n, hn, by omega, e2, rfl⟩
      have hpush : ((D.take i).filter (chB l p)).map ienc ++ [ienc D[i]] = ((D.take i).filter (chB l p) ++ [D[i]]).map ienc := by rw [List.map_append]; rfl
      refine if_ (fun a1 => ?_) fun a1 => ?_
      · refine push (by simpa using hn) (by omega) ?_
        conv => whnf
        exact yes _ (has (by exact ⟨rfl, rfl, rfl, rfl, inc hlt (by simp only [maxLen]; omega), trivial⟩) (by rw [← hpush]; rfl)) (by rw [hch, a1]; rfl)
      refine if_ (fun a2 => ?_) fun a2 => ?_
      · refine push (by simpa using hn) (by omega) ?_
        conv => whnf
        exact yes _ (has (by exact ⟨rfl, rfl, rfl, rfl, inc hlt (by simp only [maxLen]; omega), trivial⟩) (by rw [← hpush]; rfl)) (by rw [hch, a1, a2]; rfl)
      refine if_ (fun a3 => ?_) fun a3 => ?_
      · refine push (by simpa using hn) (by omega) ?_
        conv => whnf
        exact yes _ (has (by exact ⟨rfl, rfl, rfl, rfl, inc hlt (by simp only [maxLen]; omega), trivial⟩) (by rw [← hpush]; rfl)) (by rw [hch, a1, a2, a3]; rfl)
      · conv => whnf
        exact no _ (has (by exact ⟨rfl, rfl, rfl, rfl, inc hlt (by simp only [maxLen]; omega), trivial⟩) rfl) (by rw [hch, a1, a2, a3]; rfl)
    · simp at hlt
      have hil : i = D.length := by omega
      subst hil
      rw [List.take_length, hres] at hn
      rw [List.take_length, hres]
      refine AW_rest (c' := restC 7 c48) ?_
      refine go [] [] ?_
      conv => whnf
      exact frzK_rows (k0 := 0) (xs := chL l p) rfl hn hn pdI (fun _ => rfl) (Nat.zero_le _)
  have tail2 : ∀ e0, AW Pg Tryz.f48.ntmps (fun _ => true) 0 (restC 3 c48) (fun ex s' => dret Pg Tryz.f48.results.toList (fun d H' _ => Frz H' d (rows ienc (chL l p))) [] ex s'.e s'.H) ⟨dupds e0 [(0, refG l), (1, di p), (5, rows ienc (daysA l))], []⟩ := by
    intro e0
    have hh := rHistory_c l p ha
    rw [hhs] at hh
    refine goC 1 [] [] ?_
    refine hh.call ?_
    conv => whnf
    refine AW_seq (AW_seq ?_)
    refine goC 1 [] [] ?_
    conv => whnf
    refine AW_block ?_
    refine AW_idx hs.length (fun i st => Has [(0, refG l), (1, di p), (5, rows ienc (daysB (hs.take i) (daysA l))), (7, rows Use.enc hs), (8, di i)] [] st) (has (by exact ⟨rfl, rfl, rfl, rfl, rfl, trivial⟩) rfl) ?_
    rintro i _ hi ⟨e1, rfl⟩
    refine go [] [] (if_ (fun hlt => ?_) (fun hlt => ?_))
    · simp at hlt
      have hB := daysB_take (d0 := daysA l) hlt
      refine row_at hlt ?_
      refine if_ (fun h1 => ?_) fun h1 => ?_
      · rw [if_pos (by simpa using h1)] at hB
        refine row_at hlt ?_
        refine (sorted_c _ _ (by have h1 := daysB_len (hs.take i) (daysA l); have h2 := daysA_len l; have h3 := List.length_take_le i hs; omega)).call ?_
        conv => whnf
        exact ⟨hlt, has (by exact ⟨rfl, rfl, by rw [hB]; rfl, rfl, inc hlt (by simp only [maxLen]; omega), trivial⟩) rfl⟩
      · rw [if_neg (by simpa using h1)] at hB
        exact ⟨hlt, has (by exact ⟨rfl, rfl, by rw [hB]; rfl, rfl, inc hlt (by simp only [maxLen]; omega), trivial⟩) rfl⟩
    · simp at hlt
      have hil : i = hs.length := by omega
      subst hil
      rw [List.take_length, hDB]
      exact AW_rest (c' := restC 5 c48) (AW_has tail3 (by exact ⟨rfl, rfl, rfl, trivial⟩))
  refine goC 2 [] [] ?_
  refine AW_nil 5 ?_
  refine AW_seq (AW_seq ?_)
  refine goC 1 [] [] ?_
  conv => whnf
  refine AW_block ?_
  refine AW_idx l.length (fun i st => Has [(0, refG l), (1, di p), (5, rows ienc (daysA (l.take i))), (6, di i)] [] st) (has (by exact ⟨rfl, rfl, rfl, rfl, trivial⟩) rfl) ?_
  rintro i _ hi ⟨e1, rfl⟩
  refine go [] [] (if_ (fun hlt => ?_) (fun hlt => ?_))
  · simp at hlt
    have hA : daysA (l.take (i + 1)) = addI (daysA (l.take i)) l[i].day := by
      unfold daysA
      rw [foldl_take _ _ hlt]
    refine row_at hlt ?_
    refine (sorted_c _ _ (by have h2 := daysA_len (l.take i); have h3 := List.length_take_le i l; omega)).call ?_
    conv => whnf
    exact ⟨hlt, has (by exact ⟨rfl, rfl, by rw [hA]; rfl, inc hlt (by simp only [maxLen]; omega), trivial⟩) rfl⟩
  · simp at hlt
    have hil : i = l.length := by omega
    subst hil
    rw [List.take_length]
    exact AW_rest (c' := restC 3 c48) (AW_has tail2 (by exact ⟨rfl, rfl, rfl, trivial⟩))
end Go.Proofs.YtpndfdfipkadkaaGreatDoor
set_option maxRecDepth 100000
namespace Go.Proofs.YtpndfdfipkadkaaGreatDoor
open Go Go.Wx Go.Ax
noncomputable def c11 : Code := Tryz.f11.body.getD .skip
theorem chL_len {l : List Ev} (ha : Acc l) (p : Int) : (chL l p).length ≤ 1000 := by
  unfold chL
  have h1 := List.length_filter_le (fun d => !(decide (d > 100000) || !chB l p d)) (uniqI (chDays l))
  have h2 : (uniqI (chDays l)).length ≤ (chDays l).length := by
    have := fold_len (fun (d : Int) out => addI out d) (fun d out => addI_len out d) (chDays l) []
    simpa [uniqI] using this
  rw [chDays_len] at h2
  have := ha.ok.len
  omega
theorem lawChanges_c (l : List Ev) (hs : ∀ e ∈ l, e.name.size ≤ maxLen) (p d : Int) : Pur Pg 11 [rows Ev.enc l, di p, di d] (db true) := by
  refine Pur_of (PdL.cons (pd_rows pdEv l) (.cons (.v _) (PdL.one (.v _)))) (AC_fn Tryz.func11 rfl rfl rfl [] (fun _ => true) (fun b h => nomatch h) (AW_rest (c' := restC 0 c11) ?_))
  refine goC 3 [] [] ?_
  rcases opened_cases (opened_c l hs) with g | ⟨h40, ha, g⟩
  · refine g.call ?_
    conv => whnf
    refine alive_c.call ?_
    exact frzt
  have hl := chL_len ha p
  refine g.call ?_
  conv => whnf
  refine AW_rest (c' := restC 3 c11) ?_
  refine goC 2 [] [] ?_
  refine (qChanges_c l p ha).call ?_
  refine (rChanges_c l p ha).call ?_
  refine (sameI_c _).call ?_
  conv => whnf
  refine AW_seq (AW_seq ?_)
  refine goC 1 [] [] ?_
  conv => whnf
  refine AW_block ?_
  refine AW_idx (chL l p).length (fun i st => (∀ j (h : j < i) (hj : j < (chL l p).length), (chL l p)[j] ≠ d) ∧ Has [(1, di p), (2, di d), (7, refG l), (38, rows ienc (chL l p)), (39, di (chL l p).length), (40, di i)] [] st) ⟨fun j h => absurd h (Nat.not_lt_zero j), has (by exact ⟨rfl, rfl, rfl, rfl, congrArg (fun n : Nat => di n) (List.length_map ..), rfl, trivial⟩) rfl⟩ ?_
  rintro i _ hi ⟨hno, e1, rfl⟩
  refine go [] [] (if_ (fun hlt => ?_) (fun hlt => ?_))
  · simp at hlt
    refine row_at hlt ?_
    refine if_ (fun h1 => ?_) fun h1 => ?_
    · conv => whnf
      refine alive_c.call ?_
      exact frzt
    · refine ⟨hlt, fun j h hj => ?_, has (by exact ⟨rfl, rfl, rfl, rfl, rfl, inc hlt (by simp only [maxLen]; omega), trivial⟩) rfl⟩
      rcases Nat.lt_or_eq_of_le (Nat.le_of_lt_succ h) with h' | rfl
      · exact hno j h' hj
      · simpa using h1
  · simp at hlt
    have hnot : d ∉ chL l p := fun hm => by
      obtain ⟨j, hj, hd⟩ := List.mem_iff_getElem.1 hm
      exact hno j (by omega) hj hd
    refine AW_rest (c' := restC 6 c11) ?_
    refine go [] [] ?_
    refine if_ (fun h1 => ?_) fun h1 => ?_
    · conv => whnf
      refine alive_c.call ?_
      exact frzt
    refine if_ (fun h2 => ?_) fun h2 => ?_
    · conv => whnf
      refine alive_c.call ?_
      exact frzt
    have h1 : 1 ≤ d := by simpa using h1
    have h2 : d ≤ 100000 := by simpa using h2
    have hw : IntKind.wrap .i64 (d - 1) = d - 1 := wrap_id (by omega) (by omega)
    have hch := ch_not ha h2 hnot
    unfold chB at hch
    rw [← hw] at hch
    simp only [Bool.not_eq_false', Bool.and_eq_true, decide_eq_true_eq, beq_iff_eq] at hch
    obtain ⟨k1, k2, k3⟩ := hch
    have q1 := qExists_c l p (IntKind.wrap .i64 (d - 1)) ha
    have q2 := qNames_c l p (IntKind.wrap .i64 (d - 1)) ha
    have q3 := qPath_c l p (IntKind.wrap .i64 (d - 1)) ha
    rw [k1] at q1
    rw [k2] at q2
    rw [k3] at q3
    conv => whnf
    refine alive_c.call ?_
    conv => whnf
    refine (qExists_c l p d ha).call ?_
    refine q1.call ?_
    refine ift (by simp) ?_
    refine (qNames_c l p d ha).call ?_
    refine q2.call ?_
    refine (sameS_c _).call ?_
    conv => whnf
    refine (qPath_c l p d ha).call ?_
    refine q3.call ?_
    refine (sameI_c _).call ?_
    exact frzt
end Go.Proofs.YtpndfdfipkadkaaGreatDoor
