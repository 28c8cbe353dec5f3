/- The law holds: part 48. Conditions: none. -/
import Derived.Test.YtpndfdfipkadkaaGreatDoorKP44
set_option linter.all false
set_option maxRecDepth 100000
namespace Go.Proofs.YtpndfdfipkadkaaGreatDoor
open Go Go.Wx Go.Ax
def pl121 : Plan := [(1, [.l 0, .p 1, .p 2, .l 4, .p 5, .e 3, .e 6, .p 7, .p 8]), (2, [.p 0, .l 1, .p 3, .l 4, .e 2, .e 5, .p 6, .p 7, .p 8, .l 9, .p 10, .p 11, .p 13, .l 14, .p 15, .e 12, .e 16, .e 17, .p 18, .p 19, .p 20, .l 21, .p 23, .l 24, .e 22, .e 25, .e 26, .p 27, .p 28])]
def pl122 : Plan := [(6, [.p 0, .p 1, .p 2, .l 3, .p 4, .p 5, .p 6, .l 7, .p 8])]
def pl123 : Plan := [(6, [.p 0, .p 1, .p 2, .l 3, .p 4, .p 5, .p 6, .l 7, .p 8])]
theorem equalI_c (a b : List Int) : Pur Pg 123 [rows ienc a, rows ienc b] (db (decide (a = b))) := by
  refine Pur_len 0 rfl fun hl => fn Tryz.func123 [] pl123 (.cons (pd_rows pdI a) (.cons (pd_rows pdI b) .nil)) ?_
  rw [List.length_map] at hl
  refine if_ (fun h0 => ?_) fun h0 => ?_
  · exact frzb (by simp at h0; rw [eq_comm, decide_eq_false_iff_not]; exact fun e => h0 (by rw [e]))
  have hlen : a.length = b.length := by simp at h0; omega
  refine AW_idx a.length (fun i st => (∀ j, j < i → ∀ (h1 : j < a.length) (h2 : j < b.length), a[j] = b[j]) ∧ Has [(0, rows ienc a), (1, rows ienc b), (12, di a.length), (13, di i)] [] st) ⟨fun j hj => absurd hj (by omega), has ⟨rfl, rfl, congrArg (fun n : Nat => di n) (List.length_map ..), rfl, trivial⟩ rfl⟩ ?_
  rintro i _ _ ⟨h3, e, rfl⟩
  refine go [] pl123 (if_ (fun hlt => ?_) (fun hlt => ?_))
  · simp at hlt
    have hlb : i < b.length := by omega
    refine row_at hlt (row_at hlb (if_ (fun h4 => ?_) fun h4 => ?_))
    · exact frzb (by rw [eq_comm, decide_eq_false_iff_not]; exact list_ne hlt hlb (by simpa using h4))
    · refine ⟨hlt, fun j hj h1 h2 => ?_, has ⟨rfl, rfl, rfl, inc hlt hl, trivial⟩ rfl⟩
      rcases Nat.lt_or_eq_of_le (Nat.le_of_lt_succ hj) with h | rfl
      · exact h3 j h h1 h2
      · simpa using h4
  · simp at hlt
    exact frzb (by rw [eq_comm, decide_eq_true_iff]; exact list_eq hlen fun j hj => h3 j (by omega))
theorem equalS_c (a b : List ByteArray) : Pur Pg 122 [rows senc a, rows senc b] (db (decide (a = b))) := by
  refine Pur_len 0 rfl fun hl => fn Tryz.func122 [] pl122 (.cons (pd_rows pdS a) (.cons (pd_rows pdS b) .nil)) ?_
  rw [List.length_map] at hl
  refine if_ (fun h0 => ?_) fun h0 => ?_
  · exact frzb (by simp at h0; rw [eq_comm, decide_eq_false_iff_not]; exact fun e => h0 (by rw [e]))
  have hlen : a.length = b.length := by simp at h0; omega
  refine AW_idx a.length (fun i st => (∀ j, j < i → ∀ (h1 : j < a.length) (h2 : j < b.length), a[j] = b[j]) ∧ Has [(0, rows senc a), (1, rows senc b), (12, di a.length), (13, di i)] [] st) ⟨fun j hj => absurd hj (by omega), has ⟨rfl, rfl, congrArg (fun n : Nat => di n) (List.length_map ..), rfl, trivial⟩ rfl⟩ ?_
  rintro i _ _ ⟨h3, e, rfl⟩
  refine go [] pl122 (if_ (fun hlt => ?_) (fun hlt => ?_))
  · simp at hlt
    have hlb : i < b.length := by omega
    refine row_at hlt (row_at hlb (if_ (fun h4 => ?_) fun h4 => ?_))
    · exact frzb (by rw [eq_comm, decide_eq_false_iff_not]; exact list_ne hlt hlb (by rw [strEq_eq] at h4; simpa using h4))
    · refine ⟨hlt, fun j hj h1 h2 => ?_, has ⟨rfl, rfl, rfl, inc hlt hl, trivial⟩ rfl⟩
      rcases Nat.lt_or_eq_of_le (Nat.le_of_lt_succ hj) with h | rfl
      · exact h3 j h h1 h2
      · rw [strEq_eq] at h4; simpa using h4
  · simp at hlt
    exact frzb (by rw [eq_comm, decide_eq_true_iff]; exact list_eq hlen fun j hj => h3 j (by omega))
theorem change1_c (l : List Ev) (ha : Acc l) (p d : Int) (h0 : -1000000 ≤ d) (h1 : d ≤ 1000000) : Pur Pg 121 [di d, .fp [refG l], .fp [di p]] (db (decide (d > 100000) || !chB l p d)) := by
  refine fn Tryz.func121 [] pl121 (.cons (.v _) (.cons (.fp (PdL.one (pd_refG l))) (.cons (.fp (PdL.one (.v _))) .nil))) ?_
  have hw : IntKind.wrap .i64 (d - 1) = d - 1 := wrap_id (by omega) (by omega)
  obtain ⟨w, hwe⟩ : ∃ w, IntKind.wrap .i64 (d - 1) = w := ⟨_, rfl⟩
  have hwd : w = d - 1 := by rw [← hwe]; exact hw
  have g1 := onP_c l (IntKind.wrap .i64 (d - 1)) ha
  have g2 := onP_c l d ha
  have s1 := acc_onSt ha (IntKind.wrap .i64 (d - 1))
  have s2 := acc_onSt ha d
  have hch : chB l p d = !(hereB (prg (onL l (IntKind.wrap .i64 (d - 1)))) p == hereB (prg (onL l d)) p && (decide (namesL (prg (onL l (IntKind.wrap .i64 (d - 1)))) p (IntKind.wrap .i64 (d - 1)) = namesL (prg (onL l d)) p d) && decide (pth (prg (onL l (IntKind.wrap .i64 (d - 1)))) p = pth (prg (onL l d)) p))) := by
    unfold chB
    rw [hw, here_prg, here_prg, names_prg, names_prg, pth_prg, pth_prg]
  refine g1.call ?_
  refine g2.call ?_
  refine (exists_c _ p).call ?_
  refine (exists_c _ p).call ?_
  conv => whnf
  refine if_ (fun e1 => ?_) fun e1 => ?_
  · refine (namesP_c _ p (IntKind.wrap .i64 (d - 1)) (acc_uses ha _)).call ?_
    refine (namesP_c _ p d (acc_uses ha _)).call ?_
    refine (equalS_c _ _).call ?_
    refine if_ (fun e2 => ?_) fun e2 => ?_
    · refine (s1.path_c p).call ?_
      refine (s2.path_c p).call ?_
      refine (equalI_c _ _).call ?_
      refine if_ (fun e3 => ?_) fun e3 => ?_
      · exact frzb (by rw [e3]; rfl)
      · exact frzb (by rw [e3, hch, e1, e2]; simp)
    · conv => whnf
      refine if_ (fun e3 => ?_) fun e3 => ?_
      · exact frzb (by rw [e3]; rfl)
      · exact frzb (by rw [e3, hch, e1, e2]; simp)
  · conv => whnf
    refine if_ (fun e3 => ?_) fun e3 => ?_
    · exact frzb (by rw [e3]; rfl)
    · exact frzb (by rw [e3, hch, e1]; simp)
end Go.Proofs.YtpndfdfipkadkaaGreatDoor
set_option maxRecDepth 100000
namespace Go.Proofs.YtpndfdfipkadkaaGreatDoor
open Go Go.Wx Go.Ax
noncomputable def c47 : Code := Tryz.f47.body.getD .skip
theorem chDays_take {l : List Ev} {i : Nat} (h : i < l.length) : chDays (l.take (i + 1)) = chDays (l.take i) ++ [l[i].day, l[i].day + 3650] := by
  unfold chDays
  rw [take_snoc h, List.flatMap_append]
  simp
theorem chDays_len (l : List Ev) : (chDays l).length = 2 * l.length := by
  unfold chDays
  induction l with
  | nil => rfl
  | cons x l ih => rw [List.flatMap_cons, List.length_append, ih]; simp; omega
theorem chDays_rng {l : List Ev} (ha : Acc l) {d : Int} (h : d ∈ chDays l) : 0 ≤ d ∧ d ≤ 200000 := by
  obtain ⟨e, he, hd⟩ := List.mem_flatMap.1 h
  have f := ha.ok.form e he
  have h0 := f.day0
  have h1 := f.day1
  simp at hd
  omega
theorem qChanges_c (l : List Ev) (p : Int) (ha : Acc l) : Pur Pg 47 [refG l, di p] (rows ienc (chL l p)) := by
  have hlen := ha.ok.len
  refine Pur_of (PdL.cons (pd_refG l) (PdL.one (.v _))) (AC_fn Tryz.func47 rfl rfl rfl [] (fun _ => true) (fun b h => nomatch h) (AW_rest (c' := restC 0 c47) ?_))
  refine goC 3 [] [] ?_
  refine AW_rest (c' := restC 3 c47) ?_
  refine AW_has (l := [(2, .ptr 0 0 0 1), (3, .ptr 1 0 0 1), (5, .v (.slice none 0 0))]) (fun e0 => ?_) (by exact ⟨rfl, rfl, rfl, trivial⟩)
  refine AW_frz (r := [(2, .fp [refG l]), (3, .fp [di p]), (5, .v (.slice none 0 0))]) (H1 := []) (G := [.arr 35 1 [[refG l]], .arr 3 1 [[di p]]]) (Nat.le_refl _) (fun _ h => nomatch h) ⟨rfl, .fz (.fp rfl rfl (FrzL.refl (PdL.one (pd_refG l))).2), rfl, .fz (.fp rfl rfl (FrzL.refl (PdL.one (.v _))).2), rfl, .v, trivial⟩ fun e1 => ?_
  refine AW_ghost 5 3 1 (Nat.zero_le _) ?_
  refine AW_seq (AW_seq ?_)
  refine goC 1 [] [] ?_
  conv => whnf
  refine AW_block ?_
  refine AW_idx l.length (fun i st => HasG [(2, .fp [refG l]), (3, .fp [di p]), (5, .sl 0 0 (2 * i) (2 * i)), (13, rows Ev.enc l), (14, di l.length), (15, di i)] [.arr 3 1 ((chDays (l.take i)).map ienc)] st) (hasG (G := []) (by exact ⟨rfl, rfl, rfl, rfl, congrArg (fun n : Nat => di n) (List.length_map ..), rfl, trivial⟩) rfl) ?_
  rintro i _ hi ⟨e2, G, rfl⟩
  have hn : (chDays (l.take i)).length = 2 * i := by rw [chDays_len, List.length_take]; omega
  refine AW_drop (BlL.cons (.pd (.fp (PdL.one (pd_refG l)))) (BlL.cons (.pd (.fp (PdL.one (.v _)))) (BlL.cons (.sl (by simp)) (BlL.cons (.pd (pd_rows pdEv l)) (BlL.v (BlL.v BlL.nil)))))) (fun o ho => by rw [List.mem_singleton.1 ho]; exact BlO.enc pdI) (Nat.zero_le _) fun e2 => ?_
  refine go [] [] (if_ (fun hlt => ?_) (fun hlt => ?_))
  · simp at hlt
    refine row_at hlt ?_
    have f := ha.ok.form l[i] (List.getElem_mem hlt)
    have hw : IntKind.wrap .i64 (l[i].day + 3650) = l[i].day + 3650 := by
      have h0 := f.day0
      have h1 := f.day1
      exact wrap_id (by omega) (by omega)
    have hcell : [[D.v (.int .i64 l[i].day)], [D.v (.int .i64 (IntKind.wrap .i64 (l[i].day + 3650)))]] = [l[i].day, l[i].day + 3650].map ienc := by rw [hw]; rfl
    conv => whnf
    refine ck (by rw [List.length_map, hn]; exact Nat.beq_refl _) ?_
    refine ck (Nat.beq_refl _) ?_
    refine ck (bnd_ok (by show 2 * i + 2 ≤ 1000000; omega) (Nat.le_of_ble_eq_true rfl)) ?_
    conv => whnf
    exact ⟨hlt, hasG (G := [AO.arr 23 5 [l[i].enc]]) (by exact ⟨rfl, rfl, rfl, rfl, rfl, inc hlt (by simp only [maxLen]; omega), trivial⟩) (by rw [chDays_take hlt, List.map_append, ← hcell]; rfl)⟩
  · simp at hlt
    have hil : i = l.length := by omega
    subst hil
    rw [List.take_length] at hn ⊢
    refine AW_rest (c' := restC 4 c47) ?_
    refine go [] [] ?_
    conv => whnf
    refine AC.mono (uniqueI_c (chDays l) (b := 0) (n := 2 * l.length) (H := [AO.arr 3 1 ((chDays l).map ienc)]) rfl hn (by omega)) ?_
    rintro _ _ _ ⟨ys, h1, h2, h3, rfl, rfl, rfl⟩
    conv => whnf
    have hdel := deleteFunc_c ys (uniqI (chDays l)).length (2 * l.length) 121 [.fp [refG l], .fp [di p]] (fun d => decide (d > 100000) || !chB l p d) h1 h3 (by omega) (.cons (.fp (PdL.one (pd_refG l))) (.cons (.fp (PdL.one (.v _))) .nil)) fun q hq => by
      rw [h2, uniqI_mem] at hq
      have := chDays_rng ha hq
      exact change1_c l ha p q (by omega) (by omega)
    refine AC.mono hdel ?_
    rintro _ _ _ ⟨zs, g1, g2, rfl, rfl, rfl⟩
    rw [h2] at g2 ⊢
    have hch : (uniqI (chDays l)).filter (fun x => !(decide (x > 100000) || !chB l p x)) = chL l p := rfl
    rw [hch] at g2 ⊢
    have hle : (chL l p).length ≤ zs.length := by rw [← g2]; simp; omega
    have hf := frzK_take (k0 := 0) (H := [AO.arr 3 1 (zs.map ienc)]) (b := 0) (enc := ienc) (n := (chL l p).length) (T := 3) (sz := 1) rfl hle g1 pdI (fun _ => rfl) (Nat.le_refl _)
    rw [g2] at hf
    exact hf
end Go.Proofs.YtpndfdfipkadkaaGreatDoor
