/- The law holds: part 44. Conditions: none. -/
import Derived.Test.YtpndfdfipkadkaaGreatDoorKP43
set_option linter.all false
set_option maxRecDepth 100000
namespace Go.Proofs.YtpndfdfipkadkaaGreatDoor
open Go Go.Wx Go.Ax
theorem from_ {n i : Nat} (h : i ≤ n) : (pos' (some (i : Int)) && (pos' none && (Nat.ble (lo' (some (i : Int))) (hi' n none) && Nat.ble (hi' n none) n))) = true := by
  simp [pos', lo', hi', nonneg_iff.2 (Int.natCast_nonneg i), h]
section
variable {l : List Ev} {day : Int} {s : List Pl} {o1 o2 o3 : D}
theorem tree8 (h : Asks l day s) (p : Int) (e0 : Nat → D) (hN : (pth s p).length ≤ maxLen) :
    AW Pg 215 (fun _ => true) 0 (restC 11 b10) (KL [(1, di day), (5, refG l), (8, o1), (44, o1), (45, o2), (46, o3)])
      ⟨dupds e0 [(1, di day), (5, refG l), (8, o1), (44, o1), (45, o2), (46, o3), (11, rows ienc (pth s p)), (188, rows ienc (pth s p)), (189, di (pth s p).length), (190, di 0)], []⟩ := by
  refine AW_block ?_
  refine AW_idx (pth s p).length (fun i st => Has [(1, di day), (5, refG l), (8, o1), (44, o1), (45, o2), (46, o3), (11, rows ienc (pth s p)), (188, rows ienc (pth s p)), (189, di (pth s p).length), (190, di i)] [] st) ⟨_, rfl⟩ ?_
  rintro i _ hi ⟨e0, rfl⟩
  refine go [] pl10 (if_ (fun hlt => ?_) (fun hlt => ?_))
  · simp at hlt
    have ht := pth_tail h.inv.toInv0 p hlt
    refine row_at hlt ?_
    refine (h.ex _).call ?_
    refine iff_ (by rw [ht.1]; rfl) ?_
    conv => whnf
    have hw : IntKind.wrap .i64 ((i : Int) + 1) = ((i + 1 : Nat) : Int) := by
      simp only [maxLen] at hN
      rw [wrap_id (by omega) (by omega)]
      omega
    refine ck (by rw [hw]; exact and_t (from_ (by rw [List.length_map]; exact hlt)) (enc_all fun _ => rfl)) ?_
    conv => whnf
    refine (h.path _).call ?_
    conv => whnf
    refine AC.via (Pur.call (sameI_c ((pth s p).drop (i + 1))) ?_) ?_
    · conv => whnf
      exact ⟨hlt, has ⟨rfl, rfl, rfl, rfl, rfl, rfl, rfl, rfl, rfl, inc hlt hN, trivial⟩ rfl⟩
    · refine congr (congrArg List.cons (congrArg (rows ienc) ht.2)) (congrArg (fun x => [x]) ?_)
      conv => lhs; whnf
      rw [hw]
      simp [cutL, rows, List.map_drop]
  · exact ⟨rfl, has ⟨rfl, rfl, rfl, rfl, rfl, rfl, trivial⟩ rfl⟩
theorem tree1 (h : Asks l day s) (i : Nat) (hlt : i < (allL s).length) (e0 : Nat → D) (hm : (allL s).length ≤ maxLen) (hI : ∀ p, (insideL s p).length ≤ maxLen) (hP : ∀ p, (pth s p).length ≤ maxLen) (hN : ∀ p, (namesL s p day).length ≤ maxLen) (hC : ∀ n, (calledL s n day).length ≤ maxLen) (hnm : ∀ p, hereB s p = true → nameL s p ∈ namesL s p day) :
    AW Pg 215 (fun _ => true) 0 b10 (KL [(1, di day), (5, refG l), (8, rows ienc (allL s)), (44, rows ienc (allL s)), (45, di (allL s).length), (46, di i)])
      ⟨dupds e0 [(1, di day), (5, refG l), (8, rows ienc (allL s)), (44, rows ienc (allL s)), (45, di (allL s).length), (46, di i)], []⟩ := by
  have hall := fun q => all_mem (s := s) (q := q) h.inv.ids
  have hrise := all_rise s
  obtain ⟨p, hpe⟩ : ∃ p, (allL s)[i] = p := ⟨_, rfl⟩
  have hp : hereB s p = true := hpe ▸ (hall _).1 (List.getElem_mem hlt)
  let o1 := rows ienc (allL s)
  have tail : ∀ e0, AW Pg 215 (fun _ => true) 0 (restC 2 b10) (KL [(1, di day), (5, refG l), (8, rows ienc (allL s)), (44, rows ienc (allL s)), (45, di (allL s).length), (46, di i)])
      ⟨dupds e0 [(1, di day), (5, refG l), (8, rows ienc (allL s)), (44, rows ienc (allL s)), (45, di (allL s).length), (46, di i), (10, di p)], []⟩ := by
    intro e0
    have tail2 : ∀ e0, AW Pg 215 (fun _ => true) 0 (restC 5 b10) (KL [(1, di day), (5, refG l), (8, rows ienc (allL s)), (44, rows ienc (allL s)), (45, di (allL s).length), (46, di i)])
        ⟨dupds e0 [(1, di day), (5, refG l), (8, rows ienc (allL s)), (44, rows ienc (allL s)), (45, di (allL s).length), (46, di i), (10, di p), (11, rows ienc (pth s p))], []⟩ := by
      intro e0
      refine goC 1 [] pl10 ?_
      conv => whnf
      refine AW_seq (AW_seq ?_)
      refine goC 1 [] pl10 ?_
      refine (h.ins p).call ?_
      conv => whnf
      refine AW_mono (AW_rest (c' := restC 1 (fstC (restC 6 b10))) (AW_has (fun e0 => tree2 h p (rows ienc (pth s p)) hp e0 (hI p)) (by exact ⟨rfl, rfl, rfl, rfl, rfl, rfl, rfl, rfl, rfl, rfl, congrArg (fun n : Nat => di n) (List.length_map ..), rfl, trivial⟩))) ?_
      rintro ex st ⟨rfl, e1, rfl⟩
      refine goC 1 [] pl10 ?_
      conv => whnf
      refine AW_seq (AW_seq ?_)
      refine goC 1 [] pl10 ?_
      refine (h.names p).call ?_
      conv => whnf
      refine AW_mono (AW_rest (c' := restC 1 (fstC (restC 8 b10))) (AW_has (fun e0 => tree4 h p (rows ienc (pth s p)) (db ((insideL s p).any (· == p))) hp e0 (namesL s p day) rfl (hN p) hC) (by exact ⟨rfl, rfl, rfl, rfl, rfl, rfl, rfl, rfl, rfl, rfl, rfl, congrArg (fun n : Nat => di n) (List.length_map ..), rfl, trivial⟩))) ?_
      rintro ex st ⟨rfl, e2, rfl⟩
      refine goC 2 [] pl10 ?_
      refine iff_ (by rw [any_hit ((mem_inside h.inv.ids).2 ⟨hp, cont_self hp⟩)]; rfl) ?_
      refine iff_ (by rw [show ((namesL s p day).any fun x => strEq x (nameL s p)) = true from List.any_eq_true.2 ⟨nameL s p, hnm p hp, strEq_refl _⟩]; rfl) ?_
      conv => whnf
      refine AW_mono (AW_rest (c' := restC 11 b10) (AW_has (fun e0 => tree8 h p e0 (hP p)) (by exact ⟨rfl, rfl, rfl, rfl, rfl, rfl, rfl, rfl, congrArg (fun n : Nat => di n) (List.length_map ..), rfl, trivial⟩))) ?_
      rintro ex st ⟨rfl, e3, rfl⟩
      exact ⟨rfl, has ⟨rfl, rfl, rfl, rfl, rfl, rfl, trivial⟩ rfl⟩
    refine goC 3 [] pl10 ?_
    refine (h.path p).call ?_
    refine (h.par p).call ?_
    refine iff_ (by have := h.inv.dep p; simp; omega) ?_
    refine iff_ (by
      rcases pth_head h.inv.toInv0 p with ⟨h1, h2⟩ | ⟨h1, r, h2⟩
      · rw [h2, h1]; rfl
      · rw [h2, beq_eq_false_iff_ne.2 h1, show (((((parI s p :: r).map ienc).length : Nat) : Int) == 0) = false by simp; omega]; rfl) ?_
    refine if_ (fun h1 => ?_) fun h1 => ?_
    · refine lst_at (ds := ienc (parI s p)) (by
          rcases pth_head h.inv.toInv0 p with ⟨_, h2⟩ | ⟨_, r, h2⟩
          · rw [h2] at h1; simp at h1
          · rw [h2]; rfl) ?_
      refine iff_ (by simp) ?_
      exact AW_rest (c' := restC 5 b10) (AW_has (fun e0 => tail2 e0) (by exact ⟨rfl, rfl, rfl, rfl, rfl, rfl, rfl, rfl, trivial⟩))
    · exact AW_rest (c' := restC 5 b10) (AW_has (fun e0 => tail2 e0) (by exact ⟨rfl, rfl, rfl, rfl, rfl, rfl, rfl, rfl, trivial⟩))
  have fin : ∀ e : Nat → D, Agr e [(1, di day), (5, refG l), (8, rows ienc (allL s)), (44, rows ienc (allL s)), (45, di (allL s).length), (46, di i), (10, di p)] → AW Pg 215 (fun _ => true) 0 (restC 2 b10) (KL [(1, di day), (5, refG l), (8, rows ienc (allL s)), (44, rows ienc (allL s)), (45, di (allL s).length), (46, di i)]) ⟨e, []⟩ := fun e he => AW_has tail he
  refine goC 2 [] pl10 ?_
  refine row_at hlt ?_
  rw [hpe]
  refine if_ (fun h0 => ?_) fun h0 => ?_
  · have hi0 : 0 < i := by simpa using h0
    have hw : IntKind.wrap .i64 ((i : Int) - 1) = ((i - 1 : Nat) : Int) := by
      simp only [maxLen] at hm
      rw [wrap_id (by omega) (by omega)]
      omega
    refine lst_at (ds := ienc ((allL s)[i - 1]'(by omega))) (by rw [hw]; exact ixl_at (by rw [List.getElem?_map, List.getElem?_eq_getElem (by omega)]; rfl)) ?_
    refine iff_ (by have := List.pairwise_iff_getElem.1 hrise (i - 1) i (by omega) hlt (by omega); rw [← hpe]; simp; omega) ?_
    refine (h.ex p).call ?_
    refine iff_ (by rw [hp]; rfl) ?_
    refine (h.go p).call ?_
    refine iff_ (by simp [end_here hp]) ?_
    refine (h.com p p).call ?_
    refine iff_ (by simp [com_top h.inv.par h.inv.fin (cont_self hp)]) ?_
    exact AW_rest (c' := restC 2 b10) (fin _ (by exact ⟨rfl, rfl, rfl, rfl, rfl, rfl, rfl, trivial⟩))
  · refine (h.ex p).call ?_
    refine iff_ (by rw [hp]; rfl) ?_
    refine (h.go p).call ?_
    refine iff_ (by simp [end_here hp]) ?_
    refine (h.com p p).call ?_
    refine iff_ (by simp [com_top h.inv.par h.inv.fin (cont_self hp)]) ?_
    exact AW_rest (c' := restC 2 b10) (fin _ (by exact ⟨rfl, rfl, rfl, rfl, rfl, rfl, rfl, trivial⟩))
end
end Go.Proofs.YtpndfdfipkadkaaGreatDoor
set_option maxRecDepth 100000
namespace Go.Proofs.YtpndfdfipkadkaaGreatDoor
open Go Go.Wx Go.Ax
theorem inside_len {s : List Pl} (hn : (s.map (·.id)).Nodup) (p : Int) : (insideL s p).length ≤ s.length := by
  rw [← insideL_eq]
  exact Nat.le_trans (List.length_filter_le _ _) (all_len hn)
theorem called_len {s : List Pl} (hn : (s.map (·.id)).Nodup) (n : ByteArray) (d : Int) : (calledL s n d).length ≤ s.length := by
  rw [← calledL_eq hn]
  exact Nat.le_trans (List.length_filter_le _ _) (all_len hn)
theorem names_len {s : List Pl} (hf : ∀ x ∈ s, x.uses.length ≤ 16) (p d : Int) : (namesL s p d).length ≤ 16 := by
  unfold namesL
  cases hg : get s p with
  | none => simp
  | some x =>
    simp only
    split
    · exact Nat.le_trans (using_len _ _) (hf x (get_mem hg).1)
    · simp
theorem on_name {l : List Ev} (ha : Acc l) {day p : Int} (h : hereB (onL l day) p = true) : nameL (onL l day) p ∈ namesL (onL l day) p day := by
  by_cases h0 : day < 0 ∨ 100000 < day
  · rw [on_out h0] at h; cases h
  · obtain ⟨k, k1, k2, k3, _⟩ := on_part ha (d := day) (by omega) (by omega)
    rw [k2] at h ⊢
    exact name_in (ha.pre k) k3 (by omega) h
theorem lawTree_c (l : List Ev) (day : Int) : Pur Pg 10 [rows Ev.enc l, di day] (db true) := by
  refine Pur_of (PdL.cons (pd_rows pdEv l) (PdL.one (.v _))) (AC_fn Tryz.func10 rfl rfl rfl [] (fun _ => true) (fun b h => nomatch h) (AW_rest (c' := restC 0 c10) ?_))
  refine goC 2 [] pl10 ?_
  refine if_ (fun _ => ?_) (fun _ => ?_)
  · refine alive_c.call ?_
    exact frzt
  conv => whnf
  rcases open_cases (openF_c l) with ⟨i, e, he, g⟩ | ⟨ha, g⟩
  · refine goC 2 [] pl10 ?_
    refine g.call ?_
    conv => whnf
    refine alive_c.call ?_
    exact frzb (by simp [he])
  have h := asks ha day
  obtain ⟨s, hs⟩ : ∃ s, onL l day = s := ⟨_, rfl⟩
  have hnm : ∀ p, hereB s p = true → nameL s p ∈ namesL s p day := fun p hp => by
    subst hs
    exact on_name ha hp
  rw [hs] at h
  have hM : s.length ≤ maxLen := by have := h.few; simp only [maxLen]; omega
  have hall := Nat.le_trans (all_len h.inv.ids) hM
  refine goC 3 [] pl10 ?_
  refine g.call ?_
  conv => whnf
  refine h.all.call ?_
  conv => whnf
  refine AW_seq (AW_seq ?_)
  refine goC 1 [] pl10 ?_
  conv => whnf
  refine AW_block ?_
  refine AW_idx (allL s).length (fun i st => Has [(1, di day), (5, refG l), (8, rows ienc (allL s)), (44, rows ienc (allL s)), (45, di (allL s).length), (46, di i)] [] st) (has ⟨rfl, rfl, rfl, rfl, congrArg (fun n : Nat => di n) (List.length_map ..), rfl, trivial⟩ rfl) ?_
  rintro i _ hi ⟨e0, rfl⟩
  refine goC 2 [] pl10 (if_ (fun hlt => ?_) (fun hlt => ?_))
  · simp at hlt
    refine AW_seq (AW_block (AW_mono (AW_rest (c' := b10) (AW_has (fun e0 => tree1 h i hlt e0 hall (fun p => Nat.le_trans (inside_len h.inv.ids p) hM) (fun p => Nat.le_trans (h.inv.fin.pth h.inv.par p).2 hM) (fun p => Nat.le_trans (names_len h.inv.few p day) (by decide)) (fun n => Nat.le_trans (called_len h.inv.ids n day) hM) hnm) (by exact ⟨rfl, rfl, rfl, rfl, rfl, rfl, trivial⟩))) ?_))
    rintro ex st ⟨rfl, e1, rfl⟩
    refine go [] pl10 ?_
    exact ⟨hlt, has ⟨rfl, rfl, rfl, rfl, rfl, inc hlt hall, trivial⟩ rfl⟩
  · refine go [] pl10 ?_
    refine alive_c.call ?_
    exact frzt
end Go.Proofs.YtpndfdfipkadkaaGreatDoor
