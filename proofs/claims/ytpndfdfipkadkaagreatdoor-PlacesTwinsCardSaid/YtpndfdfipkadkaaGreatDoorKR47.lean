/- The law holds: part 201. Conditions: none. -/
import Derived.Test.YtpndfdfipkadkaaGreatDoorKR41
import Derived.Test.YtpndfdfipkadkaaGreatDoorKR46
set_option linter.all false
set_option maxRecDepth 100000
namespace Go.Proofs.YtpndfdfipkadkaaGreatDoor
open Go Go.Wx Go.Ax
end Go.Proofs.YtpndfdfipkadkaaGreatDoor
set_option maxRecDepth 100000
namespace Go.Proofs.YtpndfdfipkadkaaGreatDoor
open Go Go.Wx Go.Ax
end Go.Proofs.YtpndfdfipkadkaaGreatDoor
set_option maxRecDepth 100000
namespace Go.Proofs.YtpndfdfipkadkaaGreatDoor
open Go Go.Wx Go.Ax
theorem prg_names {l : List Ev} (p d : Int) : namesL (prg (onL l d)) p d = namesL (onL l d) p d := names_prg _ _ _
end Go.Proofs.YtpndfdfipkadkaaGreatDoor
set_option maxRecDepth 100000
namespace Go.Proofs.YtpndfdfipkadkaaGreatDoor
open Go Go.Wx Go.Ax
def twV (touch : List ByteArray → List ByteArray → Bool) (s : List Spell) (st : List Pl) (p d : Int) : List Int × Int :=
 if chkS s ≠ 0 then ([], chkS s) else if hereB st p = false then ([], 5) else if (allL st).any (fun q => manyL (namesL st q d) s != 0) then ([], 2) else ((allL st).filter (fun q => touch (namesL st p d) (namesL st q d) && q != p), 0)
def twD (v : List Int × Int) : D := .tup [rows ienc v.1, di v.2]
theorem frzTw {H : Heap} {v : List Int × Int} {xs : List Int} {e : Int} {x : D} (h : (xs, e) = v) (hx : FrzK 0 H x (rows ienc xs)) : Frz H (.tup [x, di e]) (twD v) := by
 rw [← h]
 exact Frz.tup2 hx (.pd (.v _))
theorem frzNo {H : Heap} : FrzK 0 H (.v (.slice none 0 0)) (rows ienc []) := .nil
theorem many_app {xs ys : List ByteArray} {l : List Spell} : manyL (xs ++ ys) l = 0 ↔ manyL xs l = 0 ∧ manyL ys l = 0 := by
 have h : ∀ zs, manyL zs l = 0 ↔ ∀ z ∈ zs, (mtL z l).length ≤ 100 := fun zs => by
  unfold manyL
  constructor
  ·intro h z hz
   split at h
   ·cases h
   ·rename_i hx
    apply Classical.byContradiction
    intro hc
    exact hx (List.any_eq_true.2 ⟨z, hz, by simp; omega⟩)
  ·intro h
   rw [if_neg]
   rw [List.any_eq_true]
   rintro ⟨z, hz, h2⟩
   have := h z hz
   simp at h2; omega
 rw [h, h, h]
 constructor
 ·intro g
  exact ⟨fun z hz => g z (List.mem_append_left _ hz), fun z hz => g z (List.mem_append_right _ hz)⟩
 ·rintro ⟨g1, g2⟩ z hz
  exact (List.mem_append.1 hz).elim (g1 z) (g2 z)
noncomputable def c38 : Code := Tryz.f38.body.getD .skip
theorem rTwins_c (l : List Ev) (ha : Acc l) (p d : Int) (s : List Spell) (hok : ∀ x ∈ s, x.ok) : Pur Pg 38 [refG l, di p, di d, rows Spell.enc s] (twD (twV (touchR s) s (onL l d) p d)) := by
 refine Pur_of (PdL.cons (pd_refG l) (.cons (.v _) (.cons (.v _) (.one (pd_rows pdSpell s))))) (AC_fn Tryz.func38 rfl rfl rfl [] (fun _ => true) (fun b h => nomatch h) (AW_rest (c' := restC 0 c38) ?_))
 refine goC 8 [] [] ?_
 refine (refCheck_c s).call ?_
 refine if_ (fun h => ?_) fun h => ?_
 ·exact frzTw (by unfold twV; rw [if_pos (by simpa using h)]) frzNo
 have hS : chkS s = 0 := by simpa using h
 refine (rExists_c l p d ha).call ?_
 refine if_ (fun h => ?_) fun h => ?_
 ·exact frzTw (by unfold twV; rw [if_neg (by rw [hS]; simp), if_pos (by simpa using h)]) frzNo
 have hE : hereB (onL l d) p = true := by simpa using h
 have hon := names_ok ha p d
 have hol : (namesL (onL l d) p d).length ≤ 16 := names_len (acc_few ha d) p d
 refine (rNames_c l p d ha).call ?_
 conv => whnf
 refine (rAll_c l d ha).call ?_
 conv => whnf
 have hal : (allL (onL l d)).length ≤ 100000 := by have := all_len (ha.invOn d).1.ids; have := (ha.invOn d).2; omega
 have hpm : p ∈ allL (onL l d) := (all_mem (ha.invOn d).1.ids).2 hE
 obtain ⟨all, hall⟩ : ∃ all, all = allL (onL l d) := ⟨_, rfl⟩
 obtain ⟨own, hown⟩ : ∃ own, own = namesL (onL l d) p d := ⟨_, rfl⟩
 rw [← hall] at hal hpm ⊢
 rw [← hown] at hon hol ⊢
 have hbad : ∀ q ∈ all, manyL (own ++ namesL (onL l d) q d) s ≠ 0 → (([], 2) : List Int × Int) = twV (touchR s) s (onL l d) p d := fun q hq h => by
  unfold twV
  rw [if_neg (by rw [hS]; simp), if_neg (by rw [hE]; simp), ← hall, if_pos]
  rw [List.any_eq_true]
  by_cases h1 : manyL own s = 0
  ·refine ⟨q, hq, ?_⟩
   simp only [bne_iff_ne]
   exact fun h2 => h (many_app.2 ⟨h1, h2⟩)
  ·exact ⟨p, hpm, by simpa [← hown] using h1⟩
 refine AW_ghost 14 3 1 (Nat.zero_le _) ?_
 refine go [] [] ?_
 refine AW_idx all.length (fun i st => ∃ out n, out = (all.take i).filter (fun q => touchR s own (namesL (onL l d) q d) && q != p) ∧ out.length = n ∧ (∀ q ∈ all.take i, manyL (own ++ namesL (onL l d) q d) s = 0) ∧ HasG [(0, refG l), (1, di p), (2, di d), (3, rows Spell.enc s), (12, rows senc own), (13, rows ienc all), (14, .sl 0 0 n n), (15, di i)] [.arr 3 1 (out.map ienc)] st) ⟨[], 0, rfl, rfl, by simp, hasG (G := []) ⟨rfl, rfl, rfl, rfl, rfl, rfl, rfl, rfl, trivial⟩ rfl⟩ ?_
 rintro i _ hi ⟨out, n, ho, hn, hz, e0, G, rfl⟩
 have hnb : n ≤ 100000 := by
  have h1 := List.length_filter_le (fun q => touchR s own (namesL (onL l d) q d) && q != p) (all.take i)
  rw [← ho, List.length_take] at h1
  omega
 refine AW_drop (BlL.cons (.pd (pd_refG l)) (.v (.v (.cons (.pd (pd_rows pdSpell s)) (.cons (.pd (pd_rows pdS own)) (.cons (.pd (pd_rows pdI all)) (.cons (.sl (by simp)) (.v .nil)))))))) (BlH.cons (BlO.enc pdI) .nil) (Nat.zero_le _) fun e => ?_
 refine go [] [] (if_ (fun hlt => ?_) (fun hlt => ?_))
 ·simp at hlt
  refine row_at hlt ?_
  have hq : all[i] ∈ all := List.getElem_mem hlt
  refine (rNames_c l all[i] d ha).call ?_
  conv => whnf
  refine (rApart_c s hok hS own (namesL (onL l d) all[i] d) hon (names_ok ha _ d) hol (names_len (acc_few ha d) _ d)).call ?_
  by_cases hb : manyL (own ++ namesL (onL l d) all[i] d) s = 0
  ·have hv : rApV s own (namesL (onL l d) all[i] d) = (!touchR s own (namesL (onL l d) all[i] d), 0) := by unfold rApV; rw [if_neg (by rw [hb]; simp)]
   rw [hv]
   have hz2 : ∀ q ∈ all.take (i + 1), manyL (own ++ namesL (onL l d) q d) s = 0 := fun q hq => by
    rw [List.take_succ_eq_append_getElem hlt, List.mem_append, List.mem_singleton] at hq
    exact hq.elim (hz q) fun h => h ▸ hb
   have hft := filtT (p := fun q => touchR s own (namesL (onL l d) q d) && q != p) hlt
   cases hT : touchR s own (namesL (onL l d) all[i] d) with
   | false =>
    rw [hT, Bool.false_and, if_neg (by simp), ← ho] at hft
    conv => whnf
    exact ⟨hlt, out, n, hft.symm, hn, hz2, hasG ⟨rfl, rfl, rfl, rfl, rfl, rfl, rfl, inc hlt (by simp only [maxLen]; omega), trivial⟩ rfl⟩
   | true =>
    rw [hT, Bool.true_and, ← ho] at hft
    refine row_at hlt ?_
    conv => whnf
    refine if_ (fun h9 => ?_) fun h9 => ?_
    ·rw [if_pos h9] at hft
     refine row_at hlt ?_
     refine push (by simp [hn]) (by omega) ?_
     exact ⟨hlt, out ++ [all[i]], n + 1, hft.symm, by simp [hn], hz2, hasG ⟨rfl, rfl, rfl, rfl, rfl, rfl, rfl, inc hlt (by simp only [maxLen]; omega), trivial⟩ (by rw [List.map_append]; rfl)⟩
    ·rw [if_neg (by rw [h9]; simp)] at hft
     exact ⟨hlt, out, n, hft.symm, hn, hz2, hasG ⟨rfl, rfl, rfl, rfl, rfl, rfl, rfl, inc hlt (by simp only [maxLen]; omega), trivial⟩ rfl⟩
  ·have hv : rApV s own (namesL (onL l d) all[i] d) = (false, 2) := by unfold rApV; rw [if_pos hb]
   rw [hv]
   conv => whnf
   exact frzTw (hbad _ hq hb) frzNo
 ·simp at hlt
  have hil : i = all.length := by omega
  subst hil
  rw [List.take_length] at ho hz
  have hv : twV (touchR s) s (onL l d) p d = (out, 0) := by
   unfold twV
   rw [if_neg (by rw [hS]; simp), if_neg (by rw [hE]; simp), ← hall, if_neg, ho, hown]
   rw [List.any_eq_true]
   rintro ⟨q, h1, h2⟩
   exact absurd (many_app.1 (hz q h1)).2 (by simpa using h2)
  conv => whnf
  refine frzTw hv.symm ?_
  exact frzK_rows (enc := ienc) (xs := out) (T := 3) (sz := 1) rfl hn hn pdI (fun _ => rfl) (Nat.le_refl _)
end Go.Proofs.YtpndfdfipkadkaaGreatDoor
set_option maxRecDepth 100000
namespace Go.Proofs.YtpndfdfipkadkaaGreatDoor
open Go Go.Wx Go.Ax
def pl113 : Plan := [(1, [.p 0, .l 1, .p 2, .p 3, .l 4, .l 5, .p 6, .l 7, .l 9, .e 8, .e 10, .p 11, .p 12])]
theorem twin1_c (t : List Pl) (hu : ∀ x ∈ t, x.uses.length ≤ 300000) (s : List Spell) (hS : chkS s = 0) (own : List ByteArray) (p d q : Int) (ho : ∀ n ∈ own, NmV s n) (hq : ∀ n ∈ namesL t q d, NmV s n) :
    Pur Pg 113 [di q, .fp [di p], .fp [rows senc own], .fp [stD t], .fp [di d], .fp [rows Spell.enc s]] (db (q == p || !touchB s own (namesL t q d))) := by
  have hr := rulesOk_of hS
  have nk : ∀ n, NmV s n → NameOk s n := fun n h => nameOk_of hr (by have := nameB_size h.nm; omega)
  refine fn Tryz.func113 [] pl113 (.cons (.v _) (.cons (.fp (PdL.one (.v _))) (.cons (.fp (PdL.one (pd_rows pdS own))) (.cons (.fp (PdL.one (pd_st t))) (.cons (.fp (PdL.one (.v _))) (.one (.fp (PdL.one (pd_rows pdSpell s))))))))) ?_
  refine if_ (fun h => ?_) fun h => ?_
  · exact frzb (by rw [h]; rfl)
  conv => whnf
  refine (namesP_c t q d hu).call ?_
  conv => whnf
  refine (apart_c s own (namesL t q d) (by have := hr.len; omega) hr.ok (fun n hn => nk n (ho n hn)) fun n hn => nk n (hq n hn)).call ?_
  conv => whnf
  exact frzb (by rw [h]; rfl)
noncomputable def c37 : Code := Tryz.f37.body.getD .skip
def pl37 : Plan := [(14, [.l 0, .p 1, .l 2, .l 4, .e 3, .e 5, .p 6])]
theorem qTwins_c (l : List Ev) (ha : Acc l) (p d : Int) (s : List Spell) (hok : ∀ x ∈ s, x.ok) : Pur Pg 37 [refG l, di p, di d, rows Spell.enc s] (twD (twV (touchB s) s (onL l d) p d)) := by
 have hst := acc_onSt ha d
 have hus := acc_uses ha d
 have hon := onP_c l d ha
 have hnm : ∀ q, namesL (prg (onL l d)) q d = namesL (onL l d) q d := fun q => prg_names q d
 have hal : allL (prg (onL l d)) = allL (onL l d) := allL_prg _
 have hhe : hereB (prg (onL l d)) p = hereB (onL l d) p := here_prg _ _
 refine Pur_of (PdL.cons (pd_refG l) (.cons (.v _) (.cons (.v _) (.one (pd_rows pdSpell s))))) (AC_fn Tryz.func37 rfl rfl rfl [] (fun _ => true) (fun b h => nomatch h) (AW_rest (c' := restC 0 c37) ?_))
 refine goC 6 [] [] ?_
 conv => whnf
 refine (chk_c s hok).call ?_
 refine if_ (fun h => ?_) fun h => ?_
 ·exact frzTw (by unfold twV; rw [if_pos (by simpa using h)]) frzNo
 have hS : chkS s = 0 := by simpa using h
 conv => whnf
 refine hon.call ?_
 refine ck rfl (force_to ?_)
 conv => whnf
 refine (exists_c _ p).call ?_
 refine if_ (fun h => ?_) fun h => ?_
 ·exact frzTw (by unfold twV; rw [if_neg (by rw [hS]; simp), if_pos (by rw [← hhe]; simpa using h)]) frzNo
 have hE : hereB (onL l d) p = true := by rw [← hhe]; simpa using h
 refine (namesP_c _ p d hus).call ?_
 refine ck rfl (force_to ?_)
 conv => whnf
 obtain ⟨t, ht⟩ : ∃ t, t = prg (onL l d) := ⟨_, rfl⟩
 obtain ⟨own, hown⟩ : ∃ own, own = namesL t p d := ⟨_, rfl⟩
 rw [← ht] at hst hus hnm hal hhe ⊢
 rw [← hown]
 have hon := names_ok ha
 refine AW_rest (c' := restC 6 c37) (AW_has (l := [(5, .ptr 0 0 0 1), (6, .ptr 1 0 0 1), (7, .ptr 2 0 0 1), (11, .ptr 3 0 0 1), (12, .ptr 4 0 0 1)]) (fun e0 => ?_) ⟨rfl, rfl, rfl, rfl, rfl, trivial⟩)
 refine AW_frz (r := [(5, .fp [di p]), (6, .fp [di d]), (7, .fp [rows Spell.enc s]), (11, .fp [stD t]), (12, .fp [rows senc own])]) (H1 := []) (G := [.arr 3 1 [[di p]], .arr 3 1 [[di d]], .arr 31 1 [[rows Spell.enc s]], .arr 117 1 [[stD t]], .arr 40 1 [[rows senc own]]]) (Nat.le_refl _) (fun _ h => nomatch h) ⟨rfl, .fz (.fp rfl rfl (FrzL.refl (PdL.one (.v _))).2), rfl, .fz (.fp rfl rfl (FrzL.refl (PdL.one (.v _))).2), rfl, .fz (.fp rfl rfl (FrzL.refl (PdL.one (pd_rows pdSpell s))).2), rfl, .fz (.fp rfl rfl (FrzL.refl (PdL.one (pd_st t))).2), rfl, .fz (.fp rfl rfl (FrzL.refl (PdL.one (pd_rows pdS own))).2), trivial⟩ fun e1 => ?_
 refine goC 1 [] pl37 ?_
 refine AC.mono (placesM_c t (by have := hst.len; omega)) ?_
 rintro _ H' ms ⟨ys, n', h1, h2, h3, h4, rfl, rfl, rfl⟩
 conv => whnf
 have hlen := hst.len
 obtain ⟨m, hm⟩ : ∃ m, m = (allL t).length := ⟨_, rfl⟩
 rw [← hm] at h2 h3 ⊢
 have hyl : ∀ i, (h : i < m) → ∃ h2 : i < ys.length, ∃ h3 : i < (allL t).length, ys[i] = (allL t)[i] := fun i h => ⟨by omega, by omega, by simp [← h2]⟩
 have vw : twV (touchB s) s (onL l d) p d = (if (allL t).any (fun q => manyL (namesL t q d) s != 0) then ([], 2) else ((allL t).filter (fun q => touchB s own (namesL t q d) && q != p), 0)) := by
  unfold twV
  rw [if_neg (by rw [hS]; simp), if_neg (by rw [hE]; simp), hown, hal]
  simp only [hnm]
 refine go [] pl37 ?_
 refine AW_idx m (fun i st => (∀ q ∈ (allL t).take i, manyL (namesL t q d) s = 0) ∧ HasG [(5, .fp [di p]), (6, .fp [di d]), (7, .fp [rows Spell.enc s]), (11, .fp [stD t]), (12, .fp [rows senc own]), (13, .sl 0 0 m n'), (37, .sl 0 0 m n'), (38, di m), (39, di i)] [.arr 3 1 (ys.map ienc)] st) ⟨by simp, hasG (G := []) ⟨rfl, rfl, rfl, rfl, rfl, rfl, rfl, rfl, rfl, trivial⟩ rfl⟩ ?_
 rintro i _ hi ⟨hz, e2, G, rfl⟩
 refine AW_drop (BlL.cons (.pd (.fp (PdL.one (.v _)))) (.cons (.pd (.fp (PdL.one (.v _)))) (.cons (.pd (.fp (PdL.one (pd_rows pdSpell s)))) (.cons (.pd (.fp (PdL.one (pd_st t)))) (.cons (.pd (.fp (PdL.one (pd_rows pdS own)))) (.cons (.sl (by simp)) (.cons (.sl (by simp)) (.v (.v .nil))))))))) (BlH.cons (BlO.enc pdI) .nil) (Nat.zero_le _) fun e => ?_
 refine go [] pl37 (if_ (fun hlt => ?_) (fun hlt => ?_))
 ·have hlt : i < m := by simp at hlt; omega
  obtain ⟨g1, g2, g3⟩ := hyl i hlt
  refine ck (and_t (beq_len (by rw [List.length_map]; exact h1)) rfl) ?_
  refine ixl_any (by simpa using g1) hlt ?_
  conv => whnf
  refine ck (beq_len (by rw [List.length_map]; exact h1)) ?_
  refine nth_at g1 ?_ (by simp)
  conv => whnf
  rw [g3]
  refine (namesP_c t _ d hus).call ?_
  refine ck rfl (force_to ?_)
  conv => whnf
  refine (tooMany_c (namesL t (allL t)[i] d) s (fun n hn => by rw [hnm] at hn; have := nameB_size (hon _ _ n hn); omega) (by have := (rulesOk_of hS).len; omega)).call ?_
  refine if_ (fun h => ?_) fun h => ?_
  ·have h0 : manyL (namesL t (allL t)[i] d) s ≠ 0 := by simpa using h
   refine frzTw (v := twV (touchB s) s (onL l d) p d) ?_ frzNo
   rw [vw, if_pos (List.any_eq_true.2 ⟨_, List.getElem_mem g2, by simpa using h0⟩), (many_no h0).1]
  ·have h0 : manyL (namesL t (allL t)[i] d) s = 0 := by simpa using h
   refine ⟨hlt, fun q hq => ?_, hasG ⟨rfl, rfl, rfl, rfl, rfl, rfl, rfl, rfl, inc hlt (by simp only [maxLen]; omega), trivial⟩ rfl⟩
   rw [List.take_succ_eq_append_getElem g2, List.mem_append, List.mem_singleton] at hq
   exact hq.elim (hz q) fun h => h ▸ h0
 ·have him : i = m := by simp at hlt; omega
  rw [him, hm, List.take_length] at hz
  have hnv : ∀ q ∈ allL t, ∀ n ∈ namesL t q d, NmV s n := fun q hq => many_ok (by rw [hnm]; exact hon q d) (hz q hq)
  have hpm : p ∈ allL t := by rw [hal]; exact (all_mem (ha.invOn d).1.ids).2 hE
  have hov : ∀ n ∈ own, NmV s n := by rw [hown]; exact hnv p hpm
  have hdel := deleteFunc_c ys m n' 113 [.fp [di p], .fp [rows senc own], .fp [stD t], .fp [di d], .fp [rows Spell.enc s]] (fun q => q == p || !touchB s own (namesL t q d)) h1 h3 (by omega) (.cons (.fp (PdL.one (.v _))) (.cons (.fp (PdL.one (pd_rows pdS own))) (.cons (.fp (PdL.one (pd_st t))) (.cons (.fp (PdL.one (.v _))) (.one (.fp (PdL.one (pd_rows pdSpell s)))))))) fun q hq => twin1_c t hus s hS own p d q hov (hnv q (by rw [h2] at hq; exact hq))
  conv => whnf
  refine AC.mono hdel ?_
  rintro _ H' ms ⟨zs, k1, k2, rfl, rfl, rfl⟩
  rw [h2] at k2 ⊢
  have hfe : (allL t).filter (fun q => !(q == p || !touchB s own (namesL t q d))) = (allL t).filter (fun q => touchB s own (namesL t q d) && q != p) := by
   congr 1; funext q
   cases touchB s own (namesL t q d) <;> cases hh : q == p <;> simp [bne, hh]
  rw [hfe] at k2 ⊢
  have hle : ((allL t).filter (fun q => touchB s own (namesL t q d) && q != p)).length ≤ zs.length := by rw [← k2]; simp; omega
  have hf := frzK_take (k0 := 0) (H := [AO.arr 3 1 (zs.map ienc)]) (b := 0) (enc := ienc) (n := ((allL t).filter (fun q => touchB s own (namesL t q d) && q != p)).length) (T := 3) (sz := 1) rfl hle k1 pdI (fun _ => rfl) (Nat.le_refl _)
  rw [k2] at hf
  conv => whnf
  refine frzTw (v := twV (touchB s) s (onL l d) p d) ?_ hf
  rw [vw, if_neg]
  rw [List.any_eq_true]
  rintro ⟨q, h1, h2⟩
  exact absurd (hz q h1) (by simpa using h2)
end Go.Proofs.YtpndfdfipkadkaaGreatDoor
set_option maxRecDepth 100000
namespace Go.Proofs.YtpndfdfipkadkaaGreatDoor
open Go Go.Wx Go.Ax
theorem tw_ok {l : List Ev} (ha : Acc l) {s : List Spell} {d : Int} (h3 : ((allL (onL l d)).any fun q => manyL (namesL (onL l d) q d) s != 0) = false) : ∀ q ∈ allL (onL l d), ∀ n ∈ namesL (onL l d) q d, NmV s n := fun q hq => many_ok (names_ok ha q d) (by
 have := List.any_eq_false.1 h3 q hq
 simpa using this)
theorem tw_same {l : List Ev} (ha : Acc l) (p d : Int) (s : List Spell) : twV (touchB s) s (onL l d) p d = twV (touchR s) s (onL l d) p d := by
 unfold twV
 split
 ·rfl
 rename_i h1
 split
 ·rfl
 rename_i h2
 split
 ·rfl
 rename_i h3
 have hS : chkS s = 0 := by simpa using h1
 have hE : hereB (onL l d) p = true := by simpa using h2
 have hv := tw_ok ha (by simpa using h3)
 have hpm : p ∈ allL (onL l d) := (all_mem (ha.invOn d).1.ids).2 hE
 congr 1
 refine List.filter_congr fun q hq => ?_
 rw [touch_same (rulesOk_of hS) (hv p hpm) (hv q hq)]
theorem tw_back {l : List Ev} (ha : Acc l) {p d : Int} {s : List Spell} {q : Int} (hq : q ∈ (twV (touchB s) s (onL l d) p d).1) : (twV (touchB s) s (onL l d) q d).2 = 0 ∧ p ∈ (twV (touchB s) s (onL l d) q d).1 := by
 unfold twV at hq
 split at hq
 ·cases hq
 rename_i h1
 split at hq
 ·cases hq
 rename_i h2
 split at hq
 ·cases hq
 rename_i h3
 have hS : chkS s = 0 := by simpa using h1
 have hE : hereB (onL l d) p = true := by simpa using h2
 have hv := tw_ok ha (by simpa using h3)
 have hpm : p ∈ allL (onL l d) := (all_mem (ha.invOn d).1.ids).2 hE
 obtain ⟨g1, g2⟩ := List.mem_filter.1 hq
 have hqE : hereB (onL l d) q = true := (all_mem (ha.invOn d).1.ids).1 g1
 simp only [Bool.and_eq_true, bne_iff_ne, ne_eq] at g2
 have hr : twV (touchB s) s (onL l d) q d = ((allL (onL l d)).filter (fun r => touchB s (namesL (onL l d) q d) (namesL (onL l d) r d) && r != q), 0) := by
  unfold twV
  rw [if_neg h1, if_neg (by rw [hqE]; simp), if_neg h3]
 rw [hr]
 refine ⟨rfl, List.mem_filter.2 ⟨hpm, ?_⟩⟩
 simp only [Bool.and_eq_true, bne_iff_ne, ne_eq]
 exact ⟨touch_symm (rulesOk_of hS) (hv p hpm) (hv q g1) g2.1, fun h => g2.2 h.symm⟩
theorem tw_len {touch : List ByteArray → List ByteArray → Bool} {l : List Ev} (ha : Acc l) (p d : Int) (s : List Spell) : (twV touch s (onL l d) p d).1.length ≤ 100000 := by
 have h1 := all_len (ha.invOn d).1.ids
 have h2 := (ha.invOn d).2
 unfold twV
 split
 ·simp
 split
 ·simp
 split
 ·simp
 ·have h3 := List.length_filter_le (fun q => touch (namesL (onL l d) p d) (namesL (onL l d) q d) && q != p) (allL (onL l d))
  show (List.filter _ _).length ≤ _
  omega
noncomputable def c8 : Code := Tryz.f8.body.getD .skip
theorem lawTwins_c (l : List Ev) (hs : ∀ e ∈ l, e.name.size ≤ maxLen) (p d : Int) (s : List Spell) (hok : ∀ x ∈ s, x.ok) : Pur Pg 8 [rows Ev.enc l, di p, di d, rows Spell.enc s] (db true) := by
 refine Pur_of (PdL.cons (pd_rows pdEv l) (.cons (.v _) (.cons (.v _) (PdL.one (pd_rows pdSpell s))))) (AC_fn Tryz.func8 rfl rfl rfl [] (fun _ => true) (fun b h => nomatch h) (AW_rest (c' := restC 0 c8) ?_))
 refine goC 3 [] [] ?_
 rcases opened_cases (opened_c l hs) with g | ⟨h40, ha, g⟩
 ·refine g.call ?_
  conv => whnf
  refine alive_c.call ?_
  exact frzt
 refine g.call ?_
 conv => whnf
 have out : ∀ e0 : Nat → D, AW Pg Tryz.f8.ntmps (fun _ => true) 0 (restC 3 c8) (fun ex s' => dret Pg Tryz.f8.results.toList (fun d H' _ => Frz H' d (db true)) [] ex s'.e s'.H) ⟨dupds e0 [(1, di p), (2, di d), (3, rows Spell.enc s), (9, refG l), (10, refG l)], []⟩ := by
  intro e0
  have hrT := rTwins_c l ha p d s hok
  rw [← tw_same ha] at hrT
  refine goC 2 [] [] ?_
  refine (qTwins_c l ha p d s hok).call ?_
  conv => whnf
  refine hrT.call ?_
  conv => whnf
  have hvl := tw_len (touch := touchB s) ha p d s
  obtain ⟨xs, hxs⟩ : ∃ xs, xs = (twV (touchB s) s (onL l d) p d).1 := ⟨_, rfl⟩
  have hbk : ∀ q ∈ xs, (twV (touchB s) s (onL l d) q d).2 = 0 ∧ p ∈ (twV (touchB s) s (onL l d) q d).1 := fun q hq => tw_back ha (by rw [← hxs]; exact hq)
  rw [← hxs] at hvl ⊢
  refine goC 1 [] [] ?_
  refine iff_ (by simp) ?_
  refine (sameI_c _).call ?_
  conv => whnf
  refine AW_rest (c' := restC 6 c8) ?_
  refine AW_has (l := [(1, di p), (2, di d), (3, rows Spell.enc s), (9, refG l), (12, rows ienc xs)]) (fun e1 => ?_) ⟨rfl, rfl, rfl, rfl, rfl, trivial⟩
  refine go [] [] ?_
  refine AW_idx xs.length (fun i st => Has [(1, di p), (2, di d), (3, rows Spell.enc s), (9, refG l), (74, rows ienc xs), (75, di xs.length), (76, di i)] [] st) (has (by exact ⟨rfl, rfl, rfl, rfl, rfl, congrArg (fun n : Nat => di n) (List.length_map ..), rfl, trivial⟩) rfl) ?_
  rintro i _ hi ⟨e2, rfl⟩
  refine go [] [] (if_ (fun hlt => ?_) (fun hlt => ?_))
  ·simp at hlt
   obtain ⟨k1, k2⟩ := hbk _ (List.getElem_mem hlt)
   have hql := tw_len (touch := touchB s) ha xs[i] d s
   refine row_at hlt ?_
   refine (qTwins_c l ha xs[i] d s hok).call ?_
   conv => whnf
   obtain ⟨zs, hzs⟩ : ∃ zs, zs = (twV (touchB s) s (onL l d) xs[i] d).1 := ⟨_, rfl⟩
   rw [k1]
   rw [← hzs] at k2 hql ⊢
   refine AW_idx zs.length (fun j st => Has [(1, di p), (2, di d), (3, rows Spell.enc s), (9, refG l), (74, rows ienc xs), (75, di xs.length), (76, di i), (19, di 0), (20, db ((zs.take j).any (· == p))), (88, rows ienc zs), (89, di zs.length), (90, di j)] [] st) (has (by exact ⟨rfl, rfl, rfl, rfl, rfl, rfl, rfl, rfl, rfl, rfl, congrArg (fun n : Nat => di n) (List.length_map ..), rfl, trivial⟩) rfl) ?_
   rintro j _ hj ⟨e3, rfl⟩
   refine go [] [] (if_ (fun hjlt => ?_) (fun hjlt => ?_))
   ·simp at hjlt
    have hsucc : (zs.take (j + 1)).any (· == p) = ((zs.take j).any (· == p) || zs[j] == p) := by
     rw [List.take_succ_eq_append_getElem hjlt, List.any_append, List.any_cons, List.any_nil, Bool.or_false]
    refine row_at hjlt ?_
    conv => whnf
    refine if_ (fun hb => ?_) fun hb => ?_
    ·rw [hb, Bool.true_or] at hsucc
     conv => whnf
     exact ⟨hjlt, has (by exact ⟨rfl, rfl, rfl, rfl, rfl, rfl, rfl, rfl, congrArg db hsucc.symm, rfl, rfl, inc hjlt (by simp only [maxLen]; omega), trivial⟩) rfl⟩
    ·rw [hb, Bool.false_or] at hsucc
     conv => whnf
     exact ⟨hjlt, has (by exact ⟨rfl, rfl, rfl, rfl, rfl, rfl, rfl, rfl, congrArg db hsucc.symm, rfl, rfl, inc hjlt (by simp only [maxLen]; omega), trivial⟩) rfl⟩
   ·have hjz : j = zs.length := by simp at hjlt; omega
    have hT : (zs.take j).any (· == p) = true := by
     rw [hjz, List.take_length]
     exact List.any_eq_true.2 ⟨p, k2, by simp⟩
    rw [hT]
    conv => whnf
    exact ⟨hlt, has (by exact ⟨rfl, rfl, rfl, rfl, rfl, rfl, inc hlt (by simp only [maxLen]; omega), trivial⟩) rfl⟩
  ·conv => whnf
   refine alive_c.call ?_
   exact frzt
 refine if_ (fun _ => ?_) fun _ => ?_
 ·conv => whnf
  refine alive_c.call ?_
  exact frzt
 conv => whnf
 refine if_ (fun _ => ?_) fun _ => ?_
 ·conv => whnf
  refine alive_c.call ?_
  exact frzt
 conv => whnf
 exact AW_rest (c' := restC 3 c8) (AW_has (fun e0 => out e0) (by exact ⟨rfl, rfl, rfl, rfl, rfl, trivial⟩))
end Go.Proofs.YtpndfdfipkadkaaGreatDoor
