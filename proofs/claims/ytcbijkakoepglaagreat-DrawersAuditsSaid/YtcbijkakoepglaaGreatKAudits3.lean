/- A part of the proof that the law DrawersAudits holds. Conditions: none. -/
import Derived.Test.YtcbijkakoepglaaGreatKAudits2
set_option linter.all false
namespace Go.Proofs.YtcbijkakoepglaaGreat
open Go Go.Wx
set_option maxRecDepth 100000
def ref06_lineAhead.R (Q : Bool → World → Prop) (a : TTrialLine) (b : TTrialLine) (w : World) : Prop := (
  Al w (.cells #[vu a.Account_Kind, vi a.Account_Id, vs a.Unit, vi a.N] 49) fun b1 w1 =>
      Al w1 (.cells #[vu b.Account_Kind, vi b.Account_Id, vs b.Unit, vi b.N] 49) fun b2 w2 =>
      Ifb (a.Account_Kind != b.Account_Kind)
      (Q (decide (a.Account_Kind < b.Account_Kind)) w2)
      (Ifb (a.Account_Id != b.Account_Id)
      (Q (decide (a.Account_Id < b.Account_Id)) w2)
      (Q (strLt a.Unit b.Unit) w2)))
theorem ref06_lineAhead.ok {Q : Bool → World → Prop} {a : TTrialLine} {b : TTrialLine} {w : World} (h : ref06_lineAhead.R Q a b w) : Cl Pg 136 #[vg (TTrialLine.enc a), vg (TTrialLine.enc b)] w (fun v w' => ∃ (r0 : Bool), v = vb r0 ∧ Q r0 w') := by
 refine calls_args (args := [vg (TTrialLine.enc a), vg (TTrialLine.enc b)]) Tryz.func136 ?_
 unfold ref06_lineAhead.R at h
 refine W_regseq ?_
 refine alp h ?_
 intro b1 w1 eb ew hb_b1 h
 clear eb ew
 refine alp h ?_
 intro b2 w2 eb ew hb_b2 h
 have old_hb_b1 := hb_b1
 replace hb_b1 := al_keep ew hb_b1
 have ne_b1_b2 : b1 ≠ b2 := blk_ne old_hb_b1 eb
 clear old_hb_b1
 clear eb ew
 refine ps 1 [(4, vb false)] ?_
 refine WO_nil ?_
 refine W_seq ?_
 refine W_regseq ?_
 refine ps 2 [(5, vp ⟨b1, 0, none⟩), (6, vp ⟨b1, 0, none⟩)] ?_
 refine lb1 tk5 hb_b1 ?_
 refine ps 2 [(8, vp ⟨b2, 0, none⟩), (9, vp ⟨b2, 0, none⟩)] ?_
 refine lb1 tk5 hb_b2 ?_
 refine ps 1 [(11, vb (a.Account_Kind != b.Account_Kind))] ?_
 refine WO_nil ?_
 refine ci h (fun h => ?_) fun h => ?_
 ·refine W_regseq ?_
  refine ps 2 [(12, vp ⟨b1, 0, none⟩), (13, vp ⟨b1, 0, none⟩)] ?_
  refine lb1 tk5 hb_b1 ?_
  refine ps 2 [(15, vp ⟨b2, 0, none⟩), (16, vp ⟨b2, 0, none⟩)] ?_
  refine lb1 tk5 hb_b2 ?_
  refine ps 2 [(18, vb (decide (a.Account_Kind < b.Account_Kind))), (4, vb (decide (a.Account_Kind < b.Account_Kind)))] ?_
  refine WO_nil ?_
  refine W_ret ?_
  refine seqK_ret ?_
  exact ret1 (v := vb (decide (a.Account_Kind < b.Account_Kind))) (t := 4) rfl rfl ⟨_, rfl, h⟩
 ·refine W_skip ?_
  refine W_seq ?_
  refine W_regseq ?_
  refine ps 2 [(19, vp ⟨b1, 0, none⟩), (20, vp ⟨b1, 1, none⟩)] ?_
  refine lb1 tk3 hb_b1 ?_
  refine ps 2 [(22, vp ⟨b2, 0, none⟩), (23, vp ⟨b2, 1, none⟩)] ?_
  refine lb1 tk3 hb_b2 ?_
  refine ps 1 [(25, vb (a.Account_Id != b.Account_Id))] ?_
  refine WO_nil ?_
  refine ci h (fun h => ?_) fun h => ?_
  ·refine W_regseq ?_
   refine ps 2 [(26, vp ⟨b1, 0, none⟩), (27, vp ⟨b1, 1, none⟩)] ?_
   refine lb1 tk3 hb_b1 ?_
   refine ps 2 [(29, vp ⟨b2, 0, none⟩), (30, vp ⟨b2, 1, none⟩)] ?_
   refine lb1 tk3 hb_b2 ?_
   refine ps 2 [(32, vb (decide (a.Account_Id < b.Account_Id))), (4, vb (decide (a.Account_Id < b.Account_Id)))] ?_
   refine WO_nil ?_
   refine W_ret ?_
   refine seqK_ret ?_
   exact ret1 (v := vb (decide (a.Account_Id < b.Account_Id))) (t := 4) rfl rfl ⟨_, rfl, h⟩
  ·refine W_skip ?_
   refine W_regseq ?_
   refine ps 1 [(33, vp ⟨b1, 2, none⟩)] ?_
   refine lb1 tk9 hb_b1 ?_
   refine ps 1 [(35, vp ⟨b2, 2, none⟩)] ?_
   refine lb1 tk9 hb_b2 ?_
   refine ps 2 [(37, vb (strLt a.Unit b.Unit)), (4, vb (strLt a.Unit b.Unit))] ?_
   refine WO_nil ?_
   refine W_ret ?_
   exact ret1 (v := vb (strLt a.Unit b.Unit)) (t := 4) rfl rfl ⟨_, rfl, h⟩
end Go.Proofs.YtcbijkakoepglaaGreat
namespace Go.Proofs.YtcbijkakoepglaaGreat
open Go Go.Wx

section
variable {w : World}
theorem within_c {n lo hi : Int} {Q : Bool → World → Prop} (hQ : Q (decide (lo ≤ n ∧ n ≤ hi)) w) : Cl Pg 132 #[vi n, vi lo, vi hi] w (fun v w' => ∃ r, v = vb r ∧ Q r w') := by
  refine ref06_within.ok ?_
  unfold ref06_within.R
  have : ((decide (n ≥ lo)) && (decide (n ≤ hi))) = decide (lo ≤ n ∧ n ≤ hi) := by rw [Bool.eq_iff_iff]; simp
  rw [this]; exact hQ

theorem isUnit_c {s : ByteArray} {Q : Bool → World → Prop} (hQ : Q (named s) w) : Cl Pg 133 #[vs s] w (fun v w' => ∃ r, v = vb r ∧ Q r w') := by
  refine ref06_isUnit.ok (ifb ?_)
  have jt : named s = false → ref06_isUnit.j1 Q s true w := fun h => by
    unfold ref06_isUnit.j1
    refine ifb_t ?_
    rw [← h]; exact hQ
  split
  · rename_i h
    have h' := of_decide_eq_true h
    exact jt (by unfold named; rw [if_pos (by omega)])
  rename_i h
  have h1 : ¬ s.size < 1 := by simp only [decide_eq_true_eq] at h; omega
  refine ifb ?_
  split
  · rename_i h
    have h' := of_decide_eq_true h
    exact jt (by unfold named; rw [if_neg h1, if_pos (by omega)])
  rename_i h
  have h2 : ¬ s.size > 24 := by simp only [decide_eq_true_eq] at h; omega
  have hd : s.size = s.data.size := rfl
  have g0 : s.data[0]?.map (·.toNat) = some (s[0]'(by omega)).toNat := by
    rw [Array.getElem?_eq_getElem (by omega)]; rfl
  have g1 : s.data[s.size - 1]?.map (·.toNat) = some (s[s.size - 1]'(by omega)).toNat := by
    rw [Array.getElem?_eq_getElem (by omega)]; rfl
  refine ⟨by omega, by omega, ifb ?_⟩
  split
  · rename_i h
    refine jt ?_
    unfold named
    rw [if_neg h1, if_neg h2, g0, if_pos]
    have h' : ((s[0]'(by omega)).toNat : Int) = 32 := eq_of_beq h
    simp; omega
  rename_i h3
  have hw : IntKind.wrap .i64 (((s.size : Nat) : Int) - 1) = ((s.size - 1 : Nat) : Int) := by rw [wrap_id (by omega) (by omega)]; omega
  rw [hw]
  refine ⟨by omega, by omega, ?_⟩
  simp only [Int.toNat_natCast]
  unfold ref06_isUnit.j1
  refine ifb ?_
  split
  · rename_i h
    have : named s = false := by
      unfold named
      rw [if_neg h1, if_neg h2, g0, if_neg, g1, if_pos]
      · have := eq_of_beq h
        simp; omega
      · have h3' : ¬ ((s[0]'(by omega)).toNat : Int) = 32 := by simpa using h3
        simp; omega
    rw [← this]; exact hQ
  rename_i h4
  have hn : named s = okBytes s := by
    unfold named
    rw [if_neg h1, if_neg h2, g0, if_neg, g1, if_neg]
    · have h4' : ¬ ((s[s.size - 1]'(by omega)).toNat : Int) = 32 := by simpa using h4
      simp; omega
    · have h3' : ¬ ((s[0]'(by omega)).toNat : Int) = 32 := by simpa using h3
      simp; omega
  rw [hn] at hQ
  refine ⟨s.size + 1, ?_⟩
  have hsz : s.size = s.data.toList.length := by show s.data.size = _; rw [Array.length_toList]
  have key : ∀ m i, i + m = s.size → (∀ b ∈ s.data.toList.take i, badR b.toNat = false) → ref06_isUnit.l1 Q s (m + 1) (i : Nat) w := by
    intro m
    induction m with
    | zero =>
      intro i hi hb
      unfold ref06_isUnit.l1
      refine ifb_df (by omega) ?_
      rw [List.take_of_length_le (by omega)] at hb
      have : okBytes s = true := by
        unfold okBytes
        rw [List.all_eq_true]
        intro x hx; rw [hb x hx]; rfl
      rw [← this]; exact hQ
    | succ m ih =>
      intro i hi hb
      unfold ref06_isUnit.l1
      have hlt : i < s.size := by omega
      have hget : s.data.toList[i]? = some (s[i]'hlt) := by
        rw [List.getElem?_eq_getElem (by omega)]
        simp [ByteArray.getElem_eq_getElem_data]
      refine ifb_dt (by omega) ⟨by omega, by omega, ?_⟩
      simp only [Int.toNat_natCast]
      have hbad : (!(((((decide (((s[i]'hlt).toNat : Int) ≥ (97 : Int))) && (decide (((s[i]'hlt).toNat : Int) ≤ (122 : Int)))) || ((decide (((s[i]'hlt).toNat : Int) ≥ (48 : Int))) && (decide (((s[i]'hlt).toNat : Int) ≤ (57 : Int))))) || (((s[i]'hlt).toNat : Int) == (32 : Int))) || (((s[i]'hlt).toNat : Int) == (45 : Int)))) = badR ((s[i]'hlt).toNat : Nat) := by
        unfold badR
        rw [Bool.eq_iff_iff]
        simp
      rw [hbad]
      refine ifb ?_
      split
      · rename_i hb'
        have : okBytes s = false := by
          unfold okBytes
          rw [List.all_eq_false]
          exact ⟨_, List.mem_of_getElem? hget, by simpa using hb'⟩
        rw [← this]; exact hQ
      · rename_i hb'
        rw [wrap_succ (n := s.size) (by omega) (by omega) (by simp only [maxLen]; omega)]
        refine ih (i + 1) (by omega) fun b hbm => ?_
        rw [List.take_succ, hget] at hbm
        rcases List.mem_append.1 hbm with h | h
        · exact hb b h
        · simp at h; subst h; simpa using hb'
  exact key s.size 0 (by omega) (fun b hb => by simp at hb)

theorem isId_eq (i : Int) : ((decide (i ≥ (1 : Int))) && (decide (i ≤ (1000000 : Int)))) = isId i := by unfold isId; rw [Bool.eq_iff_iff]; simp
theorem validAccount_c {a : TAccount} {Q : Bool → World → Prop} (hQ : ∀ w', Ext w w' → Q (rightA a.Kind a.Id) w') : Cl Pg 134 #[vg [vu a.Kind, vi a.Id]] w (fun v w' => ∃ r, v = vb r ∧ Q r w') := by
  refine ref06_validAccount.ok (al_f (er w) fun b1 w1 _ _ E _ _ => ?_)
  have ids : (a.Kind = 2 ∨ a.Kind = 3 ∨ a.Kind = 7) → ref06_validAccount.j1 Q a true w1 := fun h => by
    unfold ref06_validAccount.j1
    refine ifb_t ?_
    have := hQ w1 E
    unfold rightA at this
    rw [if_pos h] at this
    rw [isId_eq]; exact this
  have nul : ¬ (a.Kind = 2 ∨ a.Kind = 3 ∨ a.Kind = 7) → (a.Kind = 1 ∨ a.Kind = 4 ∨ a.Kind = 5 ∨ a.Kind = 6) → ref06_validAccount.j2 Q a true w1 := fun h1 h2 => by
    unfold ref06_validAccount.j2
    have := hQ w1 E
    unfold rightA at this
    rw [if_neg h1, if_pos h2] at this
    exact ifb_t this
  have rest : ¬ (a.Kind = 2 ∨ a.Kind = 3 ∨ a.Kind = 7) → ref06_validAccount.j1 Q a false w1 := fun h => by
    unfold ref06_validAccount.j1
    refine ifb_f (ifb ?_)
    split
    · rename_i e; rw [e]; exact nul h (.inl (by simpa using e))
    rename_i c1
    refine ifb ?_
    split
    · rename_i e; rw [e]; exact nul h (.inr (.inl (by simpa using e)))
    rename_i c4
    refine ifb ?_
    split
    · rename_i e; rw [e]; exact nul h (.inr (.inr (.inl (by simpa using e))))
    rename_i c5
    cases c6 : a.Kind == 6 with
    | true => exact nul h (.inr (.inr (.inr (by simpa using c6))))
    | false =>
      unfold ref06_validAccount.j2
      have := hQ w1 E
      unfold rightA at this
      rw [if_neg h, if_neg (by simp at c1 c4 c5 c6; omega)] at this
      exact ifb_f this
  refine ifb ?_
  split
  · rename_i e; rw [e]; exact ids (.inl (by simpa using e))
  rename_i c2
  refine ifb ?_
  split
  · rename_i e; rw [e]; exact ids (.inr (.inl (by simpa using e)))
  rename_i c3
  cases c7 : a.Kind == 7 with
  | true => exact ids (.inr (.inr (by simpa using c7)))
  | false => exact rest (by simp at c2 c3 c7; omega)

theorem reason_c {why k k2 : Int} {Q : Bool → World → Prop} (hQ : Q (wayOk why k k2) w) : Cl Pg 135 #[vu why, vu k, vu k2] w (fun v w' => ∃ r, v = vb r ∧ Q r w') := by
  refine ref06_reason.ok ?_
  have e1 : ∀ {x y : Int}, waysL why = [⟨x, y⟩] → wayOk why k k2 = ((k == x) && (k2 == y)) := fun h => by unfold wayOk; rw [h]; simp
  have one : (why = 1 ∨ why = 10) → ref06_reason.j1 Q why k k2 true w := fun h => by
    unfold ref06_reason.j1
    rw [e1 (by unfold waysL; rw [if_pos h])] at hQ
    exact ifb_t hQ
  have rest : ¬ (why = 1 ∨ why = 10) → ref06_reason.j1 Q why k k2 false w := fun h => by
    unfold ref06_reason.j1
    have hw : waysL why = if why = 2 then [⟨2, 3⟩] else if why = 3 then [⟨2, 4⟩] else if why = 4 then [⟨4, 3⟩] else if why = 5 then [⟨2, 6⟩, ⟨6, 2⟩] else if why = 6 then [⟨2, 5⟩] else if why = 7 then [⟨5, 2⟩] else if why = 8 then [⟨2, 7⟩] else if why = 9 then [⟨7, 1⟩] else [] := by unfold waysL; rw [if_neg h]
    refine ifb_f (ifb ?_)
    split
    · rename_i e; rw [e1 (by rw [hw, if_pos (by simpa using e)])] at hQ; exact hQ
    rename_i c; rw [if_neg (by simpa using c)] at hw
    refine ifb ?_
    split
    · rename_i e; rw [e1 (by rw [hw, if_pos (by simpa using e)])] at hQ; exact hQ
    rename_i c; rw [if_neg (by simpa using c)] at hw
    refine ifb ?_
    split
    · rename_i e; rw [e1 (by rw [hw, if_pos (by simpa using e)])] at hQ; exact hQ
    rename_i c; rw [if_neg (by simpa using c)] at hw
    refine ifb ?_
    split
    · rename_i e
      have : wayOk why k k2 = (((k == (2 : Int)) && (k2 == (6 : Int))) || ((k == (6 : Int)) && (k2 == (2 : Int)))) := by unfold wayOk; rw [hw, if_pos (by simpa using e)]; simp
      rw [this] at hQ; exact hQ
    rename_i c; rw [if_neg (by simpa using c)] at hw
    refine ifb ?_
    split
    · rename_i e; rw [e1 (by rw [hw, if_pos (by simpa using e)])] at hQ; exact hQ
    rename_i c; rw [if_neg (by simpa using c)] at hw
    refine ifb ?_
    split
    · rename_i e; rw [e1 (by rw [hw, if_pos (by simpa using e)])] at hQ; exact hQ
    rename_i c; rw [if_neg (by simpa using c)] at hw
    refine ifb ?_
    split
    · rename_i e; rw [e1 (by rw [hw, if_pos (by simpa using e)])] at hQ; exact hQ
    rename_i c; rw [if_neg (by simpa using c)] at hw
    refine ifb ?_
    split
    · rename_i e; rw [e1 (by rw [hw, if_pos (by simpa using e)])] at hQ; exact hQ
    rename_i c; rw [if_neg (by simpa using c)] at hw
    have : wayOk why k k2 = false := by unfold wayOk; rw [hw]; rfl
    rw [this] at hQ; exact hQ
  refine ifb ?_
  split
  · rename_i e; rw [e]; exact one (.inl (by simpa using e))
  rename_i c1
  cases c10 : why == 10 with
  | true => exact one (.inr (by simpa using c10))
  | false => exact rest (by simp at c1 c10; omega)

theorem lineAhead_c {x y : TTrialLine} {Q : Bool → World → Prop} (hQ : ∀ w', Ext w w' → Q (ltLine x y) w') : Cl Pg 136 #[vg x.enc, vg y.enc] w (fun v w' => ∃ r, v = vb r ∧ Q r w') := by
  refine ref06_lineAhead.ok (al_f (er w) fun b1 w1 _ _ E _ _ => al_f E fun b2 w2 _ _ E _ _ => ifb ?_)
  have hQ := hQ w2 E
  have key : ∀ {p : Prop} [Decidable p], (ltLine x y = true ↔ p) → Q (decide p) w2 := fun {p} _ h => by
    have : ltLine x y = decide p := by rw [Bool.eq_iff_iff, h]; simp
    rw [← this]; exact hQ
  split
  · rename_i h
    have h : x.Account_Kind ≠ y.Account_Kind := by simpa using h
    refine key ?_
    rw [ltLine_iff]
    exact ⟨fun h' => h'.resolve_right fun h2 => h h2.1, .inl⟩
  rename_i h
  have h : x.Account_Kind = y.Account_Kind := by simpa using h
  refine ifb ?_
  split
  · rename_i h2
    have h2 : x.Account_Id ≠ y.Account_Id := by simpa using h2
    refine key ?_
    rw [ltLine_iff]
    constructor
    · rintro (h' | ⟨_, h' | ⟨h', _⟩⟩)
      · omega
      · exact h'
      · exact absurd h' h2
    · exact fun h' => .inr ⟨h, .inl h'⟩
  · rename_i h2
    have h2 : x.Account_Id = y.Account_Id := by simpa using h2
    have : ltLine x y = strLt x.Unit y.Unit := by
      rw [Bool.eq_iff_iff, ltLine_iff]
      constructor
      · rintro (h' | ⟨_, h' | ⟨_, h'⟩⟩)
        · omega
        · omega
        · exact h'
      · exact fun h' => .inr ⟨h, .inr ⟨h2, h'⟩⟩
    rw [← this]; exact hQ

theorem wellFormed_c {p : TPosting} {Q : Bool → World → Prop} (hQ : ∀ w', Ext w w' → Q (fineP p) w') : Cl Pg 71 #[vg p.enc] w (fun v w' => ∃ r, v = vb r ∧ Q r w') := by
  refine ref06_wellFormed.ok (al_f (er w) fun b1 w1 _ hat E _ _ => within_c ⟨rfl, isUnit_c ⟨rfl, within_c ⟨rfl, within_c ⟨rfl, validAccount_c (a := ⟨p.From_Kind, p.From_Id⟩) fun w2 E2 => ⟨E2.blk _ hat.lt id, validAccount_c (a := ⟨p.To_Kind, p.To_Id⟩) fun w3 E3 => ⟨E3.blk _ (hat.ext E2).lt id, reason_c ?_⟩⟩⟩⟩⟩⟩)
  exact hQ _ (((E.ext E2).ext E3))
end

/-! ### the list of sums -/
def keyIs (p : Tplace) (y : TTrialLine) : Bool := ((y.Account_Kind == p.account_Kind) && ((y.Account_Id == p.account_Id) && true)) && strEq y.Unit p.unit
def keyOfL (y : TTrialLine) : Tplace := ⟨y.Account_Kind, y.Account_Id, y.Unit⟩
theorem keyIs_iff {p : Tplace} {y : TTrialLine} : keyIs p y = true ↔ keyOfL y = p := by
  unfold keyIs keyOfL
  cases p
  simp [strEq_iff, and_assoc]
def addedOn (x : TTrialLine) : List TTrialLine → List TTrialLine
  | [] => [x]
  | y :: ys => if keyIs (keyOfL x) y then { x with N := wr (x.N + y.N) } :: ys else if ltLine x y then x :: y :: ys else y :: addedOn x ys
def getL (p : Tplace) : List TTrialLine → Int
  | [] => 0
  | y :: ys => if keyIs p y then y.N else getL p ys

theorem ltLine_key {x y z : TTrialLine} (h : keyOfL x = keyOfL y) : ltLine x z = ltLine y z ∧ ltLine z x = ltLine z y := by
  unfold keyOfL at h
  simp only [Tplace.mk.injEq] at h
  obtain ⟨h1, h2, h3⟩ := h
  constructor <;> (rw [Bool.eq_iff_iff, ltLine_iff, ltLine_iff, h1, h2, h3])
theorem ltLine_tot {x y : TTrialLine} (h1 : ltLine x y = false) (h2 : ltLine y x = false) : keyOfL x = keyOfL y := by
  rw [ltLine_false] at h1 h2
  have e1 : x.Account_Kind = y.Account_Kind := by
    apply Classical.byContradiction; intro hne
    by_cases h3 : x.Account_Kind < y.Account_Kind
    · exact h1 (.inl h3)
    · exact h2 (.inl (by omega))
  have e2 : x.Account_Id = y.Account_Id := by
    apply Classical.byContradiction; intro hne
    by_cases h3 : x.Account_Id < y.Account_Id
    · exact h1 (.inr ⟨e1, .inl h3⟩)
    · exact h2 (.inr ⟨e1.symm, .inl (by omega)⟩)
  have e3 : x.Unit = y.Unit := by
    refine strLt_anti ?_ ?_
    · cases h : strLt x.Unit y.Unit with
      | false => rfl
      | true => exact (h1 (.inr ⟨e1, .inr ⟨e2, h⟩⟩)).elim
    · cases h : strLt y.Unit x.Unit with
      | false => rfl
      | true => exact (h2 (.inr ⟨e1.symm, .inr ⟨e2.symm, h⟩⟩)).elim
  unfold keyOfL
  rw [e1, e2, e3]

/-- strictly ascending. -/
def Str (l : List TTrialLine) : Prop := l.Pairwise fun x y => ltLine x y = true
theorem Str.asc {l : List TTrialLine} (h : Str l) : Asc ltLine l := h.imp fun h => swoLine.asymmA h
theorem Str.keys {l : List TTrialLine} (h : Str l) : l.Pairwise fun x y => keyOfL x ≠ keyOfL y := h.imp fun {x y} h e => by
  have := (ltLine_key (z := y) e).1
  rw [h, swoLine.irrefl] at this; cases this
theorem str_of_sorted {m : List (Tplace × Int)} (h : m.Pairwise fun x y => x.1 ≠ y.1) : Str (isort ltLine (m.map lineOf)) := by
  have hn : ((isort ltLine (m.map lineOf)).map keyOfL).Nodup := by
    have hp : ((isort ltLine (m.map lineOf)).map keyOfL).Perm (m.map (·.1)) := by
      have := ((isort_perm (lt := ltLine) (m.map lineOf)).map keyOfL)
      rw [List.map_map] at this
      exact this
    exact hp.nodup_iff.2 (List.pairwise_map.2 h)
  have hk := List.pairwise_map.1 hn
  refine (isort_asc swoLine _).imp₂ (fun {x y} h1 h2 => ?_) hk
  cases h3 : ltLine x y with
  | true => rfl
  | false => exact absurd (ltLine_tot h3 h1) h2
theorem addedOn_mem {x : TTrialLine} : ∀ {l : List TTrialLine}, Str l → ∀ z, z ∈ addedOn x l ↔ (z ∈ l ∧ keyOfL z ≠ keyOfL x) ∨ z = { x with N := if l.any (keyIs (keyOfL x)) then wr (x.N + getL (keyOfL x) l) else x.N }
  | [], _, z => by simp [addedOn]
  | y :: ys, h, z => by
    obtain ⟨h1, h2⟩ := List.pairwise_cons.1 h
    unfold addedOn
    by_cases hk : keyIs (keyOfL x) y = true
    · have hk' := keyIs_iff.1 hk
      rw [if_pos hk]
      have hg : getL (keyOfL x) (y :: ys) = y.N := by unfold getL; rw [if_pos hk]
      have ha : (y :: ys).any (keyIs (keyOfL x)) = true := by rw [List.any_cons, hk]; rfl
      rw [hg, ha, if_pos rfl]
      constructor
      · intro hz
        rcases List.mem_cons.1 hz with rfl | hz
        · exact .inr rfl
        · refine .inl ⟨List.mem_cons_of_mem _ hz, fun e => ?_⟩
          have := (ltLine_key (z := y) (hk'.trans e.symm).symm).2
          have h3 := h1 z hz
          rw [this, swoLine.irrefl] at h3
          cases h3
      · rintro (⟨hz, hne⟩ | rfl)
        · rcases List.mem_cons.1 hz with rfl | hz
          · exact absurd hk' hne
          · exact List.mem_cons_of_mem _ hz
        · exact List.mem_cons_self
    · rw [if_neg hk]
      have hk' : keyOfL y ≠ keyOfL x := fun e => hk (keyIs_iff.2 e)
      have hg : getL (keyOfL x) (y :: ys) = getL (keyOfL x) ys := by rw [getL, if_neg hk]
      have ha : (y :: ys).any (keyIs (keyOfL x)) = ys.any (keyIs (keyOfL x)) := by rw [List.any_cons, show keyIs (keyOfL x) y = false by simpa using hk]; rfl
      rw [hg, ha]
      by_cases hl : ltLine x y = true
      · rw [if_pos hl]
        have hno : ∀ z ∈ y :: ys, keyOfL z ≠ keyOfL x := fun z hz e => by
          have h3 : ltLine x z = true := by
            rcases List.mem_cons.1 hz with rfl | hz
            · exact hl
            · exact swoLine.trans _ _ _ hl (h1 z hz)
          have := (ltLine_key (z := z) e.symm).1
          rw [h3, swoLine.irrefl] at this; cases this
        have hany : ys.any (keyIs (keyOfL x)) = false := by
          rw [List.any_eq_false]
          exact fun z hz e => hno z (List.mem_cons_of_mem _ hz) (keyIs_iff.1 e)
        rw [hany, if_neg (by simp)]
        constructor
        · intro hz
          rcases List.mem_cons.1 hz with rfl | hz
          · exact .inr rfl
          · exact .inl ⟨hz, hno z hz⟩
        · rintro (⟨hz, _⟩ | rfl)
          · exact List.mem_cons_of_mem _ hz
          · exact List.mem_cons_self
      · rw [if_neg hl, List.mem_cons, addedOn_mem h2 z, List.mem_cons]
        constructor
        · rintro (rfl | ⟨hz, hne⟩ | hz)
          · exact .inl ⟨.inl rfl, hk'⟩
          · exact .inl ⟨.inr hz, hne⟩
          · exact .inr hz
        · rintro (⟨rfl | hz, hne⟩ | hz)
          · exact .inl rfl
          · exact .inr (.inl ⟨hz, hne⟩)
          · exact .inr (.inr hz)
theorem addedOn_str {x : TTrialLine} : ∀ {l : List TTrialLine}, Str l → Str (addedOn x l)
  | [], _ => by simp [addedOn, Str]
  | y :: ys, h => by
    obtain ⟨h1, h2⟩ := List.pairwise_cons.1 h
    unfold addedOn
    split
    · rename_i hk
      have hk' := keyIs_iff.1 hk
      refine List.pairwise_cons.2 ⟨fun z hz => ?_, h2⟩
      rw [← (ltLine_key (x := y) (y := { x with N := wr (x.N + y.N) }) (z := z) hk').1]
      exact h1 z hz
    rename_i hk
    have hk' : keyOfL y ≠ keyOfL x := fun e => hk (keyIs_iff.2 e)
    split
    · rename_i hl
      refine List.pairwise_cons.2 ⟨fun z hz => ?_, h⟩
      rcases List.mem_cons.1 hz with rfl | hz
      · exact hl
      · exact swoLine.trans _ _ _ hl (h1 z hz)
    · rename_i hl
      have hyx : ltLine y x = true := by
        cases h3 : ltLine y x with
        | true => rfl
        | false => exact absurd (ltLine_tot h3 (by simpa using hl)) hk'
      refine List.pairwise_cons.2 ⟨fun z hz => ?_, addedOn_str h2⟩
      rcases (addedOn_mem h2 z).1 hz with ⟨hz, _⟩ | rfl
      · exact h1 z hz
      · rw [(ltLine_key (x := { x with N := if ys.any (keyIs (keyOfL x)) then wr (x.N + getL (keyOfL x) ys) else x.N }) (y := x) (z := y) rfl).2]; exact hyx

theorem putM_mem {p : Tplace} {u : Int} : ∀ {m : List (Tplace × Int)}, (m.Pairwise fun x y => x.1 ≠ y.1) → ∀ z, z ∈ putM m p u ↔ (z ∈ m ∧ z.1 ≠ p) ∨ z = (p, u)
  | [], _, z => by simp [putM]
  | (q, v) :: m, h, z => by
    obtain ⟨h1, h2⟩ := List.pairwise_cons.1 h
    unfold putM
    split
    · rename_i e
      subst e
      rw [List.mem_cons, List.mem_cons]
      constructor
      · rintro (rfl | hz)
        · exact .inr rfl
        · exact .inl ⟨.inr hz, fun e => h1 z hz e.symm⟩
      · rintro (⟨rfl | hz, hne⟩ | rfl)
        · exact absurd rfl hne
        · exact .inr hz
        · exact .inl rfl
    · rename_i e
      rw [List.mem_cons, putM_mem h2 z, List.mem_cons]
      constructor
      · rintro (rfl | ⟨hz, hne⟩ | hz)
        · exact .inl ⟨.inl rfl, fun e' => e e'.symm⟩
        · exact .inl ⟨.inr hz, hne⟩
        · exact .inr hz
      · rintro (⟨rfl | hz, hne⟩ | hz)
        · exact .inl rfl
        · exact .inr (.inl ⟨hz, hne⟩)
        · exact .inr (.inr hz)
theorem putM_pw {p : Tplace} {u : Int} : ∀ {m : List (Tplace × Int)}, (m.Pairwise fun x y => x.1 ≠ y.1) → (putM m p u).Pairwise fun x y => x.1 ≠ y.1
  | [], _ => by simp [putM]
  | (q, v) :: m, h => by
    obtain ⟨h1, h2⟩ := List.pairwise_cons.1 h
    unfold putM
    split
    · exact List.pairwise_cons.2 ⟨h1, h2⟩
    · rename_i e
      refine List.pairwise_cons.2 ⟨fun z hz => ?_, putM_pw h2⟩
      rcases (putM_mem h2 z).1 hz with ⟨hz, _⟩ | rfl
      · exact h1 z hz
      · exact fun e' => e e'.symm
theorem getL_perm {p : Tplace} {v : Int} {l : List TTrialLine} (h : l.Pairwise fun x y => keyOfL x ≠ keyOfL y) (hm : (⟨p.account_Kind, p.account_Id, p.unit, v⟩ : TTrialLine) ∈ l) : getL p l = v := by
  induction l with
  | nil => cases hm
  | cons y ys ih =>
    obtain ⟨h1, h2⟩ := List.pairwise_cons.1 h
    unfold getL
    rcases List.mem_cons.1 hm with rfl | hm
    · rw [if_pos (show keyIs p ⟨p.account_Kind, p.account_Id, p.unit, v⟩ = true from keyIs_iff.2 rfl)]
    · rw [if_neg (show ¬ keyIs p y = true from fun e => h1 _ hm (keyIs_iff.1 e))]
      exact ih h2 hm
theorem getL_none {p : Tplace} {l : List TTrialLine} (h : l.any (keyIs p) = false) : getL p l = 0 := by
  induction l with
  | nil => rfl
  | cons y ys ih =>
    simp only [List.any_cons, Bool.or_eq_false_iff] at h
    unfold getL
    rw [if_neg (by rw [h.1]; simp)]
    exact ih h.2
theorem getM_mem {p : Tplace} : ∀ (m : List (Tplace × Int)), ((∃ y ∈ m, y.1 = p) → (p, getM m p) ∈ m) ∧ ((∀ y ∈ m, y.1 ≠ p) → getM m p = 0)
  | [] => ⟨fun ⟨y, h, _⟩ => (by cases h), fun _ => rfl⟩
  | (q, v) :: m => by
    have ih := getM_mem (p := p) m
    unfold getM
    by_cases e : p = q
    · subst e
      rw [if_pos rfl]
      exact ⟨fun _ => List.mem_cons_self, fun h => absurd rfl (h _ List.mem_cons_self)⟩
    · rw [if_neg e]
      refine ⟨fun ⟨y, hy, he⟩ => List.mem_cons_of_mem _ (ih.1 ?_), fun h => ih.2 fun y hy => h y (List.mem_cons_of_mem _ hy)⟩
      rcases List.mem_cons.1 hy with rfl | hy
      · exact absurd he.symm e
      · exact ⟨y, hy, he⟩
/-- the sums of a map, as the reference keeps them. -/
def sortedOf (m : List (Tplace × Int)) : List TTrialLine := isort ltLine (m.map lineOf)
theorem sorted_mem {m : List (Tplace × Int)} {z : TTrialLine} : z ∈ sortedOf m ↔ ∃ y ∈ m, lineOf y = z := by
  unfold sortedOf
  rw [(isort_perm _).mem_iff, List.mem_map]
theorem sorted_any {m : List (Tplace × Int)} {p : Tplace} : (sortedOf m).any (keyIs p) = true ↔ ∃ y ∈ m, y.1 = p := by
  rw [List.any_eq_true]
  constructor
  · rintro ⟨z, hz, hk⟩
    obtain ⟨y, hy, rfl⟩ := sorted_mem.1 hz
    exact ⟨y, hy, keyIs_iff.1 hk⟩
  · rintro ⟨y, hy, rfl⟩
    exact ⟨lineOf y, sorted_mem.2 ⟨y, hy, rfl⟩, keyIs_iff.2 rfl⟩
theorem getL_sorted {m : List (Tplace × Int)} (h : m.Pairwise fun x y => x.1 ≠ y.1) (p : Tplace) : getL p (sortedOf m) = getM m p := by
  cases ha : (sortedOf m).any (keyIs p) with
  | true =>
    have h1 := (getM_mem m).1 (sorted_any.1 ha)
    exact getL_perm (str_of_sorted h).keys (sorted_mem.2 ⟨_, h1, rfl⟩)
  | false =>
    rw [getL_none ha, (getM_mem m).2]
    intro y hy e
    have := (sorted_any (m := m) (p := p)).2 ⟨y, hy, e⟩
    rw [ha] at this; cases this
theorem added_sorted {m : List (Tplace × Int)} (h : m.Pairwise fun x y => x.1 ≠ y.1) (p : Tplace) (v : Int) (hv : wr v = v) : addedOn ⟨p.account_Kind, p.account_Id, p.unit, v⟩ (sortedOf m) = sortedOf (putM m p (wr (v + getM m p))) := by
  have hs : Str (sortedOf m) := str_of_sorted h
  have hs' : Str (addedOn ⟨p.account_Kind, p.account_Id, p.unit, v⟩ (sortedOf m)) := addedOn_str hs
  have hp' : Str (sortedOf (putM m p (wr (v + getM m p)))) := str_of_sorted (putM_pw (p := p) (u := wr (v + getM m p)) h)
  have nod : ∀ {l : List TTrialLine}, Str l → l.Nodup := fun h => h.keys.imp fun h e => h (by rw [e])
  have hval : (if (sortedOf m).any (keyIs p) then wr (v + getL p (sortedOf m)) else v) = wr (v + getM m p) := by
    rw [getL_sorted h]
    split
    · rfl
    · rename_i ha
      rw [(getM_mem m).2, Int.add_zero, hv]
      intro y hy e
      exact ha (sorted_any.2 ⟨y, hy, e⟩)
  have hperm : (addedOn ⟨p.account_Kind, p.account_Id, p.unit, v⟩ (sortedOf m)).Perm (sortedOf (putM m p (wr (v + getM m p)))) := by
    refine (List.perm_ext_iff_of_nodup (nod hs') (nod hp')).2 fun z => ?_
    have hl := addedOn_mem (x := ⟨p.account_Kind, p.account_Id, p.unit, v⟩) hs z
    have hr := @sorted_mem (putM m p (wr (v + getM m p))) z
    constructor
    · intro hz
      refine hr.2 ?_
      rcases hl.1 hz with ⟨hz, hne⟩ | hz
      · obtain ⟨y, hy, rfl⟩ := sorted_mem.1 hz
        exact ⟨y, (putM_mem h y).2 (.inl ⟨hy, hne⟩), rfl⟩
      · refine ⟨(p, wr (v + getM m p)), (putM_mem h _).2 (.inr rfl), ?_⟩
        rw [hz, ← hval]; rfl
    · intro hz
      refine hl.2 ?_
      obtain ⟨y, hy, rfl⟩ := hr.1 hz
      rcases (putM_mem h y).1 hy with ⟨hy, hne⟩ | rfl
      · exact .inl ⟨sorted_mem.2 ⟨y, hy, rfl⟩, hne⟩
      · refine .inr ?_
        rw [← hval]; rfl
  exact hperm.eq_of_pairwise (le := fun x y => ltLine x y = true) (fun a b _ _ h1 h2 => by rw [swoLine.asymmA h1] at h2; cases h2) hs' hp'
theorem sorted_lines {m : List (Tplace × Int)} (h : m.Pairwise fun x y => x.1 ≠ y.1) : (sortedOf m).filter (fun y => y.N != 0) = linesM m := by
  have hs : Str ((sortedOf m).filter (fun y => y.N != 0)) := (str_of_sorted h).filter _
  have hl : Str (linesM m) := str_of_sorted (h.filter _)
  refine List.Perm.eq_of_pairwise (le := fun x y => ltLine x y = true) (fun a b _ _ h1 h2 => by rw [swoLine.asymmA h1] at h2; cases h2) hs hl ?_
  have h1 : ((sortedOf m).filter (fun y => y.N != 0)).Perm ((m.map lineOf).filter (fun y => y.N != 0)) := (isort_perm _).filter _
  refine h1.trans ?_
  rw [List.filter_map]
  exact (isort_perm _).symm
end Go.Proofs.YtcbijkakoepglaaGreat
namespace Go.Proofs.YtcbijkakoepglaaGreat
open Go Go.Wx

theorem Cells_pre {w : World} {a : Addr} {us vs : List Value} (h : Cells w a (us ++ vs)) : Cells w a us := fun i v hi => h i v (by
  obtain ⟨hl, _⟩ := List.getElem?_eq_some_iff.1 hi
  rw [List.getElem?_append_left hl]; exact hi)
theorem addedOn_len (x : TTrialLine) : ∀ l, (addedOn x l).length ≤ l.length + 1
  | [] => by simp [addedOn]
  | y :: l => by
    have := addedOn_len x l
    unfold addedOn
    split
    · simp
    split
    · simp
    · simp only [List.length_cons]; omega

theorem added_c {w : World} {a : Option Addr} {n c : Nat} {l : List TTrialLine} (hr : Rd TTrialLine.enc 4 w a n l) (hn : n ≤ 100000) {p : Tplace} {v : Int} {Q : Option Addr → Nat → Nat → World → Prop}
    (hQ : ∀ a2 n2 c2 w', Own 49 4 TTrialLine.enc w' a2 n2 c2 (addedOn ⟨p.account_Kind, p.account_Id, p.unit, v⟩ l) → (∀ k, obk a2 c2 = some k → w.heap.size ≤ k) → Ext w w' → Q a2 n2 c2 w') :
    Cl Pg 72 #[vl a n c, vg [vu p.account_Kind, vi p.account_Id], vs p.unit, vi v] w (fun u w' => ∃ a2 n2 c2, u = vl a2 n2 c2 ∧ Q a2 n2 c2 w') := by
  have hl := hr.1
  refine ref06_added.ok (a := ⟨p.account_Kind, p.account_Id⟩) (al_f (er w) fun b1 w1 hb1 hat1 E1 _ _ => al_f E1 fun b2 w2 hb2 hat2 E2 e2 _ => sb_f E2 hat2 hb2 fun w3 hat3 E3 f3 => ⟨n + 1, ?_⟩)
  have nb : ¬ b1 = b2 := (hat1.ext e2).neT hat2 (by simp [tyO])
  have hat1 := (hat1.ext e2).frm f3 nb
  generalize hx0 : (⟨p.account_Kind, p.account_Id, p.unit, v⟩ : TTrialLine) = x0 at hQ
  have hk0 : keyOfL x0 = p := by subst hx0; rfl
  have key : ∀ m i w' y1 a2 n2 c2 (v2 : Bool) acc, i + m = n → Ext w w' → At w' b1 (.cells #[vu p.account_Kind, vi p.account_Id] 40 (0, 0)) → At w' b2 (.cells #[vu y1.Account_Kind, vi y1.Account_Id, vs y1.Unit, vi y1.N] 49 (0, 0)) →
      Own 49 4 TTrialLine.enc w' a2 n2 c2 acc → (∀ k, obk a2 c2 = some k → b2 < k) → n2 ≤ i + 1 → (if v2 = true then acc ++ l.drop i = addedOn x0 l else y1 = x0 ∧ n2 ≤ i ∧ acc ++ addedOn x0 (l.drop i) = addedOn x0 l) →
      ref06_added.l1 Q a n ⟨p.account_Kind, p.account_Id⟩ p.unit b1 b2 (m + 1) y1 a2 n2 c2 v2 (i : Nat) w' := by
    intro m
    induction m with
    | zero =>
      intro i w' y1 a2 n2 c2 v2 acc hi E hat1 hat2 ho hk hn2 hac
      unfold ref06_added.l1
      rw [List.drop_of_length_le (by omega)] at hac
      refine ifb_df (by omega) ?_
      cases v2 with
      | true =>
        simp only [if_true, List.append_nil] at hac
        subst hac
        exact ifb_f (hQ _ _ _ _ ho (fun k h => by have := hk k h; omega) E)
      | false =>
        simp only [Bool.false_eq_true, if_false, addedOn] at hac
        obtain ⟨rfl, hni, hac⟩ := hac
        refine ifb_t (al_f E fun b3 w4 hb3 hat3 E4 e4 _ => ap_own ap24 encLine (fun x => oneAll rfl) (ho.ext e4) (Rd.one (enc := TTrialLine.enc) (sz := 4) y1 hat3) (by omega) (by simp only [maxLen]; omega) fun a3 c3 w5 ho5 F5 hb5 => ?_)
        rw [hac] at ho5
        exact hQ _ _ _ _ ho5 (fun k h => (hb5 k h).elim (fun h => by have := hk k h; omega) fun h => Nat.le_trans E4.size h) (Frm.trans E4 F5 fun k hk' e => by have := hk k e; omega)
    | succ m ih =>
      intro i w' y1 a2 n2 c2 v2 acc hi E hat1 hat2 ho hk hn2 hac
      unfold ref06_added.l1
      refine ifb_dt (by omega) (dr_f E fun w5 E5 e5 => (hr.ext E5).ix (by omega) (by omega) fun a0 x ha hx hc => ⟨x, hc, lineAhead_c (x := y1) (y := x) fun w6 e6 => ⟨e6.blk _ (hat1.ext e5).lt id, e6.blk _ (hat2.ext e5).lt id, dr_f (E5.ext e6) fun w7 E7 e7 => ?_⟩⟩)
      simp only [Int.toNat_natCast] at hx ⊢
      obtain ⟨hxl, hx'⟩ := List.getElem?_eq_some_iff.1 hx
      have hdr : l.drop i = x :: l.drop (i + 1) := by rw [List.drop_eq_getElem_cons hxl, hx']
      rw [hdr] at hac
      have e57 : Ext w' w7 := (e5.trans e6).trans e7
      have hat1 := hat1.ext e57
      have hat2 := hat2.ext e57
      have ho := ho.ext e57
      have hws : IntKind.wrap .i64 (((i : Nat) : Int) + 1) = ((i + 1 : Nat) : Int) := wrap_succ (n := n) (by omega) (by omega) (by simp only [maxLen]; omega)
      have sub : ∀ {w8 : World} {b : Nat} {y : TTrialLine}, Ext w w8 → b2 < b → At w8 b (.cells #[vu y.Account_Kind, vi y.Account_Id, vs y.Unit, vi y.N] 49 (0, 0)) → ∀ {a2 n2 c2 acc}, At w8 b1 (.cells #[vu p.account_Kind, vi p.account_Id] 40 (0, 0)) → ∀ {y1 : TTrialLine}, At w8 b2 (.cells #[vu y1.Account_Kind, vi y1.Account_Id, vs y1.Unit, vi y1.N] 49 (0, 0)) → Own 49 4 TTrialLine.enc w8 a2 n2 c2 acc → (∀ k, obk a2 c2 = some k → b2 < k) → n2 ≤ i + 2 →
          ∀ {K : Option Addr → Nat → Nat → World → Prop}, (∀ a3 c3 w9, Ext w w9 → At w9 b1 (.cells #[vu p.account_Kind, vi p.account_Id] 40 (0, 0)) → At w9 b2 (.cells #[vu y1.Account_Kind, vi y1.Account_Id, vs y1.Unit, vi y1.N] 49 (0, 0)) → Own 49 4 TTrialLine.enc w9 a3 (n2 + 1) c3 (acc ++ [y]) → (∀ k, obk a3 c3 = some k → b2 < k) → Kp b1 w8 w9 ∧ Kp b2 w8 w9 → K a3 (n2 + 1) c3 w9) →
          Ap Pg w8 #[24, 24] 24 (vl a2 n2 c2) (vl (some ⟨b, 0, none⟩) 1 1) K := by
        intro w8 b y E8 hb hatb a2 n2 c2 acc h1 y1 h2 ho hk hn2 K hK
        refine ap_own ap24 encLine (fun x => oneAll rfl) ho (Rd.one (enc := TTrialLine.enc) (sz := 4) y hatb) (by omega) (by simp only [maxLen]; omega) fun a3 c3 w9 ho9 F9 hb9 => ?_
        have n1 : ¬ obk a2 c2 = some b1 := ho.neT h1 (by simp [tyO])
        have n2' : ¬ obk a2 c2 = some b2 := fun e => by have := hk _ e; omega
        exact hK a3 c3 w9 (Frm.trans E8 F9 fun k hk' e => by have := hk k e; omega) (h1.frm F9 n1) (h2.frm F9 n2') ho9 (fun k h => (hb9 k h).elim (hk k) fun h => by have := h2.lt; omega) ⟨F9.blk _ h1.lt n1, F9.blk _ h2.lt n2'⟩
      have j2 : ∀ w8 a2 n2 c2 acc, Ext w w8 → At w8 b1 (.cells #[vu p.account_Kind, vi p.account_Id] 40 (0, 0)) → At w8 b2 (.cells #[vu y1.Account_Kind, vi y1.Account_Id, vs y1.Unit, vi y1.N] 49 (0, 0)) → Own 49 4 TTrialLine.enc w8 a2 n2 c2 acc → (∀ k, obk a2 c2 = some k → b2 < k) → n2 ≤ i + 1 →
          ∀ v2 : Bool, (if v2 = true then acc ++ x :: l.drop (i + 1) = addedOn x0 l else y1 = x0 ∧ n2 ≤ i ∧ (acc ++ [x]) ++ addedOn x0 (l.drop (i + 1)) = addedOn x0 l) → ref06_added.j2 Q a n b1 b2 y1 (i : Nat) (ref06_added.l1 Q a n ⟨p.account_Kind, p.account_Id⟩ p.unit b1 b2 (m + 1)) a2 n2 c2 v2 w8 := by
        intro w8 a2 n2 c2 acc E8 h1 h2 ho hk hn2 v2 hac
        unfold ref06_added.j2
        refine (hr.ext E8).ix (by omega) (by omega) fun a0' x' ha' hx' hc' => ⟨x', hc', ?_⟩
        simp only [Int.toNat_natCast] at hx'
        obtain rfl : x = x' := Option.some.inj (hx.symm.trans hx')
        refine al_f E8 fun b4 w9 hb4 hat4 E9 e9 hlt => sub E9 (Nat.lt_of_lt_of_le h2.lt hlt) hat4 (h1.ext e9) (h2.ext e9) (ho.ext e9) hk (by omega) fun a3 c3 w10 E10 h1' h2' ho' hk' kp => ⟨kp.1, kp.2, ?_⟩
        rw [hws]
        refine ih (i + 1) w10 y1 a3 (n2 + 1) c3 v2 (acc ++ [x]) (by omega) E10 h1' h2' ho' hk' (by omega) ?_
        cases v2 with
        | true => simpa using hac
        | false => simpa using hac
      have j1F : (v2 = true ∨ keyIs p x = false) → ref06_added.j1 Q a n b1 b2 y1 a2 n2 c2 v2 (i : Nat) (ref06_added.l1 Q a n ⟨p.account_Kind, p.account_Id⟩ p.unit b1 b2 (m + 1)) (ltLine y1 x) false w7 := by
        intro hcase
        unfold ref06_added.j1
        refine ifb_f (ifb ?_)
        split
        · rename_i hh
          obtain ⟨hv, hlt⟩ : v2 = false ∧ ltLine y1 x = true := by simpa using hh
          subst hv
          simp only [Bool.false_eq_true, if_false] at hac
          obtain ⟨rfl, hni, hac⟩ := hac
          have hkf : keyIs (keyOfL y1) x = false := by rw [hk0]; exact hcase.resolve_left (by simp)
          rw [addedOn, if_neg (by rw [hkf]; simp), if_pos hlt] at hac
          refine al_f E7 fun b5 w8 hb5 hat5 E8 e8 hlt' => sub E8 (Nat.lt_of_lt_of_le hat2.lt hlt') hat5 (hat1.ext e8) (hat2.ext e8) (ho.ext e8) hk (by omega) fun a3 c3 w10 E10 h1' h2' ho' hk' kp => ⟨kp.1, kp.2, ?_⟩
          exact j2 w10 a3 (n2 + 1) c3 (acc ++ [y1]) E10 h1' h2' ho' hk' (by omega) true (by simpa using hac)
        · rename_i hh
          refine j2 w7 a2 n2 c2 acc E7 hat1 hat2 ho hk (by omega) v2 ?_
          cases v2 with
          | true => simpa using hac
          | false =>
            simp only [Bool.false_eq_true, if_false] at hac ⊢
            obtain ⟨rfl, hni, hac⟩ := hac
            have hkf : keyIs (keyOfL y1) x = false := by rw [hk0]; exact hcase.resolve_left (by simp)
            rw [addedOn, if_neg (by rw [hkf]; simp), if_neg (by simpa using hh)] at hac
            exact ⟨rfl, hni, by simpa using hac⟩
      have j1T : v2 = false → keyIs p x = true → ref06_added.j1 Q a n b1 b2 y1 a2 n2 c2 v2 (i : Nat) (ref06_added.l1 Q a n ⟨p.account_Kind, p.account_Id⟩ p.unit b1 b2 (m + 1)) (ltLine y1 x) true w7 := by
        intro hv hkx
        subst hv
        simp only [Bool.false_eq_true, if_false] at hac
        obtain ⟨rfl, hni, hac⟩ := hac
        rw [addedOn, if_pos (by rw [hk0]; exact hkx)] at hac
        unfold ref06_added.j1
        refine ifb_t (dr_f E7 fun w8 E8 e8 => (hr.ext E8).ix (by omega) (by omega) fun a0' x' ha' hx' hc' => ?_)
        simp only [Int.toNat_natCast] at hx' hc' ⊢
        obtain rfl : x = x' := Option.some.inj (hx.symm.trans hx')
        refine ⟨x.N, by have := hc'.at 3 rfl; exact this, sb_f E8 (hat2.ext e8) hb2 fun w9 hat9 E9 f9 => ?_⟩
        have h1' := (hat1.ext e8).frm f9 nb
        refine al_f E9 fun b3 w10 hb3 hat3 E10 e10 hlt => sub (y := { y1 with N := wr (y1.N + x.N) }) (y1 := { y1 with N := wr (y1.N + x.N) }) E10 (Nat.lt_of_lt_of_le hat9.lt hlt) hat3 (h1'.ext e10) (hat9.ext e10) (((ho.ext e8).frm f9 fun b hb e => by have := hk b hb; omega).ext e10) hk (by omega) fun a3 c3 w11 E11 h1'' h2'' ho'' hk'' kp => ⟨kp.1, kp.2, ?_⟩
        rw [hws]
        exact ih (i + 1) w11 { y1 with N := wr (y1.N + x.N) } a3 (n2 + 1) c3 true (acc ++ [{ y1 with N := wr (y1.N + x.N) }]) (by omega) E11 h1'' h2'' ho'' hk'' (by omega) (by simpa using hac)
      refine ifb ?_
      split
      · rename_i hv
        have hv : v2 = false := by simpa using hv
        have keyx : keyIs p x = (((x.Account_Kind == p.account_Kind) && ((x.Account_Id == p.account_Id) && true)) && strEq x.Unit p.unit) := rfl
        refine (hr.ext E7).ix (by omega) (by omega) fun a0' x' ha' hx' hc' => ?_
        simp only [Int.toNat_natCast] at hx' hc' ⊢
        obtain rfl : x = x' := Option.some.inj (hx.symm.trans hx')
        refine ⟨⟨x.Account_Kind, x.Account_Id⟩, Cells_pre (us := [vu x.Account_Kind, vi x.Account_Id]) (vs := [vs x.Unit, vi x.N]) hc', ifb ?_⟩
        split
        · rename_i hq
          refine (hr.ext E7).ix (by omega) (by omega) fun a0' x' ha' hx' hc' => ?_
          simp only [Int.toNat_natCast] at hx' hc' ⊢
          obtain rfl : x = x' := Option.some.inj (hx.symm.trans hx')
          refine ⟨x.Unit, by have := hc'.at 2 rfl; exact this, ?_⟩
          have hq : ((x.Account_Kind == p.account_Kind) && ((x.Account_Id == p.account_Id) && true)) = true := hq
          rw [hq, Bool.true_and] at keyx
          show ref06_added.j1 Q a n b1 b2 y1 a2 n2 c2 v2 (i : Nat) (ref06_added.l1 Q a n ⟨p.account_Kind, p.account_Id⟩ p.unit b1 b2 (m + 1)) (ltLine y1 x) (strEq x.Unit p.unit) w7
          rw [← keyx]
          cases hkx : keyIs p x with
          | true => exact j1T hv hkx
          | false => exact j1F (.inr hkx)
        · rename_i hq
          have hq : ((x.Account_Kind == p.account_Kind) && ((x.Account_Id == p.account_Id) && true)) = false := by simpa using hq
          rw [hq, Bool.false_and] at keyx
          exact j1F (.inr keyx)
      · rename_i hv
        exact j1F (.inl (by simpa using hv))
  exact key n 0 w3 x0 none 0 0 false [] (by omega) E3 hat1 (by subst hx0; exact hat3) Own.nil (fun k h => by cases h) (by omega) (by simp)

theorem of_c {w : World} {a : Option Addr} {n c : Nat} {l : List TTrialLine} (hr : Rd TTrialLine.enc 4 w a n l) (hn : n ≤ 100000) {p : Tplace} {Q : Int → World → Prop} (hQ : ∀ w', Ext w w' → Q (getL p l) w') :
    Cl Pg 73 #[vl a n c, vg [vu p.account_Kind, vi p.account_Id], vs p.unit] w (fun u w' => ∃ r, u = vi r ∧ Q r w') := by
  have hl := hr.1
  refine ref06_of.ok (a := ⟨p.account_Kind, p.account_Id⟩) (al_f (er w) fun b1 w1 hb1 hat1 E1 _ _ => ⟨n + 1, ?_⟩)
  have key : ∀ m i w', i + m = n → Ext w w' → getL p (l.drop i) = getL p l → ref06_of.l1 Q a n ⟨p.account_Kind, p.account_Id⟩ p.unit (m + 1) (i : Nat) w' := by
    intro m
    induction m with
    | zero =>
      intro i w' hi E hg
      unfold ref06_of.l1
      rw [List.drop_of_length_le (by omega)] at hg
      refine ifb_df (by omega) ?_
      rw [show (0 : Int) = getL p l from hg]; exact hQ _ E
    | succ m ih =>
      intro i w' hi E hg
      unfold ref06_of.l1
      refine ifb_dt (by omega) (dr_f E fun w5 E5 e5 => (hr.ext E5).ix (by omega) (by omega) fun a0 x ha hx hc => ?_)
      simp only [Int.toNat_natCast] at hx hc ⊢
      obtain ⟨hxl, hx'⟩ := List.getElem?_eq_some_iff.1 hx
      have hdr : l.drop i = x :: l.drop (i + 1) := by rw [List.drop_eq_getElem_cons hxl, hx']
      rw [hdr, getL] at hg
      have keyx : keyIs p x = (((x.Account_Kind == p.account_Kind) && ((x.Account_Id == p.account_Id) && true)) && strEq x.Unit p.unit) := rfl
      have jF : keyIs p x = false → ref06_of.j1 Q a n (i : Nat) (ref06_of.l1 Q a n ⟨p.account_Kind, p.account_Id⟩ p.unit (m + 1)) false w5 := fun hk => by
        unfold ref06_of.j1
        rw [if_neg (by rw [hk]; simp)] at hg
        refine ifb_f ?_
        rw [wrap_succ (n := n) (by omega) (by omega) (by simp only [maxLen]; omega)]
        exact ih (i + 1) w5 (by omega) E5 hg
      have jT : keyIs p x = true → ref06_of.j1 Q a n (i : Nat) (ref06_of.l1 Q a n ⟨p.account_Kind, p.account_Id⟩ p.unit (m + 1)) true w5 := fun hk => by
        unfold ref06_of.j1
        rw [if_pos hk] at hg
        refine ifb_t ((hr.ext E5).ix (by omega) (by omega) fun a0' x' ha' hx' hc' => ?_)
        simp only [Int.toNat_natCast] at hx' hc' ⊢
        obtain rfl : x = x' := Option.some.inj (hx.symm.trans hx')
        refine ⟨x.N, by have := hc'.at 3 rfl; exact this, ?_⟩
        rw [hg]; exact hQ _ E5
      refine ⟨⟨x.Account_Kind, x.Account_Id⟩, Cells_pre (us := [vu x.Account_Kind, vi x.Account_Id]) (vs := [vs x.Unit, vi x.N]) hc, ifb ?_⟩
      split
      · rename_i hq
        refine (hr.ext E5).ix (by omega) (by omega) fun a0' x' ha' hx' hc' => ?_
        simp only [Int.toNat_natCast] at hx' hc' ⊢
        obtain rfl : x = x' := Option.some.inj (hx.symm.trans hx')
        refine ⟨x.Unit, by have := hc'.at 2 rfl; exact this, ?_⟩
        have hq : ((x.Account_Kind == p.account_Kind) && ((x.Account_Id == p.account_Id) && true)) = true := hq
        rw [hq, Bool.true_and] at keyx
        show ref06_of.j1 Q a n (i : Nat) (ref06_of.l1 Q a n ⟨p.account_Kind, p.account_Id⟩ p.unit (m + 1)) (strEq x.Unit p.unit) w5
        rw [← keyx]
        cases hkx : keyIs p x with
        | true => exact jT hkx
        | false => exact jF hkx
      · rename_i hq
        have hq : ((x.Account_Kind == p.account_Kind) && ((x.Account_Id == p.account_Id) && true)) = false := by simpa using hq
        rw [hq, Bool.false_and] at keyx
        exact jF keyx
  exact key n 0 w1 (by omega) E1 (by simp)

theorem rlines_c {w : World} {a : Option Addr} {n c : Nat} {l : List TTrialLine} (hr : Rd TTrialLine.enc 4 w a n l) (hn : n ≤ 100000) {Q : Option Addr → Nat → Nat → World → Prop}
    (hQ : ∀ a2 n2 c2 w', Own 49 4 TTrialLine.enc w' a2 n2 c2 (l.filter fun y => y.N != 0) → (∀ k, obk a2 c2 = some k → w.heap.size ≤ k) → Ext w w' → Q a2 n2 c2 w') :
    Cl Pg 74 #[vl a n c] w (fun u w' => ∃ a2 n2 c2, u = vl a2 n2 c2 ∧ Q a2 n2 c2 w') := by
  have hl := hr.1
  refine ref06_lines.ok ⟨n + 1, ?_⟩
  have key : ∀ m i w' a2 n2 c2, i + m = n → Ext w w' → Own 49 4 TTrialLine.enc w' a2 n2 c2 ((l.take i).filter fun y => y.N != 0) → (∀ k, obk a2 c2 = some k → w.heap.size ≤ k) → ref06_lines.l1 Q a n (m + 1) a2 n2 c2 (i : Nat) w' := by
    intro m
    induction m with
    | zero =>
      intro i w' a2 n2 c2 hi E ho hk
      unfold ref06_lines.l1
      rw [List.take_of_length_le (by omega)] at ho
      exact ifb_df (by omega) (hQ _ _ _ _ ho hk E)
    | succ m ih =>
      intro i w' a2 n2 c2 hi E ho hk
      unfold ref06_lines.l1
      refine ifb_dt (by omega) ((hr.ext E).ix (by omega) (by omega) fun a0 x ha hx hc => ?_)
      simp only [Int.toNat_natCast] at hx hc ⊢
      have htk : (l.take (i + 1)).filter (fun y => y.N != 0) = (l.take i).filter (fun y => y.N != 0) ++ if x.N != 0 then [x] else [] := by
        rw [List.take_succ, hx, List.filter_append]
        simp [List.filter_cons]
      have hn1 : n2 ≤ i := by rw [ho.1]; exact Nat.le_trans (List.length_filter_le _ _) (by rw [List.length_take]; omega)
      have hws : IntKind.wrap .i64 (((i : Nat) : Int) + 1) = ((i + 1 : Nat) : Int) := wrap_succ (n := n) (by omega) (by omega) (by simp only [maxLen]; omega)
      refine ⟨x.N, by have := hc.at 3 rfl; exact this, ifb ?_⟩
      split
      · rename_i hx0
        rw [if_pos hx0] at htk
        refine (hr.ext E).ix (by omega) (by omega) fun a0' x' ha' hx' hc' => ?_
        simp only [Int.toNat_natCast] at hx' hc' ⊢
        obtain rfl : x = x' := Option.some.inj (hx.symm.trans hx')
        refine ⟨x, hc', al_f E fun b2 w4 hb2 hat2 E4 e4 _ => ?_⟩
        refine ap_own ap24 encLine (fun x => oneAll rfl) (ho.ext e4) (Rd.one (enc := TTrialLine.enc) (sz := 4) x hat2) (by omega) (by simp only [maxLen]; omega) fun a3 c3 w5 ho5 F5 hb5 => ?_
        rw [← htk] at ho5
        rw [hws]
        exact ih (i + 1) w5 a3 (n2 + 1) c3 (by omega) (Frm.trans E4 F5 fun k hk' e => by have := hk k e; omega) ho5 fun k hk' => (hb5 k hk').elim (hk k) fun h => Nat.le_trans E4.size h
      · rename_i hx0
        rw [if_neg hx0, List.append_nil] at htk
        rw [← htk] at ho
        rw [hws]
        exact ih (i + 1) w' a2 n2 c2 (by omega) E ho hk
  exact key n 0 w none 0 0 (by omega) (er w) (by simpa using Own.nil) (fun k h => by cases h)

theorem fineP_n {p : TPosting} (h : fineP p = true) : 1 ≤ p.N ∧ p.N ≤ 1000000000 := by
  unfold fineP at h
  simp only [Bool.and_eq_true, decide_eq_true_eq] at h
  exact h.1.1.1.1.2
theorem fineP_ne {p : TPosting} (h : fineP p = true) : pFrom p ≠ pTo p := by
  unfold fineP at h
  simp only [Bool.and_eq_true] at h
  have hw := h.2
  intro e
  have ek : p.From_Kind = p.To_Kind := by
    have := congrArg Tplace.account_Kind e
    exact this
  unfold wayOk at hw
  rw [ek, List.any_eq_true] at hw
  obtain ⟨x, hx, h1⟩ := hw
  have hx' : x.x0 ≠ x.x1 := by
    unfold waysL at hx
    repeat' split at hx
    all_goals simp at hx
    all_goals (first | (subst hx; decide) | (rcases hx with rfl | rfl <;> decide))
  simp at h1
  omega
theorem subAdd {m : List (Tplace × Int)} (hm : m.Pairwise fun x y => x.1 ≠ y.1) (p : TPosting) (hf : fineP p = true) :
    addedOn ⟨p.To_Kind, p.To_Id, p.Unit, p.N⟩ (addedOn ⟨p.From_Kind, p.From_Id, p.Unit, wr (0 - p.N)⟩ (sortedOf m)) = sortedOf (addM (subM m (pFrom p) p.N) (pTo p) p.N) := by
  have hn := fineP_n hf
  have e1 : wr (0 - p.N) = 0 - p.N := wrap_id (by omega) (by omega)
  have h1 := added_sorted hm (pFrom p) (wr (0 - p.N)) (by rw [e1, e1])
  have h2 : putM m (pFrom p) (wr (wr (0 - p.N) + getM m (pFrom p))) = subM m (pFrom p) p.N := by
    unfold subM
    rw [e1]
    congr 2
    omega
  rw [h2] at h1
  have h1 : addedOn ⟨p.From_Kind, p.From_Id, p.Unit, wr (0 - p.N)⟩ (sortedOf m) = sortedOf (subM m (pFrom p) p.N) := h1
  rw [h1]
  have h3 := added_sorted (m := subM m (pFrom p) p.N) (putM_pw hm) (pTo p) p.N (wrap_id (by omega) (by omega))
  have h4 : putM (subM m (pFrom p) p.N) (pTo p) (wr (p.N + getM (subM m (pFrom p) p.N) (pTo p))) = addM (subM m (pFrom p) p.N) (pTo p) p.N := by
    unfold addM
    rw [Int.add_comm]
  rw [h4] at h3
  exact h3

theorem refAudit_c {w : World} {a : Option Addr} {n c : Nat} {ps : List TPosting} (hr : Rd TPosting.enc 9 w a n ps) {Q : Option Addr → Nat → Nat → Int → World → Prop}
    (hQ : ∀ a2 n2 c2 w', Own 49 4 TTrialLine.enc w' a2 n2 c2 (auditM ps).2 → (∀ k, obk a2 c2 = some k → w.heap.size ≤ k) → Ext w w' → Q a2 n2 c2 (auditM ps).1 w') : Cl Pg 20 #[vl a n c] w (fun v w' => ∃ a2 n2 c2 r, v = .tuple #[vl a2 n2 c2, vi r] ∧ Q a2 n2 c2 r w') := by
  have hl := hr.1
  refine ref06_Audit.ok (ifb ?_)
  split
  · rename_i hlong
    have hQ := hQ none 0 0 w
    unfold auditM at hQ
    rw [if_pos (by have := of_decide_eq_true hlong; omega)] at hQ
    exact hQ Own.nil (fun _ h => by cases h) (er w)
  rename_i hlong
  have hlong : n ≤ 20000 := by simp at hlong; omega
  refine ⟨n + 1, ?_⟩
  have bad : ∀ {r : Int} {w'}, r ≠ 0 → (auditOn [] none ps).1 = r → Ext w w' → Q none 0 0 r w' := fun {r w'} h0 e E' => by
    have hQ := hQ none 0 0 w'
    unfold auditM at hQ
    rw [if_neg (by omega), if_pos (by rw [e]; exact h0)] at hQ
    rw [e] at hQ
    exact hQ Own.nil (fun _ h => by cases h) E'
  have key : ∀ m i w' M q a2 n2 c2, i + m = n → Ext w w' → Own 49 4 TTrialLine.enc w' a2 n2 c2 (sortedOf M) → (M.Pairwise fun x y => x.1 ≠ y.1) → n2 ≤ 2 * i → (q = if i = 0 then none else (ps[i - 1]?).map (·.Day)) → auditOn M q (ps.drop i) = auditOn [] none ps → ref06_Audit.l1 Q a n (m + 1) a2 n2 c2 (i : Nat) w' := by
    intro m
    induction m with
    | zero =>
      intro i w' M q a2 n2 c2 hi E' ho hp hn2 hq hb
      unfold ref06_Audit.l1
      rw [List.drop_of_length_le (by omega)] at hb
      simp only [auditOn] at hb
      refine ifb_df (by omega) (rlines_c (ho.rd encLine) (by omega) fun a3 n3 c3 w2 ho3 hk3 E2 => ?_)
      have hQ := hQ a3 n3 c3 w2
      unfold auditM at hQ
      rw [if_neg (by omega), ← hb, if_neg (by simp)] at hQ
      rw [sorted_lines hp] at ho3
      exact hQ ho3 (fun k h => Nat.le_trans E'.size (hk3 k h)) (Ext.trans E' E2)
    | succ m ih =>
      intro i w' M q a2 n2 c2 hi E' ho hp hn2 hq hb
      unfold ref06_Audit.l1
      refine ifb_dt (by omega) ((hr.ext E').ix (by omega) (by omega) fun a0 x ha hx hc => ⟨x, hc, al_f E' fun b1 w2 hb1 hat1 E2 e2 _ => sb_f E2 hat1 hb1 fun w3 hat3 E3 f3 => wellFormed_c fun w4 e4 => ⟨e4.blk _ hat3.lt id, ?_⟩⟩)
      simp only [Int.toNat_natCast] at hx
      obtain ⟨hxl, hx'⟩ := List.getElem?_eq_some_iff.1 hx
      rw [List.drop_eq_getElem_cons hxl, hx'] at hb
      simp only [auditOn] at hb
      have E4 := E3.ext e4
      have ho4 := ((ho.ext e2).frm f3 fun b h e => (ho.ext e2).neT hat1 (by simp [tyO]) (by rw [h, e])).ext e4
      have hat4 := hat3.ext e4
      refine ifb ?_
      split
      · rename_i hf
        rw [if_pos hf] at hb
        exact bad (by decide) (by rw [← hb]) E4
      rename_i hf
      rw [if_neg hf] at hb
      have hf : fineP x = true := by simpa using hf
      refine dr_f E4 fun w9 E9 e9 => ?_
      have ho9 := ho4.ext e9
      have hat9 := hat4.ext e9
      have j1 : ∀ v, v = lateP q x → ref06_Audit.j1 Q a2 n2 c2 (i : Nat) (ref06_Audit.l1 Q a n (m + 1)) x b1 v w9 := by
        intro v hv
        subst hv
        unfold ref06_Audit.j1
        refine ifb ?_
        split
        · rename_i hl
          rw [if_pos hl] at hb
          exact bad (by decide) (by rw [← hb]) E9
        rename_i hl
        rw [if_neg hl] at hb
        refine added_c (p := ⟨x.From_Kind, x.From_Id, x.Unit⟩) (ho9.rd encLine) (by omega) fun a3 n3 c3 w6 ho6 hk6 e6 => ⟨e6.blk _ hat9.lt id, ?_⟩
        refine added_c (p := ⟨x.To_Kind, x.To_Id, x.Unit⟩) (ho6.rd encLine) (by rw [ho6.1]; have h1 := addedOn_len ⟨x.From_Kind, x.From_Id, x.Unit, wr (0 - x.N)⟩ (sortedOf M); rw [← ho.1] at h1; exact Nat.le_trans h1 (by omega)) fun a4 n4 c4 w7 ho7 hk7 e7 => ⟨e7.blk _ (hat9.ext e6).lt id, ?_⟩
        have hn4 : n4 ≤ 2 * (i + 1) := by
          have h1 := addedOn_len ⟨x.From_Kind, x.From_Id, x.Unit, wr (0 - x.N)⟩ (sortedOf M)
          have h2 := addedOn_len ⟨x.To_Kind, x.To_Id, x.Unit, x.N⟩ (addedOn ⟨x.From_Kind, x.From_Id, x.Unit, wr (0 - x.N)⟩ (sortedOf M))
          have h3 : n4 = (addedOn ⟨x.To_Kind, x.To_Id, x.Unit, x.N⟩ (addedOn ⟨x.From_Kind, x.From_Id, x.Unit, wr (0 - x.N)⟩ (sortedOf M))).length := ho7.1
          have h4 := ho.1
          omega
        have ho7 : Own 49 4 TTrialLine.enc w7 a4 n4 c4 (addedOn ⟨x.To_Kind, x.To_Id, x.Unit, x.N⟩ (addedOn ⟨x.From_Kind, x.From_Id, x.Unit, wr (0 - x.N)⟩ (sortedOf M))) := ho7
        rw [subAdd hp x hf] at ho7
        have hp7 : (addM (subM M (pFrom x) x.N) (pTo x) x.N).Pairwise fun x y => x.1 ≠ y.1 := putM_pw (putM_pw hp)
        have hg : getM (addM (subM M (pFrom x) x.N) (pTo x) x.N) (pFrom x) = getM (subM M (pFrom x) x.N) (pFrom x) := getM_putM_ne (fineP_ne hf) _ _
        refine of_c (p := ⟨x.From_Kind, x.From_Id, x.Unit⟩) (ho7.rd encLine) (by omega) fun w8 e8 => ⟨e8.blk _ ((hat9.ext e6).ext e7).lt id, ?_⟩
        have hgl : getL ⟨x.From_Kind, x.From_Id, x.Unit⟩ (sortedOf (addM (subM M (pFrom x) x.N) (pTo x) x.N)) = getM (subM M (pFrom x) x.N) (pFrom x) := (getL_sorted hp7 (pFrom x)).trans hg
        rw [hgl]
        have E8 : Ext w w8 := ((E9.ext e6).ext e7).ext e8
        refine ifb ?_
        split
        · rename_i hc
          rw [if_pos (by simpa [and_assoc] using hc)] at hb
          exact bad (by decide) (by rw [← hb]) E8
        · rename_i hc
          rw [if_neg (by simpa [and_assoc] using hc)] at hb
          rw [wrap_succ (n := n) (by omega) (by omega) (by simp only [maxLen]; omega)]
          exact ih (i + 1) w8 _ (some x.Day) a4 n4 c4 (by omega) E8 (ho7.ext e8) hp7 hn4 (by rw [if_neg (by omega), Nat.add_sub_cancel, hx]; rfl) hb
      refine ifb ?_
      split
      · rename_i h3'
        have h3' : 0 < i := by have := of_decide_eq_true h3'; omega
        have hw : IntKind.wrap .i64 (((i : Nat) : Int) - 1) = ((i - 1 : Nat) : Int) := by rw [wrap_id (by omega) (by omega)]; omega
        rw [hw]
        refine (hr.ext E9).ix (by omega) (by omega) fun a1 y ha1' hy hcy => ⟨_, (by have := hcy.at 0 rfl; exact this), j1 _ ?_⟩
        simp only [Int.toNat_natCast] at hy
        rw [if_neg (by omega), hy] at hq
        subst hq
        rfl
      · rename_i h3'
        have h3' : i = 0 := by simp at h3'; omega
        rw [if_pos h3'] at hq
        subst hq
        exact j1 _ rfl
  exact key n 0 w [] none none 0 0 (by omega) (er w) Own.nil List.Pairwise.nil (by omega) (by simp) (by simp)
end Go.Proofs.YtcbijkakoepglaaGreat
namespace Go.Proofs.YtcbijkakoepglaaGreat
open Go Go.Wx
set_option maxRecDepth 100000
def slices_Clone_unit.R (Q : Option Addr → Nat → Nat → World → Prop) (s_a : Option Addr) (s_n : Nat) (s_c : Nat) (w : World) : Prop := (
  Ifb s_a.isNone
      (Q none 0 0 w)
      (Al w (.cells #[] 150) fun b1 w1 =>
      Ap Pg w1 #[117, 117] 117 (vl (some ⟨b1, 0, none⟩) 0 0) (vl s_a s_n s_c) fun a1_a a1_n a1_c w2 =>
      Q a1_a a1_n a1_c w2))
theorem slices_Clone_unit.ok {Q : Option Addr → Nat → Nat → World → Prop} {s_a : Option Addr} {s_n : Nat} {s_c : Nat} {w : World} (h : slices_Clone_unit.R Q s_a s_n s_c w) : Cl Pg 179 #[vl s_a s_n s_c] w (fun v w' => ∃ (r0a : Option Addr), ∃ (r0n : Nat), ∃ (r0c : Nat), v = vl r0a r0n r0c ∧ Q r0a r0n r0c w') := by
 refine calls_args (args := [vl s_a s_n s_c]) Tryz.func179 ?_
 unfold slices_Clone_unit.R at h
 refine W_regseq ?_
 refine ps 1 [(2, vl none 0 0)] ?_
 refine WO_nil ?_
 refine W_seq ?_
 refine W_regseq ?_
 refine ps 1 [(3, vl s_a s_n s_c)] ?_
 refine WO_p rfl rfl (v := vb s_a.isNone) (ex_eqlnil_sl_l (by kernel_rfl) rfl rfl rfl) ?_
 refine WO_nil ?_
 refine ci h (fun h => ?_) fun h => ?_
 ·refine W_regseq ?_
  refine ps 1 [(2, vl none 0 0)] ?_
  refine WO_nil ?_
  refine W_ret ?_
  refine seqK_ret ?_
  exact ret1 (v := vl none 0 0) (t := 2) rfl rfl ⟨_, _, _, rfl, h⟩
 ·refine W_skip ?_
  refine W_regseq ?_
  refine als 0 h ?_
  intro b1 w1 eb ew hb_b1 h
  clear eb ew hb_b1
  refine ps 1 [(6, vl s_a s_n s_c)] ?_
  refine ap h ?_
  rintro a1_a a1_n a1_c w2 h
  refine ps 1 [(2, vl a1_a a1_n a1_c)] ?_
  refine WO_nil ?_
  refine W_ret ?_
  exact ret1 (v := vl a1_a a1_n a1_c) (t := 2) rfl rfl ⟨_, _, _, rfl, h⟩
def slices_Clone_dated.R (Q : Option Addr → Nat → Nat → World → Prop) (s_a : Option Addr) (s_n : Nat) (s_c : Nat) (w : World) : Prop := (
  Ifb s_a.isNone
      (Q none 0 0 w)
      (Al w (.cells #[] 175) fun b1 w1 =>
      Ap Pg w1 #[148, 148] 148 (vl (some ⟨b1, 0, none⟩) 0 0) (vl s_a s_n s_c) fun a1_a a1_n a1_c w2 =>
      Q a1_a a1_n a1_c w2))
theorem slices_Clone_dated.ok {Q : Option Addr → Nat → Nat → World → Prop} {s_a : Option Addr} {s_n : Nat} {s_c : Nat} {w : World} (h : slices_Clone_dated.R Q s_a s_n s_c w) : Cl Pg 180 #[vl s_a s_n s_c] w (fun v w' => ∃ (r0a : Option Addr), ∃ (r0n : Nat), ∃ (r0c : Nat), v = vl r0a r0n r0c ∧ Q r0a r0n r0c w') := by
 refine calls_args (args := [vl s_a s_n s_c]) Tryz.func180 ?_
 unfold slices_Clone_dated.R at h
 refine W_regseq ?_
 refine ps 1 [(2, vl none 0 0)] ?_
 refine WO_nil ?_
 refine W_seq ?_
 refine W_regseq ?_
 refine ps 1 [(3, vl s_a s_n s_c)] ?_
 refine WO_p rfl rfl (v := vb s_a.isNone) (ex_eqlnil_sl_l (by kernel_rfl) rfl rfl rfl) ?_
 refine WO_nil ?_
 refine ci h (fun h => ?_) fun h => ?_
 ·refine W_regseq ?_
  refine ps 1 [(2, vl none 0 0)] ?_
  refine WO_nil ?_
  refine W_ret ?_
  refine seqK_ret ?_
  exact ret1 (v := vl none 0 0) (t := 2) rfl rfl ⟨_, _, _, rfl, h⟩
 ·refine W_skip ?_
  refine W_regseq ?_
  refine als 0 h ?_
  intro b1 w1 eb ew hb_b1 h
  clear eb ew hb_b1
  refine ps 1 [(6, vl s_a s_n s_c)] ?_
  refine ap h ?_
  rintro a1_a a1_n a1_c w2 h
  refine ps 1 [(2, vl a1_a a1_n a1_c)] ?_
  refine WO_nil ?_
  refine W_ret ?_
  exact ret1 (v := vl a1_a a1_n a1_c) (t := 2) rfl rfl ⟨_, _, _, rfl, h⟩
def slices_Clone_term.R (Q : Option Addr → Nat → Nat → World → Prop) (s_a : Option Addr) (s_n : Nat) (s_c : Nat) (w : World) : Prop := (
  Ifb s_a.isNone
      (Q none 0 0 w)
      (Al w (.cells #[] 152) fun b1 w1 =>
      Ap Pg w1 #[118, 118] 118 (vl (some ⟨b1, 0, none⟩) 0 0) (vl s_a s_n s_c) fun a1_a a1_n a1_c w2 =>
      Q a1_a a1_n a1_c w2))
theorem slices_Clone_term.ok {Q : Option Addr → Nat → Nat → World → Prop} {s_a : Option Addr} {s_n : Nat} {s_c : Nat} {w : World} (h : slices_Clone_term.R Q s_a s_n s_c w) : Cl Pg 181 #[vl s_a s_n s_c] w (fun v w' => ∃ (r0a : Option Addr), ∃ (r0n : Nat), ∃ (r0c : Nat), v = vl r0a r0n r0c ∧ Q r0a r0n r0c w') := by
 refine calls_args (args := [vl s_a s_n s_c]) Tryz.func181 ?_
 unfold slices_Clone_term.R at h
 refine W_regseq ?_
 refine ps 1 [(2, vl none 0 0)] ?_
 refine WO_nil ?_
 refine W_seq ?_
 refine W_regseq ?_
 refine ps 1 [(3, vl s_a s_n s_c)] ?_
 refine WO_p rfl rfl (v := vb s_a.isNone) (ex_eqlnil_sl_l (by kernel_rfl) rfl rfl rfl) ?_
 refine WO_nil ?_
 refine ci h (fun h => ?_) fun h => ?_
 ·refine W_regseq ?_
  refine ps 1 [(2, vl none 0 0)] ?_
  refine WO_nil ?_
  refine W_ret ?_
  refine seqK_ret ?_
  exact ret1 (v := vl none 0 0) (t := 2) rfl rfl ⟨_, _, _, rfl, h⟩
 ·refine W_skip ?_
  refine W_regseq ?_
  refine als 0 h ?_
  intro b1 w1 eb ew hb_b1 h
  clear eb ew hb_b1
  refine ps 1 [(6, vl s_a s_n s_c)] ?_
  refine ap h ?_
  rintro a1_a a1_n a1_c w2 h
  refine ps 1 [(2, vl a1_a a1_n a1_c)] ?_
  refine WO_nil ?_
  refine W_ret ?_
  exact ret1 (v := vl a1_a a1_n a1_c) (t := 2) rfl rfl ⟨_, _, _, rfl, h⟩
def slices_Clone_Lot.R (Q : Option Addr → Nat → Nat → World → Prop) (s_a : Option Addr) (s_n : Nat) (s_c : Nat) (w : World) : Prop := (
  Ifb s_a.isNone
      (Q none 0 0 w)
      (Al w (.cells #[] 45) fun b1 w1 =>
      Ap Pg w1 #[46, 46] 46 (vl (some ⟨b1, 0, none⟩) 0 0) (vl s_a s_n s_c) fun a1_a a1_n a1_c w2 =>
      Q a1_a a1_n a1_c w2))
theorem slices_Clone_Lot.ok {Q : Option Addr → Nat → Nat → World → Prop} {s_a : Option Addr} {s_n : Nat} {s_c : Nat} {w : World} (h : slices_Clone_Lot.R Q s_a s_n s_c w) : Cl Pg 182 #[vl s_a s_n s_c] w (fun v w' => ∃ (r0a : Option Addr), ∃ (r0n : Nat), ∃ (r0c : Nat), v = vl r0a r0n r0c ∧ Q r0a r0n r0c w') := by
 refine calls_args (args := [vl s_a s_n s_c]) Tryz.func182 ?_
 unfold slices_Clone_Lot.R at h
 refine W_regseq ?_
 refine ps 1 [(2, vl none 0 0)] ?_
 refine WO_nil ?_
 refine W_seq ?_
 refine W_regseq ?_
 refine ps 1 [(3, vl s_a s_n s_c)] ?_
 refine WO_p rfl rfl (v := vb s_a.isNone) (ex_eqlnil_sl_l (by kernel_rfl) rfl rfl rfl) ?_
 refine WO_nil ?_
 refine ci h (fun h => ?_) fun h => ?_
 ·refine W_regseq ?_
  refine ps 1 [(2, vl none 0 0)] ?_
  refine WO_nil ?_
  refine W_ret ?_
  refine seqK_ret ?_
  exact ret1 (v := vl none 0 0) (t := 2) rfl rfl ⟨_, _, _, rfl, h⟩
 ·refine W_skip ?_
  refine W_regseq ?_
  refine als 0 h ?_
  intro b1 w1 eb ew hb_b1 h
  clear eb ew hb_b1
  refine ps 1 [(6, vl s_a s_n s_c)] ?_
  refine ap h ?_
  rintro a1_a a1_n a1_c w2 h
  refine ps 1 [(2, vl a1_a a1_n a1_c)] ?_
  refine WO_nil ?_
  refine W_ret ?_
  exact ret1 (v := vl a1_a a1_n a1_c) (t := 2) rfl rfl ⟨_, _, _, rfl, h⟩
def slices_Clone_Posting.R (Q : Option Addr → Nat → Nat → World → Prop) (s_a : Option Addr) (s_n : Nat) (s_c : Nat) (w : World) : Prop := (
  Ifb s_a.isNone
      (Q none 0 0 w)
      (Al w (.cells #[] 42) fun b1 w1 =>
      Ap Pg w1 #[22, 22] 22 (vl (some ⟨b1, 0, none⟩) 0 0) (vl s_a s_n s_c) fun a1_a a1_n a1_c w2 =>
      Q a1_a a1_n a1_c w2))
theorem slices_Clone_Posting.ok {Q : Option Addr → Nat → Nat → World → Prop} {s_a : Option Addr} {s_n : Nat} {s_c : Nat} {w : World} (h : slices_Clone_Posting.R Q s_a s_n s_c w) : Cl Pg 85 #[vl s_a s_n s_c] w (fun v w' => ∃ (r0a : Option Addr), ∃ (r0n : Nat), ∃ (r0c : Nat), v = vl r0a r0n r0c ∧ Q r0a r0n r0c w') := by
 refine calls_args (args := [vl s_a s_n s_c]) Tryz.func85 ?_
 unfold slices_Clone_Posting.R at h
 refine W_regseq ?_
 refine ps 1 [(2, vl none 0 0)] ?_
 refine WO_nil ?_
 refine W_seq ?_
 refine W_regseq ?_
 refine ps 1 [(3, vl s_a s_n s_c)] ?_
 refine WO_p rfl rfl (v := vb s_a.isNone) (ex_eqlnil_sl_l (by kernel_rfl) rfl rfl rfl) ?_
 refine WO_nil ?_
 refine ci h (fun h => ?_) fun h => ?_
 ·refine W_regseq ?_
  refine ps 1 [(2, vl none 0 0)] ?_
  refine WO_nil ?_
  refine W_ret ?_
  refine seqK_ret ?_
  exact ret1 (v := vl none 0 0) (t := 2) rfl rfl ⟨_, _, _, rfl, h⟩
 ·refine W_skip ?_
  refine W_regseq ?_
  refine als 0 h ?_
  intro b1 w1 eb ew hb_b1 h
  clear eb ew hb_b1
  refine ps 1 [(6, vl s_a s_n s_c)] ?_
  refine ap h ?_
  rintro a1_a a1_n a1_c w2 h
  refine ps 1 [(2, vl a1_a a1_n a1_c)] ?_
  refine WO_nil ?_
  refine W_ret ?_
  exact ret1 (v := vl a1_a a1_n a1_c) (t := 2) rfl rfl ⟨_, _, _, rfl, h⟩
def drawers_state_copied.l1 (Q : Tstate → World → Prop) (s : Tstate) (b1 : Nat) (b2 : Nat) (r1_a : Option Addr) (r1_n : Nat) (r1_c : Nat) : Nat → Int → World → Prop
       | 0, _, _ => False
       | nl1 + 1, v1, w5 => (
       Ifb (decide (v1 < ((r1_n : Nat) : Int)))
      (Dr w5 fun w6 =>
      Ix r1_a r1_n v1 fun p1 =>
      LdSl w6 (Addr.add (Addr.add p1 (v1.toNat * 3)) 2) fun x1_a x1_n x1_c =>
      Cl Pg 180 #[vl x1_a x1_n x1_c] w6 (fun v w7 => ∃ (r2_a : Option Addr), ∃ (r2_n : Nat), ∃ (r2_c : Nat), v = vl r2_a r2_n r2_c ∧ Kp b1 w6 w7 ∧ Kp b2 w6 w7 ∧ Ix r1_a r1_n v1 fun p2 =>
      St w7 (Addr.add (Addr.add p2 (v1.toNat * 3)) 2) ([vl r2_a r2_n r2_c]) fun w8 =>
      Kp b1 w7 w8 ∧ Kp b2 w7 w8 ∧ (drawers_state_copied.l1 Q s b1 b2 r1_a r1_n r1_c nl1) (IntKind.wrap .i64 (v1 + (1 : Int))) w8))
      (Cl Pg 181 #[vl s.terms_a s.terms_n s.terms_c] w5 (fun v w9 => ∃ (r3_a : Option Addr), ∃ (r3_n : Nat), ∃ (r3_c : Nat), v = vl r3_a r3_n r3_c ∧ Kp b1 w5 w9 ∧ Kp b2 w5 w9 ∧ Sb w9 b1 (.cells #[vi s.day, vl r1_a r1_n r1_c, vl r3_a r3_n r3_c, vl s.lots_a s.lots_n s.lots_c, vl s.postings_a s.postings_n s.postings_c] 120 (0, 0)) fun w10 =>
      Cl Pg 182 #[vl s.lots_a s.lots_n s.lots_c] w10 (fun v w11 => ∃ (r4_a : Option Addr), ∃ (r4_n : Nat), ∃ (r4_c : Nat), v = vl r4_a r4_n r4_c ∧ Kp b1 w10 w11 ∧ Kp b2 w10 w11 ∧ Sb w11 b1 (.cells #[vi s.day, vl r1_a r1_n r1_c, vl r3_a r3_n r3_c, vl r4_a r4_n r4_c, vl s.postings_a s.postings_n s.postings_c] 120 (0, 0)) fun w12 =>
      Cl Pg 85 #[vl s.postings_a s.postings_n s.postings_c] w12 (fun v w13 => ∃ (r5_a : Option Addr), ∃ (r5_n : Nat), ∃ (r5_c : Nat), v = vl r5_a r5_n r5_c ∧ Kp b1 w12 w13 ∧ Kp b2 w12 w13 ∧ Sb w13 b1 (.cells #[vi s.day, vl r1_a r1_n r1_c, vl r3_a r3_n r3_c, vl r4_a r4_n r4_c, vl r5_a r5_n r5_c] 120 (0, 0)) fun w14 =>
      Sb w14 b2 (.cells #[vi s.day, vl r1_a r1_n r1_c, vl r3_a r3_n r3_c, vl r4_a r4_n r4_c, vl r5_a r5_n r5_c] 120 (0, 0)) fun w15 =>
      Q (⟨s.day, r1_a, r1_n, r1_c, r3_a, r3_n, r3_c, r4_a, r4_n, r4_c, r5_a, r5_n, r5_c⟩ : Tstate) w15)))))
def drawers_state_copied.R (Q : Tstate → World → Prop) (s : Tstate) (w : World) : Prop := (
  Al w (.cells #[vi s.day, vl s.units_a s.units_n s.units_c, vl s.terms_a s.terms_n s.terms_c, vl s.lots_a s.lots_n s.lots_c, vl s.postings_a s.postings_n s.postings_c] 120) fun b1 w1 =>
      Al w1 (.cells #[vi 0, vl none 0 0, vl none 0 0, vl none 0 0, vl none 0 0] 120) fun b2 w2 =>
      Cl Pg 179 #[vl s.units_a s.units_n s.units_c] w2 (fun v w3 => ∃ (r1_a : Option Addr), ∃ (r1_n : Nat), ∃ (r1_c : Nat), v = vl r1_a r1_n r1_c ∧ Kp b1 w2 w3 ∧ Kp b2 w2 w3 ∧ Sb w3 b1 (.cells #[vi s.day, vl r1_a r1_n r1_c, vl s.terms_a s.terms_n s.terms_c, vl s.lots_a s.lots_n s.lots_c, vl s.postings_a s.postings_n s.postings_c] 120 (0, 0)) fun w4 =>
      ∃ k, drawers_state_copied.l1 Q s b1 b2 r1_a r1_n r1_c k 0 w4))
theorem drawers_state_copied.ok {Q : Tstate → World → Prop} {s : Tstate} {w : World} (h : drawers_state_copied.R Q s w) : Cl Pg 139 #[vg (Tstate.enc s)] w (fun v w' => ∃ (r0 : Tstate), v = vg (Tstate.enc r0) ∧ Q r0 w') := by
 refine calls_args (args := [vg (Tstate.enc s)]) Tryz.func139 ?_
 unfold drawers_state_copied.R at h
 refine W_regseq ?_
 refine alp h ?_
 intro b1 w1 eb ew hb_b1 h
 clear eb ew
 refine alp h ?_
 intro b2 w2 eb ew hb_b2 h
 have old_hb_b1 := hb_b1
 replace hb_b1 := al_keep ew hb_b1
 have ne_b1_b2 : b1 ≠ b2 := blk_ne old_hb_b1 eb
 clear old_hb_b1
 clear eb ew
 refine WO_nil ?_
 refine W_regseq ?_
 refine ps 1 [(4, vp ⟨b1, 1, none⟩)] ?_
 refine lb1 tk117 hb_b1 ?_
 refine cl h ?_
 rintro _ w3 ⟨r1_a, r1_n, r1_c, rfl, hk0, hk1, h⟩
 replace hb_b1 := kp_at hk0 hb_b1
 replace hb_b2 := kp_at hk1 hb_b2
 refine ps 1 [(7, vp ⟨b1, 1, none⟩)] ?_
 refine sb tk117 hb_b1 h ?_
 intro w4 ew hb_ h
 replace hb_b2 := sb_keep ew ne_b1_b2.symm hb_b2
 replace hb_b1 := hb_
 clear ew
 refine WO_nil ?_
 refine W_seq ?_
 refine W_regseq ?_
 refine ps 1 [(8, vp ⟨b1, 1, none⟩)] ?_
 refine lb1 tk117 hb_b1 ?_
 refine ps 2 [(10, vi (r1_n : Nat)), (11, vi 0)] ?_
 refine WO_nil ?_
 refine W_block ?_
 obtain ⟨nl1, h⟩ := h
 refine W_loopI (fun k e w5 => ∃ (e0 : Env) (v1 : Int), e = upds e0 [(1, vp ⟨b1, 0, none⟩), (2, vp ⟨b2, 0, none⟩), (10, vi (r1_n : Nat)), (11, vi v1)] ∧ w5.heap[b1]? = some (.cells #[vi s.day, vl r1_a r1_n r1_c, vl s.terms_a s.terms_n s.terms_c, vl s.lots_a s.lots_n s.lots_c, vl s.postings_a s.postings_n s.postings_c] 120 (0, 0)) ∧ w5.heap[b2]? = some (.cells #[vi 0, vl none 0 0, vl none 0 0, vl none 0 0, vl none 0 0] 120 (0, 0)) ∧ b1 ≠ b2 ∧ drawers_state_copied.l1 Q s b1 b2 r1_a r1_n r1_c k v1 w5) nl1 ?_ ?_ ?_
 ·rintro _ _ ⟨_, _, _, _, _, _, h⟩
  exact h
 ·exact ⟨_, 0, Agree.eq ⟨rfl, rfl, rfl, rfl, trivial⟩, hb_b1, hb_b2, ne_b1_b2, h⟩
 ·clear h nl1 hb_b1 hb_b2 ne_b1_b2
  rintro nl1 _ w5 ⟨e0, v1, rfl, hb_b1, hb_b2, ne_b1_b2, h⟩
  unfold drawers_state_copied.l1 at h
  refine W_regseq ?_
  refine ps 1 [(12, vb (decide (v1 < ((r1_n : Nat) : Int))))] ?_
  refine WO_nil ?_
  refine W_seq ?_
  refine ci h (fun h => ?_) fun h => ?_
  ·refine W_skip ?_
   refine W_seq ?_
   refine W_block ?_
   refine W_regseq ?_
   refine ps 2 [(13, vi v1), (3, vi v1)] ?_
   refine WO_nil ?_
   refine drw folM [[], [], [], [], [], [], [4], [4], [4], [4, 8], [1, 4, 8], [1, 4, 8], [1, 4, 8]] [.p 0, .l 1, .p 2, .p 3, .l 4, .p 5, .p 6, .p 7, .l 8, .e 9, .p 10, .p 11, .e 12] h ?_
   intro w6 ew h
   replace hb_b1 := dr_keep ew hb_b1
   replace hb_b2 := dr_keep ew hb_b2
   clear ew
   refine psC 1 [(14, vp ⟨b1, 1, none⟩)] ?_
   refine lb1C tk117 hb_b1 ?_
   refine psC 2 [(16, vi v1), (17, vp ⟨b1, 1, none⟩)] ?_
   refine lb1C tk117 hb_b1 ?_
   refine psC 1 [(19, vi v1)] ?_
   refine ixC slk117 h fun p1 h => ?_
   refine psC 1 [(21, vp (Addr.add (Addr.add p1 (v1.toNat * 3)) 2))] ?_
   obtain ⟨x1_a, x1_n, x1_c, hx1, h⟩ := h
   refine ld1C tk148 hx1 ?_
   refine clC h ?_
   rintro _ w7 ⟨r2_a, r2_n, r2_c, rfl, hk0, hk1, h⟩
   replace hb_b1 := kp_at hk0 hb_b1
   replace hb_b2 := kp_at hk1 hb_b2
   refine ⟨AllOk.cons (Pend_ok (ex_load rfl rfl (run_loadVar1 tk117 (cell_blk hb_b1 rfl)))) <| AllOk.nil, ?_⟩
   refine ixC slk117 h fun p2 h => ?_
   refine psC 1 [(25, vp (Addr.add (Addr.add p2 (v1.toNat * 3)) 2))] ?_
   refine stC tk148 h ?_
   rintro w8 ⟨hk0, hk1, h⟩
   replace hb_b1 := kp_at hk0 hb_b1
   replace hb_b2 := kp_at hk1 hb_b2
   refine ⟨AllOk.nil, ?_⟩
   refine WC_nil ?_
   refine blockK_normal ?_
   refine W_reg ?_
   refine ps 2 [(26, vi (IntKind.wrap .i64 (v1 + (1 : Int)))), (11, vi (IntKind.wrap .i64 (v1 + (1 : Int))))] ?_
   refine WO_nil ?_
   exact ⟨_, IntKind.wrap .i64 (v1 + (1 : Int)), Agree.eq ⟨rfl, rfl, rfl, rfl, trivial⟩, hb_b1, hb_b2, ne_b1_b2, h⟩
  ·refine W_exit ?_
   refine blockK_hit ?_
   refine W_regseq ?_
   refine ps 1 [(27, vp ⟨b1, 2, none⟩)] ?_
   refine lb1 tk118 hb_b1 ?_
   refine cl h ?_
   rintro _ w9 ⟨r3_a, r3_n, r3_c, rfl, hk0, hk1, h⟩
   replace hb_b1 := kp_at hk0 hb_b1
   replace hb_b2 := kp_at hk1 hb_b2
   refine ps 1 [(30, vp ⟨b1, 2, none⟩)] ?_
   refine sb tk118 hb_b1 h ?_
   intro w10 ew hb_ h
   replace hb_b2 := sb_keep ew ne_b1_b2.symm hb_b2
   replace hb_b1 := hb_
   clear ew
   refine WO_nil ?_
   refine W_regseq ?_
   refine ps 1 [(31, vp ⟨b1, 3, none⟩)] ?_
   refine lb1 tk46 hb_b1 ?_
   refine cl h ?_
   rintro _ w11 ⟨r4_a, r4_n, r4_c, rfl, hk0, hk1, h⟩
   replace hb_b1 := kp_at hk0 hb_b1
   replace hb_b2 := kp_at hk1 hb_b2
   refine ps 1 [(34, vp ⟨b1, 3, none⟩)] ?_
   refine sb tk46 hb_b1 h ?_
   intro w12 ew hb_ h
   replace hb_b2 := sb_keep ew ne_b1_b2.symm hb_b2
   replace hb_b1 := hb_
   clear ew
   refine WO_nil ?_
   refine W_regseq ?_
   refine ps 1 [(35, vp ⟨b1, 4, none⟩)] ?_
   refine lb1 tk22 hb_b1 ?_
   refine cl h ?_
   rintro _ w13 ⟨r5_a, r5_n, r5_c, rfl, hk0, hk1, h⟩
   replace hb_b1 := kp_at hk0 hb_b1
   replace hb_b2 := kp_at hk1 hb_b2
   refine ps 1 [(38, vp ⟨b1, 4, none⟩)] ?_
   refine sb tk22 hb_b1 h ?_
   intro w14 ew hb_ h
   replace hb_b2 := sb_keep ew ne_b1_b2.symm hb_b2
   replace hb_b1 := hb_
   clear ew
   refine WO_nil ?_
   refine W_regseq ?_
   refine lbn [vi s.day, vl r1_a r1_n r1_c, vl r3_a r3_n r3_c, vl r4_a r4_n r4_c, vl r5_a r5_n r5_c] tk120 hb_b1 ?_
   refine sb tk120 hb_b2 h ?_
   intro w15 ew hb_ h
   replace hb_b2 := hb_
   clear ew
   refine WO_nil ?_
   refine W_ret ?_
   exact retc (t := 2) (ty := 120) (v := vg [vi s.day, vl r1_a r1_n r1_c, vl r3_a r3_n r3_c, vl r4_a r4_n r4_c, vl r5_a r5_n r5_c]) rfl rfl (run_loadVarN tk120 (vs := [vi s.day, vl r1_a r1_n r1_c, vl r3_a r3_n r3_c, vl r4_a r4_n r4_c, vl r5_a r5_n r5_c]) rfl (cells_blk hb_b2 rfl)) ⟨_, rfl, h⟩
end Go.Proofs.YtcbijkakoepglaaGreat
namespace Go.Proofs.YtcbijkakoepglaaGreat
open Go Go.Wx

theorem cloneUnit {w : World} {a : Option Addr} {n c : Nat} {xs : List Tunit} (hr : Rd Tunit.enc 3 w a n xs) (hn : n ≤ 1000000) {Q : Option Addr → Nat → Nat → World → Prop}
    (hQ : ∀ a2 c2 w', Own 150 3 Tunit.enc w' a2 n c2 xs → (∀ k, obk a2 c2 = some k → w.heap.size ≤ k) → Ext w w' → Q a2 n c2 w') :
    Cl Pg 179 #[vl a n c] w (fun v w' => ∃ a2 n2 c2, v = vl a2 n2 c2 ∧ Q a2 n2 c2 w') := by
  refine slices_Clone_unit.ok (ifb ?_)
  cases a with
  | none =>
    have h0 := hr.2.1 rfl
    subst h0
    obtain rfl : xs = [] := List.eq_nil_of_length_eq_zero hr.1.symm
    exact hQ _ _ _ Own.nil (fun k hk => (by cases hk)) (er w)
  | some a0 =>
    refine al_f (er w) fun b1 w1 hb hat E _ _ => ap_own (c := 0) ap117 encUnit (fun x => oneAll rfl) (xs := []) Own.nil' (hr.ext E) (by omega) (by simp only [maxLen]; omega) fun a2 c2 w2 ho F hb2 => ?_
    rw [Nat.zero_add, List.nil_append] at *
    exact hQ _ _ _ ho (fun k hk => (hb2 k hk).elim (fun e => (by cases e)) fun h => Nat.le_trans E.size h) (E.trans (F.mono fun k _ e => (by cases e)) fun _ _ h => h)

theorem cloneDated {w : World} {a : Option Addr} {n c : Nat} {xs : List Tdated} (hr : Rd Tdated.enc 2 w a n xs) (hn : n ≤ 1000000) {Q : Option Addr → Nat → Nat → World → Prop}
    (hQ : ∀ a2 c2 w', Own 175 2 Tdated.enc w' a2 n c2 xs → (∀ k, obk a2 c2 = some k → w.heap.size ≤ k) → Ext w w' → Q a2 n c2 w') :
    Cl Pg 180 #[vl a n c] w (fun v w' => ∃ a2 n2 c2, v = vl a2 n2 c2 ∧ Q a2 n2 c2 w') := by
  refine slices_Clone_dated.ok (ifb ?_)
  cases a with
  | none =>
    have h0 := hr.2.1 rfl
    subst h0
    obtain rfl : xs = [] := List.eq_nil_of_length_eq_zero hr.1.symm
    exact hQ _ _ _ Own.nil (fun k hk => (by cases hk)) (er w)
  | some a0 =>
    refine al_f (er w) fun b1 w1 hb hat E _ _ => ap_own (c := 0) ap148 encDated (fun x => oneAll rfl) (xs := []) Own.nil' (hr.ext E) (by omega) (by simp only [maxLen]; omega) fun a2 c2 w2 ho F hb2 => ?_
    rw [Nat.zero_add, List.nil_append] at *
    exact hQ _ _ _ ho (fun k hk => (hb2 k hk).elim (fun e => (by cases e)) fun h => Nat.le_trans E.size h) (E.trans (F.mono fun k _ e => (by cases e)) fun _ _ h => h)

theorem cloneTerm {w : World} {a : Option Addr} {n c : Nat} {xs : List Tterm} (hr : Rd Tterm.enc 4 w a n xs) (hn : n ≤ 1000000) {Q : Option Addr → Nat → Nat → World → Prop}
    (hQ : ∀ a2 c2 w', Own 152 4 Tterm.enc w' a2 n c2 xs → (∀ k, obk a2 c2 = some k → w.heap.size ≤ k) → Ext w w' → Q a2 n c2 w') :
    Cl Pg 181 #[vl a n c] w (fun v w' => ∃ a2 n2 c2, v = vl a2 n2 c2 ∧ Q a2 n2 c2 w') := by
  refine slices_Clone_term.ok (ifb ?_)
  cases a with
  | none =>
    have h0 := hr.2.1 rfl
    subst h0
    obtain rfl : xs = [] := List.eq_nil_of_length_eq_zero hr.1.symm
    exact hQ _ _ _ Own.nil (fun k hk => (by cases hk)) (er w)
  | some a0 =>
    refine al_f (er w) fun b1 w1 hb hat E _ _ => ap_own (c := 0) ap118 encTerm (fun x => oneAll rfl) (xs := []) Own.nil' (hr.ext E) (by omega) (by simp only [maxLen]; omega) fun a2 c2 w2 ho F hb2 => ?_
    rw [Nat.zero_add, List.nil_append] at *
    exact hQ _ _ _ ho (fun k hk => (hb2 k hk).elim (fun e => (by cases e)) fun h => Nat.le_trans E.size h) (E.trans (F.mono fun k _ e => (by cases e)) fun _ _ h => h)

theorem cloneLot {w : World} {a : Option Addr} {n c : Nat} {xs : List TLot} (hr : Rd TLot.enc 10 w a n xs) (hn : n ≤ 1000000) {Q : Option Addr → Nat → Nat → World → Prop}
    (hQ : ∀ a2 c2 w', Own 45 10 TLot.enc w' a2 n c2 xs → (∀ k, obk a2 c2 = some k → w.heap.size ≤ k) → Ext w w' → Q a2 n c2 w') :
    Cl Pg 182 #[vl a n c] w (fun v w' => ∃ a2 n2 c2, v = vl a2 n2 c2 ∧ Q a2 n2 c2 w') := by
  refine slices_Clone_Lot.ok (ifb ?_)
  cases a with
  | none =>
    have h0 := hr.2.1 rfl
    subst h0
    obtain rfl : xs = [] := List.eq_nil_of_length_eq_zero hr.1.symm
    exact hQ _ _ _ Own.nil (fun k hk => (by cases hk)) (er w)
  | some a0 =>
    refine al_f (er w) fun b1 w1 hb hat E _ _ => ap_own (c := 0) ap46 encLot (fun x => oneAll rfl) (xs := []) Own.nil' (hr.ext E) (by omega) (by simp only [maxLen]; omega) fun a2 c2 w2 ho F hb2 => ?_
    rw [Nat.zero_add, List.nil_append] at *
    exact hQ _ _ _ ho (fun k hk => (hb2 k hk).elim (fun e => (by cases e)) fun h => Nat.le_trans E.size h) (E.trans (F.mono fun k _ e => (by cases e)) fun _ _ h => h)

theorem clonePosting {w : World} {a : Option Addr} {n c : Nat} {xs : List TPosting} (hr : Rd TPosting.enc 9 w a n xs) (hn : n ≤ 1000000) {Q : Option Addr → Nat → Nat → World → Prop}
    (hQ : ∀ a2 c2 w', Own 42 9 TPosting.enc w' a2 n c2 xs → (∀ k, obk a2 c2 = some k → w.heap.size ≤ k) → Ext w w' → Q a2 n c2 w') :
    Cl Pg 85 #[vl a n c] w (fun v w' => ∃ a2 n2 c2, v = vl a2 n2 c2 ∧ Q a2 n2 c2 w') := by
  refine slices_Clone_Posting.ok (ifb ?_)
  cases a with
  | none =>
    have h0 := hr.2.1 rfl
    subst h0
    obtain rfl : xs = [] := List.eq_nil_of_length_eq_zero hr.1.symm
    exact hQ _ _ _ Own.nil (fun k hk => (by cases hk)) (er w)
  | some a0 =>
    refine al_f (er w) fun b1 w1 hb hat E _ _ => ap_own (c := 0) ap22 encPosting (fun x => oneAll rfl) (xs := []) Own.nil' (hr.ext E) (by omega) (by simp only [maxLen]; omega) fun a2 c2 w2 ho F hb2 => ?_
    rw [Nat.zero_add, List.nil_append] at *
    exact hQ _ _ _ ho (fun k hk => (hb2 k hk).elim (fun e => (by cases e)) fun h => Nat.le_trans E.size h) (E.trans (F.mono fun k _ e => (by cases e)) fun _ _ h => h)

/-- a state that lies in no block yet. -/
structure StFree (w : World) (R : Nat → Prop) (st : Tstate) (M : MState) : Prop where
  day : st.day = M.day
  units : UnitsOwn w R st.units_a st.units_n st.units_c M.units
  terms : Own 152 4 Tterm.enc w st.terms_a st.terms_n st.terms_c M.terms
  lots : Own 45 10 TLot.enc w st.lots_a st.lots_n st.lots_c M.lots
  postings : Own 42 9 TPosting.enc w st.postings_a st.postings_n st.postings_c M.postings
  rUnits : ∀ k, obk st.units_a st.units_c = some k → R k
  rTerms : ∀ k, obk st.terms_a st.terms_c = some k → R k
  rLots : ∀ k, obk st.lots_a st.lots_c = some k → R k
  rPostings : ∀ k, obk st.postings_a st.postings_c = some k → R k
  rLt : ∀ k, R k → k < w.heap.size

structure CopyInv (w : World) (us : List MUnit) (a : Option Addr) (n c : Nat) (i : Nat) (ts : List Tunit) (w' : World) : Prop where
  own : Own 150 3 Tunit.enc w' a n c ts
  len : ts.length = us.length
  nk : ∀ (j : Nat) (t : Tunit) (u : MUnit), ts[j]? = some t → us[j]? = some u → t.name = u.name ∧ t.kind = u.kind
  todo : ∀ (j : Nat) (t : Tunit) (u : MUnit), ts[j]? = some t → us[j]? = some u → i ≤ j → Rd Tdated.enc 2 w t.values_a t.values_n u.values
  done : ∀ (j : Nat) (t : Tunit) (u : MUnit), ts[j]? = some t → us[j]? = some u → j < i → Own 175 2 Tdated.enc w' t.values_a t.values_n t.values_c u.values ∧ ∀ k, obk t.values_a t.values_c = some k → w.heap.size ≤ k
  apart : ∀ (j j' : Nat) (t t' : Tunit) (k : Nat), ts[j]? = some t → ts[j']? = some t' → j < i → j' < i → obk t.values_a t.values_c = some k → obk t'.values_a t'.values_c = some k → j = j'
theorem CopyInv.frm {w : World} {us : List MUnit} {a : Option Addr} {n c i : Nat} {ts : List Tunit} {w1 w2 : World} {S : Nat → Prop} (h : CopyInv w us a n c i ts w1) (F : Frm S w1 w2) (hS : ∀ k cur T, At w1 k (.cells cur T (0, 0)) → T = 150 ∨ T = 175 → ¬ S k) : CopyInv w us a n c i ts w2 :=
  ⟨h.own.frm F fun k hk => (by obtain ⟨cur, hc⟩ := h.own.at k hk; exact hS k _ _ hc (.inl rfl)), h.len, h.nk, h.todo, fun j t u ht hu hj => ⟨(h.done j t u ht hu hj).1.frm F fun k hk => (by obtain ⟨cur, hc⟩ := (h.done j t u ht hu hj).1.at k hk; exact hS k _ _ hc (.inr rfl)), (h.done j t u ht hu hj).2⟩, h.apart⟩

theorem copied_loop {w : World} {s : Tstate} {us : List MUnit} (hv : ∀ u ∈ us, u.values.length ≤ 1000000) {b1 b2 : Nat} {o1 o2 : Array Value} {a : Option Addr} {n c : Nat} (hn : n ≤ 1000000) (hb1 : w.heap.size ≤ b1) (hb2 : w.heap.size ≤ b2) (hac : ∀ k, obk a c = some k → w.heap.size ≤ k) {Q : Tstate → World → Prop} {w0 : World}
    (hQ : ∀ w' ts, CopyInv w us a n c n ts w' → Ext w w' → At w' b1 (.cells o1 120 (0, 0)) → At w' b2 (.cells o2 120 (0, 0)) → drawers_state_copied.l1 Q s b1 b2 a n c 1 (n : Nat) w') :
    ∀ m i w' ts, i + m = n → CopyInv w us a n c i ts w' → Ext w w' → At w' b1 (.cells o1 120 (0, 0)) → At w' b2 (.cells o2 120 (0, 0)) → drawers_state_copied.l1 Q s b1 b2 a n c (m + 1) (i : Nat) w' := by
  intro m
  induction m with
  | zero =>
    intro i w' ts hi h E h1 h2
    obtain rfl : i = n := by omega
    exact hQ w' ts h E h1 h2
  | succ m ih =>
    intro i w' ts hi h E h1 h2
    unfold drawers_state_copied.l1
    have hlen := h.own.1
    refine ifb_dt (by omega) (dr_f E fun w6 E6 e6 => ?_)
    have h6 := h.frm e6 (fun _ _ _ _ _ => id)
    refine (h6.own.rd encUnit).ix (by omega) (by omega) fun a0 t ha ht hc => ⟨_, _, _, hc.at 2 rfl, ?_⟩
    simp only [Int.toNat_natCast] at ht
    obtain ⟨u, hu⟩ : ∃ u, us[i]? = some u := ⟨_, List.getElem?_eq_getElem (by have := h.len; omega)⟩
    have hrd := (h.todo i t u ht hu (Nat.le_refl _)).ext E6
    have hvl : t.values_n ≤ 1000000 := by rw [hrd.1]; exact hv u (List.mem_of_getElem? hu)
    refine cloneDated hrd hvl fun a2 c2 w7 ho hf e7 => ?_
    have h7 := h6.frm e7 (fun _ _ _ _ _ => id)
    have h1' := (h1.ext e6).ext e7
    have h2' := (h2.ext e6).ext e7
    refine ⟨e7.blk _ (h1.ext e6).lt id, e7.blk _ (h2.ext e6).lt id, (h7.own.rd encUnit).ix (by omega) (by omega) fun p2 t2 ha2 ht2 _ => ?_⟩
    rw [Int.toNat_natCast]
    refine st_own encUnit h7.own { t with values_a := a2, values_n := t.values_n, values_c := c2 } ht (by simp) (fun r hr => ?_) ha2 fun w8 ho8 F8 => ?_
    · match r, hr with
      | 0, _ | 1, _ | 2, _ => rfl
    have hk8 : ∀ k cur T, At w7 k (.cells cur T (0, 0)) → T ≠ 150 → ¬ obk a c = some k := fun k cur T hk hT => h7.own.notP hk hT
    refine ⟨F8.blk _ h1'.lt (hk8 _ _ _ h1' (by decide)), F8.blk _ h2'.lt (hk8 _ _ _ h2' (by decide)), ?_⟩
    rw [wrap_succ (n := n) (by omega) (by omega) (by simp only [maxLen]; omega)]
    have hi' : i < ts.length := by omega
    refine ih (i + 1) w8 _ (by omega) ⟨ho8, by rw [List.length_set]; exact h.len, ?_, ?_, ?_, ?_⟩ ((E6.ext e7).trans F8 fun k hk e => by have := hac k e; omega) (h1'.frm F8 (hk8 _ _ _ h1' (by decide))) (h2'.frm F8 (hk8 _ _ _ h2' (by decide)))
    · intro j t' u' ht' hu'
      by_cases e : i = j
      · subst e
        rw [List.getElem?_set_self hi'] at ht'
        cases ht'
        exact h.nk i t u' ht hu'
      · rw [List.getElem?_set_ne e] at ht'
        exact h.nk j t' u' ht' hu'
    · intro j t' u' ht' hu' hj
      rw [List.getElem?_set_ne (by omega)] at ht'
      exact h.todo j t' u' ht' hu' (by omega)
    · intro j t' u' ht' hu' hj
      by_cases e : i = j
      · subst e
        rw [List.getElem?_set_self hi'] at ht'
        cases ht'
        obtain rfl : u = u' := Option.some.inj (hu.symm.trans hu')
        refine ⟨ho.frm F8 fun k hk => ?_, fun k hk => Nat.le_trans E6.size (hf k hk)⟩
        obtain ⟨cur, hc⟩ := ho.at k hk
        exact hk8 _ _ _ hc (by decide)
      · rw [List.getElem?_set_ne e] at ht'
        refine ⟨(h7.done j t' u' ht' hu' (by omega)).1.frm F8 fun k hk => ?_, (h7.done j t' u' ht' hu' (by omega)).2⟩
        obtain ⟨cur, hc⟩ := (h7.done j t' u' ht' hu' (by omega)).1.at k hk
        exact hk8 _ _ _ hc (by decide)
    · have old : ∀ (j : Nat) (t' : Tunit) (k : Nat), ts[j]? = some t' → j < i → obk t'.values_a t'.values_c = some k → k < w6.heap.size := by
        intro j t' k ht' hj hk
        obtain ⟨u', hu'⟩ : ∃ u, us[j]? = some u := ⟨_, List.getElem?_eq_getElem (by have := h.len; omega)⟩
        obtain ⟨cur, hc⟩ := (h6.done j t' u' ht' hu' hj).1.at k hk
        exact hc.lt
      intro j j' t' t'' k ht' ht'' hj hj' hk hk'
      by_cases e : i = j <;> by_cases e' : i = j'
      · omega
      · subst e
        rw [List.getElem?_set_self hi'] at ht'
        rw [List.getElem?_set_ne e'] at ht''
        cases ht'
        have := hf k hk
        have := old j' t'' k ht'' (by omega) hk'
        omega
      · subst e'
        rw [List.getElem?_set_ne e] at ht'
        rw [List.getElem?_set_self hi'] at ht''
        cases ht''
        have := hf k hk'
        have := old j t' k ht' (by omega) hk
        omega
      · rw [List.getElem?_set_ne e] at ht'
        rw [List.getElem?_set_ne e'] at ht''
        exact h.apart j j' t' t'' k ht' ht'' (by omega) (by omega) hk hk'

theorem keep1 {α : Type} {enc : α → List Value} {sz T b : Nat} {a : Option Addr} {n c : Nat} {xs : List α} {w w' : World} {o : Array Value} (ho : Own T sz enc w a n c xs) (hat : At w b (.cells o 120 (0, 0))) (F : Frm (fun k => k = b) w w') (hT : T ≠ 120) : Own T sz enc w' a n c xs :=
  ho.frm F fun k hk e => (by obtain ⟨cur, hc⟩ := ho.at k hk; exact hc.neT hat (fun e => hT (Option.some.inj e)) e)
theorem CopyInv.keep1 {w : World} {us : List MUnit} {a : Option Addr} {n c i : Nat} {ts : List Tunit} {w1 w2 : World} {b : Nat} {o : Array Value} (h : CopyInv w us a n c i ts w1) (hat : At w1 b (.cells o 120 (0, 0))) (F : Frm (fun k => k = b) w1 w2) : CopyInv w us a n c i ts w2 :=
  h.frm F fun k cur T hk hT e => (by rcases hT with rfl | rfl <;> exact hk.neT hat (by simp [tyO]) e)

theorem copied_c {w : World} {p : Addr} {s : Tstate} {M : MState} (h : StRd w p s M) (hF : Fits M) {Q : Tstate → World → Prop}
    (hQ : ∀ w' R st, StFree w' R st M → (∀ k, R k → w.heap.size ≤ k) → Ext w w' → Q st w') :
    Cl Pg 139 #[vg s.enc] w (fun v w' => ∃ r : Tstate, v = vg r.enc ∧ Q r w') := by
  refine drawers_state_copied.ok ?_
  refine al_f (er w) fun b1 w1 hb1 hat1 E _ _ => al_f E fun b2 w2 hb2 hat2 E E' n2 => ?_
  have l1 := hat1.lt
  have hat1 := hat1.ext E'
  obtain ⟨ts0, hu, hul, hue⟩ := h.units
  have hun : s.units_n ≤ 1000000 := by have := hF.units; rw [hu.1, hul]; omega
  refine cloneUnit (hu.ext E) hun fun a1 c1 w3 ho1 hf1 E3 => ?_
  refine ⟨E3.blk _ hat1.lt id, E3.blk _ hat2.lt id, sb_f (E.ext E3) (hat1.ext E3) hb1 fun w4 hat1 E4 f4 => ⟨s.units_n + 1, ?_⟩⟩
  have hat2 : At w4 b2 _ := (hat2.ext E3).frm f4 (by omega)
  refine copied_loop (w := w) (us := M.units) hF.values hun hb1 hb2 (fun k hk => Nat.le_trans E.size (hf1 k hk)) (w0 := w) ?_ s.units_n 0 w4 ts0 (by omega) ⟨ho1.frm f4 fun k hk e => ?_, hul, fun j t u ht hu' => ⟨(hue j t u ht hu').1, (hue j t u ht hu').2.1⟩, fun j t u ht hu' _ => (hue j t u ht hu').2.2, fun _ _ _ _ _ hj => by omega, fun _ _ _ _ _ _ _ hj => by omega⟩ E4 hat1 hat2
  · intro w5 ts hi E5 hat1 hat2
    unfold drawers_state_copied.l1
    refine ifb_df (by omega) ?_
    have ht := h.terms
    refine cloneTerm (ht.ext E5) (by rw [ht.1]; have := hF.terms; omega) fun a3 c3 w9 ho3 hf3 e9 => ?_
    refine ⟨e9.blk _ hat1.lt id, e9.blk _ hat2.lt id, sb_f (E5.ext e9) (hat1.ext e9) hb1 fun w10 hat1' E10 f10 => ?_⟩
    have hat2' : At w10 b2 _ := (hat2.ext e9).frm f10 (by omega)
    have hl := h.lots
    refine cloneLot (hl.ext E10) (by rw [hl.1]; exact hF.lots) fun a4 c4 w11 ho4 hf4 e11 => ?_
    refine ⟨e11.blk _ hat1'.lt id, e11.blk _ hat2'.lt id, sb_f (E10.ext e11) (hat1'.ext e11) hb1 fun w12 hat1'' E12 f12 => ?_⟩
    have hat2'' : At w12 b2 _ := (hat2'.ext e11).frm f12 (by omega)
    have hp := h.postings
    refine clonePosting (hp.ext E12) (by rw [hp.1]; exact hF.postings) fun a5 c5 w13 ho5 hf5 e13 => ?_
    refine ⟨e13.blk _ hat1''.lt id, e13.blk _ hat2''.lt id, sb_f (E12.ext e13) (hat1''.ext e13) hb1 fun w14 hat1n E14 f14 => ?_⟩
    have hat2n : At w14 b2 _ := (hat2''.ext e13).frm f14 (by omega)
    refine sb_f E14 hat2n hb2 fun w15 hat2z E15 f15 => ?_
    have hc := ((((((hi.frm e9 fun _ _ _ _ _ => id).keep1 (hat1.ext e9) f10).frm e11 fun _ _ _ _ _ => id).keep1 (hat1'.ext e11) f12).frm e13 fun _ _ _ _ _ => id).keep1 (hat1''.ext e13) f14).keep1 hat2n f15
    have g3 := keep1 (keep1 ((keep1 ((keep1 ho3 (hat1.ext e9) f10 (by decide)).ext e11) (hat1'.ext e11) f12 (by decide)).ext e13) (hat1''.ext e13) f14 (by decide)) hat2n f15 (by decide)
    have g4 := keep1 (keep1 ((keep1 ho4 (hat1'.ext e11) f12 (by decide)).ext e13) (hat1''.ext e13) f14 (by decide)) hat2n f15 (by decide)
    have g5 := keep1 (keep1 ho5 (hat1''.ext e13) f14 (by decide)) hat2n f15 (by decide)
    refine hQ w15 (fun k => w.heap.size ≤ k ∧ k < w15.heap.size) ⟨s.day, a1, s.units_n, c1, a3, s.terms_n, c3, a4, s.lots_n, c4, a5, s.postings_n, c5⟩ ?_ (fun k hk => hk.1) E15
    have s9 := E5.size
    have s10 := E10.size
    have s12 := E12.size
    refine ⟨h.day, ⟨ts, hc.own, hc.len, fun j t u ht hu => ⟨(hc.nk j t u ht hu).1, (hc.nk j t u ht hu).2, (hc.done j t u ht hu ?_).1, fun k hk => ⟨(hc.done j t u ht hu ?_).2 k hk, ?_⟩⟩, fun j j' t t' k ht ht' hk hk' => hc.apart j j' t t' k ht ht' ?_ ?_ hk hk'⟩, g3, g4, g5, fun k hk => ⟨Nat.le_trans E.size (hf1 k hk), ?_⟩, fun k hk => ⟨Nat.le_trans s9 (hf3 k hk), ?_⟩, fun k hk => ⟨Nat.le_trans s10 (hf4 k hk), ?_⟩, fun k hk => ⟨Nat.le_trans s12 (hf5 k hk), ?_⟩, fun k hk => hk.2⟩
    · have := hc.own.1; have := (List.getElem?_eq_some_iff.1 ht).1; omega
    · have := hc.own.1; have := (List.getElem?_eq_some_iff.1 ht).1; omega
    · obtain ⟨cur, h⟩ := (hc.done j t u ht hu (by have := hc.own.1; have := (List.getElem?_eq_some_iff.1 ht).1; omega)).1.at k hk; exact h.lt
    · have := hc.own.1; have := (List.getElem?_eq_some_iff.1 ht).1; omega
    · have := hc.own.1; have := (List.getElem?_eq_some_iff.1 ht').1; omega
    · obtain ⟨cur, h⟩ := hc.own.at k hk; exact h.lt
    · obtain ⟨cur, h⟩ := g3.at k hk; exact h.lt
    · obtain ⟨cur, h⟩ := g4.at k hk; exact h.lt
    · obtain ⟨cur, h⟩ := g5.at k hk; exact h.lt
  · obtain ⟨cur, hc⟩ := ho1.at k hk
    subst e
    exact absurd rfl (hc.neT (At.ext ‹At w2 k _› E3) (by simp [tyO]))
end Go.Proofs.YtcbijkakoepglaaGreat
namespace Go.Proofs.YtcbijkakoepglaaGreat
open Go Go.Wx
set_option maxRecDepth 100000
def slices_insertionSortCmpFunc_Lot.j1 (Q : World → Prop) (data_a : Option Addr) (data_n : Nat) (v1 : Int) (kl1 : Int → World → Prop) (v2 : Int) (kl2 : Int → World → Prop) (v3 : Bool) (w3 : World) : Prop := (
       Ifb v3
      (Dr w3 fun w4 =>
      Ix data_a data_n (IntKind.wrap .i64 (v2 - (1 : Int))) fun p1 =>
      LdT TLot.enc w4 (Addr.add p1 ((IntKind.wrap .i64 (v2 - (1 : Int))).toNat * 10)) fun x1 =>
      Ix data_a data_n v2 fun p2 =>
      LdT TLot.enc w4 (Addr.add p2 (v2.toNat * 10)) fun x2 =>
      Ix data_a data_n v2 fun p3 =>
      St w4 (Addr.add p3 (v2.toNat * 10)) (TLot.enc x1) fun w5 =>
      Ix data_a data_n (IntKind.wrap .i64 (v2 - (1 : Int))) fun p4 =>
      St w5 (Addr.add p4 ((IntKind.wrap .i64 (v2 - (1 : Int))).toNat * 10)) (TLot.enc x2) fun w6 =>
      kl2 (IntKind.wrap .i64 (v2 - (1 : Int))) w6)
      (kl1 (IntKind.wrap .i64 (v1 + (1 : Int))) w3))
def slices_insertionSortCmpFunc_Lot.l2 (Q : World → Prop) (data_a : Option Addr) (data_n : Nat) (a : Int) (cmp : Value) (v1 : Int) (kl1 : Int → World → Prop) : Nat → Int → World → Prop
       | 0, _, _ => False
       | nl2 + 1, v2, w2 => (
       Dr w2 fun w7 =>
      Ifb (decide (v2 > a))
      (Ix data_a data_n v2 fun p5 =>
      LdT TLot.enc w7 (Addr.add p5 (v2.toNat * 10)) fun x3 =>
      Ix data_a data_n (IntKind.wrap .i64 (v2 - (1 : Int))) fun p6 =>
      LdT TLot.enc w7 (Addr.add p6 ((IntKind.wrap .i64 (v2 - (1 : Int))).toNat * 10)) fun x4 =>
      Clv Pg cmp #[vg (TLot.enc x3), vg (TLot.enc x4)] w7 (fun v w8 => ∃ (r1 : Int), v = vi r1 ∧ slices_insertionSortCmpFunc_Lot.j1 Q data_a data_n v1 kl1 v2 (slices_insertionSortCmpFunc_Lot.l2 Q data_a data_n a cmp v1 kl1 nl2) (decide (r1 < (0 : Int))) w8))
      (slices_insertionSortCmpFunc_Lot.j1 Q data_a data_n v1 kl1 v2 (slices_insertionSortCmpFunc_Lot.l2 Q data_a data_n a cmp v1 kl1 nl2) false w7))
def slices_insertionSortCmpFunc_Lot.l1 (Q : World → Prop) (data_a : Option Addr) (data_n : Nat) (a : Int) (b : Int) (cmp : Value) : Nat → Int → World → Prop
       | 0, _, _ => False
       | nl1 + 1, v1, w1 => (
       Ifb (decide (v1 < b))
      (∃ k, slices_insertionSortCmpFunc_Lot.l2 Q data_a data_n a cmp v1 (slices_insertionSortCmpFunc_Lot.l1 Q data_a data_n a b cmp nl1) k v1 w1)
      (Q w1))
def slices_insertionSortCmpFunc_Lot.R (Q : World → Prop) (data_a : Option Addr) (data_n : Nat) (data_c : Nat) (a : Int) (b : Int) (cmp : Value) (w : World) : Prop := (
  ∃ k, slices_insertionSortCmpFunc_Lot.l1 Q data_a data_n a b cmp k (IntKind.wrap .i64 (a + (1 : Int))) w)
theorem slices_insertionSortCmpFunc_Lot.ok {Q : World → Prop} {data_a : Option Addr} {data_n : Nat} {data_c : Nat} {a : Int} {b : Int} {cmp : Value} {w : World} (h : slices_insertionSortCmpFunc_Lot.R Q data_a data_n data_c a b cmp w) : Cl Pg 212 #[vl data_a data_n data_c, vi a, vi b, cmp] w (fun v w' => v = .tuple #[] ∧ Q w') := by
 refine calls_args (args := [vl data_a data_n data_c, vi a, vi b, cmp]) Tryz.func212 ?_
 unfold slices_insertionSortCmpFunc_Lot.R at h
 refine W_regseq ?_
 refine ps 3 [(10, vi a), (11, vi (IntKind.wrap .i64 (a + (1 : Int)))), (8, vi (IntKind.wrap .i64 (a + (1 : Int))))] ?_
 refine WO_nil ?_
 refine W_block ?_
 obtain ⟨nl1, h⟩ := h
 refine W_loopI (fun k e w1 => ∃ (e0 : Env) (v1 : Int), e = upds e0 [(0, vl data_a data_n data_c), (1, vi a), (2, vi b), (3, cmp), (8, vi v1)] ∧ slices_insertionSortCmpFunc_Lot.l1 Q data_a data_n a b cmp k v1 w1) nl1 ?_ ?_ ?_
 ·rintro _ _ ⟨_, _, _, h⟩
  exact h
 ·exact ⟨_, IntKind.wrap .i64 (a + (1 : Int)), Agree.eq ⟨rfl, rfl, rfl, rfl, rfl, trivial⟩, h⟩
 ·clear h nl1
  rintro nl1 _ w1 ⟨e0, v1, rfl, h⟩
  unfold slices_insertionSortCmpFunc_Lot.l1 at h
  refine W_seq ?_
  refine W_regseq ?_
  refine ps 3 [(12, vi v1), (13, vi b), (14, vb (decide (v1 < b)))] ?_
  refine WO_nil ?_
  refine ci h (fun h => ?_) fun h => ?_
  ·refine W_skip ?_
   refine W_seq ?_
   refine W_block ?_
   refine W_regseq ?_
   refine ps 2 [(17, vi v1), (9, vi v1)] ?_
   refine WO_nil ?_
   refine W_block ?_
   obtain ⟨nl2, h⟩ := h
   refine W_loopI (fun k e w2 => ∃ (e0 : Env) (v2 : Int), e = upds e0 [(0, vl data_a data_n data_c), (1, vi a), (2, vi b), (3, cmp), (8, vi v1), (9, vi v2)] ∧ slices_insertionSortCmpFunc_Lot.l2 Q data_a data_n a cmp v1 (slices_insertionSortCmpFunc_Lot.l1 Q data_a data_n a b cmp nl1) k v2 w2) nl2 ?_ ?_ ?_
   ·rintro _ _ ⟨_, _, _, h⟩
    exact h
   ·exact ⟨_, v1, Agree.eq ⟨rfl, rfl, rfl, rfl, rfl, rfl, trivial⟩, h⟩
   ·clear h nl2
    rintro nl2 _ w2 ⟨e0, v2, rfl, h⟩
    unfold slices_insertionSortCmpFunc_Lot.l2 at h
    refine W_seq ?_
    refine W_join (fun e w3 => ∃ (e0 : Env) (v3 : Bool), e = upds e0 [(0, vl data_a data_n data_c), (1, vi a), (2, vi b), (3, cmp), (8, vi v1), (9, vi v2), (34, vb v3)] ∧ slices_insertionSortCmpFunc_Lot.j1 Q data_a data_n v1 (slices_insertionSortCmpFunc_Lot.l1 Q data_a data_n a b cmp nl1) v2 (slices_insertionSortCmpFunc_Lot.l2 Q data_a data_n a cmp v1 (slices_insertionSortCmpFunc_Lot.l1 Q data_a data_n a b cmp nl1) nl2) v3 w3) ?_ ?_
    ·refine drw folM [[], [], [], [], [], [], [], [], [], [], [], [], [], [], [8, 13], [8, 13], [8, 13]] [.p 0, .p 1, .p 2, .p 3, .p 4, .p 5, .p 6, .p 7, .l 8, .p 9, .p 10, .p 11, .p 12, .l 13, .e 14, .p 15, .p 16] h ?_
     intro w7 ew h
     clear ew
     refine psC 4 [(18, vi v2), (19, vi a), (20, vb (decide (v2 > a))), (21, vb (decide (v2 > a)))] ?_
     refine csC 21 h (fun h => ?_) fun h => ?_
     ·refine psC 3 [(22, cmp), (23, vl data_a data_n data_c), (24, vi v2)] ?_
      refine ixC slk46 h fun p5 h => ?_
      obtain ⟨x3, hx3, h⟩ := h
      refine ldnC tk45 hx3 ?_
      refine psC 3 [(27, vl data_a data_n data_c), (28, vi v2), (29, vi (IntKind.wrap .i64 (v2 - (1 : Int))))] ?_
      refine ixC slk46 h fun p6 h => ?_
      obtain ⟨x4, hx4, h⟩ := h
      refine ldnC tk45 hx4 ?_
      refine clvC h ?_
      rintro _ w8 ⟨r1, rfl, h⟩
      refine ⟨AllOk.nil, ?_⟩
      refine psC 2 [(33, vb (decide (r1 < (0 : Int)))), (34, vb (decide (r1 < (0 : Int))))] ?_
      refine WC_nil ?_
      exact ⟨_, decide (r1 < (0 : Int)), Agree.eq ⟨rfl, rfl, rfl, rfl, rfl, rfl, rfl, trivial⟩, h⟩
     ·refine psC 4 [(22, undef), (23, undef), (24, undef), (25, undef)] ?_
      refine WC_lskip rfl rfl rfl ?_
      refine psC 4 [(27, undef), (28, undef), (29, undef), (30, undef)] ?_
      refine WC_lskip rfl rfl rfl ?_
      refine WC_eskip rfl rfl rfl ?_
      refine psC 2 [(33, undef), (34, vb false)] ?_
      refine WC_nil ?_
      exact ⟨_, false, Agree.eq ⟨rfl, rfl, rfl, rfl, rfl, rfl, rfl, trivial⟩, h⟩
    ·clear h
     rintro _ w3 ⟨e0, v3, rfl, h⟩
     unfold slices_insertionSortCmpFunc_Lot.j1 at h
     refine ci h (fun h => ?_) fun h => ?_
     ·refine W_skip ?_
      refine W_seq ?_
      refine W_block ?_
      refine drw folM [[], [], [], [], [], [], [], [], [], [], [], [], [], [], [9, 13], [9, 13], [9, 13], [9, 13]] [.p 0, .p 1, .p 2, .p 3, .p 4, .p 5, .p 6, .p 7, .p 8, .l 9, .p 10, .p 11, .p 12, .l 13, .p 14, .e 15, .p 16, .e 17] h ?_
      intro w4 ew h
      clear ew
      refine psC 8 [(37, vl data_a data_n data_c), (38, vi v2), (39, vl data_a data_n data_c), (40, vi v2), (41, vi (IntKind.wrap .i64 (v2 - (1 : Int)))), (42, vl data_a data_n data_c), (43, vi v2), (44, vi (IntKind.wrap .i64 (v2 - (1 : Int))))] ?_
      refine ixC slk46 h fun p1 h => ?_
      obtain ⟨x1, hx1, h⟩ := h
      refine ldnC tk45 hx1 ?_
      refine psC 2 [(47, vl data_a data_n data_c), (48, vi v2)] ?_
      refine ixC slk46 h fun p2 h => ?_
      obtain ⟨x2, hx2, h⟩ := h
      refine ldnC tk45 hx2 ?_
      refine ixC slk46 h fun p3 h => ?_
      refine stC tk45 h ?_
      rintro w5 h
      refine ⟨AllOk.nil, ?_⟩
      refine ixC slk46 h fun p4 h => ?_
      refine stC tk45 h ?_
      rintro w6 h
      refine ⟨AllOk.nil, ?_⟩
      refine WC_nil ?_
      refine blockK_normal ?_
      refine W_reg ?_
      refine ps 3 [(35, vi v2), (36, vi (IntKind.wrap .i64 (v2 - (1 : Int)))), (9, vi (IntKind.wrap .i64 (v2 - (1 : Int))))] ?_
      refine WO_nil ?_
      exact ⟨_, IntKind.wrap .i64 (v2 - (1 : Int)), Agree.eq ⟨rfl, rfl, rfl, rfl, rfl, rfl, trivial⟩, h⟩
     ·refine W_exit ?_
      refine blockK_hit ?_
      refine blockK_normal ?_
      refine W_reg ?_
      refine ps 3 [(15, vi v1), (16, vi (IntKind.wrap .i64 (v1 + (1 : Int)))), (8, vi (IntKind.wrap .i64 (v1 + (1 : Int))))] ?_
      refine WO_nil ?_
      exact ⟨_, IntKind.wrap .i64 (v1 + (1 : Int)), Agree.eq ⟨rfl, rfl, rfl, rfl, rfl, trivial⟩, h⟩
  ·refine W_exit ?_
   refine blockK_hit ?_
   refine retN ?_
   exact ret0 rfl ⟨rfl, h⟩
def slices_stableCmpFunc_Lot.l3 (Q : World → Prop) (data_a : Option Addr) (data_n : Nat) (data_c : Nat) (n : Int) (cmp : Value) (v3 : Int) (kl2 : Int → World → Prop) : Nat → Int → Int → World → Prop
       | 0, _, _, _ => False
       | nl3 + 1, v4, v5, w5 => (
       Ifb (decide (v5 ≤ n))
      (Cl Pg 213 #[vl data_a data_n data_c, vi v4, vi (IntKind.wrap .i64 (v4 + v3)), vi v5, cmp] w5 (fun v w6 => v = .tuple #[] ∧ (slices_stableCmpFunc_Lot.l3 Q data_a data_n data_c n cmp v3 kl2 nl3) v5 (IntKind.wrap .i64 (v5 + (IntKind.wrap .i64 ((2 : Int) * v3)))) w6))
      (Ifb (decide ((IntKind.wrap .i64 (v4 + v3)) < n))
      (Cl Pg 213 #[vl data_a data_n data_c, vi v4, vi (IntKind.wrap .i64 (v4 + v3)), vi n, cmp] w5 (fun v w7 => v = .tuple #[] ∧ kl2 (IntKind.wrap .i64 (v3 * (2 : Int))) w7))
      (kl2 (IntKind.wrap .i64 (v3 * (2 : Int))) w5)))
def slices_stableCmpFunc_Lot.l2 (Q : World → Prop) (data_a : Option Addr) (data_n : Nat) (data_c : Nat) (n : Int) (cmp : Value) : Nat → Int → World → Prop
       | 0, _, _ => False
       | nl2 + 1, v3, w4 => (
       Ifb (decide (v3 < n))
      (∃ k, slices_stableCmpFunc_Lot.l3 Q data_a data_n data_c n cmp v3 (slices_stableCmpFunc_Lot.l2 Q data_a data_n data_c n cmp nl2) k 0 (IntKind.wrap .i64 ((2 : Int) * v3)) w4)
      (Q w4))
def slices_stableCmpFunc_Lot.l1 (Q : World → Prop) (data_a : Option Addr) (data_n : Nat) (data_c : Nat) (n : Int) (cmp : Value) : Nat → Int → Int → World → Prop
       | 0, _, _, _ => False
       | nl1 + 1, v1, v2, w1 => (
       Ifb (decide (v2 ≤ n))
      (Cl Pg 212 #[vl data_a data_n data_c, vi v1, vi v2, cmp] w1 (fun v w2 => v = .tuple #[] ∧ (slices_stableCmpFunc_Lot.l1 Q data_a data_n data_c n cmp nl1) v2 (IntKind.wrap .i64 (v2 + (20 : Int))) w2))
      (Cl Pg 212 #[vl data_a data_n data_c, vi v1, vi n, cmp] w1 (fun v w3 => v = .tuple #[] ∧ ∃ k, slices_stableCmpFunc_Lot.l2 Q data_a data_n data_c n cmp k 20 w3)))
def slices_stableCmpFunc_Lot.R (Q : World → Prop) (data_a : Option Addr) (data_n : Nat) (data_c : Nat) (n : Int) (cmp : Value) (w : World) : Prop := (
  ∃ k, slices_stableCmpFunc_Lot.l1 Q data_a data_n data_c n cmp k 0 20 w)
theorem slices_stableCmpFunc_Lot.ok {Q : World → Prop} {data_a : Option Addr} {data_n : Nat} {data_c : Nat} {n : Int} {cmp : Value} {w : World} (h : slices_stableCmpFunc_Lot.R Q data_a data_n data_c n cmp w) : Cl Pg 198 #[vl data_a data_n data_c, vi n, cmp] w (fun v w' => v = .tuple #[] ∧ Q w') := by
 refine calls_args (args := [vl data_a data_n data_c, vi n, cmp]) Tryz.func198 ?_
 unfold slices_stableCmpFunc_Lot.R at h
 refine W_regseq ?_
 refine ps 1 [(6, vi 20)] ?_
 refine WO_nil ?_
 refine W_regseq ?_
 refine ps 3 [(10, vi 20), (7, vi 0), (8, vi 20)] ?_
 refine WO_nil ?_
 refine W_seq ?_
 refine W_block ?_
 obtain ⟨nl1, h⟩ := h
 refine W_loopI (fun k e w1 => ∃ (e0 : Env) (v1 : Int) (v2 : Int), e = upds e0 [(0, vl data_a data_n data_c), (1, vi n), (2, cmp), (6, vi 20), (7, vi v1), (8, vi v2)] ∧ slices_stableCmpFunc_Lot.l1 Q data_a data_n data_c n cmp k v1 v2 w1) nl1 ?_ ?_ ?_
 ·rintro _ _ ⟨_, _, _, _, h⟩
  exact h
 ·exact ⟨_, 0, 20, Agree.eq ⟨rfl, rfl, rfl, rfl, rfl, rfl, trivial⟩, h⟩
 ·clear h nl1
  rintro nl1 _ w1 ⟨e0, v1, v2, rfl, h⟩
  unfold slices_stableCmpFunc_Lot.l1 at h
  refine W_seq ?_
  refine W_regseq ?_
  refine ps 3 [(11, vi v2), (12, vi n), (13, vb (decide (v2 ≤ n)))] ?_
  refine WO_nil ?_
  refine ci h (fun h => ?_) fun h => ?_
  ·refine W_skip ?_
   refine W_block ?_
   refine W_regseq ?_
   refine ps 4 [(14, vl data_a data_n data_c), (15, vi v1), (16, vi v2), (17, cmp)] ?_
   refine cl h ?_
   rintro _ w2 ⟨rfl, h⟩
   refine WO_nil ?_
   refine W_regseq ?_
   refine ps 2 [(19, vi v2), (7, vi v2)] ?_
   refine WO_nil ?_
   refine W_reg ?_
   refine ps 4 [(20, vi v2), (21, vi 20), (22, vi (IntKind.wrap .i64 (v2 + (20 : Int)))), (8, vi (IntKind.wrap .i64 (v2 + (20 : Int))))] ?_
   refine WO_nil ?_
   refine blockK_normal ?_
   exact ⟨_, v2, IntKind.wrap .i64 (v2 + (20 : Int)), Agree.eq ⟨rfl, rfl, rfl, rfl, rfl, rfl, trivial⟩, h⟩
  ·refine W_exit ?_
   refine blockK_hit ?_
   refine W_regseq ?_
   refine ps 4 [(23, vl data_a data_n data_c), (24, vi v1), (25, vi n), (26, cmp)] ?_
   refine cl h ?_
   rintro _ w3 ⟨rfl, h⟩
   refine WO_nil ?_
   refine W_block ?_
   obtain ⟨nl2, h⟩ := h
   refine W_loopI (fun k e w4 => ∃ (e0 : Env) (v3 : Int), e = upds e0 [(0, vl data_a data_n data_c), (1, vi n), (2, cmp), (6, vi v3)] ∧ slices_stableCmpFunc_Lot.l2 Q data_a data_n data_c n cmp k v3 w4) nl2 ?_ ?_ ?_
   ·rintro _ _ ⟨_, _, _, h⟩
    exact h
   ·exact ⟨_, 20, Agree.eq ⟨rfl, rfl, rfl, rfl, trivial⟩, h⟩
   ·clear h nl2
    rintro nl2 _ w4 ⟨e0, v3, rfl, h⟩
    unfold slices_stableCmpFunc_Lot.l2 at h
    refine W_seq ?_
    refine W_regseq ?_
    refine ps 3 [(28, vi v3), (29, vi n), (30, vb (decide (v3 < n)))] ?_
    refine WO_nil ?_
    refine ci h (fun h => ?_) fun h => ?_
    ·refine W_skip ?_
     refine W_block ?_
     refine W_regseq ?_
     refine ps 4 [(31, vi v3), (32, vi (IntKind.wrap .i64 ((2 : Int) * v3))), (7, vi 0), (8, vi (IntKind.wrap .i64 ((2 : Int) * v3)))] ?_
     refine WO_nil ?_
     refine W_seq ?_
     refine W_block ?_
     obtain ⟨nl3, h⟩ := h
     refine W_loopI (fun k e w5 => ∃ (e0 : Env) (v4 : Int) (v5 : Int), e = upds e0 [(0, vl data_a data_n data_c), (1, vi n), (2, cmp), (6, vi v3), (7, vi v4), (8, vi v5)] ∧ slices_stableCmpFunc_Lot.l3 Q data_a data_n data_c n cmp v3 (slices_stableCmpFunc_Lot.l2 Q data_a data_n data_c n cmp nl2) k v4 v5 w5) nl3 ?_ ?_ ?_
     ·rintro _ _ ⟨_, _, _, _, h⟩
      exact h
     ·exact ⟨_, 0, IntKind.wrap .i64 ((2 : Int) * v3), Agree.eq ⟨rfl, rfl, rfl, rfl, rfl, rfl, trivial⟩, h⟩
     ·clear h nl3
      rintro nl3 _ w5 ⟨e0, v4, v5, rfl, h⟩
      unfold slices_stableCmpFunc_Lot.l3 at h
      refine W_seq ?_
      refine W_regseq ?_
      refine ps 3 [(33, vi v5), (34, vi n), (35, vb (decide (v5 ≤ n)))] ?_
      refine WO_nil ?_
      refine ci h (fun h => ?_) fun h => ?_
      ·refine W_skip ?_
       refine W_block ?_
       refine W_regseq ?_
       refine ps 7 [(36, vl data_a data_n data_c), (37, vi v4), (38, vi v4), (39, vi v3), (40, vi (IntKind.wrap .i64 (v4 + v3))), (41, vi v5), (42, cmp)] ?_
       refine cl h ?_
       rintro _ w6 ⟨rfl, h⟩
       refine WO_nil ?_
       refine W_regseq ?_
       refine ps 2 [(44, vi v5), (7, vi v5)] ?_
       refine WO_nil ?_
       refine W_reg ?_
       refine ps 5 [(45, vi v5), (46, vi v3), (47, vi (IntKind.wrap .i64 ((2 : Int) * v3))), (48, vi (IntKind.wrap .i64 (v5 + (IntKind.wrap .i64 ((2 : Int) * v3))))), (8, vi (IntKind.wrap .i64 (v5 + (IntKind.wrap .i64 ((2 : Int) * v3)))))] ?_
       refine WO_nil ?_
       refine blockK_normal ?_
       exact ⟨_, v5, IntKind.wrap .i64 (v5 + (IntKind.wrap .i64 ((2 : Int) * v3))), Agree.eq ⟨rfl, rfl, rfl, rfl, rfl, rfl, trivial⟩, h⟩
      ·refine W_exit ?_
       refine blockK_hit ?_
       refine W_seq ?_
       refine W_regseq ?_
       refine ps 4 [(49, vi v4), (50, vi v3), (51, vi (IntKind.wrap .i64 (v4 + v3))), (9, vi (IntKind.wrap .i64 (v4 + v3)))] ?_
       refine WO_nil ?_
       refine W_regseq ?_
       refine ps 3 [(52, vi (IntKind.wrap .i64 (v4 + v3))), (53, vi n), (54, vb (decide ((IntKind.wrap .i64 (v4 + v3)) < n)))] ?_
       refine WO_nil ?_
       refine ci h (fun h => ?_) fun h => ?_
       ·refine W_reg ?_
        refine ps 5 [(55, vl data_a data_n data_c), (56, vi v4), (57, vi (IntKind.wrap .i64 (v4 + v3))), (58, vi n), (59, cmp)] ?_
        refine cl h ?_
        rintro _ w7 ⟨rfl, h⟩
        refine WO_nil ?_
        refine W_reg ?_
        refine ps 3 [(61, vi v3), (62, vi (IntKind.wrap .i64 (v3 * (2 : Int)))), (6, vi (IntKind.wrap .i64 (v3 * (2 : Int))))] ?_
        refine WO_nil ?_
        refine blockK_normal ?_
        exact ⟨_, IntKind.wrap .i64 (v3 * (2 : Int)), Agree.eq ⟨rfl, rfl, rfl, rfl, trivial⟩, h⟩
       ·refine W_skip ?_
        refine W_reg ?_
        refine ps 3 [(61, vi v3), (62, vi (IntKind.wrap .i64 (v3 * (2 : Int)))), (6, vi (IntKind.wrap .i64 (v3 * (2 : Int))))] ?_
        refine WO_nil ?_
        refine blockK_normal ?_
        exact ⟨_, IntKind.wrap .i64 (v3 * (2 : Int)), Agree.eq ⟨rfl, rfl, rfl, rfl, trivial⟩, h⟩
    ·refine W_exit ?_
     refine blockK_hit ?_
     refine retN ?_
     exact ret0 rfl ⟨rfl, h⟩
def slices_SortStableFunc_Lot.R (Q : World → Prop) (x_a : Option Addr) (x_n : Nat) (x_c : Nat) (cmp : Value) (w : World) : Prop := (
  Cl Pg 198 #[vl x_a x_n x_c, vi (x_n : Nat), cmp] w (fun v w1 => v = .tuple #[] ∧ Q w1))
theorem slices_SortStableFunc_Lot.ok {Q : World → Prop} {x_a : Option Addr} {x_n : Nat} {x_c : Nat} {cmp : Value} {w : World} (h : slices_SortStableFunc_Lot.R Q x_a x_n x_c cmp w) : Cl Pg 177 #[vl x_a x_n x_c, cmp] w (fun v w' => v = .tuple #[] ∧ Q w') := by
 refine calls_args (args := [vl x_a x_n x_c, cmp]) Tryz.func177 ?_
 unfold slices_SortStableFunc_Lot.R at h
 refine W_reg ?_
 refine ps 4 [(4, vl x_a x_n x_c), (5, vl x_a x_n x_c), (6, vi (x_n : Nat)), (7, cmp)] ?_
 refine cl h ?_
 rintro _ w1 ⟨rfl, h⟩
 refine WO_nil ?_
 refine retN ?_
 exact ret0 rfl ⟨rfl, h⟩
end Go.Proofs.YtcbijkakoepglaaGreat
namespace Go.Proofs.YtcbijkakoepglaaGreat
open Go Go.Wx

instance : Inhabited TLot := ⟨⟨0, 0, 0, 0, 0, ByteArray.mk #[], 0, 0, 0, 0⟩⟩

theorem st_own0 {α : Type} {enc : α → List Value} {sz T : Nat} {w : World} (he : ∀ x, (enc x).length = sz) {a : Option Addr} {n c : Nat} {xs : List α} (ho : Own T sz enc w a n c xs) {i : Nat} {x : α} (x' : α) (hx : xs[i]? = some x) {a0 : Addr} (ha : a = some a0)
    {K : World → Prop} (hk : ∀ w', Own T sz enc w' a n c (xs.set i x') → Frm (fun b => obk a c = some b) w w' → K w') : St w (a0.add (i * sz)) (enc x') K := by
  have := st_own (vs := enc x') (j := 0) he ho x' hx (by rw [he]; omega) (fun r hr => by rw [if_pos ⟨by omega, by rw [he]; omega⟩]; rfl) ha hk
  rwa [add_add, Nat.add_zero] at this

theorem arr_get {α : Type} [Inhabited α] {d : Array α} {i : Nat} {x : α} (h : d.toList[i]? = some x) : d[i]! = x := by
  rw [Array.getElem?_toList] at h
  obtain ⟨hi, h⟩ := Array.getElem?_eq_some_iff.1 h
  rw [getElem!_pos d i hi, h]

theorem insInner_size (lo : Nat) : ∀ (j : Nat) (d : Array TLot), (Sort.insInner ltLot lo j d).size = d.size
  | 0, d => rfl
  | j + 1, d => by
    unfold Sort.insInner
    split
    · rw [insInner_size lo j, Sort.swp_size]
    · rfl
theorem insOuter_size (lo hi : Nat) : ∀ (m i : Nat) (d : Array TLot), hi - i = m → (Sort.insOuter ltLot lo hi i d).size = d.size
  | 0, i, d, h => by unfold Sort.insOuter; rw [if_neg (by omega)]
  | m + 1, i, d, h => by
    unfold Sort.insOuter
    rw [if_pos (by omega), insOuter_size lo hi m _ _ (by omega), insInner_size]

section
variable {S : Nat → Prop} {w0 : World} {f : Value} {a : Option Addr} {n c : Nat} {Q : World → Prop}
theorem ins_inner (hf : Cmps f TLot.enc cfLot S w0) (hS : ∀ k, obk a c = some k → S k) (hn : n ≤ maxLen) {lo : Nat} {v1 : Int} {kl1 : Int → World → Prop} :
    ∀ (j : Nat) (d : Array TLot) (w : World), j < d.size → Own 45 10 TLot.enc w a n c d.toList → Frm S w0 w → (∀ w', Own 45 10 TLot.enc w' a n c (Sort.insInner ltLot lo j d).toList → Frm S w0 w' → kl1 (IntKind.wrap .i64 (v1 + 1)) w') →
      slices_insertionSortCmpFunc_Lot.l2 Q a n lo f v1 kl1 (j + 1) (j : Nat) w := by
  intro j
  induction j with
  | zero =>
    intro d w hj ho F hk
    unfold slices_insertionSortCmpFunc_Lot.l2
    refine dr_f F fun w7 F e7 => ifb_df (by omega) ?_
    unfold slices_insertionSortCmpFunc_Lot.j1
    exact ifb_f (hk _ (ho.ext e7) F)
  | succ j ih =>
    intro d w hj ho F hk
    unfold slices_insertionSortCmpFunc_Lot.l2
    have hlen : n = d.size := by have := ho.1; simpa using this
    refine dr_f F fun w7 F e7 => ifb ?_
    have ho := ho.ext e7
    have hw : IntKind.wrap .i64 (((j + 1 : Nat) : Int) - 1) = (j : Nat) := by rw [wrap_id (by omega) (by simp only [maxLen] at hn; omega)]; omega
    rw [hw]
    split
    · rename_i hlo
      have hlo : lo < j + 1 := by have := of_decide_eq_true hlo; omega
      refine (ho.rd encLot).ix (by omega) (by omega) fun a0 x ha hx hc => ⟨x, hc, (ho.rd encLot).ix (by omega) (by omega) fun a0 y ha hy hc' => ⟨y, hc', ?_⟩⟩
      simp only [Int.toNat_natCast] at hx hy
      refine hf x y w7 F _ fun w8 E8 => ?_
      have hlt : decide (cfLot x y < 0) = ltLot x y := rfl
      have hx' := arr_get hx
      have hy' := arr_get hy
      rw [hlt]
      unfold slices_insertionSortCmpFunc_Lot.j1
      unfold Sort.insInner at hk
      rw [hx', hy'] at hk
      refine ifb ?_
      cases hb : ltLot x y with
      | true =>
        rw [hb] at hk
        simp only [if_true]
        simp only [Bool.and_true, decide_eq_true_eq, gt_iff_lt, hlo, if_true] at hk
        rw [hw]
        have ho8 := ho.ext E8
        refine dr_f (F.ext E8) fun w9 F9 e9 => ?_
        have ho9 := ho8.ext e9
        refine (ho9.rd encLot).ix (by omega) (by omega) fun p1 y1 hp1 hy1 hc1 => ⟨y1, hc1, (ho9.rd encLot).ix (by omega) (by omega) fun p2 x1 hp2 hx1 hc2 => ⟨x1, hc2, (ho9.rd encLot).ix (by omega) (by omega) fun p3 _ hp3 _ _ => ?_⟩⟩
        simp only [Int.toNat_natCast] at hy1 hx1 ⊢
        obtain rfl : y = y1 := Option.some.inj (hy.symm.trans hy1)
        obtain rfl : x = x1 := Option.some.inj (hx.symm.trans hx1)
        refine st_own0 encLot ho9 y hx hp3 fun w10 ho10 F10 => ?_
        refine (ho10.rd encLot).ix (by omega) (by omega) fun p4 z hp4 hz _ => ?_
        simp only [Int.toNat_natCast] at hz ⊢
        refine st_own0 encLot ho10 x hz hp4 fun w11 ho11 F11 => ?_
        have hsw : (d.toList.set (j + 1) y).set j x = (Sort.swp d (j + 1) j).toList := by
          unfold Sort.swp
          rw [Array.toList_setIfInBounds, Array.toList_setIfInBounds, hx', hy']
        rw [hsw] at ho11
        exact ih (Sort.swp d (j + 1) j) w11 (by rw [Sort.swp_size]; omega) ho11 ((F9.trans F10 fun k _ hk => hS k hk).trans F11 fun k _ hk => hS k hk) hk
      | false =>
        rw [hb] at hk
        simp only [Bool.false_eq_true, if_false]
        simp only [Bool.and_false, Bool.false_eq_true, if_false] at hk
        exact hk _ (ho.ext E8) (F.ext E8)
    · rename_i hlo
      have hlo : ¬ lo < j + 1 := by simp at hlo; omega
      unfold slices_insertionSortCmpFunc_Lot.j1
      unfold Sort.insInner at hk
      simp only [gt_iff_lt, hlo, decide_false, Bool.false_and, Bool.false_eq_true, if_false] at hk
      exact ifb_f (hk _ ho F)

theorem ins_c (hf : Cmps f TLot.enc cfLot S w0) (hS : ∀ k, obk a c = some k → S k) (hn' : n ≤ 1000000000) {lo hi : Nat} {d : Array TLot} {w : World} (hhi : hi ≤ n) (hlo : lo ≤ hi) (ho : Own 45 10 TLot.enc w a n c d.toList) (F : Frm S w0 w)
    (hQ : ∀ w', Own 45 10 TLot.enc w' a n c (Sort.insertionSort ltLot d lo hi).toList → Frm S w0 w' → Q w') : Cl Pg 212 #[vl a n c, vi lo, vi hi, f] w (fun v w' => v = .tuple #[] ∧ Q w') := by
  have hn : n ≤ maxLen := by simp only [maxLen]; omega
  refine slices_insertionSortCmpFunc_Lot.ok ⟨hi - (lo + 1) + 1, ?_⟩
  have hw : IntKind.wrap .i64 ((lo : Int) + 1) = ((lo + 1 : Nat) : Int) := by rw [wrap_id (by omega) (by omega)]; omega
  rw [hw]
  unfold Sort.insertionSort at hQ
  have key : ∀ m i (d : Array TLot) w, hi - i = m → Own 45 10 TLot.enc w a n c d.toList → Frm S w0 w → (∀ w', Own 45 10 TLot.enc w' a n c (Sort.insOuter ltLot lo hi i d).toList → Frm S w0 w' → Q w') → slices_insertionSortCmpFunc_Lot.l1 Q a n lo hi f (m + 1) (i : Nat) w := by
    intro m
    induction m with
    | zero =>
      intro i d w hi' ho F hQ
      unfold slices_insertionSortCmpFunc_Lot.l1
      unfold Sort.insOuter at hQ
      rw [if_neg (by omega)] at hQ
      exact ifb_df (by omega) (hQ _ ho F)
    | succ m ih =>
      intro i d w hi' ho F hQ
      unfold slices_insertionSortCmpFunc_Lot.l1
      unfold Sort.insOuter at hQ
      rw [if_pos (by omega)] at hQ
      have hlen : n = d.size := by have := ho.1; simpa using this
      refine ifb_dt (by omega) ⟨i + 1, ins_inner hf hS hn i d w (by omega) ho F fun w' ho' F' => ?_⟩
      rw [wrap_succ (n := n) (by omega) (by omega) hn]
      exact ih (i + 1) _ w' (by omega) ho' F' hQ
  exact key _ (lo + 1) d w rfl ho F hQ

/-- SortStableFunc, of 20 lots at most. -/
theorem stable20 (hf : Cmps f TLot.enc cfLot S w0) (hS : ∀ k, obk a c = some k → S k) (hn : n ≤ 20) {xs : List TLot} {w : World} (ho : Own 45 10 TLot.enc w a n c xs) (F : Frm S w0 w)
    (hx : ∀ x ∈ xs, ∀ y ∈ xs, x.Id = y.Id → x = y)
    (hQ : ∀ w', Own 45 10 TLot.enc w' a n c (isort ltLot xs) → Frm S w0 w' → Q w') : Cl Pg 177 #[vl a n c, f] w (fun v w' => v = .tuple #[] ∧ Q w') := by
  have hl := ho.1
  have hk : ∀ x ∈ xs, ∀ y ∈ xs, ltLot x y = false → ltLot y x = false → x = y := fun x h1 y h2 h3 h4 => hx x h1 y h2 (by rw [ltLot_false] at h3 h4; omega)
  have hfin : ∀ (d : Array TLot), d.size = n → d.toList.Perm xs → Sort.SortedIn ltLot 0 n d → d.toList = isort ltLot xs := fun d h1 h2 h3 => isort_unique swoLot h2 (asc_of_sortedIn (by rw [h1]; exact h3)) hk
  refine slices_SortStableFunc_Lot.ok (slices_stableCmpFunc_Lot.ok ⟨2, ?_⟩)
  have hI := Sort.insertionSort_holds (lt := ltLot) swoLot
  have last : ∀ (w : World) (Q' : World → Prop), Q' w → slices_stableCmpFunc_Lot.l2 Q' a n c n f 1 20 w := fun w Q' h => by
    unfold slices_stableCmpFunc_Lot.l2
    exact ifb_df (by omega) h
  unfold slices_stableCmpFunc_Lot.l1
  have hd : Own 45 10 TLot.enc w a n c xs.toArray.toList := ho
  refine ifb ?_
  split
  · rename_i h20
    have h20 : n = 20 := by simp at h20; omega
    subst h20
    refine ins_c (lo := 0) (hi := 20) hf hS (by omega) (by omega) (by omega) hd F fun w1 ho1 F1 => ?_
    obtain ⟨p1, s1⟩ := hI xs.toArray 0 20 (by omega) (by simp; omega)
    generalize Sort.insertionSort ltLot xs.toArray 0 20 = d1 at *
    unfold slices_stableCmpFunc_Lot.l1
    refine ifb_df (by decide) ?_
    refine ins_c (lo := 20) (hi := 20) hf hS (by omega) (by omega) (by omega) ho1 F1 fun w2 ho2 F2 => ⟨1, last _ _ ?_⟩
    have e2 : Sort.insertionSort ltLot d1 20 20 = d1 := by unfold Sort.insertionSort Sort.insOuter; simp
    rw [e2] at ho2
    have hsz : d1.size = 20 := by have := ho2.1; simpa using this.symm
    have hp := perm_of_permIn (d := xs.toArray) (by simpa [← hl] using p1)
    rw [hfin d1 hsz hp s1] at ho2
    exact hQ _ ho2 F2
  · rename_i h20
    refine ins_c (lo := 0) (hi := n) hf hS (by omega) (by omega) (by omega) hd F fun w1 ho1 F1 => ⟨1, last _ _ ?_⟩
    obtain ⟨p1, s1⟩ := hI xs.toArray 0 n (by omega) (by simp; omega)
    generalize Sort.insertionSort ltLot xs.toArray 0 n = d1 at *
    have hsz : d1.size = n := by have := ho1.1; simpa using this.symm
    have hp := perm_of_permIn (d := xs.toArray) (by simpa [← hl] using p1)
    rw [hfin d1 hsz hp s1] at ho1
    exact hQ _ ho1 F1
end
end Go.Proofs.YtcbijkakoepglaaGreat
namespace Go.Proofs.YtcbijkakoepglaaGreat
open Go Go.Wx Go.Sort

section
variable {α : Type} {lt : α → α → Bool}
/-- equals are one. -/
def Tot (lt : α → α → Bool) (l : List α) : Prop := ∀ x ∈ l, ∀ y ∈ l, lt x y = false → lt y x = false → x = y
theorem Tot.sub {l l' : List α} (h : Tot lt l) (hs : ∀ x ∈ l', x ∈ l) : Tot lt l' := fun x hx y hy => h x (hs x hx) y (hs y hy)
theorem isort_of_asc (hS : SWO lt) {l : List α} (hk : Tot lt l) (h : Asc lt l) : isort lt l = l := (isort_unique hS (.refl _) h hk).symm
theorem isort_eq (hS : SWO lt) {l l' : List α} (hk : Tot lt l) (hp : l'.Perm l) : isort lt l' = isort lt l :=
  isort_unique hS ((isort_perm l').trans hp) (isort_asc hS l') hk
theorem isort_app (hS : SWO lt) {l r : List α} (hk : Tot lt (l ++ r)) (h : ∀ x ∈ l, ∀ y ∈ r, lt y x = false) : isort lt (l ++ r) = isort lt l ++ isort lt r := by
  symm
  refine isort_unique hS ((isort_perm l).append (isort_perm r)) ?_ hk
  refine List.pairwise_append.2 ⟨isort_asc hS l, isort_asc hS r, fun x hx y hy => h x ((isort_perm l).mem_iff.1 hx) y ((isort_perm r).mem_iff.1 hy)⟩
/-- the middle of two sorted rows: what the search finds. -/
theorem merge_split (hS : SWO lt) {A1 A2 B1 B2 : List α} (hA : Asc lt (A1 ++ A2)) (hB : Asc lt (B1 ++ B2)) (hk : Tot lt (A1 ++ A2 ++ (B1 ++ B2)))
    (h1 : ∀ x y, A1.getLast? = some x → B2.head? = some y → lt y x = false) (h2 : ∀ x y, B1.getLast? = some x → A2.head? = some y → lt y x = false) :
    isort lt (A1 ++ A2 ++ (B1 ++ B2)) = isort lt (A1 ++ B1) ++ isort lt (A2 ++ B2) := by
  have hp : (A1 ++ B1 ++ (A2 ++ B2)).Perm (A1 ++ A2 ++ (B1 ++ B2)) := by
    rw [List.append_assoc, List.append_assoc]
    refine List.Perm.append_left A1 ?_
    rw [← List.append_assoc, ← List.append_assoc]
    exact List.Perm.append_right B2 List.perm_append_comm
  have hk' : Tot lt (A1 ++ B1 ++ (A2 ++ B2)) := hk.sub fun x hx => hp.mem_iff.1 hx
  rw [← isort_eq hS hk hp]
  refine isort_app hS hk' ?_
  obtain ⟨a1, a2, a12⟩ := List.pairwise_append.1 hA
  obtain ⟨b1, b2, b12⟩ := List.pairwise_append.1 hB
  have toLast : ∀ {l : List α} {x z : α}, Asc lt l → x ∈ l → l.getLast? = some z → lt z x = false := fun {l x z} hl hx hz => by
    obtain ⟨l', rfl⟩ := List.getLast?_eq_some_iff.1 hz
    rcases List.mem_append.1 hx with hx | hx
    · exact (List.pairwise_append.1 hl).2.2 x hx z (by simp)
    · simp at hx; subst hx; exact hS.irrefl _
  have fromHead : ∀ {l : List α} {y z : α}, Asc lt l → y ∈ l → l.head? = some z → lt y z = false := fun {l y z} hl hy hz => by
    cases l with
    | nil => cases hz
    | cons u l =>
      cases hz
      rcases List.mem_cons.1 hy with rfl | hy
      · exact hS.irrefl _
      · exact (List.pairwise_cons.1 hl).1 y hy
  have cross : ∀ {l r : List α}, Asc lt l → Asc lt r → (∀ x y, l.getLast? = some x → r.head? = some y → lt y x = false) → ∀ x ∈ l, ∀ y ∈ r, lt y x = false := fun {l r} hl hr h x hx y hy => by
    obtain ⟨z, hz⟩ : ∃ z, l.getLast? = some z := by
      cases hz : l.getLast? with
      | none => rw [List.getLast?_eq_none_iff] at hz; subst hz; cases hx
      | some z => exact ⟨z, rfl⟩
    obtain ⟨u, hu⟩ : ∃ u, r.head? = some u := by
      cases r with
      | nil => cases hy
      | cons u r => exact ⟨u, rfl⟩
    have e1 := toLast hl hx hz
    have e2 := fromHead hr hy hu
    exact hS.ntrans _ _ _ e2 (hS.ntrans _ _ _ (h z u hz hu) e1)
  intro x hx y hy
  rcases List.mem_append.1 hx with hx | hx <;> rcases List.mem_append.1 hy with hy | hy
  · exact a12 x hx y hy
  · exact cross a1 b2 h1 x hx y hy
  · exact cross b1 a2 h2 x hx y hy
  · exact b12 x hx y hy
/-- one into a sorted row. -/
theorem ins_mid (hS : SWO lt) {x : α} {B1 B2 : List α} (hB : Asc lt (B1 ++ B2)) (h1 : ∀ y, B1.getLast? = some y → lt x y = false) (h2 : ∀ y, B2.head? = some y → lt y x = false) (hk : Tot lt (x :: (B1 ++ B2))) :
    B1 ++ x :: B2 = isort lt (x :: (B1 ++ B2)) := by
  have := merge_split hS (A1 := []) (A2 := [x]) (B1 := B1) (B2 := B2) (by simp [Asc]) hB (by simpa using hk) (fun _ _ h => by cases h) (fun u v hu hv => by simp at hv; subst hv; exact h1 u hu)
  simp only [List.nil_append, List.singleton_append] at this
  rw [this]
  obtain ⟨b1, b2, _⟩ := List.pairwise_append.1 hB
  rw [isort_of_asc hS (hk.sub fun z hz => by simp [hz]) b1]
  rw [isort_of_asc hS (hk.sub fun z hz => by simp at hz ⊢; rcases hz with h | h <;> simp [h]) ?_]
  refine List.pairwise_cons.2 ⟨fun y hy => ?_, b2⟩
  cases B2 with
  | nil => cases hy
  | cons u B2 =>
    have hux := h2 u rfl
    rcases List.mem_cons.1 hy with rfl | hy
    · exact hux
    · exact hS.ntrans _ _ _ ((List.pairwise_cons.1 b2).1 y hy) hux
end
end Go.Proofs.YtcbijkakoepglaaGreat
namespace Go.Proofs.YtcbijkakoepglaaGreat
open Go Go.Wx Go.Sort

section
variable {α : Type} {lt : α → α → Bool}
inductive Chunked (lt : α → α → Bool) (sz : Nat) : List α → Prop
  | last {l : List α} : l.length ≤ sz → Asc lt l → Chunked lt sz l
  | cons {A T : List α} : A.length = sz → Asc lt A → Chunked lt sz T → Chunked lt sz (A ++ T)
inductive Full (lt : α → α → Bool) (sz : Nat) : List α → Prop
  | nil : Full lt sz []
  | snoc {P A : List α} : Full lt sz P → A.length = sz → Asc lt A → Full lt sz (P ++ A)
theorem Full.app {sz : Nat} {P T : List α} (h : Full lt sz P) (hT : Chunked lt sz T) : Chunked lt sz (P ++ T) := by
  induction h generalizing T with
  | nil => exact hT
  | snoc _ hl ha ih => rw [List.append_assoc]; exact ih (.cons hl ha hT)
theorem Chunked.asc {sz : Nat} {l : List α} (h : Chunked lt sz l) (hl : l.length ≤ sz) : Asc lt l := by
  cases h with
  | last _ h => exact h
  | @cons A T h1 h2 h3 =>
    obtain rfl : T = [] := List.eq_nil_of_length_eq_zero (by rw [List.length_append] at hl; omega)
    simpa using h2
theorem Chunked.one {sz : Nat} {l : List α} (h : Chunked lt sz l) (hl : sz < l.length) : ∃ A T, l = A ++ T ∧ A.length = sz ∧ Asc lt A ∧ Chunked lt sz T := by
  cases h with
  | last h _ => omega
  | @cons A T h1 h2 h3 => exact ⟨A, T, rfl, h1, h2, h3⟩
theorem Chunked.two {sz : Nat} {l : List α} (h : Chunked lt sz l) (h0 : 0 < sz) (hl : 2 * sz ≤ l.length) : ∃ A B T, l = A ++ B ++ T ∧ A.length = sz ∧ B.length = sz ∧ Asc lt A ∧ Asc lt B ∧ Chunked lt sz T := by
  obtain ⟨A, T, rfl, h1, h2, h3⟩ := h.one (by omega)
  rw [List.length_append] at hl
  by_cases hT : sz < T.length
  · obtain ⟨B, T', rfl, g1, g2, g3⟩ := h3.one hT
    exact ⟨A, B, T', by simp, h1, g1, h2, g2, g3⟩
  · exact ⟨A, T, [], by simp, h1, by omega, h2, h3.asc (by omega), .last (by simp) (by simp [Asc])⟩

theorem get_mid {L1 L2 : List α} {x : α} {i : Nat} (hi : i = L1.length) : (L1 ++ x :: L2)[i]? = some x := by
  subst hi; simp
theorem set_mid {L1 L2 : List α} {x y : α} {i : Nat} (hi : i = L1.length) : (L1 ++ x :: L2).set i y = L1 ++ y :: L2 := by
  subst hi; simp
/-- two places are changed. -/
theorem sw_lo {L1 L2 L3 : List α} {u v : α} {i j : Nat} (hj : j = L1.length) (hi : i = L1.length + 1 + L2.length) : ((L1 ++ u :: (L2 ++ v :: L3)).set j v).set i u = L1 ++ v :: (L2 ++ u :: L3) := by
  rw [set_mid hj]
  have e : ∀ (z : α), L1 ++ v :: (L2 ++ z :: L3) = (L1 ++ v :: L2) ++ z :: L3 := fun z => by simp
  rw [e, set_mid (by simp; omega), e]
theorem sw_hi {L1 L2 L3 : List α} {u v : α} {i j : Nat} (hj : j = L1.length) (hi : i = L1.length + 1 + L2.length) : ((L1 ++ u :: (L2 ++ v :: L3)).set i u).set j v = L1 ++ v :: (L2 ++ u :: L3) := by
  have e : ∀ (z : α), L1 ++ u :: (L2 ++ z :: L3) = (L1 ++ u :: L2) ++ z :: L3 := fun z => by simp
  rw [e, set_mid (by simp; omega), ← e, set_mid hj]
theorem get_hi {L1 L2 L3 : List α} {u v : α} {i : Nat} (hi : i = L1.length + 1 + L2.length) : (L1 ++ u :: (L2 ++ v :: L3))[i]? = some v := by
  have e : L1 ++ u :: (L2 ++ v :: L3) = (L1 ++ u :: L2) ++ v :: L3 := by simp
  rw [e, get_mid (by simp; omega)]

/-- the insertion sort of a part. -/
theorem ins_list [Inhabited α] (hS : SWO lt) {P A T : List α} (hk : Tot lt A) {d : Array α} (hd : d.toList = P ++ A ++ T) {lo hi : Nat} (h1 : lo = P.length) (h2 : hi = P.length + A.length) :
    (insertionSort lt d lo hi).toList = P ++ isort lt A ++ T := by
  have hsz : d.size = P.length + A.length + T.length := by rw [← Array.length_toList, hd]; simp; omega
  obtain ⟨⟨p1, p2, p3⟩, hs⟩ := insertionSort_holds (lt := lt) hS d lo hi (by omega) (by omega)
  generalize hD : insertionSort lt d lo hi = D at *
  have hA : (d.extract lo hi).toList = A := by
    rw [Array.toList_extract, hd, h1, h2, List.append_assoc, List.extract_eq_take_drop, List.drop_left, show P.length + A.length - P.length = A.length by omega, List.take_left]
  have hlen : D.toList.length = d.toList.length := by simpa using p1
  have getD : ∀ i, i < D.size → D.toList[i]? = some D[i]! := fun i hi => by rw [Array.getElem?_toList, Array.getElem?_eq_getElem hi, getElem!_pos D i hi]
  have getd : ∀ i, i < d.size → d.toList[i]? = some d[i]! := fun i hi => by rw [Array.getElem?_toList, Array.getElem?_eq_getElem hi, getElem!_pos d i hi]
  have hout : ∀ i, (i < lo ∨ hi ≤ i) → D.toList[i]? = d.toList[i]? := fun i hi' => by
    by_cases hlt : i < d.size
    · rw [getD i (by omega), getd i hlt, p2 i hi']
    · rw [List.getElem?_eq_none (by simp; omega), List.getElem?_eq_none (by simp; omega)]
  have hE : D.toList = P ++ (D.extract lo hi).toList ++ T := by
    rw [Array.toList_extract]
    apply List.ext_getElem?
    intro i
    rw [List.append_assoc]
    by_cases hi1 : i < P.length
    · rw [hout i (.inl (by omega)), hd, List.append_assoc, List.getElem?_append_left hi1, List.getElem?_append_left hi1]
    · rw [List.getElem?_append_right (by omega)]
      have hel : (D.toList.extract lo hi).length = A.length := by rw [List.extract_eq_take_drop]; simp; omega
      by_cases hi2 : i < hi
      · rw [List.getElem?_append_left (by rw [hel]; omega), List.extract_eq_take_drop, List.getElem?_take, if_pos (by omega), List.getElem?_drop]
        congr 1; omega
      · rw [List.getElem?_append_right (by rw [hel]; omega), hel, hout i (.inr (by omega)), hd, List.append_assoc, List.getElem?_append_right (by omega), List.getElem?_append_right (by omega)]
  rw [hE]
  congr 2
  refine isort_unique hS ?_ ?_ hk
  · rw [← hA]; exact p3
  · refine List.pairwise_iff_getElem.2 fun i j hi' hj hij => ?_
    simp only [Array.toList_extract, List.extract_eq_take_drop, List.length_take, List.length_drop, Array.length_toList] at hi' hj
    have := hs (lo + i) (lo + j) (by omega) (by omega) (by omega)
    rw [getElem!_pos D _ (by omega), getElem!_pos D _ (by omega)] at this
    simpa using this
end
end Go.Proofs.YtcbijkakoepglaaGreat
namespace Go.Proofs.YtcbijkakoepglaaGreat
open Go Go.Wx
set_option maxRecDepth 100000
def slices_symMergeCmpFunc_Lot.l2 (Q : World → Prop) (data_a : Option Addr) (data_n : Nat) (v1 : Int) : Nat → Int → World → Prop
       | 0, _, _ => False
       | nl2 + 1, v3, w4 => (
       Ifb (decide (v3 < (IntKind.wrap .i64 (v1 - (1 : Int)))))
      (Dr w4 fun w5 =>
      Ix data_a data_n (IntKind.wrap .i64 (v3 + (1 : Int))) fun p3 =>
      LdT TLot.enc w5 (Addr.add p3 ((IntKind.wrap .i64 (v3 + (1 : Int))).toNat * 10)) fun x3 =>
      Ix data_a data_n v3 fun p4 =>
      LdT TLot.enc w5 (Addr.add p4 (v3.toNat * 10)) fun x4 =>
      Ix data_a data_n v3 fun p5 =>
      St w5 (Addr.add p5 (v3.toNat * 10)) (TLot.enc x3) fun w6 =>
      Ix data_a data_n (IntKind.wrap .i64 (v3 + (1 : Int))) fun p6 =>
      St w6 (Addr.add p6 ((IntKind.wrap .i64 (v3 + (1 : Int))).toNat * 10)) (TLot.enc x4) fun w7 =>
      (slices_symMergeCmpFunc_Lot.l2 Q data_a data_n v1 nl2) (IntKind.wrap .i64 (v3 + (1 : Int))) w7)
      (Q w4))
def slices_symMergeCmpFunc_Lot.l1 (Q : World → Prop) (data_a : Option Addr) (data_n : Nat) (a : Int) (cmp : Value) : Nat → Int → Int → World → Prop
       | 0, _, _, _ => False
       | nl1 + 1, v1, v2, w1 => (
       Ifb (decide (v1 < v2))
      (Dr w1 fun w2 =>
      Ix data_a data_n (IntKind.wrap .i64 (Int.fdiv (IntKind.wrap .u64 (IntKind.wrap .i64 (v1 + v2))) (2 ^ 1))) fun p1 =>
      LdT TLot.enc w2 (Addr.add p1 ((IntKind.wrap .i64 (Int.fdiv (IntKind.wrap .u64 (IntKind.wrap .i64 (v1 + v2))) (2 ^ 1))).toNat * 10)) fun x1 =>
      Ix data_a data_n a fun p2 =>
      LdT TLot.enc w2 (Addr.add p2 (a.toNat * 10)) fun x2 =>
      Clv Pg cmp #[vg (TLot.enc x1), vg (TLot.enc x2)] w2 (fun v w3 => ∃ (r1 : Int), v = vi r1 ∧ Ifb (decide (r1 < (0 : Int)))
      ((slices_symMergeCmpFunc_Lot.l1 Q data_a data_n a cmp nl1) (IntKind.wrap .i64 ((IntKind.wrap .i64 (Int.fdiv (IntKind.wrap .u64 (IntKind.wrap .i64 (v1 + v2))) (2 ^ 1))) + (1 : Int))) v2 w3)
      ((slices_symMergeCmpFunc_Lot.l1 Q data_a data_n a cmp nl1) v1 (IntKind.wrap .i64 (Int.fdiv (IntKind.wrap .u64 (IntKind.wrap .i64 (v1 + v2))) (2 ^ 1))) w3)))
      (∃ k, slices_symMergeCmpFunc_Lot.l2 Q data_a data_n v1 k a w1))
def slices_symMergeCmpFunc_Lot.l4 (Q : World → Prop) (data_a : Option Addr) (data_n : Nat) (v4 : Int) : Nat → Int → World → Prop
       | 0, _, _ => False
       | nl4 + 1, v6, w11 => (
       Ifb (decide (v6 > v4))
      (Dr w11 fun w12 =>
      Ix data_a data_n (IntKind.wrap .i64 (v6 - (1 : Int))) fun p9 =>
      LdT TLot.enc w12 (Addr.add p9 ((IntKind.wrap .i64 (v6 - (1 : Int))).toNat * 10)) fun x7 =>
      Ix data_a data_n v6 fun p10 =>
      LdT TLot.enc w12 (Addr.add p10 (v6.toNat * 10)) fun x8 =>
      Ix data_a data_n v6 fun p11 =>
      St w12 (Addr.add p11 (v6.toNat * 10)) (TLot.enc x7) fun w13 =>
      Ix data_a data_n (IntKind.wrap .i64 (v6 - (1 : Int))) fun p12 =>
      St w13 (Addr.add p12 ((IntKind.wrap .i64 (v6 - (1 : Int))).toNat * 10)) (TLot.enc x8) fun w14 =>
      (slices_symMergeCmpFunc_Lot.l4 Q data_a data_n v4 nl4) (IntKind.wrap .i64 (v6 - (1 : Int))) w14)
      (Q w11))
def slices_symMergeCmpFunc_Lot.l3 (Q : World → Prop) (data_a : Option Addr) (data_n : Nat) (m : Int) (cmp : Value) : Nat → Int → Int → World → Prop
       | 0, _, _, _ => False
       | nl3 + 1, v4, v5, w8 => (
       Ifb (decide (v4 < v5))
      (Dr w8 fun w9 =>
      Ix data_a data_n m fun p7 =>
      LdT TLot.enc w9 (Addr.add p7 (m.toNat * 10)) fun x5 =>
      Ix data_a data_n (IntKind.wrap .i64 (Int.fdiv (IntKind.wrap .u64 (IntKind.wrap .i64 (v4 + v5))) (2 ^ 1))) fun p8 =>
      LdT TLot.enc w9 (Addr.add p8 ((IntKind.wrap .i64 (Int.fdiv (IntKind.wrap .u64 (IntKind.wrap .i64 (v4 + v5))) (2 ^ 1))).toNat * 10)) fun x6 =>
      Clv Pg cmp #[vg (TLot.enc x5), vg (TLot.enc x6)] w9 (fun v w10 => ∃ (r2 : Int), v = vi r2 ∧ Ifb (!(decide (r2 < (0 : Int))))
      ((slices_symMergeCmpFunc_Lot.l3 Q data_a data_n m cmp nl3) (IntKind.wrap .i64 ((IntKind.wrap .i64 (Int.fdiv (IntKind.wrap .u64 (IntKind.wrap .i64 (v4 + v5))) (2 ^ 1))) + (1 : Int))) v5 w10)
      ((slices_symMergeCmpFunc_Lot.l3 Q data_a data_n m cmp nl3) v4 (IntKind.wrap .i64 (Int.fdiv (IntKind.wrap .u64 (IntKind.wrap .i64 (v4 + v5))) (2 ^ 1))) w10)))
      (∃ k, slices_symMergeCmpFunc_Lot.l4 Q data_a data_n v4 k m w8))
def slices_symMergeCmpFunc_Lot.j3 (Q : World → Prop) (data_a : Option Addr) (data_n : Nat) (data_c : Nat) (a : Int) (m : Int) (b : Int) (cmp : Value) (v9 : Int) (w20 : World) : Prop := (
       Ifb ((decide ((IntKind.wrap .i64 (Int.fdiv (IntKind.wrap .u64 (IntKind.wrap .i64 (a + b))) (2 ^ 1))) < (IntKind.wrap .i64 ((IntKind.wrap .i64 ((IntKind.wrap .i64 (Int.fdiv (IntKind.wrap .u64 (IntKind.wrap .i64 (a + b))) (2 ^ 1))) + m)) - v9)))) && (decide ((IntKind.wrap .i64 ((IntKind.wrap .i64 ((IntKind.wrap .i64 (Int.fdiv (IntKind.wrap .u64 (IntKind.wrap .i64 (a + b))) (2 ^ 1))) + m)) - v9)) < b)))
      (Cl Pg 213 #[vl data_a data_n data_c, vi (IntKind.wrap .i64 (Int.fdiv (IntKind.wrap .u64 (IntKind.wrap .i64 (a + b))) (2 ^ 1))), vi (IntKind.wrap .i64 ((IntKind.wrap .i64 ((IntKind.wrap .i64 (Int.fdiv (IntKind.wrap .u64 (IntKind.wrap .i64 (a + b))) (2 ^ 1))) + m)) - v9)), vi b, cmp] w20 (fun v w21 => v = .tuple #[] ∧ Q w21))
      (Q w20))
def slices_symMergeCmpFunc_Lot.j2 (Q : World → Prop) (data_a : Option Addr) (data_n : Nat) (data_c : Nat) (a : Int) (m : Int) (b : Int) (cmp : Value) (v9 : Int) (w19 : World) : Prop := (
       Ifb ((decide (a < v9)) && (decide (v9 < (IntKind.wrap .i64 (Int.fdiv (IntKind.wrap .u64 (IntKind.wrap .i64 (a + b))) (2 ^ 1))))))
      (Cl Pg 213 #[vl data_a data_n data_c, vi a, vi v9, vi (IntKind.wrap .i64 (Int.fdiv (IntKind.wrap .u64 (IntKind.wrap .i64 (a + b))) (2 ^ 1))), cmp] w19 (fun v w22 => v = .tuple #[] ∧ slices_symMergeCmpFunc_Lot.j3 Q data_a data_n data_c a m b cmp v9  w22))
      (slices_symMergeCmpFunc_Lot.j3 Q data_a data_n data_c a m b cmp v9  w19))
def slices_symMergeCmpFunc_Lot.l5 (Q : World → Prop) (data_a : Option Addr) (data_n : Nat) (data_c : Nat) (a : Int) (m : Int) (b : Int) (cmp : Value) : Nat → Int → Int → World → Prop
       | 0, _, _, _ => False
       | nl5 + 1, v9, v10, w16 => (
       Ifb (decide (v9 < v10))
      (Dr w16 fun w17 =>
      Ix data_a data_n (IntKind.wrap .i64 ((IntKind.wrap .i64 ((IntKind.wrap .i64 ((IntKind.wrap .i64 (Int.fdiv (IntKind.wrap .u64 (IntKind.wrap .i64 (a + b))) (2 ^ 1))) + m)) - (1 : Int))) - (IntKind.wrap .i64 (Int.fdiv (IntKind.wrap .u64 (IntKind.wrap .i64 (v9 + v10))) (2 ^ 1))))) fun p13 =>
      LdT TLot.enc w17 (Addr.add p13 ((IntKind.wrap .i64 ((IntKind.wrap .i64 ((IntKind.wrap .i64 ((IntKind.wrap .i64 (Int.fdiv (IntKind.wrap .u64 (IntKind.wrap .i64 (a + b))) (2 ^ 1))) + m)) - (1 : Int))) - (IntKind.wrap .i64 (Int.fdiv (IntKind.wrap .u64 (IntKind.wrap .i64 (v9 + v10))) (2 ^ 1))))).toNat * 10)) fun x9 =>
      Ix data_a data_n (IntKind.wrap .i64 (Int.fdiv (IntKind.wrap .u64 (IntKind.wrap .i64 (v9 + v10))) (2 ^ 1))) fun p14 =>
      LdT TLot.enc w17 (Addr.add p14 ((IntKind.wrap .i64 (Int.fdiv (IntKind.wrap .u64 (IntKind.wrap .i64 (v9 + v10))) (2 ^ 1))).toNat * 10)) fun x10 =>
      Clv Pg cmp #[vg (TLot.enc x9), vg (TLot.enc x10)] w17 (fun v w18 => ∃ (r3 : Int), v = vi r3 ∧ Ifb (!(decide (r3 < (0 : Int))))
      ((slices_symMergeCmpFunc_Lot.l5 Q data_a data_n data_c a m b cmp nl5) (IntKind.wrap .i64 ((IntKind.wrap .i64 (Int.fdiv (IntKind.wrap .u64 (IntKind.wrap .i64 (v9 + v10))) (2 ^ 1))) + (1 : Int))) v10 w18)
      ((slices_symMergeCmpFunc_Lot.l5 Q data_a data_n data_c a m b cmp nl5) v9 (IntKind.wrap .i64 (Int.fdiv (IntKind.wrap .u64 (IntKind.wrap .i64 (v9 + v10))) (2 ^ 1))) w18)))
      (Ifb ((decide (v9 < m)) && (decide (m < (IntKind.wrap .i64 ((IntKind.wrap .i64 ((IntKind.wrap .i64 (Int.fdiv (IntKind.wrap .u64 (IntKind.wrap .i64 (a + b))) (2 ^ 1))) + m)) - v9)))))
      (Cl Pg 218 #[vl data_a data_n data_c, vi v9, vi m, vi (IntKind.wrap .i64 ((IntKind.wrap .i64 ((IntKind.wrap .i64 (Int.fdiv (IntKind.wrap .u64 (IntKind.wrap .i64 (a + b))) (2 ^ 1))) + m)) - v9)), cmp] w16 (fun v w23 => v = .tuple #[] ∧ slices_symMergeCmpFunc_Lot.j2 Q data_a data_n data_c a m b cmp v9  w23))
      (slices_symMergeCmpFunc_Lot.j2 Q data_a data_n data_c a m b cmp v9  w16)))
def slices_symMergeCmpFunc_Lot.j1 (Q : World → Prop) (data_a : Option Addr) (data_n : Nat) (data_c : Nat) (a : Int) (m : Int) (b : Int) (cmp : Value) (v7 : Int) (v8 : Int) (w15 : World) : Prop := (
       ∃ k, slices_symMergeCmpFunc_Lot.l5 Q data_a data_n data_c a m b cmp k v7 v8 w15)
def slices_symMergeCmpFunc_Lot.R (Q : World → Prop) (data_a : Option Addr) (data_n : Nat) (data_c : Nat) (a : Int) (m : Int) (b : Int) (cmp : Value) (w : World) : Prop := (
  Ifb ((IntKind.wrap .i64 (m - a)) == (1 : Int))
      (∃ k, slices_symMergeCmpFunc_Lot.l1 Q data_a data_n a cmp k m b w)
      (Ifb ((IntKind.wrap .i64 (b - m)) == (1 : Int))
      (∃ k, slices_symMergeCmpFunc_Lot.l3 Q data_a data_n m cmp k a m w)
      (Ifb (decide (m > (IntKind.wrap .i64 (Int.fdiv (IntKind.wrap .u64 (IntKind.wrap .i64 (a + b))) (2 ^ 1)))))
      (slices_symMergeCmpFunc_Lot.j1 Q data_a data_n data_c a m b cmp (IntKind.wrap .i64 ((IntKind.wrap .i64 ((IntKind.wrap .i64 (Int.fdiv (IntKind.wrap .u64 (IntKind.wrap .i64 (a + b))) (2 ^ 1))) + m)) - b)) (IntKind.wrap .i64 (Int.fdiv (IntKind.wrap .u64 (IntKind.wrap .i64 (a + b))) (2 ^ 1))) w)
      (slices_symMergeCmpFunc_Lot.j1 Q data_a data_n data_c a m b cmp a m w))))
theorem slices_symMergeCmpFunc_Lot.ok {Q : World → Prop} {data_a : Option Addr} {data_n : Nat} {data_c : Nat} {a : Int} {m : Int} {b : Int} {cmp : Value} {w : World} (h : slices_symMergeCmpFunc_Lot.R Q data_a data_n data_c a m b cmp w) : Cl Pg 213 #[vl data_a data_n data_c, vi a, vi m, vi b, cmp] w (fun v w' => v = .tuple #[] ∧ Q w') := by
 refine calls_args (args := [vl data_a data_n data_c, vi a, vi m, vi b, cmp]) Tryz.func213 ?_
 unfold slices_symMergeCmpFunc_Lot.R at h
 refine W_seq ?_
 refine W_regseq ?_
 refine ps 4 [(25, vi m), (26, vi a), (27, vi (IntKind.wrap .i64 (m - a))), (28, vb ((IntKind.wrap .i64 (m - a)) == (1 : Int)))] ?_
 refine WO_nil ?_
 refine ci h (fun h => ?_) fun h => ?_
 ·refine W_regseq ?_
  refine ps 2 [(29, vi m), (10, vi m)] ?_
  refine WO_nil ?_
  refine W_regseq ?_
  refine ps 2 [(30, vi b), (11, vi b)] ?_
  refine WO_nil ?_
  refine W_seq ?_
  refine W_block ?_
  obtain ⟨nl1, h⟩ := h
  refine W_loopI (fun k e w1 => ∃ (e0 : Env) (v1 : Int) (v2 : Int), e = upds e0 [(0, vl data_a data_n data_c), (1, vi a), (4, cmp), (10, vi v1), (11, vi v2)] ∧ slices_symMergeCmpFunc_Lot.l1 Q data_a data_n a cmp k v1 v2 w1) nl1 ?_ ?_ ?_
  ·rintro _ _ ⟨_, _, _, _, h⟩
   exact h
  ·exact ⟨_, m, b, Agree.eq ⟨rfl, rfl, rfl, rfl, rfl, trivial⟩, h⟩
  ·clear h nl1
   rintro nl1 _ w1 ⟨e0, v1, v2, rfl, h⟩
   unfold slices_symMergeCmpFunc_Lot.l1 at h
   refine W_seq ?_
   refine W_regseq ?_
   refine ps 3 [(31, vi v1), (32, vi v2), (33, vb (decide (v1 < v2)))] ?_
   refine WO_nil ?_
   refine ci h (fun h => ?_) fun h => ?_
   ·refine W_skip ?_
    refine W_block ?_
    refine W_regseq ?_
    refine ps 7 [(34, vi v1), (35, vi v2), (36, vi (IntKind.wrap .i64 (v1 + v2))), (37, .int .u64 (IntKind.wrap .u64 (IntKind.wrap .i64 (v1 + v2)))), (38, .int .u64 (Int.fdiv (IntKind.wrap .u64 (IntKind.wrap .i64 (v1 + v2))) (2 ^ 1))), (39, vi (IntKind.wrap .i64 (Int.fdiv (IntKind.wrap .u64 (IntKind.wrap .i64 (v1 + v2))) (2 ^ 1)))), (12, vi (IntKind.wrap .i64 (Int.fdiv (IntKind.wrap .u64 (IntKind.wrap .i64 (v1 + v2))) (2 ^ 1))))] ?_
    refine WO_nil ?_
    refine drs folM [[], [], [], [], [], [], [], [], [], [4, 8], [4, 8]] [.p 0, .p 1, .p 2, .p 3, .l 4, .p 5, .p 6, .p 7, .l 8, .e 9, .p 10] h ?_
    intro w2 ew h
    clear ew
    refine psC 3 [(40, cmp), (41, vl data_a data_n data_c), (42, vi (IntKind.wrap .i64 (Int.fdiv (IntKind.wrap .u64 (IntKind.wrap .i64 (v1 + v2))) (2 ^ 1))))] ?_
    refine ixC slk46 h fun p1 h => ?_
    obtain ⟨x1, hx1, h⟩ := h
    refine ldnC tk45 hx1 ?_
    refine psC 2 [(45, vl data_a data_n data_c), (46, vi a)] ?_
    refine ixC slk46 h fun p2 h => ?_
    obtain ⟨x2, hx2, h⟩ := h
    refine ldnC tk45 hx2 ?_
    refine clvC h ?_
    rintro _ w3 ⟨r1, rfl, h⟩
    refine ⟨AllOk.nil, ?_⟩
    refine psC 1 [(50, vb (decide (r1 < (0 : Int))))] ?_
    refine WC_nil ?_
    refine ci h (fun h => ?_) fun h => ?_
    ·refine W_reg ?_
     refine ps 3 [(51, vi (IntKind.wrap .i64 (Int.fdiv (IntKind.wrap .u64 (IntKind.wrap .i64 (v1 + v2))) (2 ^ 1)))), (52, vi (IntKind.wrap .i64 ((IntKind.wrap .i64 (Int.fdiv (IntKind.wrap .u64 (IntKind.wrap .i64 (v1 + v2))) (2 ^ 1))) + (1 : Int)))), (10, vi (IntKind.wrap .i64 ((IntKind.wrap .i64 (Int.fdiv (IntKind.wrap .u64 (IntKind.wrap .i64 (v1 + v2))) (2 ^ 1))) + (1 : Int))))] ?_
     refine WO_nil ?_
     refine blockK_normal ?_
     exact ⟨_, IntKind.wrap .i64 ((IntKind.wrap .i64 (Int.fdiv (IntKind.wrap .u64 (IntKind.wrap .i64 (v1 + v2))) (2 ^ 1))) + (1 : Int)), v2, Agree.eq ⟨rfl, rfl, rfl, rfl, rfl, trivial⟩, h⟩
    ·refine W_reg ?_
     refine ps 2 [(53, vi (IntKind.wrap .i64 (Int.fdiv (IntKind.wrap .u64 (IntKind.wrap .i64 (v1 + v2))) (2 ^ 1)))), (11, vi (IntKind.wrap .i64 (Int.fdiv (IntKind.wrap .u64 (IntKind.wrap .i64 (v1 + v2))) (2 ^ 1))))] ?_
     refine WO_nil ?_
     refine blockK_normal ?_
     exact ⟨_, v1, IntKind.wrap .i64 (Int.fdiv (IntKind.wrap .u64 (IntKind.wrap .i64 (v1 + v2))) (2 ^ 1)), Agree.eq ⟨rfl, rfl, rfl, rfl, rfl, trivial⟩, h⟩
   ·refine W_exit ?_
    refine blockK_hit ?_
    refine W_seq ?_
    refine W_regseq ?_
    refine ps 2 [(54, vi a), (13, vi a)] ?_
    refine WO_nil ?_
    refine W_block ?_
    obtain ⟨nl2, h⟩ := h
    refine W_loopI (fun k e w4 => ∃ (e0 : Env) (v3 : Int), e = upds e0 [(0, vl data_a data_n data_c), (10, vi v1), (13, vi v3)] ∧ slices_symMergeCmpFunc_Lot.l2 Q data_a data_n v1 k v3 w4) nl2 ?_ ?_ ?_
    ·rintro _ _ ⟨_, _, _, h⟩
     exact h
    ·exact ⟨_, a, Agree.eq ⟨rfl, rfl, rfl, trivial⟩, h⟩
    ·clear h nl2
     rintro nl2 _ w4 ⟨e0, v3, rfl, h⟩
     unfold slices_symMergeCmpFunc_Lot.l2 at h
     refine W_seq ?_
     refine W_regseq ?_
     refine ps 4 [(55, vi v3), (56, vi v1), (57, vi (IntKind.wrap .i64 (v1 - (1 : Int)))), (58, vb (decide (v3 < (IntKind.wrap .i64 (v1 - (1 : Int))))))] ?_
     refine WO_nil ?_
     refine ci h (fun h => ?_) fun h => ?_
     ·refine W_skip ?_
      refine W_seq ?_
      refine W_block ?_
      refine drw folM [[], [], [], [], [], [], [], [], [], [], [], [], [], [], [9, 13], [9, 13], [9, 13], [9, 13]] [.p 0, .p 1, .p 2, .p 3, .p 4, .p 5, .p 6, .p 7, .p 8, .l 9, .p 10, .p 11, .p 12, .l 13, .p 14, .e 15, .p 16, .e 17] h ?_
      intro w5 ew h
      clear ew
      refine psC 8 [(61, vl data_a data_n data_c), (62, vi v3), (63, vl data_a data_n data_c), (64, vi v3), (65, vi (IntKind.wrap .i64 (v3 + (1 : Int)))), (66, vl data_a data_n data_c), (67, vi v3), (68, vi (IntKind.wrap .i64 (v3 + (1 : Int))))] ?_
      refine ixC slk46 h fun p3 h => ?_
      obtain ⟨x3, hx3, h⟩ := h
      refine ldnC tk45 hx3 ?_
      refine psC 2 [(71, vl data_a data_n data_c), (72, vi v3)] ?_
      refine ixC slk46 h fun p4 h => ?_
      obtain ⟨x4, hx4, h⟩ := h
      refine ldnC tk45 hx4 ?_
      refine ixC slk46 h fun p5 h => ?_
      refine stC tk45 h ?_
      rintro w6 h
      refine ⟨AllOk.nil, ?_⟩
      refine ixC slk46 h fun p6 h => ?_
      refine stC tk45 h ?_
      rintro w7 h
      refine ⟨AllOk.nil, ?_⟩
      refine WC_nil ?_
      refine blockK_normal ?_
      refine W_reg ?_
      refine ps 3 [(59, vi v3), (60, vi (IntKind.wrap .i64 (v3 + (1 : Int)))), (13, vi (IntKind.wrap .i64 (v3 + (1 : Int))))] ?_
      refine WO_nil ?_
      exact ⟨_, IntKind.wrap .i64 (v3 + (1 : Int)), Agree.eq ⟨rfl, rfl, rfl, trivial⟩, h⟩
     ·refine W_exit ?_
      refine blockK_hit ?_
      refine W_ret ?_
      refine seqK_ret ?_
      exact ret0 rfl ⟨rfl, h⟩
 ·refine W_skip ?_
  refine W_seq ?_
  refine W_regseq ?_
  refine ps 4 [(77, vi b), (78, vi m), (79, vi (IntKind.wrap .i64 (b - m))), (80, vb ((IntKind.wrap .i64 (b - m)) == (1 : Int)))] ?_
  refine WO_nil ?_
  refine ci h (fun h => ?_) fun h => ?_
  ·refine W_regseq ?_
   refine ps 2 [(81, vi a), (14, vi a)] ?_
   refine WO_nil ?_
   refine W_regseq ?_
   refine ps 2 [(82, vi m), (15, vi m)] ?_
   refine WO_nil ?_
   refine W_seq ?_
   refine W_block ?_
   obtain ⟨nl3, h⟩ := h
   refine W_loopI (fun k e w8 => ∃ (e0 : Env) (v4 : Int) (v5 : Int), e = upds e0 [(0, vl data_a data_n data_c), (2, vi m), (4, cmp), (14, vi v4), (15, vi v5)] ∧ slices_symMergeCmpFunc_Lot.l3 Q data_a data_n m cmp k v4 v5 w8) nl3 ?_ ?_ ?_
   ·rintro _ _ ⟨_, _, _, _, h⟩
    exact h
   ·exact ⟨_, a, m, Agree.eq ⟨rfl, rfl, rfl, rfl, rfl, trivial⟩, h⟩
   ·clear h nl3
    rintro nl3 _ w8 ⟨e0, v4, v5, rfl, h⟩
    unfold slices_symMergeCmpFunc_Lot.l3 at h
    refine W_seq ?_
    refine W_regseq ?_
    refine ps 3 [(83, vi v4), (84, vi v5), (85, vb (decide (v4 < v5)))] ?_
    refine WO_nil ?_
    refine ci h (fun h => ?_) fun h => ?_
    ·refine W_skip ?_
     refine W_block ?_
     refine W_regseq ?_
     refine ps 7 [(86, vi v4), (87, vi v5), (88, vi (IntKind.wrap .i64 (v4 + v5))), (89, .int .u64 (IntKind.wrap .u64 (IntKind.wrap .i64 (v4 + v5)))), (90, .int .u64 (Int.fdiv (IntKind.wrap .u64 (IntKind.wrap .i64 (v4 + v5))) (2 ^ 1))), (91, vi (IntKind.wrap .i64 (Int.fdiv (IntKind.wrap .u64 (IntKind.wrap .i64 (v4 + v5))) (2 ^ 1)))), (16, vi (IntKind.wrap .i64 (Int.fdiv (IntKind.wrap .u64 (IntKind.wrap .i64 (v4 + v5))) (2 ^ 1))))] ?_
     refine WO_nil ?_
     refine drs folM [[], [], [], [], [], [], [], [], [], [4, 8], [4, 8], [4, 8]] [.p 0, .p 1, .p 2, .p 3, .l 4, .p 5, .p 6, .p 7, .l 8, .e 9, .p 10, .p 11] h ?_
     intro w9 ew h
     clear ew
     refine psC 3 [(92, cmp), (93, vl data_a data_n data_c), (94, vi m)] ?_
     refine ixC slk46 h fun p7 h => ?_
     obtain ⟨x5, hx5, h⟩ := h
     refine ldnC tk45 hx5 ?_
     refine psC 2 [(97, vl data_a data_n data_c), (98, vi (IntKind.wrap .i64 (Int.fdiv (IntKind.wrap .u64 (IntKind.wrap .i64 (v4 + v5))) (2 ^ 1))))] ?_
     refine ixC slk46 h fun p8 h => ?_
     obtain ⟨x6, hx6, h⟩ := h
     refine ldnC tk45 hx6 ?_
     refine clvC h ?_
     rintro _ w10 ⟨r2, rfl, h⟩
     refine ⟨AllOk.nil, ?_⟩
     refine psC 2 [(102, vb (decide (r2 < (0 : Int)))), (103, vb (!(decide (r2 < (0 : Int)))))] ?_
     refine WC_nil ?_
     refine ci h (fun h => ?_) fun h => ?_
     ·refine W_reg ?_
      refine ps 3 [(104, vi (IntKind.wrap .i64 (Int.fdiv (IntKind.wrap .u64 (IntKind.wrap .i64 (v4 + v5))) (2 ^ 1)))), (105, vi (IntKind.wrap .i64 ((IntKind.wrap .i64 (Int.fdiv (IntKind.wrap .u64 (IntKind.wrap .i64 (v4 + v5))) (2 ^ 1))) + (1 : Int)))), (14, vi (IntKind.wrap .i64 ((IntKind.wrap .i64 (Int.fdiv (IntKind.wrap .u64 (IntKind.wrap .i64 (v4 + v5))) (2 ^ 1))) + (1 : Int))))] ?_
      refine WO_nil ?_
      refine blockK_normal ?_
      exact ⟨_, IntKind.wrap .i64 ((IntKind.wrap .i64 (Int.fdiv (IntKind.wrap .u64 (IntKind.wrap .i64 (v4 + v5))) (2 ^ 1))) + (1 : Int)), v5, Agree.eq ⟨rfl, rfl, rfl, rfl, rfl, trivial⟩, h⟩
     ·refine W_reg ?_
      refine ps 2 [(106, vi (IntKind.wrap .i64 (Int.fdiv (IntKind.wrap .u64 (IntKind.wrap .i64 (v4 + v5))) (2 ^ 1)))), (15, vi (IntKind.wrap .i64 (Int.fdiv (IntKind.wrap .u64 (IntKind.wrap .i64 (v4 + v5))) (2 ^ 1))))] ?_
      refine WO_nil ?_
      refine blockK_normal ?_
      exact ⟨_, v4, IntKind.wrap .i64 (Int.fdiv (IntKind.wrap .u64 (IntKind.wrap .i64 (v4 + v5))) (2 ^ 1)), Agree.eq ⟨rfl, rfl, rfl, rfl, rfl, trivial⟩, h⟩
    ·refine W_exit ?_
     refine blockK_hit ?_
     refine W_seq ?_
     refine W_regseq ?_
     refine ps 2 [(107, vi m), (17, vi m)] ?_
     refine WO_nil ?_
     refine W_block ?_
     obtain ⟨nl4, h⟩ := h
     refine W_loopI (fun k e w11 => ∃ (e0 : Env) (v6 : Int), e = upds e0 [(0, vl data_a data_n data_c), (14, vi v4), (17, vi v6)] ∧ slices_symMergeCmpFunc_Lot.l4 Q data_a data_n v4 k v6 w11) nl4 ?_ ?_ ?_
     ·rintro _ _ ⟨_, _, _, h⟩
      exact h
     ·exact ⟨_, m, Agree.eq ⟨rfl, rfl, rfl, trivial⟩, h⟩
     ·clear h nl4
      rintro nl4 _ w11 ⟨e0, v6, rfl, h⟩
      unfold slices_symMergeCmpFunc_Lot.l4 at h
      refine W_seq ?_
      refine W_regseq ?_
      refine ps 3 [(108, vi v6), (109, vi v4), (110, vb (decide (v6 > v4)))] ?_
      refine WO_nil ?_
      refine ci h (fun h => ?_) fun h => ?_
      ·refine W_skip ?_
       refine W_seq ?_
       refine W_block ?_
       refine drw folM [[], [], [], [], [], [], [], [], [], [], [], [], [], [], [9, 13], [9, 13], [9, 13], [9, 13]] [.p 0, .p 1, .p 2, .p 3, .p 4, .p 5, .p 6, .p 7, .p 8, .l 9, .p 10, .p 11, .p 12, .l 13, .p 14, .e 15, .p 16, .e 17] h ?_
       intro w12 ew h
       clear ew
       refine psC 8 [(113, vl data_a data_n data_c), (114, vi v6), (115, vl data_a data_n data_c), (116, vi v6), (117, vi (IntKind.wrap .i64 (v6 - (1 : Int)))), (118, vl data_a data_n data_c), (119, vi v6), (120, vi (IntKind.wrap .i64 (v6 - (1 : Int))))] ?_
       refine ixC slk46 h fun p9 h => ?_
       obtain ⟨x7, hx7, h⟩ := h
       refine ldnC tk45 hx7 ?_
       refine psC 2 [(123, vl data_a data_n data_c), (124, vi v6)] ?_
       refine ixC slk46 h fun p10 h => ?_
       obtain ⟨x8, hx8, h⟩ := h
       refine ldnC tk45 hx8 ?_
       refine ixC slk46 h fun p11 h => ?_
       refine stC tk45 h ?_
       rintro w13 h
       refine ⟨AllOk.nil, ?_⟩
       refine ixC slk46 h fun p12 h => ?_
       refine stC tk45 h ?_
       rintro w14 h
       refine ⟨AllOk.nil, ?_⟩
       refine WC_nil ?_
       refine blockK_normal ?_
       refine W_reg ?_
       refine ps 3 [(111, vi v6), (112, vi (IntKind.wrap .i64 (v6 - (1 : Int)))), (17, vi (IntKind.wrap .i64 (v6 - (1 : Int))))] ?_
       refine WO_nil ?_
       exact ⟨_, IntKind.wrap .i64 (v6 - (1 : Int)), Agree.eq ⟨rfl, rfl, rfl, trivial⟩, h⟩
      ·refine W_exit ?_
       refine blockK_hit ?_
       refine W_ret ?_
       refine seqK_ret ?_
       exact ret0 rfl ⟨rfl, h⟩
  ·refine W_skip ?_
   refine W_regseq ?_
   refine ps 7 [(129, vi a), (130, vi b), (131, vi (IntKind.wrap .i64 (a + b))), (132, .int .u64 (IntKind.wrap .u64 (IntKind.wrap .i64 (a + b)))), (133, .int .u64 (Int.fdiv (IntKind.wrap .u64 (IntKind.wrap .i64 (a + b))) (2 ^ 1))), (134, vi (IntKind.wrap .i64 (Int.fdiv (IntKind.wrap .u64 (IntKind.wrap .i64 (a + b))) (2 ^ 1)))), (18, vi (IntKind.wrap .i64 (Int.fdiv (IntKind.wrap .u64 (IntKind.wrap .i64 (a + b))) (2 ^ 1))))] ?_
   refine WO_nil ?_
   refine W_regseq ?_
   refine ps 4 [(135, vi (IntKind.wrap .i64 (Int.fdiv (IntKind.wrap .u64 (IntKind.wrap .i64 (a + b))) (2 ^ 1)))), (136, vi m), (137, vi (IntKind.wrap .i64 ((IntKind.wrap .i64 (Int.fdiv (IntKind.wrap .u64 (IntKind.wrap .i64 (a + b))) (2 ^ 1))) + m))), (19, vi (IntKind.wrap .i64 ((IntKind.wrap .i64 (Int.fdiv (IntKind.wrap .u64 (IntKind.wrap .i64 (a + b))) (2 ^ 1))) + m)))] ?_
   refine WO_nil ?_
   refine W_regseq ?_
   refine ps 2 [(20, vi 0), (21, vi 0)] ?_
   refine WO_nil ?_
   refine W_join (fun e w15 => ∃ (e0 : Env) (v7 : Int) (v8 : Int), e = upds e0 [(0, vl data_a data_n data_c), (1, vi a), (2, vi m), (3, vi b), (4, cmp), (18, vi (IntKind.wrap .i64 (Int.fdiv (IntKind.wrap .u64 (IntKind.wrap .i64 (a + b))) (2 ^ 1)))), (19, vi (IntKind.wrap .i64 ((IntKind.wrap .i64 (Int.fdiv (IntKind.wrap .u64 (IntKind.wrap .i64 (a + b))) (2 ^ 1))) + m))), (20, vi v7), (21, vi v8)] ∧ slices_symMergeCmpFunc_Lot.j1 Q data_a data_n data_c a m b cmp v7 v8 w15) ?_ ?_
   ·refine W_regseq ?_
    refine ps 3 [(138, vi m), (139, vi (IntKind.wrap .i64 (Int.fdiv (IntKind.wrap .u64 (IntKind.wrap .i64 (a + b))) (2 ^ 1)))), (140, vb (decide (m > (IntKind.wrap .i64 (Int.fdiv (IntKind.wrap .u64 (IntKind.wrap .i64 (a + b))) (2 ^ 1))))))] ?_
    refine WO_nil ?_
    refine ci h (fun h => ?_) fun h => ?_
    ·refine W_regseq ?_
     refine ps 4 [(141, vi (IntKind.wrap .i64 ((IntKind.wrap .i64 (Int.fdiv (IntKind.wrap .u64 (IntKind.wrap .i64 (a + b))) (2 ^ 1))) + m))), (142, vi b), (143, vi (IntKind.wrap .i64 ((IntKind.wrap .i64 ((IntKind.wrap .i64 (Int.fdiv (IntKind.wrap .u64 (IntKind.wrap .i64 (a + b))) (2 ^ 1))) + m)) - b))), (20, vi (IntKind.wrap .i64 ((IntKind.wrap .i64 ((IntKind.wrap .i64 (Int.fdiv (IntKind.wrap .u64 (IntKind.wrap .i64 (a + b))) (2 ^ 1))) + m)) - b)))] ?_
     refine WO_nil ?_
     refine W_reg ?_
     refine ps 2 [(144, vi (IntKind.wrap .i64 (Int.fdiv (IntKind.wrap .u64 (IntKind.wrap .i64 (a + b))) (2 ^ 1)))), (21, vi (IntKind.wrap .i64 (Int.fdiv (IntKind.wrap .u64 (IntKind.wrap .i64 (a + b))) (2 ^ 1))))] ?_
     refine WO_nil ?_
     exact ⟨_, IntKind.wrap .i64 ((IntKind.wrap .i64 ((IntKind.wrap .i64 (Int.fdiv (IntKind.wrap .u64 (IntKind.wrap .i64 (a + b))) (2 ^ 1))) + m)) - b), IntKind.wrap .i64 (Int.fdiv (IntKind.wrap .u64 (IntKind.wrap .i64 (a + b))) (2 ^ 1)), Agree.eq ⟨rfl, rfl, rfl, rfl, rfl, rfl, rfl, rfl, rfl, trivial⟩, h⟩
    ·refine W_regseq ?_
     refine ps 2 [(145, vi a), (20, vi a)] ?_
     refine WO_nil ?_
     refine W_reg ?_
     refine ps 2 [(146, vi m), (21, vi m)] ?_
     refine WO_nil ?_
     exact ⟨_, a, m, Agree.eq ⟨rfl, rfl, rfl, rfl, rfl, rfl, rfl, rfl, rfl, trivial⟩, h⟩
   ·clear h
    rintro _ w15 ⟨e0, v7, v8, rfl, h⟩
    unfold slices_symMergeCmpFunc_Lot.j1 at h
    refine W_regseq ?_
    refine ps 3 [(147, vi (IntKind.wrap .i64 ((IntKind.wrap .i64 (Int.fdiv (IntKind.wrap .u64 (IntKind.wrap .i64 (a + b))) (2 ^ 1))) + m))), (148, vi (IntKind.wrap .i64 ((IntKind.wrap .i64 ((IntKind.wrap .i64 (Int.fdiv (IntKind.wrap .u64 (IntKind.wrap .i64 (a + b))) (2 ^ 1))) + m)) - (1 : Int)))), (22, vi (IntKind.wrap .i64 ((IntKind.wrap .i64 ((IntKind.wrap .i64 (Int.fdiv (IntKind.wrap .u64 (IntKind.wrap .i64 (a + b))) (2 ^ 1))) + m)) - (1 : Int))))] ?_
    refine WO_nil ?_
    refine W_seq ?_
    refine W_block ?_
    obtain ⟨nl5, h⟩ := h
    refine W_loopI (fun k e w16 => ∃ (e0 : Env) (v9 : Int) (v10 : Int), e = upds e0 [(0, vl data_a data_n data_c), (1, vi a), (2, vi m), (3, vi b), (4, cmp), (18, vi (IntKind.wrap .i64 (Int.fdiv (IntKind.wrap .u64 (IntKind.wrap .i64 (a + b))) (2 ^ 1)))), (19, vi (IntKind.wrap .i64 ((IntKind.wrap .i64 (Int.fdiv (IntKind.wrap .u64 (IntKind.wrap .i64 (a + b))) (2 ^ 1))) + m))), (20, vi v9), (21, vi v10), (22, vi (IntKind.wrap .i64 ((IntKind.wrap .i64 ((IntKind.wrap .i64 (Int.fdiv (IntKind.wrap .u64 (IntKind.wrap .i64 (a + b))) (2 ^ 1))) + m)) - (1 : Int))))] ∧ slices_symMergeCmpFunc_Lot.l5 Q data_a data_n data_c a m b cmp k v9 v10 w16) nl5 ?_ ?_ ?_
    ·rintro _ _ ⟨_, _, _, _, h⟩
     exact h
    ·exact ⟨_, v7, v8, Agree.eq ⟨rfl, rfl, rfl, rfl, rfl, rfl, rfl, rfl, rfl, rfl, trivial⟩, h⟩
    ·clear h nl5
     rintro nl5 _ w16 ⟨e0, v9, v10, rfl, h⟩
     unfold slices_symMergeCmpFunc_Lot.l5 at h
     refine W_seq ?_
     refine W_regseq ?_
     refine ps 3 [(149, vi v9), (150, vi v10), (151, vb (decide (v9 < v10)))] ?_
     refine WO_nil ?_
     refine ci h (fun h => ?_) fun h => ?_
     ·refine W_skip ?_
      refine W_block ?_
      refine W_regseq ?_
      refine ps 7 [(152, vi v9), (153, vi v10), (154, vi (IntKind.wrap .i64 (v9 + v10))), (155, .int .u64 (IntKind.wrap .u64 (IntKind.wrap .i64 (v9 + v10)))), (156, .int .u64 (Int.fdiv (IntKind.wrap .u64 (IntKind.wrap .i64 (v9 + v10))) (2 ^ 1))), (157, vi (IntKind.wrap .i64 (Int.fdiv (IntKind.wrap .u64 (IntKind.wrap .i64 (v9 + v10))) (2 ^ 1)))), (23, vi (IntKind.wrap .i64 (Int.fdiv (IntKind.wrap .u64 (IntKind.wrap .i64 (v9 + v10))) (2 ^ 1))))] ?_
      refine WO_nil ?_
      refine drs folM [[], [], [], [], [], [], [], [], [], [], [], [6, 10], [6, 10], [6, 10]] [.p 0, .p 1, .p 2, .p 3, .p 4, .p 5, .l 6, .p 7, .p 8, .p 9, .l 10, .e 11, .p 12, .p 13] h ?_
      intro w17 ew h
      clear ew
      refine psC 5 [(158, cmp), (159, vl data_a data_n data_c), (160, vi (IntKind.wrap .i64 ((IntKind.wrap .i64 ((IntKind.wrap .i64 (Int.fdiv (IntKind.wrap .u64 (IntKind.wrap .i64 (a + b))) (2 ^ 1))) + m)) - (1 : Int)))), (161, vi (IntKind.wrap .i64 (Int.fdiv (IntKind.wrap .u64 (IntKind.wrap .i64 (v9 + v10))) (2 ^ 1)))), (162, vi (IntKind.wrap .i64 ((IntKind.wrap .i64 ((IntKind.wrap .i64 ((IntKind.wrap .i64 (Int.fdiv (IntKind.wrap .u64 (IntKind.wrap .i64 (a + b))) (2 ^ 1))) + m)) - (1 : Int))) - (IntKind.wrap .i64 (Int.fdiv (IntKind.wrap .u64 (IntKind.wrap .i64 (v9 + v10))) (2 ^ 1))))))] ?_
      refine ixC slk46 h fun p13 h => ?_
      obtain ⟨x9, hx9, h⟩ := h
      refine ldnC tk45 hx9 ?_
      refine psC 2 [(165, vl data_a data_n data_c), (166, vi (IntKind.wrap .i64 (Int.fdiv (IntKind.wrap .u64 (IntKind.wrap .i64 (v9 + v10))) (2 ^ 1))))] ?_
      refine ixC slk46 h fun p14 h => ?_
      obtain ⟨x10, hx10, h⟩ := h
      refine ldnC tk45 hx10 ?_
      refine clvC h ?_
      rintro _ w18 ⟨r3, rfl, h⟩
      refine ⟨AllOk.nil, ?_⟩
      refine psC 2 [(170, vb (decide (r3 < (0 : Int)))), (171, vb (!(decide (r3 < (0 : Int)))))] ?_
      refine WC_nil ?_
      refine ci h (fun h => ?_) fun h => ?_
      ·refine W_reg ?_
       refine ps 3 [(172, vi (IntKind.wrap .i64 (Int.fdiv (IntKind.wrap .u64 (IntKind.wrap .i64 (v9 + v10))) (2 ^ 1)))), (173, vi (IntKind.wrap .i64 ((IntKind.wrap .i64 (Int.fdiv (IntKind.wrap .u64 (IntKind.wrap .i64 (v9 + v10))) (2 ^ 1))) + (1 : Int)))), (20, vi (IntKind.wrap .i64 ((IntKind.wrap .i64 (Int.fdiv (IntKind.wrap .u64 (IntKind.wrap .i64 (v9 + v10))) (2 ^ 1))) + (1 : Int))))] ?_
       refine WO_nil ?_
       refine blockK_normal ?_
       exact ⟨_, IntKind.wrap .i64 ((IntKind.wrap .i64 (Int.fdiv (IntKind.wrap .u64 (IntKind.wrap .i64 (v9 + v10))) (2 ^ 1))) + (1 : Int)), v10, Agree.eq ⟨rfl, rfl, rfl, rfl, rfl, rfl, rfl, rfl, rfl, rfl, trivial⟩, h⟩
      ·refine W_reg ?_
       refine ps 2 [(174, vi (IntKind.wrap .i64 (Int.fdiv (IntKind.wrap .u64 (IntKind.wrap .i64 (v9 + v10))) (2 ^ 1)))), (21, vi (IntKind.wrap .i64 (Int.fdiv (IntKind.wrap .u64 (IntKind.wrap .i64 (v9 + v10))) (2 ^ 1))))] ?_
       refine WO_nil ?_
       refine blockK_normal ?_
       exact ⟨_, v9, IntKind.wrap .i64 (Int.fdiv (IntKind.wrap .u64 (IntKind.wrap .i64 (v9 + v10))) (2 ^ 1)), Agree.eq ⟨rfl, rfl, rfl, rfl, rfl, rfl, rfl, rfl, rfl, rfl, trivial⟩, h⟩
     ·refine W_exit ?_
      refine blockK_hit ?_
      refine W_regseq ?_
      refine ps 4 [(175, vi (IntKind.wrap .i64 ((IntKind.wrap .i64 (Int.fdiv (IntKind.wrap .u64 (IntKind.wrap .i64 (a + b))) (2 ^ 1))) + m))), (176, vi v9), (177, vi (IntKind.wrap .i64 ((IntKind.wrap .i64 ((IntKind.wrap .i64 (Int.fdiv (IntKind.wrap .u64 (IntKind.wrap .i64 (a + b))) (2 ^ 1))) + m)) - v9))), (24, vi (IntKind.wrap .i64 ((IntKind.wrap .i64 ((IntKind.wrap .i64 (Int.fdiv (IntKind.wrap .u64 (IntKind.wrap .i64 (a + b))) (2 ^ 1))) + m)) - v9)))] ?_
      refine WO_nil ?_
      refine W_join (fun e w19 => ∃ (e0 : Env), e = upds e0 [(0, vl data_a data_n data_c), (1, vi a), (3, vi b), (4, cmp), (18, vi (IntKind.wrap .i64 (Int.fdiv (IntKind.wrap .u64 (IntKind.wrap .i64 (a + b))) (2 ^ 1)))), (20, vi v9), (24, vi (IntKind.wrap .i64 ((IntKind.wrap .i64 ((IntKind.wrap .i64 (Int.fdiv (IntKind.wrap .u64 (IntKind.wrap .i64 (a + b))) (2 ^ 1))) + m)) - v9)))] ∧ slices_symMergeCmpFunc_Lot.j2 Q data_a data_n data_c a m b cmp v9  w19) ?_ ?_
      ·refine W_regseq ?_
       refine ps 4 [(178, vi v9), (179, vi m), (180, vb (decide (v9 < m))), (181, vb (decide (v9 < m)))] ?_
       refine WO_conv (fun e w_ => ∃ (e0 : Env), e = upds e0 [(0, vl data_a data_n data_c), (1, vi a), (2, vi m), (3, vi b), (4, cmp), (18, vi (IntKind.wrap .i64 (Int.fdiv (IntKind.wrap .u64 (IntKind.wrap .i64 (a + b))) (2 ^ 1)))), (20, vi v9), (24, vi (IntKind.wrap .i64 ((IntKind.wrap .i64 ((IntKind.wrap .i64 (Int.fdiv (IntKind.wrap .u64 (IntKind.wrap .i64 (a + b))) (2 ^ 1))) + m)) - v9))), (185, vb ((decide (v9 < m)) && (decide (m < (IntKind.wrap .i64 ((IntKind.wrap .i64 ((IntKind.wrap .i64 (Int.fdiv (IntKind.wrap .u64 (IntKind.wrap .i64 (a + b))) (2 ^ 1))) + m)) - v9))))))] ∧ w16 = w_) ?_ ?_
       ·clear h
        refine WO_case 181 (b := decide (v9 < m)) rfl (fun hb0 => ?_) (fun hb0 => ?_)
        ·refine ps 4 [(182, vi m), (183, vi (IntKind.wrap .i64 ((IntKind.wrap .i64 ((IntKind.wrap .i64 (Int.fdiv (IntKind.wrap .u64 (IntKind.wrap .i64 (a + b))) (2 ^ 1))) + m)) - v9))), (184, vb (decide (m < (IntKind.wrap .i64 ((IntKind.wrap .i64 ((IntKind.wrap .i64 (Int.fdiv (IntKind.wrap .u64 (IntKind.wrap .i64 (a + b))) (2 ^ 1))) + m)) - v9))))), (185, vb (decide (m < (IntKind.wrap .i64 ((IntKind.wrap .i64 ((IntKind.wrap .i64 (Int.fdiv (IntKind.wrap .u64 (IntKind.wrap .i64 (a + b))) (2 ^ 1))) + m)) - v9)))))] ?_
         exact WO_nil ⟨_, Agree.eq ⟨rfl, rfl, rfl, rfl, rfl, rfl, rfl, rfl, (by first | rfl | (simp only [hb0, Bool.true_and, Bool.false_and, Bool.true_or, Bool.false_or, Bool.and_true, Bool.and_false, Bool.or_true, Bool.or_false]; done) | (simp only [hb0]; rfl) | (simp [hb0]; done)), trivial⟩, rfl⟩
        ·refine ps 4 [(182, undef), (183, undef), (184, undef), (185, vb false)] ?_
         exact WO_nil ⟨_, Agree.eq ⟨rfl, rfl, rfl, rfl, rfl, rfl, rfl, rfl, (by first | rfl | (simp only [hb0, Bool.true_and, Bool.false_and, Bool.true_or, Bool.false_or, Bool.and_true, Bool.and_false, Bool.or_true, Bool.or_false]; done) | (simp only [hb0]; rfl) | (simp [hb0]; done)), trivial⟩, rfl⟩
       ·rintro _ _ ⟨e0, rfl, rfl⟩
        refine ci h (fun h => ?_) fun h => ?_
        ·refine W_reg ?_
         refine ps 5 [(186, vl data_a data_n data_c), (187, vi v9), (188, vi m), (189, vi (IntKind.wrap .i64 ((IntKind.wrap .i64 ((IntKind.wrap .i64 (Int.fdiv (IntKind.wrap .u64 (IntKind.wrap .i64 (a + b))) (2 ^ 1))) + m)) - v9))), (190, cmp)] ?_
         refine cl h ?_
         rintro _ w23 ⟨rfl, h⟩
         refine WO_nil ?_
         exact ⟨_, Agree.eq ⟨rfl, rfl, rfl, rfl, rfl, rfl, rfl, trivial⟩, h⟩
        ·refine W_skip ?_
         exact ⟨_, Agree.eq ⟨rfl, rfl, rfl, rfl, rfl, rfl, rfl, trivial⟩, h⟩
      ·clear h
       rintro _ w19 ⟨e0, rfl, h⟩
       unfold slices_symMergeCmpFunc_Lot.j2 at h
       refine W_join (fun e w20 => ∃ (e0 : Env), e = upds e0 [(0, vl data_a data_n data_c), (3, vi b), (4, cmp), (18, vi (IntKind.wrap .i64 (Int.fdiv (IntKind.wrap .u64 (IntKind.wrap .i64 (a + b))) (2 ^ 1)))), (24, vi (IntKind.wrap .i64 ((IntKind.wrap .i64 ((IntKind.wrap .i64 (Int.fdiv (IntKind.wrap .u64 (IntKind.wrap .i64 (a + b))) (2 ^ 1))) + m)) - v9)))] ∧ slices_symMergeCmpFunc_Lot.j3 Q data_a data_n data_c a m b cmp v9  w20) ?_ ?_
       ·refine W_regseq ?_
        refine ps 4 [(192, vi a), (193, vi v9), (194, vb (decide (a < v9))), (195, vb (decide (a < v9)))] ?_
        refine WO_conv (fun e w_ => ∃ (e0 : Env), e = upds e0 [(0, vl data_a data_n data_c), (1, vi a), (3, vi b), (4, cmp), (18, vi (IntKind.wrap .i64 (Int.fdiv (IntKind.wrap .u64 (IntKind.wrap .i64 (a + b))) (2 ^ 1)))), (20, vi v9), (24, vi (IntKind.wrap .i64 ((IntKind.wrap .i64 ((IntKind.wrap .i64 (Int.fdiv (IntKind.wrap .u64 (IntKind.wrap .i64 (a + b))) (2 ^ 1))) + m)) - v9))), (199, vb ((decide (a < v9)) && (decide (v9 < (IntKind.wrap .i64 (Int.fdiv (IntKind.wrap .u64 (IntKind.wrap .i64 (a + b))) (2 ^ 1)))))))] ∧ w19 = w_) ?_ ?_
        ·clear h
         refine WO_case 195 (b := decide (a < v9)) rfl (fun hb0 => ?_) (fun hb0 => ?_)
         ·refine ps 4 [(196, vi v9), (197, vi (IntKind.wrap .i64 (Int.fdiv (IntKind.wrap .u64 (IntKind.wrap .i64 (a + b))) (2 ^ 1)))), (198, vb (decide (v9 < (IntKind.wrap .i64 (Int.fdiv (IntKind.wrap .u64 (IntKind.wrap .i64 (a + b))) (2 ^ 1)))))), (199, vb (decide (v9 < (IntKind.wrap .i64 (Int.fdiv (IntKind.wrap .u64 (IntKind.wrap .i64 (a + b))) (2 ^ 1))))))] ?_
          exact WO_nil ⟨_, Agree.eq ⟨rfl, rfl, rfl, rfl, rfl, rfl, rfl, (by first | rfl | (simp only [hb0, Bool.true_and, Bool.false_and, Bool.true_or, Bool.false_or, Bool.and_true, Bool.and_false, Bool.or_true, Bool.or_false]; done) | (simp only [hb0]; rfl) | (simp [hb0]; done)), trivial⟩, rfl⟩
         ·refine ps 4 [(196, undef), (197, undef), (198, undef), (199, vb false)] ?_
          exact WO_nil ⟨_, Agree.eq ⟨rfl, rfl, rfl, rfl, rfl, rfl, rfl, (by first | rfl | (simp only [hb0, Bool.true_and, Bool.false_and, Bool.true_or, Bool.false_or, Bool.and_true, Bool.and_false, Bool.or_true, Bool.or_false]; done) | (simp only [hb0]; rfl) | (simp [hb0]; done)), trivial⟩, rfl⟩
        ·rintro _ _ ⟨e0, rfl, rfl⟩
         refine ci h (fun h => ?_) fun h => ?_
         ·refine W_reg ?_
          refine ps 5 [(200, vl data_a data_n data_c), (201, vi a), (202, vi v9), (203, vi (IntKind.wrap .i64 (Int.fdiv (IntKind.wrap .u64 (IntKind.wrap .i64 (a + b))) (2 ^ 1)))), (204, cmp)] ?_
          refine cl h ?_
          rintro _ w22 ⟨rfl, h⟩
          refine WO_nil ?_
          exact ⟨_, Agree.eq ⟨rfl, rfl, rfl, rfl, rfl, trivial⟩, h⟩
         ·refine W_skip ?_
          exact ⟨_, Agree.eq ⟨rfl, rfl, rfl, rfl, rfl, trivial⟩, h⟩
       ·clear h
        rintro _ w20 ⟨e0, rfl, h⟩
        unfold slices_symMergeCmpFunc_Lot.j3 at h
        refine W_regseq ?_
        refine ps 4 [(206, vi (IntKind.wrap .i64 (Int.fdiv (IntKind.wrap .u64 (IntKind.wrap .i64 (a + b))) (2 ^ 1)))), (207, vi (IntKind.wrap .i64 ((IntKind.wrap .i64 ((IntKind.wrap .i64 (Int.fdiv (IntKind.wrap .u64 (IntKind.wrap .i64 (a + b))) (2 ^ 1))) + m)) - v9))), (208, vb (decide ((IntKind.wrap .i64 (Int.fdiv (IntKind.wrap .u64 (IntKind.wrap .i64 (a + b))) (2 ^ 1))) < (IntKind.wrap .i64 ((IntKind.wrap .i64 ((IntKind.wrap .i64 (Int.fdiv (IntKind.wrap .u64 (IntKind.wrap .i64 (a + b))) (2 ^ 1))) + m)) - v9))))), (209, vb (decide ((IntKind.wrap .i64 (Int.fdiv (IntKind.wrap .u64 (IntKind.wrap .i64 (a + b))) (2 ^ 1))) < (IntKind.wrap .i64 ((IntKind.wrap .i64 ((IntKind.wrap .i64 (Int.fdiv (IntKind.wrap .u64 (IntKind.wrap .i64 (a + b))) (2 ^ 1))) + m)) - v9)))))] ?_
        refine WO_conv (fun e w_ => ∃ (e0 : Env), e = upds e0 [(0, vl data_a data_n data_c), (3, vi b), (4, cmp), (18, vi (IntKind.wrap .i64 (Int.fdiv (IntKind.wrap .u64 (IntKind.wrap .i64 (a + b))) (2 ^ 1)))), (24, vi (IntKind.wrap .i64 ((IntKind.wrap .i64 ((IntKind.wrap .i64 (Int.fdiv (IntKind.wrap .u64 (IntKind.wrap .i64 (a + b))) (2 ^ 1))) + m)) - v9))), (213, vb ((decide ((IntKind.wrap .i64 (Int.fdiv (IntKind.wrap .u64 (IntKind.wrap .i64 (a + b))) (2 ^ 1))) < (IntKind.wrap .i64 ((IntKind.wrap .i64 ((IntKind.wrap .i64 (Int.fdiv (IntKind.wrap .u64 (IntKind.wrap .i64 (a + b))) (2 ^ 1))) + m)) - v9)))) && (decide ((IntKind.wrap .i64 ((IntKind.wrap .i64 ((IntKind.wrap .i64 (Int.fdiv (IntKind.wrap .u64 (IntKind.wrap .i64 (a + b))) (2 ^ 1))) + m)) - v9)) < b))))] ∧ w20 = w_) ?_ ?_
        ·clear h
         refine WO_case 209 (b := decide ((IntKind.wrap .i64 (Int.fdiv (IntKind.wrap .u64 (IntKind.wrap .i64 (a + b))) (2 ^ 1))) < (IntKind.wrap .i64 ((IntKind.wrap .i64 ((IntKind.wrap .i64 (Int.fdiv (IntKind.wrap .u64 (IntKind.wrap .i64 (a + b))) (2 ^ 1))) + m)) - v9)))) rfl (fun hb0 => ?_) (fun hb0 => ?_)
         ·refine ps 4 [(210, vi (IntKind.wrap .i64 ((IntKind.wrap .i64 ((IntKind.wrap .i64 (Int.fdiv (IntKind.wrap .u64 (IntKind.wrap .i64 (a + b))) (2 ^ 1))) + m)) - v9))), (211, vi b), (212, vb (decide ((IntKind.wrap .i64 ((IntKind.wrap .i64 ((IntKind.wrap .i64 (Int.fdiv (IntKind.wrap .u64 (IntKind.wrap .i64 (a + b))) (2 ^ 1))) + m)) - v9)) < b))), (213, vb (decide ((IntKind.wrap .i64 ((IntKind.wrap .i64 ((IntKind.wrap .i64 (Int.fdiv (IntKind.wrap .u64 (IntKind.wrap .i64 (a + b))) (2 ^ 1))) + m)) - v9)) < b)))] ?_
          exact WO_nil ⟨_, Agree.eq ⟨rfl, rfl, rfl, rfl, rfl, (by first | rfl | (simp only [hb0, Bool.true_and, Bool.false_and, Bool.true_or, Bool.false_or, Bool.and_true, Bool.and_false, Bool.or_true, Bool.or_false]; done) | (simp only [hb0]; rfl) | (simp [hb0]; done)), trivial⟩, rfl⟩
         ·refine ps 4 [(210, undef), (211, undef), (212, undef), (213, vb false)] ?_
          exact WO_nil ⟨_, Agree.eq ⟨rfl, rfl, rfl, rfl, rfl, (by first | rfl | (simp only [hb0, Bool.true_and, Bool.false_and, Bool.true_or, Bool.false_or, Bool.and_true, Bool.and_false, Bool.or_true, Bool.or_false]; done) | (simp only [hb0]; rfl) | (simp [hb0]; done)), trivial⟩, rfl⟩
        ·rintro _ _ ⟨e0, rfl, rfl⟩
         refine ci h (fun h => ?_) fun h => ?_
         ·refine W_reg ?_
          refine ps 5 [(214, vl data_a data_n data_c), (215, vi (IntKind.wrap .i64 (Int.fdiv (IntKind.wrap .u64 (IntKind.wrap .i64 (a + b))) (2 ^ 1)))), (216, vi (IntKind.wrap .i64 ((IntKind.wrap .i64 ((IntKind.wrap .i64 (Int.fdiv (IntKind.wrap .u64 (IntKind.wrap .i64 (a + b))) (2 ^ 1))) + m)) - v9))), (217, vi b), (218, cmp)] ?_
          refine cl h ?_
          rintro _ w21 ⟨rfl, h⟩
          refine WO_nil ?_
          refine retN ?_
          exact ret0 rfl ⟨rfl, h⟩
         ·refine W_skip ?_
          refine retN ?_
          exact ret0 rfl ⟨rfl, h⟩
def slices_rotateCmpFunc_Lot.l1 (Q : World → Prop) (data_a : Option Addr) (data_n : Nat) (data_c : Nat) (m : Int) (cmp : Value) : Nat → Int → Int → World → Prop
       | 0, _, _, _ => False
       | nl1 + 1, v1, v2, w1 => (
       Ifb (v1 != v2)
      (Ifb (decide (v1 > v2))
      (Cl Pg 220 #[vl data_a data_n data_c, vi (IntKind.wrap .i64 (m - v1)), vi m, vi v2, cmp] w1 (fun v w2 => v = .tuple #[] ∧ (slices_rotateCmpFunc_Lot.l1 Q data_a data_n data_c m cmp nl1) (IntKind.wrap .i64 (v1 - v2)) v2 w2))
      (Cl Pg 220 #[vl data_a data_n data_c, vi (IntKind.wrap .i64 (m - v1)), vi (IntKind.wrap .i64 ((IntKind.wrap .i64 (m + v2)) - v1)), vi v1, cmp] w1 (fun v w3 => v = .tuple #[] ∧ (slices_rotateCmpFunc_Lot.l1 Q data_a data_n data_c m cmp nl1) v1 (IntKind.wrap .i64 (v2 - v1)) w3)))
      (Cl Pg 220 #[vl data_a data_n data_c, vi (IntKind.wrap .i64 (m - v1)), vi m, vi v1, cmp] w1 (fun v w4 => v = .tuple #[] ∧ Q w4)))
def slices_rotateCmpFunc_Lot.R (Q : World → Prop) (data_a : Option Addr) (data_n : Nat) (data_c : Nat) (a : Int) (m : Int) (b : Int) (cmp : Value) (w : World) : Prop := (
  ∃ k, slices_rotateCmpFunc_Lot.l1 Q data_a data_n data_c m cmp k (IntKind.wrap .i64 (m - a)) (IntKind.wrap .i64 (b - m)) w)
theorem slices_rotateCmpFunc_Lot.ok {Q : World → Prop} {data_a : Option Addr} {data_n : Nat} {data_c : Nat} {a : Int} {m : Int} {b : Int} {cmp : Value} {w : World} (h : slices_rotateCmpFunc_Lot.R Q data_a data_n data_c a m b cmp w) : Cl Pg 218 #[vl data_a data_n data_c, vi a, vi m, vi b, cmp] w (fun v w' => v = .tuple #[] ∧ Q w') := by
 refine calls_args (args := [vl data_a data_n data_c, vi a, vi m, vi b, cmp]) Tryz.func218 ?_
 unfold slices_rotateCmpFunc_Lot.R at h
 refine W_regseq ?_
 refine ps 4 [(12, vi m), (13, vi a), (14, vi (IntKind.wrap .i64 (m - a))), (10, vi (IntKind.wrap .i64 (m - a)))] ?_
 refine WO_nil ?_
 refine W_regseq ?_
 refine ps 4 [(15, vi b), (16, vi m), (17, vi (IntKind.wrap .i64 (b - m))), (11, vi (IntKind.wrap .i64 (b - m)))] ?_
 refine WO_nil ?_
 refine W_seq ?_
 refine W_block ?_
 obtain ⟨nl1, h⟩ := h
 refine W_loopI (fun k e w1 => ∃ (e0 : Env) (v1 : Int) (v2 : Int), e = upds e0 [(0, vl data_a data_n data_c), (2, vi m), (4, cmp), (10, vi v1), (11, vi v2)] ∧ slices_rotateCmpFunc_Lot.l1 Q data_a data_n data_c m cmp k v1 v2 w1) nl1 ?_ ?_ ?_
 ·rintro _ _ ⟨_, _, _, _, h⟩
  exact h
 ·exact ⟨_, IntKind.wrap .i64 (m - a), IntKind.wrap .i64 (b - m), Agree.eq ⟨rfl, rfl, rfl, rfl, rfl, trivial⟩, h⟩
 ·clear h nl1
  rintro nl1 _ w1 ⟨e0, v1, v2, rfl, h⟩
  unfold slices_rotateCmpFunc_Lot.l1 at h
  refine W_seq ?_
  refine W_regseq ?_
  refine ps 3 [(18, vi v1), (19, vi v2), (20, vb (v1 != v2))] ?_
  refine WO_nil ?_
  refine ci h (fun h => ?_) fun h => ?_
  ·refine W_skip ?_
   refine W_block ?_
   refine W_regseq ?_
   refine ps 3 [(21, vi v1), (22, vi v2), (23, vb (decide (v1 > v2)))] ?_
   refine WO_nil ?_
   refine ci h (fun h => ?_) fun h => ?_
   ·refine W_regseq ?_
    refine ps 7 [(24, vl data_a data_n data_c), (25, vi m), (26, vi v1), (27, vi (IntKind.wrap .i64 (m - v1))), (28, vi m), (29, vi v2), (30, cmp)] ?_
    refine cl h ?_
    rintro _ w2 ⟨rfl, h⟩
    refine WO_nil ?_
    refine W_reg ?_
    refine ps 4 [(32, vi v1), (33, vi v2), (34, vi (IntKind.wrap .i64 (v1 - v2))), (10, vi (IntKind.wrap .i64 (v1 - v2)))] ?_
    refine WO_nil ?_
    refine blockK_normal ?_
    exact ⟨_, IntKind.wrap .i64 (v1 - v2), v2, Agree.eq ⟨rfl, rfl, rfl, rfl, rfl, trivial⟩, h⟩
   ·refine W_regseq ?_
    refine ps 11 [(35, vl data_a data_n data_c), (36, vi m), (37, vi v1), (38, vi (IntKind.wrap .i64 (m - v1))), (39, vi m), (40, vi v2), (41, vi (IntKind.wrap .i64 (m + v2))), (42, vi v1), (43, vi (IntKind.wrap .i64 ((IntKind.wrap .i64 (m + v2)) - v1))), (44, vi v1), (45, cmp)] ?_
    refine cl h ?_
    rintro _ w3 ⟨rfl, h⟩
    refine WO_nil ?_
    refine W_reg ?_
    refine ps 4 [(47, vi v2), (48, vi v1), (49, vi (IntKind.wrap .i64 (v2 - v1))), (11, vi (IntKind.wrap .i64 (v2 - v1)))] ?_
    refine WO_nil ?_
    refine blockK_normal ?_
    exact ⟨_, v1, IntKind.wrap .i64 (v2 - v1), Agree.eq ⟨rfl, rfl, rfl, rfl, rfl, trivial⟩, h⟩
  ·refine W_exit ?_
   refine blockK_hit ?_
   refine W_reg ?_
   refine ps 7 [(50, vl data_a data_n data_c), (51, vi m), (52, vi v1), (53, vi (IntKind.wrap .i64 (m - v1))), (54, vi m), (55, vi v1), (56, cmp)] ?_
   refine cl h ?_
   rintro _ w4 ⟨rfl, h⟩
   refine WO_nil ?_
   refine retN ?_
   exact ret0 rfl ⟨rfl, h⟩
def slices_swapRangeCmpFunc_Lot.l1 (Q : World → Prop) (data_a : Option Addr) (data_n : Nat) (a : Int) (b : Int) (n : Int) : Nat → Int → World → Prop
       | 0, _, _ => False
       | nl1 + 1, v1, w1 => (
       Ifb (decide (v1 < n))
      (Dr w1 fun w2 =>
      Ix data_a data_n (IntKind.wrap .i64 (b + v1)) fun p1 =>
      LdT TLot.enc w2 (Addr.add p1 ((IntKind.wrap .i64 (b + v1)).toNat * 10)) fun x1 =>
      Ix data_a data_n (IntKind.wrap .i64 (a + v1)) fun p2 =>
      LdT TLot.enc w2 (Addr.add p2 ((IntKind.wrap .i64 (a + v1)).toNat * 10)) fun x2 =>
      Ix data_a data_n (IntKind.wrap .i64 (a + v1)) fun p3 =>
      St w2 (Addr.add p3 ((IntKind.wrap .i64 (a + v1)).toNat * 10)) (TLot.enc x1) fun w3 =>
      Ix data_a data_n (IntKind.wrap .i64 (b + v1)) fun p4 =>
      St w3 (Addr.add p4 ((IntKind.wrap .i64 (b + v1)).toNat * 10)) (TLot.enc x2) fun w4 =>
      (slices_swapRangeCmpFunc_Lot.l1 Q data_a data_n a b n nl1) (IntKind.wrap .i64 (v1 + (1 : Int))) w4)
      (Q w1))
def slices_swapRangeCmpFunc_Lot.R (Q : World → Prop) (data_a : Option Addr) (data_n : Nat) (data_c : Nat) (a : Int) (b : Int) (n : Int) (cmp : Value) (w : World) : Prop := (
  ∃ k, slices_swapRangeCmpFunc_Lot.l1 Q data_a data_n a b n k 0 w)
theorem slices_swapRangeCmpFunc_Lot.ok {Q : World → Prop} {data_a : Option Addr} {data_n : Nat} {data_c : Nat} {a : Int} {b : Int} {n : Int} {cmp : Value} {w : World} (h : slices_swapRangeCmpFunc_Lot.R Q data_a data_n data_c a b n cmp w) : Cl Pg 220 #[vl data_a data_n data_c, vi a, vi b, vi n, cmp] w (fun v w' => v = .tuple #[] ∧ Q w') := by
 refine calls_args (args := [vl data_a data_n data_c, vi a, vi b, vi n, cmp]) Tryz.func220 ?_
 unfold slices_swapRangeCmpFunc_Lot.R at h
 refine W_regseq ?_
 refine ps 1 [(10, vi 0)] ?_
 refine WO_nil ?_
 refine W_block ?_
 obtain ⟨nl1, h⟩ := h
 refine W_loopI (fun k e w1 => ∃ (e0 : Env) (v1 : Int), e = upds e0 [(0, vl data_a data_n data_c), (1, vi a), (2, vi b), (3, vi n), (10, vi v1)] ∧ slices_swapRangeCmpFunc_Lot.l1 Q data_a data_n a b n k v1 w1) nl1 ?_ ?_ ?_
 ·rintro _ _ ⟨_, _, _, h⟩
  exact h
 ·exact ⟨_, 0, Agree.eq ⟨rfl, rfl, rfl, rfl, rfl, trivial⟩, h⟩
 ·clear h nl1
  rintro nl1 _ w1 ⟨e0, v1, rfl, h⟩
  unfold slices_swapRangeCmpFunc_Lot.l1 at h
  refine W_seq ?_
  refine W_regseq ?_
  refine ps 3 [(11, vi v1), (12, vi n), (13, vb (decide (v1 < n)))] ?_
  refine WO_nil ?_
  refine ci h (fun h => ?_) fun h => ?_
  ·refine W_skip ?_
   refine W_seq ?_
   refine W_block ?_
   refine drw folM [[], [], [], [], [], [], [], [], [], [], [], [], [], [], [], [], [], [], [], [], [13, 19], [13, 19], [13, 19], [13, 19]] [.p 0, .p 1, .p 2, .p 3, .p 4, .p 5, .p 6, .p 7, .p 8, .p 9, .p 10, .p 11, .p 12, .l 13, .p 14, .p 15, .p 16, .p 17, .p 18, .l 19, .p 20, .e 21, .p 22, .e 23] h ?_
   intro w2 ew h
   clear ew
   refine psC 12 [(16, vl data_a data_n data_c), (17, vi a), (18, vi v1), (19, vi (IntKind.wrap .i64 (a + v1))), (20, vl data_a data_n data_c), (21, vi b), (22, vi v1), (23, vi (IntKind.wrap .i64 (b + v1))), (24, vl data_a data_n data_c), (25, vi b), (26, vi v1), (27, vi (IntKind.wrap .i64 (b + v1)))] ?_
   refine ixC slk46 h fun p1 h => ?_
   obtain ⟨x1, hx1, h⟩ := h
   refine ldnC tk45 hx1 ?_
   refine psC 4 [(30, vl data_a data_n data_c), (31, vi a), (32, vi v1), (33, vi (IntKind.wrap .i64 (a + v1)))] ?_
   refine ixC slk46 h fun p2 h => ?_
   obtain ⟨x2, hx2, h⟩ := h
   refine ldnC tk45 hx2 ?_
   refine ixC slk46 h fun p3 h => ?_
   refine stC tk45 h ?_
   rintro w3 h
   refine ⟨AllOk.nil, ?_⟩
   refine ixC slk46 h fun p4 h => ?_
   refine stC tk45 h ?_
   rintro w4 h
   refine ⟨AllOk.nil, ?_⟩
   refine WC_nil ?_
   refine blockK_normal ?_
   refine W_reg ?_
   refine ps 3 [(14, vi v1), (15, vi (IntKind.wrap .i64 (v1 + (1 : Int)))), (10, vi (IntKind.wrap .i64 (v1 + (1 : Int))))] ?_
   refine WO_nil ?_
   exact ⟨_, IntKind.wrap .i64 (v1 + (1 : Int)), Agree.eq ⟨rfl, rfl, rfl, rfl, rfl, trivial⟩, h⟩
  ·refine W_exit ?_
   refine blockK_hit ?_
   refine retN ?_
   exact ret0 rfl ⟨rfl, h⟩
end Go.Proofs.YtcbijkakoepglaaGreat
namespace Go.Proofs.YtcbijkakoepglaaGreat
open Go Go.Wx Go.Sort

/-- a row of lots that is sorted. -/
structure Rw (S : Nat → Prop) (w0 : World) (a : Option Addr) (n c : Nat) (w : World) (xs : List TLot) : Prop where
  own : Own 45 10 TLot.enc w a n c xs
  frm : Frm S w0 w

theorem half {i j : Nat} (h : i + j ≤ 4000000000) : IntKind.wrap .i64 (Int.fdiv (IntKind.wrap .u64 (IntKind.wrap .i64 ((i : Int) + (j : Int)))) (2 ^ 1)) = (((i + j) / 2 : Nat) : Int) := by
  have e1 : IntKind.wrap .i64 ((i : Int) + (j : Int)) = ((i + j : Nat) : Int) := by rw [wrap_id (by omega) (by omega)]; omega
  have e2 : IntKind.wrap .u64 ((i + j : Nat) : Int) = ((i + j : Nat) : Int) := by rw [IntKind.wrap_u64]; omega
  rw [e1, e2, Int.fdiv_eq_ediv_of_nonneg _ (by omega), wrap_id (by omega) (by omega)]
  omega

section
variable {S : Nat → Prop} {w0 : World} {f : Value} {a : Option Addr} {n c : Nat} {Q : World → Prop}
theorem Rw.ext {w w' : World} {xs : List TLot} (h : Rw S w0 a n c w xs) (E : Ext w w') : Rw S w0 a n c w' xs := ⟨h.own.ext E, h.frm.ext E⟩
theorem Rw.rd {w : World} {xs : List TLot} (h : Rw S w0 a n c w xs) : Rd TLot.enc 10 w a n xs := h.own.rd encLot
theorem Rw.len {w : World} {xs : List TLot} (h : Rw S w0 a n c w xs) : n = xs.length := h.own.1
/-- an element is read. -/
theorem Rw.ld {w : World} {xs : List TLot} (h : Rw S w0 a n c w xs) {I : Int} {i : Nat} (hi : I = i) {x : TLot} (hx : xs[i]? = some x) {K : Addr → TLot → Prop} (hk : ∀ p, K p x) :
    Ix a n I fun p => LdT TLot.enc w (Addr.add p (I.toNat * 10)) (K p) := by
  subst hi
  have hl := (List.getElem?_eq_some_iff.1 hx).1
  refine h.rd.ix (by omega) (by have := h.len; omega) fun a0 y ha hy hc => ⟨y, hc, ?_⟩
  rw [Int.toNat_natCast, hx] at hy
  cases hy
  exact hk _
/-- two elements change places. -/
theorem swap_c (hS : ∀ k, obk a c = some k → S k) {w : World} {xs : List TLot} {I J : Int} {i j : Nat} (hi : I = i) (hj : J = j) {x y : TLot} (hx : xs[i]? = some x) (hy : xs[j]? = some y) (ho : Rw S w0 a n c w xs) {K : World → Prop}
    (hk : ∀ w', Rw S w0 a n c w' ((xs.set j x).set i y) → K w') :
    Dr w fun w2 => Ix a n I fun p1 => LdT TLot.enc w2 (Addr.add p1 (I.toNat * 10)) fun x1 => Ix a n J fun p2 => LdT TLot.enc w2 (Addr.add p2 (J.toNat * 10)) fun x2 =>
      Ix a n J fun p3 => St w2 (Addr.add p3 (J.toNat * 10)) (TLot.enc x1) fun w3 => Ix a n I fun p4 => St w3 (Addr.add p4 (I.toNat * 10)) (TLot.enc x2) fun w4 => K w4 := by
  subst hi; subst hj
  have hl := (List.getElem?_eq_some_iff.1 hx).1
  have hl' := (List.getElem?_eq_some_iff.1 hy).1
  have hn := ho.len
  refine dr fun w2 E => ?_
  have h2 := ho.ext E
  refine h2.ld rfl hx fun p1 => h2.ld rfl hy fun p2 => ?_
  simp only [Int.toNat_natCast]
  refine h2.rd.ix (by omega) (by omega) fun p3 y' hp3 hy' _ => ?_
  refine st_own0 encLot h2.own x hy hp3 fun w3 o3 F3 => ?_
  refine (o3.rd encLot).ix (by omega) (by omega) fun p4 z hp4 hz _ => ?_
  rw [Int.toNat_natCast] at hz
  refine st_own0 encLot o3 y hz hp4 fun w4 o4 F4 => hk _ ⟨o4, (h2.frm.trans F3 fun k _ hk => hS k hk).trans F4 fun k _ hk => hS k hk⟩

theorem swapRange_c (hS : ∀ k, obk a c = some k → S k) (hn : n ≤ 1000000000) {pa pb pm : Int} {P A B C T : List TLot} (e1 : pa = (P.length : Nat)) (e2 : pb = (P.length + A.length + B.length : Nat)) (e3 : pm = (A.length : Nat)) (e4 : C.length = A.length) {w : World}
    (ho : Rw S w0 a n c w (P ++ A ++ B ++ C ++ T)) (hQ : ∀ w', Rw S w0 a n c w' (P ++ C ++ B ++ A ++ T) → Q w') : Cl Pg 220 #[vl a n c, vi pa, vi pb, vi pm, f] w (fun v w' => v = .tuple #[] ∧ Q w') := by
  subst e1; subst e2; subst e3
  refine slices_swapRangeCmpFunc_Lot.ok ⟨A.length + 1, ?_⟩
  have hlen := ho.len
  simp only [List.length_append] at hlen
  have key : ∀ (A2 C2 A1 C1 : List TLot) (w : World), A1 ++ A2 = A → C1 ++ C2 = C → A1.length = C1.length → A2.length = C2.length → Rw S w0 a n c w (P ++ (C1 ++ A2) ++ B ++ (A1 ++ C2) ++ T) →
      slices_swapRangeCmpFunc_Lot.l1 Q a n (P.length : Nat) (P.length + A.length + B.length : Nat) (A.length : Nat) (A2.length + 1) (A1.length : Nat) w := by
    intro A2
    induction A2 with
    | nil =>
      intro C2 A1 C1 w hA hC h1 h2 hoi
      obtain rfl : C2 = [] := List.eq_nil_of_length_eq_zero h2.symm
      simp only [List.append_nil] at hA hC hoi
      subst hA; subst hC
      unfold slices_swapRangeCmpFunc_Lot.l1
      exact ifb_df (by omega) (hQ _ hoi)
    | cons x A2 ih =>
      intro C2 A1 C1 w hA hC h1 h2 ho
      cases C2 with
      | nil => simp at h2
      | cons y C2 =>
        have hAl : A1.length + 1 + A2.length = A.length := by rw [← hA]; simp; omega
        unfold slices_swapRangeCmpFunc_Lot.l1
        refine ifb_dt (by omega) ?_
        have hI : IntKind.wrap .i64 (((P.length + A.length + B.length : Nat) : Int) + ((A1.length : Nat) : Int)) = ((P.length + A.length + B.length + A1.length : Nat) : Int) := by rw [wrap_id (by omega) (by omega)]; omega
        have hJ : IntKind.wrap .i64 (((P.length : Nat) : Int) + ((A1.length : Nat) : Int)) = ((P.length + A1.length : Nat) : Int) := by rw [wrap_id (by omega) (by omega)]; omega
        have e : P ++ (C1 ++ x :: A2) ++ B ++ (A1 ++ y :: C2) ++ T = (P ++ C1) ++ x :: ((A2 ++ B ++ A1) ++ y :: (C2 ++ T)) := by simp
        rw [e] at ho
        refine swap_c hS hI hJ (get_hi (by simp; omega)) (get_mid (by simp; omega)) ho fun w' ho' => ?_
        rw [sw_lo (by simp; omega) (by simp; omega)] at ho'
        have e' : (P ++ C1) ++ y :: ((A2 ++ B ++ A1) ++ x :: (C2 ++ T)) = P ++ ((C1 ++ [y]) ++ A2) ++ B ++ ((A1 ++ [x]) ++ C2) ++ T := by simp
        rw [e'] at ho'
        have hw : IntKind.wrap .i64 (((A1.length : Nat) : Int) + 1) = (((A1 ++ [x]).length : Nat) : Int) := by rw [wrap_id (by omega) (by omega)]; simp
        rw [hw]
        exact ih C2 (A1 ++ [x]) (C1 ++ [y]) w' (by simpa using hA) (by simpa using hC) (by simp [h1]) (by simpa using h2) ho'
  exact key A C [] [] w rfl rfl rfl e4.symm (by simpa using ho)

theorem rotate_c (hS : ∀ k, obk a c = some k → S k) (hn : n ≤ 1000000000) {pa pm pb : Int} {P X Y T : List TLot} (e1 : pa = (P.length : Nat)) (e2 : pm = (P.length + X.length : Nat)) (e3 : pb = (P.length + X.length + Y.length : Nat)) (hX : X ≠ []) (hY : Y ≠ []) {w : World}
    (ho : Rw S w0 a n c w (P ++ X ++ Y ++ T)) (hQ : ∀ w', Rw S w0 a n c w' (P ++ Y ++ X ++ T) → Q w') : Cl Pg 218 #[vl a n c, vi pa, vi pm, vi pb, f] w (fun v w' => v = .tuple #[] ∧ Q w') := by
  refine slices_rotateCmpFunc_Lot.ok ?_
  unfold slices_rotateCmpFunc_Lot.R
  have hlen := ho.len
  simp only [List.length_append] at hlen
  have i1 : IntKind.wrap .i64 (pm - pa) = (X.length : Nat) := by rw [wrap_id (by omega) (by omega)]; omega
  have i2 : IntKind.wrap .i64 (pb - pm) = (Y.length : Nat) := by rw [wrap_id (by omega) (by omega)]; omega
  rw [i1, i2]
  clear e1 e3 i1 i2
  have key : ∀ (s : Nat) (P X Y T : List TLot) (w : World), X.length + Y.length ≤ s → X ≠ [] → Y ≠ [] → pm = (P.length + X.length : Nat) → Rw S w0 a n c w (P ++ X ++ Y ++ T) → (∀ w', Rw S w0 a n c w' (P ++ Y ++ X ++ T) → Q w') →
      slices_rotateCmpFunc_Lot.l1 Q a n c pm f (s + 1) (X.length : Nat) (Y.length : Nat) w := by
    intro s
    induction s with
    | zero =>
      intro P X Y T w hs hX _ _ _ _
      exact absurd (List.eq_nil_of_length_eq_zero (by omega)) hX
    | succ s ih =>
      intro P X Y T w hs hX hY hm ho hQ
      have hX0 : 0 < X.length := List.length_pos_iff.2 hX
      have hY0 : 0 < Y.length := List.length_pos_iff.2 hY
      have hlen := ho.len
      simp only [List.length_append] at hlen
      have j1 : IntKind.wrap .i64 (pm - ((X.length : Nat) : Int)) = (P.length : Nat) := by rw [wrap_id (by omega) (by omega)]; omega
      unfold slices_rotateCmpFunc_Lot.l1
      rw [j1]
      refine ifb ?_
      split
      · rename_i hne
        have hne : X.length ≠ Y.length := by simp at hne; omega
        refine ifb ?_
        split
        · rename_i hgt
          have hgt : Y.length < X.length := by have := of_decide_eq_true hgt; omega
          obtain ⟨X1, X2, rfl, hl⟩ : ∃ X1 X2, X = X1 ++ X2 ∧ X1.length = Y.length := ⟨X.take Y.length, X.drop Y.length, by simp, by simp; omega⟩
          simp only [List.length_append] at *
          have e : P ++ (X1 ++ X2) ++ Y ++ T = P ++ X1 ++ X2 ++ Y ++ T := by simp
          rw [e] at ho
          refine swapRange_c hS hn (P := P) (A := X1) (B := X2) (C := Y) (T := T) rfl (by omega) (by omega) (by omega) ho fun w2 ho2 => ?_
          have j2 : IntKind.wrap .i64 (((X1.length + X2.length : Nat) : Int) - ((Y.length : Nat) : Int)) = (X2.length : Nat) := by rw [wrap_id (by omega) (by omega)]; omega
          rw [j2]
          have e' : P ++ Y ++ X2 ++ X1 ++ T = (P ++ Y) ++ X2 ++ X1 ++ T := by simp
          rw [e'] at ho2
          have hX2 : X2 ≠ [] := List.length_pos_iff.1 (by omega)
          have hX1 : X1 ≠ [] := List.length_pos_iff.1 (by omega)
          rw [← hl]
          refine ih (P ++ Y) X2 X1 T w2 (by omega) hX2 hX1 (by simp; omega) ho2 fun w' ho' => hQ _ ?_
          simpa using ho'
        · rename_i hgt
          have hgt : X.length < Y.length := by simp at hgt; omega
          obtain ⟨Y1, Y2, rfl, hl⟩ : ∃ Y1 Y2, Y = Y1 ++ Y2 ∧ Y2.length = X.length := ⟨Y.take (Y.length - X.length), Y.drop (Y.length - X.length), by simp, by simp; omega⟩
          simp only [List.length_append] at *
          have e : P ++ X ++ (Y1 ++ Y2) ++ T = P ++ X ++ Y1 ++ Y2 ++ T := by simp
          rw [e] at ho
          have j3 : IntKind.wrap .i64 (IntKind.wrap .i64 (pm + ((Y1.length + Y2.length : Nat) : Int)) - ((X.length : Nat) : Int)) = (P.length + X.length + Y1.length : Nat) := by
            rw [wrap_id (x := pm + _) (by omega) (by omega), wrap_id (by omega) (by omega)]; omega
          rw [j3]
          refine swapRange_c hS hn (P := P) (A := X) (B := Y1) (C := Y2) (T := T) rfl rfl rfl hl ho fun w2 ho2 => ?_
          have j2 : IntKind.wrap .i64 (((Y1.length + Y2.length : Nat) : Int) - ((X.length : Nat) : Int)) = (Y1.length : Nat) := by rw [wrap_id (by omega) (by omega)]; omega
          rw [j2]
          have e' : P ++ Y2 ++ Y1 ++ X ++ T = P ++ Y2 ++ Y1 ++ (X ++ T) := by simp
          rw [e'] at ho2
          have hY2 : Y2 ≠ [] := List.length_pos_iff.1 (by omega)
          have hY1 : Y1 ≠ [] := List.length_pos_iff.1 (by omega)
          rw [← hl]
          refine ih P Y2 Y1 (X ++ T) w2 (by omega) hY2 hY1 (by omega) ho2 fun w' ho' => hQ _ ?_
          simpa using ho'
      · rename_i hne
        have hne : X.length = Y.length := by simp at hne; omega
        have e : P ++ X ++ Y ++ T = P ++ X ++ [] ++ Y ++ T := by simp
        rw [e] at ho
        refine swapRange_c hS hn (P := P) (A := X) (B := []) (C := Y) (T := T) rfl (by simpa using hm) rfl hne.symm ho fun w2 ho2 => hQ _ ?_
        simpa using ho2
  exact ⟨_, key (X.length + Y.length) P X Y T w (Nat.le_refl _) hX hY e2 ho hQ⟩

/-- one of the left row into the right one. -/
theorem merge_left (hf : Cmps f TLot.enc cfLot S w0) (hS : ∀ k, obk a c = some k → S k) (hn : n ≤ 1000000000) {P B T : List TLot} {x : TLot} {w : World} (hB : Asc ltLot B) (hk : Tot ltLot (x :: B)) (ho : Rw S w0 a n c w (P ++ x :: (B ++ T)))
    (hQ : ∀ w', Rw S w0 a n c w' (P ++ isort ltLot (x :: B) ++ T) → Q w') : ∃ k, slices_symMergeCmpFunc_Lot.l1 Q a n (P.length : Nat) f k (P.length + 1 : Nat) (P.length + 1 + B.length : Nat) w := by
  have hlen := ho.len
  simp only [List.length_append, List.length_cons] at hlen
  refine ⟨B.length + 1, ?_⟩
  have key : ∀ (s i j : Nat) (w : World), j - i ≤ s → i ≤ j → j ≤ B.length → (∀ y, i ≠ 0 → B[i - 1]? = some y → ltLot y x = true) → (∀ y, B[j]? = some y → ltLot y x = false) → Rw S w0 a n c w (P ++ x :: (B ++ T)) →
      slices_symMergeCmpFunc_Lot.l1 Q a n (P.length : Nat) f (s + 1) (P.length + 1 + i : Nat) (P.length + 1 + j : Nat) w := by
    intro s
    induction s with
    | zero =>
      intro i j w hs hij hjB h1 h2 ho
      obtain rfl : i = j := by omega
      unfold slices_symMergeCmpFunc_Lot.l1
      refine ifb_df (by omega) ⟨i + 1, ?_⟩
      obtain ⟨B1, B2, rfl, hl⟩ : ∃ B1 B2, B = B1 ++ B2 ∧ B1.length = i := ⟨B.take i, B.drop i, by simp, by simp; omega⟩
      have hfin : B1 ++ x :: B2 = isort ltLot (x :: (B1 ++ B2)) := by
        refine ins_mid swoLot hB (fun y hy => ?_) (fun y hy => ?_) hk
        · obtain ⟨B', rfl⟩ := List.getLast?_eq_some_iff.1 hy
          simp at hl
          exact swoLot.asymmA (h1 y (by omega) (by rw [List.append_assoc]; exact get_mid (by omega)))
        · obtain ⟨B', rfl⟩ := List.head?_eq_some_iff.1 hy
          exact h2 y (get_mid hl.symm)
      rw [← hfin] at hQ
      have key2 : ∀ (B1b B1a : List TLot) (w : World), B1a ++ B1b = B1 → Rw S w0 a n c w (P ++ B1a ++ x :: (B1b ++ B2 ++ T)) → slices_symMergeCmpFunc_Lot.l2 Q a n (P.length + 1 + i : Nat) (B1b.length + 1) (P.length + B1a.length : Nat) w := by
        intro B1b
        induction B1b with
        | nil =>
          intro B1a w hB1 hoi
          simp only [List.append_nil] at hB1
          subst hB1
          unfold slices_symMergeCmpFunc_Lot.l2
          refine ifb_df ?_ (hQ _ (by simpa using hoi))
          rw [wrap_id (by omega) (by omega)]; omega
        | cons y B1b ih =>
          intro B1a w hB1 ho
          have hl1 : B1a.length + 1 + B1b.length = i := by rw [← hl, ← hB1]; simp; omega
          unfold slices_symMergeCmpFunc_Lot.l2
          refine ifb_dt (by rw [wrap_id (by omega) (by omega)]; omega) ?_
          have hw : IntKind.wrap .i64 (((P.length + B1a.length : Nat) : Int) + 1) = ((P.length + B1a.length + 1 : Nat) : Int) := by rw [wrap_id (by omega) (by omega)]; omega
          have e : P ++ B1a ++ x :: ((y :: B1b) ++ B2 ++ T) = (P ++ B1a) ++ x :: ([] ++ y :: (B1b ++ B2 ++ T)) := by simp
          rw [e] at ho
          refine swap_c hS hw rfl (get_hi (by simp)) (get_mid (by simp)) ho fun w' ho' => ?_
          rw [sw_lo (by simp) (by simp)] at ho'
          have e' : (P ++ B1a) ++ y :: ([] ++ x :: (B1b ++ B2 ++ T)) = P ++ (B1a ++ [y]) ++ x :: (B1b ++ B2 ++ T) := by simp
          rw [e'] at ho'
          rw [hw]
          have := ih (B1a ++ [y]) w' (by simpa using hB1) ho'
          rw [List.length_append, List.length_singleton, ← Nat.add_assoc] at this
          exact this
      have := key2 B1 [] w rfl (by simpa using ho)
      simpa [hl] using this
    | succ s ih =>
      intro i j w hs hij hjB h1 h2 ho
      by_cases hlt : i < j
      · unfold slices_symMergeCmpFunc_Lot.l1
        refine ifb_dt (by omega) (dr fun w2 E => ?_)
        have ho2 := ho.ext E
        rw [half (by omega)]
        have hm : (P.length + 1 + i + (P.length + 1 + j)) / 2 = P.length + 1 + (i + j) / 2 := by omega
        rw [hm]
        generalize hc : (i + j) / 2 = m
        have hmj : m < j := by omega
        have him : i ≤ m := by omega
        obtain ⟨y, hy⟩ : ∃ y, B[m]? = some y := ⟨_, List.getElem?_eq_getElem (by omega)⟩
        have hy' : (P ++ x :: (B ++ T))[P.length + 1 + m]? = some y := by
          rw [List.getElem?_append_right (by omega), show P.length + 1 + m - P.length = m + 1 by omega, List.getElem?_cons_succ, List.getElem?_append_left (by omega)]
          exact hy
        refine ho2.ld rfl hy' fun p1 => ho2.ld rfl (get_mid rfl) fun p2 => ?_
        refine hf y x w2 ho2.frm _ fun w3 E3 => ?_
        have ho3 := ho2.ext E3
        have hlt' : decide (cfLot y x < 0) = ltLot y x := rfl
        rw [hlt']
        refine ifb ?_
        have hw : IntKind.wrap .i64 (((P.length + 1 + m : Nat) : Int) + 1) = ((P.length + 1 + (m + 1) : Nat) : Int) := by rw [wrap_id (by omega) (by omega)]; omega
        rw [hw]
        split
        · rename_i hb
          exact ih (m + 1) j w3 (by omega) (by omega) hjB (fun z _ hz => by rw [Nat.add_sub_cancel, hy] at hz; cases hz; exact hb) h2 ho3
        · rename_i hb
          exact ih i m w3 (by omega) him (by omega) h1 (fun z hz => by rw [hy] at hz; cases hz; simpa using hb) ho3
      · have := ih i j w (by omega) hij hjB h1 h2 ho
        obtain rfl : i = j := by omega
        unfold slices_symMergeCmpFunc_Lot.l1 at this ⊢
        exact ifb_df (by omega) (this.2 (by simp))
  have := key B.length 0 B.length w (by omega) (by omega) (Nat.le_refl _) (fun y h => absurd rfl h) (fun y hy => by rw [List.getElem?_eq_none (Nat.le_refl _)] at hy; cases hy) ho
  simpa using this

/-- one of the right row into the left one. -/
theorem merge_right (hf : Cmps f TLot.enc cfLot S w0) (hS : ∀ k, obk a c = some k → S k) (hn : n ≤ 1000000000) {P A T : List TLot} {x : TLot} {w : World} (hA : Asc ltLot A) (hk : Tot ltLot (x :: A)) (ho : Rw S w0 a n c w (P ++ A ++ x :: T))
    (hQ : ∀ w', Rw S w0 a n c w' (P ++ isort ltLot (x :: A) ++ T) → Q w') : ∃ k, slices_symMergeCmpFunc_Lot.l3 Q a n (P.length + A.length : Nat) f k (P.length : Nat) (P.length + A.length : Nat) w := by
  have hlen := ho.len
  simp only [List.length_append, List.length_cons] at hlen
  refine ⟨A.length + 1, ?_⟩
  have key : ∀ (s i j : Nat) (w : World), j - i ≤ s → i ≤ j → j ≤ A.length → (∀ y, i ≠ 0 → A[i - 1]? = some y → ltLot x y = false) → (∀ y, A[j]? = some y → ltLot x y = true) → Rw S w0 a n c w (P ++ A ++ x :: T) →
      slices_symMergeCmpFunc_Lot.l3 Q a n (P.length + A.length : Nat) f (s + 1) (P.length + i : Nat) (P.length + j : Nat) w := by
    intro s
    induction s with
    | zero =>
      intro i j w hs hij hjB h1 h2 ho
      obtain rfl : i = j := by omega
      unfold slices_symMergeCmpFunc_Lot.l3
      obtain ⟨A1, A2, rfl, hl⟩ : ∃ A1 A2, A = A1 ++ A2 ∧ A1.length = i := ⟨A.take i, A.drop i, by simp, by simp; omega⟩
      refine ifb_df (by omega) ⟨A2.length + 1, ?_⟩
      have hfin : A1 ++ x :: A2 = isort ltLot (x :: (A1 ++ A2)) := by
        refine ins_mid swoLot hA (fun y hy => ?_) (fun y hy => ?_) hk
        · obtain ⟨B', rfl⟩ := List.getLast?_eq_some_iff.1 hy
          simp at hl
          exact h1 y (by omega) (by rw [List.append_assoc]; exact get_mid (by omega))
        · obtain ⟨B', rfl⟩ := List.head?_eq_some_iff.1 hy
          exact swoLot.asymmA (h2 y (get_mid hl.symm))
      rw [← hfin] at hQ
      have key2 : ∀ (r : Nat) (A2a A2b : List TLot) (w : World), A2a.length = r → A2a ++ A2b = A2 → Rw S w0 a n c w (P ++ A1 ++ A2a ++ x :: (A2b ++ T)) → slices_symMergeCmpFunc_Lot.l4 Q a n (P.length + i : Nat) (r + 1) (P.length + i + r : Nat) w := by
        intro r
        induction r with
        | zero =>
          intro A2a A2b w hr hA2 hoi
          obtain rfl := List.eq_nil_of_length_eq_zero hr
          simp only [List.nil_append] at hA2
          subst hA2
          unfold slices_symMergeCmpFunc_Lot.l4
          exact ifb_df (by omega) (hQ _ (by simpa using hoi))
        | succ r ih =>
          intro A2a A2b w hr hA2 ho
          obtain ⟨A2', y, rfl⟩ : ∃ A2' y, A2a = A2' ++ [y] := by
            rcases List.eq_nil_or_concat A2a with h | ⟨l, y, h⟩
            · subst h; simp at hr
            · exact ⟨l, y, by simpa using h⟩
          have hr' : A2'.length = r := by simpa using hr
          have hll : A2'.length + 1 + A2b.length = A2.length := by rw [← hA2]; simp; omega
          simp only [List.length_append] at hlen
          unfold slices_symMergeCmpFunc_Lot.l4
          refine ifb_dt (by omega) ?_
          have hw : IntKind.wrap .i64 (((P.length + i + (r + 1) : Nat) : Int) - 1) = ((P.length + i + r : Nat) : Int) := by rw [wrap_id (by omega) (by omega)]; omega
          have e : P ++ A1 ++ (A2' ++ [y]) ++ x :: (A2b ++ T) = (P ++ A1 ++ A2') ++ y :: ([] ++ x :: (A2b ++ T)) := by simp
          rw [e] at ho
          refine swap_c hS hw rfl (get_mid (by simp; omega)) (get_hi (by simp; omega)) ho fun w' ho' => ?_
          rw [sw_hi (by simp; omega) (by simp; omega)] at ho'
          have e' : (P ++ A1 ++ A2') ++ x :: ([] ++ y :: (A2b ++ T)) = P ++ A1 ++ A2' ++ x :: ((y :: A2b) ++ T) := by simp
          rw [e'] at ho'
          rw [hw]
          exact ih A2' (y :: A2b) w' hr' (by simpa using hA2) ho'
      have := key2 A2.length A2 [] w rfl (by simp) (by simpa using ho)
      rw [List.length_append, ← Nat.add_assoc, hl]
      exact this
    | succ s ih =>
      intro i j w hs hij hjB h1 h2 ho
      by_cases hlt : i < j
      · unfold slices_symMergeCmpFunc_Lot.l3
        refine ifb_dt (by omega) (dr fun w2 E => ?_)
        have ho2 := ho.ext E
        rw [half (by omega)]
        have hm : (P.length + i + (P.length + j)) / 2 = P.length + (i + j) / 2 := by omega
        rw [hm]
        generalize hc : (i + j) / 2 = m
        have hmj : m < j := by omega
        have him : i ≤ m := by omega
        obtain ⟨y, hy⟩ : ∃ y, A[m]? = some y := ⟨_, List.getElem?_eq_getElem (by omega)⟩
        have hy' : (P ++ A ++ x :: T)[P.length + m]? = some y := by
          rw [List.append_assoc, List.getElem?_append_right (by omega), show P.length + m - P.length = m by omega, List.getElem?_append_left (by omega)]
          exact hy
        refine ho2.ld rfl (get_mid (by simp)) fun p1 => ho2.ld rfl hy' fun p2 => ?_
        refine hf x y w2 ho2.frm _ fun w3 E3 => ?_
        have ho3 := ho2.ext E3
        have hlt' : decide (cfLot x y < 0) = ltLot x y := rfl
        rw [hlt']
        refine ifb ?_
        have hw : IntKind.wrap .i64 (((P.length + m : Nat) : Int) + 1) = ((P.length + (m + 1) : Nat) : Int) := by rw [wrap_id (by omega) (by omega)]; omega
        rw [hw]
        split
        · rename_i hb
          exact ih (m + 1) j w3 (by omega) (by omega) hjB (fun z _ hz => by rw [Nat.add_sub_cancel, hy] at hz; cases hz; simpa using hb) h2 ho3
        · rename_i hb
          exact ih i m w3 (by omega) him (by omega) h1 (fun z hz => by rw [hy] at hz; cases hz; simpa using hb) ho3
      · have := ih i j w (by omega) hij hjB h1 h2 ho
        obtain rfl : i = j := by omega
        unfold slices_symMergeCmpFunc_Lot.l3 at this ⊢
        exact ifb_df (by omega) (this.2 (by simp))
  have := key A.length 0 A.length w (by omega) (by omega) (Nat.le_refl _) (fun y h => absurd rfl h) (fun y hy => by rw [List.getElem?_eq_none (Nat.le_refl _)] at hy; cases hy) ho
  simpa using this
end
end Go.Proofs.YtcbijkakoepglaaGreat
namespace Go.Proofs.YtcbijkakoepglaaGreat
open Go Go.Wx Go.Sort
section
variable {S : Nat → Prop} {w0 : World} {f : Value} {a : Option Addr} {n c : Nat}

theorem split_at {α : Type} (l : List α) (i : Nat) (h : i ≤ l.length) : ∃ l1 l2, l = l1 ++ l2 ∧ l1.length = i := ⟨l.take i, l.drop i, by simp, by simp; omega⟩

theorem symMerge_c (hf : Cmps f TLot.enc cfLot S w0) (hS : ∀ k, obk a c = some k → S k) (hn : n ≤ 1000000000) : ∀ (s : Nat) {P A B T : List TLot} {pa pm pb : Int} {w : World} {Q : World → Prop}, A.length + B.length ≤ s → A ≠ [] → B ≠ [] → Asc ltLot A → Asc ltLot B → Tot ltLot (A ++ B) →
    pa = (P.length : Nat) → pm = (P.length + A.length : Nat) → pb = (P.length + A.length + B.length : Nat) → Rw S w0 a n c w (P ++ A ++ B ++ T) → (∀ w', Rw S w0 a n c w' (P ++ isort ltLot (A ++ B) ++ T) → Q w') →
    Cl Pg 213 #[vl a n c, vi pa, vi pm, vi pb, f] w (fun v w' => v = .tuple #[] ∧ Q w') := by
  intro s
  induction s with
  | zero => intro P A B T pa pm pb w Q hs hA; exact absurd (List.eq_nil_of_length_eq_zero (by omega)) hA
  | succ s ih =>
    intro P A B T pa pm pb w Q hs hA hB aA aB hk e1 e2 e3 ho hQ
    have hA0 : 0 < A.length := List.length_pos_iff.2 hA
    have hB0 : 0 < B.length := List.length_pos_iff.2 hB
    have hlen := ho.len
    simp only [List.length_append] at hlen
    refine slices_symMergeCmpFunc_Lot.ok ?_
    unfold slices_symMergeCmpFunc_Lot.R
    have i1 : IntKind.wrap .i64 (pm - pa) = (A.length : Nat) := by rw [wrap_id (by omega) (by omega)]; omega
    have i2 : IntKind.wrap .i64 (pb - pm) = (B.length : Nat) := by rw [wrap_id (by omega) (by omega)]; omega
    rw [i1, i2]
    subst e1; subst e2; subst e3
    refine ifb ?_
    split
    · rename_i h1
      have h1 : A.length = 1 := by simp at h1; omega
      obtain ⟨x, rfl⟩ := List.length_eq_one_iff.1 h1
      have e : P ++ [x] ++ B ++ T = P ++ x :: (B ++ T) := by simp
      rw [e] at ho
      exact merge_left hf hS hn aB (by simpa using hk) ho fun w' ho' => hQ _ (by simpa using ho')
    refine ifb ?_
    split
    · rename_i h1
      have h1 : B.length = 1 := by simp at h1; omega
      obtain ⟨x, rfl⟩ := List.length_eq_one_iff.1 h1
      have e : P ++ A ++ [x] ++ T = P ++ A ++ x :: T := by simp
      rw [e] at ho
      refine merge_right hf hS hn aA (hk.sub fun y hy => by simp at hy ⊢; exact hy.symm) ho fun w' ho' => hQ _ ?_
      rw [show isort ltLot (x :: A) = isort ltLot (A ++ [x]) from isort_eq swoLot hk (List.perm_append_comm (l₁ := [x]) (l₂ := A))] at ho'
      exact ho'
    have hmid := half (i := P.length) (j := P.length + A.length + B.length) (by omega)
    generalize hM : (P.length + (P.length + A.length + B.length)) / 2 = M at hmid
    -- what follows the search
    have fin : ∀ (w' : World) (A1 A2 B1 B2 : List TLot), A = A1 ++ A2 → B = B1 ++ B2 → P.length + A1.length + B1.length = M → (∀ x y, A1.getLast? = some x → B2.head? = some y → ltLot y x = false) → (∀ x y, B1.getLast? = some x → A2.head? = some y → ltLot y x = false) → Rw S w0 a n c w' (P ++ A1 ++ B1 ++ A2 ++ B2 ++ T) →
        slices_symMergeCmpFunc_Lot.j2 Q a n c (P.length : Nat) (P.length + A.length : Nat) (P.length + A.length + B.length : Nat) f (P.length + A1.length : Nat) w' := by
      intro w' A1 A2 B1 B2 eA eB hm h1 h2 ho'
      subst eA; subst eB
      have hsplit := merge_split swoLot aA aB hk h1 h2
      rw [hsplit] at hQ
      simp only [List.length_append] at *
      have hend : IntKind.wrap .i64 (IntKind.wrap .i64 (((M : Nat) : Int) + ((P.length + (A1.length + A2.length) : Nat) : Int)) - ((P.length + A1.length : Nat) : Int)) = ((M + A2.length : Nat) : Int) := by
        rw [wrap_id (x := ((M : Nat) : Int) + _) (by omega) (by omega), wrap_id (by omega) (by omega)]; omega
      obtain ⟨a1, a2, _⟩ := List.pairwise_append.1 aA
      obtain ⟨b1, b2, _⟩ := List.pairwise_append.1 aB
      have hk1 : Tot ltLot (A1 ++ B1) := hk.sub fun x hx => by simp at hx ⊢; rcases hx with h | h <;> simp [h]
      have hk2 : Tot ltLot (A2 ++ B2) := hk.sub fun x hx => by simp at hx ⊢; rcases hx with h | h <;> simp [h]
      have j3 : ∀ w2, Rw S w0 a n c w2 ((P ++ isort ltLot (A1 ++ B1)) ++ A2 ++ B2 ++ T) → slices_symMergeCmpFunc_Lot.j3 Q a n c (P.length : Nat) (P.length + (A1.length + A2.length) : Nat) (P.length + (A1.length + A2.length) + (B1.length + B2.length) : Nat) f (P.length + A1.length : Nat) w2 := by
        intro w2 ho2
        unfold slices_symMergeCmpFunc_Lot.j3
        rw [hmid, hend]
        have hpl : (P ++ isort ltLot (A1 ++ B1)).length = M := by rw [List.length_append, (isort_perm _).length_eq, List.length_append]; omega
        refine ifb ?_
        split
        · rename_i hc
          have hc : 0 < A2.length ∧ 0 < B2.length := by simp at hc; omega
          refine ih (P := P ++ isort ltLot (A1 ++ B1)) (A := A2) (B := B2) (T := T) (by omega) (List.length_pos_iff.1 hc.1) (List.length_pos_iff.1 hc.2) a2 b2 hk2 (by omega) (by omega) (by omega) ho2 fun w3 ho3 => hQ _ ?_
          simpa using ho3
        · rename_i hc
          have hc : A2.length = 0 ∨ B2.length = 0 := by simp at hc; omega
          have : isort ltLot (A2 ++ B2) = A2 ++ B2 := by
            rcases hc with hc | hc
            · obtain rfl := List.eq_nil_of_length_eq_zero hc; exact isort_of_asc swoLot hk2 b2
            · obtain rfl := List.eq_nil_of_length_eq_zero hc; rw [List.append_nil]; exact isort_of_asc swoLot (by simpa using hk2) a2
          rw [this] at hQ
          exact hQ _ (by simpa using ho2)
      unfold slices_symMergeCmpFunc_Lot.j2
      rw [hmid]
      refine ifb ?_
      split
      · rename_i hc
        have hc : 0 < A1.length ∧ 0 < B1.length := by simp at hc; omega
        have e : P ++ A1 ++ B1 ++ A2 ++ B2 ++ T = P ++ A1 ++ B1 ++ (A2 ++ B2 ++ T) := by simp
        rw [e] at ho'
        refine ih (P := P) (A := A1) (B := B1) (T := A2 ++ B2 ++ T) (by omega) (List.length_pos_iff.1 hc.1) (List.length_pos_iff.1 hc.2) a1 b1 hk1 rfl rfl (by omega) ho' fun w3 ho3 => j3 _ ?_
        simpa using ho3
      · rename_i hc
        have hc : A1.length = 0 ∨ B1.length = 0 := by simp at hc; omega
        refine j3 _ ?_
        have : isort ltLot (A1 ++ B1) = A1 ++ B1 := by
          rcases hc with hc | hc
          · obtain rfl := List.eq_nil_of_length_eq_zero hc; exact isort_of_asc swoLot hk1 b1
          · obtain rfl := List.eq_nil_of_length_eq_zero hc; rw [List.append_nil]; exact isort_of_asc swoLot (by simpa using hk1) a1
        rw [this]
        simpa using ho'
    -- the search: i is in the left row, i + j is M + the length of the left row
    have srch : ∀ (r i j : Nat) (w' : World), j - i ≤ r → i ≤ j → j ≤ A.length → P.length + j ≤ M → M ≤ P.length + i + B.length →
        (∀ x y, i ≠ 0 → A[i - 1]? = some x → B[M - P.length - i]? = some y → ltLot y x = false) → (j ≠ A.length → P.length + j ≠ M → ∀ x y, A[j]? = some x → B[M - P.length - j - 1]? = some y → ltLot y x = true) → Rw S w0 a n c w' (P ++ A ++ B ++ T) →
        slices_symMergeCmpFunc_Lot.l5 Q a n c (P.length : Nat) (P.length + A.length : Nat) (P.length + A.length + B.length : Nat) f (r + 1) (P.length + i : Nat) (P.length + j : Nat) w' := by
      intro r
      induction r with
      | zero =>
        intro i j w' hr hij hjA hjM hiM h1 h2 ho'
        obtain rfl : i = j := by omega
        unfold slices_symMergeCmpFunc_Lot.l5
        refine ifb_df (by omega) ?_
        obtain ⟨A1, A2, hA', hl⟩ := split_at A i hjA
        obtain ⟨B1, B2, hB', hl'⟩ := split_at B (M - P.length - i) (by omega)
        have hla : A.length = A1.length + A2.length := by rw [hA']; simp
        have hlb : B.length = B1.length + B2.length := by rw [hB']; simp
        have g1 : ∀ x y, A1.getLast? = some x → B2.head? = some y → ltLot y x = false := by
          intro x y hx hy
          obtain ⟨A1', rfl⟩ := List.getLast?_eq_some_iff.1 hx
          obtain ⟨B2', rfl⟩ := List.head?_eq_some_iff.1 hy
          simp at hl
          refine h1 x y (by omega) ?_ ?_
          · rw [hA', List.append_assoc]; exact get_mid (by omega)
          · rw [hB']; exact get_mid hl'.symm
        have g2 : ∀ x y, B1.getLast? = some x → A2.head? = some y → ltLot y x = false := by
          intro x y hx hy
          obtain ⟨B1', rfl⟩ := List.getLast?_eq_some_iff.1 hx
          obtain ⟨A2', rfl⟩ := List.head?_eq_some_iff.1 hy
          simp at hl' hla
          refine swoLot.asymmA (h2 (by omega) (by omega) y x ?_ ?_)
          · rw [hA']; exact get_mid hl.symm
          · rw [hB', List.append_assoc]; exact get_mid (by omega)
        rw [hmid]
        have hend : IntKind.wrap .i64 (IntKind.wrap .i64 (((M : Nat) : Int) + ((P.length + A.length : Nat) : Int)) - ((P.length + i : Nat) : Int)) = ((P.length + A.length + B1.length : Nat) : Int) := by
          rw [wrap_id (x := ((M : Nat) : Int) + _) (by omega) (by omega), wrap_id (by omega) (by omega)]; omega
        rw [hend, ← hl]
        have hm : P.length + A1.length + B1.length = M := by omega
        refine ifb ?_
        split
        · rename_i hc
          have hc : 0 < A2.length ∧ 0 < B1.length := by simp at hc; omega
          have e : P ++ A ++ B ++ T = (P ++ A1) ++ A2 ++ B1 ++ (B2 ++ T) := by rw [hA', hB']; simp
          rw [e] at ho'
          refine rotate_c hS hn (P := P ++ A1) (X := A2) (Y := B1) (T := B2 ++ T) (by simp) (by simp; omega) (by simp; omega) (List.length_pos_iff.1 hc.1) (List.length_pos_iff.1 hc.2) ho' fun w2 ho2 => fin w2 A1 A2 B1 B2 hA' hB' hm g1 g2 ?_
          simpa using ho2
        · rename_i hc
          have hc : A2.length = 0 ∨ B1.length = 0 := by simp at hc; omega
          refine fin w' A1 A2 B1 B2 hA' hB' hm g1 g2 ?_
          have e : P ++ A ++ B ++ T = P ++ A1 ++ B1 ++ A2 ++ B2 ++ T := by
            rw [hA', hB']
            rcases hc with hc | hc <;> obtain rfl := List.eq_nil_of_length_eq_zero hc <;> simp
          rw [← e]; exact ho'
      | succ r ih2 =>
        intro i j w' hr hij hjA hjM hiM h1 h2 ho'
        by_cases hlt : i < j
        · unfold slices_symMergeCmpFunc_Lot.l5
          refine ifb_dt (by omega) (dr fun w2 E => ?_)
          have ho2 := ho'.ext E
          rw [hmid, half (i := P.length + i) (j := P.length + j) (by omega)]
          have hm : (P.length + i + (P.length + j)) / 2 = P.length + (i + j) / 2 := by omega
          rw [hm]
          generalize hc : (i + j) / 2 = m
          have hmj : m < j := by omega
          have him : i ≤ m := by omega
          have hp : IntKind.wrap .i64 (IntKind.wrap .i64 (IntKind.wrap .i64 (((M : Nat) : Int) + ((P.length + A.length : Nat) : Int)) - 1) - ((P.length + m : Nat) : Int)) = ((P.length + A.length + (M - P.length - m - 1) : Nat) : Int) := by
            rw [wrap_id (x := ((M : Nat) : Int) + _) (by omega) (by omega), wrap_id (x := ((M : Nat) : Int) + _ - 1) (by omega) (by omega), wrap_id (by omega) (by omega)]; omega
          obtain ⟨x, hx⟩ : ∃ x, A[m]? = some x := ⟨_, List.getElem?_eq_getElem (by omega)⟩
          obtain ⟨y, hy⟩ : ∃ y, B[M - P.length - m - 1]? = some y := ⟨_, List.getElem?_eq_getElem (by omega)⟩
          have hx' : (P ++ A ++ B ++ T)[P.length + m]? = some x := by
            rw [List.append_assoc, List.append_assoc, List.getElem?_append_right (by omega), show P.length + m - P.length = m by omega, List.getElem?_append_left (by omega)]
            exact hx
          have hy' : (P ++ A ++ B ++ T)[P.length + A.length + (M - P.length - m - 1)]? = some y := by
            rw [List.append_assoc, List.getElem?_append_right (by simp), List.length_append, show P.length + A.length + (M - P.length - m - 1) - (P.length + A.length) = M - P.length - m - 1 by omega, List.getElem?_append_left (by omega)]
            exact hy
          refine ho2.ld hp hy' fun p1 => ho2.ld rfl hx' fun p2 => ?_
          refine hf y x w2 ho2.frm _ fun w3 E3 => ?_
          have ho3 := ho2.ext E3
          have hlt' : decide (cfLot y x < 0) = ltLot y x := rfl
          rw [hlt']
          refine ifb ?_
          have hw : IntKind.wrap .i64 (((P.length + m : Nat) : Int) + 1) = ((P.length + (m + 1) : Nat) : Int) := by rw [wrap_id (by omega) (by omega)]; omega
          rw [hw]
          split
          · rename_i hb
            refine ih2 (m + 1) j w3 (by omega) (by omega) hjA hjM (by omega) (fun u z _ hu hz => ?_) h2 ho3
            rw [Nat.add_sub_cancel, hx] at hu
            rw [show M - P.length - (m + 1) = M - P.length - m - 1 by omega, hy] at hz
            cases hu; cases hz
            simpa using hb
          · rename_i hb
            refine ih2 i m w3 (by omega) him (by omega) (by omega) hiM h1 (fun _ _ u z hu hz => ?_) ho3
            rw [hx] at hu; rw [hy] at hz
            cases hu; cases hz
            simpa using hb
        · have := ih2 i j w' (by omega) hij hjA hjM hiM h1 h2 ho'
          obtain rfl : i = j := by omega
          unfold slices_symMergeCmpFunc_Lot.l5 at this ⊢
          exact ifb_df (by omega) (this.2 (by simp))
    rw [hmid]
    refine ifb ?_
    split
    · rename_i hm
      have hm : M < P.length + A.length := by simp at hm; omega
      have hs0 : IntKind.wrap .i64 (IntKind.wrap .i64 (((M : Nat) : Int) + ((P.length + A.length : Nat) : Int)) - ((P.length + A.length + B.length : Nat) : Int)) = ((P.length + (M - P.length - B.length) : Nat) : Int) := by
        rw [wrap_id (x := ((M : Nat) : Int) + _) (by omega) (by omega), wrap_id (by omega) (by omega)]; omega
      rw [hs0]
      have hM' : (M : Int) = ((P.length + (M - P.length) : Nat) : Int) := by omega
      rw [hM']
      unfold slices_symMergeCmpFunc_Lot.j1
      refine ⟨_, srch (M - P.length) (M - P.length - B.length) (M - P.length) w (by omega) (by omega) (by omega) (by omega) (by omega) (fun x y _ _ hy => ?_) (fun _ h => absurd (by omega) h) ho⟩
      rw [List.getElem?_eq_none (by omega)] at hy
      cases hy
    · rename_i hm
      have hm : P.length + A.length ≤ M := by simp at hm; omega
      unfold slices_symMergeCmpFunc_Lot.j1
      refine ⟨_, by have := srch A.length 0 A.length w (by omega) (by omega) (by omega) (by omega) (by omega) (fun x y h => absurd rfl h) (fun h => absurd rfl h) ho; simpa using this⟩

/-- slices.SortStableFunc over lots. -/
theorem stable_c (hf : Cmps f TLot.enc cfLot S w0) (hS : ∀ k, obk a c = some k → S k) (hn : n ≤ 100000000) {xs : List TLot} {w : World} (ho : Own 45 10 TLot.enc w a n c xs) (F : Frm S w0 w)
    (hx : ∀ x ∈ xs, ∀ y ∈ xs, x.Id = y.Id → x = y) {Q : World → Prop}
    (hQ : ∀ w', Own 45 10 TLot.enc w' a n c (isort ltLot xs) → Frm S w0 w' → Q w') : Cl Pg 177 #[vl a n c, f] w (fun v w' => v = .tuple #[] ∧ Q w') := by
  have hk : Tot ltLot xs := fun x h1 y h2 h3 h4 => hx x h1 y h2 (by rw [ltLot_false] at h3 h4; omega)
  have totP : ∀ {ys zs : List TLot}, ys.Perm xs → (∀ x ∈ zs, x ∈ ys) → Tot ltLot zs := fun hp hs => hk.sub fun x hx => hp.mem_iff.1 (hs x hx)
  refine slices_SortStableFunc_Lot.ok (slices_stableCmpFunc_Lot.ok ?_)
  -- merging blocks
  have l2 : ∀ (k sz : Nat) (ys : List TLot) (w : World), n ≤ sz + k → 0 < sz → Chunked ltLot sz ys → ys.Perm xs → Rw S w0 a n c w ys → slices_stableCmpFunc_Lot.l2 Q a n c (n : Nat) f (k + 1) (sz : Nat) w := by
    intro k
    induction k with
    | zero =>
      intro sz ys w hk' h0 hc hp hr
      unfold slices_stableCmpFunc_Lot.l2
      refine ifb_df (by omega) (hQ w ?_ hr.frm)
      rw [← isort_unique swoLot hp (hc.asc (by have := hr.len; omega)) hk]
      exact hr.own
    | succ k ih =>
      intro sz ys w hk' h0 hc hp hr
      unfold slices_stableCmpFunc_Lot.l2
      refine ifb ?_
      split
      · rename_i hlt
        have hlt : sz < n := by have := of_decide_eq_true hlt; omega
        refine ⟨n + 1, ?_⟩
        have hw2 : IntKind.wrap .i64 ((2 : Int) * ((sz : Nat) : Int)) = ((2 * sz : Nat) : Int) := by rw [wrap_id (by omega) (by omega)]; omega
        have hw2' : IntKind.wrap .i64 (((sz : Nat) : Int) * (2 : Int)) = ((2 * sz : Nat) : Int) := by rw [wrap_id (by omega) (by omega)]; omega
        rw [hw2]
        have l3 : ∀ (q : Nat) (P R : List TLot) (w : World), n ≤ P.length + q → Full ltLot (2 * sz) P → Chunked ltLot sz R → (P ++ R).Perm xs → Rw S w0 a n c w (P ++ R) →
            slices_stableCmpFunc_Lot.l3 Q a n c (n : Nat) f (sz : Nat) (slices_stableCmpFunc_Lot.l2 Q a n c (n : Nat) f (k + 1)) (q + 1) (P.length : Nat) (P.length + 2 * sz : Nat) w := by
          intro q
          induction q with
          | zero =>
            intro P R w hq hP hR hp hr
            have hl := hr.len
            simp only [List.length_append] at hl
            obtain rfl : R = [] := List.eq_nil_of_length_eq_zero (by omega)
            unfold slices_stableCmpFunc_Lot.l3
            refine ifb_df (by omega) ?_
            rw [wrap_id (x := ((P.length : Nat) : Int) + _) (by omega) (by omega)]
            refine ifb_df (by omega) ?_
            rw [hw2']
            exact ih (2 * sz) (P ++ []) w (by omega) (by omega) (hP.app (.last (by simp) (by simp [Asc]))) hp hr
          | succ q ih3 =>
            intro P R w hq hP hR hp hr
            have hl := hr.len
            simp only [List.length_append] at hl
            unfold slices_stableCmpFunc_Lot.l3
            have hps : IntKind.wrap .i64 (((P.length : Nat) : Int) + ((sz : Nat) : Int)) = ((P.length + sz : Nat) : Int) := by rw [wrap_id (by omega) (by omega)]; omega
            rw [hps, hw2, hw2']
            refine ifb ?_
            split
            · rename_i hle
              have hle : P.length + 2 * sz ≤ n := by have := of_decide_eq_true hle; omega
              obtain ⟨A, B, T, rfl, lA, lB, aA, aB, hT⟩ := hR.two h0 (by omega)
              have hp' : (P ++ isort ltLot (A ++ B) ++ T).Perm xs := by
                refine List.Perm.trans ?_ hp
                rw [List.append_assoc]
                exact List.Perm.append_left P (List.Perm.append_right T (isort_perm _))
              have e : P ++ (A ++ B ++ T) = P ++ A ++ B ++ T := by simp
              rw [e] at hr
              have hAB : (A ++ B).length = 2 * sz := by simp; omega
              refine symMerge_c hf hS (by omega) _ (Nat.le_refl _) (List.length_pos_iff.1 (by omega)) (List.length_pos_iff.1 (by omega)) aA aB (totP hp fun x hx => by simp at hx ⊢; rcases hx with h | h <;> simp [h]) rfl (by omega) (by omega) hr fun w2 hr2 => ?_
              have hw3 : IntKind.wrap .i64 (((P.length + 2 * sz : Nat) : Int) + ((2 * sz : Nat) : Int)) = (((P ++ isort ltLot (A ++ B)).length + 2 * sz : Nat) : Int) := by
                rw [List.length_append, (isort_perm _).length_eq, hAB, wrap_id (by omega) (by omega)]; omega
              have hw4 : ((P.length + 2 * sz : Nat) : Int) = (((P ++ isort ltLot (A ++ B)).length : Nat) : Int) := by
                rw [List.length_append, (isort_perm _).length_eq, hAB]
              rw [hw3, hw4]
              refine ih3 (P ++ isort ltLot (A ++ B)) T w2 ?_ (.snoc hP (by rw [(isort_perm _).length_eq, hAB]) (isort_asc swoLot _)) hT hp' hr2
              rw [List.length_append, (isort_perm _).length_eq, hAB]; omega
            · rename_i hle
              have hle : n < P.length + 2 * sz := by simp at hle; omega
              refine ifb ?_
              split
              · rename_i hlt2
                have hlt2 : P.length + sz < n := by have := of_decide_eq_true hlt2; omega
                obtain ⟨A, T, rfl, lA, aA, hT⟩ := hR.one (by omega)
                simp only [List.length_append] at hl
                have aT := hT.asc (by omega)
                have hp' : (P ++ isort ltLot (A ++ T)).Perm xs := (List.Perm.append_left P (isort_perm _)).trans hp
                have e : P ++ (A ++ T) = P ++ A ++ T ++ [] := by simp
                rw [e] at hr
                refine symMerge_c hf hS (by omega) _ (Nat.le_refl _) (List.length_pos_iff.1 (by omega)) (List.length_pos_iff.1 (by omega)) aA aT (totP hp fun x hx => by simp at hx ⊢; rcases hx with h | h <;> simp [h]) rfl (by omega) (by omega) hr fun w2 hr2 => ?_
                rw [List.append_nil] at hr2
                refine ih (2 * sz) _ w2 (by omega) (by omega) (hP.app (.last ?_ (isort_asc swoLot _))) hp' hr2
                rw [(isort_perm _).length_eq]; simp; omega
              · rename_i hlt2
                have hlt2 : n ≤ P.length + sz := by simp at hlt2; omega
                exact ih (2 * sz) _ w (by omega) (by omega) (hP.app (.last (by omega) (hR.asc (by omega)))) hp hr
        have := l3 n [] ys w (by simp) .nil hc (by simpa using hp) (by simpa using hr)
        simpa using this
      · rename_i hlt
        have hlt : n ≤ sz := by simp at hlt; omega
        refine hQ w ?_ hr.frm
        rw [← isort_unique swoLot hp (hc.asc (by have := hr.len; omega)) hk]
        exact hr.own
  -- sorting blocks of 20
  have l1 : ∀ (k : Nat) (P R : List TLot) (w : World), n ≤ P.length + k → Full ltLot 20 P → (P ++ R).Perm xs → Rw S w0 a n c w (P ++ R) → slices_stableCmpFunc_Lot.l1 Q a n c (n : Nat) f (k + 1) (P.length : Nat) (P.length + 20 : Nat) w := by
    have last : ∀ (k : Nat) (P R : List TLot) (w : World), n < P.length + 20 → Full ltLot 20 P → (P ++ R).Perm xs → Rw S w0 a n c w (P ++ R) → slices_stableCmpFunc_Lot.l1 Q a n c (n : Nat) f (k + 1) (P.length : Nat) (P.length + 20 : Nat) w := by
      intro k P R w hlt hP hp hr
      have hl := hr.len
      simp only [List.length_append] at hl
      unfold slices_stableCmpFunc_Lot.l1
      refine ifb_df (by omega) ?_
      have ho' : Own 45 10 TLot.enc w a n c (P ++ R).toArray.toList := hr.own
      refine ins_c (lo := P.length) (hi := n) hf hS (by omega) (by omega) (by omega) ho' hr.frm fun w2 o2 F2 => ⟨n + 1, ?_⟩
      have tR : Tot ltLot R := totP hp fun x hx => by simp [hx]
      rw [ins_list swoLot (P := P) (A := R) (T := []) tR (by simp) rfl hl, List.append_nil] at o2
      refine l2 n 20 _ w2 (by omega) (by omega) (hP.app (.last ?_ (isort_asc swoLot _))) ((List.Perm.append_left P (isort_perm _)).trans hp) ⟨o2, F2⟩
      rw [(isort_perm _).length_eq]; omega
    intro k
    induction k with
    | zero => intro P R w hk' hP hp hr; exact last 0 P R w (by omega) hP hp hr
    | succ k ih =>
      intro P R w hk' hP hp hr
      by_cases hlt : n < P.length + 20
      · exact last (k + 1) P R w hlt hP hp hr
      · have hl := hr.len
        simp only [List.length_append] at hl
        unfold slices_stableCmpFunc_Lot.l1
        refine ifb_dt (by omega) ?_
        obtain ⟨A, T, rfl, lA⟩ := split_at R 20 (by omega)
        have ho' : Own 45 10 TLot.enc w a n c (P ++ (A ++ T)).toArray.toList := hr.own
        refine ins_c (lo := P.length) (hi := P.length + 20) hf hS (by omega) (by omega) (by omega) ho' hr.frm fun w2 o2 F2 => ?_
        have tA : Tot ltLot A := totP hp fun x hx => by simp [hx]
        rw [ins_list swoLot (P := P) (A := A) (T := T) tA (by simp) rfl (by omega)] at o2
        have hAl : (isort ltLot A).length = 20 := by rw [(isort_perm _).length_eq]; exact lA
        have hw3 : IntKind.wrap .i64 (((P.length + 20 : Nat) : Int) + 20) = (((P ++ isort ltLot A).length + 20 : Nat) : Int) := by
          rw [List.length_append, hAl, wrap_id (by omega) (by omega)]; omega
        have hw4 : ((P.length + 20 : Nat) : Int) = (((P ++ isort ltLot A).length : Nat) : Int) := by rw [List.length_append, hAl]
        rw [hw3, hw4]
        refine ih (P ++ isort ltLot A) T w2 (by rw [List.length_append, hAl]; omega) (.snoc hP hAl (isort_asc swoLot _)) ?_ ⟨o2, F2⟩
        refine List.Perm.trans ?_ hp
        rw [List.append_assoc]
        exact List.Perm.append_left P (List.Perm.append_right T (isort_perm _))
  have := l1 n [] xs w (by simp) .nil (by simp) ⟨by simpa using ho, F⟩
  exact ⟨_, by simpa using this⟩
end
end Go.Proofs.YtcbijkakoepglaaGreat
namespace Go.Proofs.YtcbijkakoepglaaGreat
open Go Go.Wx
set_option maxRecDepth 100000
def drawers_state_due.l1 (Q : Option Addr → Nat → Nat → World → Prop) (day : Int) (x1_a : Option Addr) (x1_n : Nat) : Nat → Option Addr → Nat → Nat → Int → World → Prop
       | 0, _, _, _, _, _ => False
       | nl1 + 1, v1_a, v1_n, v1_c, v2, w1 => (
       Ifb (decide (v2 < ((x1_n : Nat) : Int)))
      (Ix x1_a x1_n v2 fun p2 =>
      LdT TLot.enc w1 (Addr.add p2 (v2.toNat * 10)) fun x2 =>
      Al w1 (.cells #[vi 0, vi 0, vi 0, vi 0, vi 0, vs (ByteArray.mk #[]), vi 0, vi 0, vu 0, vi 0] 45) fun b1 w2 =>
      Sb w2 b1 (.cells #[vi x2.Id, vi x2.Thing, vi x2.Layer, vi x2.Day, vi x2.Due, vs x2.Unit, vi x2.N, vi x2.Left, vu x2.State, vi x2.Bag] 45 (0, 0)) fun w3 =>
      Ifb ((x2.State == (1 : Int)) && (decide (x2.Due ≤ day)))
      (Al w3 (.cells #[vi x2.Id, vi x2.Thing, vi x2.Layer, vi x2.Day, vi x2.Due, vs x2.Unit, vi x2.N, vi x2.Left, vu x2.State, vi x2.Bag] 45) fun b2 w4 =>
      Ap Pg w4 #[46, 46] 46 (vl v1_a v1_n v1_c) (vl (some ⟨b2, 0, none⟩) 1 1) fun a1_a a1_n a1_c w5 =>
      (drawers_state_due.l1 Q day x1_a x1_n nl1) a1_a a1_n a1_c (IntKind.wrap .i64 (v2 + (1 : Int))) w5)
      ((drawers_state_due.l1 Q day x1_a x1_n nl1) v1_a v1_n v1_c (IntKind.wrap .i64 (v2 + (1 : Int))) w3))
      (Cl Pg 137 #[vl v1_a v1_n v1_c, .func (.func 138) #[] #[]] w1 (fun v w6 => ∃ (r1_a : Option Addr), ∃ (r1_n : Nat), ∃ (r1_c : Nat), v = vl r1_a r1_n r1_c ∧ Q r1_a r1_n r1_c w6)))
def drawers_state_due.R (Q : Option Addr → Nat → Nat → World → Prop) (s : Option Addr) (day : Int) (w : World) : Prop := (
  NN s fun p1 =>
      LdSl w (Addr.add p1 3) fun x1_a x1_n x1_c =>
      ∃ k, drawers_state_due.l1 Q day x1_a x1_n k none 0 0 0 w)
theorem drawers_state_due.ok {Q : Option Addr → Nat → Nat → World → Prop} {s : Option Addr} {day : Int} {w : World} (h : drawers_state_due.R Q s day w) : Cl Pg 75 #[vP s, vi day] w (fun v w' => ∃ (r0a : Option Addr), ∃ (r0n : Nat), ∃ (r0c : Nat), v = vl r0a r0n r0c ∧ Q r0a r0n r0c w') := by
 refine calls_args (args := [vP s, vi day]) Tryz.func75 ?_
 unfold drawers_state_due.R at h
 refine W_regseq ?_
 refine ps 1 [(4, vl none 0 0)] ?_
 refine WO_nil ?_
 refine W_regseq ?_
 refine ps 1 [(5, vl none 0 0)] ?_
 refine WO_nil ?_
 refine W_seq ?_
 refine W_regseq ?_
 refine ps 1 [(8, vP s)] ?_
 refine nn h fun p1 h => ?_
 refine ps 1 [(10, vp (Addr.add p1 3))] ?_
 obtain ⟨x1_a, x1_n, x1_c, hx1, h⟩ := h
 refine ld1 tk46 hx1 ?_
 refine ps 2 [(12, vi (x1_n : Nat)), (13, vi 0)] ?_
 refine WO_nil ?_
 refine W_block ?_
 obtain ⟨nl1, h⟩ := h
 refine W_loopI (fun k e w1 => ∃ (e0 : Env) (v1_a : Option Addr) (v1_n : Nat) (v1_c : Nat) (v2 : Int), e = upds e0 [(1, vi day), (5, vl v1_a v1_n v1_c), (11, vl x1_a x1_n x1_c), (12, vi (x1_n : Nat)), (13, vi v2)] ∧ drawers_state_due.l1 Q day x1_a x1_n k v1_a v1_n v1_c v2 w1) nl1 ?_ ?_ ?_
 ·rintro _ _ ⟨_, _, _, _, _, _, h⟩
  exact h
 ·exact ⟨_, none, 0, 0, 0, Agree.eq ⟨rfl, rfl, rfl, rfl, rfl, trivial⟩, h⟩
 ·clear h nl1
  rintro nl1 _ w1 ⟨e0, v1_a, v1_n, v1_c, v2, rfl, h⟩
  unfold drawers_state_due.l1 at h
  refine W_regseq ?_
  refine ps 1 [(14, vb (decide (v2 < ((x1_n : Nat) : Int))))] ?_
  refine WO_nil ?_
  refine W_seq ?_
  refine ci h (fun h => ?_) fun h => ?_
  ·refine W_skip ?_
   refine W_seq ?_
   refine W_block ?_
   refine W_regseq ?_
   refine ix slk46 h fun p2 h => ?_
   obtain ⟨x2, hx2, h⟩ := h
   refine ldn tk45 hx2 ?_
   refine alp h ?_
   intro b1 w2 eb ew hb_b1 h
   clear eb ew
   refine sb tk45 hb_b1 h ?_
   intro w3 ew hb_ h
   replace hb_b1 := hb_
   clear ew
   refine WO_nil ?_
   refine W_regseq ?_
   refine ps 1 [(17, vp ⟨b1, 8, none⟩)] ?_
   refine lb1 tk5 hb_b1 ?_
   refine ps 2 [(19, vb (x2.State == (1 : Int))), (20, vb (x2.State == (1 : Int)))] ?_
   refine WO_conv (fun e w_ => ∃ (e0 : Env), e = upds e0 [(1, vi day), (5, vl v1_a v1_n v1_c), (7, vp ⟨b1, 0, none⟩), (11, vl x1_a x1_n x1_c), (12, vi (x1_n : Nat)), (13, vi v2), (25, vb ((x2.State == (1 : Int)) && (decide (x2.Due ≤ day))))] ∧ w3 = w_) ?_ ?_
   ·clear h
    refine WO_case 20 (b := (x2.State == (1 : Int))) rfl (fun hb0 => ?_) (fun hb0 => ?_)
    ·refine ps 1 [(21, vp ⟨b1, 4, none⟩)] ?_
     refine lb1 tk3 hb_b1 ?_
     refine ps 3 [(23, vi day), (24, vb (decide (x2.Due ≤ day))), (25, vb (decide (x2.Due ≤ day)))] ?_
     exact WO_nil ⟨_, Agree.eq ⟨rfl, rfl, rfl, rfl, rfl, rfl, (by first | rfl | (simp only [hb0, Bool.true_and, Bool.false_and, Bool.true_or, Bool.false_or, Bool.and_true, Bool.and_false, Bool.or_true, Bool.or_false]; done) | (simp only [hb0]; rfl) | (simp [hb0]; done)), trivial⟩, rfl⟩
    ·refine ps 5 [(21, undef), (22, undef), (23, undef), (24, undef), (25, vb false)] ?_
     exact WO_nil ⟨_, Agree.eq ⟨rfl, rfl, rfl, rfl, rfl, rfl, (by first | rfl | (simp only [hb0, Bool.true_and, Bool.false_and, Bool.true_or, Bool.false_or, Bool.and_true, Bool.and_false, Bool.or_true, Bool.or_false]; done) | (simp only [hb0]; rfl) | (simp [hb0]; done)), trivial⟩, rfl⟩
   ·rintro _ _ ⟨e0, rfl, rfl⟩
    refine ci h (fun h => ?_) fun h => ?_
    ·refine W_reg ?_
     refine ps 1 [(26, vl v1_a v1_n v1_c)] ?_
     refine lbn [vi x2.Id, vi x2.Thing, vi x2.Layer, vi x2.Day, vi x2.Due, vs x2.Unit, vi x2.N, vi x2.Left, vu x2.State, vi x2.Bag] tk45 hb_b1 ?_
     refine als 1 h ?_
     intro b2 w4 eb ew hb_b2 h
     clear eb ew hb_b2
     refine ap h ?_
     rintro a1_a a1_n a1_c w5 h
     refine ps 1 [(5, vl a1_a a1_n a1_c)] ?_
     refine WO_nil ?_
     refine blockK_normal ?_
     refine W_reg ?_
     refine ps 2 [(30, vi (IntKind.wrap .i64 (v2 + (1 : Int)))), (13, vi (IntKind.wrap .i64 (v2 + (1 : Int))))] ?_
     refine WO_nil ?_
     exact ⟨_, a1_a, a1_n, a1_c, IntKind.wrap .i64 (v2 + (1 : Int)), Agree.eq ⟨rfl, rfl, rfl, rfl, rfl, trivial⟩, h⟩
    ·refine W_skip ?_
     refine blockK_normal ?_
     refine W_reg ?_
     refine ps 2 [(30, vi (IntKind.wrap .i64 (v2 + (1 : Int)))), (13, vi (IntKind.wrap .i64 (v2 + (1 : Int))))] ?_
     refine WO_nil ?_
     exact ⟨_, v1_a, v1_n, v1_c, IntKind.wrap .i64 (v2 + (1 : Int)), Agree.eq ⟨rfl, rfl, rfl, rfl, rfl, trivial⟩, h⟩
  ·refine W_exit ?_
   refine blockK_hit ?_
   refine W_regseq ?_
   refine ps 1 [(31, vl v1_a v1_n v1_c)] ?_
   refine cl h ?_
   rintro _ w6 ⟨r1_a, r1_n, r1_c, rfl, h⟩
   refine ps 1 [(4, vl r1_a r1_n r1_c)] ?_
   refine WO_nil ?_
   refine W_ret ?_
   exact ret1 (v := vl r1_a r1_n r1_c) (t := 4) rfl rfl ⟨_, _, _, rfl, h⟩
def drawers_Ledger_operate.R (Q : Int → World → Prop) (l : Option Addr) (day : Int) (do_ : Value) (w : World) : Prop := (
  Ifb l.isNone
      (Q 3 w)
      (Ifb ((decide (day < (0 : Int))) || (decide (day > (100000 : Int))))
      (Q 1 w)
      (NN l fun p1 =>
      LdI .i64 w p1 fun x1 =>
      Ifb (decide (day < x1))
      (Q 7 w)
      (NN l fun p2 =>
      LdT Tstate.enc w p2 fun x2 =>
      Cl Pg 139 #[vg (Tstate.enc x2)] w (fun v w1 => ∃ (r1 : Tstate), v = vg (Tstate.enc r1) ∧ Al w1 (.cells #[vi 0, vl none 0 0, vl none 0 0, vl none 0 0, vl none 0 0] 120) fun b1 w2 =>
      St w2 ⟨b1, 0, none⟩ (Tstate.enc r1) fun w3 =>
      Cl Pg 140 #[vp ⟨b1, 0, none⟩, vi day] w3 (fun v w4 => ∃ (r2 : Int), v = vi r2 ∧ Clv Pg do_ #[vp ⟨b1, 0, none⟩] w4 (fun v w5 => ∃ (r3 : Int), v = vi r3 ∧ Ifb (r3 != (0 : Int))
      (Q r3 w5)
      (LdSl w5 (Addr.add ⟨b1, 0, none⟩ 4) fun x3_a x3_n x3_c =>
      Ifb (decide (((x3_n : Nat) : Int) > (20000 : Int)))
      (Q 2 w5)
      (LdT Tstate.enc w5 ⟨b1, 0, none⟩ fun x4 =>
      NN l fun p3 =>
      St w5 p3 (Tstate.enc x4) fun w6 =>
      Q 0 w6)))))))))
theorem drawers_Ledger_operate.ok {Q : Int → World → Prop} {l : Option Addr} {day : Int} {do_ : Value} {w : World} (h : drawers_Ledger_operate.R Q l day do_ w) : Cl Pg 76 #[vP l, vi day, do_] w (fun v w' => ∃ (r0 : Int), v = vi r0 ∧ Q r0 w') := by
 refine calls_args (args := [vP l, vi day, do_]) Tryz.func76 ?_
 unfold drawers_Ledger_operate.R at h
 refine W_regseq ?_
 refine ps 1 [(6, vi 0)] ?_
 refine WO_nil ?_
 refine W_seq ?_
 refine W_block ?_
 refine W_regseq ?_
 refine ps 1 [(10, vP l)] ?_
 refine WO_p rfl rfl (v := vb l.isNone) (ex_eqlnil_ptr_l (by kernel_rfl) rfl rfl rfl) ?_
 refine ps 1 [(9, vb l.isNone)] ?_
 refine WO_nil ?_
 refine ci h (fun h => ?_) fun h => ?_
 ·refine W_regseq ?_
  refine ps 1 [(6, vi 3)] ?_
  refine WO_nil ?_
  refine W_ret ?_
  refine blockK_ret ?_
  refine seqK_ret ?_
  exact ret1 (v := vi 3) (t := 6) rfl rfl ⟨_, rfl, h⟩
 ·refine W_regseq ?_
  refine ps 3 [(13, vi day), (14, vb (decide (day < (0 : Int)))), (15, vb (decide (day < (0 : Int))))] ?_
  refine WO_conv (fun e w_ => ∃ (e0 : Env), e = upds e0 [(0, vP l), (1, vi day), (2, do_), (12, vb ((decide (day < (0 : Int))) || (decide (day > (100000 : Int)))))] ∧ w = w_) ?_ ?_
  ·clear h
   refine WO_case 15 (b := decide (day < (0 : Int))) rfl (fun hb0 => ?_) (fun hb0 => ?_)
   ·refine ps 4 [(16, undef), (17, undef), (18, vb true), (12, vb true)] ?_
    exact WO_nil ⟨_, Agree.eq ⟨rfl, rfl, rfl, (by first | rfl | (simp only [hb0, Bool.true_and, Bool.false_and, Bool.true_or, Bool.false_or, Bool.and_true, Bool.and_false, Bool.or_true, Bool.or_false]; done) | (simp only [hb0]; rfl) | (simp [hb0]; done)), trivial⟩, rfl⟩
   ·refine ps 4 [(16, vi day), (17, vb (decide (day > (100000 : Int)))), (18, vb (decide (day > (100000 : Int)))), (12, vb (decide (day > (100000 : Int))))] ?_
    exact WO_nil ⟨_, Agree.eq ⟨rfl, rfl, rfl, (by first | rfl | (simp only [hb0, Bool.true_and, Bool.false_and, Bool.true_or, Bool.false_or, Bool.and_true, Bool.and_false, Bool.or_true, Bool.or_false]; done) | (simp only [hb0]; rfl) | (simp [hb0]; done)), trivial⟩, rfl⟩
  ·rintro _ _ ⟨e0, rfl, rfl⟩
   refine ci h (fun h => ?_) fun h => ?_
   ·refine W_regseq ?_
    refine ps 1 [(6, vi 1)] ?_
    refine WO_nil ?_
    refine W_ret ?_
    refine blockK_ret ?_
    refine seqK_ret ?_
    exact ret1 (v := vi 1) (t := 6) rfl rfl ⟨_, rfl, h⟩
   ·refine W_regseq ?_
    refine ps 2 [(20, vi day), (21, vP l)] ?_
    refine nn h fun p1 h => ?_
    refine ps 2 [(23, vp p1), (24, vp p1)] ?_
    obtain ⟨x1, hx1, h⟩ := h
    refine ld1 tk3 hx1 ?_
    refine ps 2 [(26, vb (decide (day < x1))), (19, vb (decide (day < x1)))] ?_
    refine WO_nil ?_
    refine ci h (fun h => ?_) fun h => ?_
    ·refine W_regseq ?_
     refine ps 1 [(6, vi 7)] ?_
     refine WO_nil ?_
     refine W_ret ?_
     refine blockK_ret ?_
     refine seqK_ret ?_
     exact ret1 (v := vi 7) (t := 6) rfl rfl ⟨_, rfl, h⟩
    ·refine W_skip ?_
     refine blockK_normal ?_
     refine W_regseq ?_
     refine ps 1 [(27, vP l)] ?_
     refine nn h fun p2 h => ?_
     refine ps 1 [(29, vp p2)] ?_
     obtain ⟨x2, hx2, h⟩ := h
     refine ldn tk120 hx2 ?_
     refine cl h ?_
     rintro _ w1 ⟨r1, rfl, h⟩
     refine alp h ?_
     intro b1 w2 eb ew hb_b1 h
     clear eb ew hb_b1
     refine st tk120 h ?_
     rintro w3 h
     refine WO_nil ?_
     refine W_regseq ?_
     refine ps 1 [(32, vi day)] ?_
     refine cl h ?_
     rintro _ w4 ⟨r2, rfl, h⟩
     refine WO_nil ?_
     refine W_seq ?_
     refine W_regseq ?_
     refine ps 1 [(34, do_)] ?_
     refine clv h ?_
     rintro _ w5 ⟨r3, rfl, h⟩
     refine ps 1 [(8, vi r3)] ?_
     refine WO_nil ?_
     refine W_regseq ?_
     refine ps 2 [(36, vi r3), (37, vb (r3 != (0 : Int)))] ?_
     refine WO_nil ?_
     refine ci h (fun h => ?_) fun h => ?_
     ·refine W_regseq ?_
      refine ps 2 [(38, vi r3), (6, vi r3)] ?_
      refine WO_nil ?_
      refine W_ret ?_
      refine seqK_ret ?_
      exact ret1 (v := vi r3) (t := 6) rfl rfl ⟨_, rfl, h⟩
     ·refine W_skip ?_
      refine W_seq ?_
      refine W_regseq ?_
      refine ps 1 [(39, vp (Addr.add ⟨b1, 0, none⟩ 4))] ?_
      obtain ⟨x3_a, x3_n, x3_c, hx3, h⟩ := h
      refine ld1 tk22 hx3 ?_
      refine ps 2 [(41, vi (x3_n : Nat)), (42, vb (decide (((x3_n : Nat) : Int) > (20000 : Int))))] ?_
      refine WO_nil ?_
      refine ci h (fun h => ?_) fun h => ?_
      ·refine W_regseq ?_
       refine ps 1 [(6, vi 2)] ?_
       refine WO_nil ?_
       refine W_ret ?_
       refine seqK_ret ?_
       exact ret1 (v := vi 2) (t := 6) rfl rfl ⟨_, rfl, h⟩
      ·refine W_skip ?_
       refine W_regseq ?_
       refine ps 1 [(43, vP l)] ?_
       obtain ⟨x4, hx4, h⟩ := h
       refine ldn tk120 hx4 ?_
       refine nn h fun p3 h => ?_
       refine ps 1 [(46, vp p3)] ?_
       refine st tk120 h ?_
       rintro w6 h
       refine WO_nil ?_
       refine W_regseq ?_
       refine ps 1 [(6, vi 0)] ?_
       refine WO_nil ?_
       refine W_ret ?_
       exact ret1 (v := vi 0) (t := 6) rfl rfl ⟨_, rfl, h⟩
def drawers_state_late.l1 (Q : World → Prop) (s : Option Addr) (r1_a : Option Addr) (r1_n : Nat) : Nat → Int → World → Prop
       | 0, _, _ => False
       | nl1 + 1, v1, w2 => (
       Ifb (decide (v1 < ((r1_n : Nat) : Int)))
      (Ix r1_a r1_n v1 fun p2 =>
      LdT TLot.enc w2 (Addr.add p2 (v1.toNat * 10)) fun x2 =>
      Al w2 (.cells #[vi 0, vi 0, vi 0, vi 0, vi 0, vs (ByteArray.mk #[]), vi 0, vi 0, vu 0, vi 0] 45) fun b1 w3 =>
      Sb w3 b1 (.cells #[vi x2.Id, vi x2.Thing, vi x2.Layer, vi x2.Day, vi x2.Due, vs x2.Unit, vi x2.N, vi x2.Left, vu x2.State, vi x2.Bag] 45 (0, 0)) fun w4 =>
      Dr w4 fun w5 =>
      NN s fun p3 =>
      LdI .i64 w5 p3 fun x3 =>
      Cl Pg 150 #[vP s, vi x2.Id, vi x3] w5 (fun v w6 => v = .tuple #[] ∧ (drawers_state_late.l1 Q s r1_a r1_n nl1) (IntKind.wrap .i64 (v1 + (1 : Int))) w6))
      (Q w2))
def drawers_state_late.R (Q : World → Prop) (s : Option Addr) (w : World) : Prop := (
  NN s fun p1 =>
      LdI .i64 w p1 fun x1 =>
      Cl Pg 75 #[vP s, vi x1] w (fun v w1 => ∃ (r1_a : Option Addr), ∃ (r1_n : Nat), ∃ (r1_c : Nat), v = vl r1_a r1_n r1_c ∧ ∃ k, drawers_state_late.l1 Q s r1_a r1_n k 0 w1))
theorem drawers_state_late.ok {Q : World → Prop} {s : Option Addr} {w : World} (h : drawers_state_late.R Q s w) : Cl Pg 92 #[vP s] w (fun v w' => v = .tuple #[] ∧ Q w') := by
 refine calls_args (args := [vP s]) Tryz.func92 ?_
 unfold drawers_state_late.R at h
 refine W_regseq ?_
 refine ps 2 [(4, vP s), (5, vP s)] ?_
 refine nn h fun p1 h => ?_
 refine ps 1 [(7, vp p1)] ?_
 obtain ⟨x1, hx1, h⟩ := h
 refine ld1 tk3 hx1 ?_
 refine cl h ?_
 rintro _ w1 ⟨r1_a, r1_n, r1_c, rfl, h⟩
 refine ps 2 [(10, vi (r1_n : Nat)), (11, vi 0)] ?_
 refine WO_nil ?_
 refine W_block ?_
 obtain ⟨nl1, h⟩ := h
 refine W_loopI (fun k e w2 => ∃ (e0 : Env) (v1 : Int), e = upds e0 [(0, vP s), (9, vl r1_a r1_n r1_c), (10, vi (r1_n : Nat)), (11, vi v1)] ∧ drawers_state_late.l1 Q s r1_a r1_n k v1 w2) nl1 ?_ ?_ ?_
 ·rintro _ _ ⟨_, _, _, h⟩
  exact h
 ·exact ⟨_, 0, Agree.eq ⟨rfl, rfl, rfl, rfl, trivial⟩, h⟩
 ·clear h nl1
  rintro nl1 _ w2 ⟨e0, v1, rfl, h⟩
  unfold drawers_state_late.l1 at h
  refine W_regseq ?_
  refine ps 1 [(12, vb (decide (v1 < ((r1_n : Nat) : Int))))] ?_
  refine WO_nil ?_
  refine W_seq ?_
  refine ci h (fun h => ?_) fun h => ?_
  ·refine W_skip ?_
   refine W_seq ?_
   refine W_block ?_
   refine W_regseq ?_
   refine ix slk46 h fun p2 h => ?_
   obtain ⟨x2, hx2, h⟩ := h
   refine ldn tk45 hx2 ?_
   refine alp h ?_
   intro b1 w3 eb ew hb_b1 h
   clear eb ew
   refine sb tk45 hb_b1 h ?_
   intro w4 ew hb_ h
   replace hb_b1 := hb_
   clear ew
   refine WO_nil ?_
   refine drw folM [[], [], [], [], [], [], [], [2, 6]] [.p 0, .p 1, .l 2, .p 3, .p 4, .p 5, .l 6, .e 7] h ?_
   intro w5 ew h
   replace hb_b1 := dr_keep ew hb_b1
   clear ew
   refine psC 2 [(15, vP s), (16, vp ⟨b1, 0, none⟩)] ?_
   refine lb1C tk3 hb_b1 ?_
   refine psC 1 [(18, vP s)] ?_
   refine nnC h fun p3 h => ?_
   refine psC 1 [(20, vp p3)] ?_
   obtain ⟨x3, hx3, h⟩ := h
   refine ld1C tk3 hx3 ?_
   refine clC h ?_
   rintro _ w6 ⟨rfl, h⟩
   refine ⟨AllOk.nil, ?_⟩
   refine WC_nil ?_
   refine blockK_normal ?_
   refine W_reg ?_
   refine ps 2 [(23, vi (IntKind.wrap .i64 (v1 + (1 : Int)))), (11, vi (IntKind.wrap .i64 (v1 + (1 : Int))))] ?_
   refine WO_nil ?_
   exact ⟨_, IntKind.wrap .i64 (v1 + (1 : Int)), Agree.eq ⟨rfl, rfl, rfl, rfl, trivial⟩, h⟩
  ·refine W_exit ?_
   refine blockK_hit ?_
   refine retN ?_
   exact ret0 rfl ⟨rfl, h⟩
def drawers_state_advance.l1 (Q : Int → World → Prop) (s : Option Addr) (day : Int) (r1_a : Option Addr) (r1_n : Nat) : Nat → Int → World → Prop
       | 0, _, _ => False
       | nl1 + 1, v1, w2 => (
       Ifb (decide (v1 < ((r1_n : Nat) : Int)))
      (Ix r1_a r1_n v1 fun p1 =>
      LdT TLot.enc w2 (Addr.add p1 (v1.toNat * 10)) fun x1 =>
      Al w2 (.cells #[vi 0, vi 0, vi 0, vi 0, vi 0, vs (ByteArray.mk #[]), vi 0, vi 0, vu 0, vi 0] 45) fun b1 w3 =>
      Sb w3 b1 (.cells #[vi x1.Id, vi x1.Thing, vi x1.Layer, vi x1.Day, vi x1.Due, vs x1.Unit, vi x1.N, vi x1.Left, vu x1.State, vi x1.Bag] 45 (0, 0)) fun w4 =>
      Cl Pg 150 #[vP s, vi x1.Id, vi x1.Due] w4 (fun v w5 => v = .tuple #[] ∧ (drawers_state_advance.l1 Q s day r1_a r1_n nl1) (IntKind.wrap .i64 (v1 + (1 : Int))) w5))
      (NN s fun p2 =>
      St w2 p2 ([vi day]) fun w6 =>
      Q (r1_n : Nat) w6))
def drawers_state_advance.R (Q : Int → World → Prop) (s : Option Addr) (day : Int) (w : World) : Prop := (
  Cl Pg 75 #[vP s, vi day] w (fun v w1 => ∃ (r1_a : Option Addr), ∃ (r1_n : Nat), ∃ (r1_c : Nat), v = vl r1_a r1_n r1_c ∧ ∃ k, drawers_state_advance.l1 Q s day r1_a r1_n k 0 w1))
theorem drawers_state_advance.ok {Q : Int → World → Prop} {s : Option Addr} {day : Int} {w : World} (h : drawers_state_advance.R Q s day w) : Cl Pg 140 #[vP s, vi day] w (fun v w' => ∃ (r0 : Int), v = vi r0 ∧ Q r0 w') := by
 refine calls_args (args := [vP s, vi day]) Tryz.func140 ?_
 unfold drawers_state_advance.R at h
 refine W_regseq ?_
 refine ps 1 [(4, vi 0)] ?_
 refine WO_nil ?_
 refine W_regseq ?_
 refine ps 2 [(8, vP s), (9, vi day)] ?_
 refine cl h ?_
 rintro _ w1 ⟨r1_a, r1_n, r1_c, rfl, h⟩
 refine ps 1 [(5, vl r1_a r1_n r1_c)] ?_
 refine WO_nil ?_
 refine W_seq ?_
 refine W_regseq ?_
 refine ps 3 [(11, vl r1_a r1_n r1_c), (12, vi (r1_n : Nat)), (13, vi 0)] ?_
 refine WO_nil ?_
 refine W_block ?_
 obtain ⟨nl1, h⟩ := h
 refine W_loopI (fun k e w2 => ∃ (e0 : Env) (v1 : Int), e = upds e0 [(0, vP s), (1, vi day), (5, vl r1_a r1_n r1_c), (11, vl r1_a r1_n r1_c), (12, vi (r1_n : Nat)), (13, vi v1)] ∧ drawers_state_advance.l1 Q s day r1_a r1_n k v1 w2) nl1 ?_ ?_ ?_
 ·rintro _ _ ⟨_, _, _, h⟩
  exact h
 ·exact ⟨_, 0, Agree.eq ⟨rfl, rfl, rfl, rfl, rfl, rfl, trivial⟩, h⟩
 ·clear h nl1
  rintro nl1 _ w2 ⟨e0, v1, rfl, h⟩
  unfold drawers_state_advance.l1 at h
  refine W_regseq ?_
  refine ps 1 [(14, vb (decide (v1 < ((r1_n : Nat) : Int))))] ?_
  refine WO_nil ?_
  refine W_seq ?_
  refine ci h (fun h => ?_) fun h => ?_
  ·refine W_skip ?_
   refine W_seq ?_
   refine W_block ?_
   refine W_regseq ?_
   refine ix slk46 h fun p1 h => ?_
   obtain ⟨x1, hx1, h⟩ := h
   refine ldn tk45 hx1 ?_
   refine alp h ?_
   intro b1 w3 eb ew hb_b1 h
   clear eb ew
   refine sb tk45 hb_b1 h ?_
   intro w4 ew hb_ h
   replace hb_b1 := hb_
   clear ew
   refine WO_nil ?_
   refine W_reg ?_
   refine ps 2 [(17, vP s), (18, vp ⟨b1, 0, none⟩)] ?_
   refine lb1 tk3 hb_b1 ?_
   refine ps 1 [(20, vp ⟨b1, 4, none⟩)] ?_
   refine lb1 tk3 hb_b1 ?_
   refine cl h ?_
   rintro _ w5 ⟨rfl, h⟩
   refine WO_nil ?_
   refine blockK_normal ?_
   refine W_reg ?_
   refine ps 2 [(23, vi (IntKind.wrap .i64 (v1 + (1 : Int)))), (13, vi (IntKind.wrap .i64 (v1 + (1 : Int))))] ?_
   refine WO_nil ?_
   exact ⟨_, IntKind.wrap .i64 (v1 + (1 : Int)), Agree.eq ⟨rfl, rfl, rfl, rfl, rfl, rfl, trivial⟩, h⟩
  ·refine W_exit ?_
   refine blockK_hit ?_
   refine W_regseq ?_
   refine ps 2 [(24, vP s), (25, vi day)] ?_
   refine nn h fun p2 h => ?_
   refine ps 1 [(27, vp p2)] ?_
   refine st tk3 h ?_
   rintro w6 h
   refine WO_nil ?_
   refine W_regseq ?_
   refine ps 3 [(28, vl r1_a r1_n r1_c), (29, vi (r1_n : Nat)), (4, vi (r1_n : Nat))] ?_
   refine WO_nil ?_
   refine W_ret ?_
   exact ret1 (v := vi (r1_n : Nat)) (t := 4) rfl rfl ⟨_, rfl, h⟩
end Go.Proofs.YtcbijkakoepglaaGreat
namespace Go.Proofs.YtcbijkakoepglaaGreat
open Go Go.Wx

/-! ### the plain side -/
def isDue (day : Int) (x : TLot) : Bool := (x.State == 1) && decide (x.Due ≤ day)
def MState.due (M : MState) (day : Int) : List TLot := isort ltLot (M.lots.filter (isDue day))
def MState.forfeits (M : MState) (l : List (Int × Int)) : MState := l.foldl (fun M x => M.forfeit x.1 x.2) M
def MState.advance (M : MState) (day : Int) : MState := { M.forfeits ((M.due day).map fun x => (x.Id, x.Due)) with day := day }
def MState.late (M : MState) : MState := M.forfeits ((M.due M.day).map fun x => (x.Id, M.day))
/-- each lot's Id tells its place. -/
def IdOk (M : MState) : Prop := ∀ (i : Nat) (x : TLot), M.lots[i]? = some x → x.Id = i + 1
/-- how many lots may be due at once. -/
abbrev dueMax : Nat := 100000
structure Small (M : MState) : Prop where
  units : M.units.length ≤ 1000
  values : ∀ u ∈ M.units, u.values.length ≤ 1000000
  terms : M.terms.length ≤ 1000
  lots : M.lots.length ≤ 100000
  postings : M.postings.length ≤ 100000
theorem Small.fits {M : MState} (h : Small M) : Fits M := ⟨h.units, h.values, h.terms, by have := h.lots; omega, by have := h.postings; omega⟩

theorem IdOk.inj {M : MState} (h : IdOk M) : ∀ x ∈ M.lots, ∀ y ∈ M.lots, x.Id = y.Id → x = y := by
  intro x hx y hy e
  obtain ⟨i, hi⟩ := List.getElem?_of_mem hx
  obtain ⟨j, hj⟩ := List.getElem?_of_mem hy
  have h1 := h i x hi
  have h2 := h j y hj
  obtain rfl : i = j := by omega
  exact Option.some.inj (hi.symm.trans hj)
theorem IdOk.range {M : MState} (h : IdOk M) {x : TLot} (hx : x ∈ M.lots) : 1 ≤ x.Id ∧ x.Id ≤ M.lots.length := by
  obtain ⟨i, hi⟩ := List.getElem?_of_mem hx
  have h1 := h i x hi
  have := (List.getElem?_eq_some_iff.1 hi).1
  omega
theorem MState.due_mem {M : MState} {day : Int} {x : TLot} (h : x ∈ M.due day) : x ∈ M.lots ∧ isDue day x = true := List.mem_filter.1 ((isort_perm _).mem_iff.1 h)
theorem MState.due_len (M : MState) (day : Int) : (M.due day).length = (M.lots.filter (isDue day)).length := (isort_perm _).length_eq

/-- what forfeiting keeps. -/
structure Kept (M M' : MState) (k : Nat) : Prop where
  day : M'.day = M.day
  units : M'.units = M.units
  terms : M'.terms = M.terms
  lots : M'.lots.length = M.lots.length
  postings : M'.postings.length ≤ M.postings.length + k
  ids : IdOk M → IdOk M'
theorem Kept.refl (M : MState) : Kept M M 0 := ⟨rfl, rfl, rfl, rfl, Nat.le_refl _, id⟩
theorem Kept.trans {M M1 M2 : MState} {k k' : Nat} (h : Kept M M1 k) (h' : Kept M1 M2 k') : Kept M M2 (k + k') :=
  ⟨h'.day.trans h.day, h'.units.trans h.units, h'.terms.trans h.terms, h'.lots.trans h.lots, by have := h.postings; have := h'.postings; omega, fun hi => h'.ids (h.ids hi)⟩
theorem IdOk.setLot {M : MState} (h : IdOk M) {i : Nat} {x x' : TLot} (hx : M.lots[i]? = some x) (he : x'.Id = x.Id) : IdOk (M.setLot i x') := by
  intro j y hy
  unfold MState.setLot at hy
  simp only at hy
  by_cases hij : i = j
  · subst hij
    rw [List.getElem?_set_self (List.getElem?_eq_some_iff.1 hx).1] at hy
    cases hy
    rw [he]; exact h i x hx
  · rw [List.getElem?_set_ne hij] at hy
    exact h j y hy
theorem kept_forfeit (M : MState) (id day : Int) : Kept M (M.forfeit id day) 1 := by
  unfold MState.forfeit
  split
  · rename_i x hx
    refine ⟨rfl, rfl, rfl, by simp [MState.setLot, MState.post], by simp [MState.setLot, MState.post], fun h => ?_⟩
    exact IdOk.setLot (M := M.post _) h hx rfl
  · exact ⟨rfl, rfl, rfl, rfl, by omega, fun h => h⟩
theorem kept_forfeits : ∀ (l : List (Int × Int)) (M : MState), Kept M (M.forfeits l) l.length
  | [], M => Kept.refl M
  | x :: l, M => by
    have := (kept_forfeit M x.1 x.2).trans (kept_forfeits l (M.forfeit x.1 x.2))
    rw [Nat.add_comm] at this
    exact this
theorem Kept.fits {M M' : MState} {k : Nat} (h : Kept M M' k) (hS : Small M) (hk : k ≤ 500000) : Fits M' :=
  ⟨by rw [h.units]; exact hS.units, by rw [h.units]; exact hS.values, by rw [h.terms]; exact hS.terms, by rw [h.lots]; have := hS.lots; omega, by have := h.postings; have := hS.postings; omega⟩

/-! ### the contracts -/
theorem ordered_c {f : Value} (hf : KeyLot f) (h1 : isOne f = true) {w : World} {a : Option Addr} {n c : Nat} {xs : List TLot} (ho : Own 45 10 TLot.enc w a n c xs) (hn : n ≤ dueMax) (hx : ∀ x ∈ xs, ∀ y ∈ xs, x.Id = y.Id → x = y) {Q : Option Addr → Nat → Nat → World → Prop}
    (hQ : ∀ w', Own 45 10 TLot.enc w' a n c (isort ltLot xs) → Frm (fun k => obk a c = some k) w w' → Q a n c w') : Cl Pg 137 #[vl a n c, f] w (fun v w' => ∃ a2 n2 c2, v = vl a2 n2 c2 ∧ Q a2 n2 c2 w') := by
  refine drawers_ordered_Lot.ok ⟨h1, al_f (er w) fun b1 w1 hb hat E _ _ => ?_⟩
  have hlt : ∀ k, obk a c = some k → k < w.heap.size := fun k hk => (by obtain ⟨cur, hc⟩ := ho.at k hk; exact hc.lt)
  refine stable_c (S := fun k => obk a c = some k) (w0 := w1) (cmpsLot hf hat fun e => by have := hlt _ e; omega) (fun k hk => hk) (Nat.le_trans hn (by decide)) (ho.ext E) (Frm.refl _ _) hx fun w2 ho2 F2 => hQ _ ho2 (Ext.then E F2)

theorem due_c {w : World} {p : Addr} {st : Tstate} {M : MState} (h : StRd w p st M) (hF : Fits M) (hI : IdOk M) {day : Int} (hd : (M.lots.filter (isDue day)).length ≤ dueMax) {Q : Option Addr → Nat → Nat → World → Prop}
    (hQ : ∀ a n c w', Own 45 10 TLot.enc w' a n c (M.due day) → (∀ k, obk a c = some k → w.heap.size ≤ k) → Ext w w' → Q a n c w') : Cl Pg 75 #[vP (some p), vi day] w (fun v w' => ∃ a n c, v = vl a n c ∧ Q a n c w') := by
  refine drawers_state_due.ok ⟨p, rfl, _, _, _, h.cells.at 3 rfl, st.lots_n + 1, ?_⟩
  have hl := h.lots
  have hn : st.lots_n ≤ 1000000 := by rw [hl.1]; exact hF.lots
  have key : ∀ m i w' a n c, i + m = st.lots_n → Ext w w' → Own 45 10 TLot.enc w' a n c ((M.lots.take i).filter (isDue day)) → (∀ k, obk a c = some k → w.heap.size ≤ k) → drawers_state_due.l1 Q day st.lots_a st.lots_n (m + 1) a n c (i : Nat) w' := by
    intro m
    induction m with
    | zero =>
      intro i w' a n c hi E ho hk
      unfold drawers_state_due.l1
      refine ifb_df (by omega) ?_
      rw [List.take_of_length_le (by have := hl.1; omega)] at ho
      refine ordered_c key138 rfl ho (by rw [ho.1]; exact hd) (fun x hx y hy => hI.inj x (List.mem_filter.1 hx).1 y (List.mem_filter.1 hy).1) fun w2 ho2 F2 => hQ _ _ _ _ ho2 hk (Frm.trans E F2 fun k hk' e => by have := hk k e; omega)
    | succ m ih =>
      intro i w' a n c hi E ho hk
      unfold drawers_state_due.l1
      refine ifb_dt (by omega) ((hl.ext E).ix (by omega) (by omega) fun a0 x ha hx hc => ⟨x, hc, al_f E fun b1 w2 hb1 hat E2 e2 _ => sb_f E2 hat hb1 fun w3 hat E3 f3 => ?_⟩)
      simp only [Int.toNat_natCast] at hx
      obtain ⟨hlt, hx'⟩ := List.getElem?_eq_some_iff.1 hx
      have htk : (M.lots.take (i + 1)).filter (isDue day) = (M.lots.take i).filter (isDue day) ++ if isDue day x then [x] else [] := by
        rw [List.take_succ, hx, List.filter_append]
        simp [List.filter_cons]
      have hn1 : n ≤ i := by rw [ho.1]; exact Nat.le_trans (List.length_filter_le _ _) (by rw [List.length_take]; omega)
      have ho3 : Own 45 10 TLot.enc w3 a n c _ := (ho.ext e2).frm f3 fun k hk' e => (by
        obtain ⟨cur, hc⟩ := ho.at k hk'
        have := hc.lt
        subst e
        omega)
      rw [wrap_succ (n := st.lots_n) (by omega) (by omega) (by simp only [maxLen]; omega)]
      have hw : ((x.State == (1 : Int)) && (decide (x.Due ≤ day))) = isDue day x := rfl
      rw [hw]
      refine ifb ?_
      split
      · rename_i hdue
        rw [if_pos hdue] at htk
        refine al_f E3 fun b2 w4 hb2 hat2 E4 e4 _ => ?_
        refine ap_own ap46 encLot (fun x => oneAll rfl) (ho3.ext e4) (Rd.one (enc := TLot.enc) (sz := 10) x hat2) (by omega) (by simp only [maxLen]; omega) fun a2 c2 w5 ho5 F5 hb5 => ?_
        rw [← htk] at ho5
        refine ih (i + 1) w5 a2 (n + 1) c2 (by omega) (Frm.trans E4 F5 fun k hk' e => by have := hk k e; omega) ho5 fun k hk' => ?_
        exact (hb5 k hk').elim (hk k) fun h => Nat.le_trans E4.size h
      · rename_i hdue
        rw [if_neg hdue, List.append_nil] at htk
        rw [← htk] at ho3
        exact ih (i + 1) w3 a n c (by omega) E3 ho3 hk
  exact key _ 0 w none 0 0 (by omega) (er w) (by simpa using Own.nil) (fun k hk => by cases hk)

theorem fold_forfeits (M : MState) (l : List (Int × Int)) (x : Int × Int) : M.forfeits (l ++ [x]) = (M.forfeits l).forfeit x.1 x.2 := by
  unfold MState.forfeits; rw [List.foldl_append]; rfl

theorem advance_c {w : World} {R : Nat → Prop} {b : Nat} {st : Tstate} {M : MState} (h : StIn w R b st M) (hS : Small M) (hI : IdOk M) {day : Int} (hd : (M.lots.filter (isDue day)).length ≤ dueMax) {Q : Int → World → Prop}
    (hQ : ∀ w' R' st', StIn w' R' b st' (M.advance day) → Step R w R' w' → Q (M.due day).length w') : Cl Pg 140 #[vp ⟨b, 0, none⟩, vi day] w (fun v w' => ∃ r, v = vi r ∧ Q r w') := by
  refine drawers_state_advance.ok (due_c h.rd hS.fits hI hd fun a n c w1 ho hk E => ⟨n + 1, ?_⟩)
  have hn : n ≤ 100000 := by rw [ho.1, MState.due_len]; exact hd
  have hlen : n = (M.due day).length := ho.1
  have key : ∀ m i w' R' st', i + m = n → StIn w' R' b st' (M.forfeits (((M.due day).take i).map fun x => (x.Id, x.Due))) → Step R w R' w' → w1.heap.size ≤ w'.heap.size → Own 45 10 TLot.enc w' a n c (M.due day) → (∀ k, obk a c = some k → ¬ R' k) → drawers_state_advance.l1 Q (some ⟨b, 0, none⟩) day a n (m + 1) (i : Nat) w' := by
    intro m
    induction m with
    | zero =>
      intro i w' R' st' hi h' s' hsz ho' hR'
      unfold drawers_state_advance.l1
      refine ifb_df (by omega) ⟨_, rfl, st_at h'.blk (by simp [Tstate.enc]) fun w6 hat6 F6 => ?_⟩
      rw [List.take_of_length_le (by omega)] at h'
      have h6 : StIn w6 R' b { st' with day := day } (M.advance day) := by
        have hT : ∀ {k : Nat} {cur : Array Value} {T : Nat}, At w' k (.cells cur T (0, 0)) → T ≠ 120 → ¬ k = b := fun h1 hT => h1.neT h'.blk fun e => hT (Option.some.inj e)
        refine ⟨hat6, rfl, h'.units.frm F6 (fun _ => id) (fun k cur hk => hT hk (by decide)) fun k cur hk => hT hk (by decide), h'.terms.frm F6 fun k hk => ?_, h'.lots.frm F6 fun k hk => ?_, h'.postings.frm F6 fun k hk => ?_, h'.rB, h'.rUnits, h'.rTerms, h'.rLots, h'.rPostings, fun k hk => Nat.lt_of_lt_of_le (h'.rLt k hk) F6.size⟩
        · obtain ⟨cur, hc⟩ := h'.terms.at k hk; exact hT hc (by decide)
        · obtain ⟨cur, hc⟩ := h'.lots.at k hk; exact hT hc (by decide)
        · obtain ⟨cur, hc⟩ := h'.postings.at k hk; exact hT hc (by decide)
      rw [hlen]
      exact hQ _ _ _ h6 (s'.trans (Step.of (F6.mono fun k _ e => by subst e; exact h'.rB)))
    | succ m ih =>
      intro i w' R' st' hi h' s' hsz ho' hR'
      unfold drawers_state_advance.l1
      refine ifb_dt (by omega) ((ho'.rd encLot).ix (by omega) (by omega) fun a0 x ha hx hc => ⟨x, hc, al_f (er w') fun b1 w3 hb1 hat E3 _ _ => sb_f E3 hat hb1 fun w4 hat E4 _ => ?_⟩)
      simp only [Int.toNat_natCast] at hx
      have hxm := MState.due_mem (List.mem_of_getElem? hx)
      have hr := hI.range hxm.1
      have hkp := kept_forfeits (((M.due day).take i).map fun x => (x.Id, x.Due)) M
      have htk : ((M.due day).take (i + 1)).map (fun x => (x.Id, x.Due)) = ((M.due day).take i).map (fun x => (x.Id, x.Due)) ++ [(x.Id, x.Due)] := by
        rw [List.take_succ, hx]; simp
      refine forfeit_c (h'.ext E4) (hkp.fits hS (by simp; omega)) hr.1 (by rw [hkp.lots]; exact hr.2) fun w5 R5 st5 h5 s5 => ?_
      rw [← fold_forfeits M _ (x.Id, x.Due), ← htk] at h5
      rw [wrap_succ (n := n) (by omega) (by omega) (by simp only [maxLen]; omega)]
      have hk4 : ∀ k, obk a c = some k → k < w4.heap.size := fun k hk => (by obtain ⟨cur, hc⟩ := (ho'.ext E4).at k hk; exact hc.lt)
      refine ih (i + 1) w5 R5 st5 (by omega) h5 (s'.trans ((Ext.step E4).trans s5)) (Nat.le_trans hsz (Nat.le_trans E4.size s5.frm.size)) ((ho'.ext E4).frm s5.frm hR') fun k hk => s5.out (hk4 k hk) (hR' k hk)
  exact key _ 0 w1 R st (by omega) (by simpa [MState.forfeits] using h.ext E) (Ext.step E) (Nat.le_refl _) ho fun k hk' hR => by have := hk k hk'; have := h.rLt k hR; omega

theorem late_c {w : World} {R : Nat → Prop} {b : Nat} {st : Tstate} {M : MState} (h : StIn w R b st M) (hS : Small M) (hI : IdOk M) (hd : (M.lots.filter (isDue M.day)).length ≤ dueMax) {Q : World → Prop}
    (hQ : ∀ w' R' st', StIn w' R' b st' M.late → Step R w R' w' → Q w') : Cl Pg 92 #[vp ⟨b, 0, none⟩] w (fun v w' => v = .tuple #[] ∧ Q w') := by
  refine drawers_state_late.ok ⟨_, rfl, _, h.rd.cells.at 0 rfl, ?_⟩
  rw [h.day]
  refine due_c h.rd hS.fits hI hd fun a n c w1 ho hk E => ⟨n + 1, ?_⟩
  have hn : n ≤ 100000 := by rw [ho.1, MState.due_len]; exact hd
  have hlen : n = (M.due M.day).length := ho.1
  have key : ∀ m i w' R' st', i + m = n → StIn w' R' b st' (M.forfeits (((M.due M.day).take i).map fun x => (x.Id, M.day))) → Step R w R' w' → Own 45 10 TLot.enc w' a n c (M.due M.day) → (∀ k, obk a c = some k → ¬ R' k) → drawers_state_late.l1 Q (some ⟨b, 0, none⟩) a n (m + 1) (i : Nat) w' := by
    intro m
    induction m with
    | zero =>
      intro i w' R' st' hi h' s' ho' hR'
      unfold drawers_state_late.l1
      rw [List.take_of_length_le (by omega)] at h'
      exact ifb_df (by omega) (hQ _ _ _ h' s')
    | succ m ih =>
      intro i w' R' st' hi h' s' ho' hR'
      unfold drawers_state_late.l1
      have hkp := kept_forfeits (((M.due M.day).take i).map fun x => (x.Id, M.day)) M
      refine ifb_dt (by omega) ((ho'.rd encLot).ix (by omega) (by omega) fun a0 x ha hx hc => ⟨x, hc, al_f (er w') fun b1 w3 hb1 hat E3 _ _ => sb_f E3 hat hb1 fun w4 hat E4 _ => dr_f E4 fun w5 E5 _ => ⟨_, rfl, _, (h'.ext E5).rd.cells.at 0 rfl, ?_⟩⟩)
      rw [h'.day, hkp.day]
      simp only [Int.toNat_natCast] at hx
      have hxm := MState.due_mem (List.mem_of_getElem? hx)
      have hr := hI.range hxm.1
      have htk : ((M.due M.day).take (i + 1)).map (fun x => (x.Id, M.day)) = ((M.due M.day).take i).map (fun x => (x.Id, M.day)) ++ [(x.Id, M.day)] := by
        rw [List.take_succ, hx]; simp
      refine forfeit_c (h'.ext E5) (hkp.fits hS (by simp; omega)) hr.1 (by rw [hkp.lots]; exact hr.2) fun w6 R6 st6 h6 s6 => ?_
      rw [← fold_forfeits M _ (x.Id, M.day), ← htk] at h6
      rw [wrap_succ (n := n) (by omega) (by omega) (by simp only [maxLen]; omega)]
      have hk5 : ∀ k, obk a c = some k → k < w5.heap.size := fun k hk => (by obtain ⟨cur, hc⟩ := (ho'.ext E5).at k hk; exact hc.lt)
      exact ih (i + 1) w6 R6 st6 (by omega) h6 (s'.trans ((Ext.step E5).trans s6)) ((ho'.ext E5).frm s6.frm hR') fun k hk => s6.out (hk5 k hk) (hR' k hk)
  exact key _ 0 w1 R st (by omega) (by simpa [MState.forfeits] using h.ext E) (Ext.step E) ho fun k hk' hR => by have := hk k hk'; have := h.rLt k hR; omega
end Go.Proofs.YtcbijkakoepglaaGreat
namespace Go.Proofs.YtcbijkakoepglaaGreat
open Go Go.Wx

/-- a ledger in a block; all that it owns in a region. -/
structure Led (w : World) (R : Nat → Prop) (b : Nat) (st : Tstate) (M : MState) : Prop where
  blk : At w b (.cells st.enc.toArray 122 (0, 0))
  free : StFree w R st M
  out : ¬ R b
theorem StFree.frm {w w' : World} {R S : Nat → Prop} {st : Tstate} {M : MState} (h : StFree w R st M) (F : Frm S w w') (hS : ∀ k, R k → ¬ S k) : StFree w' R st M := by
  refine ⟨h.day, ?_, h.terms.frm F fun k hk => hS k (h.rTerms k hk), h.lots.frm F fun k hk => hS k (h.rLots k hk), h.postings.frm F fun k hk => hS k (h.rPostings k hk), h.rUnits, h.rTerms, h.rLots, h.rPostings, fun k hk => Nat.lt_of_lt_of_le (h.rLt k hk) F.size⟩
  obtain ⟨ts, h1, h2, h3, h4⟩ := h.units
  refine ⟨ts, h1.frm F fun k hk => hS k (h.rUnits k hk), h2, fun i t u ht hu => ?_, h4⟩
  obtain ⟨e1, e2, h5, h6⟩ := h3 i t u ht hu
  exact ⟨e1, e2, h5.frm F fun k hk => hS k (h6 k hk), h6⟩
theorem Led.rd {w : World} {R : Nat → Prop} {b : Nat} {st : Tstate} {M : MState} (h : Led w R b st M) : StRd w ⟨b, 0, none⟩ st M :=
  ⟨Cells.of_at h.blk rfl, h.free.day, h.free.units.rd, h.free.terms.rd encTerm, h.free.lots.rd encLot, h.free.postings.rd encPosting⟩
theorem Led.frm {w w' : World} {R S : Nat → Prop} {b : Nat} {st : Tstate} {M : MState} (h : Led w R b st M) (F : Frm S w w') (hS : ∀ k, R k → ¬ S k) (hb : ¬ S b) : Led w' R b st M :=
  ⟨h.blk.frm F hb, h.free.frm F hS, h.out⟩
theorem Led.ext {w w' : World} {R : Nat → Prop} {b : Nat} {st : Tstate} {M : MState} (h : Led w R b st M) (E : Ext w w') : Led w' R b st M := h.frm E (fun _ _ => id) id
theorem StFree.into {w w' : World} {R S : Nat → Prop} {b : Nat} {st : Tstate} {M : MState} (h : StFree w R st M) (F : Frm S w w') (hS : ∀ k, R k → ¬ S k) (hat : At w' b (.cells st.enc.toArray 120 (0, 0))) : StIn w' (fun k => R k ∨ k = b) b st M := by
  have h' := h.frm F hS
  refine ⟨hat, h'.day, ?_, h'.terms, h'.lots, h'.postings, .inr rfl, fun k hk => .inl (h'.rUnits k hk), fun k hk => .inl (h'.rTerms k hk), fun k hk => .inl (h'.rLots k hk), fun k hk => .inl (h'.rPostings k hk), ?_⟩
  · obtain ⟨ts, h1, h2, h3, h4⟩ := h'.units
    exact ⟨ts, h1, h2, fun i t u ht hu => ⟨(h3 i t u ht hu).1, (h3 i t u ht hu).2.1, (h3 i t u ht hu).2.2.1, fun k hk => .inl ((h3 i t u ht hu).2.2.2 k hk)⟩, h4⟩
  · rintro k (hk | hk)
    · exact h'.rLt k hk
    · subst hk; exact hat.lt
theorem StIn.free {w : World} {R : Nat → Prop} {b : Nat} {st : Tstate} {M : MState} (h : StIn w R b st M) : StFree w R st M :=
  ⟨h.day, h.units, h.terms, h.lots, h.postings, h.rUnits, h.rTerms, h.rLots, h.rPostings, h.rLt⟩

theorem Clv.mono' {P : Program} {f : Value} {args : Array Value} {w : World} {R R' : Value → World → Prop} (h : Clv P f args w R) (hr : ∀ v w', R v w' → R' v w') : Clv P f args w R' := by
  obtain ⟨g, c, e, hc, h⟩ := h
  exact ⟨g, c, e, hc, h.mono hr⟩

/-- how a closure of 'operate' ends. -/
def DoesQ (C : Nat → Prop) (X : Int → MState → World → Prop) (w1 : World) (R1 : Nat → Prop) (b1 : Nat) (r : Int) (w2 : World) : Prop :=
  ∃ M2 R2 st2, StIn w2 R2 b1 st2 M2 ∧ (∀ k, R2 k → R1 k ∨ w1.heap.size ≤ k) ∧ Frm (fun k => R1 k ∨ C k) w1 w2 ∧ X r M2 w2
/-- what a closure of 'operate' does: with the state in its own block. -/
def Does (f : Value) (w : World) (C : Nat → Prop) (M : MState) (X : Int → MState → World → Prop) : Prop :=
  ∀ w1 R1 b1 st1, StIn w1 R1 b1 st1 M → (∀ k, R1 k → w.heap.size ≤ k) → Ext w w1 →
    Clv Pg f #[vp ⟨b1, 0, none⟩] w1 (fun v w2 => ∃ r, v = vi r ∧ DoesQ C X w1 R1 b1 r w2)

theorem operate_c {w : World} {R : Nat → Prop} {bL : Nat} {st : Tstate} {M : MState} (h : Led w R bL st M) (hS : Small M) (hI : IdOk M) {day : Int} {f : Value} {C : Nat → Prop} (hC : ¬ C bL) (hd : 0 ≤ day → day ≤ 100000 → M.day ≤ day → (M.lots.filter (isDue day)).length ≤ dueMax) {X : Int → MState → World → Prop}
    (hdo : 0 ≤ day → day ≤ 100000 → M.day ≤ day → Does f w C (M.advance day) X)
    (hX : ∀ M2 w2 w6, X 0 M2 w2 → Frm (fun k => k = bL) w2 w6 → (∃ cur, At w2 bL (.cells cur 122 (0, 0))) → X 0 M2 w6) {Q : Int → World → Prop}
    (hQ1 : day < 0 ∨ 100000 < day → Q 1 w) (hQ7 : 0 ≤ day → day ≤ 100000 → day < M.day → Q 7 w)
    (hQe : 0 ≤ day → day ≤ 100000 → M.day ≤ day → ∀ r M2 w2, r ≠ 0 → X r M2 w2 → Frm C w w2 → Q r w2)
    (hQl : 0 ≤ day → day ≤ 100000 → M.day ≤ day → ∀ M2 w2, X 0 M2 w2 → 20000 < M2.postings.length → Frm C w w2 → Q 2 w2)
    (hQs : 0 ≤ day → day ≤ 100000 → M.day ≤ day → ∀ M2 w2 R2 st2, X 0 M2 w2 → M2.postings.length ≤ 20000 → Led w2 R2 bL st2 M2 → (∀ k, R2 k → w.heap.size ≤ k) → Frm (fun k => C k ∨ k = bL) w w2 → Q 0 w2) :
    Cl Pg 76 #[vp ⟨bL, 0, none⟩, vi day, f] w (fun v w' => ∃ r, v = vi r ∧ Q r w') := by
  refine drawers_Ledger_operate.ok (ifb_f (ifb ?_))
  split
  · rename_i hb
    exact hQ1 (by simpa using hb)
  rename_i hb
  have hb : 0 ≤ day ∧ day ≤ 100000 := by simpa using hb
  obtain ⟨hb1, hb2⟩ := hb
  refine ⟨_, rfl, _, h.rd.cells.at 0 rfl, ifb ?_⟩
  rw [h.free.day]
  split
  · rename_i h7
    exact hQ7 hb1 hb2 (by simpa using h7)
  rename_i h7
  have h7 : M.day ≤ day := by simpa using h7
  refine ⟨_, rfl, st, h.rd.cells, copied_c h.rd hS.fits fun w1 R1 st1 h1 hR1 E1 => al_f E1 fun b1 w2 hb1' hat2 E2 e2 hn1 => st_at hat2 (by simp [Tstate.enc]) fun w3 hat3 F3 => ?_⟩
  have hnb : ¬ R1 b1 := fun hR => by have := h1.rLt b1 hR; omega
  have h3 := (h1.frm e2 fun _ _ => id).into F3 (fun k hk e => hnb (by subst e; exact hk)) hat3
  have E3 : Ext w w3 := Frm.trans E2 F3 fun k hk e => by omega
  refine advance_c h3 hS hI (hd hb1 hb2 h7) fun w4 R4 st4 h4 s4 => ?_
  have hR4 : ∀ k, R4 k → w.heap.size ≤ k := fun k hk => (s4.sub k hk).elim (fun h => h.elim (hR1 k) fun e => by omega) fun h => Nat.le_trans E3.size h
  have E4 : Ext w w4 := Frm.trans E3 s4.frm fun k hk hR => by
    rcases hR with hR | hR
    · have := hR1 k hR; omega
    · omega
  refine Clv.mono' (hdo hb1 hb2 h7 w4 R4 b1 st4 h4 hR4 E4) ?_
  rintro v w5 ⟨r, rfl, M2, R2, st2, h5, hR5, F5, hx⟩
  refine ⟨r, rfl, ifb ?_⟩
  have hC5 : Frm C w w5 := (Frm.mono E4 fun _ _ h => h.elim).trans F5 fun k hk hk' => hk'.elim (fun hR => by have := hR4 k hR; omega) id
  split
  · rename_i hr
    exact hQe hb1 hb2 h7 r M2 w5 (by simpa using hr) hx hC5
  rename_i hr
  obtain rfl : r = 0 := by simpa using hr
  refine ⟨_, _, _, h5.rd.cells.at 4 rfl, ifb ?_⟩
  have hp := h5.postings.1
  split
  · rename_i hl
    exact hQl hb1 hb2 h7 M2 w5 hx (by have := of_decide_eq_true hl; omega) hC5
  rename_i hl
  have hl : M2.postings.length ≤ 20000 := by simp at hl; omega
  have hat5 := h.blk.frm hC5 hC
  refine ⟨st2, h5.rd.cells, _, rfl, st_at hat5 (by simp [Tstate.enc]) fun w6 hat6 F6 => ?_⟩
  have hR2 : ∀ k, R2 k → w.heap.size ≤ k := fun k hk => (hR5 k hk).elim (hR4 k) fun h => Nat.le_trans E4.size h
  have hbL := h.blk.lt
  have hout : ¬ R2 bL := fun hR => by have := hR2 bL hR; omega
  exact hQs hb1 hb2 h7 M2 w6 R2 st2 (hX M2 w5 w6 hx F6 ⟨_, hat5⟩) hl ⟨hat6, h5.free.frm F6 fun k hk e => hout (by subst e; exact hk), hout⟩ hR2 ((hC5.mono fun _ _ h => .inl h).trans F6 fun k _ e => .inr e)

/-! ### operations whose closure writes nothing but the state -/
def MState.oper (M : MState) (day : Int) (g : MState → Int × MState) : Int × MState :=
  if day < 0 ∨ 100000 < day then (1, M) else if day < M.day then (7, M) else
    if (g (M.advance day)).1 ≠ 0 then ((g (M.advance day)).1, M) else if 20000 < (g (M.advance day)).2.postings.length then (2, M) else (0, (g (M.advance day)).2)
/-- a closure returns what the plain side says. -/
def Ret (g : Int × MState) (r : Int) (M2 : MState) (_ : World) : Prop := (r, M2) = g
/-- the day is one on which the lots that are due can be sorted. -/
def DueOk (M : MState) (day : Int) : Prop := 0 ≤ day → day ≤ 100000 → M.day ≤ day → (M.lots.filter (isDue day)).length ≤ dueMax
theorem Small.dueOk {M : MState} (h : Small M) (day : Int) : DueOk M day := fun _ _ _ => Nat.le_trans (List.length_filter_le _ _) h.lots
theorem operate0_c {w : World} {R : Nat → Prop} {bL : Nat} {st : Tstate} {M : MState} (h : Led w R bL st M) (hS : Small M) (hI : IdOk M) {day : Int} (hd : DueOk M day) {f : Value} {g : MState → Int × MState}
    (hdo : 0 ≤ day → day ≤ 100000 → M.day ≤ day → Does f w (fun _ => False) (M.advance day) (Ret (g (M.advance day)))) {Q : Int → World → Prop}
    (hQ : ∀ w' R' st', Led w' R' bL st' (M.oper day g).2 → (∀ k, R' k → R k ∨ w.heap.size ≤ k) → Frm (fun k => k = bL) w w' → Q (M.oper day g).1 w') :
    Cl Pg 76 #[vp ⟨bL, 0, none⟩, vi day, f] w (fun v w' => ∃ r, v = vi r ∧ Q r w') := by
  refine operate_c h hS hI (C := fun _ => False) id hd hdo (fun _ _ _ h _ _ => h) ?_ ?_ ?_ ?_ ?_
  · intro hb
    have e : M.oper day g = (1, M) := by unfold MState.oper; rw [if_pos hb]
    rw [e] at hQ
    exact hQ _ _ _ h (fun k => .inl) (Frm.refl _ _)
  · intro h1 h2 h3
    have e : M.oper day g = (7, M) := by unfold MState.oper; rw [if_neg (by omega), if_pos h3]
    rw [e] at hQ
    exact hQ _ _ _ h (fun k => .inl) (Frm.refl _ _)
  · intro h1 h2 h3 r M2 w2 hr hx F
    have e : M.oper day g = (r, M) := by unfold MState.oper; rw [if_neg (by omega), if_neg (by omega), ← show _ = _ from hx, if_pos hr]
    rw [e] at hQ
    exact hQ _ _ _ (h.frm F (fun _ _ => id) id) (fun k => .inl) (Ext.frm F)
  · intro h1 h2 h3 M2 w2 hx hl F
    have e : M.oper day g = (2, M) := by unfold MState.oper; rw [if_neg (by omega), if_neg (by omega), ← show _ = _ from hx, if_neg (by simp), if_pos hl]
    rw [e] at hQ
    exact hQ _ _ _ (h.frm F (fun _ _ => id) id) (fun k => .inl) (Ext.frm F)
  · intro h1 h2 h3 M2 w2 R2 st2 hx hl h' hR F
    have e : M.oper day g = (0, M2) := by unfold MState.oper; rw [if_neg (by omega), if_neg (by omega), ← show _ = _ from hx, if_neg (by simp), if_neg (by simpa using hl)]
    rw [e] at hQ
    exact hQ _ _ _ h' (fun k hk => .inr (hR k hk)) (F.mono fun k _ hk => hk.elim False.elim id)
end Go.Proofs.YtcbijkakoepglaaGreat
namespace Go.Proofs.YtcbijkakoepglaaGreat
open Go Go.Wx
set_option maxRecDepth 100000
def drawers_Ledger_SetUnit.R (Q : Int → World → Prop) (l : Option Addr) (day : Int) (name : ByteArray) (kind : Int) (w : World) : Prop := (
  Al w (.cells #[vs name] 9) fun b1 w1 =>
      Al w1 (.cells #[vu kind] 5) fun b2 w2 =>
      Cl Pg 76 #[vP l, vi day, .func (.func 117) #[] #[vp ⟨b1, 0, none⟩, vp ⟨b2, 0, none⟩]] w2 (fun v w3 => ∃ (r1 : Int), v = vi r1 ∧ Q r1 w3))
theorem drawers_Ledger_SetUnit.ok {Q : Int → World → Prop} {l : Option Addr} {day : Int} {name : ByteArray} {kind : Int} {w : World} (h : drawers_Ledger_SetUnit.R Q l day name kind w) : Cl Pg 50 #[vP l, vi day, vs name, vu kind] w (fun v w' => ∃ (r0 : Int), v = vi r0 ∧ Q r0 w') := by
 refine calls_args (args := [vP l, vi day, vs name, vu kind]) Tryz.func50 ?_
 unfold drawers_Ledger_SetUnit.R at h
 refine W_regseq ?_
 refine alp h ?_
 intro b1 w1 eb ew hb_b1 h
 clear eb ew hb_b1
 refine alp h ?_
 intro b2 w2 eb ew hb_b2 h
 clear eb ew hb_b2
 refine ps 1 [(8, vi 0)] ?_
 refine WO_nil ?_
 refine W_regseq ?_
 refine ps 3 [(9, vP l), (10, vi day), (11, .func (.func 117) #[] #[vp ⟨b1, 0, none⟩, vp ⟨b2, 0, none⟩])] ?_
 refine cl h ?_
 rintro _ w3 ⟨r1, rfl, h⟩
 refine ps 1 [(8, vi r1)] ?_
 refine WO_nil ?_
 refine W_ret ?_
 exact ret1 (v := vi r1) (t := 8) rfl rfl ⟨_, rfl, h⟩
def drawers_Ledger_SetUnit_1.j1 (Q : Int → World → Prop) (s : Option Addr) (p1_1 : Addr) (p2_2 : Addr) (v1 : Bool) (w2 : World) : Prop := (
       Ifb v1
      (Q 1 w2)
      (LdS w2 p1_1 fun x2 =>
      Cl Pg 80 #[vP s, vs x2] w2 (fun v w3 => ∃ (r2 : Int), v = vi r2 ∧ Ifb (decide (r2 ≥ (0 : Int)))
      (Q 6 w3)
      (NN s fun p1 =>
      LdSl w3 (Addr.add p1 1) fun x3_a x3_n x3_c =>
      Ifb (decide (((x3_n : Nat) : Int) ≥ (16 : Int)))
      (Q 2 w3)
      (Dr w3 fun w4 =>
      NN s fun p2 =>
      LdSl w4 (Addr.add p2 1) fun x4_a x4_n x4_c =>
      LdS w4 p1_1 fun x5 =>
      LdI .u8 w4 p2_2 fun x6 =>
      Al w4 (.cells #[vs x5, vu x6, vl none 0 0] 150) fun b1 w5 =>
      Ap Pg w5 #[117, 117] 117 (vl x4_a x4_n x4_c) (vl (some ⟨b1, 0, none⟩) 1 1) fun a1_a a1_n a1_c w6 =>
      NN s fun p3 =>
      St w6 (Addr.add p3 1) ([vl a1_a a1_n a1_c]) fun w7 =>
      Q 0 w7)))))
def drawers_Ledger_SetUnit_1.R (Q : Int → World → Prop) (s : Option Addr) (p1_1 : Addr) (p2_2 : Addr) (w : World) : Prop := (
  LdS w p1_1 fun x1 =>
      Cl Pg 66 #[vs x1] w (fun v w1 => ∃ (r1 : Bool), v = vb r1 ∧ Ifb (!r1)
      (Q 4 w1)
      (LdI .u8 w1 p2_2 fun x7 =>
      Ifb (decide (x7 < (1 : Int)))
      (drawers_Ledger_SetUnit_1.j1 Q s p1_1 p2_2 true w1)
      (LdI .u8 w1 p2_2 fun x8 =>
      drawers_Ledger_SetUnit_1.j1 Q s p1_1 p2_2 (decide (x8 > (3 : Int))) w1))))
theorem drawers_Ledger_SetUnit_1.ok {Q : Int → World → Prop} {s : Option Addr} {p1_1 : Addr} {p2_2 : Addr} {w : World} (h : drawers_Ledger_SetUnit_1.R Q s p1_1 p2_2 w) : Cl Pg 117 #[vP s, vp p1_1, vp p2_2] w (fun v w' => ∃ (r0 : Int), v = vi r0 ∧ Q r0 w') := by
 refine calls_args (args := [vP s, vp p1_1, vp p2_2]) Tryz.func117 ?_
 unfold drawers_Ledger_SetUnit_1.R at h
 refine W_regseq ?_
 refine ps 1 [(4, vi 0)] ?_
 refine WO_nil ?_
 refine W_seq ?_
 refine W_block ?_
 refine W_regseq ?_
 obtain ⟨x1, hx1, h⟩ := h
 refine ld1 tk9 hx1 ?_
 refine cl h ?_
 rintro _ w1 ⟨r1, rfl, h⟩
 refine ps 2 [(8, vb (!r1)), (5, vb (!r1))] ?_
 refine WO_nil ?_
 refine ci h (fun h => ?_) fun h => ?_
 ·refine W_regseq ?_
  refine ps 1 [(4, vi 4)] ?_
  refine WO_nil ?_
  refine W_ret ?_
  refine blockK_ret ?_
  refine seqK_ret ?_
  exact ret1 (v := vi 4) (t := 4) rfl rfl ⟨_, rfl, h⟩
 ·refine W_join (fun e w2 => ∃ (e0 : Env) (v1 : Bool), e = upds e0 [(0, vP s), (1, vp p1_1), (2, vp p2_2), (9, vb v1)] ∧ drawers_Ledger_SetUnit_1.j1 Q s p1_1 p2_2 v1 w2) ?_ ?_
  ·refine W_reg ?_
   obtain ⟨x7, hx7, h⟩ := h
   refine ld1 tk5 hx7 ?_
   refine ps 2 [(11, vb (decide (x7 < (1 : Int)))), (12, vb (decide (x7 < (1 : Int))))] ?_
   refine cs 12 h (fun h => ?_) fun h => ?_
   ·refine ps 4 [(13, undef), (14, undef), (15, vb true), (9, vb true)] ?_
    refine WO_nil ?_
    exact ⟨_, true, Agree.eq ⟨rfl, rfl, rfl, rfl, trivial⟩, h⟩
   ·obtain ⟨x8, hx8, h⟩ := h
    refine ld1 tk5 hx8 ?_
    refine ps 3 [(14, vb (decide (x8 > (3 : Int)))), (15, vb (decide (x8 > (3 : Int)))), (9, vb (decide (x8 > (3 : Int))))] ?_
    refine WO_nil ?_
    exact ⟨_, decide (x8 > (3 : Int)), Agree.eq ⟨rfl, rfl, rfl, rfl, trivial⟩, h⟩
  ·clear h
   rintro _ w2 ⟨e0, v1, rfl, h⟩
   unfold drawers_Ledger_SetUnit_1.j1 at h
   refine ci h (fun h => ?_) fun h => ?_
   ·refine W_regseq ?_
    refine ps 1 [(4, vi 1)] ?_
    refine WO_nil ?_
    refine W_ret ?_
    refine blockK_ret ?_
    refine seqK_ret ?_
    exact ret1 (v := vi 1) (t := 4) rfl rfl ⟨_, rfl, h⟩
   ·refine W_regseq ?_
    refine ps 1 [(17, vP s)] ?_
    obtain ⟨x2, hx2, h⟩ := h
    refine ld1 tk9 hx2 ?_
    refine cl h ?_
    rintro _ w3 ⟨r2, rfl, h⟩
    refine ps 2 [(20, vb (decide (r2 ≥ (0 : Int)))), (16, vb (decide (r2 ≥ (0 : Int))))] ?_
    refine WO_nil ?_
    refine ci h (fun h => ?_) fun h => ?_
    ·refine W_regseq ?_
     refine ps 1 [(4, vi 6)] ?_
     refine WO_nil ?_
     refine W_ret ?_
     refine blockK_ret ?_
     refine seqK_ret ?_
     exact ret1 (v := vi 6) (t := 4) rfl rfl ⟨_, rfl, h⟩
    ·refine W_regseq ?_
     refine ps 1 [(22, vP s)] ?_
     refine nn h fun p1 h => ?_
     refine ps 1 [(24, vp (Addr.add p1 1))] ?_
     obtain ⟨x3_a, x3_n, x3_c, hx3, h⟩ := h
     refine ld1 tk117 hx3 ?_
     refine ps 3 [(26, vi (x3_n : Nat)), (27, vb (decide (((x3_n : Nat) : Int) ≥ (16 : Int)))), (21, vb (decide (((x3_n : Nat) : Int) ≥ (16 : Int))))] ?_
     refine WO_nil ?_
     refine ci h (fun h => ?_) fun h => ?_
     ·refine W_regseq ?_
      refine ps 1 [(4, vi 2)] ?_
      refine WO_nil ?_
      refine W_ret ?_
      refine blockK_ret ?_
      refine seqK_ret ?_
      exact ret1 (v := vi 2) (t := 4) rfl rfl ⟨_, rfl, h⟩
     ·refine W_skip ?_
      refine blockK_normal ?_
      refine drs folM [[], [], [], [], [], [], [], [5, 6], [5, 6], [4, 5, 6], [4, 5, 6], [4, 5, 6], [4, 5, 6]] [.p 0, .p 1, .p 2, .p 3, .l 4, .l 5, .l 6, .p 7, .e 8, .e 9, .p 10, .p 11, .e 12] h ?_
      intro w4 ew h
      clear ew
      refine psC 2 [(28, vP s), (29, vP s)] ?_
      refine nnC h fun p2 h => ?_
      refine psC 1 [(31, vp (Addr.add p2 1))] ?_
      obtain ⟨x4_a, x4_n, x4_c, hx4, h⟩ := h
      refine ld1C tk117 hx4 ?_
      obtain ⟨x5, hx5, h⟩ := h
      refine ld1C tk9 hx5 ?_
      obtain ⟨x6, hx6, h⟩ := h
      refine ld1C tk5 hx6 ?_
      refine psC 1 [(35, vg [vs x5, vu x6, vl none 0 0])] ?_
      refine alsC 1 h ?_
      intro b1 w5 eb ew hb_b1 h
      replace hx4 := al_ld ew hx4
      clear eb ew hb_b1
      refine ⟨AllOk.cons (Pend_ok (ex_load rfl rfl (run_loadVar1 tk117 hx4))) <| AllOk.nil, ?_⟩
      refine apC h ?_
      rintro a1_a a1_n a1_c w6 h
      refine ⟨AllOk.nil, ?_⟩
      refine nnC h fun p3 h => ?_
      refine psC 1 [(39, vp (Addr.add p3 1))] ?_
      refine stC tk117 h ?_
      rintro w7 h
      refine ⟨AllOk.nil, ?_⟩
      refine WC_nil ?_
      refine W_regseq ?_
      refine ps 1 [(4, vi 0)] ?_
      refine WO_nil ?_
      refine W_ret ?_
      exact ret1 (v := vi 0) (t := 4) rfl rfl ⟨_, rfl, h⟩
def drawers_Ledger_SetValue.R (Q : Int → World → Prop) (l : Option Addr) (day : Int) (name : ByteArray) (grains : Int) (w : World) : Prop := (
  Al w (.cells #[vi day] 3) fun b1 w1 =>
      Al w1 (.cells #[vs name] 9) fun b2 w2 =>
      Al w2 (.cells #[vi grains] 3) fun b3 w3 =>
      LdI .i64 w3 ⟨b1, 0, none⟩ fun x1 =>
      Cl Pg 76 #[vP l, vi x1, .func (.func 152) #[] #[vp ⟨b2, 0, none⟩, vp ⟨b3, 0, none⟩, vp ⟨b1, 0, none⟩]] w3 (fun v w4 => ∃ (r1 : Int), v = vi r1 ∧ Q r1 w4))
theorem drawers_Ledger_SetValue.ok {Q : Int → World → Prop} {l : Option Addr} {day : Int} {name : ByteArray} {grains : Int} {w : World} (h : drawers_Ledger_SetValue.R Q l day name grains w) : Cl Pg 99 #[vP l, vi day, vs name, vi grains] w (fun v w' => ∃ (r0 : Int), v = vi r0 ∧ Q r0 w') := by
 refine calls_args (args := [vP l, vi day, vs name, vi grains]) Tryz.func99 ?_
 unfold drawers_Ledger_SetValue.R at h
 refine W_regseq ?_
 refine alp h ?_
 intro b1 w1 eb ew hb_b1 h
 clear eb ew hb_b1
 refine alp h ?_
 intro b2 w2 eb ew hb_b2 h
 clear eb ew hb_b2
 refine alp h ?_
 intro b3 w3 eb ew hb_b3 h
 clear eb ew hb_b3
 refine ps 1 [(8, vi 0)] ?_
 refine WO_nil ?_
 refine W_regseq ?_
 refine ps 1 [(9, vP l)] ?_
 obtain ⟨x1, hx1, h⟩ := h
 refine ld1 tk3 hx1 ?_
 refine ps 1 [(11, .func (.func 152) #[] #[vp ⟨b2, 0, none⟩, vp ⟨b3, 0, none⟩, vp ⟨b1, 0, none⟩])] ?_
 refine cl h ?_
 rintro _ w4 ⟨r1, rfl, h⟩
 refine ps 1 [(8, vi r1)] ?_
 refine WO_nil ?_
 refine W_ret ?_
 exact ret1 (v := vi r1) (t := 8) rfl rfl ⟨_, rfl, h⟩
end Go.Proofs.YtcbijkakoepglaaGreat
