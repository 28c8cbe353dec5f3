/- The law DrawersBalanced holds. Conditions: none. -/
import Derived.Test.YtcbijkakoepglaaGreatKB6
import Derived.Test.YtcbijkakoepglaaGreatRows
import Derived.JoinedOf
set_option linter.all false
namespace Go.Proofs.YtcbijkakoepglaaGreat
open Go Go.Wx

/-! ### the moves -/
/-- a lot turns: x becomes x', n of its unit goes from (fk, fi) to (tk, ti) for the reason why. -/
inductive Turn (x : TLot) : TLot → Int → Int → Int → Int → Int → Int → Prop where
  | forfeit : x.State = 1 → Turn x { x with State := 3 } x.Left 2 x.Thing 4 0 3
  | pay (person : Int) : x.State = 1 → isId person = true → Turn x { x with State := 2, Left := 0 } x.Left 2 x.Thing 3 person 2
  | part (person m : Int) : x.State = 1 → 1 ≤ m → m ≤ x.Left → isId person = true → Turn x (cvLot x m) m 2 x.Thing 3 person 2
  | swap (m : Int) : x.State = 1 → 1 ≤ m → m ≤ x.Left → Turn x (cvLot x m) m 2 x.Thing 6 0 5
  | lose : x.State = 1 → Turn x { x with State := 5 } x.Left 2 x.Thing 5 0 6
  | recover : x.State = 5 → Turn x { x with State := 1 } x.Left 5 0 2 x.Thing 7
  | dispatch (bag : Int) : x.State = 1 → isId bag = true → Turn x { x with State := 6, Bag := bag } x.Left 2 x.Thing 7 bag 8
  | arrive : x.State = 6 → Turn x { x with State := 7, Left := 0 } x.Left 7 x.Bag 1 0 9
  | refund (person : Int) : x.State = 3 → isId person = true → 0 < restR x → Turn x { x with State := 4, Left := 0 } (restR x) 4 0 3 person 4
structure LotIn (M : MState) (x : TLot) : Prop where
  thing : isId x.Thing = true
  unit : 0 ≤ M.find x.Unit
  n1 : 1 ≤ x.N
  n2 : x.N ≤ 1000000000
  left : x.Left = x.N
inductive Move : MState → MState → Prop where
  | turn {M : MState} {i : Nat} {x x' : TLot} {n fk fi tk ti why : Int} : M.lots[i]? = some x → Turn x x' n fk fi tk ti why → Move M ((M.post ⟨M.day, x.Unit, n, fk, fi, tk, ti, why, x.Id⟩).setLot i x')
  | keep {M : MState} {i : Nat} {x : TLot} : M.lots[i]? = some x → x.State = 3 → ¬ 0 < restR x → Move M (M.setLot i { x with State := 4, Left := 0 })
  | enter {M : MState} {x : TLot} {fk why : Int} : (fk = 1 ∧ (why = 1 ∨ why = 10) ∨ fk = 6 ∧ why = 5) → LotIn M x → M.lots.length < 2000 → Move M (M.enter x fk 0 why)
  | day {M : MState} {d : Int} : M.day ≤ d → d ≤ 100000 → Move M { M with day := d }
  | unit {M : MState} {name : ByteArray} {kind : Int} : named name = true → M.find name < 0 → Move M { M with units := M.units ++ [⟨name, kind, []⟩] }
  | value {M : MState} {i : Nat} {u : MUnit} {g : Int} : M.units[i]? = some u → 1 ≤ g → g ≤ 100000 → Move M { M with units := M.units.set i { u with values := u.values ++ [⟨M.day, g⟩] } }
  | term {M : MState} {t : Tterm} : t.day = M.day → 1 ≤ t.days → t.days ≤ 40000 → Move M { M with terms := M.terms ++ [t] }
inductive Moves : MState → MState → Prop where
  | refl {M : MState} : Moves M M
  | tail {M M1 M2 : MState} : Moves M M1 → Move M1 M2 → Moves M M2
theorem Moves.one {M M' : MState} (h : Move M M') : Moves M M' := .tail .refl h
theorem Moves.trans {M M1 M2 : MState} (h : Moves M M1) (h2 : Moves M1 M2) : Moves M M2 := by
  induction h2 with
  | refl => exact h
  | tail _ h3 ih => exact .tail ih h3
theorem Moves.head {M M1 M2 : MState} (h : Move M M1) (h2 : Moves M1 M2) : Moves M M2 := (Moves.one h).trans h2

/-! ### what every move keeps -/
structure LotOk (M : MState) (x : TLot) : Prop where
  thing : isId x.Thing = true
  unit : 0 ≤ M.find x.Unit
  n1 : 1 ≤ x.N
  n2 : x.N ≤ 1000000000
  live : ((x.State = 1 ∨ x.State = 3 ∨ x.State = 5 ∨ x.State = 6) ∧ 1 ≤ x.Left ∧ x.Left ≤ x.N) ∨ ((x.State = 2 ∨ x.State = 4 ∨ x.State = 7) ∧ x.Left = 0)
  bag : x.State = 6 → isId x.Bag = true
structure J (M : MState) : Prop where
  ids : IdOk M
  lots : ∀ x ∈ M.lots, LotOk M x
  terms : ∀ t ∈ M.terms, 1 ≤ t.days ∧ t.days ≤ 40000
  units : ∀ u ∈ M.units, named u.name = true
  grains : ∀ u ∈ M.units, ∀ v ∈ u.values, 1 ≤ v.grains ∧ v.grains ≤ 100000
  d0 : 0 ≤ M.day
  d1 : M.day ≤ 100000
  len : M.lots.length ≤ 2000
theorem find_any (M : MState) (name : ByteArray) : decide (M.find name ≥ 0) = M.units.any (fun u => strEq u.name name) := idxI_ge _ _
theorem find_mono {M M' : MState} (h : ∀ n, M.units.any (fun u => strEq u.name n) = true → M'.units.any (fun u => strEq u.name n) = true) {name : ByteArray} (hn : 0 ≤ M.find name) : 0 ≤ M'.find name := by
  have h1 := find_any M name
  rw [decide_eq_true hn] at h1
  have h2 := find_any M' name
  rw [h name h1.symm] at h2
  exact of_decide_eq_true h2
theorem LotOk.mono {M M' : MState} (h : ∀ n, M.units.any (fun u => strEq u.name n) = true → M'.units.any (fun u => strEq u.name n) = true) {x : TLot} (hx : LotOk M x) : LotOk M' x :=
  ⟨hx.thing, find_mono h hx.unit, hx.n1, hx.n2, hx.live, hx.bag⟩
theorem LotOk.same {M : MState} {x : TLot} (hx : LotOk M x) (M' : MState) (h : M'.units = M.units) : LotOk M' x := hx.mono fun n => by rw [h]; exact id
theorem Turn.id {x x' : TLot} {n fk fi tk ti why : Int} (h : Turn x x' n fk fi tk ti why) : x'.Id = x.Id := by cases h <;> rfl
theorem cvLot_ok {x : TLot} {m : Int} (hl : x.Left ≤ 1000000000) (h1 : 1 ≤ m) (h2 : m ≤ x.Left) : (cvLot x m).Left = x.Left - m ∧ (cvLot x m).State = if x.Left - m = 0 then 2 else x.State := by
  have : wr (x.Left - m) = x.Left - m := wrap_id (by omega) (by omega)
  unfold cvLot
  simp only [this, and_self]
theorem Turn.ok {M : MState} {x x' : TLot} {n fk fi tk ti why : Int} (h : Turn x x' n fk fi tk ti why) (hx : LotOk M x) : LotOk M x' := by
  obtain ⟨h1, h2, h3, h4, h5, h6⟩ := hx
  cases h with
  | forfeit hs => exact ⟨h1, h2, h3, h4, .inl ⟨.inr (.inl rfl), by show 1 ≤ x.Left; omega, by show x.Left ≤ x.N; omega⟩, fun h => by simp at h⟩
  | pay p hs => exact ⟨h1, h2, h3, h4, .inr ⟨.inl rfl, rfl⟩, fun h => by simp at h⟩
  | part p m hs k1 k2 =>
    have hl : x.Left ≤ x.N := by omega
    obtain ⟨e1, e2⟩ := cvLot_ok (by omega) k1 k2
    refine ⟨h1, h2, h3, h4, ?_, ?_⟩
    · rw [e1, e2]
      by_cases hz : x.Left - n = 0
      · rw [if_pos hz]; exact .inr ⟨.inl rfl, hz⟩
      · rw [if_neg hz]; exact .inl ⟨.inl hs, by omega, by show x.Left - n ≤ x.N; omega⟩
    · rw [e2]; split
      · intro h; simp at h
      · intro h; omega
  | swap m hs k1 k2 =>
    have hl : x.Left ≤ x.N := by omega
    obtain ⟨e1, e2⟩ := cvLot_ok (by omega) k1 k2
    refine ⟨h1, h2, h3, h4, ?_, ?_⟩
    · rw [e1, e2]
      by_cases hz : x.Left - n = 0
      · rw [if_pos hz]; exact .inr ⟨.inl rfl, hz⟩
      · rw [if_neg hz]; exact .inl ⟨.inl hs, by omega, by show x.Left - n ≤ x.N; omega⟩
    · rw [e2]; split
      · intro h; simp at h
      · intro h; omega
  | lose hs => exact ⟨h1, h2, h3, h4, .inl ⟨.inr (.inr (.inl rfl)), by show 1 ≤ x.Left; omega, by show x.Left ≤ x.N; omega⟩, fun h => by simp at h⟩
  | recover hs => exact ⟨h1, h2, h3, h4, .inl ⟨.inl rfl, by show 1 ≤ x.Left; omega, by show x.Left ≤ x.N; omega⟩, fun h => by simp at h⟩
  | dispatch b hs hb => exact ⟨h1, h2, h3, h4, .inl ⟨.inr (.inr (.inr rfl)), by show 1 ≤ x.Left; omega, by show x.Left ≤ x.N; omega⟩, fun _ => hb⟩
  | arrive hs => exact ⟨h1, h2, h3, h4, .inr ⟨.inr (.inr rfl), rfl⟩, fun h => by simp at h⟩
  | refund p hs => exact ⟨h1, h2, h3, h4, .inr ⟨.inr (.inl rfl), rfl⟩, fun h => by simp at h⟩
theorem J.set {M : MState} (h : J M) {i : Nat} {x x' : TLot} (hx : M.lots[i]? = some x) (hi : x'.Id = x.Id) (ho : LotOk M x') : J (M.setLot i x') :=
  ⟨h.ids.setLot hx hi, fun y hy => by
    rcases List.mem_or_eq_of_mem_set hy with hy | hy
    · exact (h.lots y hy).same (M.setLot i x') rfl
    · rw [hy]; exact ho.same (M.setLot i x') rfl, h.terms, h.units, h.grains, h.d0, h.d1, by simp [MState.setLot]; exact h.len⟩
theorem J.post {M : MState} (h : J M) (p : TPosting) : J (M.post p) := ⟨h.ids, fun y hy => (h.lots y hy).same (M.post p) rfl, h.terms, h.units, h.grains, h.d0, h.d1, h.len⟩
theorem Move.j {M M' : MState} (hm : Move M M') (h : J M) : J M' := by
  cases hm with
  | turn hx ht => exact (h.post _).set hx ht.id ((ht.ok (h.lots _ (List.mem_of_getElem? hx))).same (M.post _) rfl)
  | keep hx hs hr =>
    have hk := h.lots _ (List.mem_of_getElem? hx)
    exact h.set hx rfl ⟨hk.thing, hk.unit, hk.n1, hk.n2, .inr ⟨.inr (.inl rfl), rfl⟩, fun h => by simp at h⟩
  | enter hw hl hlen =>
    rename_i x fk why
    refine ⟨enter_ids h.ids _ _ _ _, fun y hy => ?_, h.terms, h.units, h.grains, h.d0, h.d1, by simp [MState.enter]; omega⟩
    rcases List.mem_append.1 hy with hy | hy
    · exact (h.lots y hy).same (M.enter x fk 0 why) rfl
    · simp at hy
      subst hy
      have := hl.left
      have := hl.n1
      exact ⟨hl.thing, hl.unit, hl.n1, hl.n2, .inl ⟨.inl rfl, by show 1 ≤ x.Left; omega, by show x.Left ≤ x.N; omega⟩, fun h => by simp at h⟩
  | day h1 h2 => exact ⟨h.ids, fun y hy => LotOk.same (h.lots y hy) _ rfl, h.terms, h.units, h.grains, Int.le_trans h.d0 h1, h2, h.len⟩
  | unit hn hf =>
    refine ⟨h.ids, fun y hy => (h.lots y hy).mono fun n hn => by simp only [List.any_append, hn, Bool.true_or], h.terms, fun u hu => ?_, fun u hu v hv => ?_, h.d0, h.d1, h.len⟩
    · rcases List.mem_append.1 hu with hu | hu
      · exact h.units u hu
      · simp at hu; subst hu; exact hn
    · rcases List.mem_append.1 hu with hu | hu
      · exact h.grains u hu v hv
      · simp at hu; subst hu; cases hv
  | value hu g1 g2 =>
    rename_i i u g
    refine ⟨h.ids, fun y hy => (h.lots y hy).mono fun n hn => ?_, h.terms, fun v hv => ?_, fun y hy v hv => ?_, h.d0, h.d1, h.len⟩
    · rw [List.any_eq_true] at hn ⊢
      obtain ⟨v, hv, he⟩ := hn
      obtain ⟨j, hj⟩ := List.getElem?_of_mem hv
      by_cases hij : i = j
      · subst hij
        rw [hu] at hj
        cases hj
        exact ⟨{ u with values := u.values ++ [⟨M.day, g⟩] }, List.mem_of_getElem? (by rw [List.getElem?_set_self (List.getElem?_eq_some_iff.1 hu).1]), he⟩
      · exact ⟨v, List.mem_of_getElem? (by rw [List.getElem?_set_ne hij]; exact hj), he⟩
    · rcases List.mem_or_eq_of_mem_set hv with hv | hv
      · exact h.units v hv
      · rw [hv]; exact h.units u (List.mem_of_getElem? hu)
    · rcases List.mem_or_eq_of_mem_set hy with hy | hy
      · exact h.grains y hy v hv
      · subst hy
        rcases List.mem_append.1 hv with hv | hv
        · exact h.grains u (List.mem_of_getElem? hu) v hv
        · simp at hv; subst hv; exact ⟨g1, g2⟩
  | term h1 h2 h3 =>
    refine ⟨h.ids, fun y hy => LotOk.same (h.lots y hy) _ rfl, fun t ht => ?_, h.units, h.grains, h.d0, h.d1, h.len⟩
    rcases List.mem_append.1 ht with ht | ht
    · exact h.terms t ht
    · simp at ht; subst ht; exact ⟨h2, h3⟩
theorem Moves.j {M M' : MState} (hm : Moves M M') (h : J M) : J M' := by
  induction hm with
  | refl => exact h
  | tail _ h2 ih => exact h2.j ih
end Go.Proofs.YtcbijkakoepglaaGreat
namespace Go.Proofs.YtcbijkakoepglaaGreat
open Go Go.Wx

/-- lots that are open are due later. -/
def OL (M : MState) : Prop := ∀ x ∈ M.lots, x.State = 1 → M.day < x.Due
theorem Move.day_le {M M' : MState} (h : Move M M') : M.day ≤ M'.day := by
  cases h <;> first | exact Int.le_refl _ | assumption
theorem Moves.day_le {M M' : MState} (h : Moves M M') : M.day ≤ M'.day := by
  induction h with
  | refl => exact Int.le_refl _
  | tail _ h2 ih => exact Int.le_trans ih h2.day_le

/-! ### forfeits -/
theorem forfeit_day (M : MState) (id q d : Int) : ({ M with day := d } : MState).forfeit id q = { M.forfeit id q with day := d } := by
  unfold MState.forfeit
  simp only
  cases M.lots[(id - 1).toNat]? <;> rfl
theorem forfeits_day : ∀ (l : List (Int × Int)) (M : MState) (d : Int), ({ M with day := d } : MState).forfeits l = { M.forfeits l with day := d }
  | [], _, _ => rfl
  | a :: l, M, d => by
    show (({ M with day := d } : MState).forfeit a.1 a.2).forfeits l = { (M.forfeit a.1 a.2).forfeits l with day := d }
    rw [forfeit_day, forfeits_day l]
theorem id_at {M : MState} (hI : IdOk M) {x : TLot} {i : Nat} (h : M.lots[i]? = some x) : (x.Id - 1).toNat = i := by
  have := hI i x h
  omega
theorem forfeit_at {M : MState} {x : TLot} (h : M.lots[(x.Id - 1).toNat]? = some x) (q : Int) : M.forfeit x.Id q = (M.post ⟨q, x.Unit, x.Left, 2, x.Thing, 4, 0, 3, x.Id⟩).setLot (x.Id - 1).toNat { x with State := 3 } := by
  unfold MState.forfeit
  rw [h]
theorem rest_at {M : MState} (hI : IdOk M) {x x' : TLot} {ds : List TLot} (hx : M.lots[(x.Id - 1).toNat]? = some x) (hn : ((x :: ds).map (·.Id)).Nodup) {y : TLot} (hy : y ∈ ds) (h : M.lots[(y.Id - 1).toNat]? = some y) : (M.lots.set (x.Id - 1).toNat x')[(y.Id - 1).toNat]? = some y := by
  rw [List.getElem?_set_ne, h]
  intro e
  have h1 := hI _ _ hx
  have h2 := hI _ _ h
  rw [List.map_cons, List.nodup_cons] at hn
  exact hn.1 (List.mem_map.2 ⟨y, hy, by omega⟩)
theorem forfeits_moves (q : TLot → Int) {D : Int} (hD : D ≤ 100000) : ∀ (ds : List TLot) (M : MState), IdOk M → (∀ x ∈ ds, M.lots[(x.Id - 1).toNat]? = some x ∧ x.State = 1) → (ds.map (·.Id)).Nodup → (ds.Pairwise fun x y => q x ≤ q y) → (∀ x ∈ ds, M.day ≤ q x ∧ q x ≤ D) → M.day ≤ D →
    ∃ M', Moves M M' ∧ M'.day ≤ D ∧ M.forfeits (ds.map fun x => (x.Id, q x)) = { M' with day := M.day }
  | [], M, _, _, _, _, _, hd => ⟨M, .refl, hd, rfl⟩
  | x :: ds, M, hI, hat, hn, hs, hq, hd => by
    obtain ⟨hx, hst⟩ := hat x List.mem_cons_self
    obtain ⟨q1, q2⟩ := hq x List.mem_cons_self
    obtain ⟨s1, s2⟩ := List.pairwise_cons.1 hs
    have m1 : Move M { M with day := q x } := .day q1 (Int.le_trans q2 hD)
    have m2 : Move { M with day := q x } ((({ M with day := q x } : MState).post ⟨q x, x.Unit, x.Left, 2, x.Thing, 4, 0, 3, x.Id⟩).setLot (x.Id - 1).toNat { x with State := 3 }) := .turn (M := { M with day := q x }) hx (.forfeit hst)
    have hI2 : IdOk ((({ M with day := q x } : MState).post ⟨q x, x.Unit, x.Left, 2, x.Thing, 4, 0, 3, x.Id⟩).setLot (x.Id - 1).toNat { x with State := 3 }) := IdOk.setLot (M := M.post ⟨q x, x.Unit, x.Left, 2, x.Thing, 4, 0, 3, x.Id⟩) hI hx rfl
    obtain ⟨M', h1, h2, h3⟩ := forfeits_moves q hD ds _ hI2 (fun y hy => ⟨rest_at hI hx hn hy (hat y (List.mem_cons_of_mem _ hy)).1, (hat y (List.mem_cons_of_mem _ hy)).2⟩) (by rw [List.map_cons, List.nodup_cons] at hn; exact hn.2) s2 (fun y hy => ⟨s1 y hy, (hq y (List.mem_cons_of_mem _ hy)).2⟩) q2
    refine ⟨M', .head m1 (.head m2 h1), h2, ?_⟩
    show (M.forfeit x.Id (q x)).forfeits (ds.map fun x => (x.Id, q x)) = _
    rw [forfeit_at hx]
    have e : (M.post ⟨q x, x.Unit, x.Left, 2, x.Thing, 4, 0, 3, x.Id⟩).setLot (x.Id - 1).toNat { x with State := 3 } = { ((({ M with day := q x } : MState).post ⟨q x, x.Unit, x.Left, 2, x.Thing, 4, 0, 3, x.Id⟩).setLot (x.Id - 1).toNat { x with State := 3 }) with day := M.day } := rfl
    rw [e, forfeits_day, h3]
theorem forfeits_open (q : TLot → Int) : ∀ (ds : List TLot) (M : MState), IdOk M → (∀ x ∈ ds, M.lots[(x.Id - 1).toNat]? = some x) → (ds.map (·.Id)).Nodup →
    ∀ y ∈ (M.forfeits (ds.map fun x => (x.Id, q x))).lots, y.State = 1 → y ∈ M.lots ∧ y ∉ ds
  | [], M, _, _, _, y, hy, _ => ⟨hy, by simp⟩
  | x :: ds, M, hI, hat, hn, y, hy, hs => by
    have hx := hat x List.mem_cons_self
    have hI2 : IdOk ((M.post ⟨q x, x.Unit, x.Left, 2, x.Thing, 4, 0, 3, x.Id⟩).setLot (x.Id - 1).toNat { x with State := 3 }) := IdOk.setLot (M := M.post ⟨q x, x.Unit, x.Left, 2, x.Thing, 4, 0, 3, x.Id⟩) hI hx rfl
    have hy : y ∈ ((M.forfeit x.Id (q x)).forfeits (ds.map fun x => (x.Id, q x))).lots := hy
    rw [forfeit_at hx] at hy
    obtain ⟨h1, h2⟩ := forfeits_open q ds _ hI2 (fun z hz => rest_at hI hx hn hz (hat z (List.mem_cons_of_mem _ hz))) (by rw [List.map_cons, List.nodup_cons] at hn; exact hn.2) y hy hs
    have h1 : y ∈ M.lots.set (x.Id - 1).toNat { x with State := 3 } := h1
    obtain ⟨j, hj⟩ := List.getElem?_of_mem h1
    by_cases e : (x.Id - 1).toNat = j
    · subst e
      rw [List.getElem?_set_self (List.getElem?_eq_some_iff.1 hx).1] at hj
      cases hj
      simp at hs
    · rw [List.getElem?_set_ne e] at hj
      refine ⟨List.mem_of_getElem? hj, fun hm => ?_⟩
      rcases List.mem_cons.1 hm with rfl | hm
      · exact e (id_at hI hj)
      · exact h2 hm
theorem mem_due {M : MState} {d : Int} {x : TLot} : x ∈ M.due d ↔ x ∈ M.lots ∧ x.State = 1 ∧ x.Due ≤ d := by
  unfold MState.due
  rw [(isort_perm _).mem_iff, List.mem_filter]
  simp [isDue]
theorem ids_nodup {M : MState} (hI : IdOk M) : (M.lots.map (·.Id)).Nodup := by
  rw [List.Nodup, List.pairwise_iff_getElem]
  intro i j hi hj hij
  simp only [List.length_map] at hi hj
  rw [List.getElem_map, List.getElem_map]
  have h1 := hI i _ (List.getElem?_eq_getElem hi)
  have h2 := hI j _ (List.getElem?_eq_getElem hj)
  omega
theorem due_nodup {M : MState} (hI : IdOk M) (d : Int) : ((M.due d).map (·.Id)).Nodup := by
  unfold MState.due
  refine ((isort_perm _).map _).nodup_iff.2 ?_
  exact (ids_nodup hI).sublist ((List.filter_sublist).map _)
theorem due_at {M : MState} (hI : IdOk M) {d : Int} {x : TLot} (hx : x ∈ M.due d) : M.lots[(x.Id - 1).toNat]? = some x := by
  obtain ⟨j, hj⟩ := List.getElem?_of_mem (mem_due.1 hx).1
  rw [id_at hI hj]; exact hj
theorem due_sorted (M : MState) (d : Int) : (M.due d).Pairwise fun x y => x.Due ≤ y.Due := by
  unfold MState.due
  refine (isort_asc swoLot _).imp fun {x y} h => ?_
  rw [ltLot_false] at h
  omega
theorem advance_moves {M : MState} (hJ : J M) (hO : OL M) {day : Int} (h1 : M.day ≤ day) (h2 : day ≤ 100000) : Moves M (M.advance day) ∧ OL (M.advance day) := by
  have hI := hJ.ids
  obtain ⟨M', hm, hd, e⟩ := forfeits_moves (fun x => x.Due) h2 (M.due day) M hI (fun x hx => ⟨due_at hI hx, (mem_due.1 hx).2.1⟩) (due_nodup hI day) (due_sorted M day) (fun x hx => by
    obtain ⟨k1, k2, k3⟩ := mem_due.1 hx
    have := hO x k1 k2
    exact ⟨by omega, k3⟩) h1
  constructor
  · unfold MState.advance
    rw [e]
    exact hm.tail (.day hd h2)
  · intro x hx hs
    have hx : x ∈ (M.forfeits ((M.due day).map fun x => (x.Id, x.Due))).lots := hx
    obtain ⟨k1, k2⟩ := forfeits_open (fun x => x.Due) (M.due day) M hI (fun x hx => due_at hI hx) (due_nodup hI day) x hx hs
    show day < x.Due
    apply Classical.byContradiction
    intro hc
    exact k2 (mem_due.2 ⟨k1, hs, by omega⟩)
theorem late_moves {M : MState} (hJ : J M) : Moves M M.late ∧ OL M.late ∧ M.late.day = M.day := by
  have hI := hJ.ids
  obtain ⟨M', hm, hd, e⟩ := forfeits_moves (fun _ => M.day) hJ.d1 (M.due M.day) M hI (fun x hx => ⟨due_at hI hx, (mem_due.1 hx).2.1⟩) (due_nodup hI _) (List.pairwise_of_forall fun _ _ => Int.le_refl _) (fun x hx => ⟨Int.le_refl _, Int.le_refl _⟩) (Int.le_refl _)
  have hday : M'.day = M.day := Int.le_antisymm hd hm.day_le
  have e : M.late = M' := by
    unfold MState.late
    rw [e, ← hday]
  refine ⟨by rw [e]; exact hm, fun x hx hs => ?_, by rw [e]; exact hday⟩
  have hx : x ∈ (M.forfeits ((M.due M.day).map fun x => (x.Id, M.day))).lots := hx
  obtain ⟨k1, k2⟩ := forfeits_open (fun _ => M.day) (M.due M.day) M hI (fun x hx => due_at hI hx) (due_nodup hI _) x hx hs
  rw [e, hday]
  apply Classical.byContradiction
  intro hc
  exact k2 (mem_due.2 ⟨k1, hs, by omega⟩)

/-! ### the other parts -/
theorem each_moves {M : MState} {sel : TLot → Bool} {upd : TLot → TLot} {mk : TLot → TPosting} (hsel : ∀ x ∈ M.lots, sel x = true → ∃ n fk fi tk ti why, Turn x (upd x) n fk fi tk ti why ∧ mk x = ⟨M.day, x.Unit, n, fk, fi, tk, ti, why, x.Id⟩) : Moves M (M.each sel upd mk) := by
  rw [← eachTo_all]
  have : ∀ i, i ≤ M.lots.length → Moves M (M.eachTo sel upd mk i) := by
    intro i
    induction i with
    | zero => intro _; unfold MState.eachTo; simp; exact .refl
    | succ i ih =>
      intro hi
      have hx : M.lots[i]? = some M.lots[i] := List.getElem?_eq_getElem (by omega)
      rw [eachTo_step hx]
      split
      · rename_i hs
        obtain ⟨n, fk, fi, tk, ti, why, ht, e⟩ := hsel _ (List.mem_of_getElem? hx) hs
        rw [e]
        exact (ih (by omega)).tail (.turn (M := M.eachTo sel upd mk i) (eachTo_get hx) ht)
      · exact ih (by omega)
  exact this _ (Nat.le_refl _)
theorem refTo_all (M : MState) (day thing person : Int) : M.refTo day thing person M.lots.length = M.ref day thing person := by
  unfold MState.refTo MState.ref; simp
theorem ref_moves {M : MState} {thing person : Int} (hp : isId person = true) : Moves M (M.ref M.day thing person) := by
  rw [← refTo_all]
  have : ∀ i, i ≤ M.lots.length → Moves M (M.refTo M.day thing person i) := by
    intro i
    induction i with
    | zero => intro _; unfold MState.refTo; simp; exact .refl
    | succ i ih =>
      intro hi
      have hx : M.lots[i]? = some M.lots[i] := List.getElem?_eq_getElem (by omega)
      generalize hxx : M.lots[i] = x at hx
      rw [refTo_step hx]
      have ih := ih (by omega)
      have hg := refTo_get (day := M.day) (thing := thing) (person := person) hx
      by_cases hs : (selF thing x && okR M.day x) = true
      · have hst : x.State = 3 := by
          simp only [Bool.and_eq_true, selF, beq_iff_eq] at hs
          exact hs.1.2
        by_cases hr : 0 < restR x
        · have e1 : updR M.day thing x = { x with State := 4, Left := 0 } := by unfold updR; rw [if_pos hs]
          have e2 : mkR M.day thing person x = some ⟨M.day, x.Unit, restR x, 4, 0, 3, person, 4, x.Id⟩ := by unfold mkR; rw [hs, decide_eq_true hr]; rfl
          rw [e1, e2]
          exact ih.tail (.turn (M := M.refTo M.day thing person i) hg (.refund person hst hp hr))
        · have e1 : updR M.day thing x = { x with State := 4, Left := 0 } := by unfold updR; rw [if_pos hs]
          have e2 : mkR M.day thing person x = none := by unfold mkR; rw [hs, decide_eq_false hr]; rfl
          rw [e1, e2]
          have := ih.tail (.keep (M := M.refTo M.day thing person i) hg hst hr)
          simpa [MState.setLot, MState.refTo] using this
      · have e1 : updR M.day thing x = x := by unfold updR; rw [if_neg hs]
        have e2 : mkR M.day thing person x = none := by
          unfold mkR
          rw [if_neg]
          intro h
          rw [Bool.and_eq_true] at h
          exact hs h.1
        rw [e1, e2]
        have : ({ M with lots := (M.refTo M.day thing person i).lots.set i x, postings := (M.refTo M.day thing person i).postings ++ (none : Option TPosting).toList } : MState) = M.refTo M.day thing person i := by
          have hset : (M.refTo M.day thing person i).lots.set i x = (M.refTo M.day thing person i).lots := by
            obtain ⟨hl, hg'⟩ := List.getElem?_eq_some_iff.1 hg
            rw [← hg']; exact List.set_getElem_self hl
          rw [hset]; simp [MState.refTo]
        rw [this]; exact ih
  exact this _ (Nat.le_refl _)
end Go.Proofs.YtcbijkakoepglaaGreat
namespace Go.Proofs.YtcbijkakoepglaaGreat
open Go Go.Wx

theorem oper_moves {M : MState} (hJ : J M) (hO : OL M) {day : Int} {g : MState → Int × MState} (hg : ∀ A, J A → OL A → A.day = day → (g A).1 = 0 → Moves A (g A).2 ∧ OL (g A).2) : Moves M (M.oper day g).2 ∧ OL (M.oper day g).2 := by
  unfold MState.oper
  split
  · exact ⟨.refl, hO⟩
  rename_i h1
  split
  · exact ⟨.refl, hO⟩
  rename_i h2
  split
  · exact ⟨.refl, hO⟩
  rename_i h3
  split
  · exact ⟨.refl, hO⟩
  obtain ⟨a1, a2⟩ := advance_moves hJ hO (day := day) (by omega) (by omega)
  obtain ⟨b1, b2⟩ := hg (M.advance day) (a1.j hJ) a2 rfl (by simpa using h3)
  exact ⟨a1.trans b1, b2⟩
theorem operO_moves {α : Type} {M : MState} (hJ : J M) (hO : OL M) {z : α} {day : Int} {g : MState → Int × MState × α} (hg : ∀ A, J A → OL A → A.day = day → (g A).1 = 0 → Moves A (g A).2.1 ∧ OL (g A).2.1) : Moves M (M.operO z day g).2.1 ∧ OL (M.operO z day g).2.1 := by
  unfold MState.operO
  split
  · exact ⟨.refl, hO⟩
  rename_i h1
  split
  · exact ⟨.refl, hO⟩
  rename_i h2
  split
  · exact ⟨.refl, hO⟩
  rename_i h3
  split
  · exact ⟨.refl, hO⟩
  obtain ⟨a1, a2⟩ := advance_moves hJ hO (day := day) (by omega) (by omega)
  obtain ⟨b1, b2⟩ := hg (M.advance day) (a1.j hJ) a2 rfl (by simpa using h3)
  exact ⟨a1.trans b1, b2⟩
theorem each_ol {M : MState} (hO : OL M) {sel : TLot → Bool} {upd : TLot → TLot} {mk : TLot → TPosting} (hu : ∀ x, (upd x).State ≠ 1) : OL (M.each sel upd mk) := by
  intro x hx hs
  obtain ⟨y, hy, rfl⟩ := List.mem_map.1 (show x ∈ M.lots.map fun x => if sel x then upd x else x from hx)
  split at hs
  · exact absurd hs (hu y)
  · rename_i hn
    rw [if_neg hn]
    exact hO y hy hs
theorem term_le {M : MState} (h : ∀ t ∈ M.terms, 1 ≤ t.days ∧ t.days ≤ 40000) (name : ByteArray) (n day : Int) : M.term name n day ≤ 40000 := by
  unfold MState.term
  have : ∀ (l : List Tterm) (b : Tterm), b.days ≤ 40000 → (∀ t ∈ l, 1 ≤ t.days ∧ t.days ≤ 40000) → (termOn name n day b l).days ≤ 40000 := by
    intro l
    induction l with
    | nil => intro b hb _; exact hb
    | cons t l ih =>
      intro b hb hl
      unfold termOn
      refine ih _ ?_ fun t ht => hl t (List.mem_cons_of_mem _ ht)
      split
      · exact (hl t List.mem_cons_self).2
      · exact hb
  exact this _ _ (by simp) h
theorem due_gt {M : MState} (h : ∀ t ∈ M.terms, 1 ≤ t.days ∧ t.days ≤ 40000) {day : Int} (d0 : 0 ≤ day) (d1 : day ≤ 100000) (g : TAmount) : day < dueOf M day g ∧ dueOf M day g ≤ 100001 := by
  have ht := term_le h g.Unit g.N day
  unfold dueOf
  simp only
  split
  · rename_i h0
    have e : wr (day + M.term g.Unit g.N day) = day + M.term g.Unit g.N day := wrap_id (by omega) (by omega)
    rw [e]
    split <;> omega
  · omega
theorem enter_ol {M : MState} (hO : OL M) {x : TLot} {fk fi why : Int} (h : M.day < x.Due) : OL (M.enter x fk fi why) := by
  intro y hy hs
  rcases List.mem_append.1 (show y ∈ M.lots ++ [{ x with Id := M.nextId, State := 1, Bag := 0 }] from hy) with hy | hy
  · exact hO y hy hs
  · simp at hy; subst hy; exact h
theorem goods_ok {M : MState} : ∀ {gs : List TAmount} {q : Option TAmount}, goodsBad M q gs = 0 → ∀ g ∈ gs, 1 ≤ g.N ∧ g.N ≤ 1000000000 ∧ 0 ≤ M.find g.Unit
  | [], _, _, _, h => by cases h
  | a :: gs, q, h, g, hg => by
    unfold goodsBad at h
    split at h
    · simp at h
    rename_i h1
    split at h
    · simp at h
    rename_i h2
    rcases List.mem_cons.1 hg with rfl | hg
    · exact ⟨by omega, by omega, by omega⟩
    · exact goods_ok h g hg
theorem deposit_moves {day thing layer : Int} (ht : isId thing = true) : ∀ (gs : List TAmount) {M : MState}, J M → OL M → M.day = day → (∀ g ∈ gs, 1 ≤ g.N ∧ g.N ≤ 1000000000 ∧ 0 ≤ M.find g.Unit) → M.lots.length + gs.length ≤ 2000 → Moves M (depositOn day thing layer M gs).1 ∧ OL (depositOn day thing layer M gs).1
  | [], M, _, hO, _, _, _ => ⟨.refl, hO⟩
  | g :: gs, M, hJ, hO, hd, hg, hl => by
    obtain ⟨g1, g2, g3⟩ := hg g List.mem_cons_self
    simp only [List.length_cons] at hl
    have hdue := due_gt hJ.terms (day := day) (by rw [← hd]; exact hJ.d0) (by rw [← hd]; exact hJ.d1) g
    have m : Move M (M.enter ⟨0, thing, layer, day, dueOf M day g, g.Unit, g.N, g.N, 0, 0⟩ 1 0 1) := .enter (.inl ⟨rfl, .inl rfl⟩) ⟨ht, g3, g1, g2, rfl⟩ (by omega)
    obtain ⟨h1, h2⟩ := deposit_moves ht gs (m.j hJ) (enter_ol hO (by rw [hd]; exact hdue.1)) hd (fun g hgm => hg g (List.mem_cons_of_mem _ hgm)) (by simp [MState.enter]; omega)
    exact ⟨.head m h1, h2⟩
theorem recv_ok {M : MState} : ∀ {ls : List TLot}, recvLook M ls = 0 → ∀ x ∈ ls, recvBad x = false ∧ 0 ≤ M.find x.Unit
  | [], _, _, h => by cases h
  | a :: ls, h, x, hx => by
    unfold recvLook at h
    split at h
    · simp at h
    rename_i h1
    split at h
    · simp at h
    rename_i h2
    rcases List.mem_cons.1 hx with rfl | hx
    · exact ⟨by simpa using h1, by omega⟩
    · exact recv_ok h x hx
theorem recv_moves {day : Int} : ∀ (ls : List TLot) {M : MState}, J M → M.day = day → (∀ x ∈ ls, recvBad x = false ∧ 0 ≤ M.find x.Unit) → M.lots.length + ls.length ≤ 2000 → Moves M (recvOn day M ls).1 ∧ (recvOn day M ls).1.day = day
  | [], M, _, hd, _, _ => ⟨.refl, hd⟩
  | x :: ls, M, hJ, hd, hg, hl => by
    obtain ⟨g1, g2⟩ := hg x List.mem_cons_self
    simp only [List.length_cons] at hl
    unfold recvBad at g1
    simp only [Bool.or_eq_false_iff, Bool.not_eq_false', decide_eq_false_iff_not] at g1
    have m : Move M (M.enter ⟨0, x.Thing, x.Layer, day, x.Due, x.Unit, x.Left, x.Left, 0, 0⟩ 1 0 10) := .enter (.inl ⟨rfl, .inr rfl⟩) ⟨g1.1.1.1.1.1.1, g2, by show 1 ≤ x.Left; omega, by show x.Left ≤ 1000000000; omega, rfl⟩ (by omega)
    obtain ⟨h1, h2⟩ := recv_moves ls (m.j hJ) hd (fun y hy => hg y (List.mem_cons_of_mem _ hy)) (by simp [MState.enter]; omega)
    exact ⟨.head m h1, h2⟩
theorem wr_range (x : Int) : -9223372036854775808 ≤ wr x ∧ wr x ≤ 9223372036854775807 := by
  show -9223372036854775808 ≤ IntKind.wrap .i64 x ∧ IntKind.wrap .i64 x ≤ 9223372036854775807
  rw [IntKind.wrap_i64]
  omega
theorem sumLeft_le : ∀ (l : List TLot) (v : Int), v ≤ 9223372036854775807 → sumLeft v l ≤ 9223372036854775807
  | [], _, h => h
  | x :: l, v, _ => sumLeft_le l _ (wr_range _).2
theorem cv_ol {M : MState} (hO : OL M) {i : Nat} {x : TLot} (hx : M.lots[i]? = some x) (hs : x.State = 1) (m : Int) (p : TPosting) : OL ((M.setLot i (cvLot x m)).post p) := by
  intro y hy h1
  rcases List.mem_or_eq_of_mem_set (show y ∈ M.lots.set i (cvLot x m) from hy) with hy | hy
  · exact hO y hy h1
  · rw [hy]; exact hO x (List.mem_of_getElem? hx) hs
theorem take_moves {thing person : Int} {name : ByteArray} (hp : isId person = true) : ∀ (os : List TLot) {M : MState} {n : Int}, J M → OL M → 0 ≤ n → n ≤ 9223372036854775807 →
    (∀ o ∈ os, M.lots[(o.Id - 1).toNat]? = some o ∧ o.State = 1 ∧ o.Unit = name ∧ o.Thing = thing ∧ 1 ≤ o.Left ∧ o.Left ≤ 1000000000) → (os.map (·.Id)).Nodup → Moves M (takeOn M.day thing person name M n os) ∧ OL (takeOn M.day thing person name M n os)
  | [], M, n, _, hO, _, _, _, _ => ⟨.refl, hO⟩
  | o :: os, M, n, hJ, hO, h0, h1, hat, hn => by
    obtain ⟨k1, k2, k3, k4, k5, k6⟩ := hat o List.mem_cons_self
    unfold takeOn
    generalize hk : (if o.Left < n then o.Left else n) = kk
    have hkk : 0 ≤ kk ∧ kk ≤ n ∧ kk ≤ o.Left := by subst hk; split <;> omega
    split
    · exact ⟨.refl, hO⟩
    rename_i hz
    rw [k1]
    simp only
    have m : Move M ((M.setLot (o.Id - 1).toNat (cvLot o kk)).post ⟨M.day, name, kk, 2, thing, 3, person, 2, o.Id⟩) := by
      have := Move.turn (M := M) k1 (.part person kk k2 (by omega) hkk.2.2 hp)
      rw [k3, k4] at this
      exact this
    have e : wr (n - kk) = n - kk := wrap_id (by omega) (by omega)
    rw [e]
    obtain ⟨r1, r2⟩ := take_moves (thing := thing) (name := name) hp os (M := (M.setLot (o.Id - 1).toNat (cvLot o kk)).post ⟨M.day, name, kk, 2, thing, 3, person, 2, o.Id⟩) (n := n - kk) (m.j hJ) (cv_ol hO k1 k2 kk _) (by omega) (by omega) (fun y hy => ⟨rest_at (x' := cvLot o kk) hJ.ids k1 hn hy (hat y (List.mem_cons_of_mem _ hy)).1, (hat y (List.mem_cons_of_mem _ hy)).2⟩) (by rw [List.map_cons, List.nodup_cons] at hn; exact hn.2)
    exact ⟨.head m r1, r2⟩
theorem cv_range {a b n : Int} (ha : 0 < a) (ha2 : a ≤ 100000) (hb : 0 < b) (hb2 : b ≤ 100000) (hn : 1 ≤ n) (hn2 : n ≤ 1000000000) (ht : ¬ cvTimes a b n < 1) :
    wr (cvTimes a b n * cvB a b) = cvTimes a b n * cvB a b ∧ wr (cvTimes a b n * cvA a b) = cvTimes a b n * cvA a b ∧ 1 ≤ cvTimes a b n * cvB a b ∧ cvTimes a b n * cvB a b ≤ n ∧ 1 ≤ cvTimes a b n * cvA a b ∧ cvTimes a b n * cvA a b ≤ 1000000000 := by
  obtain ⟨_, a1, a2, b1, b2, _, _⟩ := cv_parts ha ha2 hb hb2
  have d1 : Int.tdiv 1000000000 (cvA a b) = 1000000000 / cvA a b := Int.tdiv_eq_ediv_of_nonneg (by omega)
  have d2 : Int.tdiv n (cvB a b) = n / cvB a b := Int.tdiv_eq_ediv_of_nonneg (by omega)
  have e1 : 1000000000 / cvA a b * cvA a b ≤ 1000000000 := Int.ediv_mul_le _ (by omega)
  have e2 : n / cvB a b * cvB a b ≤ n := Int.ediv_mul_le _ (by omega)
  have p1 : 0 ≤ 1000000000 / cvA a b := Int.ediv_nonneg (by omega) (by omega)
  have p2 : 0 ≤ n / cvB a b := Int.ediv_nonneg (by omega) (by omega)
  have q1 : 1000000000 / cvA a b ≤ 1000000000 := by
    have := Int.mul_le_mul_of_nonneg_left a1 p1
    omega
  have q2 : n / cvB a b ≤ n := by
    have := Int.mul_le_mul_of_nonneg_left b1 p2
    omega
  have w1 : wr (1000000000 / cvA a b) = 1000000000 / cvA a b := wrap_id (by omega) (by omega)
  have w2 : wr (n / cvB a b) = n / cvB a b := wrap_id (by omega) (by omega)
  have hT : cvTimes a b n = if 1000000000 / cvA a b < n / cvB a b then 1000000000 / cvA a b else n / cvB a b := by
    unfold cvTimes
    rw [d1, d2, w1, w2]
  have t1 : cvTimes a b n ≤ 1000000000 / cvA a b := by rw [hT]; split <;> omega
  have t2 : cvTimes a b n ≤ n / cvB a b := by rw [hT]; split <;> omega
  have t0 : 1 ≤ cvTimes a b n := by omega
  have m1 := Int.mul_le_mul_of_nonneg_right t1 (show 0 ≤ cvA a b by omega)
  have m2 := Int.mul_le_mul_of_nonneg_right t2 (show 0 ≤ cvB a b by omega)
  have m3 := Int.mul_le_mul t0 a1 (by omega) (show 0 ≤ cvTimes a b n by omega)
  have m4 := Int.mul_le_mul t0 b1 (by omega) (show 0 ≤ cvTimes a b n by omega)
  refine ⟨wrap_id (by omega) (by omega), wrap_id (by omega) (by omega), ?_, ?_, ?_, ?_⟩ <;> omega
theorem moved_moves {M : MState} (hJ : J M) (hO : OL M) {z : List TAmount × List TLot} {day thing in_ : Int} {ok : Bool} {upd : TLot → TLot} {mk : TLot → TPosting} (hu : ∀ x, (upd x).State ≠ 1)
    (hm : ok = true → ∀ x : TLot, x.Thing = thing → x.State = in_ → ∃ n fk fi tk ti why, Turn x (upd x) n fk fi tk ti why ∧ mk x = ⟨day, x.Unit, n, fk, fi, tk, ti, why, x.Id⟩) :
    Moves M (M.operO z day (gMoved thing ok in_ upd mk id)).2.1 ∧ OL (M.operO z day (gMoved thing ok in_ upd mk id)).2.1 := by
  refine operO_moves hJ hO fun A jA oA dA h => ?_
  unfold gMoved at h ⊢
  split
  · rename_i hc; rw [if_pos hc] at h; simp at h
  rename_i hc; rw [if_neg hc] at h
  split
  · rename_i he; rw [if_pos he] at h; simp at h
  have hok : ok = true := by
    simp only [Bool.or_eq_true, Bool.not_eq_true', not_or, Bool.not_eq_false] at hc
    exact hc.2
  refine ⟨each_moves fun x _ hs => ?_, each_ol oA hu⟩
  simp only [selL, Bool.and_eq_true, beq_iff_eq] at hs
  rw [dA]
  exact hm hok x hs.1 hs.2
theorem run_moves {M : MState} (hJ : J M) (hO : OL M) (o : MOp) : Moves M (M.run o).2 ∧ OL (M.run o).2 := by
  unfold MState.run
  by_cases c0 : o.kind = 0
  · rw [if_pos c0]
    refine oper_moves hJ hO fun A jA oA dA h => ?_
    unfold gUnit at h ⊢
    split
    · rename_i hc; rw [if_pos hc] at h; simp at h
    rename_i hc; rw [if_neg hc] at h
    split
    · rename_i hc; rw [if_pos hc] at h; simp at h
    rename_i hc2; rw [if_neg hc2] at h
    split
    · rename_i hc; rw [if_pos hc] at h; simp at h
    rename_i hc3; rw [if_neg hc3] at h
    split
    · rename_i hc; rw [if_pos hc] at h; simp at h
    exact ⟨.one (.unit (by simpa using hc) (by omega)), oA⟩
  rw [if_neg c0]
  by_cases c1 : o.kind = 1
  · rw [if_pos c1]
    refine oper_moves hJ hO fun A jA oA dA h => ?_
    unfold gValue at h ⊢
    split
    · exact ⟨.refl, oA⟩
    split
    · exact ⟨.refl, oA⟩
    rename_i u hu
    split
    · exact ⟨.refl, oA⟩
    split
    · exact ⟨.refl, oA⟩
    rename_i hgr
    have := Move.value (M := A) (g := o.a) hu (by omega) (by omega)
    have e : ({ A with units := A.units.set (A.find o.unit).toNat { u with values := u.values ++ [⟨A.day, o.a⟩] } } : MState) = { A with units := A.units.set (A.find o.unit).toNat { u with values := u.values ++ [⟨o.day, o.a⟩] } } := by rw [dA]
    rw [e] at this
    exact ⟨.one this, oA⟩
  rw [if_neg c1]
  by_cases c2 : o.kind = 2
  · rw [if_pos c2]
    refine oper_moves hJ hO fun A jA oA dA h => ?_
    unfold gTerm at h ⊢
    split
    · exact ⟨.refl, oA⟩
    split
    · exact ⟨.refl, oA⟩
    rename_i hc
    split
    · exact ⟨.refl, oA⟩
    exact ⟨.one (.term dA.symm (by show 1 ≤ o.b; omega) (by show o.b ≤ 40000; omega)), oA⟩
  rw [if_neg c2]
  by_cases c3 : o.kind = 3
  · rw [if_pos c3]
    exact oper_moves hJ hO fun A jA oA dA h => ⟨.refl, oA⟩
  rw [if_neg c3]
  by_cases c4 : o.kind = 4
  · rw [if_pos c4]
    refine operO_moves hJ hO fun A jA oA dA h => ?_
    unfold gDeposit at h ⊢
    split
    · exact ⟨.refl, oA⟩
    rename_i h1
    split
    · exact ⟨.refl, oA⟩
    split
    · exact ⟨.refl, oA⟩
    rename_i h3
    split
    · exact ⟨.refl, oA⟩
    split
    · exact ⟨.refl, oA⟩
    exact deposit_moves (by simp at h1; exact h1.1) _ jA oA dA (goods_ok (by simpa using h3)) (by omega)
  rw [if_neg c4]
  by_cases c5 : o.kind = 5
  · rw [if_pos c5]
    refine moved_moves hJ hO (fun x => by simp [updPay]) fun hok x h1 h2 => ⟨_, _, _, _, _, _, .pay o.b h2 hok, ?_⟩
    rw [h1]; rfl
  rw [if_neg c5]
  by_cases c6 : o.kind = 6
  · rw [if_pos c6]
    refine operO_moves hJ hO fun A jA oA dA h => ?_
    unfold gTake at h ⊢
    split
    · exact ⟨.refl, oA⟩
    rename_i h1
    split
    · exact ⟨.refl, oA⟩
    split
    · exact ⟨.refl, oA⟩
    rename_i h3
    simp only [Bool.or_eq_true, Bool.not_eq_true', decide_eq_true_eq, not_or, Bool.not_eq_false, Bool.and_eq_true] at h1
    have hle := sumLeft_le (A.lots.filter (selT o.a o.unit)) 0 (by omega)
    rw [← dA]
    refine take_moves h1.1.2 _ jA oA (by omega) (by omega) (fun y hy => ?_) ?_
    · rw [(isort_perm _).mem_iff, List.mem_filter] at hy
      obtain ⟨hy, hs⟩ := hy
      simp only [selT, Bool.and_eq_true, beq_iff_eq, strEq_iff] at hs
      obtain ⟨j, hj⟩ := List.getElem?_of_mem hy
      have hk := jA.lots y hy
      refine ⟨by rw [id_at jA.ids hj]; exact hj, hs.2.1, hs.2.2, hs.1, ?_, ?_⟩
      · have := hk.live; omega
      · have := hk.live; have := hk.n2; omega
    · refine ((isort_perm _).map _).nodup_iff.2 ?_
      exact (ids_nodup jA.ids).sublist ((List.filter_sublist).map _)
  rw [if_neg c6]
  by_cases c7 : o.kind = 7
  · rw [if_pos c7]
    refine operO_moves hJ hO fun A jA oA dA h => ?_
    unfold gConvert at h ⊢
    split
    · exact ⟨.refl, oA⟩
    rename_i h1
    split
    · exact ⟨.refl, oA⟩
    rename_i x hx
    dsimp only at h ⊢
    split
    · exact ⟨.refl, oA⟩
    rename_i hs
    split
    · exact ⟨.refl, oA⟩
    rename_i hf
    split
    · exact ⟨.refl, oA⟩
    rename_i hn
    split
    · exact ⟨.refl, oA⟩
    rename_i hl
    split
    · exact ⟨.refl, oA⟩
    rename_i ht
    split
    · exact ⟨.refl, oA⟩
    rename_i hlen
    have hs : x.State = 1 := by simpa using hs
    have hxm := List.mem_of_getElem? hx
    have hk := jA.lots x hxm
    have va := value_range jA.grains x.Unit o.day
    have vb := value_range jA.grains o.to_ o.day
    simp only [not_or] at hf
    have hlive := hk.live
    have hk2 := hk.n2
    obtain ⟨e1, e2, r1, r2, r3, r4⟩ := cv_range (a := A.value x.Unit o.day) (b := A.value o.to_ o.day) (n := o.b) (by omega) va.2 (by omega) vb.2 (by omega) (by omega) ht
    rw [e1, e2]
    generalize cvTimes (A.value x.Unit o.day) (A.value o.to_ o.day) o.b * cvB (A.value x.Unit o.day) (A.value o.to_ o.day) = m at r1 r2 ⊢
    generalize cvTimes (A.value x.Unit o.day) (A.value o.to_ o.day) o.b * cvA (A.value x.Unit o.day) (A.value o.to_ o.day) = kk at r3 r4 ⊢
    have hid : x.Id = o.a := by have := jA.ids _ x hx; omega
    have m1 : Move A ((A.setLot (o.a - 1).toNat (cvLot x m)).post ⟨o.day, x.Unit, m, 2, x.Thing, 6, 0, 5, o.a⟩) := by
      have := Move.turn (M := A) hx (.swap m hs r1 (by omega))
      rw [dA, hid] at this
      exact this
    have m2 : Move ((A.setLot (o.a - 1).toNat (cvLot x m)).post ⟨o.day, x.Unit, m, 2, x.Thing, 6, 0, 5, o.a⟩) (A.conv (o.a - 1).toNat x o.day o.a o.to_ m kk) :=
      .enter (.inr ⟨rfl, rfl⟩) ⟨hk.thing, by show 0 ≤ A.find o.to_; omega, r3, r4, rfl⟩ (by simp [MState.post, MState.setLot]; omega)
    exact ⟨.head m1 (.one m2), enter_ol (cv_ol oA hx hs m _) (oA x hxm hs)⟩
  rw [if_neg c7]
  by_cases c8 : o.kind = 8
  · rw [if_pos c8]
    refine operO_moves hJ hO fun A jA oA dA h => ?_
    unfold gRefund at h ⊢
    split
    · exact ⟨.refl, oA⟩
    rename_i h1
    simp only [Bool.and_eq_false_iff, not_or, Bool.not_eq_false] at h1
    have m := ref_moves (M := A) (thing := o.a) h1.2
    rw [dA] at m
    have ol : OL (A.ref o.day o.a o.b) := by
      intro x hx hs
      obtain ⟨y, hy, rfl⟩ := List.mem_map.1 (show x ∈ A.lots.map (updR o.day o.a) from hx)
      unfold updR at hs ⊢
      split at hs
      · simp at hs
      · rename_i hn
        rw [if_neg hn]
        exact oA y hy hs
    split
    · exact ⟨m, ol⟩
    split
    · exact ⟨m, ol⟩
    exact ⟨m, ol⟩
  rw [if_neg c8]
  by_cases c9 : o.kind = 9
  · rw [if_pos c9]
    refine moved_moves hJ hO (fun x => by simp [updLose]) fun hok x h1 h2 => ⟨_, _, _, _, _, _, .lose h2, ?_⟩
    rw [h1]; rfl
  rw [if_neg c9]
  by_cases c10 : o.kind = 10
  · rw [if_pos c10]
    refine operO_moves hJ hO fun A jA oA dA h => ?_
    unfold gMoved at h ⊢
    split
    · exact ⟨.refl, oA⟩
    split
    · rename_i hc he; rw [if_neg hc, if_pos he] at h; simp at h
    have m := each_moves (M := A) (sel := selL o.a 5) (upd := updRecover) (mk := mkRecover o.day o.a) fun x _ hs => by
      simp only [selL, Bool.and_eq_true, beq_iff_eq] at hs
      refine ⟨_, _, _, _, _, _, .recover hs.2, ?_⟩
      rw [dA, hs.1]; rfl
    obtain ⟨l1, l2, _⟩ := late_moves (m.j jA)
    exact ⟨m.trans l1, l2⟩
  rw [if_neg c10]
  by_cases c11 : o.kind = 11
  · rw [if_pos c11]
    refine moved_moves hJ hO (fun x => by simp [updDispatch]) fun hok x h1 h2 => ⟨_, _, _, _, _, _, .dispatch o.b h2 hok, ?_⟩
    rw [h1]; rfl
  rw [if_neg c11]
  by_cases c12 : o.kind = 12
  · rw [if_pos c12]
    refine operO_moves hJ hO fun A jA oA dA h => ?_
    unfold gArrived at h ⊢
    have m := each_moves (M := A) (sel := selBag o.a) (upd := updArrive) (mk := mkArrive o.day o.a) fun x _ hs => by
      simp only [selBag, Bool.and_eq_true, beq_iff_eq] at hs
      refine ⟨_, _, _, _, _, _, .arrive hs.1, ?_⟩
      rw [dA, hs.2]; rfl
    have ol : OL (A.each (selBag o.a) updArrive (mkArrive o.day o.a)) := each_ol oA fun x => by simp [updArrive]
    split
    · exact ⟨.refl, oA⟩
    split
    · exact ⟨m, ol⟩
    exact ⟨m, ol⟩
  rw [if_neg c12]
  refine operO_moves hJ hO fun A jA oA dA h => ?_
  unfold gReceive at h ⊢
  split
  · exact ⟨.refl, oA⟩
  rename_i h1
  split
  · exact ⟨.refl, oA⟩
  obtain ⟨m1, m2⟩ := recv_moves o.lots jA dA (recv_ok (by simpa using h1)) (by omega)
  obtain ⟨l1, l2, _⟩ := late_moves (m1.j jA)
  exact ⟨m1.trans l1, l2⟩
end Go.Proofs.YtcbijkakoepglaaGreat
namespace Go.Proofs.YtcbijkakoepglaaGreat
open Go Go.Wx

theorem balOn_app (d : Int) : ∀ (a : List TPosting) (m : List (Tplace × Int)) (b : List TPosting), balOn d m (a ++ b) = balOn d (balOn d m a) b
  | [], _, _ => rfl
  | p :: a, m, b => by simp only [List.cons_append, balOn]; exact balOn_app d a _ b
theorem balOn_later {d : Int} : ∀ (b : List TPosting) (m : List (Tplace × Int)), (∀ p ∈ b, d < p.Day) → balOn d m b = m
  | [], _, _ => rfl
  | p :: b, m, h => by
    unfold balOn
    rw [if_neg (by have := h p List.mem_cons_self; omega)]
    exact balOn_later b m fun q hq => h q (List.mem_cons_of_mem _ hq)
theorem valueOn_app (d : Int) : ∀ (a : List Tdated) (v : Int) (b : List Tdated), valueOn d v (a ++ b) = valueOn d (valueOn d v a) b
  | [], _, _ => rfl
  | x :: a, v, b => by simp only [List.cons_append, valueOn]; exact valueOn_app d a _ b
def valueIn (d : Int) : Option MUnit → Int
  | some u => valueOn d 0 u.values
  | none => 0
theorem value_in (M : MState) (name : ByteArray) (d : Int) : M.value name d = valueIn d (M.units.find? fun u => strEq u.name name) := by
  unfold MState.value valueIn
  split <;> rename_i h <;> rw [h]
theorem value_set {n : ByteArray} {d day g : Int} (hd : d < day) : ∀ (l : List MUnit) (i : Nat) (u : MUnit), l[i]? = some u →
    valueIn d ((l.set i { u with values := u.values ++ [⟨day, g⟩] }).find? fun u => strEq u.name n) = valueIn d (l.find? fun u => strEq u.name n)
  | [], _, _, h => by simp at h
  | x :: l, 0, u, h => by
    simp at h
    subst h
    simp only [List.set_cons_zero, List.find?_cons]
    cases strEq x.name n with
    | true =>
      simp only [valueIn, valueOn_app]
      simp only [valueOn]
      rw [if_neg (by omega)]
    | false => rfl
  | x :: l, i + 1, u, h => by
    simp only [List.set_cons_succ, List.find?_cons]
    cases strEq x.name n with
    | true => rfl
    | false => exact value_set hd l i u (by simpa using h)

structure Same (d : Int) (M M' : MState) : Prop where
  post : ∃ ex, M'.postings = M.postings ++ ex ∧ ∀ p ∈ ex, d < p.Day
  value : ∀ name, M'.value name d = M.value name d
theorem Same.refl (d : Int) (M : MState) : Same d M M := ⟨⟨[], by simp, fun _ h => by cases h⟩, fun _ => rfl⟩
theorem Same.trans {d : Int} {M M1 M2 : MState} (h : Same d M M1) (h2 : Same d M1 M2) : Same d M M2 := by
  obtain ⟨e1, p1, q1⟩ := h.post
  obtain ⟨e2, p2, q2⟩ := h2.post
  refine ⟨⟨e1 ++ e2, by rw [p2, p1, List.append_assoc], fun p hp => ?_⟩, fun name => (h2.value name).trans (h.value name)⟩
  rcases List.mem_append.1 hp with hp | hp
  · exact q1 p hp
  · exact q2 p hp
theorem Move.same {d : Int} {M M' : MState} (h : Move M M') (hd : d < M.day) : Same d M M' := by
  cases h with
  | turn hx ht => exact ⟨⟨[_], rfl, fun p hp => by simp at hp; subst hp; exact hd⟩, fun _ => rfl⟩
  | keep hx hs hr => exact ⟨⟨[], by simp [MState.setLot], fun _ h => by cases h⟩, fun _ => rfl⟩
  | enter hw hl hlen => exact ⟨⟨[_], rfl, fun p hp => by simp at hp; subst hp; exact hd⟩, fun _ => rfl⟩
  | day h1 h2 => exact ⟨⟨[], by simp, fun _ h => by cases h⟩, fun _ => rfl⟩
  | unit hn hf =>
    rename_i name kind
    refine ⟨⟨[], by simp, fun _ h => by cases h⟩, fun n => ?_⟩
    rw [value_in, value_in]
    simp only [List.find?_append]
    cases M.units.find? (fun u => strEq u.name n) with
    | some u => rfl
    | none =>
      simp only [Option.none_or, List.find?_cons, List.find?_nil]
      cases strEq name n <;> rfl
  | value hu g1 g2 =>
    refine ⟨⟨[], by simp, fun _ h => by cases h⟩, fun n => ?_⟩
    rw [value_in, value_in]
    exact value_set hd _ _ _ hu
  | term h1 h2 h3 => exact ⟨⟨[], by simp, fun _ h => by cases h⟩, fun _ => rfl⟩
theorem Moves.same {d : Int} {M M' : MState} (h : Moves M M') (hd : d < M.day) : Same d M M' := by
  induction h with
  | refl => exact Same.refl d _
  | tail h1 h2 ih => exact ih.trans (h2.same (Int.lt_of_lt_of_le hd h1.day_le))
section
variable {d : Int} {M M' : MState}
theorem Same.bal (h : Same d M M') : balOn d [] M'.postings = balOn d [] M.postings := by
  obtain ⟨ex, p, q⟩ := h.post
  rw [p, balOn_app, balOn_later ex _ q]
theorem Same.trial (h : Same d M M') : M'.trial d = M.trial d := by unfold MState.trial; rw [h.bal]
theorem Same.balance (h : Same d M M') (a : TAccount) (name : ByteArray) : M'.balance a name d = M.balance a name d := by unfold MState.balance; rw [h.bal]
theorem Same.balances (h : Same d M M') (a : TAccount) : M'.balances a d = M.balances a d := by unfold MState.balances; rw [h.trial]
theorem Same.worth (h : Same d M M') (a : TAccount) : M'.worth a d = M.worth a d := by
  unfold MState.worth
  rw [h.balances]
  have : ∀ (l : List TAmount) (v : Int), worthOn M' d v l = worthOn M d v l := by
    intro l
    induction l with
    | nil => intro v; rfl
    | cons x l ih => intro v; unfold worthOn; rw [h.value]; exact ih _
  exact this _ _
end
theorem j_M0 : J M0 := ⟨fun i x h => by simp [M0] at h, fun x h => by simp [M0] at h, fun x h => by simp [M0] at h, fun x h => by simp [M0] at h, fun x h => by simp [M0] at h, by decide, by decide, by simp [M0]⟩
theorem ol_M0 : OL M0 := fun x h => by simp [M0] at h
theorem runs_moves : ∀ (os : List MOp) {M : MState}, J M → OL M → Moves M (M.runs os) ∧ OL (M.runs os)
  | [], M, _, hO => ⟨.refl, hO⟩
  | o :: os, M, hJ, hO => by
    obtain ⟨m, o1⟩ := run_moves hJ hO o
    obtain ⟨m2, o2⟩ := runs_moves os (m.j hJ) o1
    exact ⟨m.trans m2, o2⟩
end Go.Proofs.YtcbijkakoepglaaGreat
namespace Go.Proofs.YtcbijkakoepglaaGreat
open Go Go.Wx

structure PO (M : MState) : Prop where
  fine : ∀ p ∈ M.postings, fineP p = true
  days : M.postings.Pairwise fun p q => p.Day ≤ q.Day
  le : ∀ p ∈ M.postings, p.Day ≤ M.day
theorem named_of {M : MState} (h : J M) {name : ByteArray} (hn : 0 ≤ M.find name) : named name = true := by
  have h1 := find_any M name
  rw [decide_eq_true hn] at h1
  obtain ⟨u, hu, he⟩ := List.any_eq_true.1 h1.symm
  have := strEq_iff.1 he
  rw [← this]; exact h.units u hu
theorem restR_le {x : TLot} (h0 : 0 ≤ x.Left) (h1 : x.Left ≤ 1000000000) : restR x ≤ x.Left := by
  unfold restR
  have e1 : wr (x.Left + 20) = x.Left + 20 := wrap_id (by omega) (by omega)
  have e2 : wr (x.Left + 20 - 1) = x.Left + 20 - 1 := wrap_id (by omega) (by omega)
  rw [e1, e2]
  have e3 : Int.tdiv (x.Left + 20 - 1) 20 = (x.Left + 20 - 1) / 20 := Int.tdiv_eq_ediv_of_nonneg (by omega)
  rw [e3]
  have e4 : wr ((x.Left + 20 - 1) / 20) = (x.Left + 20 - 1) / 20 := wrap_id (by omega) (by omega)
  rw [e4]
  have e5 : wr (x.Left - (x.Left + 20 - 1) / 20) = x.Left - (x.Left + 20 - 1) / 20 := wrap_id (by omega) (by omega)
  rw [e5]
  omega
theorem Turn.right {M : MState} {x x' : TLot} {n fk fi tk ti why : Int} (h : Turn x x' n fk fi tk ti why) (hx : LotOk M x) : rightA fk fi = true ∧ rightA tk ti = true ∧ wayOk why fk tk = true ∧ 1 ≤ n ∧ n ≤ 1000000000 := by
  have hl := hx.live
  have hn := hx.n2
  have r2 : rightA 2 x.Thing = true := hx.thing
  cases h with
  | forfeit hs => exact ⟨r2, rfl, rfl, by omega, by omega⟩
  | pay p hs hp => exact ⟨r2, hp, rfl, by omega, by omega⟩
  | part p m hs k1 k2 hp => exact ⟨r2, hp, rfl, by omega, by omega⟩
  | swap m hs k1 k2 => exact ⟨r2, rfl, rfl, by omega, by omega⟩
  | lose hs => exact ⟨r2, rfl, rfl, by omega, by omega⟩
  | recover hs => exact ⟨rfl, r2, rfl, by omega, by omega⟩
  | dispatch b hs hb => exact ⟨r2, hb, rfl, by omega, by omega⟩
  | arrive hs => exact ⟨hx.bag hs, rfl, rfl, by omega, by omega⟩
  | refund p hs hp hr =>
    have := restR_le (x := x) (by omega) (by omega)
    exact ⟨rfl, hp, rfl, by omega, by omega⟩
theorem fine_mk {d : Int} {unit : ByteArray} {n fk fi tk ti why lot : Int} (h1 : 0 ≤ d ∧ d ≤ 100000) (h2 : named unit = true) (h3 : 1 ≤ n ∧ n ≤ 1000000000) (h4 : 1 ≤ lot ∧ lot ≤ 2000) (h5 : rightA fk fi = true) (h6 : rightA tk ti = true) (h7 : wayOk why fk tk = true) :
    fineP ⟨d, unit, n, fk, fi, tk, ti, why, lot⟩ = true := by
  unfold fineP
  simp only [decide_eq_true h1, h2, decide_eq_true h3, decide_eq_true h4, h5, h6, h7, Bool.and_self]
theorem PO.add {M M' : MState} (h : PO M) {p : TPosting} (hp : M'.postings = M.postings ++ [p]) (hd : p.Day = M.day) (hdd : M'.day = M.day) (hf : fineP p = true) : PO M' := by
  refine ⟨fun q hq => ?_, ?_, fun q hq => ?_⟩
  · rw [hp] at hq
    rcases List.mem_append.1 hq with hq | hq
    · exact h.fine q hq
    · simp at hq; subst hq; exact hf
  · rw [hp, List.pairwise_append]
    exact ⟨h.days, by simp, fun a ha b hb => by simp at hb; subst hb; rw [hd]; exact h.le a ha⟩
  · rw [hp] at hq
    rw [hdd]
    rcases List.mem_append.1 hq with hq | hq
    · exact h.le q hq
    · simp at hq; subst hq; omega
theorem Move.po {M M' : MState} (hm : Move M M') (hJ : J M) (h : PO M) : PO M' := by
  cases hm with
  | turn hx ht =>
    have hxm := List.mem_of_getElem? hx
    have hk := hJ.lots _ hxm
    obtain ⟨r1, r2, r3, r4, r5⟩ := ht.right hk
    have hid := hJ.ids _ _ hx
    have hlt := (List.getElem?_eq_some_iff.1 hx).1
    have hlen := hJ.len
    exact h.add rfl rfl rfl (fine_mk ⟨hJ.d0, hJ.d1⟩ (named_of hJ hk.unit) ⟨r4, r5⟩ ⟨by omega, by omega⟩ r1 r2 r3)
  | keep hx hs hr => exact ⟨h.fine, h.days, h.le⟩
  | enter hw hl hlen =>
    have hf : ∀ fk why : Int, (fk = 1 ∧ (why = 1 ∨ why = 10) ∨ fk = 6 ∧ why = 5) → rightA fk 0 = true ∧ wayOk why fk 2 = true := by
      intro fk why h
      rcases h with ⟨rfl, rfl | rfl⟩ | ⟨rfl, rfl⟩ <;> exact ⟨rfl, rfl⟩
    obtain ⟨w1, w2⟩ := hf _ _ hw
    refine h.add rfl rfl rfl (fine_mk ⟨hJ.d0, hJ.d1⟩ (named_of hJ hl.unit) ⟨hl.n1, hl.n2⟩ ?_ w1 hl.thing w2)
    show 1 ≤ (M.lots.length : Int) + 1 ∧ (M.lots.length : Int) + 1 ≤ 2000
    omega
  | day h1 h2 => exact ⟨h.fine, h.days, fun p hp => Int.le_trans (h.le p hp) h1⟩
  | unit hn hf => exact ⟨h.fine, h.days, h.le⟩
  | value hu g1 g2 => exact ⟨h.fine, h.days, h.le⟩
  | term h1 h2 h3 => exact ⟨h.fine, h.days, h.le⟩
theorem Moves.po {M M' : MState} (hm : Moves M M') (hJ : J M) (h : PO M) : PO M' := by
  induction hm with
  | refl => exact h
  | tail h1 h2 ih => exact h2.po (h1.j hJ) ih
theorem po_M0 : PO M0 := ⟨fun p h => by simp [M0] at h, by simp [M0], fun p h => by simp [M0] at h⟩

/-! ### statements -/
def stepV (a : TAccount) (unit : ByteArray) (v : Int) (x : TPosting) : Int :=
  if !strEq x.Unit unit || (!fromAt a x && !toAt a x) then v else if toAt a x then wr (v + x.N) else wr (v - x.N)
def sumV (a : TAccount) (unit : ByteArray) (until_ : Int) : Int → List TPosting → Int
  | v, [] => v
  | v, x :: xs => sumV a unit until_ (if x.Day ≤ until_ then stepV a unit v x else v) xs
def lastOr (v : Int) (l : List TStatementLine) : Int := match l.getLast? with
  | some x => x.Balance
  | none => v
theorem lastOr_cons (v : Int) (x : TStatementLine) (l : List TStatementLine) : lastOr v (x :: l) = lastOr x.Balance l := by
  unfold lastOr
  rw [List.getLast?_cons]
  cases l.getLast? <;> rfl
theorem fine_from {x : TPosting} (h : fineP x = true) : x.From_Kind ≠ x.To_Kind := by
  unfold fineP at h
  simp only [Bool.and_eq_true] at h
  have hw := h.2
  unfold wayOk at hw
  rw [List.any_eq_true] at hw
  obtain ⟨y, hy, h1⟩ := hw
  have hx' : y.x0 ≠ y.x1 := by
    unfold waysL at hy
    repeat' split at hy
    all_goals simp at hy
    all_goals (first | (subst hy; decide) | (rcases hy with rfl | rfl <;> decide))
  simp at h1
  omega
theorem not_both {a : TAccount} {x : TPosting} (h : fineP x = true) : ¬ (fromAt a x = true ∧ toAt a x = true) := by
  rintro ⟨h1, h2⟩
  simp only [fromAt, toAt, Bool.and_true, Bool.and_eq_true, beq_iff_eq] at h1 h2
  exact fine_from h (by omega)
theorem stmt_v2 {a : TAccount} {x : TPosting} (h : fineP x = true) (v : Int) (hs : (!fromAt a x && !toAt a x) = false) :
    (if toAt a x then wr ((if fromAt a x then wr (v - x.N) else v) + x.N) else if fromAt a x then wr (v - x.N) else v) = if toAt a x then wr (v + x.N) else wr (v - x.N) := by
  have hb := not_both (a := a) h
  cases h1 : fromAt a x with
  | true =>
    cases h2 : toAt a x with
    | true => exact absurd ⟨h1, h2⟩ hb
    | false => rfl
  | false =>
    cases h2 : toAt a x with
    | true => rfl
    | false => rw [h1, h2] at hs; simp at hs
theorem stmt_none {a : TAccount} {unit : ByteArray} {from_ until_ : Int} : ∀ (ps : List TPosting) (v i : Int), (∀ p ∈ ps, until_ < p.Day) → stmtOn a unit from_ until_ v i ps = []
  | [], _, _, _ => rfl
  | x :: ps, v, i, h => by
    unfold stmtOn
    have hx := h x List.mem_cons_self
    have ih := fun v => stmt_none (a := a) (unit := unit) (from_ := from_) (until_ := until_) ps v (i + 1) fun p hp => h p (List.mem_cons_of_mem _ hp)
    split
    · exact ih v
    · simp only [ih]
      rw [if_neg]
      · rfl
      · simp only [Bool.and_eq_true, decide_eq_true_eq]; omega
theorem sum_none {a : TAccount} {unit : ByteArray} {until_ : Int} : ∀ (ps : List TPosting) (v : Int), (∀ p ∈ ps, until_ < p.Day) → sumV a unit until_ v ps = v
  | [], _, _ => rfl
  | x :: ps, v, h => by
    unfold sumV
    have hx := h x List.mem_cons_self
    rw [if_neg (by omega)]
    exact sum_none ps v fun p hp => h p (List.mem_cons_of_mem _ hp)
theorem stmt_last {a : TAccount} {unit : ByteArray} {until_ : Int} : ∀ (ps : List TPosting) (v i : Int), (∀ p ∈ ps, fineP p = true) → (ps.Pairwise fun p q => p.Day ≤ q.Day) → lastOr v (stmtOn a unit 0 until_ v i ps) = sumV a unit until_ v ps
  | [], _, _, _, _ => rfl
  | x :: ps, v, i, hf, hd => by
    obtain ⟨d1, d2⟩ := List.pairwise_cons.1 hd
    have hfx := hf x List.mem_cons_self
    have ih := fun v => stmt_last (a := a) (unit := unit) (until_ := until_) ps v (i + 1) (fun p hp => hf p (List.mem_cons_of_mem _ hp)) d2
    by_cases hday : x.Day ≤ until_
    · have h0 : 0 ≤ x.Day := by
        unfold fineP at hfx
        simp only [Bool.and_eq_true, decide_eq_true_eq] at hfx
        exact hfx.1.1.1.1.1.1.1
      unfold stmtOn sumV stepV
      rw [if_pos hday]
      split
      · exact ih v
      · rename_i hs
        have hs2 : (!fromAt a x && !toAt a x) = false := by
          cases h : (!fromAt a x && !toAt a x) with
          | true => rw [h, Bool.or_true] at hs; exact absurd rfl hs
          | false => rfl
        simp only
        rw [stmt_v2 hfx v hs2, if_pos (by simp only [Bool.and_eq_true, decide_eq_true_eq]; omega)]
        rw [List.cons_append, List.nil_append, lastOr_cons]
        exact ih _
    · have hall : ∀ p ∈ x :: ps, until_ < p.Day := fun p hp => by
        rcases List.mem_cons.1 hp with rfl | hp
        · omega
        · have := d1 p hp; omega
      rw [stmt_none _ _ _ hall, sum_none _ _ hall]
      rfl
theorem bal_sum {a : TAccount} {unit : ByteArray} {until_ : Int} : ∀ (ps : List TPosting) (m : List (Tplace × Int)), (∀ p ∈ ps, fineP p = true) → getM (balOn until_ m ps) ⟨a.Kind, a.Id, unit⟩ = sumV a unit until_ (getM m ⟨a.Kind, a.Id, unit⟩) ps
  | [], _, _ => rfl
  | x :: ps, m, hf => by
    have hfx := hf x List.mem_cons_self
    unfold balOn sumV
    rw [bal_sum ps _ fun p hp => hf p (List.mem_cons_of_mem _ hp)]
    congr 1
    split
    · have hne : pFrom x ≠ pTo x := fun e => fine_from hfx (congrArg Tplace.account_Kind e)
      have iF : (strEq x.Unit unit && fromAt a x) = true ↔ pFrom x = ⟨a.Kind, a.Id, unit⟩ := by
        simp only [fromAt, Bool.and_true, Bool.and_eq_true, beq_iff_eq, strEq_iff, pFrom, Tplace.mk.injEq]
        constructor
        · rintro ⟨h1, h2, h3⟩; exact ⟨h2, h3, h1⟩
        · rintro ⟨h2, h3, h1⟩; exact ⟨h1, h2, h3⟩
      have iT : (strEq x.Unit unit && toAt a x) = true ↔ pTo x = ⟨a.Kind, a.Id, unit⟩ := by
        simp only [toAt, Bool.and_true, Bool.and_eq_true, beq_iff_eq, strEq_iff, pTo, Tplace.mk.injEq]
        constructor
        · rintro ⟨h1, h2, h3⟩; exact ⟨h2, h3, h1⟩
        · rintro ⟨h2, h3, h1⟩; exact ⟨h1, h2, h3⟩
      unfold stepV addM subM
      cases hu : strEq x.Unit unit with
      | false =>
        rw [hu] at iF iT
        simp only [Bool.false_and, Bool.false_eq_true, false_iff] at iF iT
        rw [getM_putM_ne (fun e => iT e.symm), getM_putM_ne (fun e => iF e.symm)]
        rfl
      | true =>
        rw [hu, Bool.true_and] at iF iT
        cases hT : toAt a x with
        | true =>
          have e := iT.1 hT
          rw [← e, getM_putM, getM_putM_ne (fun e => hne e.symm)]
          simp
        | false =>
          have nT : ¬ pTo x = ⟨a.Kind, a.Id, unit⟩ := fun e => by rw [iT.2 e] at hT; cases hT
          rw [getM_putM_ne (fun e => nT e.symm)]
          cases hF : fromAt a x with
          | true =>
            have e := iF.1 hF
            rw [← e, getM_putM]
            simp
          | false =>
            have nF : ¬ pFrom x = ⟨a.Kind, a.Id, unit⟩ := fun e => by rw [iF.2 e] at hF; cases hF
            rw [getM_putM_ne (fun e => nF e.symm)]
            simp
    · rfl
theorem stmt_balance {M : MState} (h : PO M) (a : TAccount) (unit : ByteArray) (until_ : Int) : lastOr 0 (M.statement a unit 0 until_) = M.balance a unit until_ := by
  unfold MState.statement MState.balance
  rw [stmt_last _ _ _ h.fine h.days, bal_sum _ _ h.fine]
  rfl
theorem stmt_len {a : TAccount} {unit : ByteArray} {from_ until_ : Int} : ∀ (ps : List TPosting) (v i : Int), (stmtOn a unit from_ until_ v i ps).length ≤ ps.length
  | [], _, _ => by simp [stmtOn]
  | x :: ps, v, i => by
    unfold stmtOn
    split
    · exact Nat.le_succ_of_le (stmt_len ps _ _)
    · simp only [List.length_append, List.length_cons]
      have := stmt_len (a := a) (unit := unit) (from_ := from_) (until_ := until_) ps (if toAt a x then wr ((if fromAt a x then wr (v - x.N) else v) + x.N) else if fromAt a x then wr (v - x.N) else v) (i + 1)
      split
      · simp only [List.length_cons, List.length_nil]; omega
      · simp only [List.length_nil]; omega
end Go.Proofs.YtcbijkakoepglaaGreat
namespace Go.Proofs.YtcbijkakoepglaaGreat
open Go Go.Wx

/-! ### sums over lots -/
def sumF (f : TLot → Int) : List TLot → Int
  | [] => 0
  | x :: l => f x + sumF f l
theorem sumF_app (f : TLot → Int) : ∀ (a b : List TLot), sumF f (a ++ b) = sumF f a + sumF f b
  | [], b => by simp [sumF]
  | x :: a, b => by simp only [List.cons_append, sumF, sumF_app f a b]; omega
theorem sumF_set (f : TLot → Int) : ∀ (l : List TLot) (i : Nat) (x x' : TLot), l[i]? = some x → sumF f (l.set i x') = sumF f l - f x + f x'
  | [], _, _, _, h => by simp at h
  | y :: l, 0, x, x', h => by simp at h; subst h; simp only [List.set_cons_zero, sumF]; omega
  | y :: l, i + 1, x, x', h => by
    simp only [List.set_cons_succ, sumF]
    rw [sumF_set f l i x x' (by simpa using h)]
    omega
theorem sumF_bound (f : TLot → Int) {K : Int} (hK : 0 ≤ K) : ∀ (l : List TLot), (∀ x ∈ l, 0 ≤ f x ∧ f x ≤ K) → 0 ≤ sumF f l ∧ sumF f l ≤ K * l.length
  | [], _ => by simp [sumF]
  | x :: l, h => by
    have h1 := h x List.mem_cons_self
    have h2 := sumF_bound f hK l fun y hy => h y (List.mem_cons_of_mem _ hy)
    simp only [sumF, List.length_cons]
    have : K * ((l.length + 1 : Nat) : Int) = K * l.length + K := by rw [Int.natCast_add, Int.mul_add]; simp
    rw [this]
    omega
theorem sumF_le (f : TLot → Int) : ∀ (l : List TLot), (∀ x ∈ l, 0 ≤ f x) → ∀ x ∈ l, f x ≤ sumF f l
  | [], _, _, h => by cases h
  | y :: l, h, x, hx => by
    have h0 : 0 ≤ sumF f l := by
      clear hx
      have : ∀ l : List TLot, (∀ x ∈ l, 0 ≤ f x) → 0 ≤ sumF f l := by
        intro l
        induction l with
        | nil => intro _; simp [sumF]
        | cons z l ih =>
          intro h
          have h1 := h z List.mem_cons_self
          have h2 := ih fun w hw => h w (List.mem_cons_of_mem _ hw)
          simp only [sumF]; omega
      exact this l fun z hz => h z (List.mem_cons_of_mem _ hz)
    have hy := h y List.mem_cons_self
    simp only [sumF]
    rcases List.mem_cons.1 hx with rfl | hx
    · omega
    · have := sumF_le f l (fun z hz => h z (List.mem_cons_of_mem _ hz)) x hx; omega

/-! ### where a lot is -/
def plc (x : TLot) : Option Tplace :=
  if x.State = 1 then some ⟨2, x.Thing, x.Unit⟩ else if x.State = 3 then some ⟨4, 0, x.Unit⟩ else if x.State = 5 then some ⟨5, 0, x.Unit⟩ else if x.State = 6 then some ⟨7, x.Bag, x.Unit⟩ else none
def wt (q : Tplace) (x : TLot) : Int := if plc x = some q then x.Left else 0
def wn (u : ByteArray) (x : TLot) : Int := if x.Unit = u ∧ (x.State = 3 ∨ x.State = 4) then x.N else 0
theorem plc1 {y : TLot} (h : y.State = 1) : plc y = some ⟨2, y.Thing, y.Unit⟩ := by unfold plc; rw [if_pos h]
theorem plc3 {y : TLot} (h : y.State = 3) : plc y = some ⟨4, 0, y.Unit⟩ := by unfold plc; rw [if_neg (by omega), if_pos h]
theorem plc5 {y : TLot} (h : y.State = 5) : plc y = some ⟨5, 0, y.Unit⟩ := by unfold plc; rw [if_neg (by omega), if_neg (by omega), if_pos h]
theorem plc6 {y : TLot} (h : y.State = 6) : plc y = some ⟨7, y.Bag, y.Unit⟩ := by unfold plc; rw [if_neg (by omega), if_neg (by omega), if_neg (by omega), if_pos h]
theorem wt_of {y : TLot} {q p : Tplace} (h : plc y = some p) : wt q y = if p = q then y.Left else 0 := by
  unfold wt
  rw [h]
  simp only [Option.some.injEq]
theorem wt_ok {M : MState} {x : TLot} (h : LotOk M x) (q : Tplace) : 0 ≤ wt q x ∧ wt q x ≤ 1000000000 := by
  have := h.live; have := h.n1; have := h.n2
  unfold wt
  split <;> omega
theorem wn_ok {M : MState} {x : TLot} (h : LotOk M x) (u : ByteArray) : 0 ≤ wn u x ∧ wn u x ≤ 1000000000 := by
  have := h.n1; have := h.n2
  unfold wn
  split <;> omega
theorem Turn.from_at {x x' : TLot} {n fk fi tk ti why : Int} (h : Turn x x' n fk fi tk ti why) : plc x = some ⟨fk, fi, x.Unit⟩ := by
  unfold plc
  cases h with
  | forfeit hs => rw [if_pos hs]
  | pay p hs => rw [if_pos hs]
  | part p m hs => rw [if_pos hs]
  | swap m hs => rw [if_pos hs]
  | lose hs => rw [if_pos hs]
  | recover hs => rw [if_neg (by omega), if_neg (by omega), if_pos hs]
  | dispatch b hs => rw [if_pos hs]
  | arrive hs => rw [if_neg (by omega), if_neg (by omega), if_neg (by omega), if_pos hs]
  | refund p hs => rw [if_neg (by omega), if_pos hs]
theorem wt_cv {x : TLot} {n : Int} (hs : x.State = 1) (hl : x.Left ≤ 1000000000) (h1 : 1 ≤ n) (h2 : n ≤ x.Left) (q : Tplace) : wt q (cvLot x n) = if (⟨2, x.Thing, x.Unit⟩ : Tplace) = q then x.Left - n else 0 := by
  obtain ⟨e1, e2⟩ := cvLot_ok hl h1 h2
  have e3 : (cvLot x n).Thing = x.Thing := rfl
  have e4 : (cvLot x n).Unit = x.Unit := rfl
  unfold wt plc
  rw [e1, e2, e3, e4]
  by_cases hz : x.Left - n = 0
  · rw [hz]; simp
  · rw [if_neg hz, if_pos hs]
    simp only [Option.some.injEq]
/-- how a turn moves what is at a place of a thing, a loss, a bag. -/
theorem Turn.goes {M : MState} {x x' : TLot} {n fk fi tk ti why : Int} (h : Turn x x' n fk fi tk ti why) (hx : LotOk M x) (q : Tplace) (hq : q.account_Kind = 2 ∨ q.account_Kind = 5 ∨ q.account_Kind = 7) :
    wt q x' = wt q x + (if (⟨tk, ti, x.Unit⟩ : Tplace) = q then n else 0) - (if (⟨fk, fi, x.Unit⟩ : Tplace) = q then n else 0) := by
  have hf := h.from_at
  have hwx : wt q x = if (⟨fk, fi, x.Unit⟩ : Tplace) = q then x.Left else 0 := by
    unfold wt
    rw [hf]
    simp only [Option.some.injEq]
  have nk : ∀ {k i : Int}, k ≠ 2 → k ≠ 5 → k ≠ 7 → ¬ (⟨k, i, x.Unit⟩ : Tplace) = q := fun h2 h5 h7 e => by
    rw [← e] at hq
    simp only at hq
    omega
  have hl : x.Left ≤ 1000000000 := by have := hx.live; have := hx.n2; have := hx.n1; omega
  rw [hwx]
  cases h with
  | forfeit hs =>
    rw [if_neg (nk (k := 4) (by decide) (by decide) (by decide))]
    have : wt q { x with State := 3 } = 0 := (wt_of (plc3 rfl)).trans (if_neg (nk (k := 4) (by decide) (by decide) (by decide)))
    rw [this]; split <;> omega
  | pay p hs =>
    rw [if_neg (nk (k := 3) (by decide) (by decide) (by decide))]
    have : wt q { x with State := 2, Left := 0 } = 0 := by unfold wt; split <;> rfl
    rw [this]; split <;> omega
  | part p m hs k1 k2 =>
    rw [if_neg (nk (k := 3) (by decide) (by decide) (by decide)), wt_cv hs hl k1 k2]
    split <;> omega
  | swap m hs k1 k2 =>
    rw [if_neg (nk (k := 6) (by decide) (by decide) (by decide)), wt_cv hs hl k1 k2]
    split <;> omega
  | lose hs =>
    have : wt q { x with State := 5 } = if (⟨5, 0, x.Unit⟩ : Tplace) = q then x.Left else 0 := wt_of (plc5 rfl)
    rw [this]; omega
  | recover hs =>
    have : wt q { x with State := 1 } = if (⟨2, x.Thing, x.Unit⟩ : Tplace) = q then x.Left else 0 := wt_of (plc1 rfl)
    rw [this]; omega
  | dispatch b hs =>
    have : wt q { x with State := 6, Bag := ti } = if (⟨7, ti, x.Unit⟩ : Tplace) = q then x.Left else 0 := wt_of (plc6 rfl)
    rw [this]; omega
  | arrive hs =>
    rw [if_neg (nk (k := 1) (by decide) (by decide) (by decide))]
    have : wt q { x with State := 7, Left := 0 } = 0 := by unfold wt; split <;> rfl
    rw [this]; split <;> omega
  | refund p hs =>
    rw [if_neg (nk (k := 3) (by decide) (by decide) (by decide)), if_neg (nk (k := 4) (by decide) (by decide) (by decide))]
    have : wt q { x with State := 4, Left := 0 } = 0 := by unfold wt; split <;> rfl
    rw [this, if_neg (nk (k := 4) (by decide) (by decide) (by decide))]; omega
end Go.Proofs.YtcbijkakoepglaaGreat
namespace Go.Proofs.YtcbijkakoepglaaGreat
open Go Go.Wx

theorem fine_ne {p : TPosting} (h : fineP p = true) : pFrom p ≠ pTo p := fun e => fine_from h (congrArg Tplace.account_Kind e)
theorem fine_n {p : TPosting} (h : fineP p = true) : 1 ≤ p.N ∧ p.N ≤ 1000000000 := by
  unfold fineP at h
  simp only [Bool.and_eq_true, decide_eq_true_eq] at h
  exact h.1.1.1.1.2
def bal (ps : List TPosting) (q : Tplace) : Int := getM (balOn 100000 [] ps) q
theorem fine_day {p : TPosting} (h : fineP p = true) : 0 ≤ p.Day ∧ p.Day ≤ 100000 := by
  unfold fineP at h
  simp only [Bool.and_eq_true, decide_eq_true_eq] at h
  exact h.1.1.1.1.1.1
theorem bal_add (ps : List TPosting) {p : TPosting} (h : fineP p = true) (q : Tplace) : bal (ps ++ [p]) q = if pTo p = q then wr (bal ps q + p.N) else if pFrom p = q then wr (bal ps q - p.N) else bal ps q := by
  have hd := fine_day h
  have hne : pFrom p ≠ pTo p := fine_ne h
  unfold bal
  rw [balOn_app]
  simp only [balOn]
  rw [if_pos hd.2]
  unfold addM subM
  split
  · rename_i e
    subst e
    rw [getM_putM, getM_putM_ne hne.symm]
  · rename_i e
    rw [getM_putM_ne (fun h => e h.symm)]
    split
    · rename_i e2
      subst e2
      rw [getM_putM]
    · rename_i e2
      rw [getM_putM_ne (fun h => e2 h.symm)]
structure T6 (M : MState) : Prop where
  eq : ∀ q : Tplace, (q.account_Kind = 2 ∨ q.account_Kind = 5 ∨ q.account_Kind = 7) → bal M.postings q = sumF (wt q) M.lots
  lo : ∀ u : ByteArray, sumF (wt ⟨4, 0, u⟩) M.lots ≤ bal M.postings ⟨4, 0, u⟩
  hi : ∀ u : ByteArray, bal M.postings ⟨4, 0, u⟩ ≤ sumF (wn u) M.lots
theorem sum_range {M : MState} (h : J M) (q : Tplace) : 0 ≤ sumF (wt q) M.lots ∧ sumF (wt q) M.lots ≤ 2000000000000 := by
  have h1 := sumF_bound (wt q) (K := 1000000000) (by decide) M.lots fun x hx => wt_ok (h.lots x hx) q
  have h2 := h.len
  have : (1000000000 : Int) * (M.lots.length : Int) ≤ 1000000000 * 2000 := Int.mul_le_mul_of_nonneg_left (by omega) (by decide)
  omega
theorem sumn_range {M : MState} (h : J M) (u : ByteArray) : 0 ≤ sumF (wn u) M.lots ∧ sumF (wn u) M.lots ≤ 2000000000000 := by
  have h1 := sumF_bound (wn u) (K := 1000000000) (by decide) M.lots fun x hx => wn_ok (h.lots x hx) u
  have h2 := h.len
  have : (1000000000 : Int) * (M.lots.length : Int) ≤ 1000000000 * 2000 := Int.mul_le_mul_of_nonneg_left (by omega) (by decide)
  omega
/-- a turn, seen from the crown's account. -/
theorem Turn.four {M : MState} {x x' : TLot} {n fk fi tk ti why : Int} (h : Turn x x' n fk fi tk ti why) (hx : LotOk M x) (u : ByteArray) :
    (tk = 4 ∧ fk ≠ 4 ∧ n = x.Left ∧ ti = 0 ∧ wt ⟨4, 0, u⟩ x = 0 ∧ wn u x = 0 ∧ (x.Unit = u → wt ⟨4, 0, u⟩ x' = n ∧ n ≤ wn u x') ∧ (x.Unit ≠ u → wt ⟨4, 0, u⟩ x' = 0 ∧ wn u x' = 0)) ∨
    (fk = 4 ∧ tk ≠ 4 ∧ fi = 0 ∧ n ≤ x.Left ∧ wt ⟨4, 0, u⟩ x' = 0 ∧ wn u x' = wn u x ∧ (x.Unit = u → wt ⟨4, 0, u⟩ x = x.Left) ∧ (x.Unit ≠ u → wt ⟨4, 0, u⟩ x = 0)) ∨
    (tk ≠ 4 ∧ fk ≠ 4 ∧ wt ⟨4, 0, u⟩ x' = 0 ∧ wt ⟨4, 0, u⟩ x = 0 ∧ wn u x' = 0 ∧ wn u x = 0) := by
  have hlv := hx.live
  have hn1 := hx.n1
  have hn2 := hx.n2
  have hl : x.Left ≤ 1000000000 := by omega
  have z1 : ∀ {y : TLot}, (y.State = 1 ∨ y.State = 2 ∨ y.State = 5 ∨ y.State = 6 ∨ y.State = 7) → wt ⟨4, 0, u⟩ y = 0 ∧ wn u y = 0 := by
    intro y hy
    constructor
    · unfold wt
      rw [if_neg]
      unfold plc
      rcases hy with hy | hy | hy | hy | hy <;> simp [hy]
    · unfold wn
      rw [if_neg]
      rintro ⟨_, h⟩
      omega
  have cv : ∀ {m : Int}, x.State = 1 → 1 ≤ m → m ≤ x.Left → wt ⟨4, 0, u⟩ (cvLot x m) = 0 ∧ wn u (cvLot x m) = 0 := by
    intro m hs k1 k2
    obtain ⟨e1, e2⟩ := cvLot_ok hl k1 k2
    refine z1 ?_
    rw [e2]
    split
    · exact .inr (.inl rfl)
    · exact .inl hs
  cases h with
  | forfeit hs =>
    refine .inl ⟨rfl, by decide, rfl, rfl, (z1 (.inl hs)).1, (z1 (.inl hs)).2, fun e => ⟨?_, ?_⟩, fun e => ⟨?_, ?_⟩⟩
    · exact (wt_of (plc3 rfl)).trans (if_pos (by rw [← e]))
    · unfold wn
      rw [if_pos ⟨e, .inl rfl⟩]
      show x.Left ≤ x.N
      omega
    · exact (wt_of (plc3 rfl)).trans (if_neg (by simp only [Tplace.mk.injEq, true_and]; exact e))
    · unfold wn
      rw [if_neg fun h => e h.1]
  | pay p hs => exact .inr (.inr ⟨by decide, by decide, (z1 (.inr (.inl rfl))).1, (z1 (.inl hs)).1, (z1 (.inr (.inl rfl))).2, (z1 (.inl hs)).2⟩)
  | part p m hs k1 k2 => exact .inr (.inr ⟨by decide, by decide, (cv hs k1 k2).1, (z1 (.inl hs)).1, (cv hs k1 k2).2, (z1 (.inl hs)).2⟩)
  | swap m hs k1 k2 => exact .inr (.inr ⟨by decide, by decide, (cv hs k1 k2).1, (z1 (.inl hs)).1, (cv hs k1 k2).2, (z1 (.inl hs)).2⟩)
  | lose hs => exact .inr (.inr ⟨by decide, by decide, (z1 (.inr (.inr (.inl rfl)))).1, (z1 (.inl hs)).1, (z1 (.inr (.inr (.inl rfl)))).2, (z1 (.inl hs)).2⟩)
  | recover hs => exact .inr (.inr ⟨by decide, by decide, (z1 (.inl rfl)).1, (z1 (.inr (.inr (.inl hs)))).1, (z1 (.inl rfl)).2, (z1 (.inr (.inr (.inl hs)))).2⟩)
  | dispatch b hs => exact .inr (.inr ⟨by decide, by decide, (z1 (.inr (.inr (.inr (.inl rfl))))).1, (z1 (.inl hs)).1, (z1 (.inr (.inr (.inr (.inl rfl))))).2, (z1 (.inl hs)).2⟩)
  | arrive hs => exact .inr (.inr ⟨by decide, by decide, (z1 (.inr (.inr (.inr (.inr rfl))))).1, (z1 (.inr (.inr (.inr (.inl hs))))).1, (z1 (.inr (.inr (.inr (.inr rfl))))).2, (z1 (.inr (.inr (.inr (.inl hs))))).2⟩)
  | refund p hs hp hr =>
    refine .inr (.inl ⟨rfl, by decide, rfl, restR_le (by omega) hl, ?_, ?_, fun e => ?_, fun e => ?_⟩)
    · unfold wt; split <;> rfl
    · unfold wn
      by_cases e : x.Unit = u
      · rw [if_pos ⟨e, .inr rfl⟩, if_pos ⟨e, .inl hs⟩]
      · rw [if_neg fun h => e h.1, if_neg fun h => e h.1]
    · exact (wt_of (plc3 hs)).trans (if_pos (by rw [← e]))
    · exact (wt_of (plc3 hs)).trans (if_neg (by simp only [Tplace.mk.injEq, true_and]; exact e))
theorem Move.t6 {M M' : MState} (hm : Move M M') (hJ : J M) (hP : PO M) (h : T6 M) : T6 M' := by
  have hJ' := hm.j hJ
  have hP' := hm.po hJ hP
  cases hm with
  | turn hx ht =>
    rename_i i x x' n fk fi tk ti why
    have hk := hJ.lots _ (List.mem_of_getElem? hx)
    have hfine : fineP ⟨M.day, x.Unit, n, fk, fi, tk, ti, why, x.Id⟩ = true := hP'.fine _ (List.mem_append.2 (.inr List.mem_cons_self))
    have hb : ∀ q, bal (M.postings ++ [⟨M.day, x.Unit, n, fk, fi, tk, ti, why, x.Id⟩]) q = if (⟨tk, ti, x.Unit⟩ : Tplace) = q then wr (bal M.postings q + n) else if (⟨fk, fi, x.Unit⟩ : Tplace) = q then wr (bal M.postings q - n) else bal M.postings q := fun q => bal_add M.postings hfine q
    have hne : (⟨fk, fi, x.Unit⟩ : Tplace) ≠ ⟨tk, ti, x.Unit⟩ := fine_ne hfine
    have hn : 1 ≤ n ∧ n ≤ 1000000000 := fine_n hfine
    have hset := fun f => sumF_set f M.lots i x x' hx
    refine ⟨fun q hq => ?_, fun u => ?_, fun u => ?_⟩
    · show bal (M.postings ++ [_]) q = sumF (wt q) (M.lots.set i x')
      have h1 := sum_range hJ' q
      have h1 : 0 ≤ sumF (wt q) (M.lots.set i x') ∧ sumF (wt q) (M.lots.set i x') ≤ 2000000000000 := h1
      rw [hset] at h1 ⊢
      have hw := ht.goes hk q hq
      rw [hb q, h.eq q hq]
      by_cases e1 : (⟨tk, ti, x.Unit⟩ : Tplace) = q
      · have e2 : ¬ (⟨fk, fi, x.Unit⟩ : Tplace) = q := fun e => hne (e.trans e1.symm)
        rw [if_pos e1, if_neg e2] at hw
        rw [if_pos e1, show wr (sumF (wt q) M.lots + n) = sumF (wt q) M.lots + n from wrap_id (by omega) (by omega)]
        omega
      · rw [if_neg e1] at hw
        rw [if_neg e1]
        by_cases e2 : (⟨fk, fi, x.Unit⟩ : Tplace) = q
        · rw [if_pos e2] at hw
          rw [if_pos e2, show wr (sumF (wt q) M.lots - n) = sumF (wt q) M.lots - n from wrap_id (by omega) (by omega)]
          omega
        · rw [if_neg e2] at hw
          rw [if_neg e2]
          omega
    · show sumF (wt ⟨4, 0, u⟩) (M.lots.set i x') ≤ bal (M.postings ++ [_]) ⟨4, 0, u⟩
      have h1 := sumn_range hJ u
      have h1' : 0 ≤ sumF (wn u) (M.lots.set i x') ∧ sumF (wn u) (M.lots.set i x') ≤ 2000000000000 := sumn_range hJ' u
      have h2 := sum_range hJ ⟨4, 0, u⟩
      rw [hset] at h1' ⊢
      rw [hb]
      have hlo := h.lo u
      have hhi := h.hi u
      have hwle : wt ⟨4, 0, u⟩ x ≤ sumF (wt ⟨4, 0, u⟩) M.lots := sumF_le _ _ (fun y hy => (wt_ok (hJ.lots y hy) _).1) x (List.mem_of_getElem? hx)
      rcases ht.four hk u with ⟨t1, t2, t3, t4, t5, t6, t7, t8⟩ | ⟨t1, t2, t3, t4, t5, t6, t7, t8⟩ | ⟨t1, t2, t3, t4, t5, t6⟩
      · by_cases e : x.Unit = u
        · obtain ⟨k1, k2⟩ := t7 e
          rw [if_pos (by rw [t1, t4, e]), show wr (bal M.postings ⟨4, 0, u⟩ + n) = bal M.postings ⟨4, 0, u⟩ + n from wrap_id (by omega) (by omega)]
          omega
        · obtain ⟨k1, k2⟩ := t8 e
          rw [if_neg (by simp only [Tplace.mk.injEq, not_and]; intro _ _; exact e), if_neg (by simp only [Tplace.mk.injEq, not_and]; intro h; exact absurd h t2)]
          omega
      · rw [if_neg (by simp only [Tplace.mk.injEq, not_and]; intro h; exact absurd h t2)]
        by_cases e : x.Unit = u
        · have k1 := t7 e
          rw [if_pos (by rw [t1, t3, e]), show wr (bal M.postings ⟨4, 0, u⟩ - n) = bal M.postings ⟨4, 0, u⟩ - n from wrap_id (by omega) (by omega)]
          omega
        · have k1 := t8 e
          rw [if_neg (by simp only [Tplace.mk.injEq, not_and]; intro _ _; exact e)]
          omega
      · rw [if_neg (by simp only [Tplace.mk.injEq, not_and]; intro h; exact absurd h t1), if_neg (by simp only [Tplace.mk.injEq, not_and]; intro h; exact absurd h t2)]
        omega
    · show bal (M.postings ++ [_]) ⟨4, 0, u⟩ ≤ sumF (wn u) (M.lots.set i x')
      have h1 := sumn_range hJ u
      have h1' : 0 ≤ sumF (wn u) (M.lots.set i x') ∧ sumF (wn u) (M.lots.set i x') ≤ 2000000000000 := sumn_range hJ' u
      have h2 := sum_range hJ ⟨4, 0, u⟩
      rw [hset] at h1' ⊢
      rw [hb]
      have hlo := h.lo u
      have hhi := h.hi u
      have hwle : wt ⟨4, 0, u⟩ x ≤ sumF (wt ⟨4, 0, u⟩) M.lots := sumF_le _ _ (fun y hy => (wt_ok (hJ.lots y hy) _).1) x (List.mem_of_getElem? hx)
      rcases ht.four hk u with ⟨t1, t2, t3, t4, t5, t6, t7, t8⟩ | ⟨t1, t2, t3, t4, t5, t6, t7, t8⟩ | ⟨t1, t2, t3, t4, t5, t6⟩
      · by_cases e : x.Unit = u
        · obtain ⟨k1, k2⟩ := t7 e
          rw [if_pos (by rw [t1, t4, e]), show wr (bal M.postings ⟨4, 0, u⟩ + n) = bal M.postings ⟨4, 0, u⟩ + n from wrap_id (by omega) (by omega)]
          omega
        · obtain ⟨k1, k2⟩ := t8 e
          rw [if_neg (by simp only [Tplace.mk.injEq, not_and]; intro _ _; exact e), if_neg (by simp only [Tplace.mk.injEq, not_and]; intro h; exact absurd h t2)]
          omega
      · rw [if_neg (by simp only [Tplace.mk.injEq, not_and]; intro h; exact absurd h t2)]
        by_cases e : x.Unit = u
        · have k1 := t7 e
          rw [if_pos (by rw [t1, t3, e]), show wr (bal M.postings ⟨4, 0, u⟩ - n) = bal M.postings ⟨4, 0, u⟩ - n from wrap_id (by omega) (by omega)]
          omega
        · have k1 := t8 e
          rw [if_neg (by simp only [Tplace.mk.injEq, not_and]; intro _ _; exact e)]
          omega
      · rw [if_neg (by simp only [Tplace.mk.injEq, not_and]; intro h; exact absurd h t1), if_neg (by simp only [Tplace.mk.injEq, not_and]; intro h; exact absurd h t2)]
        omega
  | keep hx hs hr =>
    rename_i i x
    have hk := hJ.lots _ (List.mem_of_getElem? hx)
    have hlv := hk.live
    have hset := fun f => sumF_set f M.lots i x { x with State := 4, Left := 0 } hx
    have w0 : ∀ q, wt q { x with State := 4, Left := 0 } = 0 := fun q => by unfold wt; split <;> rfl
    refine ⟨fun q hq => ?_, fun u => ?_, fun u => ?_⟩
    · show bal M.postings q = sumF (wt q) (M.lots.set i _)
      rw [hset, w0, h.eq q hq]
      have : wt q x = 0 := (wt_of (plc3 hs)).trans (if_neg fun e => by rw [← e] at hq; simp at hq)
      omega
    · show sumF (wt ⟨4, 0, u⟩) (M.lots.set i _) ≤ bal M.postings ⟨4, 0, u⟩
      rw [hset, w0]
      have := h.lo u
      have := (wt_ok hk ⟨4, 0, u⟩).1
      omega
    · show bal M.postings ⟨4, 0, u⟩ ≤ sumF (wn u) (M.lots.set i _)
      rw [hset]
      have : wn u { x with State := 4, Left := 0 } = wn u x := by
        unfold wn
        by_cases e : x.Unit = u
        · rw [if_pos ⟨e, .inr rfl⟩, if_pos ⟨e, .inl hs⟩]
        · rw [if_neg fun h => e h.1, if_neg fun h => e h.1]
      have := h.hi u
      omega
  | enter hw hl hlen =>
    rename_i x fk why
    have hfine : fineP ⟨M.day, x.Unit, x.N, fk, 0, 2, x.Thing, why, M.nextId⟩ = true := hP'.fine _ (List.mem_append.2 (.inr List.mem_cons_self))
    have hb : ∀ q, bal (M.postings ++ [⟨M.day, x.Unit, x.N, fk, 0, 2, x.Thing, why, M.nextId⟩]) q = if (⟨2, x.Thing, x.Unit⟩ : Tplace) = q then wr (bal M.postings q + x.N) else if (⟨fk, 0, x.Unit⟩ : Tplace) = q then wr (bal M.postings q - x.N) else bal M.postings q := fun q => bal_add M.postings hfine q
    have hfk : fk = 1 ∨ fk = 6 := by rcases hw with ⟨h, _⟩ | ⟨h, _⟩ <;> omega
    have hs : ∀ f, sumF f (M.lots ++ [{ x with Id := M.nextId, State := 1, Bag := 0 }]) = sumF f M.lots + f { x with Id := M.nextId, State := 1, Bag := 0 } := fun f => by rw [sumF_app]; simp [sumF]
    have hwt : ∀ q, wt q { x with Id := M.nextId, State := 1, Bag := 0 } = if (⟨2, x.Thing, x.Unit⟩ : Tplace) = q then x.N else 0 := fun q => by
      rw [← hl.left]
      exact wt_of (plc1 rfl)
    have hwn : ∀ u, wn u { x with Id := M.nextId, State := 1, Bag := 0 } = 0 := fun u => by
      unfold wn
      rw [if_neg (by simp)]
    refine ⟨fun q hq => ?_, fun u => ?_, fun u => ?_⟩
    · show bal (M.postings ++ [_]) q = sumF (wt q) (M.lots ++ [_])
      have h1 : 0 ≤ sumF (wt q) (M.lots ++ [{ x with Id := M.nextId, State := 1, Bag := 0 }]) ∧ sumF (wt q) (M.lots ++ [{ x with Id := M.nextId, State := 1, Bag := 0 }]) ≤ 2000000000000 := sum_range hJ' q
      rw [hs, hwt] at h1 ⊢
      rw [hb q, h.eq q hq]
      split at h1
      · rename_i e
        rw [if_pos e, if_pos e, show wr (sumF (wt q) M.lots + x.N) = sumF (wt q) M.lots + x.N from wrap_id (by omega) (by omega)]
      · rename_i e
        rw [if_neg e, if_neg e, if_neg (fun e2 => by rw [← e2] at hq; simp only at hq; omega)]
        omega
    · show sumF (wt ⟨4, 0, u⟩) (M.lots ++ [_]) ≤ bal (M.postings ++ [_]) ⟨4, 0, u⟩
      rw [hs, hwt, hb, if_neg (by simp), if_neg (by simp), if_neg (by simp only [Tplace.mk.injEq, not_and]; intro h; omega)]
      have := h.lo u
      omega
    · show bal (M.postings ++ [_]) ⟨4, 0, u⟩ ≤ sumF (wn u) (M.lots ++ [_])
      rw [hs, hwn, hb, if_neg (by simp), if_neg (by simp only [Tplace.mk.injEq, not_and]; intro h; omega)]
      have := h.hi u
      omega
  | day h1 h2 => exact ⟨h.eq, h.lo, h.hi⟩
  | unit hn hf => exact ⟨h.eq, h.lo, h.hi⟩
  | value hu g1 g2 => exact ⟨h.eq, h.lo, h.hi⟩
  | term h1 h2 h3 => exact ⟨h.eq, h.lo, h.hi⟩
theorem Moves.t6 {M M' : MState} (hm : Moves M M') (hJ : J M) (hP : PO M) (h : T6 M) : T6 M' := by
  induction hm with
  | refl => exact h
  | tail h1 h2 ih => exact h2.t6 (h1.j hJ) (h1.po hJ hP) ih
theorem t6_M0 : T6 M0 := ⟨fun q _ => rfl, fun u => by simp [M0, sumF, bal, balOn, getM], fun u => by simp [M0, sumF, bal, balOn, getM]⟩
end Go.Proofs.YtcbijkakoepglaaGreat
namespace Go.Proofs.YtcbijkakoepglaaGreat
open Go Go.Wx

/-! ### the list of sums -/
def keyIs (p : Tplace) (y : TTrialLine) : Bool := ((y.Account_Kind == p.account_Kind) && ((y.Account_Id == p.account_Id) && true)) && strEq y.Unit p.unit
def keyOfL (y : TTrialLine) : Tplace := ⟨y.Account_Kind, y.Account_Id, y.Unit⟩
theorem keyIs_iff {p : Tplace} {y : TTrialLine} : keyIs p y = true ↔ keyOfL y = p := by
  unfold keyIs keyOfL
  cases p
  simp [strEq_iff, and_assoc]
def addedOn (x : TTrialLine) : List TTrialLine → List TTrialLine
  | [] => [x]
  | y :: ys => if keyIs (keyOfL x) y then { x with N := wr (x.N + y.N) } :: ys else if ltLine x y then x :: y :: ys else y :: addedOn x ys
def getL (p : Tplace) : List TTrialLine → Int
  | [] => 0
  | y :: ys => if keyIs p y then y.N else getL p ys

theorem ltLine_key {x y z : TTrialLine} (h : keyOfL x = keyOfL y) : ltLine x z = ltLine y z ∧ ltLine z x = ltLine z y := by
  unfold keyOfL at h
  simp only [Tplace.mk.injEq] at h
  obtain ⟨h1, h2, h3⟩ := h
  constructor <;> (rw [Bool.eq_iff_iff, ltLine_iff, ltLine_iff, h1, h2, h3])
theorem ltLine_tot {x y : TTrialLine} (h1 : ltLine x y = false) (h2 : ltLine y x = false) : keyOfL x = keyOfL y := by
  rw [ltLine_false] at h1 h2
  have e1 : x.Account_Kind = y.Account_Kind := by
    apply Classical.byContradiction; intro hne
    by_cases h3 : x.Account_Kind < y.Account_Kind
    · exact h1 (.inl h3)
    · exact h2 (.inl (by omega))
  have e2 : x.Account_Id = y.Account_Id := by
    apply Classical.byContradiction; intro hne
    by_cases h3 : x.Account_Id < y.Account_Id
    · exact h1 (.inr ⟨e1, .inl h3⟩)
    · exact h2 (.inr ⟨e1.symm, .inl (by omega)⟩)
  have e3 : x.Unit = y.Unit := by
    refine strLt_anti ?_ ?_
    · cases h : strLt x.Unit y.Unit with
      | false => rfl
      | true => exact (h1 (.inr ⟨e1, .inr ⟨e2, h⟩⟩)).elim
    · cases h : strLt y.Unit x.Unit with
      | false => rfl
      | true => exact (h2 (.inr ⟨e1.symm, .inr ⟨e2.symm, h⟩⟩)).elim
  unfold keyOfL
  rw [e1, e2, e3]

/-- strictly ascending. -/
def Str (l : List TTrialLine) : Prop := l.Pairwise fun x y => ltLine x y = true
theorem Str.asc {l : List TTrialLine} (h : Str l) : Asc ltLine l := h.imp fun h => swoLine.asymmA h
theorem Str.keys {l : List TTrialLine} (h : Str l) : l.Pairwise fun x y => keyOfL x ≠ keyOfL y := h.imp fun {x y} h e => by
  have := (ltLine_key (z := y) e).1
  rw [h, swoLine.irrefl] at this; cases this
theorem str_of_sorted {m : List (Tplace × Int)} (h : m.Pairwise fun x y => x.1 ≠ y.1) : Str (isort ltLine (m.map lineOf)) := by
  have hn : ((isort ltLine (m.map lineOf)).map keyOfL).Nodup := by
    have hp : ((isort ltLine (m.map lineOf)).map keyOfL).Perm (m.map (·.1)) := by
      have := ((isort_perm (lt := ltLine) (m.map lineOf)).map keyOfL)
      rw [List.map_map] at this
      exact this
    exact hp.nodup_iff.2 (List.pairwise_map.2 h)
  have hk := List.pairwise_map.1 hn
  refine (isort_asc swoLine _).imp₂ (fun {x y} h1 h2 => ?_) hk
  cases h3 : ltLine x y with
  | true => rfl
  | false => exact absurd (ltLine_tot h3 h1) h2
theorem addedOn_mem {x : TTrialLine} : ∀ {l : List TTrialLine}, Str l → ∀ z, z ∈ addedOn x l ↔ (z ∈ l ∧ keyOfL z ≠ keyOfL x) ∨ z = { x with N := if l.any (keyIs (keyOfL x)) then wr (x.N + getL (keyOfL x) l) else x.N }
  | [], _, z => by simp [addedOn]
  | y :: ys, h, z => by
    obtain ⟨h1, h2⟩ := List.pairwise_cons.1 h
    unfold addedOn
    by_cases hk : keyIs (keyOfL x) y = true
    · have hk' := keyIs_iff.1 hk
      rw [if_pos hk]
      have hg : getL (keyOfL x) (y :: ys) = y.N := by unfold getL; rw [if_pos hk]
      have ha : (y :: ys).any (keyIs (keyOfL x)) = true := by rw [List.any_cons, hk]; rfl
      rw [hg, ha, if_pos rfl]
      constructor
      · intro hz
        rcases List.mem_cons.1 hz with rfl | hz
        · exact .inr rfl
        · refine .inl ⟨List.mem_cons_of_mem _ hz, fun e => ?_⟩
          have := (ltLine_key (z := y) (hk'.trans e.symm).symm).2
          have h3 := h1 z hz
          rw [this, swoLine.irrefl] at h3
          cases h3
      · rintro (⟨hz, hne⟩ | rfl)
        · rcases List.mem_cons.1 hz with rfl | hz
          · exact absurd hk' hne
          · exact List.mem_cons_of_mem _ hz
        · exact List.mem_cons_self
    · rw [if_neg hk]
      have hk' : keyOfL y ≠ keyOfL x := fun e => hk (keyIs_iff.2 e)
      have hg : getL (keyOfL x) (y :: ys) = getL (keyOfL x) ys := by rw [getL, if_neg hk]
      have ha : (y :: ys).any (keyIs (keyOfL x)) = ys.any (keyIs (keyOfL x)) := by rw [List.any_cons, show keyIs (keyOfL x) y = false by simpa using hk]; rfl
      rw [hg, ha]
      by_cases hl : ltLine x y = true
      · rw [if_pos hl]
        have hno : ∀ z ∈ y :: ys, keyOfL z ≠ keyOfL x := fun z hz e => by
          have h3 : ltLine x z = true := by
            rcases List.mem_cons.1 hz with rfl | hz
            · exact hl
            · exact swoLine.trans _ _ _ hl (h1 z hz)
          have := (ltLine_key (z := z) e.symm).1
          rw [h3, swoLine.irrefl] at this; cases this
        have hany : ys.any (keyIs (keyOfL x)) = false := by
          rw [List.any_eq_false]
          exact fun z hz e => hno z (List.mem_cons_of_mem _ hz) (keyIs_iff.1 e)
        rw [hany, if_neg (by simp)]
        constructor
        · intro hz
          rcases List.mem_cons.1 hz with rfl | hz
          · exact .inr rfl
          · exact .inl ⟨hz, hno z hz⟩
        · rintro (⟨hz, _⟩ | rfl)
          · exact List.mem_cons_of_mem _ hz
          · exact List.mem_cons_self
      · rw [if_neg hl, List.mem_cons, addedOn_mem h2 z, List.mem_cons]
        constructor
        · rintro (rfl | ⟨hz, hne⟩ | hz)
          · exact .inl ⟨.inl rfl, hk'⟩
          · exact .inl ⟨.inr hz, hne⟩
          · exact .inr hz
        · rintro (⟨rfl | hz, hne⟩ | hz)
          · exact .inl rfl
          · exact .inr (.inl ⟨hz, hne⟩)
          · exact .inr (.inr hz)
theorem addedOn_str {x : TTrialLine} : ∀ {l : List TTrialLine}, Str l → Str (addedOn x l)
  | [], _ => by simp [addedOn, Str]
  | y :: ys, h => by
    obtain ⟨h1, h2⟩ := List.pairwise_cons.1 h
    unfold addedOn
    split
    · rename_i hk
      have hk' := keyIs_iff.1 hk
      refine List.pairwise_cons.2 ⟨fun z hz => ?_, h2⟩
      rw [← (ltLine_key (x := y) (y := { x with N := wr (x.N + y.N) }) (z := z) hk').1]
      exact h1 z hz
    rename_i hk
    have hk' : keyOfL y ≠ keyOfL x := fun e => hk (keyIs_iff.2 e)
    split
    · rename_i hl
      refine List.pairwise_cons.2 ⟨fun z hz => ?_, h⟩
      rcases List.mem_cons.1 hz with rfl | hz
      · exact hl
      · exact swoLine.trans _ _ _ hl (h1 z hz)
    · rename_i hl
      have hyx : ltLine y x = true := by
        cases h3 : ltLine y x with
        | true => rfl
        | false => exact absurd (ltLine_tot h3 (by simpa using hl)) hk'
      refine List.pairwise_cons.2 ⟨fun z hz => ?_, addedOn_str h2⟩
      rcases (addedOn_mem h2 z).1 hz with ⟨hz, _⟩ | rfl
      · exact h1 z hz
      · rw [(ltLine_key (x := { x with N := if ys.any (keyIs (keyOfL x)) then wr (x.N + getL (keyOfL x) ys) else x.N }) (y := x) (z := y) rfl).2]; exact hyx

theorem putM_mem {p : Tplace} {u : Int} : ∀ {m : List (Tplace × Int)}, (m.Pairwise fun x y => x.1 ≠ y.1) → ∀ z, z ∈ putM m p u ↔ (z ∈ m ∧ z.1 ≠ p) ∨ z = (p, u)
  | [], _, z => by simp [putM]
  | (q, v) :: m, h, z => by
    obtain ⟨h1, h2⟩ := List.pairwise_cons.1 h
    unfold putM
    split
    · rename_i e
      subst e
      rw [List.mem_cons, List.mem_cons]
      constructor
      · rintro (rfl | hz)
        · exact .inr rfl
        · exact .inl ⟨.inr hz, fun e => h1 z hz e.symm⟩
      · rintro (⟨rfl | hz, hne⟩ | rfl)
        · exact absurd rfl hne
        · exact .inr hz
        · exact .inl rfl
    · rename_i e
      rw [List.mem_cons, putM_mem h2 z, List.mem_cons]
      constructor
      · rintro (rfl | ⟨hz, hne⟩ | hz)
        · exact .inl ⟨.inl rfl, fun e' => e e'.symm⟩
        · exact .inl ⟨.inr hz, hne⟩
        · exact .inr hz
      · rintro (⟨rfl | hz, hne⟩ | hz)
        · exact .inl rfl
        · exact .inr (.inl ⟨hz, hne⟩)
        · exact .inr (.inr hz)
theorem putM_pw {p : Tplace} {u : Int} : ∀ {m : List (Tplace × Int)}, (m.Pairwise fun x y => x.1 ≠ y.1) → (putM m p u).Pairwise fun x y => x.1 ≠ y.1
  | [], _ => by simp [putM]
  | (q, v) :: m, h => by
    obtain ⟨h1, h2⟩ := List.pairwise_cons.1 h
    unfold putM
    split
    · exact List.pairwise_cons.2 ⟨h1, h2⟩
    · rename_i e
      refine List.pairwise_cons.2 ⟨fun z hz => ?_, putM_pw h2⟩
      rcases (putM_mem h2 z).1 hz with ⟨hz, _⟩ | rfl
      · exact h1 z hz
      · exact fun e' => e e'.symm
theorem getL_perm {p : Tplace} {v : Int} {l : List TTrialLine} (h : l.Pairwise fun x y => keyOfL x ≠ keyOfL y) (hm : (⟨p.account_Kind, p.account_Id, p.unit, v⟩ : TTrialLine) ∈ l) : getL p l = v := by
  induction l with
  | nil => cases hm
  | cons y ys ih =>
    obtain ⟨h1, h2⟩ := List.pairwise_cons.1 h
    unfold getL
    rcases List.mem_cons.1 hm with rfl | hm
    · rw [if_pos (show keyIs p ⟨p.account_Kind, p.account_Id, p.unit, v⟩ = true from keyIs_iff.2 rfl)]
    · rw [if_neg (show ¬ keyIs p y = true from fun e => h1 _ hm (keyIs_iff.1 e))]
      exact ih h2 hm
theorem getL_none {p : Tplace} {l : List TTrialLine} (h : l.any (keyIs p) = false) : getL p l = 0 := by
  induction l with
  | nil => rfl
  | cons y ys ih =>
    simp only [List.any_cons, Bool.or_eq_false_iff] at h
    unfold getL
    rw [if_neg (by rw [h.1]; simp)]
    exact ih h.2
theorem getM_mem {p : Tplace} : ∀ (m : List (Tplace × Int)), ((∃ y ∈ m, y.1 = p) → (p, getM m p) ∈ m) ∧ ((∀ y ∈ m, y.1 ≠ p) → getM m p = 0)
  | [] => ⟨fun ⟨y, h, _⟩ => (by cases h), fun _ => rfl⟩
  | (q, v) :: m => by
    have ih := getM_mem (p := p) m
    unfold getM
    by_cases e : p = q
    · subst e
      rw [if_pos rfl]
      exact ⟨fun _ => List.mem_cons_self, fun h => absurd rfl (h _ List.mem_cons_self)⟩
    · rw [if_neg e]
      refine ⟨fun ⟨y, hy, he⟩ => List.mem_cons_of_mem _ (ih.1 ?_), fun h => ih.2 fun y hy => h y (List.mem_cons_of_mem _ hy)⟩
      rcases List.mem_cons.1 hy with rfl | hy
      · exact absurd he.symm e
      · exact ⟨y, hy, he⟩
/-- the sums of a map, as the reference keeps them. -/
def sortedOf (m : List (Tplace × Int)) : List TTrialLine := isort ltLine (m.map lineOf)
theorem sorted_mem {m : List (Tplace × Int)} {z : TTrialLine} : z ∈ sortedOf m ↔ ∃ y ∈ m, lineOf y = z := by
  unfold sortedOf
  rw [(isort_perm _).mem_iff, List.mem_map]
theorem sorted_any {m : List (Tplace × Int)} {p : Tplace} : (sortedOf m).any (keyIs p) = true ↔ ∃ y ∈ m, y.1 = p := by
  rw [List.any_eq_true]
  constructor
  · rintro ⟨z, hz, hk⟩
    obtain ⟨y, hy, rfl⟩ := sorted_mem.1 hz
    exact ⟨y, hy, keyIs_iff.1 hk⟩
  · rintro ⟨y, hy, rfl⟩
    exact ⟨lineOf y, sorted_mem.2 ⟨y, hy, rfl⟩, keyIs_iff.2 rfl⟩
theorem getL_sorted {m : List (Tplace × Int)} (h : m.Pairwise fun x y => x.1 ≠ y.1) (p : Tplace) : getL p (sortedOf m) = getM m p := by
  cases ha : (sortedOf m).any (keyIs p) with
  | true =>
    have h1 := (getM_mem m).1 (sorted_any.1 ha)
    exact getL_perm (str_of_sorted h).keys (sorted_mem.2 ⟨_, h1, rfl⟩)
  | false =>
    rw [getL_none ha, (getM_mem m).2]
    intro y hy e
    have := (sorted_any (m := m) (p := p)).2 ⟨y, hy, e⟩
    rw [ha] at this; cases this
theorem added_sorted {m : List (Tplace × Int)} (h : m.Pairwise fun x y => x.1 ≠ y.1) (p : Tplace) (v : Int) (hv : wr v = v) : addedOn ⟨p.account_Kind, p.account_Id, p.unit, v⟩ (sortedOf m) = sortedOf (putM m p (wr (v + getM m p))) := by
  have hs : Str (sortedOf m) := str_of_sorted h
  have hs' : Str (addedOn ⟨p.account_Kind, p.account_Id, p.unit, v⟩ (sortedOf m)) := addedOn_str hs
  have hp' : Str (sortedOf (putM m p (wr (v + getM m p)))) := str_of_sorted (putM_pw (p := p) (u := wr (v + getM m p)) h)
  have nod : ∀ {l : List TTrialLine}, Str l → l.Nodup := fun h => h.keys.imp fun h e => h (by rw [e])
  have hval : (if (sortedOf m).any (keyIs p) then wr (v + getL p (sortedOf m)) else v) = wr (v + getM m p) := by
    rw [getL_sorted h]
    split
    · rfl
    · rename_i ha
      rw [(getM_mem m).2, Int.add_zero, hv]
      intro y hy e
      exact ha (sorted_any.2 ⟨y, hy, e⟩)
  have hperm : (addedOn ⟨p.account_Kind, p.account_Id, p.unit, v⟩ (sortedOf m)).Perm (sortedOf (putM m p (wr (v + getM m p)))) := by
    refine (List.perm_ext_iff_of_nodup (nod hs') (nod hp')).2 fun z => ?_
    have hl := addedOn_mem (x := ⟨p.account_Kind, p.account_Id, p.unit, v⟩) hs z
    have hr := @sorted_mem (putM m p (wr (v + getM m p))) z
    constructor
    · intro hz
      refine hr.2 ?_
      rcases hl.1 hz with ⟨hz, hne⟩ | hz
      · obtain ⟨y, hy, rfl⟩ := sorted_mem.1 hz
        exact ⟨y, (putM_mem h y).2 (.inl ⟨hy, hne⟩), rfl⟩
      · refine ⟨(p, wr (v + getM m p)), (putM_mem h _).2 (.inr rfl), ?_⟩
        rw [hz, ← hval]; rfl
    · intro hz
      refine hl.2 ?_
      obtain ⟨y, hy, rfl⟩ := hr.1 hz
      rcases (putM_mem h y).1 hy with ⟨hy, hne⟩ | rfl
      · exact .inl ⟨sorted_mem.2 ⟨y, hy, rfl⟩, hne⟩
      · refine .inr ?_
        rw [← hval]; rfl
  exact hperm.eq_of_pairwise (le := fun x y => ltLine x y = true) (fun a b _ _ h1 h2 => by rw [swoLine.asymmA h1] at h2; cases h2) hs' hp'
theorem sorted_lines {m : List (Tplace × Int)} (h : m.Pairwise fun x y => x.1 ≠ y.1) : (sortedOf m).filter (fun y => y.N != 0) = linesM m := by
  have hs : Str ((sortedOf m).filter (fun y => y.N != 0)) := (str_of_sorted h).filter _
  have hl : Str (linesM m) := str_of_sorted (h.filter _)
  refine List.Perm.eq_of_pairwise (le := fun x y => ltLine x y = true) (fun a b _ _ h1 h2 => by rw [swoLine.asymmA h1] at h2; cases h2) hs hl ?_
  have h1 : ((sortedOf m).filter (fun y => y.N != 0)).Perm ((m.map lineOf).filter (fun y => y.N != 0)) := (isort_perm _).filter _
  refine h1.trans ?_
  rw [List.filter_map]
  exact (isort_perm _).symm
end Go.Proofs.YtcbijkakoepglaaGreat
namespace Go.Proofs.YtcbijkakoepglaaGreat
open Go Go.Wx

def lastD : Option Int → List TPosting → Option Int
  | q, [] => q
  | _, x :: xs => lastD (some x.Day) xs
theorem lastD_mem : ∀ (ps : List TPosting) (q : Option Int), (lastD q ps = q) ∨ ∃ x ∈ ps, lastD q ps = some x.Day
  | [], _ => .inl rfl
  | x :: ps, q => by
    unfold lastD
    rcases lastD_mem ps (some x.Day) with h | ⟨y, hy, h⟩
    · exact .inr ⟨x, List.mem_cons_self, h⟩
    · exact .inr ⟨y, List.mem_cons_of_mem _ hy, h⟩
theorem auditOn_app : ∀ (a : List TPosting) (m : List (Tplace × Int)) (q : Option Int) (b : List TPosting), (auditOn m q a).1 = 0 → auditOn m q (a ++ b) = auditOn (auditOn m q a).2 (lastD q a) b
  | [], _, _, _, _ => rfl
  | p :: a, m, q, b, h => by
    unfold auditOn at h
    rw [List.cons_append]
    rw [show auditOn m q (p :: (a ++ b)) = if !fineP p then (1, m) else if lateP q p then (7, m) else if p.From_Kind ≠ 1 ∧ p.From_Kind ≠ 6 ∧ getM (subM m (pFrom p) p.N) (pFrom p) < 0 then (62, m) else auditOn (addM (subM m (pFrom p) p.N) (pTo p) p.N) (some p.Day) (a ++ b) from rfl]
    rw [show auditOn m q (p :: a) = if !fineP p then (1, m) else if lateP q p then (7, m) else if p.From_Kind ≠ 1 ∧ p.From_Kind ≠ 6 ∧ getM (subM m (pFrom p) p.N) (pFrom p) < 0 then (62, m) else auditOn (addM (subM m (pFrom p) p.N) (pTo p) p.N) (some p.Day) a from rfl]
    by_cases h1 : (!fineP p) = true
    · rw [if_pos h1] at h; simp at h
    rw [if_neg h1] at h
    by_cases h2 : lateP q p = true
    · rw [if_pos h2] at h; simp at h
    rw [if_neg h2] at h
    by_cases h3 : p.From_Kind ≠ 1 ∧ p.From_Kind ≠ 6 ∧ getM (subM m (pFrom p) p.N) (pFrom p) < 0
    · rw [if_pos h3] at h; simp at h
    rw [if_neg h3] at h
    rw [if_neg h1, if_neg h2, if_neg h3, if_neg h1, if_neg h2, if_neg h3]
    exact auditOn_app a _ _ b h
theorem auditOn_map : ∀ (ps : List TPosting) (m : List (Tplace × Int)) (q : Option Int), (auditOn m q ps).1 = 0 → (auditOn m q ps).2 = balOn 100000 m ps
  | [], _, _, _ => rfl
  | p :: ps, m, q, h => by
    unfold auditOn at h ⊢
    by_cases h1 : (!fineP p) = true
    · rw [if_pos h1] at h; simp at h
    rw [if_neg h1] at h
    by_cases h2 : lateP q p = true
    · rw [if_pos h2] at h; simp at h
    rw [if_neg h2] at h
    by_cases h3 : p.From_Kind ≠ 1 ∧ p.From_Kind ≠ 6 ∧ getM (subM m (pFrom p) p.N) (pFrom p) < 0
    · rw [if_pos h3] at h; simp at h
    rw [if_neg h3] at h
    rw [if_neg h1, if_neg h2, if_neg h3]
    have hd := fine_day (p := p) (by simpa using h1)
    unfold balOn
    rw [if_pos hd.2]
    exact auditOn_map ps _ _ h
def AO (M : MState) : Prop := (auditOn [] none M.postings).1 = 0
theorem ao_snoc {ps : List TPosting} (h : (auditOn [] none ps).1 = 0) {p : TPosting} (hf : fineP p = true) (hd : ∀ x ∈ ps, x.Day ≤ p.Day) (hn : p.From_Kind = 1 ∨ p.From_Kind = 6 ∨ 0 ≤ getM (subM (balOn 100000 [] ps) (pFrom p) p.N) (pFrom p)) : (auditOn [] none (ps ++ [p])).1 = 0 := by
  rw [auditOn_app ps _ _ _ h, auditOn_map ps _ _ h]
  have hl : lateP (lastD none ps) p = false := by
    rcases lastD_mem ps none with e | ⟨x, hx, e⟩
    · rw [e]; rfl
    · rw [e]
      have := hd x hx
      unfold lateP
      exact decide_eq_false (by omega)
  unfold auditOn
  rw [if_neg (by rw [hf]; simp), if_neg (by rw [hl]; simp), if_neg (by omega)]
  rfl
theorem Turn.fk {M : MState} {x x' : TLot} {n fk fi tk ti why : Int} (h : Turn x x' n fk fi tk ti why) (hx : LotOk M x) : (fk = 2 ∨ fk = 5 ∨ fk = 7 ∨ (fk = 4 ∧ fi = 0)) ∧ n ≤ x.Left := by
  have hl := hx.live
  have hn := hx.n2
  cases h with
  | forfeit hs => exact ⟨.inl rfl, Int.le_refl _⟩
  | pay p hs => exact ⟨.inl rfl, Int.le_refl _⟩
  | part p m hs k1 k2 => exact ⟨.inl rfl, k2⟩
  | swap m hs k1 k2 => exact ⟨.inl rfl, k2⟩
  | lose hs => exact ⟨.inl rfl, Int.le_refl _⟩
  | recover hs => exact ⟨.inr (.inl rfl), Int.le_refl _⟩
  | dispatch b hs => exact ⟨.inl rfl, Int.le_refl _⟩
  | arrive hs => exact ⟨.inr (.inr (.inl rfl)), Int.le_refl _⟩
  | refund p hs => exact ⟨.inr (.inr (.inr ⟨rfl, rfl⟩)), restR_le (by omega) (by omega)⟩
theorem Move.ao {M M' : MState} (hm : Move M M') (hJ : J M) (hP : PO M) (h6 : T6 M) (h : AO M) : AO M' := by
  have hP' := hm.po hJ hP
  cases hm with
  | turn hx ht =>
    rename_i i x x' n fk fi tk ti why
    have hk := hJ.lots _ (List.mem_of_getElem? hx)
    have hfine : fineP ⟨M.day, x.Unit, n, fk, fi, tk, ti, why, x.Id⟩ = true := hP'.fine _ (List.mem_append.2 (.inr List.mem_cons_self))
    obtain ⟨hfk, hnl⟩ := ht.fk hk
    have hn := fine_n hfine
    have hn : 1 ≤ n ∧ n ≤ 1000000000 := hn
    have hS := sum_range hJ ⟨fk, fi, x.Unit⟩
    have hwx : wt ⟨fk, fi, x.Unit⟩ x = x.Left := (wt_of ht.from_at).trans (if_pos rfl)
    have hle : wt ⟨fk, fi, x.Unit⟩ x ≤ sumF (wt ⟨fk, fi, x.Unit⟩) M.lots := sumF_le _ _ (fun y hy => (wt_ok (hJ.lots y hy) _).1) x (List.mem_of_getElem? hx)
    have hb : n ≤ bal M.postings ⟨fk, fi, x.Unit⟩ ∧ bal M.postings ⟨fk, fi, x.Unit⟩ ≤ 2000000000000 := by
      rcases hfk with rfl | rfl | rfl | ⟨rfl, rfl⟩
      · rw [h6.eq _ (.inl rfl)]; omega
      · rw [h6.eq _ (.inr (.inl rfl))]; omega
      · rw [h6.eq _ (.inr (.inr rfl))]; omega
      · have h1 := h6.lo x.Unit
        have h2 := h6.hi x.Unit
        have h3 := sumn_range hJ x.Unit
        omega
    refine ao_snoc h hfine hP.le (.inr (.inr ?_))
    unfold subM
    rw [getM_putM]
    show 0 ≤ wr (bal M.postings ⟨fk, fi, x.Unit⟩ - n)
    rw [show wr (bal M.postings ⟨fk, fi, x.Unit⟩ - n) = bal M.postings ⟨fk, fi, x.Unit⟩ - n from wrap_id (by omega) (by omega)]
    omega
  | keep hx hs hr => exact h
  | enter hw hl hlen =>
    have hfine := hP'.fine _ (List.mem_append.2 (.inr List.mem_cons_self))
    refine ao_snoc h hfine hP.le ?_
    rcases hw with ⟨h1, _⟩ | ⟨h1, _⟩
    · exact .inl h1
    · exact .inr (.inl h1)
  | day h1 h2 => exact h
  | unit hn hf => exact h
  | value hu g1 g2 => exact h
  | term h1 h2 h3 => exact h
theorem Moves.ao {M M' : MState} (hm : Moves M M') (hJ : J M) (hP : PO M) (h6 : T6 M) (h : AO M) : AO M' := by
  induction hm with
  | refl => exact h
  | tail h1 h2 ih => exact h2.ao (h1.j hJ) (h1.po hJ hP) (h1.t6 hJ hP h6) ih
theorem audit_trial {M : MState} (h : AO M) (hl : M.postings.length ≤ 20000) : auditM M.postings = (0, M.trial 100000) := by
  unfold auditM
  rw [if_neg (by omega), if_neg (by rw [show (auditOn [] none M.postings).1 = 0 from h]; simp), auditOn_map _ _ _ h]
  rfl

/-! ### without one -/
def val (q : Tplace) : Int → List TPosting → Int
  | v, [] => v
  | v, x :: xs => val q (if pTo x = q then wr (v + x.N) else if pFrom x = q then wr (v - x.N) else v) xs
theorem getM_val (q : Tplace) : ∀ (ps : List TPosting) (m : List (Tplace × Int)), (∀ p ∈ ps, fineP p = true) → getM (balOn 100000 m ps) q = val q (getM m q) ps
  | [], _, _ => rfl
  | p :: ps, m, hf => by
    have hfp := hf p List.mem_cons_self
    have hne := fine_ne hfp
    unfold balOn val
    rw [if_pos (fine_day hfp).2, getM_val q ps _ fun x hx => hf x (List.mem_cons_of_mem _ hx)]
    congr 1
    unfold addM subM
    split
    · rename_i e
      subst e
      rw [getM_putM, getM_putM_ne hne.symm]
    · rename_i e
      rw [getM_putM_ne (fun h => e h.symm)]
      split
      · rename_i e2
        subst e2
        rw [getM_putM]
      · rename_i e2
        rw [getM_putM_ne (fun h => e2 h.symm)]
theorem val_app (q : Tplace) : ∀ (a : List TPosting) (v : Int) (b : List TPosting), val q v (a ++ b) = val q (val q v a) b
  | [], _, _ => rfl
  | p :: a, v, b => by simp only [List.cons_append, val]; exact val_app q a _ b
theorem wr_mod (x : Int) : ∃ k : Int, wr x = x + 18446744073709551616 * k := by
  show ∃ k : Int, IntKind.wrap .i64 x = x + 18446744073709551616 * k
  rw [IntKind.wrap_i64]
  exact ⟨-((x + 9223372036854775808) / 18446744073709551616), by omega⟩
theorem val_range (q : Tplace) : ∀ (ps : List TPosting) (v : Int), -9223372036854775808 ≤ v ∧ v ≤ 9223372036854775807 → -9223372036854775808 ≤ val q v ps ∧ val q v ps ≤ 9223372036854775807
  | [], _, h => h
  | p :: ps, v, h => by
    unfold val
    refine val_range q ps _ ?_
    split
    · exact wr_range _
    split
    · exact wr_range _
    · exact h
theorem val_inj (q : Tplace) : ∀ (ps : List TPosting) (v1 v2 : Int), (-9223372036854775808 ≤ v1 ∧ v1 ≤ 9223372036854775807) → (-9223372036854775808 ≤ v2 ∧ v2 ≤ 9223372036854775807) → v1 ≠ v2 → val q v1 ps ≠ val q v2 ps
  | [], _, _, _, _, h => h
  | p :: ps, v1, v2, h1, h2, h => by
    unfold val
    split
    · refine val_inj q ps _ _ (wr_range _) (wr_range _) ?_
      obtain ⟨k1, e1⟩ := wr_mod (v1 + p.N)
      obtain ⟨k2, e2⟩ := wr_mod (v2 + p.N)
      rw [e1, e2]
      omega
    split
    · refine val_inj q ps _ _ (wr_range _) (wr_range _) ?_
      obtain ⟨k1, e1⟩ := wr_mod (v1 - p.N)
      obtain ⟨k2, e2⟩ := wr_mod (v2 - p.N)
      rw [e1, e2]
      omega
    · exact val_inj q ps _ _ h1 h2 h
theorem balOn_pw (d : Int) : ∀ (ps : List TPosting) (m : List (Tplace × Int)), (m.Pairwise fun x y => x.1 ≠ y.1) → (balOn d m ps).Pairwise fun x y => x.1 ≠ y.1
  | [], _, h => h
  | p :: ps, m, h => by
    unfold balOn
    refine balOn_pw d ps _ ?_
    split
    · exact putM_pw (putM_pw h)
    · exact h
theorem getM_filter (q : Tplace) : ∀ (m : List (Tplace × Int)), (m.Pairwise fun x y => x.1 ≠ y.1) → getM (m.filter fun y => y.2 != 0) q = getM m q
  | [], _ => rfl
  | (p, v) :: m, h => by
    obtain ⟨h1, h2⟩ := List.pairwise_cons.1 h
    have ih := getM_filter q m h2
    rw [List.filter_cons]
    split
    · unfold getM
      rw [ih]
    · rename_i hv
      have hv0 : v = 0 := by simpa using hv
      rw [ih]
      rw [show getM ((p, v) :: m) q = if q = p then v else getM m q from rfl]
      split
      · rename_i e
        subst e
        rw [hv0]
        exact (getM_mem m).2 fun y hy e => h1 y hy e.symm
      · rfl
theorem lines_get {m : List (Tplace × Int)} (h : m.Pairwise fun x y => x.1 ≠ y.1) (q : Tplace) : getL q (linesM m) = getM m q := by
  have := getL_sorted (m := m.filter fun y => y.2 != 0) (h.filter _) q
  rw [getM_filter q m h] at this
  exact this
theorem without {a b : List TPosting} {p : TPosting} (hf : ∀ x ∈ a ++ p :: b, fineP x = true) : linesM (balOn 100000 [] (a ++ p :: b)) ≠ linesM (balOn 100000 [] (a ++ b)) := by
  intro e
  have hp := hf p (List.mem_append.2 (.inr List.mem_cons_self))
  have h1 := lines_get (balOn_pw 100000 (a ++ p :: b) [] List.Pairwise.nil) (pFrom p)
  have h2 := lines_get (balOn_pw 100000 (a ++ b) [] List.Pairwise.nil) (pFrom p)
  rw [e, h2, getM_val _ _ _ hf, getM_val _ _ _ (fun x hx => hf x (by
    rcases List.mem_append.1 hx with hx | hx
    · exact List.mem_append.2 (.inl hx)
    · exact List.mem_append.2 (.inr (List.mem_cons_of_mem _ hx)))), val_app, val_app] at h1
  have hr := val_range (pFrom p) a (getM [] (pFrom p)) (by simp [getM])
  generalize val (pFrom p) (getM [] (pFrom p)) a = g at h1 hr
  rw [show val (pFrom p) g (p :: b) = val (pFrom p) (if pTo p = pFrom p then wr (g + p.N) else if pFrom p = pFrom p then wr (g - p.N) else g) b from rfl, if_neg (fun h => fine_ne hp h.symm), if_pos rfl] at h1
  refine val_inj (pFrom p) b g (wr (g - p.N)) hr (wr_range _) ?_ h1
  have hn := fine_n hp
  obtain ⟨k, ek⟩ := wr_mod (g - p.N)
  rw [ek]
  omega
end Go.Proofs.YtcbijkakoepglaaGreat
namespace Go.Proofs.YtcbijkakoepglaaGreat
open Go Go.Wx

/-! ### the days -/
theorem split_day (d : Int) : ∀ (ps : List TPosting), (ps.Pairwise fun p q => p.Day ≤ q.Day) → ∃ j, j ≤ ps.length ∧ (∀ p ∈ ps.take j, p.Day ≤ d) ∧ ∀ p ∈ ps.drop j, d < p.Day
  | [], _ => ⟨0, Nat.le_refl _, by simp, by simp⟩
  | x :: ps, h => by
    obtain ⟨h1, h2⟩ := List.pairwise_cons.1 h
    by_cases hx : x.Day ≤ d
    · obtain ⟨j, j1, j2, j3⟩ := split_day d ps h2
      refine ⟨j + 1, by simp; omega, fun p hp => ?_, by simpa using j3⟩
      rw [List.take_succ_cons] at hp
      rcases List.mem_cons.1 hp with rfl | hp
      · exact hx
      · exact j2 p hp
    · refine ⟨0, Nat.zero_le _, fun p hp => by simp at hp, fun p hp => ?_⟩
      rw [List.drop_zero] at hp
      rcases List.mem_cons.1 hp with rfl | hp
      · omega
      · have := h1 p hp; omega
theorem balOn_upto {d : Int} : ∀ (ps : List TPosting) (m : List (Tplace × Int)), (∀ p ∈ ps, p.Day ≤ d ∧ p.Day ≤ 100000) → balOn d m ps = balOn 100000 m ps
  | [], _, _ => rfl
  | p :: ps, m, h => by
    obtain ⟨h1, h2⟩ := h p List.mem_cons_self
    unfold balOn
    rw [if_pos h1, if_pos h2]
    exact balOn_upto ps _ fun q hq => h q (List.mem_cons_of_mem _ hq)
theorem bal_on_day {M : MState} (h : PO M) (d : Int) : ∃ j, j ≤ M.postings.length ∧ balOn d [] M.postings = balOn 100000 [] (M.postings.take j) := by
  obtain ⟨j, j1, j2, j3⟩ := split_day d M.postings h.days
  refine ⟨j, j1, ?_⟩
  have e : M.postings = M.postings.take j ++ M.postings.drop j := (List.take_append_drop _ _).symm
  rw [show balOn d [] M.postings = balOn d [] (M.postings.take j ++ M.postings.drop j) from congrArg _ e, balOn_app, balOn_later _ _ j3]
  exact balOn_upto _ _ fun p hp => ⟨j2 p hp, (fine_day (h.fine p (List.mem_of_mem_take hp))).2⟩

/-! ### nothing is below 0 -/
theorem prefix_ok : ∀ (ps : List TPosting) (m : List (Tplace × Int)) (qd : Option Int) (k : Int), (auditOn m qd ps).1 = 0 → 0 ≤ k → k + ps.length ≤ 20000 → (∀ q, -(k * 1000000000) ≤ getM m q ∧ getM m q ≤ k * 1000000000) →
    (∀ q : Tplace, q.account_Kind ≠ 1 → q.account_Kind ≠ 6 → 0 ≤ getM m q) → ∀ j, ∀ q : Tplace, q.account_Kind ≠ 1 → q.account_Kind ≠ 6 → 0 ≤ getM (balOn 100000 m (ps.take j)) q
  | [], m, _, _, _, _, _, _, h0, j, q, h1, h6 => by simpa [balOn] using h0 q h1 h6
  | p :: ps, m, qd, k, ha, hk, hl, hb, h0, j, q, q1, q6 => by
    cases j with
    | zero => simpa [balOn] using h0 q q1 q6
    | succ j =>
      unfold auditOn at ha
      by_cases h1 : (!fineP p) = true
      · rw [if_pos h1] at ha; simp at ha
      rw [if_neg h1] at ha
      by_cases h2 : lateP qd p = true
      · rw [if_pos h2] at ha; simp at ha
      rw [if_neg h2] at ha
      by_cases h3 : p.From_Kind ≠ 1 ∧ p.From_Kind ≠ 6 ∧ getM (subM m (pFrom p) p.N) (pFrom p) < 0
      · rw [if_pos h3] at ha; simp at ha
      rw [if_neg h3] at ha
      have hf : fineP p = true := by simpa using h1
      have hn := fine_n hf
      have hne := fine_ne hf
      simp only [List.length_cons] at hl
      have hl : k + 1 + (ps.length : Int) ≤ 20000 := by omega
      rw [List.take_succ_cons]
      unfold balOn
      rw [if_pos (fine_day hf).2]
      have hval : ∀ q, getM (addM (subM m (pFrom p) p.N) (pTo p) p.N) q = if pTo p = q then getM m q + p.N else if pFrom p = q then getM m q - p.N else getM m q := by
        intro q
        have hbq := hb q
        unfold addM subM
        split
        · rename_i e
          subst e
          rw [getM_putM, getM_putM_ne hne.symm]
          exact wrap_id (by omega) (by omega)
        · rename_i e
          rw [getM_putM_ne (fun h => e h.symm)]
          split
          · rename_i e2
            subst e2
            rw [getM_putM]
            exact wrap_id (by omega) (by omega)
          · rename_i e2
            rw [getM_putM_ne (fun h => e2 h.symm)]
      refine prefix_ok ps _ (some p.Day) (k + 1) ha (by omega) hl (fun q => ?_) (fun q q1 q6 => ?_) j q q1 q6
      · have hbq := hb q
        rw [hval q]
        split
        · omega
        split
        · omega
        · omega
      · rw [hval q]
        have h0q := h0 q q1 q6
        split
        · omega
        split
        · rename_i e1 e2
          have hbq := hb q
          have h4 : ¬ getM (subM m (pFrom p) p.N) (pFrom p) < 0 := fun h => h3 ⟨by rw [← e2] at q1; exact q1, by rw [← e2] at q6; exact q6, h⟩
          unfold subM at h4
          rw [getM_putM, e2] at h4
          rw [show wr (getM m q - p.N) = getM m q - p.N from wrap_id (by omega) (by omega)] at h4
          omega
        · exact h0q
theorem day_ok {M : MState} (hP : PO M) (hA : AO M) (hl : M.postings.length ≤ 20000) (d : Int) (q : Tplace) (q1 : q.account_Kind ≠ 1) (q6 : q.account_Kind ≠ 6) : 0 ≤ getM (balOn d [] M.postings) q := by
  obtain ⟨j, _, e⟩ := bal_on_day hP d
  rw [e]
  exact prefix_ok M.postings [] none 0 hA (by omega) (by omega) (fun q => by simp [getM]) (fun q _ _ => by simp [getM]) j q q1 q6

/-! ### the lines of a unit -/
def tot (u : ByteArray) : List (Tplace × Int) → Int
  | [] => 0
  | (q, v) :: m => (if q.unit = u then v else 0) + tot u m
theorem tot_put (u : ByteArray) (p : Tplace) (v : Int) : ∀ m : List (Tplace × Int), tot u (putM m p v) = tot u m + if p.unit = u then v - getM m p else 0
  | [] => by simp [putM, tot, getM]
  | (q, w) :: m => by
    unfold putM getM
    split
    · rename_i e
      subst e
      simp only [tot]
      split <;> omega
    · rename_i e
      have e' : ¬ q = p := fun h => e h.symm
      simp only [tot]
      rw [tot_put u p v m]
      split <;> split <;> omega
theorem tot_bal (u : ByteArray) (d : Int) : ∀ (ps : List TPosting) (m : List (Tplace × Int)), ∃ k : Int, tot u (balOn d m ps) = tot u m + 18446744073709551616 * k
  | [], m => ⟨0, by simp [balOn]⟩
  | p :: ps, m => by
    unfold balOn
    split
    · obtain ⟨k, e⟩ := tot_bal u d ps (addM (subM m (pFrom p) p.N) (pTo p) p.N)
      rw [e]
      unfold addM
      rw [tot_put]
      unfold subM
      rw [tot_put]
      obtain ⟨k1, e1⟩ := wr_mod (getM m (pFrom p) - p.N)
      obtain ⟨k2, e2⟩ := wr_mod (getM (putM m (pFrom p) (wr (getM m (pFrom p) - p.N))) (pTo p) + p.N)
      rw [e2]
      rw [show (pTo p).unit = p.Unit from rfl, show (pFrom p).unit = p.Unit from rfl]
      split
      · exact ⟨k + k1 + k2, by rw [e1]; omega⟩
      · exact ⟨k, by omega⟩
    · exact tot_bal u d ps m
def totL (u : ByteArray) : List TTrialLine → Int
  | [] => 0
  | x :: l => (if x.Unit = u then x.N else 0) + totL u l
theorem totL_perm (u : ByteArray) {l l' : List TTrialLine} (h : l.Perm l') : totL u l = totL u l' := by
  induction h with
  | nil => rfl
  | cons x _ ih => simp only [totL, ih]
  | swap x y l => simp only [totL]; omega
  | trans _ _ h1 h2 => exact h1.trans h2
theorem totL_map (u : ByteArray) : ∀ m : List (Tplace × Int), totL u ((m.filter fun y => y.2 != 0).map lineOf) = tot u m
  | [] => rfl
  | (q, v) :: m => by
    rw [List.filter_cons]
    split
    · simp only [List.map_cons, totL, tot, totL_map u m]
      rfl
    · rename_i h
      have h : v = 0 := by simpa using h
      rw [totL_map u m]
      simp only [tot, h]
      split <;> omega
theorem lines_zero (M : MState) (d : Int) (u : ByteArray) : ∃ k : Int, totL u (M.trial d) = 18446744073709551616 * k := by
  unfold MState.trial linesM
  rw [totL_perm u (isort_perm _), totL_map]
  obtain ⟨k, e⟩ := tot_bal u d M.postings []
  exact ⟨k, by rw [e]; simp [tot]⟩
end Go.Proofs.YtcbijkakoepglaaGreat
namespace Go.Proofs.YtcbijkakoepglaaGreat
open Go Go.Wx
set_option maxRecDepth 100000
def law06_in.R (Q : TAccount → Bool → World → Prop) (x : TLot) (w : World) : Prop := (
 Al w (.cells #[vi x.Id, vi x.Thing, vi x.Layer, vi x.Day, vi x.Due, vs x.Unit, vi x.N, vi x.Left, vu x.State, vi x.Bag] 45) fun b1 w1 =>
 Al w1 (.cells #[vu 0, vi 0] 40) fun b2 w2 =>
 Ifb (x.State == 1)
 (Sb w2 b2 (.cells #[vu 2, vi x.Thing] 40 (0, 0)) fun w3 =>
 Q (⟨2, x.Thing⟩ : TAccount) true w3)
 (Ifb (x.State == 5)
 (Sb w2 b2 (.cells #[vu 5, vi 0] 40 (0, 0)) fun w4 =>
 Q (⟨5, 0⟩ : TAccount) true w4)
 (Ifb (x.State == 6)
 (Sb w2 b2 (.cells #[vu 7, vi x.Bag] 40 (0, 0)) fun w5 =>
 Q (⟨7, x.Bag⟩ : TAccount) true w5)
 (Sb w2 b2 (.cells #[vu 0, vi 0] 40 (0, 0)) fun w6 =>
 Q (⟨0, 0⟩ : TAccount) false w6))))
theorem law06_in.ok {Q : TAccount → Bool → World → Prop} {x : TLot} {w : World} (h : law06_in.R Q x w) : Cl Pg 49 #[vg (TLot.enc x)] w (fun v w' => ∃ r0 r1, v = .tuple #[vg (TAccount.enc r0), vb r1] ∧ Q r0 r1 w') := by
 refine calls_args (args := [vg (TLot.enc x)]) Tryz.func49 ?_
 unfold law06_in.R at h
 refine W_regseq <| alp h ?_
 intro b1 w1 _ _ hb_b1 h
 refine alp h ?_
 intro b2 w2 eb ew hb_b2 h
 have old_hb_b1 := hb_b1
 replace hb_b1 := al_keep ew hb_b1
 have ne_b1_b2 : b1 ≠ b2 := blk_ne old_hb_b1 eb
 clear old_hb_b1
 clear eb ew
 refine ps 1 [(3, vb false)] <| WO_nil <| W_seq <| W_regseq <| ps 1 [(4, vp ⟨b1, 8, none⟩)] <| lb1 tk5 hb_b1 <| WO_nil <| W_block <| W_regseq <| ps 2 [(7, vb (x.State == 1)), (6, vb (x.State == 1))] <| WO_nil <| ci h (fun h => ?_) fun h => ?_
 refine W_regseq <| ps 1 [(8, vp ⟨b1, 1, none⟩)] <| lb1 tk3 hb_b1 <| ps 1 [(10, vg [vu 2, vi x.Thing])] <| sb tk40 hb_b2 h ?_
 intro w3 ew hb_ h
 replace hb_b2 := hb_
 exact ps 1 [(3, vb true)] <| WO_nil <| W_ret <| blockK_ret <| seqK_ret <| retct (t := 2) (ty := 40) (v := vg [vu 2, vi x.Thing]) (v' := vb true) rfl rfl (run_loadVarN tk40 (vs := [vu 2, vi x.Thing]) rfl (cells_blk hb_b2 rfl)) rfl ⟨_, _, rfl, h⟩
 refine W_regseq <| ps 2 [(12, vb (x.State == 5)), (11, vb (x.State == 5))] <| WO_nil <| ci h (fun h => ?_) fun h => ?_
 refine W_regseq <| ps 1 [(13, vg [vu 5, vi 0])] <| sb tk40 hb_b2 h ?_
 intro w4 ew hb_ h
 replace hb_b2 := hb_
 exact ps 1 [(3, vb true)] <| WO_nil <| W_ret <| blockK_ret <| seqK_ret <| retct (t := 2) (ty := 40) (v := vg [vu 5, vi 0]) (v' := vb true) rfl rfl (run_loadVarN tk40 (vs := [vu 5, vi 0]) rfl (cells_blk hb_b2 rfl)) rfl ⟨_, _, rfl, h⟩
 refine W_regseq <| ps 2 [(15, vb (x.State == 6)), (14, vb (x.State == 6))] <| WO_nil <| ci h (fun h => ?_) fun h => ?_
 refine W_regseq <| ps 1 [(16, vp ⟨b1, 9, none⟩)] <| lb1 tk3 hb_b1 <| ps 1 [(18, vg [vu 7, vi x.Bag])] <| sb tk40 hb_b2 h ?_
 intro w5 ew hb_ h
 replace hb_b2 := hb_
 exact ps 1 [(3, vb true)] <| WO_nil <| W_ret <| blockK_ret <| seqK_ret <| retct (t := 2) (ty := 40) (v := vg [vu 7, vi x.Bag]) (v' := vb true) rfl rfl (run_loadVarN tk40 (vs := [vu 7, vi x.Bag]) rfl (cells_blk hb_b2 rfl)) rfl ⟨_, _, rfl, h⟩
 refine W_skip <| blockK_normal <| W_regseq <| ps 1 [(19, vg [vu 0, vi 0])] <| sb tk40 hb_b2 h ?_
 intro w6 ew hb_ h
 replace hb_b2 := hb_
 exact ps 1 [(3, vb false)] <| WO_nil <| W_ret <| retct (t := 2) (ty := 40) (v := vg [vu 0, vi 0]) (v' := vb false) rfl rfl (run_loadVarN tk40 (vs := [vu 0, vi 0]) rfl (cells_blk hb_b2 rfl)) rfl ⟨_, _, rfl, h⟩
end Go.Proofs.YtcbijkakoepglaaGreat
namespace Go.Proofs.YtcbijkakoepglaaGreat
open Go Go.Wx

abbrev encKey (x : TTrialLine) : Value := vg x.enc
theorem keysLine : Keys TTrialLine 86 49 encKey := {
  under := ⟨3, by kernel_rfl, fun w => by kernel_rfl⟩
  check w b x := by cases x; kernel_rfl
  bits x := by cases x; simp [encKey, TTrialLine.enc, Instr.sameBits]; exact beqB _
  find w x m := by
    have heq : ∀ (w : World) (x y : TTrialLine), (Op.equal 49 (encKey x) (encKey y)).run Pg w = .ok (decide (x = y)) w := fun w x y => by
      cases x; cases y
      show (Op.equalIn (9997 + 3) 49 _ _).run Pg w = _
      rw [show encKey ⟨_, _, _, _⟩ = .agg (List.toArray [vu _, vi _, vs _, vi _]) from rfl, show encKey ⟨_, _, _, _⟩ = .agg (List.toArray [vu _, vi _, vs _, vi _]) from rfl, eqI49]
      congr 1
      rw [Bool.eq_iff_iff]
      simp only [Bool.and_true, Bool.and_eq_true, beq_iff_eq, strEq_iff, decide_eq_true_eq, TTrialLine.mk.injEq, and_assoc]
    obtain ⟨fs, hu⟩ : ∃ fs, Pg.underlying 49 = some (.struct fs) := ⟨_, Tryz.underlying49⟩
    unfold Instr.findKey
    simp only [run_bind, run_underlying hu]
    cases m with
    | nil => rfl
    | cons y m =>
      obtain ⟨y, v⟩ := y
      have : Instr.findNow (.struct fs) (encKey x) (ents encKey 0 ((y, v) :: m)) 0 = none := rfl
      rw [this]
      have h := findAsking_run heq w x ((y, v) :: m) 0 0
      simp only [Nat.zero_add] at h
      exact h }

/-- the account of a lot, as the law asks for it. -/
def inAcct (x : TLot) : Option TAccount := if x.State = 1 then some ⟨2, x.Thing⟩ else if x.State = 5 then some ⟨5, 0⟩ else if x.State = 6 then some ⟨7, x.Bag⟩ else none
theorem in_c {w : World} {x : TLot} {Q : TAccount → Bool → World → Prop} (h1 : ∀ a w', inAcct x = some a → Ext w w' → Q a true w') (h2 : ∀ w', inAcct x = none → Ext w w' → Q ⟨0, 0⟩ false w') : Cl Pg 49 #[vg x.enc] w (fun v w' => ∃ a b, v = .tuple #[vg (TAccount.enc a), vb b] ∧ Q a b w') := by
  refine law06_in.ok (al_f (er w) fun b1 w1 hb1 hat1 E e1 g1 => al_f E fun b2 w2 hb2 hat2 E e2 g2 => ifb ?_)
  split
  · rename_i h
    have h : x.State = 1 := by simpa using h
    exact sb_f E hat2 hb2 fun w3 _ E3 _ => h1 _ w3 (by unfold inAcct; rw [if_pos h]) E3
  rename_i c1
  have c1 : ¬ x.State = 1 := by simpa using c1
  refine ifb ?_
  split
  · rename_i h
    have h : x.State = 5 := by simpa using h
    exact sb_f E hat2 hb2 fun w3 _ E3 _ => h1 _ w3 (by unfold inAcct; rw [if_neg c1, if_pos h]) E3
  rename_i c5
  have c5 : ¬ x.State = 5 := by simpa using c5
  refine ifb ?_
  split
  · rename_i h
    have h : x.State = 6 := by simpa using h
    exact sb_f E hat2 hb2 fun w3 _ E3 _ => h1 _ w3 (by unfold inAcct; rw [if_neg c1, if_neg c5, if_pos h]) E3
  · rename_i h
    have h : ¬ x.State = 6 := by simpa using h
    exact sb_f E hat2 hb2 fun w3 _ E3 _ => h2 w3 (by unfold inAcct; rw [if_neg c1, if_neg c5, if_neg h]) E3

/-- every lot has a posting. -/
def EN (M : MState) : Prop := ∀ i, i < M.lots.length → ∃ p ∈ M.postings, p.Lot = (i : Int) + 1
theorem Move.en {M M' : MState} (hm : Move M M') (h : EN M) : EN M' := by
  cases hm with
  | turn hx ht =>
    intro i hi
    obtain ⟨p, hp, e⟩ := h i (by simpa [MState.setLot, MState.post] using hi)
    exact ⟨p, List.mem_append.2 (.inl hp), e⟩
  | keep hx hs hr => exact fun i hi => h i (by simpa [MState.setLot] using hi)
  | enter hw hl hlen =>
    intro i hi
    simp only [MState.enter, List.length_append, List.length_cons, List.length_nil] at hi
    by_cases hlt : i < M.lots.length
    · obtain ⟨p, hp, e⟩ := h i hlt
      exact ⟨p, List.mem_append.2 (.inl hp), e⟩
    · refine ⟨_, List.mem_append.2 (.inr List.mem_cons_self), ?_⟩
      show (M.lots.length : Int) + 1 = (i : Int) + 1
      omega
  | day h1 h2 => exact h
  | unit hn hf => exact h
  | value hu g1 g2 => exact h
  | term h1 h2 h3 => exact h
theorem Moves.en {M M' : MState} (hm : Moves M M') (h : EN M) : EN M' := by
  induction hm with
  | refl => exact h
  | tail _ h2 ih => exact h2.en ih
theorem en_M0 : EN M0 := fun i hi => by simp [M0] at hi
end Go.Proofs.YtcbijkakoepglaaGreat
namespace Go.Proofs.YtcbijkakoepglaaGreat
open Go Go.Wx
theorem zeros {κ : Type} [DecidableEq κ] {mt kt : TypeId} {enc : κ → Value} (hK : Keys κ mt kt enc) {m : List (κ × Int)} (hz : ∀ y ∈ m, y.2 = 0) {w w0 : World} {b : Nat} (h : MapIs enc w0 b m) (E0 : Ext w w0) {L : Nat → Nat → World → Prop} {F : World → Prop}
    (hstep : ∀ it q w', ((∃ (x3 x4 : Value), ∃ w2, (Instr.next (.pointer (some ⟨it, 0, none⟩)) false 0).run Pg w' = .ok (.tuple #[vb true, x3, x4]) w2 ∧ ∃ y : κ × Int, (Instr.entry (.pointer (some ⟨it, 0, none⟩))).run Pg w2 = .ok (.tuple #[enc y.1, vi y.2]) w2 ∧ y.2 = 0 ∧ L it q w2) ∨ (∃ w2, (Instr.next (.pointer (some ⟨it, 0, none⟩)) false 0).run Pg w' = .ok (.tuple #[.bool false]) w2 ∧ F w2)) → L it (q + 1) w')
    (hF : ∀ w', Ext w w' → F w') : ∃ (it1 : Nat), ∃ w6, (Instr.range mt (.map (some b))).run Pg w0 = .ok (.pointer (some ⟨it1, 0, none⟩)) w6 ∧ ∃ k, L it1 k w6 := by
  obtain ⟨w1, hr1, hi, E1⟩ := range_run hK h
  refine ⟨_, w1, hr1, unseen m.length [] + 1, ?_⟩
  have hit0 : w.heap.size ≤ w0.heap.size := E0.size
  generalize hit : w0.heap.size = it at hr1 hi hit0
  have key : ∀ q w' seen, unseen m.length seen ≤ q → IterIs w' it b m.length seen → MapIs enc w' b m → Ext w w' → L it (q + 1) w' := by
    intro q
    induction q with
    | zero =>
      intro w' seen hs hi h E
      rcases next_run h hi (ty := 0) with ⟨j, y, w2, hj, hy, _, hi2, _⟩ | ⟨hall, w2, hr, e2⟩
      · have := unseen_step (List.getElem?_eq_some_iff.1 hy).1 hj; omega
      · exact hstep it 0 w' (.inr ⟨w2, hr, hF _ (E.trans e2)⟩)
    | succ q ih =>
      intro w' seen hs hi h E
      rcases next_run h hi (ty := 0) with ⟨j, y, w2, hj, hy, hr, hi2, F2⟩ | ⟨hall, w2, hr, e2⟩
      · have hst := unseen_step (List.getElem?_eq_some_iff.1 hy).1 hj
        have hne : b ≠ it := fun e => by subst e; have := hi.blk; have h' := h.1; exact absurd (Option.some.inj (this.symm.trans h')) (by simp)
        have h2 := h.frm F2 hne
        have E2 : Ext w w2 := Frm.trans E F2 fun k hk' e => by omega
        exact hstep it (q + 1) w' (.inl ⟨_, _, w2, hr, y, entry_run h2 hi2 hy, hz y (List.mem_of_getElem? hy), ih w2 (seen ++ [j]) (by omega) hi2 h2 E2⟩)
      · exact hstep it (q + 1) w' (.inr ⟨w2, hr, hF _ (E.trans e2)⟩)
  exact key _ w1 [] (Nat.le_refl _) hi (h.ext E1) (E0.trans E1)
end Go.Proofs.YtcbijkakoepglaaGreat
namespace Go.Proofs.YtcbijkakoepglaaGreat
open Go Go.Wx
def sumT : List (ByteArray × Int) → List TTrialLine → List (ByteArray × Int)
  | m, [] => m
  | m, x :: l => sumT (putM m x.Unit (wr (getM m x.Unit + x.N))) l
theorem sumT_get (u : ByteArray) : ∀ (l : List TTrialLine) (m : List (ByteArray × Int)), ∃ k : Int, getM (sumT m l) u = getM m u + totL u l + 18446744073709551616 * k
  | [], m => ⟨0, by simp [sumT, totL]⟩
  | x :: l, m => by
    obtain ⟨k, e⟩ := sumT_get u l (putM m x.Unit (wr (getM m x.Unit + x.N)))
    unfold sumT totL
    rw [e]
    by_cases hu : x.Unit = u
    · subst hu
      rw [getM_putM, if_pos rfl]
      obtain ⟨k2, e2⟩ := wr_mod (getM m x.Unit + x.N)
      exact ⟨k + k2, by rw [e2]; omega⟩
    · rw [getM_putM_ne (fun h => hu h.symm), if_neg hu]
      exact ⟨k, by omega⟩
theorem putM_rng {κ : Type} [DecidableEq κ] (x : κ) (v : Int) (hv : -9223372036854775808 ≤ v ∧ v ≤ 9223372036854775807) : ∀ (m : List (κ × Int)), (∀ y ∈ m, -9223372036854775808 ≤ y.2 ∧ y.2 ≤ 9223372036854775807) → ∀ y ∈ putM m x v, -9223372036854775808 ≤ y.2 ∧ y.2 ≤ 9223372036854775807
  | [], _, y, hy => by simp [putM] at hy; subst hy; exact hv
  | (z, u) :: m, h, y, hy => by
    unfold putM at hy
    split at hy
    · rcases List.mem_cons.1 hy with rfl | hy
      · exact hv
      · exact h y (List.mem_cons_of_mem _ hy)
    · rcases List.mem_cons.1 hy with rfl | hy
      · exact h _ List.mem_cons_self
      · exact putM_rng x v hv m (fun w hw => h w (List.mem_cons_of_mem _ hw)) y hy
theorem sumT_rng : ∀ (l : List TTrialLine) (m : List (ByteArray × Int)), (∀ y ∈ m, -9223372036854775808 ≤ y.2 ∧ y.2 ≤ 9223372036854775807) → ∀ y ∈ sumT m l, -9223372036854775808 ≤ y.2 ∧ y.2 ≤ 9223372036854775807
  | [], _, h => h
  | x :: l, m, h => sumT_rng l _ (putM_rng _ _ (wr_range _) m h)
theorem getM_of_mem {κ : Type} [DecidableEq κ] : ∀ {m : List (κ × Int)}, (m.Pairwise fun x y => x.1 ≠ y.1) → ∀ y ∈ m, getM m y.1 = y.2
  | [], _, _, h => by cases h
  | (z, u) :: m, h, y, hy => by
    obtain ⟨h1, h2⟩ := List.pairwise_cons.1 h
    unfold getM
    rcases List.mem_cons.1 hy with rfl | hy
    · rw [if_pos rfl]
    · rw [if_neg fun e => h1 y hy e.symm]
      exact getM_of_mem h2 y hy
theorem sumT_zero {M : MState} {d : Int} (hpw : (sumT [] (M.trial d)).Pairwise fun x y => x.1 ≠ y.1) : ∀ y ∈ sumT [] (M.trial d), y.2 = 0 := by
  intro y hy
  have h1 := getM_of_mem hpw y hy
  obtain ⟨k, e⟩ := sumT_get y.1 (M.trial d) []
  obtain ⟨k2, e2⟩ := lines_zero M d y.1
  have h2 := sumT_rng (M.trial d) [] (fun _ h => by cases h) y hy
  rw [h1, e2, show getM ([] : List (ByteArray × Int)) y.1 = 0 from rfl] at e
  omega
end Go.Proofs.YtcbijkakoepglaaGreat
namespace Go.Proofs.YtcbijkakoepglaaGreat
open Go Go.Wx
set_option maxRecDepth 100000
def law06_DrawersBalanced.j1 (Q : Bool → World → Prop) (v1 : Int) (kl1 : Int → World → Prop) (v2 : Bool) (w9 : World) : Prop := (
 Ifb v2
 (Q false w9)
 (kl1 (IntKind.wrap .i64 (v1 + 1)) w9))
def law06_DrawersBalanced.l4 (Q : Bool → World → Prop) (b3 : Nat) (v4 : Int) (kl3 : Int → Int → World → Prop) (r7_a : Option Addr) (r7_n : Nat) : Nat → Int → Int → World → Prop
 | 0, _, _, _ => False
 | nl4 + 1, v5, v6, w21 => (
 Ifb (decide (v6 < ((r7_n : Nat) : Int)))
 (Ix r7_a r7_n v6 fun p2 =>
 LdT TLot.enc w21 (Addr.add p2 (v6.toNat * 10)) fun x7 =>
 Al w21 (.cells #[vi 0, vi 0, vi 0, vi 0, vi 0, vs (ByteArray.mk #[]), vi 0, vi 0, vu 0, vi 0] 45) fun b4 w22 =>
 Sb w22 b4 (.cells #[vi x7.Id, vi x7.Thing, vi x7.Layer, vi x7.Day, vi x7.Due, vs x7.Unit, vi x7.N, vi x7.Left, vu x7.State, vi x7.Bag] 45 (0, 0)) fun w23 =>
 Cl Pg 49 #[vg (TLot.enc x7)] w23 (fun v w24 => ∃ r8 r9, v = .tuple #[vg (TAccount.enc r8), vb r9] ∧ Kp b4 w23 w24 ∧ Al w24 (.cells #[vu 0, vi 0] 40) fun b5 w25 =>
 Sb w25 b5 (.cells #[vu r8.Kind, vi r8.Id] 40 (0, 0)) fun w26 =>
 Ifb r9
 (Dr w26 fun w27 =>
 ∃ x8, (Instr.lookup 86 (.map (some b3)) (vg [vu r8.Kind, vi r8.Id, vs x7.Unit, vi 0]) false).run Pg w27 = .ok (vi x8) w27 ∧
 ∃ (x9 : Int), ∃ (x10 : Int), ∃ w28, (Instr.mapEntry 86 (.map (some b3)) (vg [vu r8.Kind, vi r8.Id, vs x7.Unit, vi 0])).run Pg w27 = .ok (.tuple #[vi x9, vi x10]) w28 ∧
 (Instr.lookup 86 (.map (some b3)) (vg [vu r8.Kind, vi r8.Id, vs x7.Unit, vi 0]) false).run Pg w28 = .ok (vi x8) w28 ∧ ∃ w29, (Instr.entryStore 86 (.map (some b3)) (vi x10) (vi (IntKind.wrap .i64 (x8 + x7.Left)))).run Pg w28 = .ok () w29 ∧
 (law06_DrawersBalanced.l4 Q b3 v4 kl3 r7_a r7_n nl4) (IntKind.wrap .i64 (v5 + 1)) (IntKind.wrap .i64 (v6 + 1)) w29)
 ((law06_DrawersBalanced.l4 Q b3 v4 kl3 r7_a r7_n nl4) (IntKind.wrap .i64 (v5 + 1)) (IntKind.wrap .i64 (v6 + 1)) w26)))
 (kl3 v5 (IntKind.wrap .i64 (v4 + 1)) w21))
def law06_DrawersBalanced.l7 (Q : Bool → World → Prop) (it2 : Nat) : Nat → World → Prop
 | 0, _ => False
 | nl7 + 1, w44 => (
 (∃ (x14 : Value), ∃ (x15 : Value), ∃ w45, (Instr.next (.pointer (some ⟨it2, 0, none⟩)) false 0).run Pg w44 = .ok (.tuple #[vb true, x14, x15]) w45 ∧ ∃ x16 x17, (Instr.entry (.pointer (some ⟨it2, 0, none⟩))).run Pg w45 = .ok (.tuple #[vg (TTrialLine.enc x16), vi x17]) w45 ∧
 Ifb (x17 != 0)
 (Q false w45)
 ((law06_DrawersBalanced.l7 Q it2 nl7)  w45)) ∨
 (∃ w46, (Instr.next (.pointer (some ⟨it2, 0, none⟩)) false 0).run Pg w44 = .ok (.tuple #[.bool false]) w46 ∧ Cl Pg 18 #[] w46 (fun v w47 => ∃ r13, v = vb r13 ∧ Q r13 w47)))
def law06_DrawersBalanced.l6 (Q : Bool → World → Prop) (b3 : Nat) (r12_a : Option Addr) (r12_n : Nat) : Nat → Int → World → Prop
 | 0, _, _ => False
 | nl6 + 1, v9, w36 => (
 Ifb (decide (v9 < ((r12_n : Nat) : Int)))
 (Ix r12_a r12_n v9 fun p4 =>
 LdT TTrialLine.enc w36 (Addr.add p4 (v9.toNat * 4)) fun x12 =>
 Al w36 (.cells #[vu 0, vi 0, vs (ByteArray.mk #[]), vi 0] 49) fun b7 w37 =>
 Sb w37 b7 (.cells #[vu x12.Account_Kind, vi x12.Account_Id, vs x12.Unit, vi x12.N] 49 (0, 0)) fun w38 =>
 Ifb (((x12.Account_Kind != 2) && (x12.Account_Kind != 5)) && (x12.Account_Kind != 7))
 ((law06_DrawersBalanced.l6 Q b3 r12_a r12_n nl6) (IntKind.wrap .i64 (v9 + 1)) w38)
 (Al w38 (.cells #[vu 0, vi 0, vs (ByteArray.mk #[]), vi 0] 49) fun b8 w39 =>
 Sb w39 b8 (.cells #[vu x12.Account_Kind, vi x12.Account_Id, vs x12.Unit, vi 0] 49 (0, 0)) fun w40 =>
 Dr w40 fun w41 =>
 ∃ x13, (Instr.lookup 86 (.map (some b3)) (vg [vu x12.Account_Kind, vi x12.Account_Id, vs x12.Unit, vi 0]) false).run Pg w41 = .ok (vi x13) w41 ∧
 Ifb (x13 != x12.N)
 (Q false w41)
 (∃ w42, (Instr.mapUpdate 86 (.map (some b3)) (vg [vu x12.Account_Kind, vi x12.Account_Id, vs x12.Unit, vi 0]) (vi 0)).run Pg w41 = .ok () w42 ∧
 (law06_DrawersBalanced.l6 Q b3 r12_a r12_n nl6) (IntKind.wrap .i64 (v9 + 1)) w42)))
 (∃ (it2 : Nat), ∃ w43, (Instr.range 86 (.map (some b3))).run Pg w36 = .ok (.pointer (some ⟨it2, 0, none⟩)) w43 ∧
 ∃ k, law06_DrawersBalanced.l7 Q it2 k  w43))
def law06_DrawersBalanced.l5 (Q : Bool → World → Prop) (r1 : Option Addr) (b3 : Nat) (v3 : Int) (r10_a : Option Addr) (r10_n : Nat) : Nat → Int → Int → World → Prop
 | 0, _, _, _ => False
 | nl5 + 1, v7, v8, w31 => (
 Ifb (decide (v8 < ((r10_n : Nat) : Int)))
 (Ix r10_a r10_n v8 fun p3 =>
 LdT TPosting.enc w31 (Addr.add p3 (v8.toNat * 9)) fun x11 =>
 Al w31 (.cells #[vi 0, vs (ByteArray.mk #[]), vi 0, vu 0, vi 0, vu 0, vi 0, vu 0, vi 0] 42) fun b6 w32 =>
 Sb w32 b6 (.cells #[vi x11.Day, vs x11.Unit, vi x11.N, vu x11.From_Kind, vi x11.From_Id, vu x11.To_Kind, vi x11.To_Id, vu x11.Why, vi x11.Lot] 42 (0, 0)) fun w33 =>
 (law06_DrawersBalanced.l5 Q r1 b3 v3 r10_a r10_n nl5) (if x11.Lot > v7 then x11.Lot else v7) (IntKind.wrap .i64 (v8 + 1)) w33)
 (Ifb (v7 != v3)
 (Cl Pg 18 #[] w31 (fun v w34 => ∃ r11, v = vb r11 ∧ Q r11 w34))
 (Cl Pg 25 #[vP r1, vi 100000] w31 (fun v w35 => ∃ r12_a r12_n r12_c, v = vl r12_a r12_n r12_c ∧ ∃ k, law06_DrawersBalanced.l6 Q b3 r12_a r12_n k 0 w35))))
def law06_DrawersBalanced.l3 (Q : Bool → World → Prop) (r1 : Option Addr) (b3 : Nat) : Nat → Int → Int → World → Prop
 | 0, _, _, _ => False
 | nl3 + 1, v3, v4, w19 => (
 Ifb (decide (v4 < 8))
 (Cl Pg 28 #[vP r1, vi v4] w19 (fun v w20 => ∃ r7_a r7_n r7_c, v = vl r7_a r7_n r7_c ∧ ∃ k, law06_DrawersBalanced.l4 Q b3 v4 (law06_DrawersBalanced.l3 Q r1 b3 nl3) r7_a r7_n k v3 0 w20))
 (Cl Pg 26 #[vP r1] w19 (fun v w30 => ∃ r10_a r10_n r10_c, v = vl r10_a r10_n r10_c ∧ ∃ k, law06_DrawersBalanced.l5 Q r1 b3 v3 r10_a r10_n k v3 0 w30)))
def law06_DrawersBalanced.l2 (Q : Bool → World → Prop) (r1 : Option Addr) (it1 : Nat) : Nat → World → Prop
 | 0, _ => False
 | nl2 + 1, w15 => (
 (∃ (x3 : Value), ∃ (x4 : Value), ∃ w16, (Instr.next (.pointer (some ⟨it1, 0, none⟩)) false 0).run Pg w15 = .ok (.tuple #[vb true, x3, x4]) w16 ∧ ∃ x5 x6, (Instr.entry (.pointer (some ⟨it1, 0, none⟩))).run Pg w16 = .ok (.tuple #[vs x5, vi x6]) w16 ∧
 Ifb (x6 != 0)
 (Q false w16)
 ((law06_DrawersBalanced.l2 Q r1 it1 nl2)  w16)) ∨
 (∃ w17, (Instr.next (.pointer (some ⟨it1, 0, none⟩)) false 0).run Pg w15 = .ok (.tuple #[.bool false]) w17 ∧ Al w17 (.map #[] 0) fun b3 w18 =>
 ∃ k, law06_DrawersBalanced.l3 Q r1 b3 k 0 0 w18))
def law06_DrawersBalanced.l1 (Q : Bool → World → Prop) (day : Int) (r1 : Option Addr) (b1 : Nat) (r3_a : Option Addr) (r3_n : Nat) : Nat → Int → World → Prop
 | 0, _, _ => False
 | nl1 + 1, v1, w5 => (
 Ifb (decide (v1 < ((r3_n : Nat) : Int)))
 (Ix r3_a r3_n v1 fun p1 =>
 LdT TTrialLine.enc w5 (Addr.add p1 (v1.toNat * 4)) fun x1 =>
 Al w5 (.cells #[vu 0, vi 0, vs (ByteArray.mk #[]), vi 0] 49) fun b2 w6 =>
 Sb w6 b2 (.cells #[vu x1.Account_Kind, vi x1.Account_Id, vs x1.Unit, vi x1.N] 49 (0, 0)) fun w7 =>
 ∃ x2, (Instr.lookup 56 (.map (some b1)) (vs x1.Unit) false).run Pg w7 = .ok (vi x2) w7 ∧
 ∃ w8, (Instr.mapUpdate 56 (.map (some b1)) (vs x1.Unit) (vi (IntKind.wrap .i64 (x2 + x1.N)))).run Pg w7 = .ok () w8 ∧
 Kp b2 w7 w8 ∧ Dr w8 fun w10 =>
 Ifb (x1.N == 0)
 (law06_DrawersBalanced.j1 Q v1 (law06_DrawersBalanced.l1 Q day r1 b1 r3_a r3_n nl1) true w10)
 (Ifb (decide (x1.N < 0))
 (Ifb (x1.Account_Kind != 1)
 (Ifb (x1.Account_Kind != 6)
 (law06_DrawersBalanced.j1 Q v1 (law06_DrawersBalanced.l1 Q day r1 b1 r3_a r3_n nl1) true w10)
 (Cl Pg 48 #[vP r1, vg [vu x1.Account_Kind, vi x1.Account_Id], vs x1.Unit, vi day] w10 (fun v w11 => ∃ r4, v = vi r4 ∧ Kp b2 w10 w11 ∧ law06_DrawersBalanced.j1 Q v1 (law06_DrawersBalanced.l1 Q day r1 b1 r3_a r3_n nl1) (r4 != x1.N) w11)))
 (Cl Pg 48 #[vP r1, vg [vu x1.Account_Kind, vi x1.Account_Id], vs x1.Unit, vi day] w10 (fun v w12 => ∃ r5, v = vi r5 ∧ Kp b2 w10 w12 ∧ law06_DrawersBalanced.j1 Q v1 (law06_DrawersBalanced.l1 Q day r1 b1 r3_a r3_n nl1) (r5 != x1.N) w12)))
 (Cl Pg 48 #[vP r1, vg [vu x1.Account_Kind, vi x1.Account_Id], vs x1.Unit, vi day] w10 (fun v w13 => ∃ r6, v = vi r6 ∧ Kp b2 w10 w13 ∧ law06_DrawersBalanced.j1 Q v1 (law06_DrawersBalanced.l1 Q day r1 b1 r3_a r3_n nl1) (r6 != x1.N) w13))))
 (∃ (it1 : Nat), ∃ w14, (Instr.range 56 (.map (some b1))).run Pg w5 = .ok (.pointer (some ⟨it1, 0, none⟩)) w14 ∧
 ∃ k, law06_DrawersBalanced.l2 Q r1 it1 k  w14))
def law06_DrawersBalanced.R (Q : Bool → World → Prop) (script_a : Option Addr) (script_n : Nat) (script_c : Nat) (day : Int) (w : World) : Prop := (
 Cl Pg 22 #[vl script_a script_n script_c] w (fun v w1 => ∃ r1, v = vP r1 ∧ Ifb r1.isNone
 (Cl Pg 18 #[] w1 (fun v w2 => ∃ r2, v = vb r2 ∧ Q (r2 && (decide (((script_n : Nat) : Int) > 60))) w2))
 (Al w1 (.map #[] 0) fun b1 w3 =>
 Cl Pg 25 #[vP r1, vi day] w3 (fun v w4 => ∃ r3_a r3_n r3_c, v = vl r3_a r3_n r3_c ∧ ∃ k, law06_DrawersBalanced.l1 Q day r1 b1 r3_a r3_n k 0 w4))))
theorem law06_DrawersBalanced.ok {Q : Bool → World → Prop} {script_a : Option Addr} {script_n : Nat} {script_c : Nat} {day : Int} {w : World} (h : law06_DrawersBalanced.R Q script_a script_n script_c day w) : Cl Pg 10 #[vl script_a script_n script_c, vi day] w (fun v w' => ∃ r0, v = vb r0 ∧ Q r0 w') := by
 refine calls_args (args := [vl script_a script_n script_c, vi day]) Tryz.func10 ?_
 unfold law06_DrawersBalanced.R at h
 refine W_regseq <| ps 1 [(4, vb false)] <| WO_nil <| W_regseq <| ps 1 [(26, vl script_a script_n script_c)] <| cl h ?_
 rintro _ w1 ⟨r1, rfl, h⟩
 refine ps 1 [(5, vP r1)] <| WO_nil <| W_seq <| W_regseq <| ps 1 [(28, vP r1)] <| WO_p rfl rfl (v := vb r1.isNone) (ex_eqlnil_ptr_l (by kernel_rfl) rfl rfl rfl) <| WO_nil <| ci h (fun h => ?_) fun h => ?_
 refine W_regseq <| cl h ?_
 rintro _ w2 ⟨r2, rfl, h⟩
 refine ps 1 [(31, vb r2)] <| WO_conv (fun e w_ => ∃ (e0 : Env), e = upds e0 [(4, vb (r2 && (decide (((script_n : Nat) : Int) > 60))))] ∧ w2 = w_) ?_ ?_
 clear h
 refine WO_case 31 (b := r2) rfl (fun hb0 => ?_) (fun hb0 => ?_)
 exact ps 5 [(32, vl script_a script_n script_c), (33, vi (script_n : Nat)), (34, vb (decide (((script_n : Nat) : Int) > 60))), (35, vb (decide (((script_n : Nat) : Int) > 60))), (4, vb (decide (((script_n : Nat) : Int) > 60)))] <| WO_nil ⟨_, Agree.eq ⟨(by first | rfl | (simp only [hb0, Bool.true_and, Bool.false_and, Bool.true_or, Bool.false_or, Bool.and_true, Bool.and_false, Bool.or_true, Bool.or_false]; done) | (simp only [hb0]; rfl) | (simp [hb0]; done)), trivial⟩, rfl⟩
 exact ps 5 [(32, undef), (33, undef), (34, undef), (35, vb false), (4, vb false)] <| WO_nil ⟨_, Agree.eq ⟨(by first | rfl | (simp only [hb0, Bool.true_and, Bool.false_and, Bool.true_or, Bool.false_or, Bool.and_true, Bool.and_false, Bool.or_true, Bool.or_false]; done) | (simp only [hb0]; rfl) | (simp [hb0]; done)), trivial⟩, rfl⟩
 rintro _ _ ⟨e0, rfl, rfl⟩
 exact W_ret <| seqK_ret <| ret1 (v := vb (r2 && (decide (((script_n : Nat) : Int) > 60)))) (t := 4) rfl rfl ⟨_, rfl, h⟩
 refine W_skip <| W_regseq <| alm h ?_
 intro b1 w3 _ _ _ h
 refine ps 1 [(6, .map (some b1))] <| WO_nil <| W_seq <| W_regseq <| ps 2 [(37, vP r1), (38, vi day)] <| cl h ?_
 rintro _ w4 ⟨r3_a, r3_n, r3_c, rfl, h⟩
 refine ps 2 [(40, vi (r3_n : Nat)), (41, vi 0)] <| WO_nil <| W_block ?_
 obtain ⟨nl1, h⟩ := h
 refine W_loopI (fun k e w5 => ∃ (e0 : Env) (v1 : Int), e = upds e0 [(1, vi day), (5, vP r1), (6, .map (some b1)), (39, vl r3_a r3_n r3_c), (40, vi (r3_n : Nat)), (41, vi v1)] ∧ law06_DrawersBalanced.l1 Q day r1 b1 r3_a r3_n k v1 w5) nl1 ?_ ?_ ?_
 rintro _ _ ⟨_, _, _, h⟩
 exact h
 exact ⟨_, 0, Agree.eq ⟨rfl, rfl, rfl, rfl, rfl, rfl, trivial⟩, h⟩
 clear h nl1
 rintro nl1 _ w5 ⟨e0, v1, rfl, h⟩
 unfold law06_DrawersBalanced.l1 at h
 refine W_regseq <| ps 1 [(42, vb (decide (v1 < ((r3_n : Nat) : Int))))] <| WO_nil <| W_seq <| ci h (fun h => ?_) fun h => ?_
 refine W_skip <| W_seq <| W_block <| W_regseq <| ix slk24 h fun p1 h => ?_
 obtain ⟨x1, hx1, h⟩ := h
 refine ldn tk49 hx1 <| alp h ?_
 intro b2 w6 _ _ hb_b2 h
 refine sb tk49 hb_b2 h ?_
 intro w7 ew hb_ h
 replace hb_b2 := hb_
 refine WO_nil <| W_regseq <| ps 2 [(45, .map (some b1)), (46, vp ⟨b2, 2, none⟩)] <| lb1 tk9 hb_b2 ?_
 obtain ⟨x2, hlk1, h⟩ := h
 refine WO_val rfl rfl (ex_lookup rfl rfl rfl hlk1) <| ps 1 [(49, vp ⟨b2, 3, none⟩)] <| lb1 tk3 hb_b2 <| ps 1 [(51, vi (IntKind.wrap .i64 (x2 + x1.N)))] ?_
 obtain ⟨w8, hrun, hk0, h⟩ := h
 refine WO_unit rfl rfl (ex_mapUpdate rfl rfl rfl rfl hrun) ?_
 replace hb_b2 := kp_at hk0 hb_b2
 clear hrun
 refine WO_nil <| W_join (fun e w9 => ∃ (e0 : Env) (v2 : Bool), e = upds e0 [(1, vi day), (5, vP r1), (6, .map (some b1)), (39, vl r3_a r3_n r3_c), (40, vi (r3_n : Nat)), (41, vi v1), (83, vb v2)] ∧ law06_DrawersBalanced.j1 Q v1 (law06_DrawersBalanced.l1 Q day r1 b1 r3_a r3_n nl1) v2 w9) ?_ ?_
 refine drw folM [[], [], [1], [1], [1], [1], [1, 5], [1, 5], [1, 5], [1, 5], [1, 5], [1, 5, 10], [1, 5, 10], [1, 5, 10], [1, 5, 10], [1, 5, 10], [1, 5, 10], [1, 5, 10, 16], [1, 5, 10, 16], [1, 5, 10, 16], [1, 5, 10, 16], [1, 5, 10, 16], [1, 5, 10, 16], [1, 5, 10, 16], [1, 5, 10, 16], [1, 5, 10, 16], [1, 5, 10, 16], [1, 5, 10, 16, 23, 25], [1, 5, 10, 16], [1, 5, 10, 16], [1, 5, 10, 16, 23, 25, 29], [1, 5, 10, 16, 23, 25, 29]] [.p 0, .l 1, .p 2, .p 3, .p 4, .l 5, .p 6, .p 7, .p 8, .p 9, .l 10, .p 11, .p 12, .p 13, .p 14, .p 15, .l 16, .p 17, .p 18, .p 19, .p 20, .p 21, .p 22, .l 23, .p 24, .l 25, .p 26, .p 28, .l 29, .e 27, .p 30, .p 31] h ?_
 intro w10 ew h
 replace hb_b2 := dr_keep ew hb_b2
 refine psC 1 [(52, vp ⟨b2, 3, none⟩)] ?_
 refine lb1C tk3 hb_b2 <| psC 2 [(54, vb (x1.N == 0)), (55, vb (x1.N == 0))] ?_
 refine csC 55 h (fun h => ?_) fun h => ?_
 exact psC 1 [(56, undef)] <| WC_lskip rfl rfl rfl <| psC 4 [(58, undef), (59, undef), (60, undef), (61, undef)] <| WC_lskip rfl rfl rfl <| psC 5 [(63, undef), (64, undef), (65, undef), (66, undef), (67, undef)] <| WC_lskip rfl rfl rfl <| psC 6 [(69, undef), (70, undef), (71, vb true), (72, vb true), (73, undef), (74, undef)] <| WC_lskip rfl rfl rfl <| psC 1 [(76, undef)] <| WC_lskip rfl rfl rfl <| psC 2 [(78, undef), (80, undef)] <| WC_lskip rfl rfl rfl <| WC_eskip rfl rfl rfl <| psC 2 [(82, undef), (83, vb true)] <| WC_nil <| ⟨_, true, Agree.eq ⟨rfl, rfl, rfl, rfl, rfl, rfl, rfl, trivial⟩, h⟩
 refine psC 1 [(56, vp ⟨b2, 3, none⟩)] ?_
 refine lb1C tk3 hb_b2 <| psC 2 [(58, vb (decide (x1.N < 0))), (59, vb (decide (x1.N < 0)))] ?_
 refine csC 59 h (fun h => ?_) fun h => ?_
 refine psC 2 [(60, vp ⟨b2, 0, none⟩), (61, vp ⟨b2, 0, none⟩)] ?_
 refine lb1C tk5 hb_b2 <| psC 3 [(63, vb (x1.Account_Kind != 1)), (64, vb (x1.Account_Kind != 1)), (65, vb (x1.Account_Kind != 1))] ?_
 refine csC 65 h (fun h => ?_) fun h => ?_
 refine psC 2 [(66, vp ⟨b2, 0, none⟩), (67, vp ⟨b2, 0, none⟩)] ?_
 refine lb1C tk5 hb_b2 <| psC 4 [(69, vb (x1.Account_Kind != 6)), (70, vb (x1.Account_Kind != 6)), (71, vb (x1.Account_Kind != 6)), (72, vb (x1.Account_Kind != 6))] ?_
 refine csC 72 h (fun h => ?_) fun h => ?_
 exact psC 2 [(73, undef), (74, undef)] <| WC_lskip rfl rfl rfl <| psC 1 [(76, undef)] <| WC_lskip rfl rfl rfl <| psC 2 [(78, undef), (80, undef)] <| WC_lskip rfl rfl rfl <| WC_eskip rfl rfl rfl <| psC 2 [(82, undef), (83, vb true)] <| WC_nil <| ⟨_, true, Agree.eq ⟨rfl, rfl, rfl, rfl, rfl, rfl, rfl, trivial⟩, h⟩
 refine psC 2 [(73, vP r1), (74, vp ⟨b2, 0, none⟩)] ?_
 refine lbnC [vu x1.Account_Kind, vi x1.Account_Id] tk40 hb_b2 <| psC 1 [(76, vp ⟨b2, 2, none⟩)] ?_
 refine lb1C tk9 hb_b2 <| psC 2 [(78, vi day), (80, vp ⟨b2, 3, none⟩)] ?_
 refine lb1C tk3 hb_b2 ?_
 refine clC h ?_
 rintro _ w11 ⟨r4, rfl, hk0, h⟩
 replace hb_b2 := kp_at hk0 hb_b2
 refine ⟨AllOk.cons (Pend_ok (ex_load rfl rfl (run_loadVar1 tk3 (cell_blk hb_b2 rfl)))) <| AllOk.nil, ?_⟩
 exact psC 2 [(82, vb (r4 != x1.N)), (83, vb (r4 != x1.N))] <| WC_nil <| ⟨_, (r4 != x1.N), Agree.eq ⟨rfl, rfl, rfl, rfl, rfl, rfl, rfl, trivial⟩, h⟩
 refine psC 2 [(66, undef), (67, undef)] <| WC_lskip rfl rfl rfl <| psC 6 [(69, undef), (70, vb false), (71, vb false), (72, vb false), (73, vP r1), (74, vp ⟨b2, 0, none⟩)] ?_
 refine lbnC [vu x1.Account_Kind, vi x1.Account_Id] tk40 hb_b2 <| psC 1 [(76, vp ⟨b2, 2, none⟩)] ?_
 refine lb1C tk9 hb_b2 <| psC 2 [(78, vi day), (80, vp ⟨b2, 3, none⟩)] ?_
 refine lb1C tk3 hb_b2 ?_
 refine clC h ?_
 rintro _ w12 ⟨r5, rfl, hk0, h⟩
 replace hb_b2 := kp_at hk0 hb_b2
 refine ⟨AllOk.cons (Pend_ok (ex_load rfl rfl (run_loadVar1 tk3 (cell_blk hb_b2 rfl)))) <| AllOk.nil, ?_⟩
 exact psC 2 [(82, vb (r5 != x1.N)), (83, vb (r5 != x1.N))] <| WC_nil <| ⟨_, (r5 != x1.N), Agree.eq ⟨rfl, rfl, rfl, rfl, rfl, rfl, rfl, trivial⟩, h⟩
 refine psC 2 [(60, undef), (61, undef)] <| WC_lskip rfl rfl rfl <| psC 5 [(63, undef), (64, vb false), (65, vb false), (66, undef), (67, undef)] <| WC_lskip rfl rfl rfl <| psC 6 [(69, undef), (70, vb false), (71, vb false), (72, vb false), (73, vP r1), (74, vp ⟨b2, 0, none⟩)] ?_
 refine lbnC [vu x1.Account_Kind, vi x1.Account_Id] tk40 hb_b2 <| psC 1 [(76, vp ⟨b2, 2, none⟩)] ?_
 refine lb1C tk9 hb_b2 <| psC 2 [(78, vi day), (80, vp ⟨b2, 3, none⟩)] ?_
 refine lb1C tk3 hb_b2 ?_
 refine clC h ?_
 rintro _ w13 ⟨r6, rfl, hk0, h⟩
 replace hb_b2 := kp_at hk0 hb_b2
 refine ⟨AllOk.cons (Pend_ok (ex_load rfl rfl (run_loadVar1 tk3 (cell_blk hb_b2 rfl)))) <| AllOk.nil, ?_⟩
 exact psC 2 [(82, vb (r6 != x1.N)), (83, vb (r6 != x1.N))] <| WC_nil <| ⟨_, (r6 != x1.N), Agree.eq ⟨rfl, rfl, rfl, rfl, rfl, rfl, rfl, trivial⟩, h⟩
 clear h hb_b2
 rintro _ w9 ⟨e0, v2, rfl, h⟩
 unfold law06_DrawersBalanced.j1 at h
 refine ci h (fun h => ?_) fun h => ?_
 exact W_regseq <| ps 1 [(4, vb false)] <| WO_nil <| W_ret <| blockK_ret <| seqK_ret <| seqK_ret <| blockK_ret <| seqK_ret <| ret1 (v := vb false) (t := 4) rfl rfl ⟨_, rfl, h⟩
 exact W_skip <| blockK_normal <| W_reg <| ps 2 [(84, vi (IntKind.wrap .i64 (v1 + 1))), (41, vi (IntKind.wrap .i64 (v1 + 1)))] <| WO_nil <| ⟨_, IntKind.wrap .i64 (v1 + 1), Agree.eq ⟨rfl, rfl, rfl, rfl, rfl, rfl, trivial⟩, h⟩
 refine W_exit <| blockK_hit <| W_seq <| W_regseq <| ps 1 [(85, .map (some b1))] ?_
 obtain ⟨it1, w14, hrun, h⟩ := h
 refine WO_val rfl rfl (ex_range rfl rfl hrun) ?_
 clear hrun
 refine WO_nil <| W_block ?_
 obtain ⟨nl2, h⟩ := h
 refine W_loopI (fun k e w15 => ∃ (e0 : Env), e = upds e0 [(5, vP r1), (86, vp ⟨it1, 0, none⟩)] ∧ law06_DrawersBalanced.l2 Q r1 it1 k  w15) nl2 ?_ ?_ ?_
 rintro _ _ ⟨_, _, h⟩
 exact h
 exact ⟨_, Agree.eq ⟨rfl, rfl, trivial⟩, h⟩
 clear h nl2
 rintro nl2 _ w15 ⟨e0, rfl, h⟩
 unfold law06_DrawersBalanced.l2 at h
 refine W_regseq ?_
 rcases h with ⟨x3, x4, w16, hrun, h⟩ | ⟨w17, hrun, h⟩
 refine WO_val rfl rfl (ex_next rfl rfl hrun) ?_
 clear hrun
 refine ps 1 [(88, vb true)] <| WO_nil <| W_seq <| W_cond (t := true) rfl <| W_skip <| W_block <| W_regseq ?_
 obtain ⟨x5, x6, hen, h⟩ := h
 refine WO_val rfl rfl (ex_entry rfl rfl hen) ?_
 clear hen
 refine ps 2 [(90, vi x6), (10, vi x6)] <| WO_nil <| W_regseq <| ps 2 [(91, vi x6), (92, vb (x6 != 0))] <| WO_nil <| ci h (fun h => ?_) fun h => ?_
 exact W_regseq <| ps 1 [(4, vb false)] <| WO_nil <| W_ret <| blockK_ret <| seqK_ret <| blockK_ret <| seqK_ret <| ret1 (v := vb false) (t := 4) rfl rfl ⟨_, rfl, h⟩
 exact W_skip <| blockK_normal <| ⟨_, Agree.eq ⟨rfl, rfl, trivial⟩, h⟩
 refine WO_val rfl rfl (ex_next rfl rfl hrun) ?_
 clear hrun
 refine ps 1 [(88, vb false)] <| WO_nil <| W_seq <| W_cond (t := false) rfl <| W_exit <| blockK_hit <| W_regseq <| alm h ?_
 intro b3 w18 _ _ _ h
 refine ps 1 [(11, .map (some b3))] <| WO_nil <| W_regseq <| ps 1 [(12, vi 0)] <| WO_nil <| W_seq <| W_regseq <| ps 1 [(94, vi 0)] <| WO_nil <| W_block ?_
 obtain ⟨nl3, h⟩ := h
 refine W_loopI (fun k e w19 => ∃ (e0 : Env) (v3 : Int) (v4 : Int), e = upds e0 [(5, vP r1), (11, .map (some b3)), (12, vi v3), (94, vi v4)] ∧ law06_DrawersBalanced.l3 Q r1 b3 k v3 v4 w19) nl3 ?_ ?_ ?_
 rintro _ _ ⟨_, _, _, _, h⟩
 exact h
 exact ⟨_, 0, 0, Agree.eq ⟨rfl, rfl, rfl, rfl, trivial⟩, h⟩
 clear h nl3
 rintro nl3 _ w19 ⟨e0, v3, v4, rfl, h⟩
 unfold law06_DrawersBalanced.l3 at h
 refine W_regseq <| ps 1 [(95, vb (decide (v4 < 8)))] <| WO_nil <| W_seq <| ci h (fun h => ?_) fun h => ?_
 refine W_skip <| W_seq <| W_block <| W_regseq <| ps 2 [(96, vi v4), (13, vi v4)] <| WO_nil <| W_regseq <| ps 2 [(97, vP r1), (98, vi v4)] <| cl h ?_
 rintro _ w20 ⟨r7_a, r7_n, r7_c, rfl, h⟩
 refine ps 2 [(100, vi (r7_n : Nat)), (101, vi 0)] <| WO_nil <| W_block ?_
 obtain ⟨nl4, h⟩ := h
 refine W_loopI (fun k e w21 => ∃ (e0 : Env) (v5 : Int) (v6 : Int), e = upds e0 [(5, vP r1), (11, .map (some b3)), (12, vi v5), (94, vi v4), (99, vl r7_a r7_n r7_c), (100, vi (r7_n : Nat)), (101, vi v6)] ∧ law06_DrawersBalanced.l4 Q b3 v4 (law06_DrawersBalanced.l3 Q r1 b3 nl3) r7_a r7_n k v5 v6 w21) nl4 ?_ ?_ ?_
 rintro _ _ ⟨_, _, _, _, h⟩
 exact h
 exact ⟨_, v3, 0, Agree.eq ⟨rfl, rfl, rfl, rfl, rfl, rfl, rfl, trivial⟩, h⟩
 clear h nl4
 rintro nl4 _ w21 ⟨e0, v5, v6, rfl, h⟩
 unfold law06_DrawersBalanced.l4 at h
 refine W_regseq <| ps 1 [(102, vb (decide (v6 < ((r7_n : Nat) : Int))))] <| WO_nil <| W_seq <| ci h (fun h => ?_) fun h => ?_
 refine W_skip <| W_seq <| W_block <| W_regseq <| ix slk46 h fun p2 h => ?_
 obtain ⟨x7, hx7, h⟩ := h
 refine ldn tk45 hx7 <| alp h ?_
 intro b4 w22 _ _ hb_b4 h
 refine sb tk45 hb_b4 h ?_
 intro w23 ew hb_ h
 replace hb_b4 := hb_
 refine WO_nil <| W_regseq <| ps 3 [(105, vi v5), (106, vi (IntKind.wrap .i64 (v5 + 1))), (12, vi (IntKind.wrap .i64 (v5 + 1)))] <| WO_nil <| W_regseq <| lbn [vi x7.Id, vi x7.Thing, vi x7.Layer, vi x7.Day, vi x7.Due, vs x7.Unit, vi x7.N, vi x7.Left, vu x7.State, vi x7.Bag] tk45 hb_b4 <| cl h ?_
 rintro _ w24 ⟨r8, r9, rfl, hk0, h⟩
 replace hb_b4 := kp_at hk0 hb_b4
 refine ps 3 [(107, .tuple #[vg (TAccount.enc r8), vb r9]), (110, vg (TAccount.enc r8)), (111, vb r9)] <| alp h ?_
 intro b5 w25 eb ew hb_b5 h
 have old_hb_b4 := hb_b4
 replace hb_b4 := al_keep ew hb_b4
 have ne_b4_b5 : b4 ≠ b5 := blk_ne old_hb_b4 eb
 clear old_hb_b4
 clear eb ew
 refine sb tk40 hb_b5 h ?_
 intro w26 ew hb_ h
 replace hb_b4 := sb_keep ew ne_b4_b5 hb_b4
 replace hb_b5 := hb_
 refine ps 1 [(17, vb r9)] <| WO_nil <| W_regseq <| ps 1 [(112, vb r9)] <| WO_nil <| ci h (fun h => ?_) fun h => ?_
 refine drw folM [[], [], [], [], [1, 3], [1, 3], [], [], [1, 3, 5, 7], [1, 3, 7], [1, 3, 7], [1, 3, 5, 7]] [.p 0, .l 1, .p 2, .l 3, .p 4, .l 5, .p 6, .l 7, .p 8, .e 9, .p 10, .e 11] h ?_
 intro w27 ew h
 replace hb_b4 := dr_keep ew hb_b4
 replace hb_b5 := dr_keep ew hb_b5
 refine psC 1 [(113, .map (some b3))] ?_
 refine lbnC [vu r8.Kind, vi r8.Id] tk40 hb_b5 <| psC 1 [(115, vp ⟨b4, 5, none⟩)] ?_
 refine lb1C tk9 hb_b4 <| psC 1 [(117, vg [vu r8.Kind, vi r8.Id, vs x7.Unit, vi 0])] ?_
 obtain ⟨x8, hlk2, h⟩ := h
 refine WC_l rfl rfl rfl (ex_lookup rfl rfl rfl hlk2) <| psC 1 [(119, vp ⟨b4, 7, none⟩)] ?_
 refine lb1C tk3 hb_b4 <| psC 1 [(121, vi (IntKind.wrap .i64 (x8 + x7.Left)))] ?_
 obtain ⟨x9, x10, w28, hrun, hk0, h⟩ := h
 refine WC_ev rfl rfl rfl (ex_mapEntry rfl rfl rfl hrun) ?_
 replace hlk2 := hk0
 clear hrun
 refine ⟨AllOk.cons (Pend_ok (ex_lookup rfl rfl rfl hlk2)) <| AllOk.nil, ?_⟩
 refine psC 1 [(123, vi x10)] ?_
 obtain ⟨w29, hrun, h⟩ := h
 refine WC_eu rfl rfl rfl (ex_entryStore rfl rfl rfl rfl hrun) ?_
 clear hrun
 refine ⟨AllOk.nil, ?_⟩
 exact WC_nil <| blockK_normal <| W_reg <| ps 2 [(124, vi (IntKind.wrap .i64 (v6 + 1))), (101, vi (IntKind.wrap .i64 (v6 + 1)))] <| WO_nil <| ⟨_, IntKind.wrap .i64 (v5 + 1), IntKind.wrap .i64 (v6 + 1), Agree.eq ⟨rfl, rfl, rfl, rfl, rfl, rfl, rfl, trivial⟩, h⟩
 exact W_skip <| blockK_normal <| W_reg <| ps 2 [(124, vi (IntKind.wrap .i64 (v6 + 1))), (101, vi (IntKind.wrap .i64 (v6 + 1)))] <| WO_nil <| ⟨_, IntKind.wrap .i64 (v5 + 1), IntKind.wrap .i64 (v6 + 1), Agree.eq ⟨rfl, rfl, rfl, rfl, rfl, rfl, rfl, trivial⟩, h⟩
 exact W_exit <| blockK_hit <| blockK_normal <| W_reg <| ps 2 [(125, vi (IntKind.wrap .i64 (v4 + 1))), (94, vi (IntKind.wrap .i64 (v4 + 1)))] <| WO_nil <| ⟨_, v5, IntKind.wrap .i64 (v4 + 1), Agree.eq ⟨rfl, rfl, rfl, rfl, trivial⟩, h⟩
 refine W_exit <| blockK_hit <| W_regseq <| ps 2 [(126, vi v3), (18, vi v3)] <| WO_nil <| W_seq <| W_regseq <| ps 1 [(127, vP r1)] <| cl h ?_
 rintro _ w30 ⟨r10_a, r10_n, r10_c, rfl, h⟩
 refine ps 2 [(129, vi (r10_n : Nat)), (130, vi 0)] <| WO_nil <| W_block ?_
 obtain ⟨nl5, h⟩ := h
 refine W_loopI (fun k e w31 => ∃ (e0 : Env) (v7 : Int) (v8 : Int), e = upds e0 [(5, vP r1), (11, .map (some b3)), (12, vi v3), (18, vi v7), (128, vl r10_a r10_n r10_c), (129, vi (r10_n : Nat)), (130, vi v8)] ∧ law06_DrawersBalanced.l5 Q r1 b3 v3 r10_a r10_n k v7 v8 w31) nl5 ?_ ?_ ?_
 rintro _ _ ⟨_, _, _, _, h⟩
 exact h
 exact ⟨_, v3, 0, Agree.eq ⟨rfl, rfl, rfl, rfl, rfl, rfl, rfl, trivial⟩, h⟩
 clear h nl5
 rintro nl5 _ w31 ⟨e0, v7, v8, rfl, h⟩
 unfold law06_DrawersBalanced.l5 at h
 refine W_regseq <| ps 1 [(131, vb (decide (v8 < ((r10_n : Nat) : Int))))] <| WO_nil <| W_seq <| ci h (fun h => ?_) fun h => ?_
 refine W_skip <| W_seq <| W_block <| W_regseq <| ix slk22 h fun p3 h => ?_
 obtain ⟨x11, hx11, h⟩ := h
 refine ldn tk42 hx11 <| alp h ?_
 intro b6 w32 _ _ hb_b6 h
 refine sb tk42 hb_b6 h ?_
 intro w33 ew hb_ h
 replace hb_b6 := hb_
 exact WO_nil <| W_reg <| ps 2 [(134, vi v7), (135, vp ⟨b6, 8, none⟩)] <| lb1 tk3 hb_b6 <| ps 2 [(137, vi (if x11.Lot > v7 then x11.Lot else v7)), (18, vi (if x11.Lot > v7 then x11.Lot else v7))] <| WO_nil <| blockK_normal <| W_reg <| ps 2 [(138, vi (IntKind.wrap .i64 (v8 + 1))), (130, vi (IntKind.wrap .i64 (v8 + 1)))] <| WO_nil <| ⟨_, (if x11.Lot > v7 then x11.Lot else v7), IntKind.wrap .i64 (v8 + 1), Agree.eq ⟨rfl, rfl, rfl, rfl, rfl, rfl, rfl, trivial⟩, h⟩
 refine W_exit <| blockK_hit <| W_seq <| W_regseq <| ps 3 [(139, vi v7), (140, vi v3), (141, vb (v7 != v3))] <| WO_nil <| ci h (fun h => ?_) fun h => ?_
 refine W_regseq <| cl h ?_
 rintro _ w34 ⟨r11, rfl, h⟩
 exact ps 1 [(4, vb r11)] <| WO_nil <| W_ret <| seqK_ret <| ret1 (v := vb r11) (t := 4) rfl rfl ⟨_, rfl, h⟩
 refine W_skip <| W_seq <| W_regseq <| ps 1 [(143, vP r1)] <| cl h ?_
 rintro _ w35 ⟨r12_a, r12_n, r12_c, rfl, h⟩
 refine ps 2 [(145, vi (r12_n : Nat)), (146, vi 0)] <| WO_nil <| W_block ?_
 obtain ⟨nl6, h⟩ := h
 refine W_loopI (fun k e w36 => ∃ (e0 : Env) (v9 : Int), e = upds e0 [(11, .map (some b3)), (144, vl r12_a r12_n r12_c), (145, vi (r12_n : Nat)), (146, vi v9)] ∧ law06_DrawersBalanced.l6 Q b3 r12_a r12_n k v9 w36) nl6 ?_ ?_ ?_
 rintro _ _ ⟨_, _, _, h⟩
 exact h
 exact ⟨_, 0, Agree.eq ⟨rfl, rfl, rfl, rfl, trivial⟩, h⟩
 clear h nl6
 rintro nl6 _ w36 ⟨e0, v9, rfl, h⟩
 unfold law06_DrawersBalanced.l6 at h
 refine W_regseq <| ps 1 [(147, vb (decide (v9 < ((r12_n : Nat) : Int))))] <| WO_nil <| W_seq <| ci h (fun h => ?_) fun h => ?_
 refine W_skip <| W_seq <| W_block <| W_regseq <| ix slk24 h fun p4 h => ?_
 obtain ⟨x12, hx12, h⟩ := h
 refine ldn tk49 hx12 <| alp h ?_
 intro b7 w37 _ _ hb_b7 h
 refine sb tk49 hb_b7 h ?_
 intro w38 ew hb_ h
 replace hb_b7 := hb_
 refine WO_nil <| W_seq <| W_regseq <| ps 2 [(150, vp ⟨b7, 0, none⟩), (151, vp ⟨b7, 0, none⟩)] <| lb1 tk5 hb_b7 <| ps 2 [(153, vb (x12.Account_Kind != 2)), (154, vb (x12.Account_Kind != 2))] <| WO_conv (fun e w_ => ∃ (e0 : Env), e = upds e0 [(11, .map (some b3)), (22, vp ⟨b7, 0, none⟩), (144, vl r12_a r12_n r12_c), (145, vi (r12_n : Nat)), (146, vi v9), (165, vb (((x12.Account_Kind != 2) && (x12.Account_Kind != 5)) && (x12.Account_Kind != 7)))] ∧ w38 = w_) ?_ ?_
 clear h
 refine WO_case 154 (b := (x12.Account_Kind != 2)) rfl (fun hb0 => ?_) (fun hb0 => ?_)
 refine ps 2 [(155, vp ⟨b7, 0, none⟩), (156, vp ⟨b7, 0, none⟩)] <| lb1 tk5 hb_b7 <| ps 3 [(158, vb (x12.Account_Kind != 5)), (159, vb (x12.Account_Kind != 5)), (160, vb (x12.Account_Kind != 5))] <| WO_case 160 (b := (x12.Account_Kind != 5)) rfl (fun hb1 => ?_) (fun hb1 => ?_)
 exact ps 2 [(161, vp ⟨b7, 0, none⟩), (162, vp ⟨b7, 0, none⟩)] <| lb1 tk5 hb_b7 <| ps 2 [(164, vb (x12.Account_Kind != 7)), (165, vb (x12.Account_Kind != 7))] <| WO_nil ⟨_, Agree.eq ⟨rfl, rfl, rfl, rfl, rfl, (by first | rfl | (simp only [hb0, hb1, Bool.true_and, Bool.false_and, Bool.true_or, Bool.false_or, Bool.and_true, Bool.and_false, Bool.or_true, Bool.or_false]; done) | (simp only [hb0, hb1]; rfl) | (simp [hb0, hb1]; done)), trivial⟩, rfl⟩
 exact ps 5 [(161, undef), (162, undef), (163, undef), (164, undef), (165, vb false)] <| WO_nil ⟨_, Agree.eq ⟨rfl, rfl, rfl, rfl, rfl, (by first | rfl | (simp only [hb0, hb1, Bool.true_and, Bool.false_and, Bool.true_or, Bool.false_or, Bool.and_true, Bool.and_false, Bool.or_true, Bool.or_false]; done) | (simp only [hb0, hb1]; rfl) | (simp [hb0, hb1]; done)), trivial⟩, rfl⟩
 exact ps 11 [(155, undef), (156, undef), (157, undef), (158, undef), (159, vb false), (160, vb false), (161, undef), (162, undef), (163, undef), (164, undef), (165, vb false)] <| WO_nil ⟨_, Agree.eq ⟨rfl, rfl, rfl, rfl, rfl, (by first | rfl | (simp only [hb0, Bool.true_and, Bool.false_and, Bool.true_or, Bool.false_or, Bool.and_true, Bool.and_false, Bool.or_true, Bool.or_false]; done) | (simp only [hb0]; rfl) | (simp [hb0]; done)), trivial⟩, rfl⟩
 rintro _ _ ⟨e0, rfl, rfl⟩
 refine ci h (fun h => ?_) fun h => ?_
 exact W_exit <| blockK_hit <| W_reg <| ps 2 [(179, vi (IntKind.wrap .i64 (v9 + 1))), (146, vi (IntKind.wrap .i64 (v9 + 1)))] <| WO_nil <| ⟨_, IntKind.wrap .i64 (v9 + 1), Agree.eq ⟨rfl, rfl, rfl, rfl, trivial⟩, h⟩
 refine W_skip <| W_regseq <| ps 1 [(166, vp ⟨b7, 0, none⟩)] <| lbn [vu x12.Account_Kind, vi x12.Account_Id] tk40 hb_b7 <| ps 1 [(168, vp ⟨b7, 2, none⟩)] <| lb1 tk9 hb_b7 <| ps 1 [(170, vg [vu x12.Account_Kind, vi x12.Account_Id, vs x12.Unit, vi 0])] <| alp h ?_
 intro b8 w39 eb ew hb_b8 h
 have old_hb_b7 := hb_b7
 replace hb_b7 := al_keep ew hb_b7
 have ne_b7_b8 : b7 ≠ b8 := blk_ne old_hb_b7 eb
 clear old_hb_b7
 clear eb ew
 refine sb tk49 hb_b8 h ?_
 intro w40 ew hb_ h
 replace hb_b7 := sb_keep ew ne_b7_b8 hb_b7
 replace hb_b8 := hb_
 refine WO_nil <| W_seq <| drs folM [[], [], [1], [], [], [1, 2, 4]] [.p 0, .l 1, .l 2, .p 3, .l 4, .p 5] h ?_
 intro w41 ew h
 replace hb_b7 := dr_keep ew hb_b7
 replace hb_b8 := dr_keep ew hb_b8
 refine psC 1 [(171, .map (some b3))] ?_
 refine lbnC [vu x12.Account_Kind, vi x12.Account_Id, vs x12.Unit, vi 0] tk49 hb_b8 ?_
 obtain ⟨x13, hlk3, h⟩ := h
 refine WC_l rfl rfl rfl (ex_lookup rfl rfl rfl hlk3) <| psC 1 [(174, vp ⟨b7, 3, none⟩)] ?_
 refine lb1C tk3 hb_b7 <| psC 1 [(176, vb (x13 != x12.N))] <| WC_nil <| ci h (fun h => ?_) fun h => ?_
 exact W_regseq <| ps 1 [(4, vb false)] <| WO_nil <| W_ret <| seqK_ret <| blockK_ret <| seqK_ret <| seqK_ret <| blockK_ret <| seqK_ret <| ret1 (v := vb false) (t := 4) rfl rfl ⟨_, rfl, h⟩
 refine W_skip <| W_reg <| ps 1 [(177, .map (some b3))] <| lbn [vu x12.Account_Kind, vi x12.Account_Id, vs x12.Unit, vi 0] tk49 hb_b8 ?_
 obtain ⟨w42, hrun, h⟩ := h
 refine WO_unit rfl rfl (ex_mapUpdate rfl rfl rfl rfl hrun) ?_
 clear hrun
 exact WO_nil <| blockK_normal <| W_reg <| ps 2 [(179, vi (IntKind.wrap .i64 (v9 + 1))), (146, vi (IntKind.wrap .i64 (v9 + 1)))] <| WO_nil <| ⟨_, IntKind.wrap .i64 (v9 + 1), Agree.eq ⟨rfl, rfl, rfl, rfl, trivial⟩, h⟩
 refine W_exit <| blockK_hit <| W_seq <| W_regseq <| ps 1 [(180, .map (some b3))] ?_
 obtain ⟨it2, w43, hrun, h⟩ := h
 refine WO_val rfl rfl (ex_range rfl rfl hrun) ?_
 clear hrun
 refine WO_nil <| W_block ?_
 obtain ⟨nl7, h⟩ := h
 refine W_loopI (fun k e w44 => ∃ (e0 : Env), e = upds e0 [(181, vp ⟨it2, 0, none⟩)] ∧ law06_DrawersBalanced.l7 Q it2 k  w44) nl7 ?_ ?_ ?_
 rintro _ _ ⟨_, _, h⟩
 exact h
 exact ⟨_, Agree.eq ⟨rfl, trivial⟩, h⟩
 clear h nl7
 rintro nl7 _ w44 ⟨e0, rfl, h⟩
 unfold law06_DrawersBalanced.l7 at h
 refine W_regseq ?_
 rcases h with ⟨x14, x15, w45, hrun, h⟩ | ⟨w46, hrun, h⟩
 refine WO_val rfl rfl (ex_next rfl rfl hrun) ?_
 clear hrun
 refine ps 1 [(183, vb true)] <| WO_nil <| W_seq <| W_cond (t := true) rfl <| W_skip <| W_block <| W_regseq ?_
 obtain ⟨x16, x17, hen, h⟩ := h
 refine WO_val rfl rfl (ex_entry rfl rfl hen) ?_
 clear hen
 refine ps 2 [(185, vi x17), (25, vi x17)] <| WO_nil <| W_regseq <| ps 2 [(186, vi x17), (187, vb (x17 != 0))] <| WO_nil <| ci h (fun h => ?_) fun h => ?_
 exact W_regseq <| ps 1 [(4, vb false)] <| WO_nil <| W_ret <| blockK_ret <| seqK_ret <| blockK_ret <| seqK_ret <| ret1 (v := vb false) (t := 4) rfl rfl ⟨_, rfl, h⟩
 exact W_skip <| blockK_normal <| ⟨_, Agree.eq ⟨rfl, trivial⟩, h⟩
 refine WO_val rfl rfl (ex_next rfl rfl hrun) ?_
 clear hrun
 refine ps 1 [(183, vb false)] <| WO_nil <| W_seq <| W_cond (t := false) rfl <| W_exit <| blockK_hit <| W_regseq <| cl h ?_
 rintro _ w47 ⟨r13, rfl, h⟩
 exact ps 1 [(4, vb r13)] <| WO_nil <| W_ret <| ret1 (v := vb r13) (t := 4) rfl rfl ⟨_, rfl, h⟩
end Go.Proofs.YtcbijkakoepglaaGreat
namespace Go.Proofs.YtcbijkakoepglaaGreat
open Go Go.Wx
theorem line_of {M : MState} {d : Int} {x : TTrialLine} (hx : x ∈ M.trial d) : x.N ≠ 0 ∧ M.balance ⟨x.Account_Kind, x.Account_Id⟩ x.Unit d = x.N := by
  unfold MState.trial linesM at hx
  rw [(isort_perm _).mem_iff] at hx
  obtain ⟨y, hy, rfl⟩ := List.mem_map.1 hx
  obtain ⟨h1, h2⟩ := List.mem_filter.1 hy
  refine ⟨by show y.2 ≠ 0; simpa using h2, ?_⟩
  exact getM_of_mem (balOn_pw d M.postings [] List.Pairwise.nil) y h1
theorem bal_l1 {w w0 : World} {R : Nat → Prop} {b : Nat} {st : Tstate} {M : MState} (hL : Led w0 R b st M) (hG : Good M) (hP : PO M) (hA : AO M) {day : Int} {a : Option Addr} {n c b1 : Nat} (ho : Own 49 4 TTrialLine.enc w0 a n c (M.trial day)) (hm : MapIs vs w0 b1 [])
    (hb1 : w.heap.size ≤ b1) (E0 : Ext w w0) (hR : ∀ k, R k → ¬ k = b1) (hbb : ¬ b = b1) (hob : ∀ k, obk a c = some k → ¬ k = b1) {Q : Bool → World → Prop}
    (hF : ∀ w', Frm (fun k => k = b1) w0 w' → Ext w w' → Al w' (.map #[] 0) fun b3 w18 => ∃ k, law06_DrawersBalanced.l3 Q (some ⟨b, 0, none⟩) b3 k 0 0 w18) :
    ∃ k, law06_DrawersBalanced.l1 Q day (some ⟨b, 0, none⟩) b1 a n k 0 w0 := by
  refine ⟨n + 1, ?_⟩
  have hF1 := hG.small.fits
  have hn : n ≤ 40000 := by rw [ho.1]; have := trial_len M day; have := hG.postings; omega
  have key : ∀ m i w' mp, i + m = n → Frm (fun k => k = b1) w0 w' → MapIs vs w' b1 mp → sumT mp ((M.trial day).drop i) = sumT [] (M.trial day) → law06_DrawersBalanced.l1 Q day (some ⟨b, 0, none⟩) b1 a n (m + 1) (i : Nat) w' := by
    intro m
    induction m with
    | zero =>
      intro i w' mp hi F hM hs
      unfold law06_DrawersBalanced.l1
      rw [List.drop_of_length_le (by rw [← ho.1]; omega)] at hs
      have hs : mp = sumT [] (M.trial day) := hs
      subst hs
      have E' : Ext w w' := Frm.trans E0 F fun k hk e => by have e : k = b1 := e; omega
      refine ifb_df (by omega) (zeros keysStr (sumT_zero hM.2) hM (er w') (F := fun w' => Al w' (.map #[] 0) fun b3 w18 => ∃ k, law06_DrawersBalanced.l3 Q (some ⟨b, 0, none⟩) b3 k 0 0 w18) (L := fun it q w' => law06_DrawersBalanced.l2 Q (some ⟨b, 0, none⟩) it q w') (fun it q w' hh => ?_) fun w' E'' => hF w' (F.ext E'') (E'.ext E''))
      unfold law06_DrawersBalanced.l2
      rcases hh with ⟨x3, x4, w2, hr, y, he, hz, hl⟩ | ⟨w2, hr, hf⟩
      · refine .inl ⟨x3, x4, w2, hr, y.1, y.2, he, ifb ?_⟩
        rw [hz]
        exact hl
      · exact .inr ⟨w2, hr, hf⟩
    | succ m ih =>
      intro i w' mp hi F hM hs
      unfold law06_DrawersBalanced.l1
      have ho' := ho.frm F hob
      have hL' := hL.frm F hR hbb
      have lm := hM.1.lt
      refine ifb_dt (by omega) ((ho'.rd encLine).ix (by omega) (by omega) fun a0 x ha hx hc => ⟨x, hc, al_f (er w') fun b2 w6 hb2 hat2 E6 e6 g6 => sb_f E6 hat2 hb2 fun w7 hat7 E7 f7 => ?_⟩)
      simp only [Int.toNat_natCast] at hx
      obtain ⟨hxl, hx'⟩ := List.getElem?_eq_some_iff.1 hx
      rw [List.drop_eq_getElem_cons hxl, hx'] at hs
      have hs : sumT (putM mp x.Unit (wr (getM mp x.Unit + x.N))) ((M.trial day).drop (i + 1)) = sumT [] (M.trial day) := hs
      obtain ⟨hN, hbal⟩ := line_of (List.mem_of_getElem? hx)
      have hM7 : MapIs vs w7 b1 mp := hM.ext E7
      obtain ⟨w8, r8, h8, F8⟩ := mapUpdate_run keysStr hM7 x.Unit (wr (getM mp x.Unit + x.N))
      have n2 : ¬ b2 = b1 := by omega
      refine ⟨_, lookup_run keysStr hM7 x.Unit, w8, r8, F8.blk _ hat7.lt n2, dr_f (er w8) fun w10 E10 e10 => ?_⟩
      have F10 : Frm (fun k => k = b1) w0 w10 := ((F.ext E7).trans' F8).ext e10
      have hat10 := (hat7.frm F8 n2).ext e10
      have hL10 := hL.frm F10 hR hbb
      have j1 : ∀ w11, Ext w10 w11 → law06_DrawersBalanced.j1 Q (i : Nat) (law06_DrawersBalanced.l1 Q day (some ⟨b, 0, none⟩) b1 a n (m + 1)) false w11 := by
        intro w11 e11
        unfold law06_DrawersBalanced.j1
        refine ifb_f ?_
        rw [wrap_succ (n := n) (by omega) (by omega) (by simp only [maxLen]; omega)]
        exact ih (i + 1) w11 _ (by omega) (F10.ext e11) ((h8.ext e10).ext e11) hs
      have bc : Cl Pg 48 #[vP (some ⟨b, 0, none⟩), vg [vu x.Account_Kind, vi x.Account_Id], vs x.Unit, vi day] w10 (fun v w11 => ∃ (r4 : Int), v = vi r4 ∧ Kp b2 w10 w11 ∧ law06_DrawersBalanced.j1 Q (i : Nat) (law06_DrawersBalanced.l1 Q day (some ⟨b, 0, none⟩) b1 a n (m + 1)) (r4 != x.N) w11) := by
        refine balance_c (a := ⟨x.Account_Kind, x.Account_Id⟩) hL10.rd hF1 fun w11 e11 => ⟨e11.blk _ hat10.lt id, ?_⟩
        rw [hbal, bne_self_eq_false]
        exact j1 w11 e11
      rw [show (x.N == (0 : Int)) = false by simpa using hN]
      refine ifb_f (ifb ?_)
      split
      · rename_i hneg
        have hneg := of_decide_eq_true hneg
        refine ifb ?_
        split
        · rename_i k1
          refine ifb ?_
          split
          · rename_i k6
            have h0 := day_ok hP hA hG.postings day ⟨x.Account_Kind, x.Account_Id, x.Unit⟩ (by simpa using k1) (by simpa using k6)
            have hbal' : getM (balOn day [] M.postings) ⟨x.Account_Kind, x.Account_Id, x.Unit⟩ = x.N := hbal
            omega
          · exact bc
        · exact bc
      · exact bc
  exact key n 0 w0 [] (by omega) (Frm.refl _ _) hm (by simp)
end Go.Proofs.YtcbijkakoepglaaGreat
namespace Go.Proofs.YtcbijkakoepglaaGreat
open Go Go.Wx
abbrev Lm := List (TTrialLine × Int)
/-- the key of a lot that is in an account. -/
def lkey (a : TAccount) (u : ByteArray) : TTrialLine := ⟨a.Kind, a.Id, u, 0⟩
def xkey (x : TTrialLine) : TTrialLine := ⟨x.Account_Kind, x.Account_Id, x.Unit, 0⟩
def leftX (m : Lm) (x : TLot) : Lm := match inAcct x with
  | some a => putM m (lkey a x.Unit) (wr (getM m (lkey a x.Unit) + x.Left))
  | none => m
theorem leftX_some {m : Lm} {x : TLot} {a : TAccount} (h : inAcct x = some a) : leftX m x = putM m (lkey a x.Unit) (wr (getM m (lkey a x.Unit) + x.Left)) := by unfold leftX; rw [h]
theorem leftX_none {m : Lm} {x : TLot} (h : inAcct x = none) : leftX m x = m := by unfold leftX; rw [h]
def leftL : Lm → List TLot → Lm
  | m, [] => m
  | m, x :: l => leftL (leftX m x) l
theorem leftL_app : ∀ (a b : List TLot) (m : Lm), leftL m (a ++ b) = leftL (leftL m a) b
  | [], _, _ => rfl
  | x :: a, b, m => leftL_app a b (leftX m x)
/-- what a lot adds at a key. -/
def ct (k : TTrialLine) (x : TLot) : Int := match inAcct x with
  | some a => if lkey a x.Unit = k then x.Left else 0
  | none => 0
theorem ct_some {k : TTrialLine} {x : TLot} {a : TAccount} (h : inAcct x = some a) : ct k x = if lkey a x.Unit = k then x.Left else 0 := by unfold ct; rw [h]
theorem ct_none {k : TTrialLine} {x : TLot} (h : inAcct x = none) : ct k x = 0 := by unfold ct; rw [h]
theorem leftL_get (k : TTrialLine) : ∀ (l : List TLot) (m : Lm), ∃ z : Int, getM (leftL m l) k = getM m k + sumF (ct k) l + 18446744073709551616 * z
  | [], m => ⟨0, by simp [leftL, sumF]⟩
  | x :: l, m => by
    obtain ⟨z, e⟩ := leftL_get k l (leftX m x)
    unfold leftL sumF
    rw [e]
    cases h : inAcct x with
    | none =>
      rw [leftX_none h, ct_none h]
      exact ⟨z, by omega⟩
    | some a =>
      rw [leftX_some h, ct_some h]
      by_cases hk : lkey a x.Unit = k
      · subst hk
        rw [getM_putM, if_pos rfl]
        obtain ⟨z2, e2⟩ := wr_mod (getM m (lkey a x.Unit) + x.Left)
        exact ⟨z + z2, by rw [e2]; omega⟩
      · rw [getM_putM_ne (fun h => hk h.symm), if_neg hk]
        exact ⟨z, by omega⟩
def Rng (m : Lm) : Prop := ∀ y ∈ m, -9223372036854775808 ≤ y.2 ∧ y.2 ≤ 9223372036854775807
theorem leftL_rng : ∀ (l : List TLot) (m : Lm), Rng m → Rng (leftL m l)
  | [], _, h => h
  | x :: l, m, h => by
    refine leftL_rng l _ ?_
    cases e : inAcct x with
    | none => rw [leftX_none e]; exact h
    | some a => rw [leftX_some e]; exact putM_rng _ _ (wr_range _) m h
theorem getM_rng (k : TTrialLine) : ∀ (m : Lm), Rng m → -9223372036854775808 ≤ getM m k ∧ getM m k ≤ 9223372036854775807
  | [], _ => by simp [getM]
  | (y, v) :: m, h => by
    unfold getM
    split
    · exact h _ List.mem_cons_self
    · exact getM_rng k m fun z hz => h z (List.mem_cons_of_mem _ hz)
def okK (x : TTrialLine) : Prop := x.Account_Kind = 2 ∨ x.Account_Kind = 5 ∨ x.Account_Kind = 7
theorem inAcct_kind {x : TLot} {a : TAccount} (h : inAcct x = some a) : a.Kind = 2 ∨ a.Kind = 5 ∨ a.Kind = 7 := by
  unfold inAcct at h
  split at h
  · cases h; exact .inl rfl
  split at h
  · cases h; exact .inr (.inl rfl)
  split at h
  · cases h; exact .inr (.inr rfl)
  · cases h
theorem ct_zero {k : TTrialLine} (h : ¬ (k.N = 0 ∧ okK k)) (x : TLot) : ct k x = 0 := by
  cases e : inAcct x with
  | none => exact ct_none e
  | some a =>
    rw [ct_some e, if_neg]
    intro e2
    refine h ?_
    rw [← e2]
    exact ⟨rfl, inAcct_kind e⟩
theorem ct_wt {k : TTrialLine} (hN : k.N = 0) (hk : okK k) (x : TLot) : ct k x = wt ⟨k.Account_Kind, k.Account_Id, k.Unit⟩ x := by
  obtain ⟨kk, ki, ku, kn⟩ := k
  have hN : kn = 0 := hN
  have hk : kk = 2 ∨ kk = 5 ∨ kk = 7 := hk
  subst hN
  have key : ∀ {i j : Int}, (lkey ⟨i, j⟩ x.Unit = ⟨kk, ki, ku, 0⟩) ↔ ((⟨i, j, x.Unit⟩ : Tplace) = ⟨kk, ki, ku⟩) := fun {i j} => by
    unfold lkey
    simp only [TTrialLine.mk.injEq, Tplace.mk.injEq, and_true]
  have iff : ∀ {p q : Prop} [Decidable p] [Decidable q] {n : Int}, (p ↔ q) → (if p then n else 0) = if q then n else 0 := fun {p q} _ _ {n} h => by by_cases hp : p <;> simp [hp, ← h]
  by_cases h1 : x.State = 1
  · rw [wt_of (plc1 h1), ct_some (a := ⟨2, x.Thing⟩) (by unfold inAcct; rw [if_pos h1])]
    exact iff key
  by_cases h5 : x.State = 5
  · rw [wt_of (plc5 h5), ct_some (a := ⟨5, 0⟩) (by unfold inAcct; rw [if_neg h1, if_pos h5])]
    exact iff key
  by_cases h6 : x.State = 6
  · rw [wt_of (plc6 h6), ct_some (a := ⟨7, x.Bag⟩) (by unfold inAcct; rw [if_neg h1, if_neg h5, if_pos h6])]
    exact iff key
  rw [ct_none (by unfold inAcct; rw [if_neg h1, if_neg h5, if_neg h6])]
  by_cases h3 : x.State = 3
  · rw [wt_of (plc3 h3), if_neg]
    simp only [Tplace.mk.injEq, not_and]
    intro h; omega
  · unfold wt plc
    rw [if_neg h1, if_neg h3, if_neg h5, if_neg h6, if_neg (by simp)]

/-! ### the lots of the things below a number -/
def parts (M : MState) : Nat → List TLot
  | 0 => []
  | k + 1 => parts M k ++ M.lotsOf k
theorem sumF_congr {f g : TLot → Int} : ∀ (l : List TLot), (∀ x ∈ l, f x = g x) → sumF f l = sumF g l
  | [], _ => rfl
  | x :: l, h => by
    unfold sumF
    rw [h x List.mem_cons_self, sumF_congr l fun y hy => h y (List.mem_cons_of_mem _ hy)]
theorem sumF_filter (f : TLot → Int) (p : TLot → Bool) : ∀ (l : List TLot), sumF f (l.filter p) = sumF (fun x => if p x = true then f x else 0) l
  | [] => rfl
  | x :: l => by
    rw [List.filter_cons]
    split
    · rename_i h; simp only [sumF, sumF_filter f p l, h, if_true]
    · rename_i h; simp only [sumF, sumF_filter f p l, h]; simp
theorem sumF_add (f g : TLot → Int) : ∀ (l : List TLot), sumF f l + sumF g l = sumF (fun x => f x + g x) l
  | [] => rfl
  | x :: l => by simp only [sumF, ← sumF_add f g l]; omega
theorem sumF_zero : ∀ (l : List TLot), sumF (fun _ => 0) l = 0
  | [] => rfl
  | x :: l => by simp only [sumF, sumF_zero l]; rfl
theorem parts_sum (M : MState) (f : TLot → Int) : ∀ k : Nat, sumF f (parts M k) = sumF (fun x => if 0 ≤ x.Thing ∧ x.Thing < k then f x else 0) M.lots
  | 0 => by
    rw [sumF_congr (g := fun _ => 0) M.lots fun x _ => if_neg (by omega), sumF_zero]
    rfl
  | k + 1 => by
    unfold parts MState.lotsOf
    rw [sumF_app, parts_sum M f k, sumF_filter, sumF_add]
    refine sumF_congr _ fun x _ => ?_
    simp only [beq_iff_eq]
    by_cases h1 : x.Thing = k
    · rw [if_neg (by omega), if_pos h1, if_pos (by omega)]; omega
    · rw [if_neg h1]
      by_cases h2 : 0 ≤ x.Thing ∧ x.Thing < k
      · rw [if_pos h2, if_pos (by omega)]; omega
      · rw [if_neg h2, if_neg (by omega)]; rfl
theorem sumF_one : ∀ (l : List TLot), sumF (fun _ => 1) l = l.length
  | [] => rfl
  | x :: l => by simp only [sumF, sumF_one l, List.length_cons]; omega
theorem sumF_ind {p : TLot → Prop} [DecidablePred p] : ∀ (l : List TLot), sumF (fun x => if p x then 1 else 0) l ≤ l.length ∧ (l.length ≤ sumF (fun x => if p x then 1 else 0) l → ∀ x ∈ l, p x)
  | [] => ⟨by simp [sumF], fun _ x h => by cases h⟩
  | x :: l => by
    obtain ⟨h1, h2⟩ := sumF_ind (p := p) l
    simp only [sumF, List.length_cons]
    by_cases hx : p x
    · rw [if_pos hx]
      refine ⟨by omega, fun h y hy => ?_⟩
      rcases List.mem_cons.1 hy with rfl | hy
      · exact hx
      · exact h2 (by omega) y hy
    · rw [if_neg hx]
      exact ⟨by omega, fun h => by omega⟩
theorem parts_len (M : MState) (k : Nat) : (parts M k).length ≤ M.lots.length ∧ (M.lots.length ≤ (parts M k).length → ∀ x ∈ M.lots, 0 ≤ x.Thing ∧ x.Thing < k) := by
  have h1 := sumF_one (parts M k)
  rw [parts_sum] at h1
  obtain ⟨h2, h3⟩ := sumF_ind (p := fun x => 0 ≤ x.Thing ∧ x.Thing < (k : Int)) M.lots
  exact ⟨by omega, fun h => h3 (by omega)⟩
theorem parts_all {M : MState} {k : Nat} (h : ∀ x ∈ M.lots, 0 ≤ x.Thing ∧ x.Thing < k) (f : TLot → Int) : sumF f (parts M k) = sumF f M.lots := by
  rw [parts_sum]
  exact sumF_congr _ fun x hx => if_pos (h x hx)
/-- if no posting speaks of a lot beyond, all lots are among the parts. -/
theorem all_parts {M : MState} (hE : EN M) {k : Nat} (h : ∀ p ∈ M.postings, p.Lot ≤ ((parts M k).length : Int)) : ∀ x ∈ M.lots, 0 ≤ x.Thing ∧ x.Thing < k := by
  refine (parts_len M k).2 ?_
  by_cases h0 : M.lots.length = 0
  · omega
  · obtain ⟨p, hp, e⟩ := hE (M.lots.length - 1) (by omega)
    have := h p hp
    omega

/-! ### the lines of the last day -/
theorem left_val {M : MState} (hJ : J M) (hT : T6 M) (hall : ∀ x ∈ M.lots, 0 ≤ x.Thing ∧ x.Thing < (8 : Nat)) (k : TTrialLine) : getM (leftL [] (parts M 8)) k = if k.N = 0 ∧ (k.Account_Kind = 2 ∨ k.Account_Kind = 5 ∨ k.Account_Kind = 7) then bal M.postings ⟨k.Account_Kind, k.Account_Id, k.Unit⟩ else 0 := by
  obtain ⟨z, e⟩ := leftL_get k (parts M 8) []
  have h1 := getM_rng k _ (leftL_rng (parts M 8) [] (fun _ h => by cases h))
  rw [show getM ([] : Lm) k = 0 from rfl, parts_all hall] at e
  split
  · rename_i h
    rw [hT.eq ⟨k.Account_Kind, k.Account_Id, k.Unit⟩ h.2]
    rw [sumF_congr M.lots fun x _ => ct_wt h.1 h.2 x] at e
    have h2 := sum_range hJ ⟨k.Account_Kind, k.Account_Id, k.Unit⟩
    omega
  · rename_i h
    rw [sumF_congr (g := fun _ => 0) M.lots fun x _ => ct_zero h x, sumF_zero] at e
    omega
theorem left_line {M : MState} (hJ : J M) (hT : T6 M) (hall : ∀ x ∈ M.lots, 0 ≤ x.Thing ∧ x.Thing < (8 : Nat)) {x : TTrialLine} (hx : x ∈ M.trial 100000) (hk : okK x) : getM (leftL [] (parts M 8)) (xkey x) = x.N := by
  rw [left_val hJ hT hall, if_pos ⟨rfl, hk⟩]
  exact (line_of hx).2
def okB (x : TTrialLine) : Bool := decide (x.Account_Kind = 2) || decide (x.Account_Kind = 5) || decide (x.Account_Kind = 7)
theorem okB_iff {x : TTrialLine} : okB x = true ↔ okK x := by unfold okB okK; simp [or_assoc]
def zeroL : Lm → List TTrialLine → Lm
  | m, [] => m
  | m, x :: l => zeroL (if okB x then putM m (xkey x) 0 else m) l
theorem zeroL_get (k : TTrialLine) : ∀ (l : List TTrialLine) (m : Lm), (getM m k = 0 ∨ ∃ x ∈ l, okK x ∧ xkey x = k) → getM (zeroL m l) k = 0
  | [], m, h => by
    rcases h with h | ⟨x, hx, _⟩
    · exact h
    · cases hx
  | x :: l, m, h => by
    refine zeroL_get k l _ ?_
    by_cases hk : xkey x = k
    · by_cases hx : okB x = true
      · rw [if_pos hx, ← hk, getM_putM]
        exact .inl rfl
      · rw [if_neg hx]
        rcases h with h | ⟨y, hy, h1, h2⟩
        · exact .inl h
        · rcases List.mem_cons.1 hy with rfl | hy
          · exact absurd (okB_iff.2 h1) hx
          · exact .inr ⟨y, hy, h1, h2⟩
    · have : getM (if okB x = true then putM m (xkey x) 0 else m) k = getM m k := by
        split
        · exact getM_putM_ne (fun h => hk h.symm) _ _
        · rfl
      rw [this]
      rcases h with h | ⟨y, hy, h1, h2⟩
      · exact .inl h
      · rcases List.mem_cons.1 hy with rfl | hy
        · exact absurd h2 hk
        · exact .inr ⟨y, hy, h1, h2⟩
theorem left_zero {M : MState} (hJ : J M) (hT : T6 M) (hall : ∀ x ∈ M.lots, 0 ≤ x.Thing ∧ x.Thing < (8 : Nat)) (k : TTrialLine) : getM (zeroL (leftL [] (parts M 8)) (M.trial 100000)) k = 0 := by
  refine zeroL_get k _ _ ?_
  rw [left_val hJ hT hall]
  split
  · rename_i h
    by_cases hz : bal M.postings ⟨k.Account_Kind, k.Account_Id, k.Unit⟩ = 0
    · exact .inl hz
    refine .inr ⟨lineOf (⟨k.Account_Kind, k.Account_Id, k.Unit⟩, bal M.postings ⟨k.Account_Kind, k.Account_Id, k.Unit⟩), ?_, h.2, ?_⟩
    · unfold MState.trial linesM
      rw [(isort_perm _).mem_iff]
      refine List.mem_map.2 ⟨_, List.mem_filter.2 ⟨?_, by simpa using hz⟩, rfl⟩
      obtain ⟨g1, g2⟩ := getM_mem (p := ⟨k.Account_Kind, k.Account_Id, k.Unit⟩) (balOn 100000 [] M.postings)
      refine g1 (Classical.byContradiction fun hn => hz (g2 fun y hy e => hn ⟨y, hy, e⟩))
    · obtain ⟨kk, ki, ku, kn⟩ := k
      have := h.1
      simp only at this
      subst this
      rfl
  · exact .inl rfl
theorem trial_keys (M : MState) (d : Int) : (M.trial d).Pairwise fun x y => xkey x ≠ xkey y := by
  unfold MState.trial linesM
  rw [(isort_perm _).pairwise_iff fun {x y} h e => h e.symm, List.pairwise_map]
  refine (List.Pairwise.filter _ (balOn_pw d M.postings [] List.Pairwise.nil)).imp fun {x y} h e => h ?_
  obtain ⟨⟨a1, a2, a3⟩, v⟩ := x
  obtain ⟨⟨b1, b2, b3⟩, u⟩ := y
  simp only [xkey, lineOf, TTrialLine.mk.injEq] at e
  simp only [Tplace.mk.injEq]
  exact ⟨e.1, e.2.1, e.2.2.1⟩
/-- what is still to be looked up is there. -/
theorem line_step {x : TTrialLine} {l : List TTrialLine} {m : Lm} (hp : (x :: l).Pairwise fun x y => xkey x ≠ xkey y) (h : ∀ y ∈ x :: l, okK y → getM m (xkey y) = y.N) : ∀ y ∈ l, okK y → getM (if okB x then putM m (xkey x) 0 else m) (xkey y) = y.N := by
  intro y hy hk
  have h1 := (List.pairwise_cons.1 hp).1 y hy
  have h2 := h y (List.mem_cons_of_mem _ hy) hk
  split
  · rw [getM_putM_ne (fun e => h1 e.symm)]; exact h2
  · exact h2
end Go.Proofs.YtcbijkakoepglaaGreat
namespace Go.Proofs.YtcbijkakoepglaaGreat
open Go Go.Wx
theorem bal_l4 {Q : Bool → World → Prop} {b3 : Nat} {v4 : Int} {kl3 : Int → Int → World → Prop} {a : Option Addr} {n c : Nat} {xs : List TLot} {w0 : World} {mp : Lm} (ho : Own 45 10 TLot.enc w0 a n c xs) (hm : MapIs encKey w0 b3 mp) (hob : ∀ k, obk a c = some k → ¬ k = b3) (cnt : Nat) (hc : cnt + n ≤ 1000000)
    (hK : ∀ w', MapIs encKey w' b3 (leftL mp xs) → Frm (fun k => k = b3) w0 w' → kl3 ((cnt + n : Nat) : Int) (IntKind.wrap .i64 (v4 + (1 : Int))) w') : ∃ k, law06_DrawersBalanced.l4 Q b3 v4 kl3 a n k (cnt : Nat) 0 w0 := by
  refine ⟨n + 1, ?_⟩
  have key : ∀ m i w' mp', i + m = n → Frm (fun k => k = b3) w0 w' → MapIs encKey w' b3 mp' → leftL mp' (xs.drop i) = leftL mp xs → law06_DrawersBalanced.l4 Q b3 v4 kl3 a n (m + 1) ((cnt + i : Nat) : Int) (i : Nat) w' := by
    intro m
    induction m with
    | zero =>
      intro i w' mp' hi F hM hs
      unfold law06_DrawersBalanced.l4
      rw [List.drop_of_length_le (by rw [← ho.1]; omega)] at hs
      have hs : mp' = leftL mp xs := hs
      subst hs
      obtain rfl : i = n := by omega
      exact ifb_df (by omega) (hK w' hM F)
    | succ m ih =>
      intro i w' mp' hi F hM hs
      unfold law06_DrawersBalanced.l4
      have ho' := ho.frm F hob
      have lm := hM.1.lt
      refine ifb_dt (by omega) ((ho'.rd encLot).ix (by omega) (by omega) fun a0 x ha hx hcx => ⟨x, hcx, al_f (er w') fun b4 w6 hb4 hat4 E6 e6 g6 => sb_f E6 hat4 hb4 fun w7 hat7 E7 f7 => ?_⟩)
      simp only [Int.toNat_natCast] at hx
      obtain ⟨hxl, hx'⟩ := List.getElem?_eq_some_iff.1 hx
      rw [List.drop_eq_getElem_cons hxl, hx'] at hs
      have hs : leftL (leftX mp' x) (xs.drop (i + 1)) = leftL mp xs := hs
      have e1 : IntKind.wrap .i64 (((cnt + i : Nat) : Int) + 1) = ((cnt + (i + 1) : Nat) : Int) := by rw [wrap_id (by omega) (by omega)]; omega
      have e2 : IntKind.wrap .i64 (((i : Nat) : Int) + 1) = ((i + 1 : Nat) : Int) := by rw [wrap_id (by omega) (by omega)]; omega
      rw [e1, e2]
      refine in_c (fun ac w8 hac e8 => ⟨e8.blk _ hat7.lt id, al_f (er w8) fun b5 w9 hb5 hat5 E9 _ _ => sb_f E9 hat5 hb5 fun w10 _ E10 _ => ifb_t (dr_f E10 fun w11 E11 _ => ?_)⟩) (fun w8 hac e8 => ⟨e8.blk _ hat7.lt id, al_f (er w8) fun b5 w9 hb5 hat5 E9 _ _ => sb_f E9 hat5 hb5 fun w10 _ E10 _ => ifb_f ?_⟩)
      · have h11 : MapIs encKey w11 b3 mp' := ((hM.ext E7).ext e8).ext E11
        have F11 : Frm (fun k => k = b3) w0 w11 := ((F.ext E7).ext e8).ext E11
        obtain ⟨j, w12, r12, h12, F12, hj, hset⟩ := mapEntry_run keysLine h11 (lkey ac x.Unit)
        have hl2 := lookup_run keysLine h12 (lkey ac x.Unit)
        rw [getM_putM] at hl2
        obtain ⟨w13, r13, h13, F13⟩ := entryStore_run (mt := 86) h12 (v := wr (getM mp' (lkey ac x.Unit) + x.Left)) hj
        rw [hset] at h13
        rw [leftX_some hac] at hs
        exact ⟨_, lookup_run keysLine h11 (lkey ac x.Unit), _, _, w12, r12, hl2, w13, r13, ih (i + 1) w13 _ (by omega) ((F11.trans' F12).trans' F13) h13 hs⟩
      · rw [leftX_none hac] at hs
        exact ih (i + 1) w10 _ (by omega) (((F.ext E7).ext e8).ext E10) (((hM.ext E7).ext e8).ext E10) hs
  exact key n 0 w0 mp (by omega) (Frm.refl _ _) hm (by simp)
theorem okK_not {x : TTrialLine} : (((x.Account_Kind != (2 : Int)) && (x.Account_Kind != (5 : Int))) && (x.Account_Kind != (7 : Int))) = !okB x := by
  unfold okB
  rw [Bool.eq_iff_iff]
  simp [not_or, and_assoc]
theorem bal_l6 {Q : Bool → World → Prop} {w w0 : World} {M : MState} (hG : Good M) (hJ : J M) (hT : T6 M) (hall : ∀ x ∈ M.lots, 0 ≤ x.Thing ∧ x.Thing < (8 : Nat)) {a : Option Addr} {n c b3 : Nat} (ho : Own 49 4 TTrialLine.enc w0 a n c (M.trial 100000)) (hm : MapIs encKey w0 b3 (leftL [] (parts M 8))) (hb3 : w.heap.size ≤ b3) (hob : ∀ k, obk a c = some k → ¬ k = b3) (E0 : Ext w w0)
    (hQ : ∀ w', Ext w w' → Q true w') : ∃ k, law06_DrawersBalanced.l6 Q b3 a n k 0 w0 := by
  refine ⟨n + 1, ?_⟩
  have hn : n ≤ 40000 := by rw [ho.1]; have := trial_len M 100000; have := hG.postings; omega
  have key : ∀ m i w' mp, i + m = n → Frm (fun k => k = b3) w0 w' → MapIs encKey w' b3 mp → zeroL mp ((M.trial 100000).drop i) = zeroL (leftL [] (parts M 8)) (M.trial 100000) → (∀ y ∈ (M.trial 100000).drop i, okK y → getM mp (xkey y) = y.N) → law06_DrawersBalanced.l6 Q b3 a n (m + 1) (i : Nat) w' := by
    intro m
    induction m with
    | zero =>
      intro i w' mp hi F hM hs hv
      unfold law06_DrawersBalanced.l6
      rw [List.drop_of_length_le (by rw [← ho.1]; omega)] at hs
      have hs : mp = zeroL (leftL [] (parts M 8)) (M.trial 100000) := hs
      have E' : Ext w w' := Frm.trans E0 F fun k hk e => by have e : k = b3 := e; omega
      have hz : ∀ y ∈ mp, y.2 = 0 := fun y hy => by
        rw [← getM_of_mem hM.2 y hy, hs]
        exact left_zero hJ hT hall _
      refine ifb_df (by omega) (zeros keysLine hz hM (er w') (F := fun w' => Cl Pg 18 #[] w' (fun v w47 => ∃ (r13 : Bool), v = vb r13 ∧ Q r13 w47)) (L := fun it q w' => law06_DrawersBalanced.l7 Q it q w') (fun it q w' hh => ?_) fun w' E'' => alive_c fun w3 e3 => hQ w3 ((E'.ext E'').ext e3))
      unfold law06_DrawersBalanced.l7
      rcases hh with ⟨x3, x4, w2, hr, y, he, hz, hl⟩ | ⟨w2, hr, hf⟩
      · refine .inl ⟨x3, x4, w2, hr, y.1, y.2, he, ifb ?_⟩
        rw [hz]
        exact hl
      · exact .inr ⟨w2, hr, hf⟩
    | succ m ih =>
      intro i w' mp hi F hM hs hv
      unfold law06_DrawersBalanced.l6
      have ho' := ho.frm F hob
      refine ifb_dt (by omega) ((ho'.rd encLine).ix (by omega) (by omega) fun a0 x ha hx hcx => ⟨x, hcx, al_f (er w') fun b7 w6 hb7 hat7 E6 _ _ => sb_f E6 hat7 hb7 fun w7 _ E7 _ => ?_⟩)
      simp only [Int.toNat_natCast] at hx
      obtain ⟨hxl, hx'⟩ := List.getElem?_eq_some_iff.1 hx
      have hpw := (trial_keys M 100000).drop (i := i)
      rw [List.drop_eq_getElem_cons hxl, hx'] at hs hv hpw
      have hs : zeroL (if okB x then putM mp (xkey x) 0 else mp) ((M.trial 100000).drop (i + 1)) = zeroL (leftL [] (parts M 8)) (M.trial 100000) := hs
      have hv' := line_step hpw hv
      have e2 : IntKind.wrap .i64 (((i : Nat) : Int) + 1) = ((i + 1 : Nat) : Int) := by rw [wrap_id (by omega) (by omega)]; omega
      rw [e2, okK_not]
      cases hk : okB x with
      | false =>
        rw [if_neg (by rw [hk]; simp)] at hs hv'
        exact ifb_t (ih (i + 1) w7 _ (by omega) (F.ext E7) (hM.ext E7) hs hv')
      | true =>
        rw [if_pos hk] at hs hv'
        refine ifb_f (al_f E7 fun b8 w8 hb8 hat8 E8 _ _ => sb_f E8 hat8 hb8 fun w9 _ E9 _ => dr_f E9 fun w10 E10 _ => ?_)
        have h10 := hM.ext E10
        have hl := lookup_run keysLine h10 (xkey x)
        have hxN := hv x List.mem_cons_self (okB_iff.1 hk)
        rw [hxN] at hl
        obtain ⟨w11, r11, h11, F11⟩ := mapUpdate_run keysLine h10 (xkey x) 0
        refine ⟨x.N, hl, ?_⟩
        rw [bne_self_eq_false]
        exact ifb_f ⟨w11, r11, ih (i + 1) w11 _ (by omega) ((F.ext E10).trans' F11) h11 hs hv'⟩
  exact key n 0 w0 _ (by omega) (Frm.refl _ _) hm (by simp) fun y hy hk => left_line hJ hT hall (by simpa using hy) hk
theorem bal_l5 {Q : Bool → World → Prop} {w w0 : World} {R : Nat → Prop} {b : Nat} {st : Tstate} {M : MState} (hL : Led w0 R b st M) (hG : Good M) (hJ : J M) (hT : T6 M) (hE : EN M) {a : Option Addr} {n c b3 : Nat} (ho : Own 42 9 TPosting.enc w0 a n c M.postings) (hm : MapIs encKey w0 b3 (leftL [] (parts M 8))) (hb3 : w.heap.size ≤ b3) (E0 : Ext w w0)
    (hQ : ∀ w', Ext w w' → Q true w') : ∃ k, law06_DrawersBalanced.l5 Q (some ⟨b, 0, none⟩) b3 (((parts M 8).length : Nat) : Int) a n k (((parts M 8).length : Nat) : Int) 0 w0 := by
  refine ⟨n + 1, ?_⟩
  have hn : n ≤ 20000 := by rw [ho.1]; exact hG.postings
  have hF := hG.small.fits
  have hS : M.postings.length ≤ 40000 := by have := hG.postings; omega
  have key : ∀ m i w' (v7 : Int), i + m = n → Ext w0 w' → (∀ p ∈ M.postings.take i, p.Lot ≤ v7) → law06_DrawersBalanced.l5 Q (some ⟨b, 0, none⟩) b3 (((parts M 8).length : Nat) : Int) a n (m + 1) v7 (i : Nat) w' := by
    intro m
    induction m with
    | zero =>
      intro i w' v7 hi E hv
      unfold law06_DrawersBalanced.l5
      rw [List.take_of_length_le (by rw [← ho.1]; omega)] at hv
      refine ifb_df (by omega) (ifb ?_)
      split
      · exact alive_c fun w3 e3 => hQ w3 ((E0.ext E).ext e3)
      · rename_i he
        have he : v7 = (((parts M 8).length : Nat) : Int) := by simpa using he
        subst he
        refine trial_c (hL.ext E).rd hS fun a3 n3 c3 w4 ho4 hk4 e4 => bal_l6 hG hJ hT (all_parts hE hv) ho4 (hm.ext (E.ext e4)) hb3 (fun k hk e => ?_) ((E0.ext E).ext e4) hQ
        have := hk4 k hk
        have := (hm.ext E).1.lt
        omega
    | succ m ih =>
      intro i w' v7 hi E hv
      unfold law06_DrawersBalanced.l5
      refine ifb_dt (by omega) (((ho.ext E).rd encPosting).ix (by omega) (by omega) fun a0 x ha hx hcx => ⟨x, hcx, al_f E fun b7 w6 hb7 hat7 E6 _ _ => sb_f E6 hat7 hb7 fun w7 _ E7 _ => ?_⟩)
      simp only [Int.toNat_natCast] at hx
      have e2 : IntKind.wrap .i64 (((i : Nat) : Int) + 1) = ((i + 1 : Nat) : Int) := by rw [wrap_id (by omega) (by omega)]; omega
      rw [e2]
      refine ih (i + 1) w7 _ (by omega) E7 fun p hp => ?_
      rw [List.take_succ, hx] at hp
      rcases List.mem_append.1 hp with hp | hp
      · have := hv p hp
        split <;> omega
      · have hp : p = x := by simpa using hp
        subst hp
        split <;> omega
  exact key n 0 w0 _ (by omega) (er w0) fun p hp => by simp at hp
theorem bal_l3 {Q : Bool → World → Prop} {w w0 : World} {R : Nat → Prop} {b : Nat} {st : Tstate} {M : MState} (hL : Led w0 R b st M) (hG : Good M) (hJ : J M) (hT : T6 M) (hE : EN M) {b3 : Nat} (hm : MapIs encKey w0 b3 []) (hb3 : w.heap.size ≤ b3) (hR : ∀ k, R k → ¬ k = b3) (hbb : ¬ b = b3) (E0 : Ext w w0)
    (hQ : ∀ w', Ext w w' → Q true w') : ∃ k, law06_DrawersBalanced.l3 Q (some ⟨b, 0, none⟩) b3 k 0 0 w0 := by
  refine ⟨8 + 1, ?_⟩
  have hF := hG.small.fits
  have key : ∀ m i w', i + m = 8 → Frm (fun k => k = b3) w0 w' → MapIs encKey w' b3 (leftL [] (parts M i)) → law06_DrawersBalanced.l3 Q (some ⟨b, 0, none⟩) b3 (m + 1) (((parts M i).length : Nat) : Int) (i : Nat) w' := by
    intro m
    induction m with
    | zero =>
      intro i w' hi F hM
      unfold law06_DrawersBalanced.l3
      obtain rfl : i = 8 := by omega
      have hL' := hL.frm F hR hbb
      have E' : Ext w w' := Frm.trans E0 F fun k hk e => by have e : k = b3 := e; omega
      exact ifb_df (by omega) (postings_c hL'.rd hF fun a n c w2 ho hk e2 => bal_l5 (hL'.ext e2) hG hJ hT hE ho (hM.ext e2) hb3 (E'.ext e2) hQ)
    | succ m ih =>
      intro i w' hi F hM
      unfold law06_DrawersBalanced.l3
      have hL' := hL.frm F hR hbb
      refine ifb_dt (by omega) (lots_c hL'.rd hF fun a n c w2 ho hk e2 => bal_l4 ho (hM.ext e2) (fun k hk' e => ?_) _ ?_ fun w3 h3 F3 => ?_)
      · have := hk k hk'
        have := hM.1.lt
        omega
      · have h1 := (parts_len M i).1
        have h2 : (M.lotsOf i).length ≤ M.lots.length := List.length_filter_le _ _
        have h3 := hG.lots
        have h4 := ho.1
        omega
      · have e3 : IntKind.wrap .i64 (((i : Nat) : Int) + 1) = ((i + 1 : Nat) : Int) := by rw [wrap_id (by omega) (by omega)]; omega
        rw [e3]
        have hp : parts M (i + 1) = parts M i ++ M.lotsOf i := rfl
        have := ih (i + 1) w3 (by omega) ((F.ext e2).trans' F3) (by rw [hp, leftL_app]; exact h3)
        rw [hp, List.length_append, ← ho.1] at this
        exact this
  exact key 8 0 w0 (by omega) (Frm.refl _ _) hm
theorem lawBalanced_c {w : World} {a : Option Addr} {n c : Nat} {ms : List MOp} (ho : OpsIs w a n ms) {day : Int} : Cl Pg 10 #[vl a n c, vi day] w (Yes w) := by
  refine Cl.yes (law06_DrawersBalanced.ok (Q := fun b w' => b = true ∧ Ext w w') ?_)
  by_cases hlong : n ≤ 60
  case neg =>
    refine played_long (by omega) (ifb_t (alive_c fun w3 E3 => ⟨?_, E3⟩))
    rw [decide_eq_true (show ((n : Nat) : Int) > 60 by omega)]; rfl
  have hl1 := ho.len
  refine played_c ho hlong fun b w2 R st hL hb hR E2 => ifb_f (al_f E2 fun b1 w3 hb1 hat1 E3 e3 g3 => ?_)
  have hGK : GoodK n (M0.runs ms) := by have := good_runs ms good_M0; rw [Nat.zero_add, ← hl1] at this; exact this
  have hG := hGK.good (by omega)
  have hF := hG.small.fits
  obtain ⟨hm0, hO0⟩ := runs_moves ms j_M0 ol_M0
  have hJ := hm0.j j_M0
  have hPO := hm0.po j_M0 po_M0
  have hT := hm0.t6 j_M0 po_M0 t6_M0
  have hAO := hm0.ao j_M0 po_M0 t6_M0 (show AO M0 from rfl)
  have hEN := hm0.en en_M0
  generalize M0.runs ms = M at *
  have hS : M.postings.length ≤ 40000 := by have := hG.postings; omega
  have lb := hL.blk.lt
  have rl := hL.free.rLt
  refine trial_c (hL.ext e3).rd hS fun a3 n3 c3 w4 ho4 hk4 e4 => ?_
  have hL4 := (hL.ext e3).ext e4
  have hR1 : ∀ k, R k → ¬ k = b1 := fun k hk e => by have := rl k hk; omega
  have hb1' : ¬ b = b1 := by omega
  refine bal_l1 (w := w) hL4 hG hPO hAO ho4 (MapIs.new (hat1.ext e4)) hb1 (E3.ext e4) hR1 hb1' (fun k hk e => by have := hk4 k hk; have := hat1.lt; omega) fun w5 F5 E5 => ?_
  have hL5 := hL4.frm F5 hR1 hb1'
  refine al_f E5 fun b3 w6 hb3 hat3 E6 e6 g6 => bal_l3 (hL5.ext e6) hG hJ hT hEN (MapIs.new hat3) hb3 (fun k hk e => ?_) ?_ E6 fun w' E => ⟨rfl, E⟩
  · have := rl k hk; have := e3.size; have := e4.size; have := F5.size; omega
  · have := e3.size; have := e4.size; have := F5.size; omega
end Go.Proofs.YtcbijkakoepglaaGreat
namespace Go.Proofs.YtcbijkakoepglaaGreat
open Go Go.Wx Go.ChangeShapes Go.WideShapes Go.ChangeAt Go.RowKit
open Go.ChangeMaps (open_string shut_string)
set_option maxRecDepth 100000 in
theorem liftedDrawersBalanced (os : Os) (started : os.Started) (H : Type) (enc : TypeId × Value → H) :
    ReturnsInHanded {} Tryz.checked os 10 .any (Rows.drawersBalancedSpec.pre6 enc Tryz.prog Tryz.f10 Rows.drawersBalancedRow.domain false) (Rows.drawersBalancedSpec.post enc Tryz.prog Tryz.f10 false true false false) := by
  refine returnsInHanded_of_change_sized (C := Tryz.checked) own started (by kernel_rfl) Tryz.func10
    (ChangeSpec.witness6 (enc := enc) (C := Tryz.checked) false ⟨#[], #[.slice none 0 0, .int .i64 0], []⟩ 8 (by kernel_rfl) (by kernel_rfl) (by kernel_rfl) (by kernel_rfl)) ?_
  intro W base args ds gs before hval0 hW hcnd hsz0 _
  have hsz : (DataW.weightsEach Tryz.prog (Tryz.f10.params.toList ++ Rows.drawersBalancedSpec.plain.varTypes Tryz.prog) (ds ++ gs)).all (· ≤ reachBytes) = true := hsz0
  have hval : ∀ (j : Nat) t v, Tryz.f10.params[j]? = some t → args[j]? = some v → Value.okWide Tryz.prog W .any base t v := hval0
  have hW' := hW
  obtain ⟨p, q, hA0, hV, rfl, hfz, hnd⟩ := hW
  have hA : DataW.TrodAll enc Tryz.prog W 0 (fun _ => true) true Tryz.f10.params.toList args.toList ds p := hA0
  have hA' := hA
  rw [Tryz.params10] at hA hval hsz
  obtain ⟨v0, vs0, d0, ds0, p0, q0, hargs, rfl, rfl, t0, r0⟩ := trodAll_cons hA
  obtain ⟨v1, vs1, d1, ds1, p1, q1, rfl, rfl, rfl, t1, r1⟩ := trodAll_cons r0
  obtain ⟨rfl, rfl, rfl⟩ := trodAll_nil r1
  obtain rfl : args = #[v0, v1] := by cases args; simp_all
  obtain ⟨rfl, rfl⟩ := trodVars_none hV
  obtain ⟨a0, n0, c0, rfl⟩ := okWide_slice Tryz.underlying30 (hval 0 30 v0 rfl rfl)
  have u0 := (weights_of hsz (j := 0) (t := 30) (d := d0) rfl rfl)
  obtain ⟨fu0, hf0⟩ := t0
  obtain ⟨ms0, h0⟩ := open_script hf0 u0
  obtain ⟨x1, rfl, -, -, w1⟩ := open_int Tryz.underlying3 (hval 1 3 v1 rfl rfl) t1
  refine Calls.mono (lawBalanced_c h0) fun e W' hy => ?_
  obtain ⟨v, he, hv, bel⟩ := hy
  subst he
  subst hv
  exact ⟨_, rfl, _, _, _, [], _, [], hW', trodAll_mk1 (shut_bool Tryz.underlying4 _), Below.trodAll laidOut bel.below (by kernel_rfl) hA', rfl, bel.below.frame _, fun h => by cases h⟩
theorem named10 : Tryz.checked.prog.funcNamed Rows.drawersBalancedRow.func = some 10 := by kernel_rfl
set_option maxRecDepth 100000 in
set_option maxHeartbeats 20000000 in
theorem facts10 : joinedFacts Tryz.checked.prog 10 Tryz.f10 Rows.drawersBalancedSpec Rows.drawersBalancedRow = true := by
  show joinedFacts Tryz.prog 10 Tryz.f10 Rows.drawersBalancedSpec Rows.drawersBalancedRow = true
  unfold joinedFacts
  simp only [Bool.and_eq_true]
  repeat' apply And.intro
  all_goals as_aux_lemma => kernel_rfl
theorem inst10 : Tryz.f10.isInstance Tryz.checked.prog Rows.drawersBalancedRow.origin Rows.drawersBalancedRow.targs := of_decide_eq_true (by kernel_rfl)
theorem wrap10 : Tryz.f10.isWrapper Tryz.checked.prog Rows.drawersBalancedRow.wrapper Rows.drawersBalancedRow.mainSum := by unfold Func.isWrapper; first | (rw [if_pos (by decide +kernel)]; kernel_rfl) | (rw [if_neg (by decide +kernel)]; exact ⟨rfl, rfl⟩)
theorem drawersBalanced_holds : Rows.DrawersBalancedSaid :=
  OpenClaim.holds_of_wide 10 Tryz.f10 rfl rfl rfl rfl rfl rfl rfl ⟨rfl, rfl, rfl, rfl, rfl⟩ rfl rfl rfl rfl rfl named10 Tryz.func10 facts10 inst10 wrap10
    (fun os started H enc _ => liftedDrawersBalanced os started H enc)
end Go.Proofs.YtcbijkakoepglaaGreat
