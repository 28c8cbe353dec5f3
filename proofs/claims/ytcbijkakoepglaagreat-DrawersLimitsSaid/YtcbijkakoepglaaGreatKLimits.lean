/- The law DrawersLimits holds. Conditions: none. -/
import Derived.Test.YtcbijkakoepglaaGreatKB6
import Derived.Test.YtcbijkakoepglaaGreatRows
import Derived.JoinedOf
set_option linter.all false
namespace Go.Proofs.YtcbijkakoepglaaGreat
open Go Go.Wx

/-! ### the moves -/
/-- a lot turns: x becomes x', n of its unit goes from (fk, fi) to (tk, ti) for the reason why. -/
inductive Turn (x : TLot) : TLot → Int → Int → Int → Int → Int → Int → Prop where
  | forfeit : x.State = 1 → Turn x { x with State := 3 } x.Left 2 x.Thing 4 0 3
  | pay (person : Int) : x.State = 1 → isId person = true → Turn x { x with State := 2, Left := 0 } x.Left 2 x.Thing 3 person 2
  | part (person m : Int) : x.State = 1 → 1 ≤ m → m ≤ x.Left → isId person = true → Turn x (cvLot x m) m 2 x.Thing 3 person 2
  | swap (m : Int) : x.State = 1 → 1 ≤ m → m ≤ x.Left → Turn x (cvLot x m) m 2 x.Thing 6 0 5
  | lose : x.State = 1 → Turn x { x with State := 5 } x.Left 2 x.Thing 5 0 6
  | recover : x.State = 5 → Turn x { x with State := 1 } x.Left 5 0 2 x.Thing 7
  | dispatch (bag : Int) : x.State = 1 → isId bag = true → Turn x { x with State := 6, Bag := bag } x.Left 2 x.Thing 7 bag 8
  | arrive : x.State = 6 → Turn x { x with State := 7, Left := 0 } x.Left 7 x.Bag 1 0 9
  | refund (person : Int) : x.State = 3 → isId person = true → 0 < restR x → Turn x { x with State := 4, Left := 0 } (restR x) 4 0 3 person 4
structure LotIn (M : MState) (x : TLot) : Prop where
  thing : isId x.Thing = true
  unit : 0 ≤ M.find x.Unit
  n1 : 1 ≤ x.N
  n2 : x.N ≤ 1000000000
  left : x.Left = x.N
inductive Move : MState → MState → Prop where
  | turn {M : MState} {i : Nat} {x x' : TLot} {n fk fi tk ti why : Int} : M.lots[i]? = some x → Turn x x' n fk fi tk ti why → Move M ((M.post ⟨M.day, x.Unit, n, fk, fi, tk, ti, why, x.Id⟩).setLot i x')
  | keep {M : MState} {i : Nat} {x : TLot} : M.lots[i]? = some x → x.State = 3 → ¬ 0 < restR x → Move M (M.setLot i { x with State := 4, Left := 0 })
  | enter {M : MState} {x : TLot} {fk why : Int} : (fk = 1 ∧ (why = 1 ∨ why = 10) ∨ fk = 6 ∧ why = 5) → LotIn M x → M.lots.length < 2000 → Move M (M.enter x fk 0 why)
  | day {M : MState} {d : Int} : M.day ≤ d → d ≤ 100000 → Move M { M with day := d }
  | unit {M : MState} {name : ByteArray} {kind : Int} : named name = true → M.find name < 0 → Move M { M with units := M.units ++ [⟨name, kind, []⟩] }
  | value {M : MState} {i : Nat} {u : MUnit} {g : Int} : M.units[i]? = some u → 1 ≤ g → g ≤ 100000 → Move M { M with units := M.units.set i { u with values := u.values ++ [⟨M.day, g⟩] } }
  | term {M : MState} {t : Tterm} : t.day = M.day → 1 ≤ t.days → t.days ≤ 40000 → Move M { M with terms := M.terms ++ [t] }
inductive Moves : MState → MState → Prop where
  | refl {M : MState} : Moves M M
  | tail {M M1 M2 : MState} : Moves M M1 → Move M1 M2 → Moves M M2
theorem Moves.one {M M' : MState} (h : Move M M') : Moves M M' := .tail .refl h
theorem Moves.trans {M M1 M2 : MState} (h : Moves M M1) (h2 : Moves M1 M2) : Moves M M2 := by
  induction h2 with
  | refl => exact h
  | tail _ h3 ih => exact .tail ih h3
theorem Moves.head {M M1 M2 : MState} (h : Move M M1) (h2 : Moves M1 M2) : Moves M M2 := (Moves.one h).trans h2

/-! ### what every move keeps -/
structure LotOk (M : MState) (x : TLot) : Prop where
  thing : isId x.Thing = true
  unit : 0 ≤ M.find x.Unit
  n1 : 1 ≤ x.N
  n2 : x.N ≤ 1000000000
  live : ((x.State = 1 ∨ x.State = 3 ∨ x.State = 5 ∨ x.State = 6) ∧ 1 ≤ x.Left ∧ x.Left ≤ x.N) ∨ ((x.State = 2 ∨ x.State = 4 ∨ x.State = 7) ∧ x.Left = 0)
  bag : x.State = 6 → isId x.Bag = true
structure J (M : MState) : Prop where
  ids : IdOk M
  lots : ∀ x ∈ M.lots, LotOk M x
  terms : ∀ t ∈ M.terms, 1 ≤ t.days ∧ t.days ≤ 40000
  units : ∀ u ∈ M.units, named u.name = true
  grains : ∀ u ∈ M.units, ∀ v ∈ u.values, 1 ≤ v.grains ∧ v.grains ≤ 100000
  d0 : 0 ≤ M.day
  d1 : M.day ≤ 100000
  len : M.lots.length ≤ 2000
theorem find_any (M : MState) (name : ByteArray) : decide (M.find name ≥ 0) = M.units.any (fun u => strEq u.name name) := idxI_ge _ _
theorem find_mono {M M' : MState} (h : ∀ n, M.units.any (fun u => strEq u.name n) = true → M'.units.any (fun u => strEq u.name n) = true) {name : ByteArray} (hn : 0 ≤ M.find name) : 0 ≤ M'.find name := by
  have h1 := find_any M name
  rw [decide_eq_true hn] at h1
  have h2 := find_any M' name
  rw [h name h1.symm] at h2
  exact of_decide_eq_true h2
theorem LotOk.mono {M M' : MState} (h : ∀ n, M.units.any (fun u => strEq u.name n) = true → M'.units.any (fun u => strEq u.name n) = true) {x : TLot} (hx : LotOk M x) : LotOk M' x :=
  ⟨hx.thing, find_mono h hx.unit, hx.n1, hx.n2, hx.live, hx.bag⟩
theorem LotOk.same {M : MState} {x : TLot} (hx : LotOk M x) (M' : MState) (h : M'.units = M.units) : LotOk M' x := hx.mono fun n => by rw [h]; exact id
theorem Turn.id {x x' : TLot} {n fk fi tk ti why : Int} (h : Turn x x' n fk fi tk ti why) : x'.Id = x.Id := by cases h <;> rfl
theorem cvLot_ok {x : TLot} {m : Int} (hl : x.Left ≤ 1000000000) (h1 : 1 ≤ m) (h2 : m ≤ x.Left) : (cvLot x m).Left = x.Left - m ∧ (cvLot x m).State = if x.Left - m = 0 then 2 else x.State := by
  have : wr (x.Left - m) = x.Left - m := wrap_id (by omega) (by omega)
  unfold cvLot
  simp only [this, and_self]
theorem Turn.ok {M : MState} {x x' : TLot} {n fk fi tk ti why : Int} (h : Turn x x' n fk fi tk ti why) (hx : LotOk M x) : LotOk M x' := by
  obtain ⟨h1, h2, h3, h4, h5, h6⟩ := hx
  cases h with
  | forfeit hs => exact ⟨h1, h2, h3, h4, .inl ⟨.inr (.inl rfl), by show 1 ≤ x.Left; omega, by show x.Left ≤ x.N; omega⟩, fun h => by simp at h⟩
  | pay p hs => exact ⟨h1, h2, h3, h4, .inr ⟨.inl rfl, rfl⟩, fun h => by simp at h⟩
  | part p m hs k1 k2 =>
    have hl : x.Left ≤ x.N := by omega
    obtain ⟨e1, e2⟩ := cvLot_ok (by omega) k1 k2
    refine ⟨h1, h2, h3, h4, ?_, ?_⟩
    · rw [e1, e2]
      by_cases hz : x.Left - n = 0
      · rw [if_pos hz]; exact .inr ⟨.inl rfl, hz⟩
      · rw [if_neg hz]; exact .inl ⟨.inl hs, by omega, by show x.Left - n ≤ x.N; omega⟩
    · rw [e2]; split
      · intro h; simp at h
      · intro h; omega
  | swap m hs k1 k2 =>
    have hl : x.Left ≤ x.N := by omega
    obtain ⟨e1, e2⟩ := cvLot_ok (by omega) k1 k2
    refine ⟨h1, h2, h3, h4, ?_, ?_⟩
    · rw [e1, e2]
      by_cases hz : x.Left - n = 0
      · rw [if_pos hz]; exact .inr ⟨.inl rfl, hz⟩
      · rw [if_neg hz]; exact .inl ⟨.inl hs, by omega, by show x.Left - n ≤ x.N; omega⟩
    · rw [e2]; split
      · intro h; simp at h
      · intro h; omega
  | lose hs => exact ⟨h1, h2, h3, h4, .inl ⟨.inr (.inr (.inl rfl)), by show 1 ≤ x.Left; omega, by show x.Left ≤ x.N; omega⟩, fun h => by simp at h⟩
  | recover hs => exact ⟨h1, h2, h3, h4, .inl ⟨.inl rfl, by show 1 ≤ x.Left; omega, by show x.Left ≤ x.N; omega⟩, fun h => by simp at h⟩
  | dispatch b hs hb => exact ⟨h1, h2, h3, h4, .inl ⟨.inr (.inr (.inr rfl)), by show 1 ≤ x.Left; omega, by show x.Left ≤ x.N; omega⟩, fun _ => hb⟩
  | arrive hs => exact ⟨h1, h2, h3, h4, .inr ⟨.inr (.inr rfl), rfl⟩, fun h => by simp at h⟩
  | refund p hs => exact ⟨h1, h2, h3, h4, .inr ⟨.inr (.inl rfl), rfl⟩, fun h => by simp at h⟩
theorem J.set {M : MState} (h : J M) {i : Nat} {x x' : TLot} (hx : M.lots[i]? = some x) (hi : x'.Id = x.Id) (ho : LotOk M x') : J (M.setLot i x') :=
  ⟨h.ids.setLot hx hi, fun y hy => by
    rcases List.mem_or_eq_of_mem_set hy with hy | hy
    · exact (h.lots y hy).same (M.setLot i x') rfl
    · rw [hy]; exact ho.same (M.setLot i x') rfl, h.terms, h.units, h.grains, h.d0, h.d1, by simp [MState.setLot]; exact h.len⟩
theorem J.post {M : MState} (h : J M) (p : TPosting) : J (M.post p) := ⟨h.ids, fun y hy => (h.lots y hy).same (M.post p) rfl, h.terms, h.units, h.grains, h.d0, h.d1, h.len⟩
theorem Move.j {M M' : MState} (hm : Move M M') (h : J M) : J M' := by
  cases hm with
  | turn hx ht => exact (h.post _).set hx ht.id ((ht.ok (h.lots _ (List.mem_of_getElem? hx))).same (M.post _) rfl)
  | keep hx hs hr =>
    have hk := h.lots _ (List.mem_of_getElem? hx)
    exact h.set hx rfl ⟨hk.thing, hk.unit, hk.n1, hk.n2, .inr ⟨.inr (.inl rfl), rfl⟩, fun h => by simp at h⟩
  | enter hw hl hlen =>
    rename_i x fk why
    refine ⟨enter_ids h.ids _ _ _ _, fun y hy => ?_, h.terms, h.units, h.grains, h.d0, h.d1, by simp [MState.enter]; omega⟩
    rcases List.mem_append.1 hy with hy | hy
    · exact (h.lots y hy).same (M.enter x fk 0 why) rfl
    · simp at hy
      subst hy
      have := hl.left
      have := hl.n1
      exact ⟨hl.thing, hl.unit, hl.n1, hl.n2, .inl ⟨.inl rfl, by show 1 ≤ x.Left; omega, by show x.Left ≤ x.N; omega⟩, fun h => by simp at h⟩
  | day h1 h2 => exact ⟨h.ids, fun y hy => LotOk.same (h.lots y hy) _ rfl, h.terms, h.units, h.grains, Int.le_trans h.d0 h1, h2, h.len⟩
  | unit hn hf =>
    refine ⟨h.ids, fun y hy => (h.lots y hy).mono fun n hn => by simp only [List.any_append, hn, Bool.true_or], h.terms, fun u hu => ?_, fun u hu v hv => ?_, h.d0, h.d1, h.len⟩
    · rcases List.mem_append.1 hu with hu | hu
      · exact h.units u hu
      · simp at hu; subst hu; exact hn
    · rcases List.mem_append.1 hu with hu | hu
      · exact h.grains u hu v hv
      · simp at hu; subst hu; cases hv
  | value hu g1 g2 =>
    rename_i i u g
    refine ⟨h.ids, fun y hy => (h.lots y hy).mono fun n hn => ?_, h.terms, fun v hv => ?_, fun y hy v hv => ?_, h.d0, h.d1, h.len⟩
    · rw [List.any_eq_true] at hn ⊢
      obtain ⟨v, hv, he⟩ := hn
      obtain ⟨j, hj⟩ := List.getElem?_of_mem hv
      by_cases hij : i = j
      · subst hij
        rw [hu] at hj
        cases hj
        exact ⟨{ u with values := u.values ++ [⟨M.day, g⟩] }, List.mem_of_getElem? (by rw [List.getElem?_set_self (List.getElem?_eq_some_iff.1 hu).1]), he⟩
      · exact ⟨v, List.mem_of_getElem? (by rw [List.getElem?_set_ne hij]; exact hj), he⟩
    · rcases List.mem_or_eq_of_mem_set hv with hv | hv
      · exact h.units v hv
      · rw [hv]; exact h.units u (List.mem_of_getElem? hu)
    · rcases List.mem_or_eq_of_mem_set hy with hy | hy
      · exact h.grains y hy v hv
      · subst hy
        rcases List.mem_append.1 hv with hv | hv
        · exact h.grains u (List.mem_of_getElem? hu) v hv
        · simp at hv; subst hv; exact ⟨g1, g2⟩
  | term h1 h2 h3 =>
    refine ⟨h.ids, fun y hy => LotOk.same (h.lots y hy) _ rfl, fun t ht => ?_, h.units, h.grains, h.d0, h.d1, h.len⟩
    rcases List.mem_append.1 ht with ht | ht
    · exact h.terms t ht
    · simp at ht; subst ht; exact ⟨h2, h3⟩
theorem Moves.j {M M' : MState} (hm : Moves M M') (h : J M) : J M' := by
  induction hm with
  | refl => exact h
  | tail _ h2 ih => exact h2.j ih
end Go.Proofs.YtcbijkakoepglaaGreat
namespace Go.Proofs.YtcbijkakoepglaaGreat
open Go Go.Wx

/-- lots that are open are due later. -/
def OL (M : MState) : Prop := ∀ x ∈ M.lots, x.State = 1 → M.day < x.Due
theorem Move.day_le {M M' : MState} (h : Move M M') : M.day ≤ M'.day := by
  cases h <;> first | exact Int.le_refl _ | assumption
theorem Moves.day_le {M M' : MState} (h : Moves M M') : M.day ≤ M'.day := by
  induction h with
  | refl => exact Int.le_refl _
  | tail _ h2 ih => exact Int.le_trans ih h2.day_le

/-! ### forfeits -/
theorem forfeit_day (M : MState) (id q d : Int) : ({ M with day := d } : MState).forfeit id q = { M.forfeit id q with day := d } := by
  unfold MState.forfeit
  simp only
  cases M.lots[(id - 1).toNat]? <;> rfl
theorem forfeits_day : ∀ (l : List (Int × Int)) (M : MState) (d : Int), ({ M with day := d } : MState).forfeits l = { M.forfeits l with day := d }
  | [], _, _ => rfl
  | a :: l, M, d => by
    show (({ M with day := d } : MState).forfeit a.1 a.2).forfeits l = { (M.forfeit a.1 a.2).forfeits l with day := d }
    rw [forfeit_day, forfeits_day l]
theorem id_at {M : MState} (hI : IdOk M) {x : TLot} {i : Nat} (h : M.lots[i]? = some x) : (x.Id - 1).toNat = i := by
  have := hI i x h
  omega
theorem forfeit_at {M : MState} {x : TLot} (h : M.lots[(x.Id - 1).toNat]? = some x) (q : Int) : M.forfeit x.Id q = (M.post ⟨q, x.Unit, x.Left, 2, x.Thing, 4, 0, 3, x.Id⟩).setLot (x.Id - 1).toNat { x with State := 3 } := by
  unfold MState.forfeit
  rw [h]
theorem rest_at {M : MState} (hI : IdOk M) {x x' : TLot} {ds : List TLot} (hx : M.lots[(x.Id - 1).toNat]? = some x) (hn : ((x :: ds).map (·.Id)).Nodup) {y : TLot} (hy : y ∈ ds) (h : M.lots[(y.Id - 1).toNat]? = some y) : (M.lots.set (x.Id - 1).toNat x')[(y.Id - 1).toNat]? = some y := by
  rw [List.getElem?_set_ne, h]
  intro e
  have h1 := hI _ _ hx
  have h2 := hI _ _ h
  rw [List.map_cons, List.nodup_cons] at hn
  exact hn.1 (List.mem_map.2 ⟨y, hy, by omega⟩)
theorem forfeits_moves (q : TLot → Int) {D : Int} (hD : D ≤ 100000) : ∀ (ds : List TLot) (M : MState), IdOk M → (∀ x ∈ ds, M.lots[(x.Id - 1).toNat]? = some x ∧ x.State = 1) → (ds.map (·.Id)).Nodup → (ds.Pairwise fun x y => q x ≤ q y) → (∀ x ∈ ds, M.day ≤ q x ∧ q x ≤ D) → M.day ≤ D →
    ∃ M', Moves M M' ∧ M'.day ≤ D ∧ M.forfeits (ds.map fun x => (x.Id, q x)) = { M' with day := M.day }
  | [], M, _, _, _, _, _, hd => ⟨M, .refl, hd, rfl⟩
  | x :: ds, M, hI, hat, hn, hs, hq, hd => by
    obtain ⟨hx, hst⟩ := hat x List.mem_cons_self
    obtain ⟨q1, q2⟩ := hq x List.mem_cons_self
    obtain ⟨s1, s2⟩ := List.pairwise_cons.1 hs
    have m1 : Move M { M with day := q x } := .day q1 (Int.le_trans q2 hD)
    have m2 : Move { M with day := q x } ((({ M with day := q x } : MState).post ⟨q x, x.Unit, x.Left, 2, x.Thing, 4, 0, 3, x.Id⟩).setLot (x.Id - 1).toNat { x with State := 3 }) := .turn (M := { M with day := q x }) hx (.forfeit hst)
    have hI2 : IdOk ((({ M with day := q x } : MState).post ⟨q x, x.Unit, x.Left, 2, x.Thing, 4, 0, 3, x.Id⟩).setLot (x.Id - 1).toNat { x with State := 3 }) := IdOk.setLot (M := M.post ⟨q x, x.Unit, x.Left, 2, x.Thing, 4, 0, 3, x.Id⟩) hI hx rfl
    obtain ⟨M', h1, h2, h3⟩ := forfeits_moves q hD ds _ hI2 (fun y hy => ⟨rest_at hI hx hn hy (hat y (List.mem_cons_of_mem _ hy)).1, (hat y (List.mem_cons_of_mem _ hy)).2⟩) (by rw [List.map_cons, List.nodup_cons] at hn; exact hn.2) s2 (fun y hy => ⟨s1 y hy, (hq y (List.mem_cons_of_mem _ hy)).2⟩) q2
    refine ⟨M', .head m1 (.head m2 h1), h2, ?_⟩
    show (M.forfeit x.Id (q x)).forfeits (ds.map fun x => (x.Id, q x)) = _
    rw [forfeit_at hx]
    have e : (M.post ⟨q x, x.Unit, x.Left, 2, x.Thing, 4, 0, 3, x.Id⟩).setLot (x.Id - 1).toNat { x with State := 3 } = { ((({ M with day := q x } : MState).post ⟨q x, x.Unit, x.Left, 2, x.Thing, 4, 0, 3, x.Id⟩).setLot (x.Id - 1).toNat { x with State := 3 }) with day := M.day } := rfl
    rw [e, forfeits_day, h3]
theorem forfeits_open (q : TLot → Int) : ∀ (ds : List TLot) (M : MState), IdOk M → (∀ x ∈ ds, M.lots[(x.Id - 1).toNat]? = some x) → (ds.map (·.Id)).Nodup →
    ∀ y ∈ (M.forfeits (ds.map fun x => (x.Id, q x))).lots, y.State = 1 → y ∈ M.lots ∧ y ∉ ds
  | [], M, _, _, _, y, hy, _ => ⟨hy, by simp⟩
  | x :: ds, M, hI, hat, hn, y, hy, hs => by
    have hx := hat x List.mem_cons_self
    have hI2 : IdOk ((M.post ⟨q x, x.Unit, x.Left, 2, x.Thing, 4, 0, 3, x.Id⟩).setLot (x.Id - 1).toNat { x with State := 3 }) := IdOk.setLot (M := M.post ⟨q x, x.Unit, x.Left, 2, x.Thing, 4, 0, 3, x.Id⟩) hI hx rfl
    have hy : y ∈ ((M.forfeit x.Id (q x)).forfeits (ds.map fun x => (x.Id, q x))).lots := hy
    rw [forfeit_at hx] at hy
    obtain ⟨h1, h2⟩ := forfeits_open q ds _ hI2 (fun z hz => rest_at hI hx hn hz (hat z (List.mem_cons_of_mem _ hz))) (by rw [List.map_cons, List.nodup_cons] at hn; exact hn.2) y hy hs
    have h1 : y ∈ M.lots.set (x.Id - 1).toNat { x with State := 3 } := h1
    obtain ⟨j, hj⟩ := List.getElem?_of_mem h1
    by_cases e : (x.Id - 1).toNat = j
    · subst e
      rw [List.getElem?_set_self (List.getElem?_eq_some_iff.1 hx).1] at hj
      cases hj
      simp at hs
    · rw [List.getElem?_set_ne e] at hj
      refine ⟨List.mem_of_getElem? hj, fun hm => ?_⟩
      rcases List.mem_cons.1 hm with rfl | hm
      · exact e (id_at hI hj)
      · exact h2 hm
theorem mem_due {M : MState} {d : Int} {x : TLot} : x ∈ M.due d ↔ x ∈ M.lots ∧ x.State = 1 ∧ x.Due ≤ d := by
  unfold MState.due
  rw [(isort_perm _).mem_iff, List.mem_filter]
  simp [isDue]
theorem ids_nodup {M : MState} (hI : IdOk M) : (M.lots.map (·.Id)).Nodup := by
  rw [List.Nodup, List.pairwise_iff_getElem]
  intro i j hi hj hij
  simp only [List.length_map] at hi hj
  rw [List.getElem_map, List.getElem_map]
  have h1 := hI i _ (List.getElem?_eq_getElem hi)
  have h2 := hI j _ (List.getElem?_eq_getElem hj)
  omega
theorem due_nodup {M : MState} (hI : IdOk M) (d : Int) : ((M.due d).map (·.Id)).Nodup := by
  unfold MState.due
  refine ((isort_perm _).map _).nodup_iff.2 ?_
  exact (ids_nodup hI).sublist ((List.filter_sublist).map _)
theorem due_at {M : MState} (hI : IdOk M) {d : Int} {x : TLot} (hx : x ∈ M.due d) : M.lots[(x.Id - 1).toNat]? = some x := by
  obtain ⟨j, hj⟩ := List.getElem?_of_mem (mem_due.1 hx).1
  rw [id_at hI hj]; exact hj
theorem due_sorted (M : MState) (d : Int) : (M.due d).Pairwise fun x y => x.Due ≤ y.Due := by
  unfold MState.due
  refine (isort_asc swoLot _).imp fun {x y} h => ?_
  rw [ltLot_false] at h
  omega
theorem advance_moves {M : MState} (hJ : J M) (hO : OL M) {day : Int} (h1 : M.day ≤ day) (h2 : day ≤ 100000) : Moves M (M.advance day) ∧ OL (M.advance day) := by
  have hI := hJ.ids
  obtain ⟨M', hm, hd, e⟩ := forfeits_moves (fun x => x.Due) h2 (M.due day) M hI (fun x hx => ⟨due_at hI hx, (mem_due.1 hx).2.1⟩) (due_nodup hI day) (due_sorted M day) (fun x hx => by
    obtain ⟨k1, k2, k3⟩ := mem_due.1 hx
    have := hO x k1 k2
    exact ⟨by omega, k3⟩) h1
  constructor
  · unfold MState.advance
    rw [e]
    exact hm.tail (.day hd h2)
  · intro x hx hs
    have hx : x ∈ (M.forfeits ((M.due day).map fun x => (x.Id, x.Due))).lots := hx
    obtain ⟨k1, k2⟩ := forfeits_open (fun x => x.Due) (M.due day) M hI (fun x hx => due_at hI hx) (due_nodup hI day) x hx hs
    show day < x.Due
    apply Classical.byContradiction
    intro hc
    exact k2 (mem_due.2 ⟨k1, hs, by omega⟩)
theorem late_moves {M : MState} (hJ : J M) : Moves M M.late ∧ OL M.late ∧ M.late.day = M.day := by
  have hI := hJ.ids
  obtain ⟨M', hm, hd, e⟩ := forfeits_moves (fun _ => M.day) hJ.d1 (M.due M.day) M hI (fun x hx => ⟨due_at hI hx, (mem_due.1 hx).2.1⟩) (due_nodup hI _) (List.pairwise_of_forall fun _ _ => Int.le_refl _) (fun x hx => ⟨Int.le_refl _, Int.le_refl _⟩) (Int.le_refl _)
  have hday : M'.day = M.day := Int.le_antisymm hd hm.day_le
  have e : M.late = M' := by
    unfold MState.late
    rw [e, ← hday]
  refine ⟨by rw [e]; exact hm, fun x hx hs => ?_, by rw [e]; exact hday⟩
  have hx : x ∈ (M.forfeits ((M.due M.day).map fun x => (x.Id, M.day))).lots := hx
  obtain ⟨k1, k2⟩ := forfeits_open (fun _ => M.day) (M.due M.day) M hI (fun x hx => due_at hI hx) (due_nodup hI _) x hx hs
  rw [e, hday]
  apply Classical.byContradiction
  intro hc
  exact k2 (mem_due.2 ⟨k1, hs, by omega⟩)

/-! ### the other parts -/
theorem each_moves {M : MState} {sel : TLot → Bool} {upd : TLot → TLot} {mk : TLot → TPosting} (hsel : ∀ x ∈ M.lots, sel x = true → ∃ n fk fi tk ti why, Turn x (upd x) n fk fi tk ti why ∧ mk x = ⟨M.day, x.Unit, n, fk, fi, tk, ti, why, x.Id⟩) : Moves M (M.each sel upd mk) := by
  rw [← eachTo_all]
  have : ∀ i, i ≤ M.lots.length → Moves M (M.eachTo sel upd mk i) := by
    intro i
    induction i with
    | zero => intro _; unfold MState.eachTo; simp; exact .refl
    | succ i ih =>
      intro hi
      have hx : M.lots[i]? = some M.lots[i] := List.getElem?_eq_getElem (by omega)
      rw [eachTo_step hx]
      split
      · rename_i hs
        obtain ⟨n, fk, fi, tk, ti, why, ht, e⟩ := hsel _ (List.mem_of_getElem? hx) hs
        rw [e]
        exact (ih (by omega)).tail (.turn (M := M.eachTo sel upd mk i) (eachTo_get hx) ht)
      · exact ih (by omega)
  exact this _ (Nat.le_refl _)
theorem refTo_all (M : MState) (day thing person : Int) : M.refTo day thing person M.lots.length = M.ref day thing person := by
  unfold MState.refTo MState.ref; simp
theorem ref_moves {M : MState} {thing person : Int} (hp : isId person = true) : Moves M (M.ref M.day thing person) := by
  rw [← refTo_all]
  have : ∀ i, i ≤ M.lots.length → Moves M (M.refTo M.day thing person i) := by
    intro i
    induction i with
    | zero => intro _; unfold MState.refTo; simp; exact .refl
    | succ i ih =>
      intro hi
      have hx : M.lots[i]? = some M.lots[i] := List.getElem?_eq_getElem (by omega)
      generalize hxx : M.lots[i] = x at hx
      rw [refTo_step hx]
      have ih := ih (by omega)
      have hg := refTo_get (day := M.day) (thing := thing) (person := person) hx
      by_cases hs : (selF thing x && okR M.day x) = true
      · have hst : x.State = 3 := by
          simp only [Bool.and_eq_true, selF, beq_iff_eq] at hs
          exact hs.1.2
        by_cases hr : 0 < restR x
        · have e1 : updR M.day thing x = { x with State := 4, Left := 0 } := by unfold updR; rw [if_pos hs]
          have e2 : mkR M.day thing person x = some ⟨M.day, x.Unit, restR x, 4, 0, 3, person, 4, x.Id⟩ := by unfold mkR; rw [hs, decide_eq_true hr]; rfl
          rw [e1, e2]
          exact ih.tail (.turn (M := M.refTo M.day thing person i) hg (.refund person hst hp hr))
        · have e1 : updR M.day thing x = { x with State := 4, Left := 0 } := by unfold updR; rw [if_pos hs]
          have e2 : mkR M.day thing person x = none := by unfold mkR; rw [hs, decide_eq_false hr]; rfl
          rw [e1, e2]
          have := ih.tail (.keep (M := M.refTo M.day thing person i) hg hst hr)
          simpa [MState.setLot, MState.refTo] using this
      · have e1 : updR M.day thing x = x := by unfold updR; rw [if_neg hs]
        have e2 : mkR M.day thing person x = none := by
          unfold mkR
          rw [if_neg]
          intro h
          rw [Bool.and_eq_true] at h
          exact hs h.1
        rw [e1, e2]
        have : ({ M with lots := (M.refTo M.day thing person i).lots.set i x, postings := (M.refTo M.day thing person i).postings ++ (none : Option TPosting).toList } : MState) = M.refTo M.day thing person i := by
          have hset : (M.refTo M.day thing person i).lots.set i x = (M.refTo M.day thing person i).lots := by
            obtain ⟨hl, hg'⟩ := List.getElem?_eq_some_iff.1 hg
            rw [← hg']; exact List.set_getElem_self hl
          rw [hset]; simp [MState.refTo]
        rw [this]; exact ih
  exact this _ (Nat.le_refl _)
end Go.Proofs.YtcbijkakoepglaaGreat
namespace Go.Proofs.YtcbijkakoepglaaGreat
open Go Go.Wx

theorem oper_moves {M : MState} (hJ : J M) (hO : OL M) {day : Int} {g : MState → Int × MState} (hg : ∀ A, J A → OL A → A.day = day → (g A).1 = 0 → Moves A (g A).2 ∧ OL (g A).2) : Moves M (M.oper day g).2 ∧ OL (M.oper day g).2 := by
  unfold MState.oper
  split
  · exact ⟨.refl, hO⟩
  rename_i h1
  split
  · exact ⟨.refl, hO⟩
  rename_i h2
  split
  · exact ⟨.refl, hO⟩
  rename_i h3
  split
  · exact ⟨.refl, hO⟩
  obtain ⟨a1, a2⟩ := advance_moves hJ hO (day := day) (by omega) (by omega)
  obtain ⟨b1, b2⟩ := hg (M.advance day) (a1.j hJ) a2 rfl (by simpa using h3)
  exact ⟨a1.trans b1, b2⟩
theorem operO_moves {α : Type} {M : MState} (hJ : J M) (hO : OL M) {z : α} {day : Int} {g : MState → Int × MState × α} (hg : ∀ A, J A → OL A → A.day = day → (g A).1 = 0 → Moves A (g A).2.1 ∧ OL (g A).2.1) : Moves M (M.operO z day g).2.1 ∧ OL (M.operO z day g).2.1 := by
  unfold MState.operO
  split
  · exact ⟨.refl, hO⟩
  rename_i h1
  split
  · exact ⟨.refl, hO⟩
  rename_i h2
  split
  · exact ⟨.refl, hO⟩
  rename_i h3
  split
  · exact ⟨.refl, hO⟩
  obtain ⟨a1, a2⟩ := advance_moves hJ hO (day := day) (by omega) (by omega)
  obtain ⟨b1, b2⟩ := hg (M.advance day) (a1.j hJ) a2 rfl (by simpa using h3)
  exact ⟨a1.trans b1, b2⟩
theorem each_ol {M : MState} (hO : OL M) {sel : TLot → Bool} {upd : TLot → TLot} {mk : TLot → TPosting} (hu : ∀ x, (upd x).State ≠ 1) : OL (M.each sel upd mk) := by
  intro x hx hs
  obtain ⟨y, hy, rfl⟩ := List.mem_map.1 (show x ∈ M.lots.map fun x => if sel x then upd x else x from hx)
  split at hs
  · exact absurd hs (hu y)
  · rename_i hn
    rw [if_neg hn]
    exact hO y hy hs
theorem term_le {M : MState} (h : ∀ t ∈ M.terms, 1 ≤ t.days ∧ t.days ≤ 40000) (name : ByteArray) (n day : Int) : M.term name n day ≤ 40000 := by
  unfold MState.term
  have : ∀ (l : List Tterm) (b : Tterm), b.days ≤ 40000 → (∀ t ∈ l, 1 ≤ t.days ∧ t.days ≤ 40000) → (termOn name n day b l).days ≤ 40000 := by
    intro l
    induction l with
    | nil => intro b hb _; exact hb
    | cons t l ih =>
      intro b hb hl
      unfold termOn
      refine ih _ ?_ fun t ht => hl t (List.mem_cons_of_mem _ ht)
      split
      · exact (hl t List.mem_cons_self).2
      · exact hb
  exact this _ _ (by simp) h
theorem due_gt {M : MState} (h : ∀ t ∈ M.terms, 1 ≤ t.days ∧ t.days ≤ 40000) {day : Int} (d0 : 0 ≤ day) (d1 : day ≤ 100000) (g : TAmount) : day < dueOf M day g ∧ dueOf M day g ≤ 100001 := by
  have ht := term_le h g.Unit g.N day
  unfold dueOf
  simp only
  split
  · rename_i h0
    have e : wr (day + M.term g.Unit g.N day) = day + M.term g.Unit g.N day := wrap_id (by omega) (by omega)
    rw [e]
    split <;> omega
  · omega
theorem enter_ol {M : MState} (hO : OL M) {x : TLot} {fk fi why : Int} (h : M.day < x.Due) : OL (M.enter x fk fi why) := by
  intro y hy hs
  rcases List.mem_append.1 (show y ∈ M.lots ++ [{ x with Id := M.nextId, State := 1, Bag := 0 }] from hy) with hy | hy
  · exact hO y hy hs
  · simp at hy; subst hy; exact h
theorem goods_ok {M : MState} : ∀ {gs : List TAmount} {q : Option TAmount}, goodsBad M q gs = 0 → ∀ g ∈ gs, 1 ≤ g.N ∧ g.N ≤ 1000000000 ∧ 0 ≤ M.find g.Unit
  | [], _, _, _, h => by cases h
  | a :: gs, q, h, g, hg => by
    unfold goodsBad at h
    split at h
    · simp at h
    rename_i h1
    split at h
    · simp at h
    rename_i h2
    rcases List.mem_cons.1 hg with rfl | hg
    · exact ⟨by omega, by omega, by omega⟩
    · exact goods_ok h g hg
theorem deposit_moves {day thing layer : Int} (ht : isId thing = true) : ∀ (gs : List TAmount) {M : MState}, J M → OL M → M.day = day → (∀ g ∈ gs, 1 ≤ g.N ∧ g.N ≤ 1000000000 ∧ 0 ≤ M.find g.Unit) → M.lots.length + gs.length ≤ 2000 → Moves M (depositOn day thing layer M gs).1 ∧ OL (depositOn day thing layer M gs).1
  | [], M, _, hO, _, _, _ => ⟨.refl, hO⟩
  | g :: gs, M, hJ, hO, hd, hg, hl => by
    obtain ⟨g1, g2, g3⟩ := hg g List.mem_cons_self
    simp only [List.length_cons] at hl
    have hdue := due_gt hJ.terms (day := day) (by rw [← hd]; exact hJ.d0) (by rw [← hd]; exact hJ.d1) g
    have m : Move M (M.enter ⟨0, thing, layer, day, dueOf M day g, g.Unit, g.N, g.N, 0, 0⟩ 1 0 1) := .enter (.inl ⟨rfl, .inl rfl⟩) ⟨ht, g3, g1, g2, rfl⟩ (by omega)
    obtain ⟨h1, h2⟩ := deposit_moves ht gs (m.j hJ) (enter_ol hO (by rw [hd]; exact hdue.1)) hd (fun g hgm => hg g (List.mem_cons_of_mem _ hgm)) (by simp [MState.enter]; omega)
    exact ⟨.head m h1, h2⟩
theorem recv_ok {M : MState} : ∀ {ls : List TLot}, recvLook M ls = 0 → ∀ x ∈ ls, recvBad x = false ∧ 0 ≤ M.find x.Unit
  | [], _, _, h => by cases h
  | a :: ls, h, x, hx => by
    unfold recvLook at h
    split at h
    · simp at h
    rename_i h1
    split at h
    · simp at h
    rename_i h2
    rcases List.mem_cons.1 hx with rfl | hx
    · exact ⟨by simpa using h1, by omega⟩
    · exact recv_ok h x hx
theorem recv_moves {day : Int} : ∀ (ls : List TLot) {M : MState}, J M → M.day = day → (∀ x ∈ ls, recvBad x = false ∧ 0 ≤ M.find x.Unit) → M.lots.length + ls.length ≤ 2000 → Moves M (recvOn day M ls).1 ∧ (recvOn day M ls).1.day = day
  | [], M, _, hd, _, _ => ⟨.refl, hd⟩
  | x :: ls, M, hJ, hd, hg, hl => by
    obtain ⟨g1, g2⟩ := hg x List.mem_cons_self
    simp only [List.length_cons] at hl
    unfold recvBad at g1
    simp only [Bool.or_eq_false_iff, Bool.not_eq_false', decide_eq_false_iff_not] at g1
    have m : Move M (M.enter ⟨0, x.Thing, x.Layer, day, x.Due, x.Unit, x.Left, x.Left, 0, 0⟩ 1 0 10) := .enter (.inl ⟨rfl, .inr rfl⟩) ⟨g1.1.1.1.1.1.1, g2, by show 1 ≤ x.Left; omega, by show x.Left ≤ 1000000000; omega, rfl⟩ (by omega)
    obtain ⟨h1, h2⟩ := recv_moves ls (m.j hJ) hd (fun y hy => hg y (List.mem_cons_of_mem _ hy)) (by simp [MState.enter]; omega)
    exact ⟨.head m h1, h2⟩
theorem wr_range (x : Int) : -9223372036854775808 ≤ wr x ∧ wr x ≤ 9223372036854775807 := by
  show -9223372036854775808 ≤ IntKind.wrap .i64 x ∧ IntKind.wrap .i64 x ≤ 9223372036854775807
  rw [IntKind.wrap_i64]
  omega
theorem sumLeft_le : ∀ (l : List TLot) (v : Int), v ≤ 9223372036854775807 → sumLeft v l ≤ 9223372036854775807
  | [], _, h => h
  | x :: l, v, _ => sumLeft_le l _ (wr_range _).2
theorem cv_ol {M : MState} (hO : OL M) {i : Nat} {x : TLot} (hx : M.lots[i]? = some x) (hs : x.State = 1) (m : Int) (p : TPosting) : OL ((M.setLot i (cvLot x m)).post p) := by
  intro y hy h1
  rcases List.mem_or_eq_of_mem_set (show y ∈ M.lots.set i (cvLot x m) from hy) with hy | hy
  · exact hO y hy h1
  · rw [hy]; exact hO x (List.mem_of_getElem? hx) hs
theorem take_moves {thing person : Int} {name : ByteArray} (hp : isId person = true) : ∀ (os : List TLot) {M : MState} {n : Int}, J M → OL M → 0 ≤ n → n ≤ 9223372036854775807 →
    (∀ o ∈ os, M.lots[(o.Id - 1).toNat]? = some o ∧ o.State = 1 ∧ o.Unit = name ∧ o.Thing = thing ∧ 1 ≤ o.Left ∧ o.Left ≤ 1000000000) → (os.map (·.Id)).Nodup → Moves M (takeOn M.day thing person name M n os) ∧ OL (takeOn M.day thing person name M n os)
  | [], M, n, _, hO, _, _, _, _ => ⟨.refl, hO⟩
  | o :: os, M, n, hJ, hO, h0, h1, hat, hn => by
    obtain ⟨k1, k2, k3, k4, k5, k6⟩ := hat o List.mem_cons_self
    unfold takeOn
    generalize hk : (if o.Left < n then o.Left else n) = kk
    have hkk : 0 ≤ kk ∧ kk ≤ n ∧ kk ≤ o.Left := by subst hk; split <;> omega
    split
    · exact ⟨.refl, hO⟩
    rename_i hz
    rw [k1]
    simp only
    have m : Move M ((M.setLot (o.Id - 1).toNat (cvLot o kk)).post ⟨M.day, name, kk, 2, thing, 3, person, 2, o.Id⟩) := by
      have := Move.turn (M := M) k1 (.part person kk k2 (by omega) hkk.2.2 hp)
      rw [k3, k4] at this
      exact this
    have e : wr (n - kk) = n - kk := wrap_id (by omega) (by omega)
    rw [e]
    obtain ⟨r1, r2⟩ := take_moves (thing := thing) (name := name) hp os (M := (M.setLot (o.Id - 1).toNat (cvLot o kk)).post ⟨M.day, name, kk, 2, thing, 3, person, 2, o.Id⟩) (n := n - kk) (m.j hJ) (cv_ol hO k1 k2 kk _) (by omega) (by omega) (fun y hy => ⟨rest_at (x' := cvLot o kk) hJ.ids k1 hn hy (hat y (List.mem_cons_of_mem _ hy)).1, (hat y (List.mem_cons_of_mem _ hy)).2⟩) (by rw [List.map_cons, List.nodup_cons] at hn; exact hn.2)
    exact ⟨.head m r1, r2⟩
theorem cv_range {a b n : Int} (ha : 0 < a) (ha2 : a ≤ 100000) (hb : 0 < b) (hb2 : b ≤ 100000) (hn : 1 ≤ n) (hn2 : n ≤ 1000000000) (ht : ¬ cvTimes a b n < 1) :
    wr (cvTimes a b n * cvB a b) = cvTimes a b n * cvB a b ∧ wr (cvTimes a b n * cvA a b) = cvTimes a b n * cvA a b ∧ 1 ≤ cvTimes a b n * cvB a b ∧ cvTimes a b n * cvB a b ≤ n ∧ 1 ≤ cvTimes a b n * cvA a b ∧ cvTimes a b n * cvA a b ≤ 1000000000 := by
  obtain ⟨_, a1, a2, b1, b2, _, _⟩ := cv_parts ha ha2 hb hb2
  have d1 : Int.tdiv 1000000000 (cvA a b) = 1000000000 / cvA a b := Int.tdiv_eq_ediv_of_nonneg (by omega)
  have d2 : Int.tdiv n (cvB a b) = n / cvB a b := Int.tdiv_eq_ediv_of_nonneg (by omega)
  have e1 : 1000000000 / cvA a b * cvA a b ≤ 1000000000 := Int.ediv_mul_le _ (by omega)
  have e2 : n / cvB a b * cvB a b ≤ n := Int.ediv_mul_le _ (by omega)
  have p1 : 0 ≤ 1000000000 / cvA a b := Int.ediv_nonneg (by omega) (by omega)
  have p2 : 0 ≤ n / cvB a b := Int.ediv_nonneg (by omega) (by omega)
  have q1 : 1000000000 / cvA a b ≤ 1000000000 := by
    have := Int.mul_le_mul_of_nonneg_left a1 p1
    omega
  have q2 : n / cvB a b ≤ n := by
    have := Int.mul_le_mul_of_nonneg_left b1 p2
    omega
  have w1 : wr (1000000000 / cvA a b) = 1000000000 / cvA a b := wrap_id (by omega) (by omega)
  have w2 : wr (n / cvB a b) = n / cvB a b := wrap_id (by omega) (by omega)
  have hT : cvTimes a b n = if 1000000000 / cvA a b < n / cvB a b then 1000000000 / cvA a b else n / cvB a b := by
    unfold cvTimes
    rw [d1, d2, w1, w2]
  have t1 : cvTimes a b n ≤ 1000000000 / cvA a b := by rw [hT]; split <;> omega
  have t2 : cvTimes a b n ≤ n / cvB a b := by rw [hT]; split <;> omega
  have t0 : 1 ≤ cvTimes a b n := by omega
  have m1 := Int.mul_le_mul_of_nonneg_right t1 (show 0 ≤ cvA a b by omega)
  have m2 := Int.mul_le_mul_of_nonneg_right t2 (show 0 ≤ cvB a b by omega)
  have m3 := Int.mul_le_mul t0 a1 (by omega) (show 0 ≤ cvTimes a b n by omega)
  have m4 := Int.mul_le_mul t0 b1 (by omega) (show 0 ≤ cvTimes a b n by omega)
  refine ⟨wrap_id (by omega) (by omega), wrap_id (by omega) (by omega), ?_, ?_, ?_, ?_⟩ <;> omega
theorem moved_moves {M : MState} (hJ : J M) (hO : OL M) {z : List TAmount × List TLot} {day thing in_ : Int} {ok : Bool} {upd : TLot → TLot} {mk : TLot → TPosting} (hu : ∀ x, (upd x).State ≠ 1)
    (hm : ok = true → ∀ x : TLot, x.Thing = thing → x.State = in_ → ∃ n fk fi tk ti why, Turn x (upd x) n fk fi tk ti why ∧ mk x = ⟨day, x.Unit, n, fk, fi, tk, ti, why, x.Id⟩) :
    Moves M (M.operO z day (gMoved thing ok in_ upd mk id)).2.1 ∧ OL (M.operO z day (gMoved thing ok in_ upd mk id)).2.1 := by
  refine operO_moves hJ hO fun A jA oA dA h => ?_
  unfold gMoved at h ⊢
  split
  · rename_i hc; rw [if_pos hc] at h; simp at h
  rename_i hc; rw [if_neg hc] at h
  split
  · rename_i he; rw [if_pos he] at h; simp at h
  have hok : ok = true := by
    simp only [Bool.or_eq_true, Bool.not_eq_true', not_or, Bool.not_eq_false] at hc
    exact hc.2
  refine ⟨each_moves fun x _ hs => ?_, each_ol oA hu⟩
  simp only [selL, Bool.and_eq_true, beq_iff_eq] at hs
  rw [dA]
  exact hm hok x hs.1 hs.2
theorem run_moves {M : MState} (hJ : J M) (hO : OL M) (o : MOp) : Moves M (M.run o).2 ∧ OL (M.run o).2 := by
  unfold MState.run
  by_cases c0 : o.kind = 0
  · rw [if_pos c0]
    refine oper_moves hJ hO fun A jA oA dA h => ?_
    unfold gUnit at h ⊢
    split
    · rename_i hc; rw [if_pos hc] at h; simp at h
    rename_i hc; rw [if_neg hc] at h
    split
    · rename_i hc; rw [if_pos hc] at h; simp at h
    rename_i hc2; rw [if_neg hc2] at h
    split
    · rename_i hc; rw [if_pos hc] at h; simp at h
    rename_i hc3; rw [if_neg hc3] at h
    split
    · rename_i hc; rw [if_pos hc] at h; simp at h
    exact ⟨.one (.unit (by simpa using hc) (by omega)), oA⟩
  rw [if_neg c0]
  by_cases c1 : o.kind = 1
  · rw [if_pos c1]
    refine oper_moves hJ hO fun A jA oA dA h => ?_
    unfold gValue at h ⊢
    split
    · exact ⟨.refl, oA⟩
    split
    · exact ⟨.refl, oA⟩
    rename_i u hu
    split
    · exact ⟨.refl, oA⟩
    split
    · exact ⟨.refl, oA⟩
    rename_i hgr
    have := Move.value (M := A) (g := o.a) hu (by omega) (by omega)
    have e : ({ A with units := A.units.set (A.find o.unit).toNat { u with values := u.values ++ [⟨A.day, o.a⟩] } } : MState) = { A with units := A.units.set (A.find o.unit).toNat { u with values := u.values ++ [⟨o.day, o.a⟩] } } := by rw [dA]
    rw [e] at this
    exact ⟨.one this, oA⟩
  rw [if_neg c1]
  by_cases c2 : o.kind = 2
  · rw [if_pos c2]
    refine oper_moves hJ hO fun A jA oA dA h => ?_
    unfold gTerm at h ⊢
    split
    · exact ⟨.refl, oA⟩
    split
    · exact ⟨.refl, oA⟩
    rename_i hc
    split
    · exact ⟨.refl, oA⟩
    exact ⟨.one (.term dA.symm (by show 1 ≤ o.b; omega) (by show o.b ≤ 40000; omega)), oA⟩
  rw [if_neg c2]
  by_cases c3 : o.kind = 3
  · rw [if_pos c3]
    exact oper_moves hJ hO fun A jA oA dA h => ⟨.refl, oA⟩
  rw [if_neg c3]
  by_cases c4 : o.kind = 4
  · rw [if_pos c4]
    refine operO_moves hJ hO fun A jA oA dA h => ?_
    unfold gDeposit at h ⊢
    split
    · exact ⟨.refl, oA⟩
    rename_i h1
    split
    · exact ⟨.refl, oA⟩
    split
    · exact ⟨.refl, oA⟩
    rename_i h3
    split
    · exact ⟨.refl, oA⟩
    split
    · exact ⟨.refl, oA⟩
    exact deposit_moves (by simp at h1; exact h1.1) _ jA oA dA (goods_ok (by simpa using h3)) (by omega)
  rw [if_neg c4]
  by_cases c5 : o.kind = 5
  · rw [if_pos c5]
    refine moved_moves hJ hO (fun x => by simp [updPay]) fun hok x h1 h2 => ⟨_, _, _, _, _, _, .pay o.b h2 hok, ?_⟩
    rw [h1]; rfl
  rw [if_neg c5]
  by_cases c6 : o.kind = 6
  · rw [if_pos c6]
    refine operO_moves hJ hO fun A jA oA dA h => ?_
    unfold gTake at h ⊢
    split
    · exact ⟨.refl, oA⟩
    rename_i h1
    split
    · exact ⟨.refl, oA⟩
    split
    · exact ⟨.refl, oA⟩
    rename_i h3
    simp only [Bool.or_eq_true, Bool.not_eq_true', decide_eq_true_eq, not_or, Bool.not_eq_false, Bool.and_eq_true] at h1
    have hle := sumLeft_le (A.lots.filter (selT o.a o.unit)) 0 (by omega)
    rw [← dA]
    refine take_moves h1.1.2 _ jA oA (by omega) (by omega) (fun y hy => ?_) ?_
    · rw [(isort_perm _).mem_iff, List.mem_filter] at hy
      obtain ⟨hy, hs⟩ := hy
      simp only [selT, Bool.and_eq_true, beq_iff_eq, strEq_iff] at hs
      obtain ⟨j, hj⟩ := List.getElem?_of_mem hy
      have hk := jA.lots y hy
      refine ⟨by rw [id_at jA.ids hj]; exact hj, hs.2.1, hs.2.2, hs.1, ?_, ?_⟩
      · have := hk.live; omega
      · have := hk.live; have := hk.n2; omega
    · refine ((isort_perm _).map _).nodup_iff.2 ?_
      exact (ids_nodup jA.ids).sublist ((List.filter_sublist).map _)
  rw [if_neg c6]
  by_cases c7 : o.kind = 7
  · rw [if_pos c7]
    refine operO_moves hJ hO fun A jA oA dA h => ?_
    unfold gConvert at h ⊢
    split
    · exact ⟨.refl, oA⟩
    rename_i h1
    split
    · exact ⟨.refl, oA⟩
    rename_i x hx
    dsimp only at h ⊢
    split
    · exact ⟨.refl, oA⟩
    rename_i hs
    split
    · exact ⟨.refl, oA⟩
    rename_i hf
    split
    · exact ⟨.refl, oA⟩
    rename_i hn
    split
    · exact ⟨.refl, oA⟩
    rename_i hl
    split
    · exact ⟨.refl, oA⟩
    rename_i ht
    split
    · exact ⟨.refl, oA⟩
    rename_i hlen
    have hs : x.State = 1 := by simpa using hs
    have hxm := List.mem_of_getElem? hx
    have hk := jA.lots x hxm
    have va := value_range jA.grains x.Unit o.day
    have vb := value_range jA.grains o.to_ o.day
    simp only [not_or] at hf
    have hlive := hk.live
    have hk2 := hk.n2
    obtain ⟨e1, e2, r1, r2, r3, r4⟩ := cv_range (a := A.value x.Unit o.day) (b := A.value o.to_ o.day) (n := o.b) (by omega) va.2 (by omega) vb.2 (by omega) (by omega) ht
    rw [e1, e2]
    generalize cvTimes (A.value x.Unit o.day) (A.value o.to_ o.day) o.b * cvB (A.value x.Unit o.day) (A.value o.to_ o.day) = m at r1 r2 ⊢
    generalize cvTimes (A.value x.Unit o.day) (A.value o.to_ o.day) o.b * cvA (A.value x.Unit o.day) (A.value o.to_ o.day) = kk at r3 r4 ⊢
    have hid : x.Id = o.a := by have := jA.ids _ x hx; omega
    have m1 : Move A ((A.setLot (o.a - 1).toNat (cvLot x m)).post ⟨o.day, x.Unit, m, 2, x.Thing, 6, 0, 5, o.a⟩) := by
      have := Move.turn (M := A) hx (.swap m hs r1 (by omega))
      rw [dA, hid] at this
      exact this
    have m2 : Move ((A.setLot (o.a - 1).toNat (cvLot x m)).post ⟨o.day, x.Unit, m, 2, x.Thing, 6, 0, 5, o.a⟩) (A.conv (o.a - 1).toNat x o.day o.a o.to_ m kk) :=
      .enter (.inr ⟨rfl, rfl⟩) ⟨hk.thing, by show 0 ≤ A.find o.to_; omega, r3, r4, rfl⟩ (by simp [MState.post, MState.setLot]; omega)
    exact ⟨.head m1 (.one m2), enter_ol (cv_ol oA hx hs m _) (oA x hxm hs)⟩
  rw [if_neg c7]
  by_cases c8 : o.kind = 8
  · rw [if_pos c8]
    refine operO_moves hJ hO fun A jA oA dA h => ?_
    unfold gRefund at h ⊢
    split
    · exact ⟨.refl, oA⟩
    rename_i h1
    simp only [Bool.and_eq_false_iff, not_or, Bool.not_eq_false] at h1
    have m := ref_moves (M := A) (thing := o.a) h1.2
    rw [dA] at m
    have ol : OL (A.ref o.day o.a o.b) := by
      intro x hx hs
      obtain ⟨y, hy, rfl⟩ := List.mem_map.1 (show x ∈ A.lots.map (updR o.day o.a) from hx)
      unfold updR at hs ⊢
      split at hs
      · simp at hs
      · rename_i hn
        rw [if_neg hn]
        exact oA y hy hs
    split
    · exact ⟨m, ol⟩
    split
    · exact ⟨m, ol⟩
    exact ⟨m, ol⟩
  rw [if_neg c8]
  by_cases c9 : o.kind = 9
  · rw [if_pos c9]
    refine moved_moves hJ hO (fun x => by simp [updLose]) fun hok x h1 h2 => ⟨_, _, _, _, _, _, .lose h2, ?_⟩
    rw [h1]; rfl
  rw [if_neg c9]
  by_cases c10 : o.kind = 10
  · rw [if_pos c10]
    refine operO_moves hJ hO fun A jA oA dA h => ?_
    unfold gMoved at h ⊢
    split
    · exact ⟨.refl, oA⟩
    split
    · rename_i hc he; rw [if_neg hc, if_pos he] at h; simp at h
    have m := each_moves (M := A) (sel := selL o.a 5) (upd := updRecover) (mk := mkRecover o.day o.a) fun x _ hs => by
      simp only [selL, Bool.and_eq_true, beq_iff_eq] at hs
      refine ⟨_, _, _, _, _, _, .recover hs.2, ?_⟩
      rw [dA, hs.1]; rfl
    obtain ⟨l1, l2, _⟩ := late_moves (m.j jA)
    exact ⟨m.trans l1, l2⟩
  rw [if_neg c10]
  by_cases c11 : o.kind = 11
  · rw [if_pos c11]
    refine moved_moves hJ hO (fun x => by simp [updDispatch]) fun hok x h1 h2 => ⟨_, _, _, _, _, _, .dispatch o.b h2 hok, ?_⟩
    rw [h1]; rfl
  rw [if_neg c11]
  by_cases c12 : o.kind = 12
  · rw [if_pos c12]
    refine operO_moves hJ hO fun A jA oA dA h => ?_
    unfold gArrived at h ⊢
    have m := each_moves (M := A) (sel := selBag o.a) (upd := updArrive) (mk := mkArrive o.day o.a) fun x _ hs => by
      simp only [selBag, Bool.and_eq_true, beq_iff_eq] at hs
      refine ⟨_, _, _, _, _, _, .arrive hs.1, ?_⟩
      rw [dA, hs.2]; rfl
    have ol : OL (A.each (selBag o.a) updArrive (mkArrive o.day o.a)) := each_ol oA fun x => by simp [updArrive]
    split
    · exact ⟨.refl, oA⟩
    split
    · exact ⟨m, ol⟩
    exact ⟨m, ol⟩
  rw [if_neg c12]
  refine operO_moves hJ hO fun A jA oA dA h => ?_
  unfold gReceive at h ⊢
  split
  · exact ⟨.refl, oA⟩
  rename_i h1
  split
  · exact ⟨.refl, oA⟩
  obtain ⟨m1, m2⟩ := recv_moves o.lots jA dA (recv_ok (by simpa using h1)) (by omega)
  obtain ⟨l1, l2, _⟩ := late_moves (m1.j jA)
  exact ⟨m1.trans l1, l2⟩
end Go.Proofs.YtcbijkakoepglaaGreat
namespace Go.Proofs.YtcbijkakoepglaaGreat
open Go Go.Wx

theorem balOn_app (d : Int) : ∀ (a : List TPosting) (m : List (Tplace × Int)) (b : List TPosting), balOn d m (a ++ b) = balOn d (balOn d m a) b
  | [], _, _ => rfl
  | p :: a, m, b => by simp only [List.cons_append, balOn]; exact balOn_app d a _ b
theorem balOn_later {d : Int} : ∀ (b : List TPosting) (m : List (Tplace × Int)), (∀ p ∈ b, d < p.Day) → balOn d m b = m
  | [], _, _ => rfl
  | p :: b, m, h => by
    unfold balOn
    rw [if_neg (by have := h p List.mem_cons_self; omega)]
    exact balOn_later b m fun q hq => h q (List.mem_cons_of_mem _ hq)
theorem valueOn_app (d : Int) : ∀ (a : List Tdated) (v : Int) (b : List Tdated), valueOn d v (a ++ b) = valueOn d (valueOn d v a) b
  | [], _, _ => rfl
  | x :: a, v, b => by simp only [List.cons_append, valueOn]; exact valueOn_app d a _ b
def valueIn (d : Int) : Option MUnit → Int
  | some u => valueOn d 0 u.values
  | none => 0
theorem value_in (M : MState) (name : ByteArray) (d : Int) : M.value name d = valueIn d (M.units.find? fun u => strEq u.name name) := by
  unfold MState.value valueIn
  split <;> rename_i h <;> rw [h]
theorem value_set {n : ByteArray} {d day g : Int} (hd : d < day) : ∀ (l : List MUnit) (i : Nat) (u : MUnit), l[i]? = some u →
    valueIn d ((l.set i { u with values := u.values ++ [⟨day, g⟩] }).find? fun u => strEq u.name n) = valueIn d (l.find? fun u => strEq u.name n)
  | [], _, _, h => by simp at h
  | x :: l, 0, u, h => by
    simp at h
    subst h
    simp only [List.set_cons_zero, List.find?_cons]
    cases strEq x.name n with
    | true =>
      simp only [valueIn, valueOn_app]
      simp only [valueOn]
      rw [if_neg (by omega)]
    | false => rfl
  | x :: l, i + 1, u, h => by
    simp only [List.set_cons_succ, List.find?_cons]
    cases strEq x.name n with
    | true => rfl
    | false => exact value_set hd l i u (by simpa using h)

structure Same (d : Int) (M M' : MState) : Prop where
  post : ∃ ex, M'.postings = M.postings ++ ex ∧ ∀ p ∈ ex, d < p.Day
  value : ∀ name, M'.value name d = M.value name d
theorem Same.refl (d : Int) (M : MState) : Same d M M := ⟨⟨[], by simp, fun _ h => by cases h⟩, fun _ => rfl⟩
theorem Same.trans {d : Int} {M M1 M2 : MState} (h : Same d M M1) (h2 : Same d M1 M2) : Same d M M2 := by
  obtain ⟨e1, p1, q1⟩ := h.post
  obtain ⟨e2, p2, q2⟩ := h2.post
  refine ⟨⟨e1 ++ e2, by rw [p2, p1, List.append_assoc], fun p hp => ?_⟩, fun name => (h2.value name).trans (h.value name)⟩
  rcases List.mem_append.1 hp with hp | hp
  · exact q1 p hp
  · exact q2 p hp
theorem Move.same {d : Int} {M M' : MState} (h : Move M M') (hd : d < M.day) : Same d M M' := by
  cases h with
  | turn hx ht => exact ⟨⟨[_], rfl, fun p hp => by simp at hp; subst hp; exact hd⟩, fun _ => rfl⟩
  | keep hx hs hr => exact ⟨⟨[], by simp [MState.setLot], fun _ h => by cases h⟩, fun _ => rfl⟩
  | enter hw hl hlen => exact ⟨⟨[_], rfl, fun p hp => by simp at hp; subst hp; exact hd⟩, fun _ => rfl⟩
  | day h1 h2 => exact ⟨⟨[], by simp, fun _ h => by cases h⟩, fun _ => rfl⟩
  | unit hn hf =>
    rename_i name kind
    refine ⟨⟨[], by simp, fun _ h => by cases h⟩, fun n => ?_⟩
    rw [value_in, value_in]
    simp only [List.find?_append]
    cases M.units.find? (fun u => strEq u.name n) with
    | some u => rfl
    | none =>
      simp only [Option.none_or, List.find?_cons, List.find?_nil]
      cases strEq name n <;> rfl
  | value hu g1 g2 =>
    refine ⟨⟨[], by simp, fun _ h => by cases h⟩, fun n => ?_⟩
    rw [value_in, value_in]
    exact value_set hd _ _ _ hu
  | term h1 h2 h3 => exact ⟨⟨[], by simp, fun _ h => by cases h⟩, fun _ => rfl⟩
theorem Moves.same {d : Int} {M M' : MState} (h : Moves M M') (hd : d < M.day) : Same d M M' := by
  induction h with
  | refl => exact Same.refl d _
  | tail h1 h2 ih => exact ih.trans (h2.same (Int.lt_of_lt_of_le hd h1.day_le))
section
variable {d : Int} {M M' : MState}
theorem Same.bal (h : Same d M M') : balOn d [] M'.postings = balOn d [] M.postings := by
  obtain ⟨ex, p, q⟩ := h.post
  rw [p, balOn_app, balOn_later ex _ q]
theorem Same.trial (h : Same d M M') : M'.trial d = M.trial d := by unfold MState.trial; rw [h.bal]
theorem Same.balance (h : Same d M M') (a : TAccount) (name : ByteArray) : M'.balance a name d = M.balance a name d := by unfold MState.balance; rw [h.bal]
theorem Same.balances (h : Same d M M') (a : TAccount) : M'.balances a d = M.balances a d := by unfold MState.balances; rw [h.trial]
theorem Same.worth (h : Same d M M') (a : TAccount) : M'.worth a d = M.worth a d := by
  unfold MState.worth
  rw [h.balances]
  have : ∀ (l : List TAmount) (v : Int), worthOn M' d v l = worthOn M d v l := by
    intro l
    induction l with
    | nil => intro v; rfl
    | cons x l ih => intro v; unfold worthOn; rw [h.value]; exact ih _
  exact this _ _
end
theorem j_M0 : J M0 := ⟨fun i x h => by simp [M0] at h, fun x h => by simp [M0] at h, fun x h => by simp [M0] at h, fun x h => by simp [M0] at h, fun x h => by simp [M0] at h, by decide, by decide, by simp [M0]⟩
theorem ol_M0 : OL M0 := fun x h => by simp [M0] at h
theorem runs_moves : ∀ (os : List MOp) {M : MState}, J M → OL M → Moves M (M.runs os) ∧ OL (M.runs os)
  | [], M, _, hO => ⟨.refl, hO⟩
  | o :: os, M, hJ, hO => by
    obtain ⟨m, o1⟩ := run_moves hJ hO o
    obtain ⟨m2, o2⟩ := runs_moves os (m.j hJ) o1
    exact ⟨m.trans m2, o2⟩
end Go.Proofs.YtcbijkakoepglaaGreat
namespace Go.Proofs.YtcbijkakoepglaaGreat
open Go Go.Wx

structure PO (M : MState) : Prop where
  fine : ∀ p ∈ M.postings, fineP p = true
  days : M.postings.Pairwise fun p q => p.Day ≤ q.Day
  le : ∀ p ∈ M.postings, p.Day ≤ M.day
theorem named_of {M : MState} (h : J M) {name : ByteArray} (hn : 0 ≤ M.find name) : named name = true := by
  have h1 := find_any M name
  rw [decide_eq_true hn] at h1
  obtain ⟨u, hu, he⟩ := List.any_eq_true.1 h1.symm
  have := strEq_iff.1 he
  rw [← this]; exact h.units u hu
theorem restR_le {x : TLot} (h0 : 0 ≤ x.Left) (h1 : x.Left ≤ 1000000000) : restR x ≤ x.Left := by
  unfold restR
  have e1 : wr (x.Left + 20) = x.Left + 20 := wrap_id (by omega) (by omega)
  have e2 : wr (x.Left + 20 - 1) = x.Left + 20 - 1 := wrap_id (by omega) (by omega)
  rw [e1, e2]
  have e3 : Int.tdiv (x.Left + 20 - 1) 20 = (x.Left + 20 - 1) / 20 := Int.tdiv_eq_ediv_of_nonneg (by omega)
  rw [e3]
  have e4 : wr ((x.Left + 20 - 1) / 20) = (x.Left + 20 - 1) / 20 := wrap_id (by omega) (by omega)
  rw [e4]
  have e5 : wr (x.Left - (x.Left + 20 - 1) / 20) = x.Left - (x.Left + 20 - 1) / 20 := wrap_id (by omega) (by omega)
  rw [e5]
  omega
theorem Turn.right {M : MState} {x x' : TLot} {n fk fi tk ti why : Int} (h : Turn x x' n fk fi tk ti why) (hx : LotOk M x) : rightA fk fi = true ∧ rightA tk ti = true ∧ wayOk why fk tk = true ∧ 1 ≤ n ∧ n ≤ 1000000000 := by
  have hl := hx.live
  have hn := hx.n2
  have r2 : rightA 2 x.Thing = true := hx.thing
  cases h with
  | forfeit hs => exact ⟨r2, rfl, rfl, by omega, by omega⟩
  | pay p hs hp => exact ⟨r2, hp, rfl, by omega, by omega⟩
  | part p m hs k1 k2 hp => exact ⟨r2, hp, rfl, by omega, by omega⟩
  | swap m hs k1 k2 => exact ⟨r2, rfl, rfl, by omega, by omega⟩
  | lose hs => exact ⟨r2, rfl, rfl, by omega, by omega⟩
  | recover hs => exact ⟨rfl, r2, rfl, by omega, by omega⟩
  | dispatch b hs hb => exact ⟨r2, hb, rfl, by omega, by omega⟩
  | arrive hs => exact ⟨hx.bag hs, rfl, rfl, by omega, by omega⟩
  | refund p hs hp hr =>
    have := restR_le (x := x) (by omega) (by omega)
    exact ⟨rfl, hp, rfl, by omega, by omega⟩
theorem fine_mk {d : Int} {unit : ByteArray} {n fk fi tk ti why lot : Int} (h1 : 0 ≤ d ∧ d ≤ 100000) (h2 : named unit = true) (h3 : 1 ≤ n ∧ n ≤ 1000000000) (h4 : 1 ≤ lot ∧ lot ≤ 2000) (h5 : rightA fk fi = true) (h6 : rightA tk ti = true) (h7 : wayOk why fk tk = true) :
    fineP ⟨d, unit, n, fk, fi, tk, ti, why, lot⟩ = true := by
  unfold fineP
  simp only [decide_eq_true h1, h2, decide_eq_true h3, decide_eq_true h4, h5, h6, h7, Bool.and_self]
theorem PO.add {M M' : MState} (h : PO M) {p : TPosting} (hp : M'.postings = M.postings ++ [p]) (hd : p.Day = M.day) (hdd : M'.day = M.day) (hf : fineP p = true) : PO M' := by
  refine ⟨fun q hq => ?_, ?_, fun q hq => ?_⟩
  · rw [hp] at hq
    rcases List.mem_append.1 hq with hq | hq
    · exact h.fine q hq
    · simp at hq; subst hq; exact hf
  · rw [hp, List.pairwise_append]
    exact ⟨h.days, by simp, fun a ha b hb => by simp at hb; subst hb; rw [hd]; exact h.le a ha⟩
  · rw [hp] at hq
    rw [hdd]
    rcases List.mem_append.1 hq with hq | hq
    · exact h.le q hq
    · simp at hq; subst hq; omega
theorem Move.po {M M' : MState} (hm : Move M M') (hJ : J M) (h : PO M) : PO M' := by
  cases hm with
  | turn hx ht =>
    have hxm := List.mem_of_getElem? hx
    have hk := hJ.lots _ hxm
    obtain ⟨r1, r2, r3, r4, r5⟩ := ht.right hk
    have hid := hJ.ids _ _ hx
    have hlt := (List.getElem?_eq_some_iff.1 hx).1
    have hlen := hJ.len
    exact h.add rfl rfl rfl (fine_mk ⟨hJ.d0, hJ.d1⟩ (named_of hJ hk.unit) ⟨r4, r5⟩ ⟨by omega, by omega⟩ r1 r2 r3)
  | keep hx hs hr => exact ⟨h.fine, h.days, h.le⟩
  | enter hw hl hlen =>
    have hf : ∀ fk why : Int, (fk = 1 ∧ (why = 1 ∨ why = 10) ∨ fk = 6 ∧ why = 5) → rightA fk 0 = true ∧ wayOk why fk 2 = true := by
      intro fk why h
      rcases h with ⟨rfl, rfl | rfl⟩ | ⟨rfl, rfl⟩ <;> exact ⟨rfl, rfl⟩
    obtain ⟨w1, w2⟩ := hf _ _ hw
    refine h.add rfl rfl rfl (fine_mk ⟨hJ.d0, hJ.d1⟩ (named_of hJ hl.unit) ⟨hl.n1, hl.n2⟩ ?_ w1 hl.thing w2)
    show 1 ≤ (M.lots.length : Int) + 1 ∧ (M.lots.length : Int) + 1 ≤ 2000
    omega
  | day h1 h2 => exact ⟨h.fine, h.days, fun p hp => Int.le_trans (h.le p hp) h1⟩
  | unit hn hf => exact ⟨h.fine, h.days, h.le⟩
  | value hu g1 g2 => exact ⟨h.fine, h.days, h.le⟩
  | term h1 h2 h3 => exact ⟨h.fine, h.days, h.le⟩
theorem Moves.po {M M' : MState} (hm : Moves M M') (hJ : J M) (h : PO M) : PO M' := by
  induction hm with
  | refl => exact h
  | tail h1 h2 ih => exact h2.po (h1.j hJ) ih
theorem po_M0 : PO M0 := ⟨fun p h => by simp [M0] at h, by simp [M0], fun p h => by simp [M0] at h⟩

/-! ### statements -/
def stepV (a : TAccount) (unit : ByteArray) (v : Int) (x : TPosting) : Int :=
  if !strEq x.Unit unit || (!fromAt a x && !toAt a x) then v else if toAt a x then wr (v + x.N) else wr (v - x.N)
def sumV (a : TAccount) (unit : ByteArray) (until_ : Int) : Int → List TPosting → Int
  | v, [] => v
  | v, x :: xs => sumV a unit until_ (if x.Day ≤ until_ then stepV a unit v x else v) xs
def lastOr (v : Int) (l : List TStatementLine) : Int := match l.getLast? with
  | some x => x.Balance
  | none => v
theorem lastOr_cons (v : Int) (x : TStatementLine) (l : List TStatementLine) : lastOr v (x :: l) = lastOr x.Balance l := by
  unfold lastOr
  rw [List.getLast?_cons]
  cases l.getLast? <;> rfl
theorem fine_from {x : TPosting} (h : fineP x = true) : x.From_Kind ≠ x.To_Kind := by
  unfold fineP at h
  simp only [Bool.and_eq_true] at h
  have hw := h.2
  unfold wayOk at hw
  rw [List.any_eq_true] at hw
  obtain ⟨y, hy, h1⟩ := hw
  have hx' : y.x0 ≠ y.x1 := by
    unfold waysL at hy
    repeat' split at hy
    all_goals simp at hy
    all_goals (first | (subst hy; decide) | (rcases hy with rfl | rfl <;> decide))
  simp at h1
  omega
theorem not_both {a : TAccount} {x : TPosting} (h : fineP x = true) : ¬ (fromAt a x = true ∧ toAt a x = true) := by
  rintro ⟨h1, h2⟩
  simp only [fromAt, toAt, Bool.and_true, Bool.and_eq_true, beq_iff_eq] at h1 h2
  exact fine_from h (by omega)
theorem stmt_v2 {a : TAccount} {x : TPosting} (h : fineP x = true) (v : Int) (hs : (!fromAt a x && !toAt a x) = false) :
    (if toAt a x then wr ((if fromAt a x then wr (v - x.N) else v) + x.N) else if fromAt a x then wr (v - x.N) else v) = if toAt a x then wr (v + x.N) else wr (v - x.N) := by
  have hb := not_both (a := a) h
  cases h1 : fromAt a x with
  | true =>
    cases h2 : toAt a x with
    | true => exact absurd ⟨h1, h2⟩ hb
    | false => rfl
  | false =>
    cases h2 : toAt a x with
    | true => rfl
    | false => rw [h1, h2] at hs; simp at hs
theorem stmt_none {a : TAccount} {unit : ByteArray} {from_ until_ : Int} : ∀ (ps : List TPosting) (v i : Int), (∀ p ∈ ps, until_ < p.Day) → stmtOn a unit from_ until_ v i ps = []
  | [], _, _, _ => rfl
  | x :: ps, v, i, h => by
    unfold stmtOn
    have hx := h x List.mem_cons_self
    have ih := fun v => stmt_none (a := a) (unit := unit) (from_ := from_) (until_ := until_) ps v (i + 1) fun p hp => h p (List.mem_cons_of_mem _ hp)
    split
    · exact ih v
    · simp only [ih]
      rw [if_neg]
      · rfl
      · simp only [Bool.and_eq_true, decide_eq_true_eq]; omega
theorem sum_none {a : TAccount} {unit : ByteArray} {until_ : Int} : ∀ (ps : List TPosting) (v : Int), (∀ p ∈ ps, until_ < p.Day) → sumV a unit until_ v ps = v
  | [], _, _ => rfl
  | x :: ps, v, h => by
    unfold sumV
    have hx := h x List.mem_cons_self
    rw [if_neg (by omega)]
    exact sum_none ps v fun p hp => h p (List.mem_cons_of_mem _ hp)
theorem stmt_last {a : TAccount} {unit : ByteArray} {until_ : Int} : ∀ (ps : List TPosting) (v i : Int), (∀ p ∈ ps, fineP p = true) → (ps.Pairwise fun p q => p.Day ≤ q.Day) → lastOr v (stmtOn a unit 0 until_ v i ps) = sumV a unit until_ v ps
  | [], _, _, _, _ => rfl
  | x :: ps, v, i, hf, hd => by
    obtain ⟨d1, d2⟩ := List.pairwise_cons.1 hd
    have hfx := hf x List.mem_cons_self
    have ih := fun v => stmt_last (a := a) (unit := unit) (until_ := until_) ps v (i + 1) (fun p hp => hf p (List.mem_cons_of_mem _ hp)) d2
    by_cases hday : x.Day ≤ until_
    · have h0 : 0 ≤ x.Day := by
        unfold fineP at hfx
        simp only [Bool.and_eq_true, decide_eq_true_eq] at hfx
        exact hfx.1.1.1.1.1.1.1
      unfold stmtOn sumV stepV
      rw [if_pos hday]
      split
      · exact ih v
      · rename_i hs
        have hs2 : (!fromAt a x && !toAt a x) = false := by
          cases h : (!fromAt a x && !toAt a x) with
          | true => rw [h, Bool.or_true] at hs; exact absurd rfl hs
          | false => rfl
        simp only
        rw [stmt_v2 hfx v hs2, if_pos (by simp only [Bool.and_eq_true, decide_eq_true_eq]; omega)]
        rw [List.cons_append, List.nil_append, lastOr_cons]
        exact ih _
    · have hall : ∀ p ∈ x :: ps, until_ < p.Day := fun p hp => by
        rcases List.mem_cons.1 hp with rfl | hp
        · omega
        · have := d1 p hp; omega
      rw [stmt_none _ _ _ hall, sum_none _ _ hall]
      rfl
theorem bal_sum {a : TAccount} {unit : ByteArray} {until_ : Int} : ∀ (ps : List TPosting) (m : List (Tplace × Int)), (∀ p ∈ ps, fineP p = true) → getM (balOn until_ m ps) ⟨a.Kind, a.Id, unit⟩ = sumV a unit until_ (getM m ⟨a.Kind, a.Id, unit⟩) ps
  | [], _, _ => rfl
  | x :: ps, m, hf => by
    have hfx := hf x List.mem_cons_self
    unfold balOn sumV
    rw [bal_sum ps _ fun p hp => hf p (List.mem_cons_of_mem _ hp)]
    congr 1
    split
    · have hne : pFrom x ≠ pTo x := fun e => fine_from hfx (congrArg Tplace.account_Kind e)
      have iF : (strEq x.Unit unit && fromAt a x) = true ↔ pFrom x = ⟨a.Kind, a.Id, unit⟩ := by
        simp only [fromAt, Bool.and_true, Bool.and_eq_true, beq_iff_eq, strEq_iff, pFrom, Tplace.mk.injEq]
        constructor
        · rintro ⟨h1, h2, h3⟩; exact ⟨h2, h3, h1⟩
        · rintro ⟨h2, h3, h1⟩; exact ⟨h1, h2, h3⟩
      have iT : (strEq x.Unit unit && toAt a x) = true ↔ pTo x = ⟨a.Kind, a.Id, unit⟩ := by
        simp only [toAt, Bool.and_true, Bool.and_eq_true, beq_iff_eq, strEq_iff, pTo, Tplace.mk.injEq]
        constructor
        · rintro ⟨h1, h2, h3⟩; exact ⟨h2, h3, h1⟩
        · rintro ⟨h2, h3, h1⟩; exact ⟨h1, h2, h3⟩
      unfold stepV addM subM
      cases hu : strEq x.Unit unit with
      | false =>
        rw [hu] at iF iT
        simp only [Bool.false_and, Bool.false_eq_true, false_iff] at iF iT
        rw [getM_putM_ne (fun e => iT e.symm), getM_putM_ne (fun e => iF e.symm)]
        rfl
      | true =>
        rw [hu, Bool.true_and] at iF iT
        cases hT : toAt a x with
        | true =>
          have e := iT.1 hT
          rw [← e, getM_putM, getM_putM_ne (fun e => hne e.symm)]
          simp
        | false =>
          have nT : ¬ pTo x = ⟨a.Kind, a.Id, unit⟩ := fun e => by rw [iT.2 e] at hT; cases hT
          rw [getM_putM_ne (fun e => nT e.symm)]
          cases hF : fromAt a x with
          | true =>
            have e := iF.1 hF
            rw [← e, getM_putM]
            simp
          | false =>
            have nF : ¬ pFrom x = ⟨a.Kind, a.Id, unit⟩ := fun e => by rw [iF.2 e] at hF; cases hF
            rw [getM_putM_ne (fun e => nF e.symm)]
            simp
    · rfl
theorem stmt_balance {M : MState} (h : PO M) (a : TAccount) (unit : ByteArray) (until_ : Int) : lastOr 0 (M.statement a unit 0 until_) = M.balance a unit until_ := by
  unfold MState.statement MState.balance
  rw [stmt_last _ _ _ h.fine h.days, bal_sum _ _ h.fine]
  rfl
theorem stmt_len {a : TAccount} {unit : ByteArray} {from_ until_ : Int} : ∀ (ps : List TPosting) (v i : Int), (stmtOn a unit from_ until_ v i ps).length ≤ ps.length
  | [], _, _ => by simp [stmtOn]
  | x :: ps, v, i => by
    unfold stmtOn
    split
    · exact Nat.le_succ_of_le (stmt_len ps _ _)
    · simp only [List.length_append, List.length_cons]
      have := stmt_len (a := a) (unit := unit) (from_ := from_) (until_ := until_) ps (if toAt a x then wr ((if fromAt a x then wr (v - x.N) else v) + x.N) else if fromAt a x then wr (v - x.N) else v) (i + 1)
      split
      · simp only [List.length_cons, List.length_nil]; omega
      · simp only [List.length_nil]; omega
end Go.Proofs.YtcbijkakoepglaaGreat
namespace Go.Proofs.YtcbijkakoepglaaGreat
open Go Go.Wx

/-! ### sums over lots -/
def sumF (f : TLot → Int) : List TLot → Int
  | [] => 0
  | x :: l => f x + sumF f l
theorem sumF_app (f : TLot → Int) : ∀ (a b : List TLot), sumF f (a ++ b) = sumF f a + sumF f b
  | [], b => by simp [sumF]
  | x :: a, b => by simp only [List.cons_append, sumF, sumF_app f a b]; omega
theorem sumF_set (f : TLot → Int) : ∀ (l : List TLot) (i : Nat) (x x' : TLot), l[i]? = some x → sumF f (l.set i x') = sumF f l - f x + f x'
  | [], _, _, _, h => by simp at h
  | y :: l, 0, x, x', h => by simp at h; subst h; simp only [List.set_cons_zero, sumF]; omega
  | y :: l, i + 1, x, x', h => by
    simp only [List.set_cons_succ, sumF]
    rw [sumF_set f l i x x' (by simpa using h)]
    omega
theorem sumF_bound (f : TLot → Int) {K : Int} (hK : 0 ≤ K) : ∀ (l : List TLot), (∀ x ∈ l, 0 ≤ f x ∧ f x ≤ K) → 0 ≤ sumF f l ∧ sumF f l ≤ K * l.length
  | [], _ => by simp [sumF]
  | x :: l, h => by
    have h1 := h x List.mem_cons_self
    have h2 := sumF_bound f hK l fun y hy => h y (List.mem_cons_of_mem _ hy)
    simp only [sumF, List.length_cons]
    have : K * ((l.length + 1 : Nat) : Int) = K * l.length + K := by rw [Int.natCast_add, Int.mul_add]; simp
    rw [this]
    omega
theorem sumF_le (f : TLot → Int) : ∀ (l : List TLot), (∀ x ∈ l, 0 ≤ f x) → ∀ x ∈ l, f x ≤ sumF f l
  | [], _, _, h => by cases h
  | y :: l, h, x, hx => by
    have h0 : 0 ≤ sumF f l := by
      clear hx
      have : ∀ l : List TLot, (∀ x ∈ l, 0 ≤ f x) → 0 ≤ sumF f l := by
        intro l
        induction l with
        | nil => intro _; simp [sumF]
        | cons z l ih =>
          intro h
          have h1 := h z List.mem_cons_self
          have h2 := ih fun w hw => h w (List.mem_cons_of_mem _ hw)
          simp only [sumF]; omega
      exact this l fun z hz => h z (List.mem_cons_of_mem _ hz)
    have hy := h y List.mem_cons_self
    simp only [sumF]
    rcases List.mem_cons.1 hx with rfl | hx
    · omega
    · have := sumF_le f l (fun z hz => h z (List.mem_cons_of_mem _ hz)) x hx; omega

/-! ### where a lot is -/
def plc (x : TLot) : Option Tplace :=
  if x.State = 1 then some ⟨2, x.Thing, x.Unit⟩ else if x.State = 3 then some ⟨4, 0, x.Unit⟩ else if x.State = 5 then some ⟨5, 0, x.Unit⟩ else if x.State = 6 then some ⟨7, x.Bag, x.Unit⟩ else none
def wt (q : Tplace) (x : TLot) : Int := if plc x = some q then x.Left else 0
def wn (u : ByteArray) (x : TLot) : Int := if x.Unit = u ∧ (x.State = 3 ∨ x.State = 4) then x.N else 0
theorem plc1 {y : TLot} (h : y.State = 1) : plc y = some ⟨2, y.Thing, y.Unit⟩ := by unfold plc; rw [if_pos h]
theorem plc3 {y : TLot} (h : y.State = 3) : plc y = some ⟨4, 0, y.Unit⟩ := by unfold plc; rw [if_neg (by omega), if_pos h]
theorem plc5 {y : TLot} (h : y.State = 5) : plc y = some ⟨5, 0, y.Unit⟩ := by unfold plc; rw [if_neg (by omega), if_neg (by omega), if_pos h]
theorem plc6 {y : TLot} (h : y.State = 6) : plc y = some ⟨7, y.Bag, y.Unit⟩ := by unfold plc; rw [if_neg (by omega), if_neg (by omega), if_neg (by omega), if_pos h]
theorem wt_of {y : TLot} {q p : Tplace} (h : plc y = some p) : wt q y = if p = q then y.Left else 0 := by
  unfold wt
  rw [h]
  simp only [Option.some.injEq]
theorem wt_ok {M : MState} {x : TLot} (h : LotOk M x) (q : Tplace) : 0 ≤ wt q x ∧ wt q x ≤ 1000000000 := by
  have := h.live; have := h.n1; have := h.n2
  unfold wt
  split <;> omega
theorem wn_ok {M : MState} {x : TLot} (h : LotOk M x) (u : ByteArray) : 0 ≤ wn u x ∧ wn u x ≤ 1000000000 := by
  have := h.n1; have := h.n2
  unfold wn
  split <;> omega
theorem Turn.from_at {x x' : TLot} {n fk fi tk ti why : Int} (h : Turn x x' n fk fi tk ti why) : plc x = some ⟨fk, fi, x.Unit⟩ := by
  unfold plc
  cases h with
  | forfeit hs => rw [if_pos hs]
  | pay p hs => rw [if_pos hs]
  | part p m hs => rw [if_pos hs]
  | swap m hs => rw [if_pos hs]
  | lose hs => rw [if_pos hs]
  | recover hs => rw [if_neg (by omega), if_neg (by omega), if_pos hs]
  | dispatch b hs => rw [if_pos hs]
  | arrive hs => rw [if_neg (by omega), if_neg (by omega), if_neg (by omega), if_pos hs]
  | refund p hs => rw [if_neg (by omega), if_pos hs]
theorem wt_cv {x : TLot} {n : Int} (hs : x.State = 1) (hl : x.Left ≤ 1000000000) (h1 : 1 ≤ n) (h2 : n ≤ x.Left) (q : Tplace) : wt q (cvLot x n) = if (⟨2, x.Thing, x.Unit⟩ : Tplace) = q then x.Left - n else 0 := by
  obtain ⟨e1, e2⟩ := cvLot_ok hl h1 h2
  have e3 : (cvLot x n).Thing = x.Thing := rfl
  have e4 : (cvLot x n).Unit = x.Unit := rfl
  unfold wt plc
  rw [e1, e2, e3, e4]
  by_cases hz : x.Left - n = 0
  · rw [hz]; simp
  · rw [if_neg hz, if_pos hs]
    simp only [Option.some.injEq]
/-- how a turn moves what is at a place of a thing, a loss, a bag. -/
theorem Turn.goes {M : MState} {x x' : TLot} {n fk fi tk ti why : Int} (h : Turn x x' n fk fi tk ti why) (hx : LotOk M x) (q : Tplace) (hq : q.account_Kind = 2 ∨ q.account_Kind = 5 ∨ q.account_Kind = 7) :
    wt q x' = wt q x + (if (⟨tk, ti, x.Unit⟩ : Tplace) = q then n else 0) - (if (⟨fk, fi, x.Unit⟩ : Tplace) = q then n else 0) := by
  have hf := h.from_at
  have hwx : wt q x = if (⟨fk, fi, x.Unit⟩ : Tplace) = q then x.Left else 0 := by
    unfold wt
    rw [hf]
    simp only [Option.some.injEq]
  have nk : ∀ {k i : Int}, k ≠ 2 → k ≠ 5 → k ≠ 7 → ¬ (⟨k, i, x.Unit⟩ : Tplace) = q := fun h2 h5 h7 e => by
    rw [← e] at hq
    simp only at hq
    omega
  have hl : x.Left ≤ 1000000000 := by have := hx.live; have := hx.n2; have := hx.n1; omega
  rw [hwx]
  cases h with
  | forfeit hs =>
    rw [if_neg (nk (k := 4) (by decide) (by decide) (by decide))]
    have : wt q { x with State := 3 } = 0 := (wt_of (plc3 rfl)).trans (if_neg (nk (k := 4) (by decide) (by decide) (by decide)))
    rw [this]; split <;> omega
  | pay p hs =>
    rw [if_neg (nk (k := 3) (by decide) (by decide) (by decide))]
    have : wt q { x with State := 2, Left := 0 } = 0 := by unfold wt; split <;> rfl
    rw [this]; split <;> omega
  | part p m hs k1 k2 =>
    rw [if_neg (nk (k := 3) (by decide) (by decide) (by decide)), wt_cv hs hl k1 k2]
    split <;> omega
  | swap m hs k1 k2 =>
    rw [if_neg (nk (k := 6) (by decide) (by decide) (by decide)), wt_cv hs hl k1 k2]
    split <;> omega
  | lose hs =>
    have : wt q { x with State := 5 } = if (⟨5, 0, x.Unit⟩ : Tplace) = q then x.Left else 0 := wt_of (plc5 rfl)
    rw [this]; omega
  | recover hs =>
    have : wt q { x with State := 1 } = if (⟨2, x.Thing, x.Unit⟩ : Tplace) = q then x.Left else 0 := wt_of (plc1 rfl)
    rw [this]; omega
  | dispatch b hs =>
    have : wt q { x with State := 6, Bag := ti } = if (⟨7, ti, x.Unit⟩ : Tplace) = q then x.Left else 0 := wt_of (plc6 rfl)
    rw [this]; omega
  | arrive hs =>
    rw [if_neg (nk (k := 1) (by decide) (by decide) (by decide))]
    have : wt q { x with State := 7, Left := 0 } = 0 := by unfold wt; split <;> rfl
    rw [this]; split <;> omega
  | refund p hs =>
    rw [if_neg (nk (k := 3) (by decide) (by decide) (by decide)), if_neg (nk (k := 4) (by decide) (by decide) (by decide))]
    have : wt q { x with State := 4, Left := 0 } = 0 := by unfold wt; split <;> rfl
    rw [this, if_neg (nk (k := 4) (by decide) (by decide) (by decide))]; omega
end Go.Proofs.YtcbijkakoepglaaGreat
namespace Go.Proofs.YtcbijkakoepglaaGreat
open Go Go.Wx

theorem fine_ne {p : TPosting} (h : fineP p = true) : pFrom p ≠ pTo p := fun e => fine_from h (congrArg Tplace.account_Kind e)
theorem fine_n {p : TPosting} (h : fineP p = true) : 1 ≤ p.N ∧ p.N ≤ 1000000000 := by
  unfold fineP at h
  simp only [Bool.and_eq_true, decide_eq_true_eq] at h
  exact h.1.1.1.1.2
def bal (ps : List TPosting) (q : Tplace) : Int := getM (balOn 100000 [] ps) q
theorem fine_day {p : TPosting} (h : fineP p = true) : 0 ≤ p.Day ∧ p.Day ≤ 100000 := by
  unfold fineP at h
  simp only [Bool.and_eq_true, decide_eq_true_eq] at h
  exact h.1.1.1.1.1.1
theorem bal_add (ps : List TPosting) {p : TPosting} (h : fineP p = true) (q : Tplace) : bal (ps ++ [p]) q = if pTo p = q then wr (bal ps q + p.N) else if pFrom p = q then wr (bal ps q - p.N) else bal ps q := by
  have hd := fine_day h
  have hne : pFrom p ≠ pTo p := fine_ne h
  unfold bal
  rw [balOn_app]
  simp only [balOn]
  rw [if_pos hd.2]
  unfold addM subM
  split
  · rename_i e
    subst e
    rw [getM_putM, getM_putM_ne hne.symm]
  · rename_i e
    rw [getM_putM_ne (fun h => e h.symm)]
    split
    · rename_i e2
      subst e2
      rw [getM_putM]
    · rename_i e2
      rw [getM_putM_ne (fun h => e2 h.symm)]
structure T6 (M : MState) : Prop where
  eq : ∀ q : Tplace, (q.account_Kind = 2 ∨ q.account_Kind = 5 ∨ q.account_Kind = 7) → bal M.postings q = sumF (wt q) M.lots
  lo : ∀ u : ByteArray, sumF (wt ⟨4, 0, u⟩) M.lots ≤ bal M.postings ⟨4, 0, u⟩
  hi : ∀ u : ByteArray, bal M.postings ⟨4, 0, u⟩ ≤ sumF (wn u) M.lots
theorem sum_range {M : MState} (h : J M) (q : Tplace) : 0 ≤ sumF (wt q) M.lots ∧ sumF (wt q) M.lots ≤ 2000000000000 := by
  have h1 := sumF_bound (wt q) (K := 1000000000) (by decide) M.lots fun x hx => wt_ok (h.lots x hx) q
  have h2 := h.len
  have : (1000000000 : Int) * (M.lots.length : Int) ≤ 1000000000 * 2000 := Int.mul_le_mul_of_nonneg_left (by omega) (by decide)
  omega
theorem sumn_range {M : MState} (h : J M) (u : ByteArray) : 0 ≤ sumF (wn u) M.lots ∧ sumF (wn u) M.lots ≤ 2000000000000 := by
  have h1 := sumF_bound (wn u) (K := 1000000000) (by decide) M.lots fun x hx => wn_ok (h.lots x hx) u
  have h2 := h.len
  have : (1000000000 : Int) * (M.lots.length : Int) ≤ 1000000000 * 2000 := Int.mul_le_mul_of_nonneg_left (by omega) (by decide)
  omega
/-- a turn, seen from the crown's account. -/
theorem Turn.four {M : MState} {x x' : TLot} {n fk fi tk ti why : Int} (h : Turn x x' n fk fi tk ti why) (hx : LotOk M x) (u : ByteArray) :
    (tk = 4 ∧ fk ≠ 4 ∧ n = x.Left ∧ ti = 0 ∧ wt ⟨4, 0, u⟩ x = 0 ∧ wn u x = 0 ∧ (x.Unit = u → wt ⟨4, 0, u⟩ x' = n ∧ n ≤ wn u x') ∧ (x.Unit ≠ u → wt ⟨4, 0, u⟩ x' = 0 ∧ wn u x' = 0)) ∨
    (fk = 4 ∧ tk ≠ 4 ∧ fi = 0 ∧ n ≤ x.Left ∧ wt ⟨4, 0, u⟩ x' = 0 ∧ wn u x' = wn u x ∧ (x.Unit = u → wt ⟨4, 0, u⟩ x = x.Left) ∧ (x.Unit ≠ u → wt ⟨4, 0, u⟩ x = 0)) ∨
    (tk ≠ 4 ∧ fk ≠ 4 ∧ wt ⟨4, 0, u⟩ x' = 0 ∧ wt ⟨4, 0, u⟩ x = 0 ∧ wn u x' = 0 ∧ wn u x = 0) := by
  have hlv := hx.live
  have hn1 := hx.n1
  have hn2 := hx.n2
  have hl : x.Left ≤ 1000000000 := by omega
  have z1 : ∀ {y : TLot}, (y.State = 1 ∨ y.State = 2 ∨ y.State = 5 ∨ y.State = 6 ∨ y.State = 7) → wt ⟨4, 0, u⟩ y = 0 ∧ wn u y = 0 := by
    intro y hy
    constructor
    · unfold wt
      rw [if_neg]
      unfold plc
      rcases hy with hy | hy | hy | hy | hy <;> simp [hy]
    · unfold wn
      rw [if_neg]
      rintro ⟨_, h⟩
      omega
  have cv : ∀ {m : Int}, x.State = 1 → 1 ≤ m → m ≤ x.Left → wt ⟨4, 0, u⟩ (cvLot x m) = 0 ∧ wn u (cvLot x m) = 0 := by
    intro m hs k1 k2
    obtain ⟨e1, e2⟩ := cvLot_ok hl k1 k2
    refine z1 ?_
    rw [e2]
    split
    · exact .inr (.inl rfl)
    · exact .inl hs
  cases h with
  | forfeit hs =>
    refine .inl ⟨rfl, by decide, rfl, rfl, (z1 (.inl hs)).1, (z1 (.inl hs)).2, fun e => ⟨?_, ?_⟩, fun e => ⟨?_, ?_⟩⟩
    · exact (wt_of (plc3 rfl)).trans (if_pos (by rw [← e]))
    · unfold wn
      rw [if_pos ⟨e, .inl rfl⟩]
      show x.Left ≤ x.N
      omega
    · exact (wt_of (plc3 rfl)).trans (if_neg (by simp only [Tplace.mk.injEq, true_and]; exact e))
    · unfold wn
      rw [if_neg fun h => e h.1]
  | pay p hs => exact .inr (.inr ⟨by decide, by decide, (z1 (.inr (.inl rfl))).1, (z1 (.inl hs)).1, (z1 (.inr (.inl rfl))).2, (z1 (.inl hs)).2⟩)
  | part p m hs k1 k2 => exact .inr (.inr ⟨by decide, by decide, (cv hs k1 k2).1, (z1 (.inl hs)).1, (cv hs k1 k2).2, (z1 (.inl hs)).2⟩)
  | swap m hs k1 k2 => exact .inr (.inr ⟨by decide, by decide, (cv hs k1 k2).1, (z1 (.inl hs)).1, (cv hs k1 k2).2, (z1 (.inl hs)).2⟩)
  | lose hs => exact .inr (.inr ⟨by decide, by decide, (z1 (.inr (.inr (.inl rfl)))).1, (z1 (.inl hs)).1, (z1 (.inr (.inr (.inl rfl)))).2, (z1 (.inl hs)).2⟩)
  | recover hs => exact .inr (.inr ⟨by decide, by decide, (z1 (.inl rfl)).1, (z1 (.inr (.inr (.inl hs)))).1, (z1 (.inl rfl)).2, (z1 (.inr (.inr (.inl hs)))).2⟩)
  | dispatch b hs => exact .inr (.inr ⟨by decide, by decide, (z1 (.inr (.inr (.inr (.inl rfl))))).1, (z1 (.inl hs)).1, (z1 (.inr (.inr (.inr (.inl rfl))))).2, (z1 (.inl hs)).2⟩)
  | arrive hs => exact .inr (.inr ⟨by decide, by decide, (z1 (.inr (.inr (.inr (.inr rfl))))).1, (z1 (.inr (.inr (.inr (.inl hs))))).1, (z1 (.inr (.inr (.inr (.inr rfl))))).2, (z1 (.inr (.inr (.inr (.inl hs))))).2⟩)
  | refund p hs hp hr =>
    refine .inr (.inl ⟨rfl, by decide, rfl, restR_le (by omega) hl, ?_, ?_, fun e => ?_, fun e => ?_⟩)
    · unfold wt; split <;> rfl
    · unfold wn
      by_cases e : x.Unit = u
      · rw [if_pos ⟨e, .inr rfl⟩, if_pos ⟨e, .inl hs⟩]
      · rw [if_neg fun h => e h.1, if_neg fun h => e h.1]
    · exact (wt_of (plc3 hs)).trans (if_pos (by rw [← e]))
    · exact (wt_of (plc3 hs)).trans (if_neg (by simp only [Tplace.mk.injEq, true_and]; exact e))
theorem Move.t6 {M M' : MState} (hm : Move M M') (hJ : J M) (hP : PO M) (h : T6 M) : T6 M' := by
  have hJ' := hm.j hJ
  have hP' := hm.po hJ hP
  cases hm with
  | turn hx ht =>
    rename_i i x x' n fk fi tk ti why
    have hk := hJ.lots _ (List.mem_of_getElem? hx)
    have hfine : fineP ⟨M.day, x.Unit, n, fk, fi, tk, ti, why, x.Id⟩ = true := hP'.fine _ (List.mem_append.2 (.inr List.mem_cons_self))
    have hb : ∀ q, bal (M.postings ++ [⟨M.day, x.Unit, n, fk, fi, tk, ti, why, x.Id⟩]) q = if (⟨tk, ti, x.Unit⟩ : Tplace) = q then wr (bal M.postings q + n) else if (⟨fk, fi, x.Unit⟩ : Tplace) = q then wr (bal M.postings q - n) else bal M.postings q := fun q => bal_add M.postings hfine q
    have hne : (⟨fk, fi, x.Unit⟩ : Tplace) ≠ ⟨tk, ti, x.Unit⟩ := fine_ne hfine
    have hn : 1 ≤ n ∧ n ≤ 1000000000 := fine_n hfine
    have hset := fun f => sumF_set f M.lots i x x' hx
    refine ⟨fun q hq => ?_, fun u => ?_, fun u => ?_⟩
    · show bal (M.postings ++ [_]) q = sumF (wt q) (M.lots.set i x')
      have h1 := sum_range hJ' q
      have h1 : 0 ≤ sumF (wt q) (M.lots.set i x') ∧ sumF (wt q) (M.lots.set i x') ≤ 2000000000000 := h1
      rw [hset] at h1 ⊢
      have hw := ht.goes hk q hq
      rw [hb q, h.eq q hq]
      by_cases e1 : (⟨tk, ti, x.Unit⟩ : Tplace) = q
      · have e2 : ¬ (⟨fk, fi, x.Unit⟩ : Tplace) = q := fun e => hne (e.trans e1.symm)
        rw [if_pos e1, if_neg e2] at hw
        rw [if_pos e1, show wr (sumF (wt q) M.lots + n) = sumF (wt q) M.lots + n from wrap_id (by omega) (by omega)]
        omega
      · rw [if_neg e1] at hw
        rw [if_neg e1]
        by_cases e2 : (⟨fk, fi, x.Unit⟩ : Tplace) = q
        · rw [if_pos e2] at hw
          rw [if_pos e2, show wr (sumF (wt q) M.lots - n) = sumF (wt q) M.lots - n from wrap_id (by omega) (by omega)]
          omega
        · rw [if_neg e2] at hw
          rw [if_neg e2]
          omega
    · show sumF (wt ⟨4, 0, u⟩) (M.lots.set i x') ≤ bal (M.postings ++ [_]) ⟨4, 0, u⟩
      have h1 := sumn_range hJ u
      have h1' : 0 ≤ sumF (wn u) (M.lots.set i x') ∧ sumF (wn u) (M.lots.set i x') ≤ 2000000000000 := sumn_range hJ' u
      have h2 := sum_range hJ ⟨4, 0, u⟩
      rw [hset] at h1' ⊢
      rw [hb]
      have hlo := h.lo u
      have hhi := h.hi u
      have hwle : wt ⟨4, 0, u⟩ x ≤ sumF (wt ⟨4, 0, u⟩) M.lots := sumF_le _ _ (fun y hy => (wt_ok (hJ.lots y hy) _).1) x (List.mem_of_getElem? hx)
      rcases ht.four hk u with ⟨t1, t2, t3, t4, t5, t6, t7, t8⟩ | ⟨t1, t2, t3, t4, t5, t6, t7, t8⟩ | ⟨t1, t2, t3, t4, t5, t6⟩
      · by_cases e : x.Unit = u
        · obtain ⟨k1, k2⟩ := t7 e
          rw [if_pos (by rw [t1, t4, e]), show wr (bal M.postings ⟨4, 0, u⟩ + n) = bal M.postings ⟨4, 0, u⟩ + n from wrap_id (by omega) (by omega)]
          omega
        · obtain ⟨k1, k2⟩ := t8 e
          rw [if_neg (by simp only [Tplace.mk.injEq, not_and]; intro _ _; exact e), if_neg (by simp only [Tplace.mk.injEq, not_and]; intro h; exact absurd h t2)]
          omega
      · rw [if_neg (by simp only [Tplace.mk.injEq, not_and]; intro h; exact absurd h t2)]
        by_cases e : x.Unit = u
        · have k1 := t7 e
          rw [if_pos (by rw [t1, t3, e]), show wr (bal M.postings ⟨4, 0, u⟩ - n) = bal M.postings ⟨4, 0, u⟩ - n from wrap_id (by omega) (by omega)]
          omega
        · have k1 := t8 e
          rw [if_neg (by simp only [Tplace.mk.injEq, not_and]; intro _ _; exact e)]
          omega
      · rw [if_neg (by simp only [Tplace.mk.injEq, not_and]; intro h; exact absurd h t1), if_neg (by simp only [Tplace.mk.injEq, not_and]; intro h; exact absurd h t2)]
        omega
    · show bal (M.postings ++ [_]) ⟨4, 0, u⟩ ≤ sumF (wn u) (M.lots.set i x')
      have h1 := sumn_range hJ u
      have h1' : 0 ≤ sumF (wn u) (M.lots.set i x') ∧ sumF (wn u) (M.lots.set i x') ≤ 2000000000000 := sumn_range hJ' u
      have h2 := sum_range hJ ⟨4, 0, u⟩
      rw [hset] at h1' ⊢
      rw [hb]
      have hlo := h.lo u
      have hhi := h.hi u
      have hwle : wt ⟨4, 0, u⟩ x ≤ sumF (wt ⟨4, 0, u⟩) M.lots := sumF_le _ _ (fun y hy => (wt_ok (hJ.lots y hy) _).1) x (List.mem_of_getElem? hx)
      rcases ht.four hk u with ⟨t1, t2, t3, t4, t5, t6, t7, t8⟩ | ⟨t1, t2, t3, t4, t5, t6, t7, t8⟩ | ⟨t1, t2, t3, t4, t5, t6⟩
      · by_cases e : x.Unit = u
        · obtain ⟨k1, k2⟩ := t7 e
          rw [if_pos (by rw [t1, t4, e]), show wr (bal M.postings ⟨4, 0, u⟩ + n) = bal M.postings ⟨4, 0, u⟩ + n from wrap_id (by omega) (by omega)]
          omega
        · obtain ⟨k1, k2⟩ := t8 e
          rw [if_neg (by simp only [Tplace.mk.injEq, not_and]; intro _ _; exact e), if_neg (by simp only [Tplace.mk.injEq, not_and]; intro h; exact absurd h t2)]
          omega
      · rw [if_neg (by simp only [Tplace.mk.injEq, not_and]; intro h; exact absurd h t2)]
        by_cases e : x.Unit = u
        · have k1 := t7 e
          rw [if_pos (by rw [t1, t3, e]), show wr (bal M.postings ⟨4, 0, u⟩ - n) = bal M.postings ⟨4, 0, u⟩ - n from wrap_id (by omega) (by omega)]
          omega
        · have k1 := t8 e
          rw [if_neg (by simp only [Tplace.mk.injEq, not_and]; intro _ _; exact e)]
          omega
      · rw [if_neg (by simp only [Tplace.mk.injEq, not_and]; intro h; exact absurd h t1), if_neg (by simp only [Tplace.mk.injEq, not_and]; intro h; exact absurd h t2)]
        omega
  | keep hx hs hr =>
    rename_i i x
    have hk := hJ.lots _ (List.mem_of_getElem? hx)
    have hlv := hk.live
    have hset := fun f => sumF_set f M.lots i x { x with State := 4, Left := 0 } hx
    have w0 : ∀ q, wt q { x with State := 4, Left := 0 } = 0 := fun q => by unfold wt; split <;> rfl
    refine ⟨fun q hq => ?_, fun u => ?_, fun u => ?_⟩
    · show bal M.postings q = sumF (wt q) (M.lots.set i _)
      rw [hset, w0, h.eq q hq]
      have : wt q x = 0 := (wt_of (plc3 hs)).trans (if_neg fun e => by rw [← e] at hq; simp at hq)
      omega
    · show sumF (wt ⟨4, 0, u⟩) (M.lots.set i _) ≤ bal M.postings ⟨4, 0, u⟩
      rw [hset, w0]
      have := h.lo u
      have := (wt_ok hk ⟨4, 0, u⟩).1
      omega
    · show bal M.postings ⟨4, 0, u⟩ ≤ sumF (wn u) (M.lots.set i _)
      rw [hset]
      have : wn u { x with State := 4, Left := 0 } = wn u x := by
        unfold wn
        by_cases e : x.Unit = u
        · rw [if_pos ⟨e, .inr rfl⟩, if_pos ⟨e, .inl hs⟩]
        · rw [if_neg fun h => e h.1, if_neg fun h => e h.1]
      have := h.hi u
      omega
  | enter hw hl hlen =>
    rename_i x fk why
    have hfine : fineP ⟨M.day, x.Unit, x.N, fk, 0, 2, x.Thing, why, M.nextId⟩ = true := hP'.fine _ (List.mem_append.2 (.inr List.mem_cons_self))
    have hb : ∀ q, bal (M.postings ++ [⟨M.day, x.Unit, x.N, fk, 0, 2, x.Thing, why, M.nextId⟩]) q = if (⟨2, x.Thing, x.Unit⟩ : Tplace) = q then wr (bal M.postings q + x.N) else if (⟨fk, 0, x.Unit⟩ : Tplace) = q then wr (bal M.postings q - x.N) else bal M.postings q := fun q => bal_add M.postings hfine q
    have hfk : fk = 1 ∨ fk = 6 := by rcases hw with ⟨h, _⟩ | ⟨h, _⟩ <;> omega
    have hs : ∀ f, sumF f (M.lots ++ [{ x with Id := M.nextId, State := 1, Bag := 0 }]) = sumF f M.lots + f { x with Id := M.nextId, State := 1, Bag := 0 } := fun f => by rw [sumF_app]; simp [sumF]
    have hwt : ∀ q, wt q { x with Id := M.nextId, State := 1, Bag := 0 } = if (⟨2, x.Thing, x.Unit⟩ : Tplace) = q then x.N else 0 := fun q => by
      rw [← hl.left]
      exact wt_of (plc1 rfl)
    have hwn : ∀ u, wn u { x with Id := M.nextId, State := 1, Bag := 0 } = 0 := fun u => by
      unfold wn
      rw [if_neg (by simp)]
    refine ⟨fun q hq => ?_, fun u => ?_, fun u => ?_⟩
    · show bal (M.postings ++ [_]) q = sumF (wt q) (M.lots ++ [_])
      have h1 : 0 ≤ sumF (wt q) (M.lots ++ [{ x with Id := M.nextId, State := 1, Bag := 0 }]) ∧ sumF (wt q) (M.lots ++ [{ x with Id := M.nextId, State := 1, Bag := 0 }]) ≤ 2000000000000 := sum_range hJ' q
      rw [hs, hwt] at h1 ⊢
      rw [hb q, h.eq q hq]
      split at h1
      · rename_i e
        rw [if_pos e, if_pos e, show wr (sumF (wt q) M.lots + x.N) = sumF (wt q) M.lots + x.N from wrap_id (by omega) (by omega)]
      · rename_i e
        rw [if_neg e, if_neg e, if_neg (fun e2 => by rw [← e2] at hq; simp only at hq; omega)]
        omega
    · show sumF (wt ⟨4, 0, u⟩) (M.lots ++ [_]) ≤ bal (M.postings ++ [_]) ⟨4, 0, u⟩
      rw [hs, hwt, hb, if_neg (by simp), if_neg (by simp), if_neg (by simp only [Tplace.mk.injEq, not_and]; intro h; omega)]
      have := h.lo u
      omega
    · show bal (M.postings ++ [_]) ⟨4, 0, u⟩ ≤ sumF (wn u) (M.lots ++ [_])
      rw [hs, hwn, hb, if_neg (by simp), if_neg (by simp only [Tplace.mk.injEq, not_and]; intro h; omega)]
      have := h.hi u
      omega
  | day h1 h2 => exact ⟨h.eq, h.lo, h.hi⟩
  | unit hn hf => exact ⟨h.eq, h.lo, h.hi⟩
  | value hu g1 g2 => exact ⟨h.eq, h.lo, h.hi⟩
  | term h1 h2 h3 => exact ⟨h.eq, h.lo, h.hi⟩
theorem Moves.t6 {M M' : MState} (hm : Moves M M') (hJ : J M) (hP : PO M) (h : T6 M) : T6 M' := by
  induction hm with
  | refl => exact h
  | tail h1 h2 ih => exact h2.t6 (h1.j hJ) (h1.po hJ hP) ih
theorem t6_M0 : T6 M0 := ⟨fun q _ => rfl, fun u => by simp [M0, sumF, bal, balOn, getM], fun u => by simp [M0, sumF, bal, balOn, getM]⟩
end Go.Proofs.YtcbijkakoepglaaGreat
namespace Go.Proofs.YtcbijkakoepglaaGreat
open Go Go.Wx

/-- no lot is due. -/
def Calm (M : MState) : Prop := ∀ x ∈ M.lots, x.Due = 100001
theorem calm_due {M : MState} (h : Calm M) {d : Int} (hd : d ≤ 100000) : M.due d = [] := by
  unfold MState.due
  have : M.lots.filter (isDue d) = [] := by
    rw [List.filter_eq_nil_iff]
    intro x hx
    have := h x hx
    simp [isDue]
    omega
  rw [this]; rfl
theorem calm_adv {M : MState} (h : Calm M) {d : Int} (hd : d ≤ 100000) : M.advance d = { M with day := d } := by
  unfold MState.advance
  rw [calm_due h hd]; rfl
theorem calm_late {M : MState} (h : Calm M) (hd : M.day ≤ 100000) : M.late = M := by
  unfold MState.late
  rw [calm_due h hd]; rfl
theorem oper_calm {M : MState} (h : Calm M) {d : Int} (d0 : 0 ≤ d) (d1 : d ≤ 100000) (d2 : M.day ≤ d) (g : MState → Int × MState) : M.oper d g = if (g { M with day := d }).1 ≠ 0 then ((g { M with day := d }).1, M) else if 20000 < (g { M with day := d }).2.postings.length then (2, M) else (0, (g { M with day := d }).2) := by
  unfold MState.oper
  rw [if_neg (by omega), if_neg (by omega), calm_adv h d1]
theorem operO_calm {α : Type} {z : α} {M : MState} (h : Calm M) {d : Int} (d0 : 0 ≤ d) (d1 : d ≤ 100000) (d2 : M.day ≤ d) (g : MState → Int × MState × α) : M.operO z d g = if (g { M with day := d }).1 ≠ 0 then ((g { M with day := d }).1, M, z) else if 20000 < (g { M with day := d }).2.1.postings.length then (2, M, z) else (0, (g { M with day := d }).2.1, (g { M with day := d }).2.2) := by
  unfold MState.operO
  rw [if_neg (by omega), if_neg (by omega), calm_adv h d1]

/-! ### units and terms -/
def uName (i : Nat) : ByteArray := (ByteArray.mk #[117]) ++ (Utf8.encode (IntKind.wrap .i32 (IntKind.wrap .i64 ((97 : Int) + (i : Int)))))
def uList (i : Nat) : List MUnit := (List.range i).map fun k => ⟨uName k, 1, []⟩
def uaName : ByteArray := ByteArray.mk #[117, 97]
def tList (d : Int) (i : Nat) : List Tterm := (List.range i).map fun (k : Nat) => ⟨d, (k : Int) + 1, (k : Int) + 1, uaName⟩
theorem u_named : ∀ i, i < 16 → named (uName i) = true := by decide +kernel
theorem u_new : ∀ i, i < 16 → idxI (fun u => strEq u.name (uName i)) (uList i) = -1 := by decide +kernel
theorem u_v : idxI (fun u => strEq u.name (ByteArray.mk #[118])) (uList 16) = -1 ∧ named (ByteArray.mk #[118]) = true := by decide +kernel
theorem u_ua : idxI (fun u => strEq u.name uaName) (uList 16) = 0 ∧ named uaName = true := by decide +kernel
theorem setUnit_step {d day : Int} (h0 : 0 ≤ day) (h1 : day ≤ 100000) (hd : d ≤ day) {i : Nat} (hi : i < 16) : (⟨d, uList i, [], [], []⟩ : MState).setUnit day (uName i) 1 = (0, ⟨day, uList (i + 1), [], [], []⟩) := by
  unfold MState.setUnit
  rw [oper_calm (fun x h => by simp at h) h0 h1 hd]
  have e : gUnit (uName i) 1 (⟨day, uList i, [], [], []⟩ : MState) = (0, ⟨day, uList (i + 1), [], [], []⟩) := by
    unfold gUnit
    rw [if_neg (by rw [u_named i hi]; simp), if_neg (by omega), if_neg (by unfold MState.find; rw [u_new i hi]; decide), if_neg (by simp [uList]; omega)]
    simp only [uList, List.range_succ, List.map_append, List.map_cons, List.map_nil]
  show (if (gUnit (uName i) 1 (⟨day, uList i, [], [], []⟩ : MState)).1 ≠ 0 then _ else _) = _
  rw [e]
  rfl
theorem setUnit_full {day : Int} (h0 : 0 ≤ day) (h1 : day ≤ 100000) : ((⟨day, uList 16, [], [], []⟩ : MState).setUnit day (ByteArray.mk #[118]) 1) = (2, ⟨day, uList 16, [], [], []⟩) := by
  unfold MState.setUnit
  rw [oper_calm (fun x h => by simp at h) h0 h1 (Int.le_refl _)]
  have e : gUnit (ByteArray.mk #[118]) 1 (⟨day, uList 16, [], [], []⟩ : MState) = (2, ⟨day, uList 16, [], [], []⟩) := by
    unfold gUnit
    rw [if_neg (by rw [u_v.2]; simp), if_neg (by omega), if_neg (by unfold MState.find; rw [u_v.1]; decide), if_pos (by simp [uList])]
  show (if (gUnit (ByteArray.mk #[118]) 1 (⟨day, uList 16, [], [], []⟩ : MState)).1 ≠ 0 then _ else _) = _
  rw [e]
  rfl
theorem setUnit_twice {day : Int} (h0 : 0 ≤ day) (h1 : day ≤ 100000) : ((⟨day, uList 16, [], [], []⟩ : MState).setUnit day uaName 1) = (6, ⟨day, uList 16, [], [], []⟩) := by
  unfold MState.setUnit
  rw [oper_calm (fun x h => by simp at h) h0 h1 (Int.le_refl _)]
  have e : gUnit uaName 1 (⟨day, uList 16, [], [], []⟩ : MState) = (6, ⟨day, uList 16, [], [], []⟩) := by
    unfold gUnit
    rw [if_neg (by rw [u_ua.2]; simp), if_neg (by omega), if_pos (by unfold MState.find; rw [u_ua.1]; decide)]
  show (if (gUnit uaName 1 (⟨day, uList 16, [], [], []⟩ : MState)).1 ≠ 0 then _ else _) = _
  rw [e]
  rfl
theorem setTerm_step {day : Int} (h0 : 0 ≤ day) (h1 : day ≤ 100000) {i : Nat} (hi : i < 64) : ((⟨day, uList 16, tList day i, [], []⟩ : MState).setTerm day uaName ((i : Int) + 1) ((i : Int) + 1)) = (0, ⟨day, uList 16, tList day (i + 1), [], []⟩) := by
  unfold MState.setTerm
  rw [oper_calm (fun x h => by simp at h) h0 h1 (Int.le_refl _)]
  have e : gTerm day uaName ((i : Int) + 1) ((i : Int) + 1) (⟨day, uList 16, tList day i, [], []⟩ : MState) = (0, ⟨day, uList 16, tList day (i + 1), [], []⟩) := by
    unfold gTerm
    rw [if_neg (by unfold MState.find; rw [u_ua.1]; decide), if_neg (by omega), if_neg (by simp [tList]; omega)]
    simp only [tList, List.range_succ, List.map_append, List.map_cons, List.map_nil]
  show (if (gTerm day uaName ((i : Int) + 1) ((i : Int) + 1) (⟨day, uList 16, tList day i, [], []⟩ : MState)).1 ≠ 0 then _ else _) = _
  rw [e]
  rfl
theorem setTerm_full {day : Int} (h0 : 0 ≤ day) (h1 : day ≤ 100000) : ((⟨day, uList 16, tList day 64, [], []⟩ : MState).setTerm day uaName 1 1) = (2, ⟨day, uList 16, tList day 64, [], []⟩) := by
  unfold MState.setTerm
  rw [oper_calm (fun x h => by simp at h) h0 h1 (Int.le_refl _)]
  have e : gTerm day uaName 1 1 (⟨day, uList 16, tList day 64, [], []⟩ : MState) = (2, ⟨day, uList 16, tList day 64, [], []⟩) := by
    unfold gTerm
    rw [if_neg (by unfold MState.find; rw [u_ua.1]; decide), if_neg (by omega), if_pos (by simp [tList])]
  show (if (gTerm day uaName 1 1 (⟨day, uList 16, tList day 64, [], []⟩ : MState)).1 ≠ 0 then _ else _) = _
  rw [e]
  rfl

/-! ### lots -/
def lotX : TLot := ⟨0, 1, 1, 0, 100001, uaName, 0, 1, 0, 0⟩
structure RS (M : MState) (dd : Int) (n : Nat) : Prop where
  day : M.day = dd
  units : M.units = uList 16
  terms : M.terms = tList dd 64
  lots : M.lots.length = n
  due : Calm M
  ids : IdOk M
  len : M.postings.length = n
  posts : ∀ p ∈ M.postings, p.Day = dd ∧ pFrom p = ⟨1, 0, uaName⟩ ∧ pTo p = ⟨2, 1, uaName⟩ ∧ p.N = 1
theorem rs_enter {M : MState} {day : Int} {n : Nat} (h : RS M day n) : RS (M.enter ⟨0, 1, 1, day, 100001, uaName, 1, 1, 0, 0⟩ 1 0 10) day (n + 1) := by
  refine ⟨h.day, h.units, h.terms, by simp [MState.enter, h.lots], fun x hx => ?_, enter_ids h.ids _ _ _ _, by simp [MState.enter, h.len], fun p hp => ?_⟩
  · rcases List.mem_append.1 (show x ∈ M.lots ++ [_] from hx) with hx | hx
    · exact h.due x hx
    · simp at hx; subst hx; rfl
  · rcases List.mem_append.1 (show p ∈ M.postings ++ [_] from hp) with hp | hp
    · exact h.posts p hp
    · simp at hp; subst hp; exact ⟨h.day, rfl, rfl, rfl⟩
theorem recv_rep {day : Int} : ∀ (m : Nat) {M : MState} {n : Nat}, RS M day n → RS (recvOn day M (List.replicate m lotX)).1 day (n + m) ∧ (recvOn day M (List.replicate m lotX)).2.length = m ∧ ∀ k, k < m → (recvOn day M (List.replicate m lotX)).2[k]? = some ((n : Int) + 1 + k)
  | 0, M, n, h => ⟨h, rfl, fun k hk => by omega⟩
  | m + 1, M, n, h => by
    obtain ⟨h1, h2, h3⟩ := recv_rep m (rs_enter h)
    rw [List.replicate_succ]
    refine ⟨by rw [show n + (m + 1) = n + 1 + m by omega]; exact h1, by simp only [recvOn, List.length_cons]; rw [show (recvOn day (M.enter ⟨0, lotX.Thing, lotX.Layer, day, lotX.Due, lotX.Unit, lotX.Left, lotX.Left, 0, 0⟩ 1 0 10) (List.replicate m lotX)).2.length = m from h2], fun k hk => ?_⟩
    cases k with
    | zero =>
      show some M.nextId = _
      unfold MState.nextId
      rw [h.lots]; simp
    | succ k =>
      have := h3 k (by omega)
      show (recvOn day (M.enter ⟨0, lotX.Thing, lotX.Layer, day, lotX.Due, lotX.Unit, lotX.Left, lotX.Left, 0, 0⟩ 1 0 10) (List.replicate m lotX)).2[k]? = _
      rw [show (recvOn day (M.enter ⟨0, lotX.Thing, lotX.Layer, day, lotX.Due, lotX.Unit, lotX.Left, lotX.Left, 0, 0⟩ 1 0 10) (List.replicate m lotX)).2[k]? = _ from this]
      congr 1
      omega
theorem recv_look {M : MState} {day : Int} {n : Nat} (h : RS M day n) : ∀ m, recvLook M (List.replicate m lotX) = 0
  | 0 => rfl
  | m + 1 => by
    rw [List.replicate_succ]
    unfold recvLook
    rw [if_neg (by decide), if_neg (by unfold MState.find; rw [h.units]; show ¬ idxI (fun u => strEq u.name uaName) (uList 16) < 0; rw [u_ua.1]; decide)]
    exact recv_look h m
theorem recv_ok2 {M : MState} {day : Int} {n : Nat} (h : RS M day n) (h0 : 0 ≤ day) (h1 : day ≤ 100000) {m : Nat} (hm : n + m ≤ 2000) : (M.receive day (List.replicate m lotX)) = (0, (recvOn day M (List.replicate m lotX)).1, (recvOn day M (List.replicate m lotX)).2) := by
  unfold MState.receive
  rw [operO_calm h.due h0 h1 (by rw [h.day]; omega)]
  have e0 : ({ M with day := day } : MState) = M := by rw [← h.day]
  obtain ⟨r1, r2, r3⟩ := recv_rep m h
  have e : gReceive day (List.replicate m lotX) M = (0, (recvOn day M (List.replicate m lotX)).1, (recvOn day M (List.replicate m lotX)).2) := by
    unfold gReceive
    rw [if_neg (by rw [recv_look h]; simp), if_neg (by rw [h.lots, List.length_replicate]; omega), calm_late r1.due (by rw [r1.day]; exact h1)]
  rw [e0, e]
  simp only [ne_eq, not_true_eq_false, if_false]
  rw [if_neg (by rw [r1.len]; omega)]
theorem recv_full {M : MState} {day : Int} (h : RS M day 2000) (h0 : 0 ≤ day) (h1 : day ≤ 100000) : (M.receive day (List.replicate 1 lotX)) = (2, M, []) := by
  unfold MState.receive
  rw [operO_calm h.due h0 h1 (by rw [h.day]; omega)]
  have e0 : ({ M with day := day } : MState) = M := by rw [← h.day]
  have e : gReceive day (List.replicate 1 lotX) M = (2, M, []) := by
    unfold gReceive
    rw [if_neg (by rw [recv_look h]; simp), if_pos (by rw [h.lots]; simp)]
  rw [e0, e]
  simp
theorem rs_bal {day : Int} : ∀ (ps : List TPosting) (m : List (Tplace × Int)) (v : Int), getM m ⟨2, 1, uaName⟩ = v → 0 ≤ v → v + ps.length ≤ 100000 → (∀ p ∈ ps, p.Day = day ∧ pFrom p = ⟨1, 0, uaName⟩ ∧ pTo p = ⟨2, 1, uaName⟩ ∧ p.N = 1) → getM (balOn day m ps) ⟨2, 1, uaName⟩ = v + ps.length
  | [], m, v, h, _, _, _ => by simp [balOn, h]
  | p :: ps, m, v, h, h0, hl, hp => by
    obtain ⟨p1, p2, p3, p4⟩ := hp p List.mem_cons_self
    simp only [List.length_cons] at hl ⊢
    unfold balOn
    rw [if_pos (by omega)]
    have hl' : v + 1 + (ps.length : Int) ≤ 100000 := by omega
    rw [rs_bal ps _ (v + 1) ?_ (by omega) hl' fun q hq => hp q (List.mem_cons_of_mem _ hq)]
    · omega
    · unfold addM subM
      rw [p2, p3, p4, getM_putM, getM_putM_ne (by decide), h]
      exact wrap_id (by omega) (by omega)
theorem rs_balance {M : MState} {day : Int} (h : RS M day 2000) : M.balance ⟨2, 1⟩ uaName day = 2000 := by
  unfold MState.balance
  have := rs_bal (day := day) M.postings [] 0 rfl (by omega) (by rw [h.len]; decide) h.posts
  rw [h.len] at this
  exact this
end Go.Proofs.YtcbijkakoepglaaGreat
namespace Go.Wx
open Go
theorem ex_stradd {P : Program} {e : Env} {o : Oper} {t t' : TypeId} {x y : Operand} {a b : ByteArray} (ho : o.op = .binOp .add t x y t') (hx : evl e x = .string a) (hy : evl e y = .string b) (hs : a.size + b.size ≤ 9223372036854775807) :
    ∀ w, (execOp (evl e) o).run P w = .ok (.value (.string (a ++ b))) w := by
  intro w
  have hc : ¬ (((a.size + b.size : Nat) : Int) > IntKind.i64.max) := by
    rw [show IntKind.i64.max = 9223372036854775807 from rfl]; omega
  unfold execOp
  simp only [ho, hx, hy, run_bind, binOp, eqGuard, Op.stringOp, if_neg hc, run_pure]
  rfl
end Go.Wx
namespace Go.Proofs.YtcbijkakoepglaaGreat
open Go Go.Wx
set_option maxRecDepth 100000
def law06_DrawersLimits.l3 (Q : Bool → World → Prop) (day : Int) (r1 : Option Addr) : Nat → Option Addr → Nat → Nat → Int → World → Prop
       | 0, _, _, _, _, _ => False
       | nl3 + 1, v4_a, v4_n, v4_c, v5, w9 => (
       Ifb (decide (v5 < (1000 : Int)))
      (Al w9 (.cells #[vi 0, vi 1, vi 1, vi 0, vi 100001, vs (ByteArray.mk #[117, 97]), vi 0, vi 1, vu 0, vi 0] 45) fun b1 w10 =>
      Ap Pg w10 #[46, 46] 46 (vl v4_a v4_n v4_c) (vl (some ⟨b1, 0, none⟩) 1 1) fun a1_a a1_n a1_c w11 =>
      (law06_DrawersLimits.l3 Q day r1 nl3) a1_a a1_n a1_c (IntKind.wrap .i64 (v5 + (1 : Int))) w11)
      (Cl Pg 33 #[vP r1, vi day, vl v4_a v4_n v4_c] w9 (fun v w12 => ∃ (r6_a : Option Addr), ∃ (r6_n : Nat), ∃ (r6_c : Nat), ∃ (r7 : Int), v = .tuple #[vl r6_a r6_n r6_c, vi r7] ∧ Cl Pg 33 #[vP r1, vi day, vl v4_a v4_n v4_c] w12 (fun v w13 => ∃ (r8_a : Option Addr), ∃ (r8_n : Nat), ∃ (r8_c : Nat), ∃ (r9 : Int), v = .tuple #[vl r8_a r8_n r8_c, vi r9] ∧ SlSl 10 v4_a v4_n v4_c none (some (1 : Int)) fun x1_a x1_n x1_c =>
      Cl Pg 33 #[vP r1, vi day, vl x1_a x1_n x1_c] w13 (fun v w14 => ∃ (r10_a : Option Addr), ∃ (r10_n : Nat), ∃ (r10_c : Nat), ∃ (r11 : Int), v = .tuple #[vl r10_a r10_n r10_c, vi r11] ∧ Cl Pg 18 #[] w14 (fun v w15 => ∃ (r12 : Bool), v = vb r12 ∧ Ifb r12
      (Ifb (r7 == (0 : Int))
      (Ifb (r9 == (0 : Int))
      (Ifb (r11 == (2 : Int))
      (Ifb (((r6_n : Nat) : Int) == (1000 : Int))
      (Ifb (((r8_n : Nat) : Int) == (1000 : Int))
      (Ix r8_a r8_n (999 : Int) fun p1 =>
      LdI .i64 w15 (Addr.add p1 ((999 : Int).toNat * 1)) fun x2 =>
      Ifb (x2 == (2000 : Int))
      (Ifb (((r10_n : Nat) : Int) == (0 : Int))
      (Cl Pg 48 #[vP r1, vg [vu 2, vi 1], vs (ByteArray.mk #[117, 97]), vi day] w15 (fun v w16 => ∃ (r13 : Int), v = vi r13 ∧ Q (r13 == (2000 : Int)) w16))
      (Q false w15))
      (Q false w15))
      (Q false w15))
      (Q false w15))
      (Q false w15))
      (Q false w15))
      (Q false w15))
      (Q false w15)))))))
def law06_DrawersLimits.l2 (Q : Bool → World → Prop) (day : Int) (r1 : Option Addr) : Nat → Int → World → Prop
       | 0, _, _ => False
       | nl2 + 1, v3, w6 => (
       Ifb (decide (v3 < (64 : Int)))
      (Cl Pg 51 #[vP r1, vi day, vs (ByteArray.mk #[117, 97]), vi (IntKind.wrap .i64 (v3 + (1 : Int))), vi (IntKind.wrap .i64 (v3 + (1 : Int)))] w6 (fun v w7 => ∃ (r4 : Int), v = vi r4 ∧ Ifb (r4 != (0 : Int))
      (Q false w7)
      ((law06_DrawersLimits.l2 Q day r1 nl2) (IntKind.wrap .i64 (v3 + (1 : Int))) w7)))
      (Cl Pg 51 #[vP r1, vi day, vs (ByteArray.mk #[117, 97]), vi 1, vi 1] w6 (fun v w8 => ∃ (r5 : Int), v = vi r5 ∧ Ifb (r5 != (2 : Int))
      (Q false w8)
      (∃ k, law06_DrawersLimits.l3 Q day r1 k none 0 0 0 w8))))
def law06_DrawersLimits.j1 (Q : Bool → World → Prop) (day : Int) (r1 : Option Addr) (v2 : Bool) (w5 : World) : Prop := (
       Ifb v2
      (Q false w5)
      (∃ k, law06_DrawersLimits.l2 Q day r1 k 0 w5))
def law06_DrawersLimits.l1 (Q : Bool → World → Prop) (day : Int) (r1 : Option Addr) : Nat → Int → World → Prop
       | 0, _, _ => False
       | nl1 + 1, v1, w3 => (
       Ifb (decide (v1 < (16 : Int)))
      ((ByteArray.mk #[117]).size + (Utf8.encode (IntKind.wrap .i32 (IntKind.wrap .i64 ((97 : Int) + v1)))).size ≤ 9223372036854775807 ∧ Cl Pg 50 #[vP r1, vi day, vs ((ByteArray.mk #[117]) ++ (Utf8.encode (IntKind.wrap .i32 (IntKind.wrap .i64 ((97 : Int) + v1))))), vu 1] w3 (fun v w4 => ∃ (r3 : Int), v = vi r3 ∧ Ifb (r3 != (0 : Int))
      (Q false w4)
      ((law06_DrawersLimits.l1 Q day r1 nl1) (IntKind.wrap .i64 (v1 + (1 : Int))) w4)))
      (Cl Pg 50 #[vP r1, vi day, vs (ByteArray.mk #[118]), vu 1] w3 (fun v w17 => ∃ (r14 : Int), v = vi r14 ∧ Ifb (r14 != (2 : Int))
      (law06_DrawersLimits.j1 Q day r1 true w17)
      (Cl Pg 50 #[vP r1, vi day, vs (ByteArray.mk #[117, 97]), vu 1] w17 (fun v w18 => ∃ (r15 : Int), v = vi r15 ∧ law06_DrawersLimits.j1 Q day r1 (r15 != (6 : Int)) w18)))))
def law06_DrawersLimits.R (Q : Bool → World → Prop) (day : Int) (w : World) : Prop := (
  Cl Pg 39 #[] w (fun v w1 => ∃ (r1 : Option Addr), v = vP r1 ∧ Ifb ((r1.isNone || (decide (day < (0 : Int)))) || (decide (day > (100000 : Int))))
      (Cl Pg 18 #[] w1 (fun v w2 => ∃ (r2 : Bool), v = vb r2 ∧ Ifb r2
      (Q (!r1.isNone) w2)
      (Q false w2)))
      (∃ k, law06_DrawersLimits.l1 Q day r1 k 0 w1)))
theorem law06_DrawersLimits.ok {Q : Bool → World → Prop} {day : Int} {w : World} (h : law06_DrawersLimits.R Q day w) : Cl Pg 12 #[vi day] w (fun v w' => ∃ (r0 : Bool), v = vb r0 ∧ Q r0 w') := by
 refine calls_args (args := [vi day]) Tryz.func12 ?_
 unfold law06_DrawersLimits.R at h
 refine W_regseq ?_
 refine ps 1 [(2, vb false)] ?_
 refine WO_nil ?_
 refine W_regseq ?_
 refine cl h ?_
 rintro _ w1 ⟨r1, rfl, h⟩
 refine ps 1 [(3, vP r1)] ?_
 refine WO_nil ?_
 refine W_seq ?_
 refine W_regseq ?_
 refine ps 1 [(14, vP r1)] ?_
 refine WO_p rfl rfl (v := vb r1.isNone) (ex_eqlnil_ptr_l (by kernel_rfl) rfl rfl rfl) ?_
 refine ps 1 [(16, vb r1.isNone)] ?_
 refine WO_conv (fun e w_ => ∃ (e0 : Env), e = upds e0 [(0, vi day), (3, vP r1), (23, vb ((r1.isNone || (decide (day < (0 : Int)))) || (decide (day > (100000 : Int)))))] ∧ w1 = w_) ?_ ?_
 ·clear h
  refine WO_case 16 (b := r1.isNone) rfl (fun hb0 => ?_) (fun hb0 => ?_)
  ·refine ps 7 [(17, undef), (18, undef), (19, vb true), (20, vb true), (21, undef), (22, undef), (23, vb true)] ?_
   exact WO_nil ⟨_, Agree.eq ⟨rfl, rfl, (by first | rfl | (simp only [hb0, Bool.true_and, Bool.false_and, Bool.true_or, Bool.false_or, Bool.and_true, Bool.and_false, Bool.or_true, Bool.or_false]; done) | (simp only [hb0]; rfl) | (simp [hb0]; done)), trivial⟩, rfl⟩
  ·refine ps 4 [(17, vi day), (18, vb (decide (day < (0 : Int)))), (19, vb (decide (day < (0 : Int)))), (20, vb (decide (day < (0 : Int))))] ?_
   refine WO_case 20 (b := decide (day < (0 : Int))) rfl (fun hb1 => ?_) (fun hb1 => ?_)
   ·refine ps 3 [(21, undef), (22, undef), (23, vb true)] ?_
    exact WO_nil ⟨_, Agree.eq ⟨rfl, rfl, (by first | rfl | (simp only [hb0, hb1, Bool.true_and, Bool.false_and, Bool.true_or, Bool.false_or, Bool.and_true, Bool.and_false, Bool.or_true, Bool.or_false]; done) | (simp only [hb0, hb1]; rfl) | (simp [hb0, hb1]; done)), trivial⟩, rfl⟩
   ·refine ps 3 [(21, vi day), (22, vb (decide (day > (100000 : Int)))), (23, vb (decide (day > (100000 : Int))))] ?_
    exact WO_nil ⟨_, Agree.eq ⟨rfl, rfl, (by first | rfl | (simp only [hb0, hb1, Bool.true_and, Bool.false_and, Bool.true_or, Bool.false_or, Bool.and_true, Bool.and_false, Bool.or_true, Bool.or_false]; done) | (simp only [hb0, hb1]; rfl) | (simp [hb0, hb1]; done)), trivial⟩, rfl⟩
 ·rintro _ _ ⟨e0, rfl, rfl⟩
  refine ci h (fun h => ?_) fun h => ?_
  ·refine W_regseq ?_
   refine cl h ?_
   rintro _ w2 ⟨r2, rfl, h⟩
   refine ps 1 [(25, vb r2)] ?_
   refine cs 25 h (fun h => ?_) fun h => ?_
   ·refine ps 1 [(26, vP r1)] ?_
    refine WO_p rfl rfl (v := vb (!r1.isNone)) (ex_neqnil_ptr_l (by kernel_rfl) rfl rfl rfl) ?_
    refine ps 2 [(28, vb (!r1.isNone)), (2, vb (!r1.isNone))] ?_
    refine WO_nil ?_
    refine W_ret ?_
    refine seqK_ret ?_
    exact ret1 (v := vb (!r1.isNone)) (t := 2) rfl rfl ⟨_, rfl, h⟩
   ·refine ps 4 [(26, undef), (27, undef), (28, vb false), (2, vb false)] ?_
    refine WO_nil ?_
    refine W_ret ?_
    refine seqK_ret ?_
    exact ret1 (v := vb false) (t := 2) rfl rfl ⟨_, rfl, h⟩
  ·refine W_skip ?_
   refine W_seq ?_
   refine W_regseq ?_
   refine ps 1 [(29, vi 0)] ?_
   refine WO_nil ?_
   refine W_block ?_
   obtain ⟨nl1, h⟩ := h
   refine W_loopI (fun k e w3 => ∃ (e0 : Env) (v1 : Int), e = upds e0 [(0, vi day), (3, vP r1), (29, vi v1)] ∧ law06_DrawersLimits.l1 Q day r1 k v1 w3) nl1 ?_ ?_ ?_
   ·rintro _ _ ⟨_, _, _, h⟩
    exact h
   ·exact ⟨_, 0, Agree.eq ⟨rfl, rfl, rfl, trivial⟩, h⟩
   ·clear h nl1
    rintro nl1 _ w3 ⟨e0, v1, rfl, h⟩
    unfold law06_DrawersLimits.l1 at h
    refine W_regseq ?_
    refine ps 1 [(30, vb (decide (v1 < (16 : Int))))] ?_
    refine WO_nil ?_
    refine W_seq ?_
    refine ci h (fun h => ?_) fun h => ?_
    ·refine W_skip ?_
     refine W_seq ?_
     refine W_block ?_
     refine W_regseq ?_
     refine ps 2 [(31, vi v1), (4, vi v1)] ?_
     refine WO_nil ?_
     refine W_regseq ?_
     refine ps 6 [(32, vP r1), (33, vi day), (34, vi v1), (35, vi (IntKind.wrap .i64 ((97 : Int) + v1))), (36, .int .i32 (IntKind.wrap .i32 (IntKind.wrap .i64 ((97 : Int) + v1)))), (37, vs (Utf8.encode (IntKind.wrap .i32 (IntKind.wrap .i64 ((97 : Int) + v1)))))] ?_
     obtain ⟨hz, h⟩ := h
     refine WO_pw rfl rfl (v := vs ((ByteArray.mk #[117]) ++ (Utf8.encode (IntKind.wrap .i32 (IntKind.wrap .i64 ((97 : Int) + v1)))))) (ex_stradd rfl rfl rfl hz) ?_
     clear hz
     refine cl h ?_
     rintro _ w4 ⟨r3, rfl, h⟩
     refine ps 1 [(40, vb (r3 != (0 : Int)))] ?_
     refine WO_nil ?_
     refine ci h (fun h => ?_) fun h => ?_
     ·refine W_regseq ?_
      refine ps 1 [(2, vb false)] ?_
      refine WO_nil ?_
      refine W_ret ?_
      refine blockK_ret ?_
      refine seqK_ret ?_
      refine seqK_ret ?_
      refine blockK_ret ?_
      refine seqK_ret ?_
      exact ret1 (v := vb false) (t := 2) rfl rfl ⟨_, rfl, h⟩
     ·refine W_skip ?_
      refine blockK_normal ?_
      refine W_reg ?_
      refine ps 2 [(41, vi (IntKind.wrap .i64 (v1 + (1 : Int)))), (29, vi (IntKind.wrap .i64 (v1 + (1 : Int))))] ?_
      refine WO_nil ?_
      exact ⟨_, IntKind.wrap .i64 (v1 + (1 : Int)), Agree.eq ⟨rfl, rfl, rfl, trivial⟩, h⟩
    ·refine W_exit ?_
     refine blockK_hit ?_
     refine W_seq ?_
     refine W_join (fun e w5 => ∃ (e0 : Env) (v2 : Bool), e = upds e0 [(0, vi day), (3, vP r1), (51, vb v2)] ∧ law06_DrawersLimits.j1 Q day r1 v2 w5) ?_ ?_
     ·refine W_reg ?_
      refine ps 2 [(42, vP r1), (43, vi day)] ?_
      refine cl h ?_
      rintro _ w17 ⟨r14, rfl, h⟩
      refine ps 2 [(45, vb (r14 != (2 : Int))), (46, vb (r14 != (2 : Int)))] ?_
      refine cs 46 h (fun h => ?_) fun h => ?_
      ·refine ps 5 [(47, undef), (48, undef), (49, undef), (50, undef), (51, vb true)] ?_
       refine WO_nil ?_
       exact ⟨_, true, Agree.eq ⟨rfl, rfl, rfl, trivial⟩, h⟩
      ·refine ps 2 [(47, vP r1), (48, vi day)] ?_
       refine cl h ?_
       rintro _ w18 ⟨r15, rfl, h⟩
       refine ps 2 [(50, vb (r15 != (6 : Int))), (51, vb (r15 != (6 : Int)))] ?_
       refine WO_nil ?_
       exact ⟨_, (r15 != (6 : Int)), Agree.eq ⟨rfl, rfl, rfl, trivial⟩, h⟩
     ·clear h
      rintro _ w5 ⟨e0, v2, rfl, h⟩
      unfold law06_DrawersLimits.j1 at h
      refine ci h (fun h => ?_) fun h => ?_
      ·refine W_regseq ?_
       refine ps 1 [(2, vb false)] ?_
       refine WO_nil ?_
       refine W_ret ?_
       refine seqK_ret ?_
       exact ret1 (v := vb false) (t := 2) rfl rfl ⟨_, rfl, h⟩
      ·refine W_skip ?_
       refine W_seq ?_
       refine W_regseq ?_
       refine ps 1 [(52, vi 0)] ?_
       refine WO_nil ?_
       refine W_block ?_
       obtain ⟨nl2, h⟩ := h
       refine W_loopI (fun k e w6 => ∃ (e0 : Env) (v3 : Int), e = upds e0 [(0, vi day), (3, vP r1), (52, vi v3)] ∧ law06_DrawersLimits.l2 Q day r1 k v3 w6) nl2 ?_ ?_ ?_
       ·rintro _ _ ⟨_, _, _, h⟩
        exact h
       ·exact ⟨_, 0, Agree.eq ⟨rfl, rfl, rfl, trivial⟩, h⟩
       ·clear h nl2
        rintro nl2 _ w6 ⟨e0, v3, rfl, h⟩
        unfold law06_DrawersLimits.l2 at h
        refine W_regseq ?_
        refine ps 1 [(53, vb (decide (v3 < (64 : Int))))] ?_
        refine WO_nil ?_
        refine W_seq ?_
        refine ci h (fun h => ?_) fun h => ?_
        ·refine W_skip ?_
         refine W_seq ?_
         refine W_block ?_
         refine W_regseq ?_
         refine ps 2 [(54, vi v3), (5, vi v3)] ?_
         refine WO_nil ?_
         refine W_regseq ?_
         refine ps 6 [(55, vP r1), (56, vi day), (57, vi v3), (58, vi (IntKind.wrap .i64 (v3 + (1 : Int)))), (59, vi v3), (60, vi (IntKind.wrap .i64 (v3 + (1 : Int))))] ?_
         refine cl h ?_
         rintro _ w7 ⟨r4, rfl, h⟩
         refine ps 1 [(62, vb (r4 != (0 : Int)))] ?_
         refine WO_nil ?_
         refine ci h (fun h => ?_) fun h => ?_
         ·refine W_regseq ?_
          refine ps 1 [(2, vb false)] ?_
          refine WO_nil ?_
          refine W_ret ?_
          refine blockK_ret ?_
          refine seqK_ret ?_
          refine seqK_ret ?_
          refine blockK_ret ?_
          refine seqK_ret ?_
          exact ret1 (v := vb false) (t := 2) rfl rfl ⟨_, rfl, h⟩
         ·refine W_skip ?_
          refine blockK_normal ?_
          refine W_reg ?_
          refine ps 2 [(63, vi (IntKind.wrap .i64 (v3 + (1 : Int)))), (52, vi (IntKind.wrap .i64 (v3 + (1 : Int))))] ?_
          refine WO_nil ?_
          exact ⟨_, IntKind.wrap .i64 (v3 + (1 : Int)), Agree.eq ⟨rfl, rfl, rfl, trivial⟩, h⟩
        ·refine W_exit ?_
         refine blockK_hit ?_
         refine W_seq ?_
         refine W_regseq ?_
         refine ps 2 [(64, vP r1), (65, vi day)] ?_
         refine cl h ?_
         rintro _ w8 ⟨r5, rfl, h⟩
         refine ps 1 [(67, vb (r5 != (2 : Int)))] ?_
         refine WO_nil ?_
         refine ci h (fun h => ?_) fun h => ?_
         ·refine W_regseq ?_
          refine ps 1 [(2, vb false)] ?_
          refine WO_nil ?_
          refine W_ret ?_
          refine seqK_ret ?_
          exact ret1 (v := vb false) (t := 2) rfl rfl ⟨_, rfl, h⟩
         ·refine W_skip ?_
          refine W_regseq ?_
          refine ps 1 [(6, vl none 0 0)] ?_
          refine WO_nil ?_
          refine W_seq ?_
          refine W_regseq ?_
          refine ps 1 [(68, vi 0)] ?_
          refine WO_nil ?_
          refine W_block ?_
          obtain ⟨nl3, h⟩ := h
          refine W_loopI (fun k e w9 => ∃ (e0 : Env) (v4_a : Option Addr) (v4_n : Nat) (v4_c : Nat) (v5 : Int), e = upds e0 [(0, vi day), (3, vP r1), (6, vl v4_a v4_n v4_c), (68, vi v5)] ∧ law06_DrawersLimits.l3 Q day r1 k v4_a v4_n v4_c v5 w9) nl3 ?_ ?_ ?_
          ·rintro _ _ ⟨_, _, _, _, _, _, h⟩
           exact h
          ·exact ⟨_, none, 0, 0, 0, Agree.eq ⟨rfl, rfl, rfl, rfl, trivial⟩, h⟩
          ·clear h nl3
           rintro nl3 _ w9 ⟨e0, v4_a, v4_n, v4_c, v5, rfl, h⟩
           unfold law06_DrawersLimits.l3 at h
           refine W_regseq ?_
           refine ps 1 [(69, vb (decide (v5 < (1000 : Int))))] ?_
           refine WO_nil ?_
           refine W_seq ?_
           refine ci h (fun h => ?_) fun h => ?_
           ·refine W_skip ?_
            refine W_seq ?_
            refine W_block ?_
            refine W_reg ?_
            refine ps 2 [(70, vl v4_a v4_n v4_c), (71, vg [vi 0, vi 1, vi 1, vi 0, vi 100001, vs (ByteArray.mk #[117, 97]), vi 0, vi 1, vu 0, vi 0])] ?_
            refine als 1 h ?_
            intro b1 w10 eb ew hb_b1 h
            clear eb ew hb_b1
            refine ap h ?_
            rintro a1_a a1_n a1_c w11 h
            refine ps 1 [(6, vl a1_a a1_n a1_c)] ?_
            refine WO_nil ?_
            refine blockK_normal ?_
            refine W_reg ?_
            refine ps 2 [(74, vi (IntKind.wrap .i64 (v5 + (1 : Int)))), (68, vi (IntKind.wrap .i64 (v5 + (1 : Int))))] ?_
            refine WO_nil ?_
            exact ⟨_, a1_a, a1_n, a1_c, IntKind.wrap .i64 (v5 + (1 : Int)), Agree.eq ⟨rfl, rfl, rfl, rfl, trivial⟩, h⟩
           ·refine W_exit ?_
            refine blockK_hit ?_
            refine W_regseq ?_
            refine ps 3 [(76, vP r1), (77, vi day), (78, vl v4_a v4_n v4_c)] ?_
            refine cl h ?_
            rintro _ w12 ⟨r6_a, r6_n, r6_c, r7, rfl, h⟩
            refine ps 5 [(75, .tuple #[vl r6_a r6_n r6_c, vi r7]), (80, vl r6_a r6_n r6_c), (81, vi r7), (7, vl r6_a r6_n r6_c), (8, vi r7)] ?_
            refine WO_nil ?_
            refine W_regseq ?_
            refine ps 3 [(83, vP r1), (84, vi day), (85, vl v4_a v4_n v4_c)] ?_
            refine cl h ?_
            rintro _ w13 ⟨r8_a, r8_n, r8_c, r9, rfl, h⟩
            refine ps 5 [(82, .tuple #[vl r8_a r8_n r8_c, vi r9]), (87, vl r8_a r8_n r8_c), (88, vi r9), (9, vl r8_a r8_n r8_c), (10, vi r9)] ?_
            refine WO_nil ?_
            refine W_regseq ?_
            refine ps 3 [(90, vP r1), (91, vi day), (92, vl v4_a v4_n v4_c)] ?_
            obtain ⟨x1_a, x1_n, x1_c, hsl, h⟩ := h
            refine WO_p rfl rfl (ex_slsl slk46 rfl rfl bd_none (fun _ => rfl) (bd_some rfl) (fun h => by cases h) hsl) ?_
            clear hsl
            refine cl h ?_
            rintro _ w14 ⟨r10_a, r10_n, r10_c, r11, rfl, h⟩
            refine ps 5 [(89, .tuple #[vl r10_a r10_n r10_c, vi r11]), (95, vl r10_a r10_n r10_c), (96, vi r11), (11, vl r10_a r10_n r10_c), (12, vi r11)] ?_
            refine WO_nil ?_
            refine W_regseq ?_
            refine cl h ?_
            rintro _ w15 ⟨r12, rfl, h⟩
            refine ps 1 [(98, vb r12)] ?_
            refine cs 98 h (fun h => ?_) fun h => ?_
            ·refine ps 4 [(99, vi r7), (100, vb (r7 == (0 : Int))), (101, vb (r7 == (0 : Int))), (102, vb (r7 == (0 : Int)))] ?_
             refine cs 102 h (fun h => ?_) fun h => ?_
             ·refine ps 4 [(103, vi r9), (104, vb (r9 == (0 : Int))), (105, vb (r9 == (0 : Int))), (106, vb (r9 == (0 : Int)))] ?_
              refine cs 106 h (fun h => ?_) fun h => ?_
              ·refine ps 4 [(107, vi r11), (108, vb (r11 == (2 : Int))), (109, vb (r11 == (2 : Int))), (110, vb (r11 == (2 : Int)))] ?_
               refine cs 110 h (fun h => ?_) fun h => ?_
               ·refine ps 5 [(111, vl r6_a r6_n r6_c), (112, vi (r6_n : Nat)), (113, vb (((r6_n : Nat) : Int) == (1000 : Int))), (114, vb (((r6_n : Nat) : Int) == (1000 : Int))), (115, vb (((r6_n : Nat) : Int) == (1000 : Int)))] ?_
                refine cs 115 h (fun h => ?_) fun h => ?_
                ·refine ps 5 [(116, vl r8_a r8_n r8_c), (117, vi (r8_n : Nat)), (118, vb (((r8_n : Nat) : Int) == (1000 : Int))), (119, vb (((r8_n : Nat) : Int) == (1000 : Int))), (120, vb (((r8_n : Nat) : Int) == (1000 : Int)))] ?_
                 refine cs 120 h (fun h => ?_) fun h => ?_
                 ·refine ps 1 [(121, vl r8_a r8_n r8_c)] ?_
                  refine ix slk63 h fun p1 h => ?_
                  obtain ⟨x2, hx2, h⟩ := h
                  refine ld1 tk3 hx2 ?_
                  refine ps 3 [(124, vb (x2 == (2000 : Int))), (125, vb (x2 == (2000 : Int))), (126, vb (x2 == (2000 : Int)))] ?_
                  refine cs 126 h (fun h => ?_) fun h => ?_
                  ·refine ps 5 [(127, vl r10_a r10_n r10_c), (128, vi (r10_n : Nat)), (129, vb (((r10_n : Nat) : Int) == (0 : Int))), (130, vb (((r10_n : Nat) : Int) == (0 : Int))), (131, vb (((r10_n : Nat) : Int) == (0 : Int)))] ?_
                   refine cs 131 h (fun h => ?_) fun h => ?_
                   ·refine ps 3 [(132, vP r1), (133, vg [vu 2, vi 1]), (134, vi day)] ?_
                    refine cl h ?_
                    rintro _ w16 ⟨r13, rfl, h⟩
                    refine ps 3 [(136, vb (r13 == (2000 : Int))), (137, vb (r13 == (2000 : Int))), (2, vb (r13 == (2000 : Int)))] ?_
                    refine WO_nil ?_
                    refine W_ret ?_
                    exact ret1 (v := vb (r13 == (2000 : Int))) (t := 2) rfl rfl ⟨_, rfl, h⟩
                   ·refine ps 7 [(132, undef), (133, undef), (134, undef), (135, undef), (136, undef), (137, vb false), (2, vb false)] ?_
                    refine WO_nil ?_
                    refine W_ret ?_
                    exact ret1 (v := vb false) (t := 2) rfl rfl ⟨_, rfl, h⟩
                  ·refine ps 12 [(127, undef), (128, undef), (129, undef), (130, vb false), (131, vb false), (132, undef), (133, undef), (134, undef), (135, undef), (136, undef), (137, vb false), (2, vb false)] ?_
                   refine WO_nil ?_
                   refine W_ret ?_
                   exact ret1 (v := vb false) (t := 2) rfl rfl ⟨_, rfl, h⟩
                 ·refine ps 18 [(121, undef), (122, undef), (123, undef), (124, undef), (125, vb false), (126, vb false), (127, undef), (128, undef), (129, undef), (130, vb false), (131, vb false), (132, undef), (133, undef), (134, undef), (135, undef), (136, undef), (137, vb false), (2, vb false)] ?_
                  refine WO_nil ?_
                  refine W_ret ?_
                  exact ret1 (v := vb false) (t := 2) rfl rfl ⟨_, rfl, h⟩
                ·refine ps 23 [(116, undef), (117, undef), (118, undef), (119, vb false), (120, vb false), (121, undef), (122, undef), (123, undef), (124, undef), (125, vb false), (126, vb false), (127, undef), (128, undef), (129, undef), (130, vb false), (131, vb false), (132, undef), (133, undef), (134, undef), (135, undef), (136, undef), (137, vb false), (2, vb false)] ?_
                 refine WO_nil ?_
                 refine W_ret ?_
                 exact ret1 (v := vb false) (t := 2) rfl rfl ⟨_, rfl, h⟩
               ·refine ps 28 [(111, undef), (112, undef), (113, undef), (114, vb false), (115, vb false), (116, undef), (117, undef), (118, undef), (119, vb false), (120, vb false), (121, undef), (122, undef), (123, undef), (124, undef), (125, vb false), (126, vb false), (127, undef), (128, undef), (129, undef), (130, vb false), (131, vb false), (132, undef), (133, undef), (134, undef), (135, undef), (136, undef), (137, vb false), (2, vb false)] ?_
                refine WO_nil ?_
                refine W_ret ?_
                exact ret1 (v := vb false) (t := 2) rfl rfl ⟨_, rfl, h⟩
              ·refine ps 32 [(107, undef), (108, undef), (109, vb false), (110, vb false), (111, undef), (112, undef), (113, undef), (114, vb false), (115, vb false), (116, undef), (117, undef), (118, undef), (119, vb false), (120, vb false), (121, undef), (122, undef), (123, undef), (124, undef), (125, vb false), (126, vb false), (127, undef), (128, undef), (129, undef), (130, vb false), (131, vb false), (132, undef), (133, undef), (134, undef), (135, undef), (136, undef), (137, vb false), (2, vb false)] ?_
               refine WO_nil ?_
               refine W_ret ?_
               exact ret1 (v := vb false) (t := 2) rfl rfl ⟨_, rfl, h⟩
             ·refine ps 36 [(103, undef), (104, undef), (105, vb false), (106, vb false), (107, undef), (108, undef), (109, vb false), (110, vb false), (111, undef), (112, undef), (113, undef), (114, vb false), (115, vb false), (116, undef), (117, undef), (118, undef), (119, vb false), (120, vb false), (121, undef), (122, undef), (123, undef), (124, undef), (125, vb false), (126, vb false), (127, undef), (128, undef), (129, undef), (130, vb false), (131, vb false), (132, undef), (133, undef), (134, undef), (135, undef), (136, undef), (137, vb false), (2, vb false)] ?_
              refine WO_nil ?_
              refine W_ret ?_
              exact ret1 (v := vb false) (t := 2) rfl rfl ⟨_, rfl, h⟩
            ·refine ps 40 [(99, undef), (100, undef), (101, vb false), (102, vb false), (103, undef), (104, undef), (105, vb false), (106, vb false), (107, undef), (108, undef), (109, vb false), (110, vb false), (111, undef), (112, undef), (113, undef), (114, vb false), (115, vb false), (116, undef), (117, undef), (118, undef), (119, vb false), (120, vb false), (121, undef), (122, undef), (123, undef), (124, undef), (125, vb false), (126, vb false), (127, undef), (128, undef), (129, undef), (130, vb false), (131, vb false), (132, undef), (133, undef), (134, undef), (135, undef), (136, undef), (137, vb false), (2, vb false)] ?_
             refine WO_nil ?_
             refine W_ret ?_
             exact ret1 (v := vb false) (t := 2) rfl rfl ⟨_, rfl, h⟩
end Go.Proofs.YtcbijkakoepglaaGreat
namespace Go.Proofs.YtcbijkakoepglaaGreat
open Go Go.Wx
theorem recv_ok3 {M : MState} {day : Int} {n : Nat} (h : RS M day n) (h0 : 0 ≤ day) (h1 : day ≤ 100000) {m : Nat} (hm : n + m ≤ 2000) : ∃ M' ids, M.receive day (List.replicate m lotX) = (0, M', ids) ∧ RS M' day (n + m) ∧ ids.length = m ∧ ∀ k, k < m → ids[k]? = some ((n : Int) + 1 + k) :=
  ⟨_, _, recv_ok2 h h0 h1 hm, recv_rep m h⟩
theorem u_size : ∀ i, i < 16 → (ByteArray.mk #[117]).size + (Utf8.encode (IntKind.wrap .i32 (IntKind.wrap .i64 ((97 : Int) + ((i : Nat) : Int))))).size ≤ 9223372036854775807 := by decide +kernel
theorem u_vals {i : Nat} : ∀ u ∈ uList i, u.values = [] := by
  intro u hu
  unfold uList at hu
  obtain ⟨k, _, rfl⟩ := List.mem_map.1 hu
  rfl
theorem small_u {d : Int} {i : Nat} {ts : List Tterm} (hi : i ≤ 16) (ht : ts.length ≤ 64) : Small ⟨d, uList i, ts, [], []⟩ :=
  ⟨by simp [uList]; omega, fun u hu => by rw [u_vals u hu]; simp, by show ts.length ≤ 1000; omega, by simp, by simp⟩
theorem ids_u {d : Int} {us : List MUnit} {ts : List Tterm} : IdOk ⟨d, us, ts, [], []⟩ := fun i x h => by simp at h
theorem rs_good {M : MState} {day : Int} {n : Nat} (h : RS M day n) (hn : n ≤ 2000) : Good M :=
  ⟨by rw [h.units]; simp [uList], fun u hu => by rw [h.units] at hu; rw [u_vals u hu]; simp, by rw [h.terms]; simp [tList], by rw [h.lots]; exact hn, by rw [h.len]; omega, h.ids, fun u hu v hv => by rw [h.units] at hu; rw [u_vals u hu] at hv; cases hv⟩
theorem rd_first {w : World} {a : Option Addr} {n c : Nat} {xs : List TLot} (h : Rd TLot.enc 10 w a n xs) (hn : 1 ≤ n) (hc : n ≤ c) : Rd TLot.enc 10 w (if c = 0 then a else a.map (·.add (0 * 10))) 1 (xs.take 1) := by
  have hl := h.1
  rw [if_neg (by omega)]
  refine ⟨by rw [List.length_take]; omega, fun e => ?_, fun a0 ha i x hx => ?_⟩
  · cases a with
    | none => have := h.2.1 rfl; omega
    | some a => simp at e
  · cases a with
    | none => simp at ha
    | some a =>
      simp only [Option.map_some, Option.some.injEq] at ha
      subst ha
      have hi : i < 1 := by
        have := (List.getElem?_eq_some_iff.1 hx).1
        rw [List.length_take] at this
        omega
      rw [List.getElem?_take, if_pos hi] at hx
      have := h.2.2 a rfl i x hx
      rw [add_add, Nat.zero_mul, Nat.zero_add]
      exact this
theorem lawLimits_c {w : World} {day : Int} : Cl Pg 12 #[vi day] w (Yes w) := by
  refine Cl.yes (law06_DrawersLimits.ok (Q := fun b w' => b = true ∧ Ext w w') (new_c fun b w1 R st hL hb hR E1 => ifb ?_))
  split
  · exact alive_c fun w2 E2 => ifb_t ⟨rfl, E1.ext E2⟩
  rename_i hd
  simp only [Option.isNone_some, Bool.false_or, Bool.or_eq_true, decide_eq_true_eq, not_or] at hd
  have h0 : 0 ≤ day := by omega
  have h1 : day ≤ 100000 := by omega
  have lb1 := hL.blk.lt
  have ext : ∀ {w'}, Frm (fun k => k = b) w1 w' → Ext w w' := fun F => Frm.trans E1 F fun k hk e => by have e : k = b := e; omega
  have key3 : ∀ m i w3 w' R st a c, i + m = 1000 → Frm (fun k => k = b) w1 w3 → Ext w3 w' → Led w3 R b st ⟨day, uList 16, tList day 64, [], []⟩ → Own 45 10 TLot.enc w' a i c (List.replicate i lotX) → (∀ k, obk a c = some k → w3.heap.size ≤ k) →
      law06_DrawersLimits.l3 (fun b w' => b = true ∧ Ext w w') day (some ⟨b, 0, none⟩) (m + 1) a i c (i : Nat) w' := by
    intro m
    induction m with
    | zero =>
      intro i w3 w' R st a c hi F E hL ho hk
      unfold law06_DrawersLimits.l3
      obtain rfl : i = 1000 := by omega
      have lb := hL.blk.lt
      have hL := hL.ext E
      have rs0 : RS (⟨day, uList 16, tList day 64, [], []⟩ : MState) day 0 := ⟨rfl, rfl, rfl, rfl, fun x h => by simp at h, ids_u, rfl, fun p h => by simp at h⟩
      obtain ⟨M1, I1, r1, rs1, l1, g1⟩ := recv_ok3 rs0 h0 h1 (m := 1000) (by omega)
      refine ifb_df (by omega) (receive_c hL (rs_good rs0 (by omega)) (ho.rd encLot) (by omega) fun a6 n6 c6 w12 R12 st12 hL12 hR12 F12 ho6 hk6 => ?_)
      rw [r1] at hL12 ho6 ⊢
      simp only at hL12 ho6
      have ho := ho.frm F12 fun k hk' e => by have := hk k hk'; have e : k = b := e; omega
      obtain ⟨M2, I2, r2, rs2, l2, g2⟩ := recv_ok3 rs1 h0 h1 (m := 1000) (by omega)
      have lb12 := hL12.blk.lt
      refine receive_c hL12 (rs_good rs1 (by omega)) (ho.rd encLot) (by omega) fun a8 n8 c8 w13 R13 st13 hL13 hR13 F13 ho8 hk8 => ?_
      rw [r2] at hL13 ho8 ⊢
      simp only at hL13 ho8
      have s3 := E.size
      have s12 := F12.size
      have ho := ho.frm F13 fun k hk' e => by have := hk k hk'; have e : k = b := e; omega
      have hcap : 1000 ≤ c := by
        rcases ho.2 with ⟨_, h⟩ | ⟨_, _, _, _, h, _⟩
        · omega
        · exact h
      have rs2 : RS M2 day 2000 := rs2
      have rd1 := rd_first (ho.rd encLot) (by omega) hcap
      rw [show (List.replicate 1000 lotX).take 1 = List.replicate 1 lotX from by rw [List.take_replicate]; rfl] at rd1
      refine ⟨_, _, _, ⟨0, 1, rfl, rfl, by omega, by omega, rfl, rfl, rfl⟩, ?_⟩
      have lb13 := hL13.blk.lt
      refine receive_c hL13 (rs_good rs2 (by omega)) rd1 (by omega) fun a10 n10 c10 w14 R14 st14 hL14 hR14 F14 ho10 hk10 => ?_
      rw [recv_full rs2 h0 h1] at hL14 ho10 ⊢
      simp only at hL14 ho10
      have ho8 := ho8.frm F14 fun k hk' e => by have := hk8 k hk'; have e : k = b := e; omega
      refine alive_c fun w15 E15 => ifb_t (ifb_t (ifb_t (ifb_t ?_)))
      have z6 : n6 = 1000 := by rw [ho6.1]; exact l1
      have z8 : n8 = 1000 := by rw [ho8.1]; exact l2
      have z10 : n10 = 0 := by rw [ho10.1]; rfl
      subst z6 z8 z10
      have F14' : Frm (fun k => k = b) w1 w14 := (((F.ext E).trans' F12).trans' F13).trans' F14
      refine ifb_t (ifb_t ((((ho8.ext E15).rd (fun _ => rfl) : Rd encI 1 w15 a8 1000 I2)).ix (by omega) (by omega) fun p x hp hx hc => ⟨x, (by have := hc.at 0 rfl; rwa [add_add, Nat.add_zero] at this), ?_⟩))
      have hx : I2[999]? = some x := hx
      rw [g2 999 (by omega)] at hx
      have hx : x = 2000 := (Option.some.inj hx).symm
      subst hx
      refine ifb_t (ifb_t (balance_c (a := ⟨2, 1⟩) (hL14.ext E15).rd (rs_good rs2 (by omega)).small.fits fun w16 E16 => ⟨?_, (ext F14').ext (E15.trans E16)⟩))
      rw [show M2.balance ⟨2, 1⟩ (ByteArray.mk #[117, 97]) day = 2000 from rs_balance rs2]
      rfl
    | succ m ih =>
      intro i w3 w' R st a c hi F E hL ho hk
      unfold law06_DrawersLimits.l3
      refine ifb_dt (by omega) (al_f E fun b1 w10 hb1 hat1 E10 e10 g10 => ap_own (T := 45) (sz := 10) (enc := TLot.enc) ap46 encLot (fun x => oneAll rfl) (ho.ext e10) (Rd.one (enc := TLot.enc) (sz := 10) lotX hat1) (by omega) (by simp only [maxLen]; omega) fun a2 c2 w11 ho2 F11 hb11 => ?_)
      rw [wrap_succ (n := 1000) (by omega) (by omega) (by simp only [maxLen]; omega)]
      rw [show List.replicate i lotX ++ [lotX] = List.replicate (i + 1) lotX from List.replicate_succ'.symm] at ho2
      exact ih (i + 1) w3 w11 R st a2 c2 (by omega) F (Frm.trans E10 F11 fun k hk' e => by have := hk k e; omega) hL ho2 fun k hk' => (hb11 k hk').elim (hk k) fun h => Nat.le_trans E10.size h
  have key2 : ∀ m i w' R st, i + m = 64 → Frm (fun k => k = b) w1 w' → Led w' R b st ⟨day, uList 16, tList day i, [], []⟩ → law06_DrawersLimits.l2 (fun b w' => b = true ∧ Ext w w') day (some ⟨b, 0, none⟩) (m + 1) (i : Nat) w' := by
    intro m
    induction m with
    | zero =>
      intro i w' R st hi F hL
      unfold law06_DrawersLimits.l2
      obtain rfl : i = 64 := by omega
      have hS : Small (⟨day, uList 16, tList day 64, [], []⟩ : MState) := small_u (by omega) (by simp [tList])
      refine ifb_df (by omega) (setTerm_c hL hS ids_u (hS.dueOk day) fun w2 R2 st2 hL2 hR2 F2 => ?_)
      rw [show (ByteArray.mk #[117, 97]) = uaName from rfl, setTerm_full h0 h1] at hL2
      rw [show ((⟨day, uList 16, tList day 64, [], []⟩ : MState).setTerm day (ByteArray.mk #[117, 97]) 1 1).1 = 2 from congrArg Prod.fst (setTerm_full h0 h1)]
      exact ifb_f ⟨1001, key3 1000 0 w2 w2 R2 st2 none 0 (by omega) (F.trans' F2) (er w2) hL2 Own.nil fun k h => by cases h⟩
    | succ m ih =>
      intro i w' R st hi F hL
      unfold law06_DrawersLimits.l2
      have hS : Small (⟨day, uList 16, tList day i, [], []⟩ : MState) := small_u (by omega) (by simp [tList]; omega)
      have hw : IntKind.wrap .i64 (((i : Nat) : Int) + 1) = (i : Int) + 1 := wrap_id (by omega) (by omega)
      rw [hw]
      refine ifb_dt (by omega) (setTerm_c hL hS ids_u (hS.dueOk day) fun w2 R2 st2 hL2 hR2 F2 => ?_)
      rw [show (ByteArray.mk #[117, 97]) = uaName from rfl, setTerm_step h0 h1 (by omega)] at hL2
      rw [show ((⟨day, uList 16, tList day i, [], []⟩ : MState).setTerm day (ByteArray.mk #[117, 97]) ((i : Int) + 1) ((i : Int) + 1)).1 = 0 from congrArg Prod.fst (setTerm_step h0 h1 (by omega))]
      rw [show ((i : Int) + 1) = ((i + 1 : Nat) : Int) by omega]
      exact ifb_f (ih (i + 1) w2 R2 st2 (by omega) (F.trans' F2) hL2)
  have key1 : ∀ m i w' R st d, i + m = 16 → Frm (fun k => k = b) w1 w' → Led w' R b st ⟨d, uList i, [], [], []⟩ → (i = 0 → d = 0) → (0 < i → d = day) → law06_DrawersLimits.l1 (fun b w' => b = true ∧ Ext w w') day (some ⟨b, 0, none⟩) (m + 1) (i : Nat) w' := by
    intro m
    induction m with
    | zero =>
      intro i w' R st d hi F hL d0 d1
      unfold law06_DrawersLimits.l1
      obtain rfl : i = 16 := by omega
      obtain rfl := d1 (by omega)
      have hS : Small (⟨d, uList 16, [], [], []⟩ : MState) := small_u (by omega) (by simp)
      refine ifb_df (by omega) (setUnit_c hL hS ids_u (hS.dueOk d) fun w2 R2 st2 hL2 hR2 F2 => ?_)
      rw [setUnit_full h0 h1] at hL2 ⊢
      refine ifb_f (setUnit_c hL2 hS ids_u (hS.dueOk d) fun w3 R3 st3 hL3 hR3 F3 => ?_)
      rw [show (ByteArray.mk #[117, 97]) = uaName from rfl, setUnit_twice h0 h1] at hL3
      rw [show ((2, (⟨d, uList 16, [], [], []⟩ : MState)).2.setUnit d (ByteArray.mk #[117, 97]) 1).1 = 6 from congrArg Prod.fst (setUnit_twice h0 h1)]
      show law06_DrawersLimits.j1 _ d _ false w3
      unfold law06_DrawersLimits.j1
      exact ifb_f ⟨65, key2 64 0 w3 R3 st3 (by omega) ((F.trans' F2).trans' F3) hL3⟩
    | succ m ih =>
      intro i w' R st d hi F hL d0 d1
      unfold law06_DrawersLimits.l1
      have hS : Small (⟨d, uList i, [], [], []⟩ : MState) := small_u (by omega) (by simp)
      have hdd : d ≤ day := by
        rcases Nat.eq_zero_or_pos i with h | h
        · rw [d0 h]; exact h0
        · rw [d1 h]; exact Int.le_refl _
      refine ifb_dt (by omega) ⟨u_size i (by omega), setUnit_c hL hS ids_u (hS.dueOk day) fun w2 R2 st2 hL2 hR2 F2 => ?_⟩
      have e : (⟨d, uList i, [], [], []⟩ : MState).setUnit day ((ByteArray.mk #[117]) ++ (Utf8.encode (IntKind.wrap .i32 (IntKind.wrap .i64 ((97 : Int) + ((i : Nat) : Int)))))) 1 = (0, ⟨day, uList (i + 1), [], [], []⟩) := setUnit_step h0 h1 hdd (by omega)
      rw [e] at hL2 ⊢
      rw [wrap_succ (n := 16) (by omega) (by omega) (by simp only [maxLen]; omega)]
      exact ifb_f (ih (i + 1) w2 R2 st2 day (by omega) (F.trans' F2) hL2 (fun h => by omega) fun _ => rfl)
  exact ⟨17, key1 16 0 w1 R st 0 (by omega) (Frm.refl _ _) hL (fun _ => rfl) (fun h => by omega)⟩
end Go.Proofs.YtcbijkakoepglaaGreat
namespace Go.Proofs.YtcbijkakoepglaaGreat
open Go Go.Wx Go.ChangeShapes Go.WideShapes Go.ChangeAt Go.RowKit
open Go.ChangeMaps (open_string shut_string)
set_option maxRecDepth 100000 in
theorem liftedDrawersLimits (os : Os) (started : os.Started) (H : Type) (enc : TypeId × Value → H) :
    ReturnsInHanded {} Tryz.checked os 12 .any (Rows.drawersLimitsSpec.pre6 enc Tryz.prog Tryz.f12 Rows.drawersLimitsRow.domain false) (Rows.drawersLimitsSpec.post enc Tryz.prog Tryz.f12 false true false false) := by
  refine returnsInHanded_of_change_sized (C := Tryz.checked) own started (by kernel_rfl) Tryz.func12
    (ChangeSpec.witness6 (enc := enc) (C := Tryz.checked) false ⟨#[], #[.int .i64 0], []⟩ 8 (by kernel_rfl) (by kernel_rfl) (by kernel_rfl) (by kernel_rfl)) ?_
  intro W base args ds gs before hval0 hW hcnd hsz0 _
  have hsz : (DataW.weightsEach Tryz.prog (Tryz.f12.params.toList ++ Rows.drawersLimitsSpec.plain.varTypes Tryz.prog) (ds ++ gs)).all (· ≤ reachBytes) = true := hsz0
  have hval : ∀ (j : Nat) t v, Tryz.f12.params[j]? = some t → args[j]? = some v → Value.okWide Tryz.prog W .any base t v := hval0
  have hW' := hW
  obtain ⟨p, q, hA0, hV, rfl, hfz, hnd⟩ := hW
  have hA : DataW.TrodAll enc Tryz.prog W 0 (fun _ => true) true Tryz.f12.params.toList args.toList ds p := hA0
  have hA' := hA
  rw [Tryz.params12] at hA hval hsz
  obtain ⟨v0, vs0, d0, ds0, p0, q0, hargs, rfl, rfl, t0, r0⟩ := trodAll_cons hA
  obtain ⟨rfl, rfl, rfl⟩ := trodAll_nil r0
  obtain rfl : args = #[v0] := by cases args; simp_all
  obtain ⟨rfl, rfl⟩ := trodVars_none hV
  obtain ⟨x0, rfl, -, -, w0⟩ := open_int Tryz.underlying3 (hval 0 3 v0 rfl rfl) t0
  refine Calls.mono (lawLimits_c) fun e W' hy => ?_
  obtain ⟨v, he, hv, bel⟩ := hy
  subst he
  subst hv
  exact ⟨_, rfl, _, _, _, [], _, [], hW', trodAll_mk1 (shut_bool Tryz.underlying4 _), Below.trodAll laidOut bel.below (by kernel_rfl) hA', rfl, bel.below.frame _, fun h => by cases h⟩
theorem named12 : Tryz.checked.prog.funcNamed Rows.drawersLimitsRow.func = some 12 := by kernel_rfl
set_option maxRecDepth 100000 in
set_option maxHeartbeats 20000000 in
theorem facts12 : joinedFacts Tryz.checked.prog 12 Tryz.f12 Rows.drawersLimitsSpec Rows.drawersLimitsRow = true := by
  show joinedFacts Tryz.prog 12 Tryz.f12 Rows.drawersLimitsSpec Rows.drawersLimitsRow = true
  unfold joinedFacts
  simp only [Bool.and_eq_true]
  repeat' apply And.intro
  all_goals as_aux_lemma => kernel_rfl
theorem inst12 : Tryz.f12.isInstance Tryz.checked.prog Rows.drawersLimitsRow.origin Rows.drawersLimitsRow.targs := of_decide_eq_true (by kernel_rfl)
theorem wrap12 : Tryz.f12.isWrapper Tryz.checked.prog Rows.drawersLimitsRow.wrapper Rows.drawersLimitsRow.mainSum := by unfold Func.isWrapper; first | (rw [if_pos (by decide +kernel)]; kernel_rfl) | (rw [if_neg (by decide +kernel)]; exact ⟨rfl, rfl⟩)
theorem drawersLimits_holds : Rows.DrawersLimitsSaid :=
  OpenClaim.holds_of_wide 12 Tryz.f12 rfl rfl rfl rfl rfl rfl rfl ⟨rfl, rfl, rfl, rfl, rfl⟩ rfl rfl rfl rfl rfl named12 Tryz.func12 facts12 inst12 wrap12
    (fun os started H enc _ => liftedDrawersLimits os started H enc)
end Go.Proofs.YtcbijkakoepglaaGreat
