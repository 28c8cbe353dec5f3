/- The law DrawersStatements holds. Conditions: none. -/
import Derived.Test.YtcbijkakoepglaaGreatKB6
import Derived.Test.YtcbijkakoepglaaGreatRows
import Derived.JoinedOf
set_option linter.all false
namespace Go.Proofs.YtcbijkakoepglaaGreat
open Go Go.Wx

/-! ### the moves -/
/-- a lot turns: x becomes x', n of its unit goes from (fk, fi) to (tk, ti) for the reason why. -/
inductive Turn (x : TLot) : TLot → Int → Int → Int → Int → Int → Int → Prop where
  | forfeit : x.State = 1 → Turn x { x with State := 3 } x.Left 2 x.Thing 4 0 3
  | pay (person : Int) : x.State = 1 → isId person = true → Turn x { x with State := 2, Left := 0 } x.Left 2 x.Thing 3 person 2
  | part (person m : Int) : x.State = 1 → 1 ≤ m → m ≤ x.Left → isId person = true → Turn x (cvLot x m) m 2 x.Thing 3 person 2
  | swap (m : Int) : x.State = 1 → 1 ≤ m → m ≤ x.Left → Turn x (cvLot x m) m 2 x.Thing 6 0 5
  | lose : x.State = 1 → Turn x { x with State := 5 } x.Left 2 x.Thing 5 0 6
  | recover : x.State = 5 → Turn x { x with State := 1 } x.Left 5 0 2 x.Thing 7
  | dispatch (bag : Int) : x.State = 1 → isId bag = true → Turn x { x with State := 6, Bag := bag } x.Left 2 x.Thing 7 bag 8
  | arrive : x.State = 6 → Turn x { x with State := 7, Left := 0 } x.Left 7 x.Bag 1 0 9
  | refund (person : Int) : x.State = 3 → isId person = true → 0 < restR x → Turn x { x with State := 4, Left := 0 } (restR x) 4 0 3 person 4
structure LotIn (M : MState) (x : TLot) : Prop where
  thing : isId x.Thing = true
  unit : 0 ≤ M.find x.Unit
  n1 : 1 ≤ x.N
  n2 : x.N ≤ 1000000000
  left : x.Left = x.N
inductive Move : MState → MState → Prop where
  | turn {M : MState} {i : Nat} {x x' : TLot} {n fk fi tk ti why : Int} : M.lots[i]? = some x → Turn x x' n fk fi tk ti why → Move M ((M.post ⟨M.day, x.Unit, n, fk, fi, tk, ti, why, x.Id⟩).setLot i x')
  | keep {M : MState} {i : Nat} {x : TLot} : M.lots[i]? = some x → x.State = 3 → ¬ 0 < restR x → Move M (M.setLot i { x with State := 4, Left := 0 })
  | enter {M : MState} {x : TLot} {fk why : Int} : (fk = 1 ∧ (why = 1 ∨ why = 10) ∨ fk = 6 ∧ why = 5) → LotIn M x → M.lots.length < 2000 → Move M (M.enter x fk 0 why)
  | day {M : MState} {d : Int} : M.day ≤ d → d ≤ 100000 → Move M { M with day := d }
  | unit {M : MState} {name : ByteArray} {kind : Int} : named name = true → M.find name < 0 → Move M { M with units := M.units ++ [⟨name, kind, []⟩] }
  | value {M : MState} {i : Nat} {u : MUnit} {g : Int} : M.units[i]? = some u → 1 ≤ g → g ≤ 100000 → Move M { M with units := M.units.set i { u with values := u.values ++ [⟨M.day, g⟩] } }
  | term {M : MState} {t : Tterm} : t.day = M.day → 1 ≤ t.days → t.days ≤ 40000 → Move M { M with terms := M.terms ++ [t] }
inductive Moves : MState → MState → Prop where
  | refl {M : MState} : Moves M M
  | tail {M M1 M2 : MState} : Moves M M1 → Move M1 M2 → Moves M M2
theorem Moves.one {M M' : MState} (h : Move M M') : Moves M M' := .tail .refl h
theorem Moves.trans {M M1 M2 : MState} (h : Moves M M1) (h2 : Moves M1 M2) : Moves M M2 := by
  induction h2 with
  | refl => exact h
  | tail _ h3 ih => exact .tail ih h3
theorem Moves.head {M M1 M2 : MState} (h : Move M M1) (h2 : Moves M1 M2) : Moves M M2 := (Moves.one h).trans h2

/-! ### what every move keeps -/
structure LotOk (M : MState) (x : TLot) : Prop where
  thing : isId x.Thing = true
  unit : 0 ≤ M.find x.Unit
  n1 : 1 ≤ x.N
  n2 : x.N ≤ 1000000000
  live : ((x.State = 1 ∨ x.State = 3 ∨ x.State = 5 ∨ x.State = 6) ∧ 1 ≤ x.Left ∧ x.Left ≤ x.N) ∨ ((x.State = 2 ∨ x.State = 4 ∨ x.State = 7) ∧ x.Left = 0)
  bag : x.State = 6 → isId x.Bag = true
structure J (M : MState) : Prop where
  ids : IdOk M
  lots : ∀ x ∈ M.lots, LotOk M x
  terms : ∀ t ∈ M.terms, 1 ≤ t.days ∧ t.days ≤ 40000
  units : ∀ u ∈ M.units, named u.name = true
  grains : ∀ u ∈ M.units, ∀ v ∈ u.values, 1 ≤ v.grains ∧ v.grains ≤ 100000
  d0 : 0 ≤ M.day
  d1 : M.day ≤ 100000
  len : M.lots.length ≤ 2000
theorem find_any (M : MState) (name : ByteArray) : decide (M.find name ≥ 0) = M.units.any (fun u => strEq u.name name) := idxI_ge _ _
theorem find_mono {M M' : MState} (h : ∀ n, M.units.any (fun u => strEq u.name n) = true → M'.units.any (fun u => strEq u.name n) = true) {name : ByteArray} (hn : 0 ≤ M.find name) : 0 ≤ M'.find name := by
  have h1 := find_any M name
  rw [decide_eq_true hn] at h1
  have h2 := find_any M' name
  rw [h name h1.symm] at h2
  exact of_decide_eq_true h2
theorem LotOk.mono {M M' : MState} (h : ∀ n, M.units.any (fun u => strEq u.name n) = true → M'.units.any (fun u => strEq u.name n) = true) {x : TLot} (hx : LotOk M x) : LotOk M' x :=
  ⟨hx.thing, find_mono h hx.unit, hx.n1, hx.n2, hx.live, hx.bag⟩
theorem LotOk.same {M : MState} {x : TLot} (hx : LotOk M x) (M' : MState) (h : M'.units = M.units) : LotOk M' x := hx.mono fun n => by rw [h]; exact id
theorem Turn.id {x x' : TLot} {n fk fi tk ti why : Int} (h : Turn x x' n fk fi tk ti why) : x'.Id = x.Id := by cases h <;> rfl
theorem cvLot_ok {x : TLot} {m : Int} (hl : x.Left ≤ 1000000000) (h1 : 1 ≤ m) (h2 : m ≤ x.Left) : (cvLot x m).Left = x.Left - m ∧ (cvLot x m).State = if x.Left - m = 0 then 2 else x.State := by
  have : wr (x.Left - m) = x.Left - m := wrap_id (by omega) (by omega)
  unfold cvLot
  simp only [this, and_self]
theorem Turn.ok {M : MState} {x x' : TLot} {n fk fi tk ti why : Int} (h : Turn x x' n fk fi tk ti why) (hx : LotOk M x) : LotOk M x' := by
  obtain ⟨h1, h2, h3, h4, h5, h6⟩ := hx
  cases h with
  | forfeit hs => exact ⟨h1, h2, h3, h4, .inl ⟨.inr (.inl rfl), by show 1 ≤ x.Left; omega, by show x.Left ≤ x.N; omega⟩, fun h => by simp at h⟩
  | pay p hs => exact ⟨h1, h2, h3, h4, .inr ⟨.inl rfl, rfl⟩, fun h => by simp at h⟩
  | part p m hs k1 k2 =>
    have hl : x.Left ≤ x.N := by omega
    obtain ⟨e1, e2⟩ := cvLot_ok (by omega) k1 k2
    refine ⟨h1, h2, h3, h4, ?_, ?_⟩
    · rw [e1, e2]
      by_cases hz : x.Left - n = 0
      · rw [if_pos hz]; exact .inr ⟨.inl rfl, hz⟩
      · rw [if_neg hz]; exact .inl ⟨.inl hs, by omega, by show x.Left - n ≤ x.N; omega⟩
    · rw [e2]; split
      · intro h; simp at h
      · intro h; omega
  | swap m hs k1 k2 =>
    have hl : x.Left ≤ x.N := by omega
    obtain ⟨e1, e2⟩ := cvLot_ok (by omega) k1 k2
    refine ⟨h1, h2, h3, h4, ?_, ?_⟩
    · rw [e1, e2]
      by_cases hz : x.Left - n = 0
      · rw [if_pos hz]; exact .inr ⟨.inl rfl, hz⟩
      · rw [if_neg hz]; exact .inl ⟨.inl hs, by omega, by show x.Left - n ≤ x.N; omega⟩
    · rw [e2]; split
      · intro h; simp at h
      · intro h; omega
  | lose hs => exact ⟨h1, h2, h3, h4, .inl ⟨.inr (.inr (.inl rfl)), by show 1 ≤ x.Left; omega, by show x.Left ≤ x.N; omega⟩, fun h => by simp at h⟩
  | recover hs => exact ⟨h1, h2, h3, h4, .inl ⟨.inl rfl, by show 1 ≤ x.Left; omega, by show x.Left ≤ x.N; omega⟩, fun h => by simp at h⟩
  | dispatch b hs hb => exact ⟨h1, h2, h3, h4, .inl ⟨.inr (.inr (.inr rfl)), by show 1 ≤ x.Left; omega, by show x.Left ≤ x.N; omega⟩, fun _ => hb⟩
  | arrive hs => exact ⟨h1, h2, h3, h4, .inr ⟨.inr (.inr rfl), rfl⟩, fun h => by simp at h⟩
  | refund p hs => exact ⟨h1, h2, h3, h4, .inr ⟨.inr (.inl rfl), rfl⟩, fun h => by simp at h⟩
theorem J.set {M : MState} (h : J M) {i : Nat} {x x' : TLot} (hx : M.lots[i]? = some x) (hi : x'.Id = x.Id) (ho : LotOk M x') : J (M.setLot i x') :=
  ⟨h.ids.setLot hx hi, fun y hy => by
    rcases List.mem_or_eq_of_mem_set hy with hy | hy
    · exact (h.lots y hy).same (M.setLot i x') rfl
    · rw [hy]; exact ho.same (M.setLot i x') rfl, h.terms, h.units, h.grains, h.d0, h.d1, by simp [MState.setLot]; exact h.len⟩
theorem J.post {M : MState} (h : J M) (p : TPosting) : J (M.post p) := ⟨h.ids, fun y hy => (h.lots y hy).same (M.post p) rfl, h.terms, h.units, h.grains, h.d0, h.d1, h.len⟩
theorem Move.j {M M' : MState} (hm : Move M M') (h : J M) : J M' := by
  cases hm with
  | turn hx ht => exact (h.post _).set hx ht.id ((ht.ok (h.lots _ (List.mem_of_getElem? hx))).same (M.post _) rfl)
  | keep hx hs hr =>
    have hk := h.lots _ (List.mem_of_getElem? hx)
    exact h.set hx rfl ⟨hk.thing, hk.unit, hk.n1, hk.n2, .inr ⟨.inr (.inl rfl), rfl⟩, fun h => by simp at h⟩
  | enter hw hl hlen =>
    rename_i x fk why
    refine ⟨enter_ids h.ids _ _ _ _, fun y hy => ?_, h.terms, h.units, h.grains, h.d0, h.d1, by simp [MState.enter]; omega⟩
    rcases List.mem_append.1 hy with hy | hy
    · exact (h.lots y hy).same (M.enter x fk 0 why) rfl
    · simp at hy
      subst hy
      have := hl.left
      have := hl.n1
      exact ⟨hl.thing, hl.unit, hl.n1, hl.n2, .inl ⟨.inl rfl, by show 1 ≤ x.Left; omega, by show x.Left ≤ x.N; omega⟩, fun h => by simp at h⟩
  | day h1 h2 => exact ⟨h.ids, fun y hy => LotOk.same (h.lots y hy) _ rfl, h.terms, h.units, h.grains, Int.le_trans h.d0 h1, h2, h.len⟩
  | unit hn hf =>
    refine ⟨h.ids, fun y hy => (h.lots y hy).mono fun n hn => by simp only [List.any_append, hn, Bool.true_or], h.terms, fun u hu => ?_, fun u hu v hv => ?_, h.d0, h.d1, h.len⟩
    · rcases List.mem_append.1 hu with hu | hu
      · exact h.units u hu
      · simp at hu; subst hu; exact hn
    · rcases List.mem_append.1 hu with hu | hu
      · exact h.grains u hu v hv
      · simp at hu; subst hu; cases hv
  | value hu g1 g2 =>
    rename_i i u g
    refine ⟨h.ids, fun y hy => (h.lots y hy).mono fun n hn => ?_, h.terms, fun v hv => ?_, fun y hy v hv => ?_, h.d0, h.d1, h.len⟩
    · rw [List.any_eq_true] at hn ⊢
      obtain ⟨v, hv, he⟩ := hn
      obtain ⟨j, hj⟩ := List.getElem?_of_mem hv
      by_cases hij : i = j
      · subst hij
        rw [hu] at hj
        cases hj
        exact ⟨{ u with values := u.values ++ [⟨M.day, g⟩] }, List.mem_of_getElem? (by rw [List.getElem?_set_self (List.getElem?_eq_some_iff.1 hu).1]), he⟩
      · exact ⟨v, List.mem_of_getElem? (by rw [List.getElem?_set_ne hij]; exact hj), he⟩
    · rcases List.mem_or_eq_of_mem_set hv with hv | hv
      · exact h.units v hv
      · rw [hv]; exact h.units u (List.mem_of_getElem? hu)
    · rcases List.mem_or_eq_of_mem_set hy with hy | hy
      · exact h.grains y hy v hv
      · subst hy
        rcases List.mem_append.1 hv with hv | hv
        · exact h.grains u (List.mem_of_getElem? hu) v hv
        · simp at hv; subst hv; exact ⟨g1, g2⟩
  | term h1 h2 h3 =>
    refine ⟨h.ids, fun y hy => LotOk.same (h.lots y hy) _ rfl, fun t ht => ?_, h.units, h.grains, h.d0, h.d1, h.len⟩
    rcases List.mem_append.1 ht with ht | ht
    · exact h.terms t ht
    · simp at ht; subst ht; exact ⟨h2, h3⟩
theorem Moves.j {M M' : MState} (hm : Moves M M') (h : J M) : J M' := by
  induction hm with
  | refl => exact h
  | tail _ h2 ih => exact h2.j ih
end Go.Proofs.YtcbijkakoepglaaGreat
namespace Go.Proofs.YtcbijkakoepglaaGreat
open Go Go.Wx

/-- lots that are open are due later. -/
def OL (M : MState) : Prop := ∀ x ∈ M.lots, x.State = 1 → M.day < x.Due
theorem Move.day_le {M M' : MState} (h : Move M M') : M.day ≤ M'.day := by
  cases h <;> first | exact Int.le_refl _ | assumption
theorem Moves.day_le {M M' : MState} (h : Moves M M') : M.day ≤ M'.day := by
  induction h with
  | refl => exact Int.le_refl _
  | tail _ h2 ih => exact Int.le_trans ih h2.day_le

/-! ### forfeits -/
theorem forfeit_day (M : MState) (id q d : Int) : ({ M with day := d } : MState).forfeit id q = { M.forfeit id q with day := d } := by
  unfold MState.forfeit
  simp only
  cases M.lots[(id - 1).toNat]? <;> rfl
theorem forfeits_day : ∀ (l : List (Int × Int)) (M : MState) (d : Int), ({ M with day := d } : MState).forfeits l = { M.forfeits l with day := d }
  | [], _, _ => rfl
  | a :: l, M, d => by
    show (({ M with day := d } : MState).forfeit a.1 a.2).forfeits l = { (M.forfeit a.1 a.2).forfeits l with day := d }
    rw [forfeit_day, forfeits_day l]
theorem id_at {M : MState} (hI : IdOk M) {x : TLot} {i : Nat} (h : M.lots[i]? = some x) : (x.Id - 1).toNat = i := by
  have := hI i x h
  omega
theorem forfeit_at {M : MState} {x : TLot} (h : M.lots[(x.Id - 1).toNat]? = some x) (q : Int) : M.forfeit x.Id q = (M.post ⟨q, x.Unit, x.Left, 2, x.Thing, 4, 0, 3, x.Id⟩).setLot (x.Id - 1).toNat { x with State := 3 } := by
  unfold MState.forfeit
  rw [h]
theorem rest_at {M : MState} (hI : IdOk M) {x x' : TLot} {ds : List TLot} (hx : M.lots[(x.Id - 1).toNat]? = some x) (hn : ((x :: ds).map (·.Id)).Nodup) {y : TLot} (hy : y ∈ ds) (h : M.lots[(y.Id - 1).toNat]? = some y) : (M.lots.set (x.Id - 1).toNat x')[(y.Id - 1).toNat]? = some y := by
  rw [List.getElem?_set_ne, h]
  intro e
  have h1 := hI _ _ hx
  have h2 := hI _ _ h
  rw [List.map_cons, List.nodup_cons] at hn
  exact hn.1 (List.mem_map.2 ⟨y, hy, by omega⟩)
theorem forfeits_moves (q : TLot → Int) {D : Int} (hD : D ≤ 100000) : ∀ (ds : List TLot) (M : MState), IdOk M → (∀ x ∈ ds, M.lots[(x.Id - 1).toNat]? = some x ∧ x.State = 1) → (ds.map (·.Id)).Nodup → (ds.Pairwise fun x y => q x ≤ q y) → (∀ x ∈ ds, M.day ≤ q x ∧ q x ≤ D) → M.day ≤ D →
    ∃ M', Moves M M' ∧ M'.day ≤ D ∧ M.forfeits (ds.map fun x => (x.Id, q x)) = { M' with day := M.day }
  | [], M, _, _, _, _, _, hd => ⟨M, .refl, hd, rfl⟩
  | x :: ds, M, hI, hat, hn, hs, hq, hd => by
    obtain ⟨hx, hst⟩ := hat x List.mem_cons_self
    obtain ⟨q1, q2⟩ := hq x List.mem_cons_self
    obtain ⟨s1, s2⟩ := List.pairwise_cons.1 hs
    have m1 : Move M { M with day := q x } := .day q1 (Int.le_trans q2 hD)
    have m2 : Move { M with day := q x } ((({ M with day := q x } : MState).post ⟨q x, x.Unit, x.Left, 2, x.Thing, 4, 0, 3, x.Id⟩).setLot (x.Id - 1).toNat { x with State := 3 }) := .turn (M := { M with day := q x }) hx (.forfeit hst)
    have hI2 : IdOk ((({ M with day := q x } : MState).post ⟨q x, x.Unit, x.Left, 2, x.Thing, 4, 0, 3, x.Id⟩).setLot (x.Id - 1).toNat { x with State := 3 }) := IdOk.setLot (M := M.post ⟨q x, x.Unit, x.Left, 2, x.Thing, 4, 0, 3, x.Id⟩) hI hx rfl
    obtain ⟨M', h1, h2, h3⟩ := forfeits_moves q hD ds _ hI2 (fun y hy => ⟨rest_at hI hx hn hy (hat y (List.mem_cons_of_mem _ hy)).1, (hat y (List.mem_cons_of_mem _ hy)).2⟩) (by rw [List.map_cons, List.nodup_cons] at hn; exact hn.2) s2 (fun y hy => ⟨s1 y hy, (hq y (List.mem_cons_of_mem _ hy)).2⟩) q2
    refine ⟨M', .head m1 (.head m2 h1), h2, ?_⟩
    show (M.forfeit x.Id (q x)).forfeits (ds.map fun x => (x.Id, q x)) = _
    rw [forfeit_at hx]
    have e : (M.post ⟨q x, x.Unit, x.Left, 2, x.Thing, 4, 0, 3, x.Id⟩).setLot (x.Id - 1).toNat { x with State := 3 } = { ((({ M with day := q x } : MState).post ⟨q x, x.Unit, x.Left, 2, x.Thing, 4, 0, 3, x.Id⟩).setLot (x.Id - 1).toNat { x with State := 3 }) with day := M.day } := rfl
    rw [e, forfeits_day, h3]
theorem forfeits_open (q : TLot → Int) : ∀ (ds : List TLot) (M : MState), IdOk M → (∀ x ∈ ds, M.lots[(x.Id - 1).toNat]? = some x) → (ds.map (·.Id)).Nodup →
    ∀ y ∈ (M.forfeits (ds.map fun x => (x.Id, q x))).lots, y.State = 1 → y ∈ M.lots ∧ y ∉ ds
  | [], M, _, _, _, y, hy, _ => ⟨hy, by simp⟩
  | x :: ds, M, hI, hat, hn, y, hy, hs => by
    have hx := hat x List.mem_cons_self
    have hI2 : IdOk ((M.post ⟨q x, x.Unit, x.Left, 2, x.Thing, 4, 0, 3, x.Id⟩).setLot (x.Id - 1).toNat { x with State := 3 }) := IdOk.setLot (M := M.post ⟨q x, x.Unit, x.Left, 2, x.Thing, 4, 0, 3, x.Id⟩) hI hx rfl
    have hy : y ∈ ((M.forfeit x.Id (q x)).forfeits (ds.map fun x => (x.Id, q x))).lots := hy
    rw [forfeit_at hx] at hy
    obtain ⟨h1, h2⟩ := forfeits_open q ds _ hI2 (fun z hz => rest_at hI hx hn hz (hat z (List.mem_cons_of_mem _ hz))) (by rw [List.map_cons, List.nodup_cons] at hn; exact hn.2) y hy hs
    have h1 : y ∈ M.lots.set (x.Id - 1).toNat { x with State := 3 } := h1
    obtain ⟨j, hj⟩ := List.getElem?_of_mem h1
    by_cases e : (x.Id - 1).toNat = j
    · subst e
      rw [List.getElem?_set_self (List.getElem?_eq_some_iff.1 hx).1] at hj
      cases hj
      simp at hs
    · rw [List.getElem?_set_ne e] at hj
      refine ⟨List.mem_of_getElem? hj, fun hm => ?_⟩
      rcases List.mem_cons.1 hm with rfl | hm
      · exact e (id_at hI hj)
      · exact h2 hm
theorem mem_due {M : MState} {d : Int} {x : TLot} : x ∈ M.due d ↔ x ∈ M.lots ∧ x.State = 1 ∧ x.Due ≤ d := by
  unfold MState.due
  rw [(isort_perm _).mem_iff, List.mem_filter]
  simp [isDue]
theorem ids_nodup {M : MState} (hI : IdOk M) : (M.lots.map (·.Id)).Nodup := by
  rw [List.Nodup, List.pairwise_iff_getElem]
  intro i j hi hj hij
  simp only [List.length_map] at hi hj
  rw [List.getElem_map, List.getElem_map]
  have h1 := hI i _ (List.getElem?_eq_getElem hi)
  have h2 := hI j _ (List.getElem?_eq_getElem hj)
  omega
theorem due_nodup {M : MState} (hI : IdOk M) (d : Int) : ((M.due d).map (·.Id)).Nodup := by
  unfold MState.due
  refine ((isort_perm _).map _).nodup_iff.2 ?_
  exact (ids_nodup hI).sublist ((List.filter_sublist).map _)
theorem due_at {M : MState} (hI : IdOk M) {d : Int} {x : TLot} (hx : x ∈ M.due d) : M.lots[(x.Id - 1).toNat]? = some x := by
  obtain ⟨j, hj⟩ := List.getElem?_of_mem (mem_due.1 hx).1
  rw [id_at hI hj]; exact hj
theorem due_sorted (M : MState) (d : Int) : (M.due d).Pairwise fun x y => x.Due ≤ y.Due := by
  unfold MState.due
  refine (isort_asc swoLot _).imp fun {x y} h => ?_
  rw [ltLot_false] at h
  omega
theorem advance_moves {M : MState} (hJ : J M) (hO : OL M) {day : Int} (h1 : M.day ≤ day) (h2 : day ≤ 100000) : Moves M (M.advance day) ∧ OL (M.advance day) := by
  have hI := hJ.ids
  obtain ⟨M', hm, hd, e⟩ := forfeits_moves (fun x => x.Due) h2 (M.due day) M hI (fun x hx => ⟨due_at hI hx, (mem_due.1 hx).2.1⟩) (due_nodup hI day) (due_sorted M day) (fun x hx => by
    obtain ⟨k1, k2, k3⟩ := mem_due.1 hx
    have := hO x k1 k2
    exact ⟨by omega, k3⟩) h1
  constructor
  · unfold MState.advance
    rw [e]
    exact hm.tail (.day hd h2)
  · intro x hx hs
    have hx : x ∈ (M.forfeits ((M.due day).map fun x => (x.Id, x.Due))).lots := hx
    obtain ⟨k1, k2⟩ := forfeits_open (fun x => x.Due) (M.due day) M hI (fun x hx => due_at hI hx) (due_nodup hI day) x hx hs
    show day < x.Due
    apply Classical.byContradiction
    intro hc
    exact k2 (mem_due.2 ⟨k1, hs, by omega⟩)
theorem late_moves {M : MState} (hJ : J M) : Moves M M.late ∧ OL M.late ∧ M.late.day = M.day := by
  have hI := hJ.ids
  obtain ⟨M', hm, hd, e⟩ := forfeits_moves (fun _ => M.day) hJ.d1 (M.due M.day) M hI (fun x hx => ⟨due_at hI hx, (mem_due.1 hx).2.1⟩) (due_nodup hI _) (List.pairwise_of_forall fun _ _ => Int.le_refl _) (fun x hx => ⟨Int.le_refl _, Int.le_refl _⟩) (Int.le_refl _)
  have hday : M'.day = M.day := Int.le_antisymm hd hm.day_le
  have e : M.late = M' := by
    unfold MState.late
    rw [e, ← hday]
  refine ⟨by rw [e]; exact hm, fun x hx hs => ?_, by rw [e]; exact hday⟩
  have hx : x ∈ (M.forfeits ((M.due M.day).map fun x => (x.Id, M.day))).lots := hx
  obtain ⟨k1, k2⟩ := forfeits_open (fun _ => M.day) (M.due M.day) M hI (fun x hx => due_at hI hx) (due_nodup hI _) x hx hs
  rw [e, hday]
  apply Classical.byContradiction
  intro hc
  exact k2 (mem_due.2 ⟨k1, hs, by omega⟩)

/-! ### the other parts -/
theorem each_moves {M : MState} {sel : TLot → Bool} {upd : TLot → TLot} {mk : TLot → TPosting} (hsel : ∀ x ∈ M.lots, sel x = true → ∃ n fk fi tk ti why, Turn x (upd x) n fk fi tk ti why ∧ mk x = ⟨M.day, x.Unit, n, fk, fi, tk, ti, why, x.Id⟩) : Moves M (M.each sel upd mk) := by
  rw [← eachTo_all]
  have : ∀ i, i ≤ M.lots.length → Moves M (M.eachTo sel upd mk i) := by
    intro i
    induction i with
    | zero => intro _; unfold MState.eachTo; simp; exact .refl
    | succ i ih =>
      intro hi
      have hx : M.lots[i]? = some M.lots[i] := List.getElem?_eq_getElem (by omega)
      rw [eachTo_step hx]
      split
      · rename_i hs
        obtain ⟨n, fk, fi, tk, ti, why, ht, e⟩ := hsel _ (List.mem_of_getElem? hx) hs
        rw [e]
        exact (ih (by omega)).tail (.turn (M := M.eachTo sel upd mk i) (eachTo_get hx) ht)
      · exact ih (by omega)
  exact this _ (Nat.le_refl _)
theorem refTo_all (M : MState) (day thing person : Int) : M.refTo day thing person M.lots.length = M.ref day thing person := by
  unfold MState.refTo MState.ref; simp
theorem ref_moves {M : MState} {thing person : Int} (hp : isId person = true) : Moves M (M.ref M.day thing person) := by
  rw [← refTo_all]
  have : ∀ i, i ≤ M.lots.length → Moves M (M.refTo M.day thing person i) := by
    intro i
    induction i with
    | zero => intro _; unfold MState.refTo; simp; exact .refl
    | succ i ih =>
      intro hi
      have hx : M.lots[i]? = some M.lots[i] := List.getElem?_eq_getElem (by omega)
      generalize hxx : M.lots[i] = x at hx
      rw [refTo_step hx]
      have ih := ih (by omega)
      have hg := refTo_get (day := M.day) (thing := thing) (person := person) hx
      by_cases hs : (selF thing x && okR M.day x) = true
      · have hst : x.State = 3 := by
          simp only [Bool.and_eq_true, selF, beq_iff_eq] at hs
          exact hs.1.2
        by_cases hr : 0 < restR x
        · have e1 : updR M.day thing x = { x with State := 4, Left := 0 } := by unfold updR; rw [if_pos hs]
          have e2 : mkR M.day thing person x = some ⟨M.day, x.Unit, restR x, 4, 0, 3, person, 4, x.Id⟩ := by unfold mkR; rw [hs, decide_eq_true hr]; rfl
          rw [e1, e2]
          exact ih.tail (.turn (M := M.refTo M.day thing person i) hg (.refund person hst hp hr))
        · have e1 : updR M.day thing x = { x with State := 4, Left := 0 } := by unfold updR; rw [if_pos hs]
          have e2 : mkR M.day thing person x = none := by unfold mkR; rw [hs, decide_eq_false hr]; rfl
          rw [e1, e2]
          have := ih.tail (.keep (M := M.refTo M.day thing person i) hg hst hr)
          simpa [MState.setLot, MState.refTo] using this
      · have e1 : updR M.day thing x = x := by unfold updR; rw [if_neg hs]
        have e2 : mkR M.day thing person x = none := by
          unfold mkR
          rw [if_neg]
          intro h
          rw [Bool.and_eq_true] at h
          exact hs h.1
        rw [e1, e2]
        have : ({ M with lots := (M.refTo M.day thing person i).lots.set i x, postings := (M.refTo M.day thing person i).postings ++ (none : Option TPosting).toList } : MState) = M.refTo M.day thing person i := by
          have hset : (M.refTo M.day thing person i).lots.set i x = (M.refTo M.day thing person i).lots := by
            obtain ⟨hl, hg'⟩ := List.getElem?_eq_some_iff.1 hg
            rw [← hg']; exact List.set_getElem_self hl
          rw [hset]; simp [MState.refTo]
        rw [this]; exact ih
  exact this _ (Nat.le_refl _)
end Go.Proofs.YtcbijkakoepglaaGreat
namespace Go.Proofs.YtcbijkakoepglaaGreat
open Go Go.Wx

theorem oper_moves {M : MState} (hJ : J M) (hO : OL M) {day : Int} {g : MState → Int × MState} (hg : ∀ A, J A → OL A → A.day = day → (g A).1 = 0 → Moves A (g A).2 ∧ OL (g A).2) : Moves M (M.oper day g).2 ∧ OL (M.oper day g).2 := by
  unfold MState.oper
  split
  · exact ⟨.refl, hO⟩
  rename_i h1
  split
  · exact ⟨.refl, hO⟩
  rename_i h2
  split
  · exact ⟨.refl, hO⟩
  rename_i h3
  split
  · exact ⟨.refl, hO⟩
  obtain ⟨a1, a2⟩ := advance_moves hJ hO (day := day) (by omega) (by omega)
  obtain ⟨b1, b2⟩ := hg (M.advance day) (a1.j hJ) a2 rfl (by simpa using h3)
  exact ⟨a1.trans b1, b2⟩
theorem operO_moves {α : Type} {M : MState} (hJ : J M) (hO : OL M) {z : α} {day : Int} {g : MState → Int × MState × α} (hg : ∀ A, J A → OL A → A.day = day → (g A).1 = 0 → Moves A (g A).2.1 ∧ OL (g A).2.1) : Moves M (M.operO z day g).2.1 ∧ OL (M.operO z day g).2.1 := by
  unfold MState.operO
  split
  · exact ⟨.refl, hO⟩
  rename_i h1
  split
  · exact ⟨.refl, hO⟩
  rename_i h2
  split
  · exact ⟨.refl, hO⟩
  rename_i h3
  split
  · exact ⟨.refl, hO⟩
  obtain ⟨a1, a2⟩ := advance_moves hJ hO (day := day) (by omega) (by omega)
  obtain ⟨b1, b2⟩ := hg (M.advance day) (a1.j hJ) a2 rfl (by simpa using h3)
  exact ⟨a1.trans b1, b2⟩
theorem each_ol {M : MState} (hO : OL M) {sel : TLot → Bool} {upd : TLot → TLot} {mk : TLot → TPosting} (hu : ∀ x, (upd x).State ≠ 1) : OL (M.each sel upd mk) := by
  intro x hx hs
  obtain ⟨y, hy, rfl⟩ := List.mem_map.1 (show x ∈ M.lots.map fun x => if sel x then upd x else x from hx)
  split at hs
  · exact absurd hs (hu y)
  · rename_i hn
    rw [if_neg hn]
    exact hO y hy hs
theorem term_le {M : MState} (h : ∀ t ∈ M.terms, 1 ≤ t.days ∧ t.days ≤ 40000) (name : ByteArray) (n day : Int) : M.term name n day ≤ 40000 := by
  unfold MState.term
  have : ∀ (l : List Tterm) (b : Tterm), b.days ≤ 40000 → (∀ t ∈ l, 1 ≤ t.days ∧ t.days ≤ 40000) → (termOn name n day b l).days ≤ 40000 := by
    intro l
    induction l with
    | nil => intro b hb _; exact hb
    | cons t l ih =>
      intro b hb hl
      unfold termOn
      refine ih _ ?_ fun t ht => hl t (List.mem_cons_of_mem _ ht)
      split
      · exact (hl t List.mem_cons_self).2
      · exact hb
  exact this _ _ (by simp) h
theorem due_gt {M : MState} (h : ∀ t ∈ M.terms, 1 ≤ t.days ∧ t.days ≤ 40000) {day : Int} (d0 : 0 ≤ day) (d1 : day ≤ 100000) (g : TAmount) : day < dueOf M day g ∧ dueOf M day g ≤ 100001 := by
  have ht := term_le h g.Unit g.N day
  unfold dueOf
  simp only
  split
  · rename_i h0
    have e : wr (day + M.term g.Unit g.N day) = day + M.term g.Unit g.N day := wrap_id (by omega) (by omega)
    rw [e]
    split <;> omega
  · omega
theorem enter_ol {M : MState} (hO : OL M) {x : TLot} {fk fi why : Int} (h : M.day < x.Due) : OL (M.enter x fk fi why) := by
  intro y hy hs
  rcases List.mem_append.1 (show y ∈ M.lots ++ [{ x with Id := M.nextId, State := 1, Bag := 0 }] from hy) with hy | hy
  · exact hO y hy hs
  · simp at hy; subst hy; exact h
theorem goods_ok {M : MState} : ∀ {gs : List TAmount} {q : Option TAmount}, goodsBad M q gs = 0 → ∀ g ∈ gs, 1 ≤ g.N ∧ g.N ≤ 1000000000 ∧ 0 ≤ M.find g.Unit
  | [], _, _, _, h => by cases h
  | a :: gs, q, h, g, hg => by
    unfold goodsBad at h
    split at h
    · simp at h
    rename_i h1
    split at h
    · simp at h
    rename_i h2
    rcases List.mem_cons.1 hg with rfl | hg
    · exact ⟨by omega, by omega, by omega⟩
    · exact goods_ok h g hg
theorem deposit_moves {day thing layer : Int} (ht : isId thing = true) : ∀ (gs : List TAmount) {M : MState}, J M → OL M → M.day = day → (∀ g ∈ gs, 1 ≤ g.N ∧ g.N ≤ 1000000000 ∧ 0 ≤ M.find g.Unit) → M.lots.length + gs.length ≤ 2000 → Moves M (depositOn day thing layer M gs).1 ∧ OL (depositOn day thing layer M gs).1
  | [], M, _, hO, _, _, _ => ⟨.refl, hO⟩
  | g :: gs, M, hJ, hO, hd, hg, hl => by
    obtain ⟨g1, g2, g3⟩ := hg g List.mem_cons_self
    simp only [List.length_cons] at hl
    have hdue := due_gt hJ.terms (day := day) (by rw [← hd]; exact hJ.d0) (by rw [← hd]; exact hJ.d1) g
    have m : Move M (M.enter ⟨0, thing, layer, day, dueOf M day g, g.Unit, g.N, g.N, 0, 0⟩ 1 0 1) := .enter (.inl ⟨rfl, .inl rfl⟩) ⟨ht, g3, g1, g2, rfl⟩ (by omega)
    obtain ⟨h1, h2⟩ := deposit_moves ht gs (m.j hJ) (enter_ol hO (by rw [hd]; exact hdue.1)) hd (fun g hgm => hg g (List.mem_cons_of_mem _ hgm)) (by simp [MState.enter]; omega)
    exact ⟨.head m h1, h2⟩
theorem recv_ok {M : MState} : ∀ {ls : List TLot}, recvLook M ls = 0 → ∀ x ∈ ls, recvBad x = false ∧ 0 ≤ M.find x.Unit
  | [], _, _, h => by cases h
  | a :: ls, h, x, hx => by
    unfold recvLook at h
    split at h
    · simp at h
    rename_i h1
    split at h
    · simp at h
    rename_i h2
    rcases List.mem_cons.1 hx with rfl | hx
    · exact ⟨by simpa using h1, by omega⟩
    · exact recv_ok h x hx
theorem recv_moves {day : Int} : ∀ (ls : List TLot) {M : MState}, J M → M.day = day → (∀ x ∈ ls, recvBad x = false ∧ 0 ≤ M.find x.Unit) → M.lots.length + ls.length ≤ 2000 → Moves M (recvOn day M ls).1 ∧ (recvOn day M ls).1.day = day
  | [], M, _, hd, _, _ => ⟨.refl, hd⟩
  | x :: ls, M, hJ, hd, hg, hl => by
    obtain ⟨g1, g2⟩ := hg x List.mem_cons_self
    simp only [List.length_cons] at hl
    unfold recvBad at g1
    simp only [Bool.or_eq_false_iff, Bool.not_eq_false', decide_eq_false_iff_not] at g1
    have m : Move M (M.enter ⟨0, x.Thing, x.Layer, day, x.Due, x.Unit, x.Left, x.Left, 0, 0⟩ 1 0 10) := .enter (.inl ⟨rfl, .inr rfl⟩) ⟨g1.1.1.1.1.1.1, g2, by show 1 ≤ x.Left; omega, by show x.Left ≤ 1000000000; omega, rfl⟩ (by omega)
    obtain ⟨h1, h2⟩ := recv_moves ls (m.j hJ) hd (fun y hy => hg y (List.mem_cons_of_mem _ hy)) (by simp [MState.enter]; omega)
    exact ⟨.head m h1, h2⟩
theorem wr_range (x : Int) : -9223372036854775808 ≤ wr x ∧ wr x ≤ 9223372036854775807 := by
  show -9223372036854775808 ≤ IntKind.wrap .i64 x ∧ IntKind.wrap .i64 x ≤ 9223372036854775807
  rw [IntKind.wrap_i64]
  omega
theorem sumLeft_le : ∀ (l : List TLot) (v : Int), v ≤ 9223372036854775807 → sumLeft v l ≤ 9223372036854775807
  | [], _, h => h
  | x :: l, v, _ => sumLeft_le l _ (wr_range _).2
theorem cv_ol {M : MState} (hO : OL M) {i : Nat} {x : TLot} (hx : M.lots[i]? = some x) (hs : x.State = 1) (m : Int) (p : TPosting) : OL ((M.setLot i (cvLot x m)).post p) := by
  intro y hy h1
  rcases List.mem_or_eq_of_mem_set (show y ∈ M.lots.set i (cvLot x m) from hy) with hy | hy
  · exact hO y hy h1
  · rw [hy]; exact hO x (List.mem_of_getElem? hx) hs
theorem take_moves {thing person : Int} {name : ByteArray} (hp : isId person = true) : ∀ (os : List TLot) {M : MState} {n : Int}, J M → OL M → 0 ≤ n → n ≤ 9223372036854775807 →
    (∀ o ∈ os, M.lots[(o.Id - 1).toNat]? = some o ∧ o.State = 1 ∧ o.Unit = name ∧ o.Thing = thing ∧ 1 ≤ o.Left ∧ o.Left ≤ 1000000000) → (os.map (·.Id)).Nodup → Moves M (takeOn M.day thing person name M n os) ∧ OL (takeOn M.day thing person name M n os)
  | [], M, n, _, hO, _, _, _, _ => ⟨.refl, hO⟩
  | o :: os, M, n, hJ, hO, h0, h1, hat, hn => by
    obtain ⟨k1, k2, k3, k4, k5, k6⟩ := hat o List.mem_cons_self
    unfold takeOn
    generalize hk : (if o.Left < n then o.Left else n) = kk
    have hkk : 0 ≤ kk ∧ kk ≤ n ∧ kk ≤ o.Left := by subst hk; split <;> omega
    split
    · exact ⟨.refl, hO⟩
    rename_i hz
    rw [k1]
    simp only
    have m : Move M ((M.setLot (o.Id - 1).toNat (cvLot o kk)).post ⟨M.day, name, kk, 2, thing, 3, person, 2, o.Id⟩) := by
      have := Move.turn (M := M) k1 (.part person kk k2 (by omega) hkk.2.2 hp)
      rw [k3, k4] at this
      exact this
    have e : wr (n - kk) = n - kk := wrap_id (by omega) (by omega)
    rw [e]
    obtain ⟨r1, r2⟩ := take_moves (thing := thing) (name := name) hp os (M := (M.setLot (o.Id - 1).toNat (cvLot o kk)).post ⟨M.day, name, kk, 2, thing, 3, person, 2, o.Id⟩) (n := n - kk) (m.j hJ) (cv_ol hO k1 k2 kk _) (by omega) (by omega) (fun y hy => ⟨rest_at (x' := cvLot o kk) hJ.ids k1 hn hy (hat y (List.mem_cons_of_mem _ hy)).1, (hat y (List.mem_cons_of_mem _ hy)).2⟩) (by rw [List.map_cons, List.nodup_cons] at hn; exact hn.2)
    exact ⟨.head m r1, r2⟩
theorem cv_range {a b n : Int} (ha : 0 < a) (ha2 : a ≤ 100000) (hb : 0 < b) (hb2 : b ≤ 100000) (hn : 1 ≤ n) (hn2 : n ≤ 1000000000) (ht : ¬ cvTimes a b n < 1) :
    wr (cvTimes a b n * cvB a b) = cvTimes a b n * cvB a b ∧ wr (cvTimes a b n * cvA a b) = cvTimes a b n * cvA a b ∧ 1 ≤ cvTimes a b n * cvB a b ∧ cvTimes a b n * cvB a b ≤ n ∧ 1 ≤ cvTimes a b n * cvA a b ∧ cvTimes a b n * cvA a b ≤ 1000000000 := by
  obtain ⟨_, a1, a2, b1, b2, _, _⟩ := cv_parts ha ha2 hb hb2
  have d1 : Int.tdiv 1000000000 (cvA a b) = 1000000000 / cvA a b := Int.tdiv_eq_ediv_of_nonneg (by omega)
  have d2 : Int.tdiv n (cvB a b) = n / cvB a b := Int.tdiv_eq_ediv_of_nonneg (by omega)
  have e1 : 1000000000 / cvA a b * cvA a b ≤ 1000000000 := Int.ediv_mul_le _ (by omega)
  have e2 : n / cvB a b * cvB a b ≤ n := Int.ediv_mul_le _ (by omega)
  have p1 : 0 ≤ 1000000000 / cvA a b := Int.ediv_nonneg (by omega) (by omega)
  have p2 : 0 ≤ n / cvB a b := Int.ediv_nonneg (by omega) (by omega)
  have q1 : 1000000000 / cvA a b ≤ 1000000000 := by
    have := Int.mul_le_mul_of_nonneg_left a1 p1
    omega
  have q2 : n / cvB a b ≤ n := by
    have := Int.mul_le_mul_of_nonneg_left b1 p2
    omega
  have w1 : wr (1000000000 / cvA a b) = 1000000000 / cvA a b := wrap_id (by omega) (by omega)
  have w2 : wr (n / cvB a b) = n / cvB a b := wrap_id (by omega) (by omega)
  have hT : cvTimes a b n = if 1000000000 / cvA a b < n / cvB a b then 1000000000 / cvA a b else n / cvB a b := by
    unfold cvTimes
    rw [d1, d2, w1, w2]
  have t1 : cvTimes a b n ≤ 1000000000 / cvA a b := by rw [hT]; split <;> omega
  have t2 : cvTimes a b n ≤ n / cvB a b := by rw [hT]; split <;> omega
  have t0 : 1 ≤ cvTimes a b n := by omega
  have m1 := Int.mul_le_mul_of_nonneg_right t1 (show 0 ≤ cvA a b by omega)
  have m2 := Int.mul_le_mul_of_nonneg_right t2 (show 0 ≤ cvB a b by omega)
  have m3 := Int.mul_le_mul t0 a1 (by omega) (show 0 ≤ cvTimes a b n by omega)
  have m4 := Int.mul_le_mul t0 b1 (by omega) (show 0 ≤ cvTimes a b n by omega)
  refine ⟨wrap_id (by omega) (by omega), wrap_id (by omega) (by omega), ?_, ?_, ?_, ?_⟩ <;> omega
theorem moved_moves {M : MState} (hJ : J M) (hO : OL M) {z : List TAmount × List TLot} {day thing in_ : Int} {ok : Bool} {upd : TLot → TLot} {mk : TLot → TPosting} (hu : ∀ x, (upd x).State ≠ 1)
    (hm : ok = true → ∀ x : TLot, x.Thing = thing → x.State = in_ → ∃ n fk fi tk ti why, Turn x (upd x) n fk fi tk ti why ∧ mk x = ⟨day, x.Unit, n, fk, fi, tk, ti, why, x.Id⟩) :
    Moves M (M.operO z day (gMoved thing ok in_ upd mk id)).2.1 ∧ OL (M.operO z day (gMoved thing ok in_ upd mk id)).2.1 := by
  refine operO_moves hJ hO fun A jA oA dA h => ?_
  unfold gMoved at h ⊢
  split
  · rename_i hc; rw [if_pos hc] at h; simp at h
  rename_i hc; rw [if_neg hc] at h
  split
  · rename_i he; rw [if_pos he] at h; simp at h
  have hok : ok = true := by
    simp only [Bool.or_eq_true, Bool.not_eq_true', not_or, Bool.not_eq_false] at hc
    exact hc.2
  refine ⟨each_moves fun x _ hs => ?_, each_ol oA hu⟩
  simp only [selL, Bool.and_eq_true, beq_iff_eq] at hs
  rw [dA]
  exact hm hok x hs.1 hs.2
theorem run_moves {M : MState} (hJ : J M) (hO : OL M) (o : MOp) : Moves M (M.run o).2 ∧ OL (M.run o).2 := by
  unfold MState.run
  by_cases c0 : o.kind = 0
  · rw [if_pos c0]
    refine oper_moves hJ hO fun A jA oA dA h => ?_
    unfold gUnit at h ⊢
    split
    · rename_i hc; rw [if_pos hc] at h; simp at h
    rename_i hc; rw [if_neg hc] at h
    split
    · rename_i hc; rw [if_pos hc] at h; simp at h
    rename_i hc2; rw [if_neg hc2] at h
    split
    · rename_i hc; rw [if_pos hc] at h; simp at h
    rename_i hc3; rw [if_neg hc3] at h
    split
    · rename_i hc; rw [if_pos hc] at h; simp at h
    exact ⟨.one (.unit (by simpa using hc) (by omega)), oA⟩
  rw [if_neg c0]
  by_cases c1 : o.kind = 1
  · rw [if_pos c1]
    refine oper_moves hJ hO fun A jA oA dA h => ?_
    unfold gValue at h ⊢
    split
    · exact ⟨.refl, oA⟩
    split
    · exact ⟨.refl, oA⟩
    rename_i u hu
    split
    · exact ⟨.refl, oA⟩
    split
    · exact ⟨.refl, oA⟩
    rename_i hgr
    have := Move.value (M := A) (g := o.a) hu (by omega) (by omega)
    have e : ({ A with units := A.units.set (A.find o.unit).toNat { u with values := u.values ++ [⟨A.day, o.a⟩] } } : MState) = { A with units := A.units.set (A.find o.unit).toNat { u with values := u.values ++ [⟨o.day, o.a⟩] } } := by rw [dA]
    rw [e] at this
    exact ⟨.one this, oA⟩
  rw [if_neg c1]
  by_cases c2 : o.kind = 2
  · rw [if_pos c2]
    refine oper_moves hJ hO fun A jA oA dA h => ?_
    unfold gTerm at h ⊢
    split
    · exact ⟨.refl, oA⟩
    split
    · exact ⟨.refl, oA⟩
    rename_i hc
    split
    · exact ⟨.refl, oA⟩
    exact ⟨.one (.term dA.symm (by show 1 ≤ o.b; omega) (by show o.b ≤ 40000; omega)), oA⟩
  rw [if_neg c2]
  by_cases c3 : o.kind = 3
  · rw [if_pos c3]
    exact oper_moves hJ hO fun A jA oA dA h => ⟨.refl, oA⟩
  rw [if_neg c3]
  by_cases c4 : o.kind = 4
  · rw [if_pos c4]
    refine operO_moves hJ hO fun A jA oA dA h => ?_
    unfold gDeposit at h ⊢
    split
    · exact ⟨.refl, oA⟩
    rename_i h1
    split
    · exact ⟨.refl, oA⟩
    split
    · exact ⟨.refl, oA⟩
    rename_i h3
    split
    · exact ⟨.refl, oA⟩
    split
    · exact ⟨.refl, oA⟩
    exact deposit_moves (by simp at h1; exact h1.1) _ jA oA dA (goods_ok (by simpa using h3)) (by omega)
  rw [if_neg c4]
  by_cases c5 : o.kind = 5
  · rw [if_pos c5]
    refine moved_moves hJ hO (fun x => by simp [updPay]) fun hok x h1 h2 => ⟨_, _, _, _, _, _, .pay o.b h2 hok, ?_⟩
    rw [h1]; rfl
  rw [if_neg c5]
  by_cases c6 : o.kind = 6
  · rw [if_pos c6]
    refine operO_moves hJ hO fun A jA oA dA h => ?_
    unfold gTake at h ⊢
    split
    · exact ⟨.refl, oA⟩
    rename_i h1
    split
    · exact ⟨.refl, oA⟩
    split
    · exact ⟨.refl, oA⟩
    rename_i h3
    simp only [Bool.or_eq_true, Bool.not_eq_true', decide_eq_true_eq, not_or, Bool.not_eq_false, Bool.and_eq_true] at h1
    have hle := sumLeft_le (A.lots.filter (selT o.a o.unit)) 0 (by omega)
    rw [← dA]
    refine take_moves h1.1.2 _ jA oA (by omega) (by omega) (fun y hy => ?_) ?_
    · rw [(isort_perm _).mem_iff, List.mem_filter] at hy
      obtain ⟨hy, hs⟩ := hy
      simp only [selT, Bool.and_eq_true, beq_iff_eq, strEq_iff] at hs
      obtain ⟨j, hj⟩ := List.getElem?_of_mem hy
      have hk := jA.lots y hy
      refine ⟨by rw [id_at jA.ids hj]; exact hj, hs.2.1, hs.2.2, hs.1, ?_, ?_⟩
      · have := hk.live; omega
      · have := hk.live; have := hk.n2; omega
    · refine ((isort_perm _).map _).nodup_iff.2 ?_
      exact (ids_nodup jA.ids).sublist ((List.filter_sublist).map _)
  rw [if_neg c6]
  by_cases c7 : o.kind = 7
  · rw [if_pos c7]
    refine operO_moves hJ hO fun A jA oA dA h => ?_
    unfold gConvert at h ⊢
    split
    · exact ⟨.refl, oA⟩
    rename_i h1
    split
    · exact ⟨.refl, oA⟩
    rename_i x hx
    dsimp only at h ⊢
    split
    · exact ⟨.refl, oA⟩
    rename_i hs
    split
    · exact ⟨.refl, oA⟩
    rename_i hf
    split
    · exact ⟨.refl, oA⟩
    rename_i hn
    split
    · exact ⟨.refl, oA⟩
    rename_i hl
    split
    · exact ⟨.refl, oA⟩
    rename_i ht
    split
    · exact ⟨.refl, oA⟩
    rename_i hlen
    have hs : x.State = 1 := by simpa using hs
    have hxm := List.mem_of_getElem? hx
    have hk := jA.lots x hxm
    have va := value_range jA.grains x.Unit o.day
    have vb := value_range jA.grains o.to_ o.day
    simp only [not_or] at hf
    have hlive := hk.live
    have hk2 := hk.n2
    obtain ⟨e1, e2, r1, r2, r3, r4⟩ := cv_range (a := A.value x.Unit o.day) (b := A.value o.to_ o.day) (n := o.b) (by omega) va.2 (by omega) vb.2 (by omega) (by omega) ht
    rw [e1, e2]
    generalize cvTimes (A.value x.Unit o.day) (A.value o.to_ o.day) o.b * cvB (A.value x.Unit o.day) (A.value o.to_ o.day) = m at r1 r2 ⊢
    generalize cvTimes (A.value x.Unit o.day) (A.value o.to_ o.day) o.b * cvA (A.value x.Unit o.day) (A.value o.to_ o.day) = kk at r3 r4 ⊢
    have hid : x.Id = o.a := by have := jA.ids _ x hx; omega
    have m1 : Move A ((A.setLot (o.a - 1).toNat (cvLot x m)).post ⟨o.day, x.Unit, m, 2, x.Thing, 6, 0, 5, o.a⟩) := by
      have := Move.turn (M := A) hx (.swap m hs r1 (by omega))
      rw [dA, hid] at this
      exact this
    have m2 : Move ((A.setLot (o.a - 1).toNat (cvLot x m)).post ⟨o.day, x.Unit, m, 2, x.Thing, 6, 0, 5, o.a⟩) (A.conv (o.a - 1).toNat x o.day o.a o.to_ m kk) :=
      .enter (.inr ⟨rfl, rfl⟩) ⟨hk.thing, by show 0 ≤ A.find o.to_; omega, r3, r4, rfl⟩ (by simp [MState.post, MState.setLot]; omega)
    exact ⟨.head m1 (.one m2), enter_ol (cv_ol oA hx hs m _) (oA x hxm hs)⟩
  rw [if_neg c7]
  by_cases c8 : o.kind = 8
  · rw [if_pos c8]
    refine operO_moves hJ hO fun A jA oA dA h => ?_
    unfold gRefund at h ⊢
    split
    · exact ⟨.refl, oA⟩
    rename_i h1
    simp only [Bool.and_eq_false_iff, not_or, Bool.not_eq_false] at h1
    have m := ref_moves (M := A) (thing := o.a) h1.2
    rw [dA] at m
    have ol : OL (A.ref o.day o.a o.b) := by
      intro x hx hs
      obtain ⟨y, hy, rfl⟩ := List.mem_map.1 (show x ∈ A.lots.map (updR o.day o.a) from hx)
      unfold updR at hs ⊢
      split at hs
      · simp at hs
      · rename_i hn
        rw [if_neg hn]
        exact oA y hy hs
    split
    · exact ⟨m, ol⟩
    split
    · exact ⟨m, ol⟩
    exact ⟨m, ol⟩
  rw [if_neg c8]
  by_cases c9 : o.kind = 9
  · rw [if_pos c9]
    refine moved_moves hJ hO (fun x => by simp [updLose]) fun hok x h1 h2 => ⟨_, _, _, _, _, _, .lose h2, ?_⟩
    rw [h1]; rfl
  rw [if_neg c9]
  by_cases c10 : o.kind = 10
  · rw [if_pos c10]
    refine operO_moves hJ hO fun A jA oA dA h => ?_
    unfold gMoved at h ⊢
    split
    · exact ⟨.refl, oA⟩
    split
    · rename_i hc he; rw [if_neg hc, if_pos he] at h; simp at h
    have m := each_moves (M := A) (sel := selL o.a 5) (upd := updRecover) (mk := mkRecover o.day o.a) fun x _ hs => by
      simp only [selL, Bool.and_eq_true, beq_iff_eq] at hs
      refine ⟨_, _, _, _, _, _, .recover hs.2, ?_⟩
      rw [dA, hs.1]; rfl
    obtain ⟨l1, l2, _⟩ := late_moves (m.j jA)
    exact ⟨m.trans l1, l2⟩
  rw [if_neg c10]
  by_cases c11 : o.kind = 11
  · rw [if_pos c11]
    refine moved_moves hJ hO (fun x => by simp [updDispatch]) fun hok x h1 h2 => ⟨_, _, _, _, _, _, .dispatch o.b h2 hok, ?_⟩
    rw [h1]; rfl
  rw [if_neg c11]
  by_cases c12 : o.kind = 12
  · rw [if_pos c12]
    refine operO_moves hJ hO fun A jA oA dA h => ?_
    unfold gArrived at h ⊢
    have m := each_moves (M := A) (sel := selBag o.a) (upd := updArrive) (mk := mkArrive o.day o.a) fun x _ hs => by
      simp only [selBag, Bool.and_eq_true, beq_iff_eq] at hs
      refine ⟨_, _, _, _, _, _, .arrive hs.1, ?_⟩
      rw [dA, hs.2]; rfl
    have ol : OL (A.each (selBag o.a) updArrive (mkArrive o.day o.a)) := each_ol oA fun x => by simp [updArrive]
    split
    · exact ⟨.refl, oA⟩
    split
    · exact ⟨m, ol⟩
    exact ⟨m, ol⟩
  rw [if_neg c12]
  refine operO_moves hJ hO fun A jA oA dA h => ?_
  unfold gReceive at h ⊢
  split
  · exact ⟨.refl, oA⟩
  rename_i h1
  split
  · exact ⟨.refl, oA⟩
  obtain ⟨m1, m2⟩ := recv_moves o.lots jA dA (recv_ok (by simpa using h1)) (by omega)
  obtain ⟨l1, l2, _⟩ := late_moves (m1.j jA)
  exact ⟨m1.trans l1, l2⟩
end Go.Proofs.YtcbijkakoepglaaGreat
namespace Go.Proofs.YtcbijkakoepglaaGreat
open Go Go.Wx

theorem balOn_app (d : Int) : ∀ (a : List TPosting) (m : List (Tplace × Int)) (b : List TPosting), balOn d m (a ++ b) = balOn d (balOn d m a) b
  | [], _, _ => rfl
  | p :: a, m, b => by simp only [List.cons_append, balOn]; exact balOn_app d a _ b
theorem balOn_later {d : Int} : ∀ (b : List TPosting) (m : List (Tplace × Int)), (∀ p ∈ b, d < p.Day) → balOn d m b = m
  | [], _, _ => rfl
  | p :: b, m, h => by
    unfold balOn
    rw [if_neg (by have := h p List.mem_cons_self; omega)]
    exact balOn_later b m fun q hq => h q (List.mem_cons_of_mem _ hq)
theorem valueOn_app (d : Int) : ∀ (a : List Tdated) (v : Int) (b : List Tdated), valueOn d v (a ++ b) = valueOn d (valueOn d v a) b
  | [], _, _ => rfl
  | x :: a, v, b => by simp only [List.cons_append, valueOn]; exact valueOn_app d a _ b
def valueIn (d : Int) : Option MUnit → Int
  | some u => valueOn d 0 u.values
  | none => 0
theorem value_in (M : MState) (name : ByteArray) (d : Int) : M.value name d = valueIn d (M.units.find? fun u => strEq u.name name) := by
  unfold MState.value valueIn
  split <;> rename_i h <;> rw [h]
theorem value_set {n : ByteArray} {d day g : Int} (hd : d < day) : ∀ (l : List MUnit) (i : Nat) (u : MUnit), l[i]? = some u →
    valueIn d ((l.set i { u with values := u.values ++ [⟨day, g⟩] }).find? fun u => strEq u.name n) = valueIn d (l.find? fun u => strEq u.name n)
  | [], _, _, h => by simp at h
  | x :: l, 0, u, h => by
    simp at h
    subst h
    simp only [List.set_cons_zero, List.find?_cons]
    cases strEq x.name n with
    | true =>
      simp only [valueIn, valueOn_app]
      simp only [valueOn]
      rw [if_neg (by omega)]
    | false => rfl
  | x :: l, i + 1, u, h => by
    simp only [List.set_cons_succ, List.find?_cons]
    cases strEq x.name n with
    | true => rfl
    | false => exact value_set hd l i u (by simpa using h)

structure Same (d : Int) (M M' : MState) : Prop where
  post : ∃ ex, M'.postings = M.postings ++ ex ∧ ∀ p ∈ ex, d < p.Day
  value : ∀ name, M'.value name d = M.value name d
theorem Same.refl (d : Int) (M : MState) : Same d M M := ⟨⟨[], by simp, fun _ h => by cases h⟩, fun _ => rfl⟩
theorem Same.trans {d : Int} {M M1 M2 : MState} (h : Same d M M1) (h2 : Same d M1 M2) : Same d M M2 := by
  obtain ⟨e1, p1, q1⟩ := h.post
  obtain ⟨e2, p2, q2⟩ := h2.post
  refine ⟨⟨e1 ++ e2, by rw [p2, p1, List.append_assoc], fun p hp => ?_⟩, fun name => (h2.value name).trans (h.value name)⟩
  rcases List.mem_append.1 hp with hp | hp
  · exact q1 p hp
  · exact q2 p hp
theorem Move.same {d : Int} {M M' : MState} (h : Move M M') (hd : d < M.day) : Same d M M' := by
  cases h with
  | turn hx ht => exact ⟨⟨[_], rfl, fun p hp => by simp at hp; subst hp; exact hd⟩, fun _ => rfl⟩
  | keep hx hs hr => exact ⟨⟨[], by simp [MState.setLot], fun _ h => by cases h⟩, fun _ => rfl⟩
  | enter hw hl hlen => exact ⟨⟨[_], rfl, fun p hp => by simp at hp; subst hp; exact hd⟩, fun _ => rfl⟩
  | day h1 h2 => exact ⟨⟨[], by simp, fun _ h => by cases h⟩, fun _ => rfl⟩
  | unit hn hf =>
    rename_i name kind
    refine ⟨⟨[], by simp, fun _ h => by cases h⟩, fun n => ?_⟩
    rw [value_in, value_in]
    simp only [List.find?_append]
    cases M.units.find? (fun u => strEq u.name n) with
    | some u => rfl
    | none =>
      simp only [Option.none_or, List.find?_cons, List.find?_nil]
      cases strEq name n <;> rfl
  | value hu g1 g2 =>
    refine ⟨⟨[], by simp, fun _ h => by cases h⟩, fun n => ?_⟩
    rw [value_in, value_in]
    exact value_set hd _ _ _ hu
  | term h1 h2 h3 => exact ⟨⟨[], by simp, fun _ h => by cases h⟩, fun _ => rfl⟩
theorem Moves.same {d : Int} {M M' : MState} (h : Moves M M') (hd : d < M.day) : Same d M M' := by
  induction h with
  | refl => exact Same.refl d _
  | tail h1 h2 ih => exact ih.trans (h2.same (Int.lt_of_lt_of_le hd h1.day_le))
section
variable {d : Int} {M M' : MState}
theorem Same.bal (h : Same d M M') : balOn d [] M'.postings = balOn d [] M.postings := by
  obtain ⟨ex, p, q⟩ := h.post
  rw [p, balOn_app, balOn_later ex _ q]
theorem Same.trial (h : Same d M M') : M'.trial d = M.trial d := by unfold MState.trial; rw [h.bal]
theorem Same.balance (h : Same d M M') (a : TAccount) (name : ByteArray) : M'.balance a name d = M.balance a name d := by unfold MState.balance; rw [h.bal]
theorem Same.balances (h : Same d M M') (a : TAccount) : M'.balances a d = M.balances a d := by unfold MState.balances; rw [h.trial]
theorem Same.worth (h : Same d M M') (a : TAccount) : M'.worth a d = M.worth a d := by
  unfold MState.worth
  rw [h.balances]
  have : ∀ (l : List TAmount) (v : Int), worthOn M' d v l = worthOn M d v l := by
    intro l
    induction l with
    | nil => intro v; rfl
    | cons x l ih => intro v; unfold worthOn; rw [h.value]; exact ih _
  exact this _ _
end
theorem j_M0 : J M0 := ⟨fun i x h => by simp [M0] at h, fun x h => by simp [M0] at h, fun x h => by simp [M0] at h, fun x h => by simp [M0] at h, fun x h => by simp [M0] at h, by decide, by decide, by simp [M0]⟩
theorem ol_M0 : OL M0 := fun x h => by simp [M0] at h
theorem runs_moves : ∀ (os : List MOp) {M : MState}, J M → OL M → Moves M (M.runs os) ∧ OL (M.runs os)
  | [], M, _, hO => ⟨.refl, hO⟩
  | o :: os, M, hJ, hO => by
    obtain ⟨m, o1⟩ := run_moves hJ hO o
    obtain ⟨m2, o2⟩ := runs_moves os (m.j hJ) o1
    exact ⟨m.trans m2, o2⟩
end Go.Proofs.YtcbijkakoepglaaGreat
namespace Go.Proofs.YtcbijkakoepglaaGreat
open Go Go.Wx

structure PO (M : MState) : Prop where
  fine : ∀ p ∈ M.postings, fineP p = true
  days : M.postings.Pairwise fun p q => p.Day ≤ q.Day
  le : ∀ p ∈ M.postings, p.Day ≤ M.day
theorem named_of {M : MState} (h : J M) {name : ByteArray} (hn : 0 ≤ M.find name) : named name = true := by
  have h1 := find_any M name
  rw [decide_eq_true hn] at h1
  obtain ⟨u, hu, he⟩ := List.any_eq_true.1 h1.symm
  have := strEq_iff.1 he
  rw [← this]; exact h.units u hu
theorem restR_le {x : TLot} (h0 : 0 ≤ x.Left) (h1 : x.Left ≤ 1000000000) : restR x ≤ x.Left := by
  unfold restR
  have e1 : wr (x.Left + 20) = x.Left + 20 := wrap_id (by omega) (by omega)
  have e2 : wr (x.Left + 20 - 1) = x.Left + 20 - 1 := wrap_id (by omega) (by omega)
  rw [e1, e2]
  have e3 : Int.tdiv (x.Left + 20 - 1) 20 = (x.Left + 20 - 1) / 20 := Int.tdiv_eq_ediv_of_nonneg (by omega)
  rw [e3]
  have e4 : wr ((x.Left + 20 - 1) / 20) = (x.Left + 20 - 1) / 20 := wrap_id (by omega) (by omega)
  rw [e4]
  have e5 : wr (x.Left - (x.Left + 20 - 1) / 20) = x.Left - (x.Left + 20 - 1) / 20 := wrap_id (by omega) (by omega)
  rw [e5]
  omega
theorem Turn.right {M : MState} {x x' : TLot} {n fk fi tk ti why : Int} (h : Turn x x' n fk fi tk ti why) (hx : LotOk M x) : rightA fk fi = true ∧ rightA tk ti = true ∧ wayOk why fk tk = true ∧ 1 ≤ n ∧ n ≤ 1000000000 := by
  have hl := hx.live
  have hn := hx.n2
  have r2 : rightA 2 x.Thing = true := hx.thing
  cases h with
  | forfeit hs => exact ⟨r2, rfl, rfl, by omega, by omega⟩
  | pay p hs hp => exact ⟨r2, hp, rfl, by omega, by omega⟩
  | part p m hs k1 k2 hp => exact ⟨r2, hp, rfl, by omega, by omega⟩
  | swap m hs k1 k2 => exact ⟨r2, rfl, rfl, by omega, by omega⟩
  | lose hs => exact ⟨r2, rfl, rfl, by omega, by omega⟩
  | recover hs => exact ⟨rfl, r2, rfl, by omega, by omega⟩
  | dispatch b hs hb => exact ⟨r2, hb, rfl, by omega, by omega⟩
  | arrive hs => exact ⟨hx.bag hs, rfl, rfl, by omega, by omega⟩
  | refund p hs hp hr =>
    have := restR_le (x := x) (by omega) (by omega)
    exact ⟨rfl, hp, rfl, by omega, by omega⟩
theorem fine_mk {d : Int} {unit : ByteArray} {n fk fi tk ti why lot : Int} (h1 : 0 ≤ d ∧ d ≤ 100000) (h2 : named unit = true) (h3 : 1 ≤ n ∧ n ≤ 1000000000) (h4 : 1 ≤ lot ∧ lot ≤ 2000) (h5 : rightA fk fi = true) (h6 : rightA tk ti = true) (h7 : wayOk why fk tk = true) :
    fineP ⟨d, unit, n, fk, fi, tk, ti, why, lot⟩ = true := by
  unfold fineP
  simp only [decide_eq_true h1, h2, decide_eq_true h3, decide_eq_true h4, h5, h6, h7, Bool.and_self]
theorem PO.add {M M' : MState} (h : PO M) {p : TPosting} (hp : M'.postings = M.postings ++ [p]) (hd : p.Day = M.day) (hdd : M'.day = M.day) (hf : fineP p = true) : PO M' := by
  refine ⟨fun q hq => ?_, ?_, fun q hq => ?_⟩
  · rw [hp] at hq
    rcases List.mem_append.1 hq with hq | hq
    · exact h.fine q hq
    · simp at hq; subst hq; exact hf
  · rw [hp, List.pairwise_append]
    exact ⟨h.days, by simp, fun a ha b hb => by simp at hb; subst hb; rw [hd]; exact h.le a ha⟩
  · rw [hp] at hq
    rw [hdd]
    rcases List.mem_append.1 hq with hq | hq
    · exact h.le q hq
    · simp at hq; subst hq; omega
theorem Move.po {M M' : MState} (hm : Move M M') (hJ : J M) (h : PO M) : PO M' := by
  cases hm with
  | turn hx ht =>
    have hxm := List.mem_of_getElem? hx
    have hk := hJ.lots _ hxm
    obtain ⟨r1, r2, r3, r4, r5⟩ := ht.right hk
    have hid := hJ.ids _ _ hx
    have hlt := (List.getElem?_eq_some_iff.1 hx).1
    have hlen := hJ.len
    exact h.add rfl rfl rfl (fine_mk ⟨hJ.d0, hJ.d1⟩ (named_of hJ hk.unit) ⟨r4, r5⟩ ⟨by omega, by omega⟩ r1 r2 r3)
  | keep hx hs hr => exact ⟨h.fine, h.days, h.le⟩
  | enter hw hl hlen =>
    have hf : ∀ fk why : Int, (fk = 1 ∧ (why = 1 ∨ why = 10) ∨ fk = 6 ∧ why = 5) → rightA fk 0 = true ∧ wayOk why fk 2 = true := by
      intro fk why h
      rcases h with ⟨rfl, rfl | rfl⟩ | ⟨rfl, rfl⟩ <;> exact ⟨rfl, rfl⟩
    obtain ⟨w1, w2⟩ := hf _ _ hw
    refine h.add rfl rfl rfl (fine_mk ⟨hJ.d0, hJ.d1⟩ (named_of hJ hl.unit) ⟨hl.n1, hl.n2⟩ ?_ w1 hl.thing w2)
    show 1 ≤ (M.lots.length : Int) + 1 ∧ (M.lots.length : Int) + 1 ≤ 2000
    omega
  | day h1 h2 => exact ⟨h.fine, h.days, fun p hp => Int.le_trans (h.le p hp) h1⟩
  | unit hn hf => exact ⟨h.fine, h.days, h.le⟩
  | value hu g1 g2 => exact ⟨h.fine, h.days, h.le⟩
  | term h1 h2 h3 => exact ⟨h.fine, h.days, h.le⟩
theorem Moves.po {M M' : MState} (hm : Moves M M') (hJ : J M) (h : PO M) : PO M' := by
  induction hm with
  | refl => exact h
  | tail h1 h2 ih => exact h2.po (h1.j hJ) ih
theorem po_M0 : PO M0 := ⟨fun p h => by simp [M0] at h, by simp [M0], fun p h => by simp [M0] at h⟩

/-! ### statements -/
def stepV (a : TAccount) (unit : ByteArray) (v : Int) (x : TPosting) : Int :=
  if !strEq x.Unit unit || (!fromAt a x && !toAt a x) then v else if toAt a x then wr (v + x.N) else wr (v - x.N)
def sumV (a : TAccount) (unit : ByteArray) (until_ : Int) : Int → List TPosting → Int
  | v, [] => v
  | v, x :: xs => sumV a unit until_ (if x.Day ≤ until_ then stepV a unit v x else v) xs
def lastOr (v : Int) (l : List TStatementLine) : Int := match l.getLast? with
  | some x => x.Balance
  | none => v
theorem lastOr_cons (v : Int) (x : TStatementLine) (l : List TStatementLine) : lastOr v (x :: l) = lastOr x.Balance l := by
  unfold lastOr
  rw [List.getLast?_cons]
  cases l.getLast? <;> rfl
theorem fine_from {x : TPosting} (h : fineP x = true) : x.From_Kind ≠ x.To_Kind := by
  unfold fineP at h
  simp only [Bool.and_eq_true] at h
  have hw := h.2
  unfold wayOk at hw
  rw [List.any_eq_true] at hw
  obtain ⟨y, hy, h1⟩ := hw
  have hx' : y.x0 ≠ y.x1 := by
    unfold waysL at hy
    repeat' split at hy
    all_goals simp at hy
    all_goals (first | (subst hy; decide) | (rcases hy with rfl | rfl <;> decide))
  simp at h1
  omega
theorem not_both {a : TAccount} {x : TPosting} (h : fineP x = true) : ¬ (fromAt a x = true ∧ toAt a x = true) := by
  rintro ⟨h1, h2⟩
  simp only [fromAt, toAt, Bool.and_true, Bool.and_eq_true, beq_iff_eq] at h1 h2
  exact fine_from h (by omega)
theorem stmt_v2 {a : TAccount} {x : TPosting} (h : fineP x = true) (v : Int) (hs : (!fromAt a x && !toAt a x) = false) :
    (if toAt a x then wr ((if fromAt a x then wr (v - x.N) else v) + x.N) else if fromAt a x then wr (v - x.N) else v) = if toAt a x then wr (v + x.N) else wr (v - x.N) := by
  have hb := not_both (a := a) h
  cases h1 : fromAt a x with
  | true =>
    cases h2 : toAt a x with
    | true => exact absurd ⟨h1, h2⟩ hb
    | false => rfl
  | false =>
    cases h2 : toAt a x with
    | true => rfl
    | false => rw [h1, h2] at hs; simp at hs
theorem stmt_none {a : TAccount} {unit : ByteArray} {from_ until_ : Int} : ∀ (ps : List TPosting) (v i : Int), (∀ p ∈ ps, until_ < p.Day) → stmtOn a unit from_ until_ v i ps = []
  | [], _, _, _ => rfl
  | x :: ps, v, i, h => by
    unfold stmtOn
    have hx := h x List.mem_cons_self
    have ih := fun v => stmt_none (a := a) (unit := unit) (from_ := from_) (until_ := until_) ps v (i + 1) fun p hp => h p (List.mem_cons_of_mem _ hp)
    split
    · exact ih v
    · simp only [ih]
      rw [if_neg]
      · rfl
      · simp only [Bool.and_eq_true, decide_eq_true_eq]; omega
theorem sum_none {a : TAccount} {unit : ByteArray} {until_ : Int} : ∀ (ps : List TPosting) (v : Int), (∀ p ∈ ps, until_ < p.Day) → sumV a unit until_ v ps = v
  | [], _, _ => rfl
  | x :: ps, v, h => by
    unfold sumV
    have hx := h x List.mem_cons_self
    rw [if_neg (by omega)]
    exact sum_none ps v fun p hp => h p (List.mem_cons_of_mem _ hp)
theorem stmt_last {a : TAccount} {unit : ByteArray} {until_ : Int} : ∀ (ps : List TPosting) (v i : Int), (∀ p ∈ ps, fineP p = true) → (ps.Pairwise fun p q => p.Day ≤ q.Day) → lastOr v (stmtOn a unit 0 until_ v i ps) = sumV a unit until_ v ps
  | [], _, _, _, _ => rfl
  | x :: ps, v, i, hf, hd => by
    obtain ⟨d1, d2⟩ := List.pairwise_cons.1 hd
    have hfx := hf x List.mem_cons_self
    have ih := fun v => stmt_last (a := a) (unit := unit) (until_ := until_) ps v (i + 1) (fun p hp => hf p (List.mem_cons_of_mem _ hp)) d2
    by_cases hday : x.Day ≤ until_
    · have h0 : 0 ≤ x.Day := by
        unfold fineP at hfx
        simp only [Bool.and_eq_true, decide_eq_true_eq] at hfx
        exact hfx.1.1.1.1.1.1.1
      unfold stmtOn sumV stepV
      rw [if_pos hday]
      split
      · exact ih v
      · rename_i hs
        have hs2 : (!fromAt a x && !toAt a x) = false := by
          cases h : (!fromAt a x && !toAt a x) with
          | true => rw [h, Bool.or_true] at hs; exact absurd rfl hs
          | false => rfl
        simp only
        rw [stmt_v2 hfx v hs2, if_pos (by simp only [Bool.and_eq_true, decide_eq_true_eq]; omega)]
        rw [List.cons_append, List.nil_append, lastOr_cons]
        exact ih _
    · have hall : ∀ p ∈ x :: ps, until_ < p.Day := fun p hp => by
        rcases List.mem_cons.1 hp with rfl | hp
        · omega
        · have := d1 p hp; omega
      rw [stmt_none _ _ _ hall, sum_none _ _ hall]
      rfl
theorem bal_sum {a : TAccount} {unit : ByteArray} {until_ : Int} : ∀ (ps : List TPosting) (m : List (Tplace × Int)), (∀ p ∈ ps, fineP p = true) → getM (balOn until_ m ps) ⟨a.Kind, a.Id, unit⟩ = sumV a unit until_ (getM m ⟨a.Kind, a.Id, unit⟩) ps
  | [], _, _ => rfl
  | x :: ps, m, hf => by
    have hfx := hf x List.mem_cons_self
    unfold balOn sumV
    rw [bal_sum ps _ fun p hp => hf p (List.mem_cons_of_mem _ hp)]
    congr 1
    split
    · have hne : pFrom x ≠ pTo x := fun e => fine_from hfx (congrArg Tplace.account_Kind e)
      have iF : (strEq x.Unit unit && fromAt a x) = true ↔ pFrom x = ⟨a.Kind, a.Id, unit⟩ := by
        simp only [fromAt, Bool.and_true, Bool.and_eq_true, beq_iff_eq, strEq_iff, pFrom, Tplace.mk.injEq]
        constructor
        · rintro ⟨h1, h2, h3⟩; exact ⟨h2, h3, h1⟩
        · rintro ⟨h2, h3, h1⟩; exact ⟨h1, h2, h3⟩
      have iT : (strEq x.Unit unit && toAt a x) = true ↔ pTo x = ⟨a.Kind, a.Id, unit⟩ := by
        simp only [toAt, Bool.and_true, Bool.and_eq_true, beq_iff_eq, strEq_iff, pTo, Tplace.mk.injEq]
        constructor
        · rintro ⟨h1, h2, h3⟩; exact ⟨h2, h3, h1⟩
        · rintro ⟨h2, h3, h1⟩; exact ⟨h1, h2, h3⟩
      unfold stepV addM subM
      cases hu : strEq x.Unit unit with
      | false =>
        rw [hu] at iF iT
        simp only [Bool.false_and, Bool.false_eq_true, false_iff] at iF iT
        rw [getM_putM_ne (fun e => iT e.symm), getM_putM_ne (fun e => iF e.symm)]
        rfl
      | true =>
        rw [hu, Bool.true_and] at iF iT
        cases hT : toAt a x with
        | true =>
          have e := iT.1 hT
          rw [← e, getM_putM, getM_putM_ne (fun e => hne e.symm)]
          simp
        | false =>
          have nT : ¬ pTo x = ⟨a.Kind, a.Id, unit⟩ := fun e => by rw [iT.2 e] at hT; cases hT
          rw [getM_putM_ne (fun e => nT e.symm)]
          cases hF : fromAt a x with
          | true =>
            have e := iF.1 hF
            rw [← e, getM_putM]
            simp
          | false =>
            have nF : ¬ pFrom x = ⟨a.Kind, a.Id, unit⟩ := fun e => by rw [iF.2 e] at hF; cases hF
            rw [getM_putM_ne (fun e => nF e.symm)]
            simp
    · rfl
theorem stmt_balance {M : MState} (h : PO M) (a : TAccount) (unit : ByteArray) (until_ : Int) : lastOr 0 (M.statement a unit 0 until_) = M.balance a unit until_ := by
  unfold MState.statement MState.balance
  rw [stmt_last _ _ _ h.fine h.days, bal_sum _ _ h.fine]
  rfl
theorem stmt_len {a : TAccount} {unit : ByteArray} {from_ until_ : Int} : ∀ (ps : List TPosting) (v i : Int), (stmtOn a unit from_ until_ v i ps).length ≤ ps.length
  | [], _, _ => by simp [stmtOn]
  | x :: ps, v, i => by
    unfold stmtOn
    split
    · exact Nat.le_succ_of_le (stmt_len ps _ _)
    · simp only [List.length_append, List.length_cons]
      have := stmt_len (a := a) (unit := unit) (from_ := from_) (until_ := until_) ps (if toAt a x then wr ((if fromAt a x then wr (v - x.N) else v) + x.N) else if fromAt a x then wr (v - x.N) else v) (i + 1)
      split
      · simp only [List.length_cons, List.length_nil]; omega
      · simp only [List.length_nil]; omega
end Go.Proofs.YtcbijkakoepglaaGreat
namespace Go.Proofs.YtcbijkakoepglaaGreat
open Go Go.Wx
set_option maxRecDepth 100000
def law06_DrawersStatements.j3 (Q : Bool → World → Prop) (v1 : Int) (v3 : Int) (kl1 : Int → Int → Int → World → Prop) (v5 : Int) (v6 : Bool) (w11 : World) : Prop := (
       Ifb v6
      (Q false w11)
      (kl1 (IntKind.wrap .i64 (v1 + (1 : Int))) v5 (IntKind.wrap .i64 (v3 + (1 : Int))) w11))
def law06_DrawersStatements.j2 (Q : Bool → World → Prop) (from_ : Int) (until_ : Int) (r3_a : Option Addr) (r3_n : Nat) (v1 : Int) (v3 : Int) (kl1 : Int → Int → Int → World → Prop) (x1 : TPosting) (v5 : Int) (w10 : World) : Prop := (
       Ifb ((decide (x1.Day < from_)) || (decide (x1.Day > until_)))
      (kl1 v1 v5 (IntKind.wrap .i64 (v3 + (1 : Int))) w10)
      (Ifb (decide (v1 ≥ ((r3_n : Nat) : Int)))
      (law06_DrawersStatements.j3 Q v1 v3 kl1 v5 true w10)
      (Ix r3_a r3_n v1 fun p2 =>
      LdI .i64 w10 (Addr.add p2 (v1.toNat * 2)) fun x2 =>
      Ifb (x2 != v3)
      (law06_DrawersStatements.j3 Q v1 v3 kl1 v5 true w10)
      (Ix r3_a r3_n v1 fun p3 =>
      LdI .i64 w10 (Addr.add (Addr.add p3 (v1.toNat * 2)) 1) fun x3 =>
      law06_DrawersStatements.j3 Q v1 v3 kl1 v5 (x3 != v5) w10))))
def law06_DrawersStatements.j1 (Q : Bool → World → Prop) (a : TAccount) (from_ : Int) (until_ : Int) (r3_a : Option Addr) (r3_n : Nat) (v1 : Int) (v2 : Int) (v3 : Int) (kl1 : Int → Int → Int → World → Prop) (x1 : TPosting) (v4 : Bool) (w9 : World) : Prop := (
       Ifb v4
      (kl1 v1 v2 (IntKind.wrap .i64 (v3 + (1 : Int))) w9)
      (Ifb ((x1.To_Kind == a.Kind) && ((x1.To_Id == a.Id) && true))
      (law06_DrawersStatements.j2 Q from_ until_ r3_a r3_n v1 v3 kl1 x1 (IntKind.wrap .i64 (v2 + x1.N)) w9)
      (law06_DrawersStatements.j2 Q from_ until_ r3_a r3_n v1 v3 kl1 x1 (IntKind.wrap .i64 (v2 - x1.N)) w9)))
def law06_DrawersStatements.j4 (Q : Bool → World → Prop) (a : TAccount) (unit : ByteArray) (until_ : Int) (b1 : Nat) (r1 : Option Addr) (r3_n : Nat) (v1 : Int) (v7 : Int) (w13 : World) : Prop := (
       Cl Pg 18 #[] w13 (fun v w14 => ∃ (r6 : Bool), v = vb r6 ∧ Kp b1 w13 w14 ∧ Ifb r6
      (Ifb (v1 == ((r3_n : Nat) : Int))
      (Ifb (decide (until_ < (0 : Int)))
      (Q true w14)
      (Cl Pg 48 #[vP r1, vg [vu a.Kind, vi a.Id], vs unit, vi until_] w14 (fun v w15 => ∃ (r7 : Int), v = vi r7 ∧ Q (v7 == r7) w15)))
      (Q false w14))
      (Q false w14)))
def law06_DrawersStatements.l1 (Q : Bool → World → Prop) (a : TAccount) (unit : ByteArray) (from_ : Int) (until_ : Int) (b1 : Nat) (r1 : Option Addr) (r3_a : Option Addr) (r3_n : Nat) (r4_a : Option Addr) (r4_n : Nat) : Nat → Int → Int → Int → World → Prop
       | 0, _, _, _, _ => False
       | nl1 + 1, v1, v2, v3, w6 => (
       Ifb (decide (v3 < ((r4_n : Nat) : Int)))
      (Ix r4_a r4_n v3 fun p1 =>
      LdT TPosting.enc w6 (Addr.add p1 (v3.toNat * 9)) fun x1 =>
      Al w6 (.cells #[vi 0, vs (ByteArray.mk #[]), vi 0, vu 0, vi 0, vu 0, vi 0, vu 0, vi 0] 42) fun b2 w7 =>
      Sb w7 b2 (.cells #[vi x1.Day, vs x1.Unit, vi x1.N, vu x1.From_Kind, vi x1.From_Id, vu x1.To_Kind, vi x1.To_Id, vu x1.Why, vi x1.Lot] 42 (0, 0)) fun w8 =>
      Ifb (!strEq x1.Unit unit)
      (law06_DrawersStatements.j1 Q a from_ until_ r3_a r3_n v1 v2 v3 (law06_DrawersStatements.l1 Q a unit from_ until_ b1 r1 r3_a r3_n r4_a r4_n nl1) x1 true w8)
      (Ifb (!((x1.From_Kind == a.Kind) && ((x1.From_Id == a.Id) && true)))
      (law06_DrawersStatements.j1 Q a from_ until_ r3_a r3_n v1 v2 v3 (law06_DrawersStatements.l1 Q a unit from_ until_ b1 r1 r3_a r3_n r4_a r4_n nl1) x1 (!((x1.To_Kind == a.Kind) && ((x1.To_Id == a.Id) && true))) w8)
      (law06_DrawersStatements.j1 Q a from_ until_ r3_a r3_n v1 v2 v3 (law06_DrawersStatements.l1 Q a unit from_ until_ b1 r1 r3_a r3_n r4_a r4_n nl1) x1 false w8)))
      (Cl Pg 53 #[vP r1, vg [vu a.Kind, vi a.Id], vs unit, vi 0, vi until_] w6 (fun v w12 => ∃ (r5_a : Option Addr), ∃ (r5_n : Nat), ∃ (r5_c : Nat), v = vl r5_a r5_n r5_c ∧ Kp b1 w6 w12 ∧ Ifb (decide (((r5_n : Nat) : Int) > (0 : Int)))
      (Ix r5_a r5_n (IntKind.wrap .i64 (((r5_n : Nat) : Int) - (1 : Int))) fun p4 =>
      LdI .i64 w12 (Addr.add (Addr.add p4 ((IntKind.wrap .i64 (((r5_n : Nat) : Int) - (1 : Int))).toNat * 2)) 1) fun x4 =>
      law06_DrawersStatements.j4 Q a unit until_ b1 r1 r3_n v1 x4 w12)
      (law06_DrawersStatements.j4 Q a unit until_ b1 r1 r3_n v1 0 w12))))
def law06_DrawersStatements.R (Q : Bool → World → Prop) (script_a : Option Addr) (script_n : Nat) (script_c : Nat) (a : TAccount) (unit : ByteArray) (from_ : Int) (until_ : Int) (w : World) : Prop := (
  Al w (.cells #[vu a.Kind, vi a.Id] 40) fun b1 w1 =>
      Cl Pg 22 #[vl script_a script_n script_c] w1 (fun v w2 => ∃ (r1 : Option Addr), v = vP r1 ∧ Kp b1 w1 w2 ∧ Ifb r1.isNone
      (Cl Pg 18 #[] w2 (fun v w3 => ∃ (r2 : Bool), v = vb r2 ∧ Q (r2 && (decide (((script_n : Nat) : Int) > (60 : Int)))) w3))
      (Cl Pg 53 #[vP r1, vg [vu a.Kind, vi a.Id], vs unit, vi from_, vi until_] w2 (fun v w4 => ∃ (r3_a : Option Addr), ∃ (r3_n : Nat), ∃ (r3_c : Nat), v = vl r3_a r3_n r3_c ∧ Kp b1 w2 w4 ∧ Cl Pg 26 #[vP r1] w4 (fun v w5 => ∃ (r4_a : Option Addr), ∃ (r4_n : Nat), ∃ (r4_c : Nat), v = vl r4_a r4_n r4_c ∧ Kp b1 w4 w5 ∧ ∃ k, law06_DrawersStatements.l1 Q a unit from_ until_ b1 r1 r3_a r3_n r4_a r4_n k 0 0 0 w5)))))
theorem law06_DrawersStatements.ok {Q : Bool → World → Prop} {script_a : Option Addr} {script_n : Nat} {script_c : Nat} {a : TAccount} {unit : ByteArray} {from_ : Int} {until_ : Int} {w : World} (h : law06_DrawersStatements.R Q script_a script_n script_c a unit from_ until_ w) : Cl Pg 15 #[vl script_a script_n script_c, vg (TAccount.enc a), vs unit, vi from_, vi until_] w (fun v w' => ∃ (r0 : Bool), v = vb r0 ∧ Q r0 w') := by
 refine calls_args (args := [vl script_a script_n script_c, vg (TAccount.enc a), vs unit, vi from_, vi until_]) Tryz.func15 ?_
 unfold law06_DrawersStatements.R at h
 refine W_regseq ?_
 refine alp h ?_
 intro b1 w1 eb ew hb_b1 h
 clear eb ew
 refine ps 1 [(10, vb false)] ?_
 refine WO_nil ?_
 refine W_regseq ?_
 refine ps 1 [(19, vl script_a script_n script_c)] ?_
 refine cl h ?_
 rintro _ w2 ⟨r1, rfl, hk0, h⟩
 replace hb_b1 := kp_at hk0 hb_b1
 refine ps 1 [(11, vP r1)] ?_
 refine WO_nil ?_
 refine W_seq ?_
 refine W_regseq ?_
 refine ps 1 [(21, vP r1)] ?_
 refine WO_p rfl rfl (v := vb r1.isNone) (ex_eqlnil_ptr_l (by kernel_rfl) rfl rfl rfl) ?_
 refine WO_nil ?_
 refine ci h (fun h => ?_) fun h => ?_
 ·refine W_regseq ?_
  refine cl h ?_
  rintro _ w3 ⟨r2, rfl, h⟩
  refine ps 1 [(24, vb r2)] ?_
  refine WO_conv (fun e w_ => ∃ (e0 : Env), e = upds e0 [(10, vb (r2 && (decide (((script_n : Nat) : Int) > (60 : Int)))))] ∧ w3 = w_) ?_ ?_
  ·clear h
   refine WO_case 24 (b := r2) rfl (fun hb0 => ?_) (fun hb0 => ?_)
   ·refine ps 5 [(25, vl script_a script_n script_c), (26, vi (script_n : Nat)), (27, vb (decide (((script_n : Nat) : Int) > (60 : Int)))), (28, vb (decide (((script_n : Nat) : Int) > (60 : Int)))), (10, vb (decide (((script_n : Nat) : Int) > (60 : Int))))] ?_
    exact WO_nil ⟨_, Agree.eq ⟨(by first | rfl | (simp only [hb0, Bool.true_and, Bool.false_and, Bool.true_or, Bool.false_or, Bool.and_true, Bool.and_false, Bool.or_true, Bool.or_false]; done) | (simp only [hb0]; rfl) | (simp [hb0]; done)), trivial⟩, rfl⟩
   ·refine ps 5 [(25, undef), (26, undef), (27, undef), (28, vb false), (10, vb false)] ?_
    exact WO_nil ⟨_, Agree.eq ⟨(by first | rfl | (simp only [hb0, Bool.true_and, Bool.false_and, Bool.true_or, Bool.false_or, Bool.and_true, Bool.and_false, Bool.or_true, Bool.or_false]; done) | (simp only [hb0]; rfl) | (simp [hb0]; done)), trivial⟩, rfl⟩
  ·rintro _ _ ⟨e0, rfl, rfl⟩
   refine W_ret ?_
   refine seqK_ret ?_
   exact ret1 (v := vb (r2 && (decide (((script_n : Nat) : Int) > (60 : Int))))) (t := 10) rfl rfl ⟨_, rfl, h⟩
 ·refine W_skip ?_
  refine W_regseq ?_
  refine ps 1 [(29, vP r1)] ?_
  refine lbn [vu a.Kind, vi a.Id] tk40 hb_b1 ?_
  refine ps 3 [(31, vs unit), (32, vi from_), (33, vi until_)] ?_
  refine cl h ?_
  rintro _ w4 ⟨r3_a, r3_n, r3_c, rfl, hk0, h⟩
  replace hb_b1 := kp_at hk0 hb_b1
  refine ps 1 [(12, vl r3_a r3_n r3_c)] ?_
  refine WO_nil ?_
  refine W_regseq ?_
  refine ps 2 [(13, vi 0), (14, vi 0)] ?_
  refine WO_nil ?_
  refine W_seq ?_
  refine W_regseq ?_
  refine ps 1 [(35, vP r1)] ?_
  refine cl h ?_
  rintro _ w5 ⟨r4_a, r4_n, r4_c, rfl, hk0, h⟩
  replace hb_b1 := kp_at hk0 hb_b1
  refine ps 2 [(37, vi (r4_n : Nat)), (38, vi 0)] ?_
  refine WO_nil ?_
  refine W_block ?_
  obtain ⟨nl1, h⟩ := h
  refine W_loopI (fun k e w6 => ∃ (e0 : Env) (v1 : Int) (v2 : Int) (v3 : Int), e = upds e0 [(2, vs unit), (3, vi from_), (4, vi until_), (6, vp ⟨b1, 0, none⟩), (11, vP r1), (12, vl r3_a r3_n r3_c), (13, vi v1), (14, vi v2), (36, vl r4_a r4_n r4_c), (37, vi (r4_n : Nat)), (38, vi v3)] ∧ w6.heap[b1]? = some (.cells #[vu a.Kind, vi a.Id] 40 (0, 0)) ∧ law06_DrawersStatements.l1 Q a unit from_ until_ b1 r1 r3_a r3_n r4_a r4_n k v1 v2 v3 w6) nl1 ?_ ?_ ?_
  ·rintro _ _ ⟨_, _, _, _, _, _, h⟩
   exact h
  ·exact ⟨_, 0, 0, 0, Agree.eq ⟨rfl, rfl, rfl, rfl, rfl, rfl, rfl, rfl, rfl, rfl, rfl, trivial⟩, hb_b1, h⟩
  ·clear h nl1 hb_b1
   rintro nl1 _ w6 ⟨e0, v1, v2, v3, rfl, hb_b1, h⟩
   unfold law06_DrawersStatements.l1 at h
   refine W_regseq ?_
   refine ps 1 [(39, vb (decide (v3 < ((r4_n : Nat) : Int))))] ?_
   refine WO_nil ?_
   refine W_seq ?_
   refine ci h (fun h => ?_) fun h => ?_
   ·refine W_skip ?_
    refine W_seq ?_
    refine W_block ?_
    refine W_regseq ?_
    refine ps 1 [(40, vi v3)] ?_
    refine ix slk22 h fun p1 h => ?_
    obtain ⟨x1, hx1, h⟩ := h
    refine ldn tk42 hx1 ?_
    refine alp h ?_
    intro b2 w7 eb ew hb_b2 h
    have old_hb_b1 := hb_b1
    replace hb_b1 := al_keep ew hb_b1
    have ne_b1_b2 : b1 ≠ b2 := blk_ne old_hb_b1 eb
    clear old_hb_b1
    clear eb ew
    refine ps 1 [(15, vi v3)] ?_
    refine sb tk42 hb_b2 h ?_
    intro w8 ew hb_ h
    replace hb_b1 := sb_keep ew ne_b1_b2 hb_b1
    replace hb_b2 := hb_
    clear ew
    refine WO_nil ?_
    refine W_seq ?_
    refine W_join (fun e w9 => ∃ (e0 : Env) (v4 : Bool), e = upds e0 [(2, vs unit), (3, vi from_), (4, vi until_), (6, vp ⟨b1, 0, none⟩), (11, vP r1), (12, vl r3_a r3_n r3_c), (13, vi v1), (14, vi v2), (15, vi v3), (16, vp ⟨b2, 0, none⟩), (36, vl r4_a r4_n r4_c), (37, vi (r4_n : Nat)), (38, vi v3), (58, vb v4)] ∧ w9.heap[b1]? = some (.cells #[vu a.Kind, vi a.Id] 40 (0, 0)) ∧ w9.heap[b2]? = some (.cells #[vi x1.Day, vs x1.Unit, vi x1.N, vu x1.From_Kind, vi x1.From_Id, vu x1.To_Kind, vi x1.To_Id, vu x1.Why, vi x1.Lot] 42 (0, 0)) ∧ b1 ≠ b2 ∧ law06_DrawersStatements.j1 Q a from_ until_ r3_a r3_n v1 v2 v3 (law06_DrawersStatements.l1 Q a unit from_ until_ b1 r1 r3_a r3_n r4_a r4_n nl1) x1 v4 w9) ?_ ?_
    ·refine W_reg ?_
     refine ps 1 [(43, vp ⟨b2, 1, none⟩)] ?_
     refine lb1 tk9 hb_b2 ?_
     refine ps 3 [(45, vs unit), (46, vb (!strEq x1.Unit unit)), (47, vb (!strEq x1.Unit unit))] ?_
     refine cs 47 h (fun h => ?_) fun h => ?_
     ·refine ps 11 [(48, undef), (49, undef), (50, undef), (51, undef), (52, undef), (53, undef), (54, undef), (55, undef), (56, undef), (57, undef), (58, vb true)] ?_
      refine WO_nil ?_
      exact ⟨_, true, Agree.eq ⟨rfl, rfl, rfl, rfl, rfl, rfl, rfl, rfl, rfl, rfl, rfl, rfl, rfl, rfl, trivial⟩, hb_b1, hb_b2, ne_b1_b2, h⟩
     ·refine ps 1 [(48, vp ⟨b2, 3, none⟩)] ?_
      refine lbn [vu x1.From_Kind, vi x1.From_Id] tk40 hb_b2 ?_
      refine lbn [vu a.Kind, vi a.Id] tk40 hb_b1 ?_
      refine WO_pw rfl rfl (v := vb (!((x1.From_Kind == a.Kind) && ((x1.From_Id == a.Id) && true)))) (ex_neqst (by kernel_rfl) (fun w => eqI40 (d := 9998)) rfl rfl rfl) ?_
      refine ps 1 [(52, vb (!((x1.From_Kind == a.Kind) && ((x1.From_Id == a.Id) && true))))] ?_
      refine cs 52 h (fun h => ?_) fun h => ?_
      ·refine ps 1 [(53, vp ⟨b2, 5, none⟩)] ?_
       refine lbn [vu x1.To_Kind, vi x1.To_Id] tk40 hb_b2 ?_
       refine lbn [vu a.Kind, vi a.Id] tk40 hb_b1 ?_
       refine WO_pw rfl rfl (v := vb (!((x1.To_Kind == a.Kind) && ((x1.To_Id == a.Id) && true)))) (ex_neqst (by kernel_rfl) (fun w => eqI40 (d := 9998)) rfl rfl rfl) ?_
       refine ps 2 [(57, vb (!((x1.To_Kind == a.Kind) && ((x1.To_Id == a.Id) && true)))), (58, vb (!((x1.To_Kind == a.Kind) && ((x1.To_Id == a.Id) && true))))] ?_
       refine WO_nil ?_
       exact ⟨_, (!((x1.To_Kind == a.Kind) && ((x1.To_Id == a.Id) && true))), Agree.eq ⟨rfl, rfl, rfl, rfl, rfl, rfl, rfl, rfl, rfl, rfl, rfl, rfl, rfl, rfl, trivial⟩, hb_b1, hb_b2, ne_b1_b2, h⟩
      ·refine ps 6 [(53, undef), (54, undef), (55, undef), (56, undef), (57, vb false), (58, vb false)] ?_
       refine WO_nil ?_
       exact ⟨_, false, Agree.eq ⟨rfl, rfl, rfl, rfl, rfl, rfl, rfl, rfl, rfl, rfl, rfl, rfl, rfl, rfl, trivial⟩, hb_b1, hb_b2, ne_b1_b2, h⟩
    ·clear h hb_b1 hb_b2 ne_b1_b2
     rintro _ w9 ⟨e0, v4, rfl, hb_b1, hb_b2, ne_b1_b2, h⟩
     unfold law06_DrawersStatements.j1 at h
     refine ci h (fun h => ?_) fun h => ?_
     ·refine W_exit ?_
      refine blockK_hit ?_
      refine W_reg ?_
      refine ps 2 [(105, vi (IntKind.wrap .i64 (v3 + (1 : Int)))), (38, vi (IntKind.wrap .i64 (v3 + (1 : Int))))] ?_
      refine WO_nil ?_
      exact ⟨_, v1, v2, IntKind.wrap .i64 (v3 + (1 : Int)), Agree.eq ⟨rfl, rfl, rfl, rfl, rfl, rfl, rfl, rfl, rfl, rfl, rfl, trivial⟩, hb_b1, h⟩
     ·refine W_skip ?_
      refine W_join (fun e w10 => ∃ (e0 : Env) (v5 : Int), e = upds e0 [(2, vs unit), (3, vi from_), (4, vi until_), (6, vp ⟨b1, 0, none⟩), (11, vP r1), (12, vl r3_a r3_n r3_c), (13, vi v1), (14, vi v5), (15, vi v3), (16, vp ⟨b2, 0, none⟩), (36, vl r4_a r4_n r4_c), (37, vi (r4_n : Nat)), (38, vi v3)] ∧ w10.heap[b1]? = some (.cells #[vu a.Kind, vi a.Id] 40 (0, 0)) ∧ w10.heap[b2]? = some (.cells #[vi x1.Day, vs x1.Unit, vi x1.N, vu x1.From_Kind, vi x1.From_Id, vu x1.To_Kind, vi x1.To_Id, vu x1.Why, vi x1.Lot] 42 (0, 0)) ∧ b1 ≠ b2 ∧ law06_DrawersStatements.j2 Q from_ until_ r3_a r3_n v1 v3 (law06_DrawersStatements.l1 Q a unit from_ until_ b1 r1 r3_a r3_n r4_a r4_n nl1) x1 v5 w10) ?_ ?_
      ·refine W_regseq ?_
       refine ps 1 [(59, vp ⟨b2, 5, none⟩)] ?_
       refine lbn [vu x1.To_Kind, vi x1.To_Id] tk40 hb_b2 ?_
       refine lbn [vu a.Kind, vi a.Id] tk40 hb_b1 ?_
       refine WO_pw rfl rfl (v := vb ((x1.To_Kind == a.Kind) && ((x1.To_Id == a.Id) && true))) (ex_eqlst (by kernel_rfl) (fun w => eqI40 (d := 9998)) rfl rfl rfl) ?_
       refine WO_nil ?_
       refine ci h (fun h => ?_) fun h => ?_
       ·refine W_reg ?_
        refine ps 2 [(63, vi v2), (64, vp ⟨b2, 2, none⟩)] ?_
        refine lb1 tk3 hb_b2 ?_
        refine ps 2 [(66, vi (IntKind.wrap .i64 (v2 + x1.N))), (14, vi (IntKind.wrap .i64 (v2 + x1.N)))] ?_
        refine WO_nil ?_
        exact ⟨_, IntKind.wrap .i64 (v2 + x1.N), Agree.eq ⟨rfl, rfl, rfl, rfl, rfl, rfl, rfl, rfl, rfl, rfl, rfl, rfl, rfl, trivial⟩, hb_b1, hb_b2, ne_b1_b2, h⟩
       ·refine W_reg ?_
        refine ps 2 [(67, vi v2), (68, vp ⟨b2, 2, none⟩)] ?_
        refine lb1 tk3 hb_b2 ?_
        refine ps 2 [(70, vi (IntKind.wrap .i64 (v2 - x1.N))), (14, vi (IntKind.wrap .i64 (v2 - x1.N)))] ?_
        refine WO_nil ?_
        exact ⟨_, IntKind.wrap .i64 (v2 - x1.N), Agree.eq ⟨rfl, rfl, rfl, rfl, rfl, rfl, rfl, rfl, rfl, rfl, rfl, rfl, rfl, trivial⟩, hb_b1, hb_b2, ne_b1_b2, h⟩
      ·clear h hb_b1 hb_b2 ne_b1_b2
       rintro _ w10 ⟨e0, v5, rfl, hb_b1, hb_b2, ne_b1_b2, h⟩
       unfold law06_DrawersStatements.j2 at h
       refine W_seq ?_
       refine W_regseq ?_
       refine ps 1 [(71, vp ⟨b2, 0, none⟩)] ?_
       refine lb1 tk3 hb_b2 ?_
       refine ps 3 [(73, vi from_), (74, vb (decide (x1.Day < from_))), (75, vb (decide (x1.Day < from_)))] ?_
       refine WO_conv (fun e w_ => ∃ (e0 : Env), e = upds e0 [(2, vs unit), (3, vi from_), (4, vi until_), (6, vp ⟨b1, 0, none⟩), (11, vP r1), (12, vl r3_a r3_n r3_c), (13, vi v1), (14, vi v5), (15, vi v3), (36, vl r4_a r4_n r4_c), (37, vi (r4_n : Nat)), (38, vi v3), (80, vb ((decide (x1.Day < from_)) || (decide (x1.Day > until_))))] ∧ w10 = w_) ?_ ?_
       ·clear h
        refine WO_case 75 (b := decide (x1.Day < from_)) rfl (fun hb0 => ?_) (fun hb0 => ?_)
        ·refine ps 5 [(76, undef), (77, undef), (78, undef), (79, undef), (80, vb true)] ?_
         exact WO_nil ⟨_, Agree.eq ⟨rfl, rfl, rfl, rfl, rfl, rfl, rfl, rfl, rfl, rfl, rfl, rfl, (by first | rfl | (simp only [hb0, Bool.true_and, Bool.false_and, Bool.true_or, Bool.false_or, Bool.and_true, Bool.and_false, Bool.or_true, Bool.or_false]; done) | (simp only [hb0]; rfl) | (simp [hb0]; done)), trivial⟩, rfl⟩
        ·refine ps 1 [(76, vp ⟨b2, 0, none⟩)] ?_
         refine lb1 tk3 hb_b2 ?_
         refine ps 3 [(78, vi until_), (79, vb (decide (x1.Day > until_))), (80, vb (decide (x1.Day > until_)))] ?_
         exact WO_nil ⟨_, Agree.eq ⟨rfl, rfl, rfl, rfl, rfl, rfl, rfl, rfl, rfl, rfl, rfl, rfl, (by first | rfl | (simp only [hb0, Bool.true_and, Bool.false_and, Bool.true_or, Bool.false_or, Bool.and_true, Bool.and_false, Bool.or_true, Bool.or_false]; done) | (simp only [hb0]; rfl) | (simp [hb0]; done)), trivial⟩, rfl⟩
       ·rintro _ _ ⟨e0, rfl, rfl⟩
        refine ci h (fun h => ?_) fun h => ?_
        ·refine W_exit ?_
         refine blockK_hit ?_
         refine W_reg ?_
         refine ps 2 [(105, vi (IntKind.wrap .i64 (v3 + (1 : Int)))), (38, vi (IntKind.wrap .i64 (v3 + (1 : Int))))] ?_
         refine WO_nil ?_
         exact ⟨_, v1, v5, IntKind.wrap .i64 (v3 + (1 : Int)), Agree.eq ⟨rfl, rfl, rfl, rfl, rfl, rfl, rfl, rfl, rfl, rfl, rfl, trivial⟩, hb_b1, h⟩
        ·refine W_skip ?_
         refine W_seq ?_
         refine W_join (fun e w11 => ∃ (e0 : Env) (v6 : Bool), e = upds e0 [(2, vs unit), (3, vi from_), (4, vi until_), (6, vp ⟨b1, 0, none⟩), (11, vP r1), (12, vl r3_a r3_n r3_c), (13, vi v1), (14, vi v5), (36, vl r4_a r4_n r4_c), (37, vi (r4_n : Nat)), (38, vi v3), (102, vb v6)] ∧ w11.heap[b1]? = some (.cells #[vu a.Kind, vi a.Id] 40 (0, 0)) ∧ law06_DrawersStatements.j3 Q v1 v3 (law06_DrawersStatements.l1 Q a unit from_ until_ b1 r1 r3_a r3_n r4_a r4_n nl1) v5 v6 w11) ?_ ?_
         ·refine W_reg ?_
          refine ps 5 [(81, vi v1), (82, vl r3_a r3_n r3_c), (83, vi (r3_n : Nat)), (84, vb (decide (v1 ≥ ((r3_n : Nat) : Int)))), (85, vb (decide (v1 ≥ ((r3_n : Nat) : Int))))] ?_
          refine cs 85 h (fun h => ?_) fun h => ?_
          ·refine ps 17 [(86, undef), (87, undef), (88, undef), (89, undef), (90, undef), (91, undef), (92, undef), (93, vb true), (94, vb true), (95, undef), (96, undef), (97, undef), (98, undef), (99, undef), (100, undef), (101, undef), (102, vb true)] ?_
           refine WO_nil ?_
           exact ⟨_, true, Agree.eq ⟨rfl, rfl, rfl, rfl, rfl, rfl, rfl, rfl, rfl, rfl, rfl, rfl, trivial⟩, hb_b1, h⟩
          ·refine ps 2 [(86, vl r3_a r3_n r3_c), (87, vi v1)] ?_
           refine ix slk94 h fun p2 h => ?_
           refine ps 1 [(89, vp (Addr.add p2 (v1.toNat * 2)))] ?_
           obtain ⟨x2, hx2, h⟩ := h
           refine ld1 tk3 hx2 ?_
           refine ps 4 [(91, vi v3), (92, vb (x2 != v3)), (93, vb (x2 != v3)), (94, vb (x2 != v3))] ?_
           refine cs 94 h (fun h => ?_) fun h => ?_
           ·refine ps 8 [(95, undef), (96, undef), (97, undef), (98, undef), (99, undef), (100, undef), (101, undef), (102, vb true)] ?_
            refine WO_nil ?_
            exact ⟨_, true, Agree.eq ⟨rfl, rfl, rfl, rfl, rfl, rfl, rfl, rfl, rfl, rfl, rfl, rfl, trivial⟩, hb_b1, h⟩
           ·refine ps 2 [(95, vl r3_a r3_n r3_c), (96, vi v1)] ?_
            refine ix slk94 h fun p3 h => ?_
            refine ps 1 [(98, vp (Addr.add (Addr.add p3 (v1.toNat * 2)) 1))] ?_
            obtain ⟨x3, hx3, h⟩ := h
            refine ld1 tk3 hx3 ?_
            refine ps 3 [(100, vi v5), (101, vb (x3 != v5)), (102, vb (x3 != v5))] ?_
            refine WO_nil ?_
            exact ⟨_, (x3 != v5), Agree.eq ⟨rfl, rfl, rfl, rfl, rfl, rfl, rfl, rfl, rfl, rfl, rfl, rfl, trivial⟩, hb_b1, h⟩
         ·clear h hb_b1 hb_b2 ne_b1_b2
          rintro _ w11 ⟨e0, v6, rfl, hb_b1, h⟩
          unfold law06_DrawersStatements.j3 at h
          refine ci h (fun h => ?_) fun h => ?_
          ·refine W_regseq ?_
           refine ps 1 [(10, vb false)] ?_
           refine WO_nil ?_
           refine W_ret ?_
           refine seqK_ret ?_
           refine blockK_ret ?_
           refine seqK_ret ?_
           refine seqK_ret ?_
           refine blockK_ret ?_
           refine seqK_ret ?_
           exact ret1 (v := vb false) (t := 10) rfl rfl ⟨_, rfl, h⟩
          ·refine W_skip ?_
           refine W_reg ?_
           refine ps 3 [(103, vi v1), (104, vi (IntKind.wrap .i64 (v1 + (1 : Int)))), (13, vi (IntKind.wrap .i64 (v1 + (1 : Int))))] ?_
           refine WO_nil ?_
           refine blockK_normal ?_
           refine W_reg ?_
           refine ps 2 [(105, vi (IntKind.wrap .i64 (v3 + (1 : Int)))), (38, vi (IntKind.wrap .i64 (v3 + (1 : Int))))] ?_
           refine WO_nil ?_
           exact ⟨_, IntKind.wrap .i64 (v1 + (1 : Int)), v5, IntKind.wrap .i64 (v3 + (1 : Int)), Agree.eq ⟨rfl, rfl, rfl, rfl, rfl, rfl, rfl, rfl, rfl, rfl, rfl, trivial⟩, hb_b1, h⟩
   ·refine W_exit ?_
    refine blockK_hit ?_
    refine W_regseq ?_
    refine ps 1 [(106, vP r1)] ?_
    refine lbn [vu a.Kind, vi a.Id] tk40 hb_b1 ?_
    refine ps 2 [(108, vs unit), (109, vi until_)] ?_
    refine cl h ?_
    rintro _ w12 ⟨r5_a, r5_n, r5_c, rfl, hk0, h⟩
    replace hb_b1 := kp_at hk0 hb_b1
    refine ps 1 [(17, vl r5_a r5_n r5_c)] ?_
    refine WO_nil ?_
    refine W_regseq ?_
    refine ps 1 [(18, vi 0)] ?_
    refine WO_nil ?_
    refine W_join (fun e w13 => ∃ (e0 : Env) (v7 : Int), e = upds e0 [(2, vs unit), (4, vi until_), (6, vp ⟨b1, 0, none⟩), (11, vP r1), (12, vl r3_a r3_n r3_c), (13, vi v1), (18, vi v7)] ∧ w13.heap[b1]? = some (.cells #[vu a.Kind, vi a.Id] 40 (0, 0)) ∧ law06_DrawersStatements.j4 Q a unit until_ b1 r1 r3_n v1 v7 w13) ?_ ?_
    ·refine W_regseq ?_
     refine ps 3 [(111, vl r5_a r5_n r5_c), (112, vi (r5_n : Nat)), (113, vb (decide (((r5_n : Nat) : Int) > (0 : Int))))] ?_
     refine WO_nil ?_
     refine ci h (fun h => ?_) fun h => ?_
     ·refine W_reg ?_
      refine ps 4 [(114, vl r5_a r5_n r5_c), (115, vl r5_a r5_n r5_c), (116, vi (r5_n : Nat)), (117, vi (IntKind.wrap .i64 (((r5_n : Nat) : Int) - (1 : Int))))] ?_
      refine ix slk94 h fun p4 h => ?_
      refine ps 1 [(119, vp (Addr.add (Addr.add p4 ((IntKind.wrap .i64 (((r5_n : Nat) : Int) - (1 : Int))).toNat * 2)) 1))] ?_
      obtain ⟨x4, hx4, h⟩ := h
      refine ld1 tk3 hx4 ?_
      refine ps 1 [(18, vi x4)] ?_
      refine WO_nil ?_
      exact ⟨_, x4, Agree.eq ⟨rfl, rfl, rfl, rfl, rfl, rfl, rfl, trivial⟩, hb_b1, h⟩
     ·refine W_skip ?_
      exact ⟨_, 0, Agree.eq ⟨rfl, rfl, rfl, rfl, rfl, rfl, rfl, trivial⟩, hb_b1, h⟩
    ·clear h hb_b1
     rintro _ w13 ⟨e0, v7, rfl, hb_b1, h⟩
     unfold law06_DrawersStatements.j4 at h
     refine W_regseq ?_
     refine cl h ?_
     rintro _ w14 ⟨r6, rfl, hk0, h⟩
     replace hb_b1 := kp_at hk0 hb_b1
     refine ps 1 [(122, vb r6)] ?_
     refine cs 122 h (fun h => ?_) fun h => ?_
     ·refine ps 6 [(123, vi v1), (124, vl r3_a r3_n r3_c), (125, vi (r3_n : Nat)), (126, vb (v1 == ((r3_n : Nat) : Int))), (127, vb (v1 == ((r3_n : Nat) : Int))), (128, vb (v1 == ((r3_n : Nat) : Int)))] ?_
      refine cs 128 h (fun h => ?_) fun h => ?_
      ·refine ps 3 [(129, vi until_), (130, vb (decide (until_ < (0 : Int)))), (131, vb (decide (until_ < (0 : Int))))] ?_
       refine cs 131 h (fun h => ?_) fun h => ?_
       ·refine ps 10 [(132, undef), (133, undef), (134, undef), (135, undef), (136, undef), (137, undef), (138, undef), (139, vb true), (140, vb true), (10, vb true)] ?_
        refine WO_nil ?_
        refine W_ret ?_
        exact ret1 (v := vb true) (t := 10) rfl rfl ⟨_, rfl, h⟩
       ·refine ps 2 [(132, vi v7), (133, vP r1)] ?_
        refine lbn [vu a.Kind, vi a.Id] tk40 hb_b1 ?_
        refine ps 2 [(135, vs unit), (136, vi until_)] ?_
        refine cl h ?_
        rintro _ w15 ⟨r7, rfl, h⟩
        refine ps 4 [(138, vb (v7 == r7)), (139, vb (v7 == r7)), (140, vb (v7 == r7)), (10, vb (v7 == r7))] ?_
        refine WO_nil ?_
        refine W_ret ?_
        exact ret1 (v := vb (v7 == r7)) (t := 10) rfl rfl ⟨_, rfl, h⟩
      ·refine ps 13 [(129, undef), (130, undef), (131, undef), (132, undef), (133, undef), (134, undef), (135, undef), (136, undef), (137, undef), (138, undef), (139, undef), (140, vb false), (10, vb false)] ?_
       refine WO_nil ?_
       refine W_ret ?_
       exact ret1 (v := vb false) (t := 10) rfl rfl ⟨_, rfl, h⟩
     ·refine ps 19 [(123, undef), (124, undef), (125, undef), (126, undef), (127, vb false), (128, vb false), (129, undef), (130, undef), (131, undef), (132, undef), (133, undef), (134, undef), (135, undef), (136, undef), (137, undef), (138, undef), (139, undef), (140, vb false), (10, vb false)] ?_
      refine WO_nil ?_
      refine W_ret ?_
      exact ret1 (v := vb false) (t := 10) rfl rfl ⟨_, rfl, h⟩
end Go.Proofs.YtcbijkakoepglaaGreat
namespace Go.Proofs.YtcbijkakoepglaaGreat
open Go Go.Wx
theorem lawStatements_c {w : World} {a : Option Addr} {n c : Nat} {ms : List MOp} (ho : OpsIs w a n ms) {acc : TAccount} {unit : ByteArray} {from_ until_ : Int} :
    Cl Pg 15 #[vl a n c, vg [vu acc.Kind, vi acc.Id], vs unit, vi from_, vi until_] w (Yes w) := by
  refine Cl.yes (law06_DrawersStatements.ok (a := acc) (Q := fun b w' => b = true ∧ Ext w w') (al_f (er w) fun b1 w1 hb1 hat1 E1 e1 n1 => ?_))
  by_cases hlong : n ≤ 60
  case neg =>
    refine played_long (by omega) ⟨rfl, ifb_t (alive_c fun w3 E3 => ⟨?_, E1.ext E3⟩)⟩
    rw [decide_eq_true (show ((n : Nat) : Int) > 60 by omega)]; rfl
  have hl1 := ho.len
  refine played_c (ho.ext E1) hlong fun b w2 R st hL hb hR E2 => ⟨E2.blk _ hat1.lt id, ifb_f ?_⟩
  have hat2 := hat1.ext E2
  have E12 := E1.ext E2
  have hGK : GoodK n (M0.runs ms) := by have := good_runs ms good_M0; rw [Nat.zero_add, ← hl1] at this; exact this
  have hG := hGK.good (by omega)
  have hF := hG.small.fits
  obtain ⟨hm0, hO0⟩ := runs_moves ms j_M0 ol_M0
  have hPO := hm0.po j_M0 po_M0
  generalize M0.runs ms = M at *
  refine statement_c hL.rd hF fun r3a r3n r3c w4 ho3 hk3 e4 => ⟨e4.blk _ hat2.lt id, postings_c (hL.ext e4).rd hF fun r4a r4n r4c w5 ho4 hk4 e5 => ⟨e5.blk _ (hat2.ext e4).lt id, r4n + 1, ?_⟩⟩
  have E5 := (E12.ext e4).ext e5
  have hL5 := (hL.ext e4).ext e5
  have hat5 := (hat2.ext e4).ext e5
  have r3 := (ho3.ext e5).rd encStmt
  have r4 := ho4.rd encPosting
  have l4 : r4n ≤ 20000 := by rw [ho4.1]; exact hG.postings
  have hfine := hPO.fine
  have key : ∀ m i w' (k : Nat) v, i + m = r4n → Ext w5 w' → k ≤ r3n → (M.statement acc unit from_ until_).drop k = stmtOn acc unit from_ until_ v (i : Nat) (M.postings.drop i) →
      law06_DrawersStatements.l1 (fun b w' => b = true ∧ Ext w w') acc unit from_ until_ b1 (some ⟨b, 0, none⟩) r3a r3n r4a r4n (m + 1) (k : Nat) v (i : Nat) w' := by
    intro m
    induction m with
    | zero =>
      intro i w' k v hi E' hk hdrop
      unfold law06_DrawersStatements.l1
      rw [List.drop_of_length_le (show M.postings.length ≤ i by have := ho4.1; omega)] at hdrop
      have hkk : k = r3n := by
        have := congrArg List.length hdrop
        simp only [stmtOn, List.length_drop, List.length_nil] at this
        have := ho3.1
        omega
      have hL' := hL5.ext E'
      have hat' := hat5.ext E'
      refine ifb_df (by omega) (statement_c hL'.rd hF fun r5a r5n r5c w12 ho5 hk5 e12 => ⟨e12.blk _ hat'.lt id, ?_⟩)
      have l5 : r5n ≤ 20000 := by rw [ho5.1]; exact Nat.le_trans (stmt_len _ _ _) hG.postings
      have hlast := stmt_balance hPO acc unit until_
      have j4 : ∀ v7, v7 = M.balance acc unit until_ → law06_DrawersStatements.j4 (fun b w' => b = true ∧ Ext w w') acc unit until_ b1 (some ⟨b, 0, none⟩) r3n (k : Nat) v7 w12 := by
        intro v7 hv
        unfold law06_DrawersStatements.j4
        refine alive_c fun w14 e14 => ⟨e14.blk _ (hat'.ext e12).lt id, ifb_t ?_⟩
        rw [hkk, beq_self_eq_true]
        refine ifb_t (ifb ?_)
        have E14 := ((E5.ext E').ext e12).ext e14
        split
        · exact ⟨rfl, E14⟩
        · refine balance_c ((hL'.ext e12).ext e14).rd hF fun w15 e15 => ⟨?_, E14.ext e15⟩
          rw [hv, beq_self_eq_true]
      refine ifb ?_
      split
      · rename_i h0
        have h0 : 0 < r5n := by have := of_decide_eq_true h0; omega
        have hw : IntKind.wrap .i64 (((r5n : Nat) : Int) - 1) = ((r5n - 1 : Nat) : Int) := by rw [wrap_id (by omega) (by omega)]; omega
        rw [hw]
        refine (ho5.rd encStmt).ix (by omega) (by omega) fun a1 y ha1 hy hcy => ⟨y.Balance, (by have := hcy.at 1 rfl; exact this), j4 _ ?_⟩
        simp only [Int.toNat_natCast] at hy
        rw [← hlast]
        unfold lastOr
        rw [List.getLast?_eq_getElem?, ← ho5.1, hy]
      · rename_i h0
        have h0 : r5n = 0 := by simp at h0; omega
        refine j4 0 ?_
        rw [← hlast]
        have : M.statement acc unit 0 until_ = [] := List.eq_nil_of_length_eq_zero (by rw [← ho5.1]; exact h0)
        rw [this]; rfl
    | succ m ih =>
      intro i w' k v hi E' hk hdrop
      unfold law06_DrawersStatements.l1
      refine ifb_dt (by omega) ((r4.ext E').ix (by omega) (by omega) fun a0 x ha hx hc => ⟨x, hc, al_f (E5.ext E') fun b2 w7 hb2 hat7 E7 e7 g7 => sb_f E7 hat7 hb2 fun w8 hat8 E8 f8 => ?_⟩)
      simp only [Int.toNat_natCast] at hx
      obtain ⟨hxl, hx'⟩ := List.getElem?_eq_some_iff.1 hx
      rw [List.drop_eq_getElem_cons hxl, hx'] at hdrop
      have hfx := hfine x (List.mem_of_getElem? hx)
      have s5 : w5.heap.size ≤ w'.heap.size := E'.size
      have E58 : Ext w5 w8 := Frm.trans (E'.ext e7) f8 fun kk hk e => by have e : kk = b2 := e; omega
      have hws : IntKind.wrap .i64 (((i : Nat) : Int) + 1) = ((i + 1 : Nat) : Int) := wrap_succ (n := r4n) (by omega) (by omega) (by simp only [maxLen]; omega)
      have hi1 : ((i : Nat) : Int) + 1 = ((i + 1 : Nat) : Int) := by omega
      have jT : (!strEq x.Unit unit || (!fromAt acc x && !toAt acc x)) = true → law06_DrawersStatements.j1 (fun b w' => b = true ∧ Ext w w') acc from_ until_ r3a r3n (k : Nat) v (i : Nat) (law06_DrawersStatements.l1 (fun b w' => b = true ∧ Ext w w') acc unit from_ until_ b1 (some ⟨b, 0, none⟩) r3a r3n r4a r4n (m + 1)) x true w8 := by
        intro hs
        unfold stmtOn at hdrop
        rw [if_pos hs, hi1] at hdrop
        unfold law06_DrawersStatements.j1
        rw [hws]
        exact ifb_t (ih (i + 1) w8 k v (by omega) E58 hk hdrop)
      have jF : (!strEq x.Unit unit || (!fromAt acc x && !toAt acc x)) = false → law06_DrawersStatements.j1 (fun b w' => b = true ∧ Ext w w') acc from_ until_ r3a r3n (k : Nat) v (i : Nat) (law06_DrawersStatements.l1 (fun b w' => b = true ∧ Ext w w') acc unit from_ until_ b1 (some ⟨b, 0, none⟩) r3a r3n r4a r4n (m + 1)) x false w8 := by
        intro hs
        have hs2 : (!fromAt acc x && !toAt acc x) = false := by
          cases h : (!fromAt acc x && !toAt acc x) with
          | true => rw [h, Bool.or_true] at hs; cases hs
          | false => rfl
        unfold stmtOn at hdrop
        rw [if_neg (by rw [hs]; simp)] at hdrop
        simp only at hdrop
        rw [stmt_v2 hfx v hs2, hi1] at hdrop
        have j2 : ∀ v5, v5 = (if toAt acc x then wr (v + x.N) else wr (v - x.N)) → law06_DrawersStatements.j2 (fun b w' => b = true ∧ Ext w w') from_ until_ r3a r3n (k : Nat) (i : Nat) (law06_DrawersStatements.l1 (fun b w' => b = true ∧ Ext w w') acc unit from_ until_ b1 (some ⟨b, 0, none⟩) r3a r3n r4a r4n (m + 1)) x v5 w8 := by
          intro v5 hv5
          rw [← hv5] at hdrop
          unfold law06_DrawersStatements.j2
          refine ifb ?_
          split
          · rename_i hd
            rw [if_neg (by simp only [Bool.or_eq_true, decide_eq_true_eq, Bool.and_eq_true] at hd ⊢; omega), List.nil_append] at hdrop
            rw [hws]
            exact ih (i + 1) w8 k v5 (by omega) E58 hk hdrop
          · rename_i hd
            rw [if_pos (by simp only [Bool.or_eq_true, decide_eq_true_eq, Bool.and_eq_true, not_or] at hd ⊢; omega), List.cons_append, List.nil_append] at hdrop
            have hkl : k < r3n := by
              have h1 := congrArg List.length hdrop
              simp only [List.length_drop, List.length_cons] at h1
              have := ho3.1
              omega
            have hget : (M.statement acc unit from_ until_)[k]? = some ⟨(i : Nat), v5⟩ := by
              have h1 := congrArg (fun l => l[0]?) hdrop
              simpa using h1
            have hnext : (M.statement acc unit from_ until_).drop (k + 1) = stmtOn acc unit from_ until_ v5 ((i + 1 : Nat) : Int) (M.postings.drop (i + 1)) := by
              have h1 := congrArg List.tail hdrop
              simpa using h1
            have l3 : r3n ≤ 20000 := by rw [ho3.1]; exact Nat.le_trans (stmt_len _ _ _) hG.postings
            refine ifb_df (by omega) ((r3.ext E58).ix (by omega) (by omega) fun a2 y ha2 hy hcy => ⟨y.Posting, (by have := hcy.at 0 rfl; rwa [add_add, Nat.add_zero] at this), ?_⟩)
            simp only [Int.toNat_natCast] at hy
            rw [hget] at hy
            cases hy
            rw [bne_self_eq_false]
            refine ifb_f ((r3.ext E58).ix (by omega) (by omega) fun a3 y ha3 hy hcy => ⟨y.Balance, (by have := hcy.at 1 rfl; exact this), ?_⟩)
            simp only [Int.toNat_natCast] at hy
            rw [hget] at hy
            cases hy
            show law06_DrawersStatements.j3 _ (k : Nat) (i : Nat) _ v5 (v5 != v5) w8
            rw [bne_self_eq_false]
            unfold law06_DrawersStatements.j3
            refine ifb_f ?_
            rw [hws, wrap_succ (x := ((k : Nat) : Int)) (n := r3n) (by omega) (by omega) (by simp only [maxLen]; omega)]
            exact ih (i + 1) w8 (k + 1) v5 (by omega) E58 (by omega) hnext
        unfold law06_DrawersStatements.j1
        refine ifb_f ?_
        show Ifb (toAt acc x) _ _
        refine ifb ?_
        split
        · rename_i ht; exact j2 _ (by rw [if_pos ht])
        · rename_i ht; exact j2 _ (by rw [if_neg ht])
      refine ifb ?_
      split
      · rename_i h; exact jT (by rw [h]; rfl)
      rename_i hu
      have hu : (!strEq x.Unit unit) = false := by simpa using hu
      show Ifb (!fromAt acc x) _ _
      refine ifb ?_
      split
      · rename_i hf
        show law06_DrawersStatements.j1 _ acc from_ until_ r3a r3n (k : Nat) v (i : Nat) _ x (!toAt acc x) w8
        cases ht : toAt acc x with
        | true => exact jF (by rw [hu, ht]; simp)
        | false => exact jT (by rw [hf, ht]; simp)
      · rename_i hf
        exact jF (by rw [hu, show (!fromAt acc x) = false by simpa using hf]; rfl)
  exact key r4n 0 w5 0 0 (by omega) (er w5) (by omega) (by unfold MState.statement; simp)
end Go.Proofs.YtcbijkakoepglaaGreat
namespace Go.Proofs.YtcbijkakoepglaaGreat
open Go Go.Wx Go.ChangeShapes Go.WideShapes Go.ChangeAt Go.RowKit
open Go.ChangeMaps (open_string shut_string)
set_option maxRecDepth 100000 in
theorem liftedDrawersStatements (os : Os) (started : os.Started) (H : Type) (enc : TypeId × Value → H) :
    ReturnsInHanded {} Tryz.checked os 15 .any (Rows.drawersStatementsSpec.pre6 enc Tryz.prog Tryz.f15 Rows.drawersStatementsRow.domain false) (Rows.drawersStatementsSpec.post enc Tryz.prog Tryz.f15 false true false false) := by
  refine returnsInHanded_of_change_sized (C := Tryz.checked) own started (by kernel_rfl) Tryz.func15
    (ChangeSpec.witness6 (enc := enc) (C := Tryz.checked) false ⟨#[], #[.slice none 0 0, .agg #[.int .u8 0, .int .i64 0], .string ByteArray.empty, .int .i64 0, .int .i64 0], []⟩ 8 (by kernel_rfl) (by kernel_rfl) (by kernel_rfl) (by kernel_rfl)) ?_
  intro W base args ds gs before hval0 hW hcnd hsz0 _
  have hsz : (DataW.weightsEach Tryz.prog (Tryz.f15.params.toList ++ Rows.drawersStatementsSpec.plain.varTypes Tryz.prog) (ds ++ gs)).all (· ≤ reachBytes) = true := hsz0
  have hval : ∀ (j : Nat) t v, Tryz.f15.params[j]? = some t → args[j]? = some v → Value.okWide Tryz.prog W .any base t v := hval0
  have hW' := hW
  obtain ⟨p, q, hA0, hV, rfl, hfz, hnd⟩ := hW
  have hA : DataW.TrodAll enc Tryz.prog W 0 (fun _ => true) true Tryz.f15.params.toList args.toList ds p := hA0
  have hA' := hA
  rw [Tryz.params15] at hA hval hsz
  obtain ⟨v0, vs0, d0, ds0, p0, q0, hargs, rfl, rfl, t0, r0⟩ := trodAll_cons hA
  obtain ⟨v1, vs1, d1, ds1, p1, q1, rfl, rfl, rfl, t1, r1⟩ := trodAll_cons r0
  obtain ⟨v2, vs2, d2, ds2, p2, q2, rfl, rfl, rfl, t2, r2⟩ := trodAll_cons r1
  obtain ⟨v3, vs3, d3, ds3, p3, q3, rfl, rfl, rfl, t3, r3⟩ := trodAll_cons r2
  obtain ⟨v4, vs4, d4, ds4, p4, q4, rfl, rfl, rfl, t4, r4⟩ := trodAll_cons r3
  obtain ⟨rfl, rfl, rfl⟩ := trodAll_nil r4
  obtain rfl : args = #[v0, v1, v2, v3, v4] := by cases args; simp_all
  obtain ⟨rfl, rfl⟩ := trodVars_none hV
  obtain ⟨a0, n0, c0, rfl⟩ := okWide_slice Tryz.underlying30 (hval 0 30 v0 rfl rfl)
  have u0 := (weights_of hsz (j := 0) (t := 30) (d := d0) rfl rfl)
  obtain ⟨fu0, hf0⟩ := t0
  obtain ⟨ms0, h0⟩ := open_script hf0 u0
  obtain ⟨x1, rfl⟩ := open_acct (hval 1 40 v1 rfl rfl) t1 (weights_of hsz (j := 1) (t := 40) (d := d1) rfl rfl)
  obtain ⟨x2, rfl, -, -, y2⟩ := open_string Tryz.underlying9 (hval 2 9 v2 rfl rfl) t2
  obtain ⟨x3, rfl, -, -, w3⟩ := open_int Tryz.underlying3 (hval 3 3 v3 rfl rfl) t3
  obtain ⟨x4, rfl, -, -, w4⟩ := open_int Tryz.underlying3 (hval 4 3 v4 rfl rfl) t4
  refine Calls.mono (lawStatements_c h0) fun e W' hy => ?_
  obtain ⟨v, he, hv, bel⟩ := hy
  subst he
  subst hv
  exact ⟨_, rfl, _, _, _, [], _, [], hW', trodAll_mk1 (shut_bool Tryz.underlying4 _), Below.trodAll laidOut bel.below (by kernel_rfl) hA', rfl, bel.below.frame _, fun h => by cases h⟩
theorem named15 : Tryz.checked.prog.funcNamed Rows.drawersStatementsRow.func = some 15 := by kernel_rfl
set_option maxRecDepth 100000 in
set_option maxHeartbeats 20000000 in
theorem facts15 : joinedFacts Tryz.checked.prog 15 Tryz.f15 Rows.drawersStatementsSpec Rows.drawersStatementsRow = true := by
  show joinedFacts Tryz.prog 15 Tryz.f15 Rows.drawersStatementsSpec Rows.drawersStatementsRow = true
  unfold joinedFacts
  simp only [Bool.and_eq_true]
  repeat' apply And.intro
  all_goals as_aux_lemma => kernel_rfl
theorem inst15 : Tryz.f15.isInstance Tryz.checked.prog Rows.drawersStatementsRow.origin Rows.drawersStatementsRow.targs := of_decide_eq_true (by kernel_rfl)
theorem wrap15 : Tryz.f15.isWrapper Tryz.checked.prog Rows.drawersStatementsRow.wrapper Rows.drawersStatementsRow.mainSum := by unfold Func.isWrapper; first | (rw [if_pos (by decide +kernel)]; kernel_rfl) | (rw [if_neg (by decide +kernel)]; exact ⟨rfl, rfl⟩)
theorem drawersStatements_holds : Rows.DrawersStatementsSaid :=
  OpenClaim.holds_of_wide 15 Tryz.f15 rfl rfl rfl rfl rfl rfl rfl ⟨rfl, rfl, rfl, rfl, rfl⟩ rfl rfl rfl rfl rfl named15 Tryz.func15 facts15 inst15 wrap15
    (fun os started H enc _ => liftedDrawersStatements os started H enc)
end Go.Proofs.YtcbijkakoepglaaGreat
