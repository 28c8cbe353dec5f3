/- The law DrawersPast holds. Conditions: none. -/
import Derived.Test.YtcbijkakoepglaaGreatKB6
import Derived.Test.YtcbijkakoepglaaGreatRows
import Derived.JoinedOf
set_option linter.all false
namespace Go.Proofs.YtcbijkakoepglaaGreat
open Go Go.Wx

/-! ### the moves -/
/-- a lot turns: x becomes x', n of its unit goes from (fk, fi) to (tk, ti) for the reason why. -/
inductive Turn (x : TLot) : TLot → Int → Int → Int → Int → Int → Int → Prop where
  | forfeit : x.State = 1 → Turn x { x with State := 3 } x.Left 2 x.Thing 4 0 3
  | pay (person : Int) : x.State = 1 → isId person = true → Turn x { x with State := 2, Left := 0 } x.Left 2 x.Thing 3 person 2
  | part (person m : Int) : x.State = 1 → 1 ≤ m → m ≤ x.Left → isId person = true → Turn x (cvLot x m) m 2 x.Thing 3 person 2
  | swap (m : Int) : x.State = 1 → 1 ≤ m → m ≤ x.Left → Turn x (cvLot x m) m 2 x.Thing 6 0 5
  | lose : x.State = 1 → Turn x { x with State := 5 } x.Left 2 x.Thing 5 0 6
  | recover : x.State = 5 → Turn x { x with State := 1 } x.Left 5 0 2 x.Thing 7
  | dispatch (bag : Int) : x.State = 1 → isId bag = true → Turn x { x with State := 6, Bag := bag } x.Left 2 x.Thing 7 bag 8
  | arrive : x.State = 6 → Turn x { x with State := 7, Left := 0 } x.Left 7 x.Bag 1 0 9
  | refund (person : Int) : x.State = 3 → isId person = true → 0 < restR x → Turn x { x with State := 4, Left := 0 } (restR x) 4 0 3 person 4
structure LotIn (M : MState) (x : TLot) : Prop where
  thing : isId x.Thing = true
  unit : 0 ≤ M.find x.Unit
  n1 : 1 ≤ x.N
  n2 : x.N ≤ 1000000000
  left : x.Left = x.N
inductive Move : MState → MState → Prop where
  | turn {M : MState} {i : Nat} {x x' : TLot} {n fk fi tk ti why : Int} : M.lots[i]? = some x → Turn x x' n fk fi tk ti why → Move M ((M.post ⟨M.day, x.Unit, n, fk, fi, tk, ti, why, x.Id⟩).setLot i x')
  | keep {M : MState} {i : Nat} {x : TLot} : M.lots[i]? = some x → x.State = 3 → ¬ 0 < restR x → Move M (M.setLot i { x with State := 4, Left := 0 })
  | enter {M : MState} {x : TLot} {fk why : Int} : (fk = 1 ∧ (why = 1 ∨ why = 10) ∨ fk = 6 ∧ why = 5) → LotIn M x → M.lots.length < 2000 → Move M (M.enter x fk 0 why)
  | day {M : MState} {d : Int} : M.day ≤ d → d ≤ 100000 → Move M { M with day := d }
  | unit {M : MState} {name : ByteArray} {kind : Int} : named name = true → M.find name < 0 → Move M { M with units := M.units ++ [⟨name, kind, []⟩] }
  | value {M : MState} {i : Nat} {u : MUnit} {g : Int} : M.units[i]? = some u → 1 ≤ g → g ≤ 100000 → Move M { M with units := M.units.set i { u with values := u.values ++ [⟨M.day, g⟩] } }
  | term {M : MState} {t : Tterm} : t.day = M.day → 1 ≤ t.days → t.days ≤ 40000 → Move M { M with terms := M.terms ++ [t] }
inductive Moves : MState → MState → Prop where
  | refl {M : MState} : Moves M M
  | tail {M M1 M2 : MState} : Moves M M1 → Move M1 M2 → Moves M M2
theorem Moves.one {M M' : MState} (h : Move M M') : Moves M M' := .tail .refl h
theorem Moves.trans {M M1 M2 : MState} (h : Moves M M1) (h2 : Moves M1 M2) : Moves M M2 := by
  induction h2 with
  | refl => exact h
  | tail _ h3 ih => exact .tail ih h3
theorem Moves.head {M M1 M2 : MState} (h : Move M M1) (h2 : Moves M1 M2) : Moves M M2 := (Moves.one h).trans h2

/-! ### what every move keeps -/
structure LotOk (M : MState) (x : TLot) : Prop where
  thing : isId x.Thing = true
  unit : 0 ≤ M.find x.Unit
  n1 : 1 ≤ x.N
  n2 : x.N ≤ 1000000000
  live : ((x.State = 1 ∨ x.State = 3 ∨ x.State = 5 ∨ x.State = 6) ∧ 1 ≤ x.Left ∧ x.Left ≤ x.N) ∨ ((x.State = 2 ∨ x.State = 4 ∨ x.State = 7) ∧ x.Left = 0)
  bag : x.State = 6 → isId x.Bag = true
structure J (M : MState) : Prop where
  ids : IdOk M
  lots : ∀ x ∈ M.lots, LotOk M x
  terms : ∀ t ∈ M.terms, 1 ≤ t.days ∧ t.days ≤ 40000
  units : ∀ u ∈ M.units, named u.name = true
  grains : ∀ u ∈ M.units, ∀ v ∈ u.values, 1 ≤ v.grains ∧ v.grains ≤ 100000
  d0 : 0 ≤ M.day
  d1 : M.day ≤ 100000
  len : M.lots.length ≤ 2000
theorem find_any (M : MState) (name : ByteArray) : decide (M.find name ≥ 0) = M.units.any (fun u => strEq u.name name) := idxI_ge _ _
theorem find_mono {M M' : MState} (h : ∀ n, M.units.any (fun u => strEq u.name n) = true → M'.units.any (fun u => strEq u.name n) = true) {name : ByteArray} (hn : 0 ≤ M.find name) : 0 ≤ M'.find name := by
  have h1 := find_any M name
  rw [decide_eq_true hn] at h1
  have h2 := find_any M' name
  rw [h name h1.symm] at h2
  exact of_decide_eq_true h2
theorem LotOk.mono {M M' : MState} (h : ∀ n, M.units.any (fun u => strEq u.name n) = true → M'.units.any (fun u => strEq u.name n) = true) {x : TLot} (hx : LotOk M x) : LotOk M' x :=
  ⟨hx.thing, find_mono h hx.unit, hx.n1, hx.n2, hx.live, hx.bag⟩
theorem LotOk.same {M : MState} {x : TLot} (hx : LotOk M x) (M' : MState) (h : M'.units = M.units) : LotOk M' x := hx.mono fun n => by rw [h]; exact id
theorem Turn.id {x x' : TLot} {n fk fi tk ti why : Int} (h : Turn x x' n fk fi tk ti why) : x'.Id = x.Id := by cases h <;> rfl
theorem cvLot_ok {x : TLot} {m : Int} (hl : x.Left ≤ 1000000000) (h1 : 1 ≤ m) (h2 : m ≤ x.Left) : (cvLot x m).Left = x.Left - m ∧ (cvLot x m).State = if x.Left - m = 0 then 2 else x.State := by
  have : wr (x.Left - m) = x.Left - m := wrap_id (by omega) (by omega)
  unfold cvLot
  simp only [this, and_self]
theorem Turn.ok {M : MState} {x x' : TLot} {n fk fi tk ti why : Int} (h : Turn x x' n fk fi tk ti why) (hx : LotOk M x) : LotOk M x' := by
  obtain ⟨h1, h2, h3, h4, h5, h6⟩ := hx
  cases h with
  | forfeit hs => exact ⟨h1, h2, h3, h4, .inl ⟨.inr (.inl rfl), by show 1 ≤ x.Left; omega, by show x.Left ≤ x.N; omega⟩, fun h => by simp at h⟩
  | pay p hs => exact ⟨h1, h2, h3, h4, .inr ⟨.inl rfl, rfl⟩, fun h => by simp at h⟩
  | part p m hs k1 k2 =>
    have hl : x.Left ≤ x.N := by omega
    obtain ⟨e1, e2⟩ := cvLot_ok (by omega) k1 k2
    refine ⟨h1, h2, h3, h4, ?_, ?_⟩
    · rw [e1, e2]
      by_cases hz : x.Left - n = 0
      · rw [if_pos hz]; exact .inr ⟨.inl rfl, hz⟩
      · rw [if_neg hz]; exact .inl ⟨.inl hs, by omega, by show x.Left - n ≤ x.N; omega⟩
    · rw [e2]; split
      · intro h; simp at h
      · intro h; omega
  | swap m hs k1 k2 =>
    have hl : x.Left ≤ x.N := by omega
    obtain ⟨e1, e2⟩ := cvLot_ok (by omega) k1 k2
    refine ⟨h1, h2, h3, h4, ?_, ?_⟩
    · rw [e1, e2]
      by_cases hz : x.Left - n = 0
      · rw [if_pos hz]; exact .inr ⟨.inl rfl, hz⟩
      · rw [if_neg hz]; exact .inl ⟨.inl hs, by omega, by show x.Left - n ≤ x.N; omega⟩
    · rw [e2]; split
      · intro h; simp at h
      · intro h; omega
  | lose hs => exact ⟨h1, h2, h3, h4, .inl ⟨.inr (.inr (.inl rfl)), by show 1 ≤ x.Left; omega, by show x.Left ≤ x.N; omega⟩, fun h => by simp at h⟩
  | recover hs => exact ⟨h1, h2, h3, h4, .inl ⟨.inl rfl, by show 1 ≤ x.Left; omega, by show x.Left ≤ x.N; omega⟩, fun h => by simp at h⟩
  | dispatch b hs hb => exact ⟨h1, h2, h3, h4, .inl ⟨.inr (.inr (.inr rfl)), by show 1 ≤ x.Left; omega, by show x.Left ≤ x.N; omega⟩, fun _ => hb⟩
  | arrive hs => exact ⟨h1, h2, h3, h4, .inr ⟨.inr (.inr rfl), rfl⟩, fun h => by simp at h⟩
  | refund p hs => exact ⟨h1, h2, h3, h4, .inr ⟨.inr (.inl rfl), rfl⟩, fun h => by simp at h⟩
theorem J.set {M : MState} (h : J M) {i : Nat} {x x' : TLot} (hx : M.lots[i]? = some x) (hi : x'.Id = x.Id) (ho : LotOk M x') : J (M.setLot i x') :=
  ⟨h.ids.setLot hx hi, fun y hy => by
    rcases List.mem_or_eq_of_mem_set hy with hy | hy
    · exact (h.lots y hy).same (M.setLot i x') rfl
    · rw [hy]; exact ho.same (M.setLot i x') rfl, h.terms, h.units, h.grains, h.d0, h.d1, by simp [MState.setLot]; exact h.len⟩
theorem J.post {M : MState} (h : J M) (p : TPosting) : J (M.post p) := ⟨h.ids, fun y hy => (h.lots y hy).same (M.post p) rfl, h.terms, h.units, h.grains, h.d0, h.d1, h.len⟩
theorem Move.j {M M' : MState} (hm : Move M M') (h : J M) : J M' := by
  cases hm with
  | turn hx ht => exact (h.post _).set hx ht.id ((ht.ok (h.lots _ (List.mem_of_getElem? hx))).same (M.post _) rfl)
  | keep hx hs hr =>
    have hk := h.lots _ (List.mem_of_getElem? hx)
    exact h.set hx rfl ⟨hk.thing, hk.unit, hk.n1, hk.n2, .inr ⟨.inr (.inl rfl), rfl⟩, fun h => by simp at h⟩
  | enter hw hl hlen =>
    rename_i x fk why
    refine ⟨enter_ids h.ids _ _ _ _, fun y hy => ?_, h.terms, h.units, h.grains, h.d0, h.d1, by simp [MState.enter]; omega⟩
    rcases List.mem_append.1 hy with hy | hy
    · exact (h.lots y hy).same (M.enter x fk 0 why) rfl
    · simp at hy
      subst hy
      have := hl.left
      have := hl.n1
      exact ⟨hl.thing, hl.unit, hl.n1, hl.n2, .inl ⟨.inl rfl, by show 1 ≤ x.Left; omega, by show x.Left ≤ x.N; omega⟩, fun h => by simp at h⟩
  | day h1 h2 => exact ⟨h.ids, fun y hy => LotOk.same (h.lots y hy) _ rfl, h.terms, h.units, h.grains, Int.le_trans h.d0 h1, h2, h.len⟩
  | unit hn hf =>
    refine ⟨h.ids, fun y hy => (h.lots y hy).mono fun n hn => by simp only [List.any_append, hn, Bool.true_or], h.terms, fun u hu => ?_, fun u hu v hv => ?_, h.d0, h.d1, h.len⟩
    · rcases List.mem_append.1 hu with hu | hu
      · exact h.units u hu
      · simp at hu; subst hu; exact hn
    · rcases List.mem_append.1 hu with hu | hu
      · exact h.grains u hu v hv
      · simp at hu; subst hu; cases hv
  | value hu g1 g2 =>
    rename_i i u g
    refine ⟨h.ids, fun y hy => (h.lots y hy).mono fun n hn => ?_, h.terms, fun v hv => ?_, fun y hy v hv => ?_, h.d0, h.d1, h.len⟩
    · rw [List.any_eq_true] at hn ⊢
      obtain ⟨v, hv, he⟩ := hn
      obtain ⟨j, hj⟩ := List.getElem?_of_mem hv
      by_cases hij : i = j
      · subst hij
        rw [hu] at hj
        cases hj
        exact ⟨{ u with values := u.values ++ [⟨M.day, g⟩] }, List.mem_of_getElem? (by rw [List.getElem?_set_self (List.getElem?_eq_some_iff.1 hu).1]), he⟩
      · exact ⟨v, List.mem_of_getElem? (by rw [List.getElem?_set_ne hij]; exact hj), he⟩
    · rcases List.mem_or_eq_of_mem_set hv with hv | hv
      · exact h.units v hv
      · rw [hv]; exact h.units u (List.mem_of_getElem? hu)
    · rcases List.mem_or_eq_of_mem_set hy with hy | hy
      · exact h.grains y hy v hv
      · subst hy
        rcases List.mem_append.1 hv with hv | hv
        · exact h.grains u (List.mem_of_getElem? hu) v hv
        · simp at hv; subst hv; exact ⟨g1, g2⟩
  | term h1 h2 h3 =>
    refine ⟨h.ids, fun y hy => LotOk.same (h.lots y hy) _ rfl, fun t ht => ?_, h.units, h.grains, h.d0, h.d1, h.len⟩
    rcases List.mem_append.1 ht with ht | ht
    · exact h.terms t ht
    · simp at ht; subst ht; exact ⟨h2, h3⟩
theorem Moves.j {M M' : MState} (hm : Moves M M') (h : J M) : J M' := by
  induction hm with
  | refl => exact h
  | tail _ h2 ih => exact h2.j ih
end Go.Proofs.YtcbijkakoepglaaGreat
namespace Go.Proofs.YtcbijkakoepglaaGreat
open Go Go.Wx

/-- lots that are open are due later. -/
def OL (M : MState) : Prop := ∀ x ∈ M.lots, x.State = 1 → M.day < x.Due
theorem Move.day_le {M M' : MState} (h : Move M M') : M.day ≤ M'.day := by
  cases h <;> first | exact Int.le_refl _ | assumption
theorem Moves.day_le {M M' : MState} (h : Moves M M') : M.day ≤ M'.day := by
  induction h with
  | refl => exact Int.le_refl _
  | tail _ h2 ih => exact Int.le_trans ih h2.day_le

/-! ### forfeits -/
theorem forfeit_day (M : MState) (id q d : Int) : ({ M with day := d } : MState).forfeit id q = { M.forfeit id q with day := d } := by
  unfold MState.forfeit
  simp only
  cases M.lots[(id - 1).toNat]? <;> rfl
theorem forfeits_day : ∀ (l : List (Int × Int)) (M : MState) (d : Int), ({ M with day := d } : MState).forfeits l = { M.forfeits l with day := d }
  | [], _, _ => rfl
  | a :: l, M, d => by
    show (({ M with day := d } : MState).forfeit a.1 a.2).forfeits l = { (M.forfeit a.1 a.2).forfeits l with day := d }
    rw [forfeit_day, forfeits_day l]
theorem id_at {M : MState} (hI : IdOk M) {x : TLot} {i : Nat} (h : M.lots[i]? = some x) : (x.Id - 1).toNat = i := by
  have := hI i x h
  omega
theorem forfeit_at {M : MState} {x : TLot} (h : M.lots[(x.Id - 1).toNat]? = some x) (q : Int) : M.forfeit x.Id q = (M.post ⟨q, x.Unit, x.Left, 2, x.Thing, 4, 0, 3, x.Id⟩).setLot (x.Id - 1).toNat { x with State := 3 } := by
  unfold MState.forfeit
  rw [h]
theorem rest_at {M : MState} (hI : IdOk M) {x x' : TLot} {ds : List TLot} (hx : M.lots[(x.Id - 1).toNat]? = some x) (hn : ((x :: ds).map (·.Id)).Nodup) {y : TLot} (hy : y ∈ ds) (h : M.lots[(y.Id - 1).toNat]? = some y) : (M.lots.set (x.Id - 1).toNat x')[(y.Id - 1).toNat]? = some y := by
  rw [List.getElem?_set_ne, h]
  intro e
  have h1 := hI _ _ hx
  have h2 := hI _ _ h
  rw [List.map_cons, List.nodup_cons] at hn
  exact hn.1 (List.mem_map.2 ⟨y, hy, by omega⟩)
theorem forfeits_moves (q : TLot → Int) {D : Int} (hD : D ≤ 100000) : ∀ (ds : List TLot) (M : MState), IdOk M → (∀ x ∈ ds, M.lots[(x.Id - 1).toNat]? = some x ∧ x.State = 1) → (ds.map (·.Id)).Nodup → (ds.Pairwise fun x y => q x ≤ q y) → (∀ x ∈ ds, M.day ≤ q x ∧ q x ≤ D) → M.day ≤ D →
    ∃ M', Moves M M' ∧ M'.day ≤ D ∧ M.forfeits (ds.map fun x => (x.Id, q x)) = { M' with day := M.day }
  | [], M, _, _, _, _, _, hd => ⟨M, .refl, hd, rfl⟩
  | x :: ds, M, hI, hat, hn, hs, hq, hd => by
    obtain ⟨hx, hst⟩ := hat x List.mem_cons_self
    obtain ⟨q1, q2⟩ := hq x List.mem_cons_self
    obtain ⟨s1, s2⟩ := List.pairwise_cons.1 hs
    have m1 : Move M { M with day := q x } := .day q1 (Int.le_trans q2 hD)
    have m2 : Move { M with day := q x } ((({ M with day := q x } : MState).post ⟨q x, x.Unit, x.Left, 2, x.Thing, 4, 0, 3, x.Id⟩).setLot (x.Id - 1).toNat { x with State := 3 }) := .turn (M := { M with day := q x }) hx (.forfeit hst)
    have hI2 : IdOk ((({ M with day := q x } : MState).post ⟨q x, x.Unit, x.Left, 2, x.Thing, 4, 0, 3, x.Id⟩).setLot (x.Id - 1).toNat { x with State := 3 }) := IdOk.setLot (M := M.post ⟨q x, x.Unit, x.Left, 2, x.Thing, 4, 0, 3, x.Id⟩) hI hx rfl
    obtain ⟨M', h1, h2, h3⟩ := forfeits_moves q hD ds _ hI2 (fun y hy => ⟨rest_at hI hx hn hy (hat y (List.mem_cons_of_mem _ hy)).1, (hat y (List.mem_cons_of_mem _ hy)).2⟩) (by rw [List.map_cons, List.nodup_cons] at hn; exact hn.2) s2 (fun y hy => ⟨s1 y hy, (hq y (List.mem_cons_of_mem _ hy)).2⟩) q2
    refine ⟨M', .head m1 (.head m2 h1), h2, ?_⟩
    show (M.forfeit x.Id (q x)).forfeits (ds.map fun x => (x.Id, q x)) = _
    rw [forfeit_at hx]
    have e : (M.post ⟨q x, x.Unit, x.Left, 2, x.Thing, 4, 0, 3, x.Id⟩).setLot (x.Id - 1).toNat { x with State := 3 } = { ((({ M with day := q x } : MState).post ⟨q x, x.Unit, x.Left, 2, x.Thing, 4, 0, 3, x.Id⟩).setLot (x.Id - 1).toNat { x with State := 3 }) with day := M.day } := rfl
    rw [e, forfeits_day, h3]
theorem forfeits_open (q : TLot → Int) : ∀ (ds : List TLot) (M : MState), IdOk M → (∀ x ∈ ds, M.lots[(x.Id - 1).toNat]? = some x) → (ds.map (·.Id)).Nodup →
    ∀ y ∈ (M.forfeits (ds.map fun x => (x.Id, q x))).lots, y.State = 1 → y ∈ M.lots ∧ y ∉ ds
  | [], M, _, _, _, y, hy, _ => ⟨hy, by simp⟩
  | x :: ds, M, hI, hat, hn, y, hy, hs => by
    have hx := hat x List.mem_cons_self
    have hI2 : IdOk ((M.post ⟨q x, x.Unit, x.Left, 2, x.Thing, 4, 0, 3, x.Id⟩).setLot (x.Id - 1).toNat { x with State := 3 }) := IdOk.setLot (M := M.post ⟨q x, x.Unit, x.Left, 2, x.Thing, 4, 0, 3, x.Id⟩) hI hx rfl
    have hy : y ∈ ((M.forfeit x.Id (q x)).forfeits (ds.map fun x => (x.Id, q x))).lots := hy
    rw [forfeit_at hx] at hy
    obtain ⟨h1, h2⟩ := forfeits_open q ds _ hI2 (fun z hz => rest_at hI hx hn hz (hat z (List.mem_cons_of_mem _ hz))) (by rw [List.map_cons, List.nodup_cons] at hn; exact hn.2) y hy hs
    have h1 : y ∈ M.lots.set (x.Id - 1).toNat { x with State := 3 } := h1
    obtain ⟨j, hj⟩ := List.getElem?_of_mem h1
    by_cases e : (x.Id - 1).toNat = j
    · subst e
      rw [List.getElem?_set_self (List.getElem?_eq_some_iff.1 hx).1] at hj
      cases hj
      simp at hs
    · rw [List.getElem?_set_ne e] at hj
      refine ⟨List.mem_of_getElem? hj, fun hm => ?_⟩
      rcases List.mem_cons.1 hm with rfl | hm
      · exact e (id_at hI hj)
      · exact h2 hm
theorem mem_due {M : MState} {d : Int} {x : TLot} : x ∈ M.due d ↔ x ∈ M.lots ∧ x.State = 1 ∧ x.Due ≤ d := by
  unfold MState.due
  rw [(isort_perm _).mem_iff, List.mem_filter]
  simp [isDue]
theorem ids_nodup {M : MState} (hI : IdOk M) : (M.lots.map (·.Id)).Nodup := by
  rw [List.Nodup, List.pairwise_iff_getElem]
  intro i j hi hj hij
  simp only [List.length_map] at hi hj
  rw [List.getElem_map, List.getElem_map]
  have h1 := hI i _ (List.getElem?_eq_getElem hi)
  have h2 := hI j _ (List.getElem?_eq_getElem hj)
  omega
theorem due_nodup {M : MState} (hI : IdOk M) (d : Int) : ((M.due d).map (·.Id)).Nodup := by
  unfold MState.due
  refine ((isort_perm _).map _).nodup_iff.2 ?_
  exact (ids_nodup hI).sublist ((List.filter_sublist).map _)
theorem due_at {M : MState} (hI : IdOk M) {d : Int} {x : TLot} (hx : x ∈ M.due d) : M.lots[(x.Id - 1).toNat]? = some x := by
  obtain ⟨j, hj⟩ := List.getElem?_of_mem (mem_due.1 hx).1
  rw [id_at hI hj]; exact hj
theorem due_sorted (M : MState) (d : Int) : (M.due d).Pairwise fun x y => x.Due ≤ y.Due := by
  unfold MState.due
  refine (isort_asc swoLot _).imp fun {x y} h => ?_
  rw [ltLot_false] at h
  omega
theorem advance_moves {M : MState} (hJ : J M) (hO : OL M) {day : Int} (h1 : M.day ≤ day) (h2 : day ≤ 100000) : Moves M (M.advance day) ∧ OL (M.advance day) := by
  have hI := hJ.ids
  obtain ⟨M', hm, hd, e⟩ := forfeits_moves (fun x => x.Due) h2 (M.due day) M hI (fun x hx => ⟨due_at hI hx, (mem_due.1 hx).2.1⟩) (due_nodup hI day) (due_sorted M day) (fun x hx => by
    obtain ⟨k1, k2, k3⟩ := mem_due.1 hx
    have := hO x k1 k2
    exact ⟨by omega, k3⟩) h1
  constructor
  · unfold MState.advance
    rw [e]
    exact hm.tail (.day hd h2)
  · intro x hx hs
    have hx : x ∈ (M.forfeits ((M.due day).map fun x => (x.Id, x.Due))).lots := hx
    obtain ⟨k1, k2⟩ := forfeits_open (fun x => x.Due) (M.due day) M hI (fun x hx => due_at hI hx) (due_nodup hI day) x hx hs
    show day < x.Due
    apply Classical.byContradiction
    intro hc
    exact k2 (mem_due.2 ⟨k1, hs, by omega⟩)
theorem late_moves {M : MState} (hJ : J M) : Moves M M.late ∧ OL M.late ∧ M.late.day = M.day := by
  have hI := hJ.ids
  obtain ⟨M', hm, hd, e⟩ := forfeits_moves (fun _ => M.day) hJ.d1 (M.due M.day) M hI (fun x hx => ⟨due_at hI hx, (mem_due.1 hx).2.1⟩) (due_nodup hI _) (List.pairwise_of_forall fun _ _ => Int.le_refl _) (fun x hx => ⟨Int.le_refl _, Int.le_refl _⟩) (Int.le_refl _)
  have hday : M'.day = M.day := Int.le_antisymm hd hm.day_le
  have e : M.late = M' := by
    unfold MState.late
    rw [e, ← hday]
  refine ⟨by rw [e]; exact hm, fun x hx hs => ?_, by rw [e]; exact hday⟩
  have hx : x ∈ (M.forfeits ((M.due M.day).map fun x => (x.Id, M.day))).lots := hx
  obtain ⟨k1, k2⟩ := forfeits_open (fun _ => M.day) (M.due M.day) M hI (fun x hx => due_at hI hx) (due_nodup hI _) x hx hs
  rw [e, hday]
  apply Classical.byContradiction
  intro hc
  exact k2 (mem_due.2 ⟨k1, hs, by omega⟩)

/-! ### the other parts -/
theorem each_moves {M : MState} {sel : TLot → Bool} {upd : TLot → TLot} {mk : TLot → TPosting} (hsel : ∀ x ∈ M.lots, sel x = true → ∃ n fk fi tk ti why, Turn x (upd x) n fk fi tk ti why ∧ mk x = ⟨M.day, x.Unit, n, fk, fi, tk, ti, why, x.Id⟩) : Moves M (M.each sel upd mk) := by
  rw [← eachTo_all]
  have : ∀ i, i ≤ M.lots.length → Moves M (M.eachTo sel upd mk i) := by
    intro i
    induction i with
    | zero => intro _; unfold MState.eachTo; simp; exact .refl
    | succ i ih =>
      intro hi
      have hx : M.lots[i]? = some M.lots[i] := List.getElem?_eq_getElem (by omega)
      rw [eachTo_step hx]
      split
      · rename_i hs
        obtain ⟨n, fk, fi, tk, ti, why, ht, e⟩ := hsel _ (List.mem_of_getElem? hx) hs
        rw [e]
        exact (ih (by omega)).tail (.turn (M := M.eachTo sel upd mk i) (eachTo_get hx) ht)
      · exact ih (by omega)
  exact this _ (Nat.le_refl _)
theorem refTo_all (M : MState) (day thing person : Int) : M.refTo day thing person M.lots.length = M.ref day thing person := by
  unfold MState.refTo MState.ref; simp
theorem ref_moves {M : MState} {thing person : Int} (hp : isId person = true) : Moves M (M.ref M.day thing person) := by
  rw [← refTo_all]
  have : ∀ i, i ≤ M.lots.length → Moves M (M.refTo M.day thing person i) := by
    intro i
    induction i with
    | zero => intro _; unfold MState.refTo; simp; exact .refl
    | succ i ih =>
      intro hi
      have hx : M.lots[i]? = some M.lots[i] := List.getElem?_eq_getElem (by omega)
      generalize hxx : M.lots[i] = x at hx
      rw [refTo_step hx]
      have ih := ih (by omega)
      have hg := refTo_get (day := M.day) (thing := thing) (person := person) hx
      by_cases hs : (selF thing x && okR M.day x) = true
      · have hst : x.State = 3 := by
          simp only [Bool.and_eq_true, selF, beq_iff_eq] at hs
          exact hs.1.2
        by_cases hr : 0 < restR x
        · have e1 : updR M.day thing x = { x with State := 4, Left := 0 } := by unfold updR; rw [if_pos hs]
          have e2 : mkR M.day thing person x = some ⟨M.day, x.Unit, restR x, 4, 0, 3, person, 4, x.Id⟩ := by unfold mkR; rw [hs, decide_eq_true hr]; rfl
          rw [e1, e2]
          exact ih.tail (.turn (M := M.refTo M.day thing person i) hg (.refund person hst hp hr))
        · have e1 : updR M.day thing x = { x with State := 4, Left := 0 } := by unfold updR; rw [if_pos hs]
          have e2 : mkR M.day thing person x = none := by unfold mkR; rw [hs, decide_eq_false hr]; rfl
          rw [e1, e2]
          have := ih.tail (.keep (M := M.refTo M.day thing person i) hg hst hr)
          simpa [MState.setLot, MState.refTo] using this
      · have e1 : updR M.day thing x = x := by unfold updR; rw [if_neg hs]
        have e2 : mkR M.day thing person x = none := by
          unfold mkR
          rw [if_neg]
          intro h
          rw [Bool.and_eq_true] at h
          exact hs h.1
        rw [e1, e2]
        have : ({ M with lots := (M.refTo M.day thing person i).lots.set i x, postings := (M.refTo M.day thing person i).postings ++ (none : Option TPosting).toList } : MState) = M.refTo M.day thing person i := by
          have hset : (M.refTo M.day thing person i).lots.set i x = (M.refTo M.day thing person i).lots := by
            obtain ⟨hl, hg'⟩ := List.getElem?_eq_some_iff.1 hg
            rw [← hg']; exact List.set_getElem_self hl
          rw [hset]; simp [MState.refTo]
        rw [this]; exact ih
  exact this _ (Nat.le_refl _)
end Go.Proofs.YtcbijkakoepglaaGreat
namespace Go.Proofs.YtcbijkakoepglaaGreat
open Go Go.Wx

theorem oper_moves {M : MState} (hJ : J M) (hO : OL M) {day : Int} {g : MState → Int × MState} (hg : ∀ A, J A → OL A → A.day = day → (g A).1 = 0 → Moves A (g A).2 ∧ OL (g A).2) : Moves M (M.oper day g).2 ∧ OL (M.oper day g).2 := by
  unfold MState.oper
  split
  · exact ⟨.refl, hO⟩
  rename_i h1
  split
  · exact ⟨.refl, hO⟩
  rename_i h2
  split
  · exact ⟨.refl, hO⟩
  rename_i h3
  split
  · exact ⟨.refl, hO⟩
  obtain ⟨a1, a2⟩ := advance_moves hJ hO (day := day) (by omega) (by omega)
  obtain ⟨b1, b2⟩ := hg (M.advance day) (a1.j hJ) a2 rfl (by simpa using h3)
  exact ⟨a1.trans b1, b2⟩
theorem operO_moves {α : Type} {M : MState} (hJ : J M) (hO : OL M) {z : α} {day : Int} {g : MState → Int × MState × α} (hg : ∀ A, J A → OL A → A.day = day → (g A).1 = 0 → Moves A (g A).2.1 ∧ OL (g A).2.1) : Moves M (M.operO z day g).2.1 ∧ OL (M.operO z day g).2.1 := by
  unfold MState.operO
  split
  · exact ⟨.refl, hO⟩
  rename_i h1
  split
  · exact ⟨.refl, hO⟩
  rename_i h2
  split
  · exact ⟨.refl, hO⟩
  rename_i h3
  split
  · exact ⟨.refl, hO⟩
  obtain ⟨a1, a2⟩ := advance_moves hJ hO (day := day) (by omega) (by omega)
  obtain ⟨b1, b2⟩ := hg (M.advance day) (a1.j hJ) a2 rfl (by simpa using h3)
  exact ⟨a1.trans b1, b2⟩
theorem each_ol {M : MState} (hO : OL M) {sel : TLot → Bool} {upd : TLot → TLot} {mk : TLot → TPosting} (hu : ∀ x, (upd x).State ≠ 1) : OL (M.each sel upd mk) := by
  intro x hx hs
  obtain ⟨y, hy, rfl⟩ := List.mem_map.1 (show x ∈ M.lots.map fun x => if sel x then upd x else x from hx)
  split at hs
  · exact absurd hs (hu y)
  · rename_i hn
    rw [if_neg hn]
    exact hO y hy hs
theorem term_le {M : MState} (h : ∀ t ∈ M.terms, 1 ≤ t.days ∧ t.days ≤ 40000) (name : ByteArray) (n day : Int) : M.term name n day ≤ 40000 := by
  unfold MState.term
  have : ∀ (l : List Tterm) (b : Tterm), b.days ≤ 40000 → (∀ t ∈ l, 1 ≤ t.days ∧ t.days ≤ 40000) → (termOn name n day b l).days ≤ 40000 := by
    intro l
    induction l with
    | nil => intro b hb _; exact hb
    | cons t l ih =>
      intro b hb hl
      unfold termOn
      refine ih _ ?_ fun t ht => hl t (List.mem_cons_of_mem _ ht)
      split
      · exact (hl t List.mem_cons_self).2
      · exact hb
  exact this _ _ (by simp) h
theorem due_gt {M : MState} (h : ∀ t ∈ M.terms, 1 ≤ t.days ∧ t.days ≤ 40000) {day : Int} (d0 : 0 ≤ day) (d1 : day ≤ 100000) (g : TAmount) : day < dueOf M day g ∧ dueOf M day g ≤ 100001 := by
  have ht := term_le h g.Unit g.N day
  unfold dueOf
  simp only
  split
  · rename_i h0
    have e : wr (day + M.term g.Unit g.N day) = day + M.term g.Unit g.N day := wrap_id (by omega) (by omega)
    rw [e]
    split <;> omega
  · omega
theorem enter_ol {M : MState} (hO : OL M) {x : TLot} {fk fi why : Int} (h : M.day < x.Due) : OL (M.enter x fk fi why) := by
  intro y hy hs
  rcases List.mem_append.1 (show y ∈ M.lots ++ [{ x with Id := M.nextId, State := 1, Bag := 0 }] from hy) with hy | hy
  · exact hO y hy hs
  · simp at hy; subst hy; exact h
theorem goods_ok {M : MState} : ∀ {gs : List TAmount} {q : Option TAmount}, goodsBad M q gs = 0 → ∀ g ∈ gs, 1 ≤ g.N ∧ g.N ≤ 1000000000 ∧ 0 ≤ M.find g.Unit
  | [], _, _, _, h => by cases h
  | a :: gs, q, h, g, hg => by
    unfold goodsBad at h
    split at h
    · simp at h
    rename_i h1
    split at h
    · simp at h
    rename_i h2
    rcases List.mem_cons.1 hg with rfl | hg
    · exact ⟨by omega, by omega, by omega⟩
    · exact goods_ok h g hg
theorem deposit_moves {day thing layer : Int} (ht : isId thing = true) : ∀ (gs : List TAmount) {M : MState}, J M → OL M → M.day = day → (∀ g ∈ gs, 1 ≤ g.N ∧ g.N ≤ 1000000000 ∧ 0 ≤ M.find g.Unit) → M.lots.length + gs.length ≤ 2000 → Moves M (depositOn day thing layer M gs).1 ∧ OL (depositOn day thing layer M gs).1
  | [], M, _, hO, _, _, _ => ⟨.refl, hO⟩
  | g :: gs, M, hJ, hO, hd, hg, hl => by
    obtain ⟨g1, g2, g3⟩ := hg g List.mem_cons_self
    simp only [List.length_cons] at hl
    have hdue := due_gt hJ.terms (day := day) (by rw [← hd]; exact hJ.d0) (by rw [← hd]; exact hJ.d1) g
    have m : Move M (M.enter ⟨0, thing, layer, day, dueOf M day g, g.Unit, g.N, g.N, 0, 0⟩ 1 0 1) := .enter (.inl ⟨rfl, .inl rfl⟩) ⟨ht, g3, g1, g2, rfl⟩ (by omega)
    obtain ⟨h1, h2⟩ := deposit_moves ht gs (m.j hJ) (enter_ol hO (by rw [hd]; exact hdue.1)) hd (fun g hgm => hg g (List.mem_cons_of_mem _ hgm)) (by simp [MState.enter]; omega)
    exact ⟨.head m h1, h2⟩
theorem recv_ok {M : MState} : ∀ {ls : List TLot}, recvLook M ls = 0 → ∀ x ∈ ls, recvBad x = false ∧ 0 ≤ M.find x.Unit
  | [], _, _, h => by cases h
  | a :: ls, h, x, hx => by
    unfold recvLook at h
    split at h
    · simp at h
    rename_i h1
    split at h
    · simp at h
    rename_i h2
    rcases List.mem_cons.1 hx with rfl | hx
    · exact ⟨by simpa using h1, by omega⟩
    · exact recv_ok h x hx
theorem recv_moves {day : Int} : ∀ (ls : List TLot) {M : MState}, J M → M.day = day → (∀ x ∈ ls, recvBad x = false ∧ 0 ≤ M.find x.Unit) → M.lots.length + ls.length ≤ 2000 → Moves M (recvOn day M ls).1 ∧ (recvOn day M ls).1.day = day
  | [], M, _, hd, _, _ => ⟨.refl, hd⟩
  | x :: ls, M, hJ, hd, hg, hl => by
    obtain ⟨g1, g2⟩ := hg x List.mem_cons_self
    simp only [List.length_cons] at hl
    unfold recvBad at g1
    simp only [Bool.or_eq_false_iff, Bool.not_eq_false', decide_eq_false_iff_not] at g1
    have m : Move M (M.enter ⟨0, x.Thing, x.Layer, day, x.Due, x.Unit, x.Left, x.Left, 0, 0⟩ 1 0 10) := .enter (.inl ⟨rfl, .inr rfl⟩) ⟨g1.1.1.1.1.1.1, g2, by show 1 ≤ x.Left; omega, by show x.Left ≤ 1000000000; omega, rfl⟩ (by omega)
    obtain ⟨h1, h2⟩ := recv_moves ls (m.j hJ) hd (fun y hy => hg y (List.mem_cons_of_mem _ hy)) (by simp [MState.enter]; omega)
    exact ⟨.head m h1, h2⟩
theorem wr_range (x : Int) : -9223372036854775808 ≤ wr x ∧ wr x ≤ 9223372036854775807 := by
  show -9223372036854775808 ≤ IntKind.wrap .i64 x ∧ IntKind.wrap .i64 x ≤ 9223372036854775807
  rw [IntKind.wrap_i64]
  omega
theorem sumLeft_le : ∀ (l : List TLot) (v : Int), v ≤ 9223372036854775807 → sumLeft v l ≤ 9223372036854775807
  | [], _, h => h
  | x :: l, v, _ => sumLeft_le l _ (wr_range _).2
theorem cv_ol {M : MState} (hO : OL M) {i : Nat} {x : TLot} (hx : M.lots[i]? = some x) (hs : x.State = 1) (m : Int) (p : TPosting) : OL ((M.setLot i (cvLot x m)).post p) := by
  intro y hy h1
  rcases List.mem_or_eq_of_mem_set (show y ∈ M.lots.set i (cvLot x m) from hy) with hy | hy
  · exact hO y hy h1
  · rw [hy]; exact hO x (List.mem_of_getElem? hx) hs
theorem take_moves {thing person : Int} {name : ByteArray} (hp : isId person = true) : ∀ (os : List TLot) {M : MState} {n : Int}, J M → OL M → 0 ≤ n → n ≤ 9223372036854775807 →
    (∀ o ∈ os, M.lots[(o.Id - 1).toNat]? = some o ∧ o.State = 1 ∧ o.Unit = name ∧ o.Thing = thing ∧ 1 ≤ o.Left ∧ o.Left ≤ 1000000000) → (os.map (·.Id)).Nodup → Moves M (takeOn M.day thing person name M n os) ∧ OL (takeOn M.day thing person name M n os)
  | [], M, n, _, hO, _, _, _, _ => ⟨.refl, hO⟩
  | o :: os, M, n, hJ, hO, h0, h1, hat, hn => by
    obtain ⟨k1, k2, k3, k4, k5, k6⟩ := hat o List.mem_cons_self
    unfold takeOn
    generalize hk : (if o.Left < n then o.Left else n) = kk
    have hkk : 0 ≤ kk ∧ kk ≤ n ∧ kk ≤ o.Left := by subst hk; split <;> omega
    split
    · exact ⟨.refl, hO⟩
    rename_i hz
    rw [k1]
    simp only
    have m : Move M ((M.setLot (o.Id - 1).toNat (cvLot o kk)).post ⟨M.day, name, kk, 2, thing, 3, person, 2, o.Id⟩) := by
      have := Move.turn (M := M) k1 (.part person kk k2 (by omega) hkk.2.2 hp)
      rw [k3, k4] at this
      exact this
    have e : wr (n - kk) = n - kk := wrap_id (by omega) (by omega)
    rw [e]
    obtain ⟨r1, r2⟩ := take_moves (thing := thing) (name := name) hp os (M := (M.setLot (o.Id - 1).toNat (cvLot o kk)).post ⟨M.day, name, kk, 2, thing, 3, person, 2, o.Id⟩) (n := n - kk) (m.j hJ) (cv_ol hO k1 k2 kk _) (by omega) (by omega) (fun y hy => ⟨rest_at (x' := cvLot o kk) hJ.ids k1 hn hy (hat y (List.mem_cons_of_mem _ hy)).1, (hat y (List.mem_cons_of_mem _ hy)).2⟩) (by rw [List.map_cons, List.nodup_cons] at hn; exact hn.2)
    exact ⟨.head m r1, r2⟩
theorem cv_range {a b n : Int} (ha : 0 < a) (ha2 : a ≤ 100000) (hb : 0 < b) (hb2 : b ≤ 100000) (hn : 1 ≤ n) (hn2 : n ≤ 1000000000) (ht : ¬ cvTimes a b n < 1) :
    wr (cvTimes a b n * cvB a b) = cvTimes a b n * cvB a b ∧ wr (cvTimes a b n * cvA a b) = cvTimes a b n * cvA a b ∧ 1 ≤ cvTimes a b n * cvB a b ∧ cvTimes a b n * cvB a b ≤ n ∧ 1 ≤ cvTimes a b n * cvA a b ∧ cvTimes a b n * cvA a b ≤ 1000000000 := by
  obtain ⟨_, a1, a2, b1, b2, _, _⟩ := cv_parts ha ha2 hb hb2
  have d1 : Int.tdiv 1000000000 (cvA a b) = 1000000000 / cvA a b := Int.tdiv_eq_ediv_of_nonneg (by omega)
  have d2 : Int.tdiv n (cvB a b) = n / cvB a b := Int.tdiv_eq_ediv_of_nonneg (by omega)
  have e1 : 1000000000 / cvA a b * cvA a b ≤ 1000000000 := Int.ediv_mul_le _ (by omega)
  have e2 : n / cvB a b * cvB a b ≤ n := Int.ediv_mul_le _ (by omega)
  have p1 : 0 ≤ 1000000000 / cvA a b := Int.ediv_nonneg (by omega) (by omega)
  have p2 : 0 ≤ n / cvB a b := Int.ediv_nonneg (by omega) (by omega)
  have q1 : 1000000000 / cvA a b ≤ 1000000000 := by
    have := Int.mul_le_mul_of_nonneg_left a1 p1
    omega
  have q2 : n / cvB a b ≤ n := by
    have := Int.mul_le_mul_of_nonneg_left b1 p2
    omega
  have w1 : wr (1000000000 / cvA a b) = 1000000000 / cvA a b := wrap_id (by omega) (by omega)
  have w2 : wr (n / cvB a b) = n / cvB a b := wrap_id (by omega) (by omega)
  have hT : cvTimes a b n = if 1000000000 / cvA a b < n / cvB a b then 1000000000 / cvA a b else n / cvB a b := by
    unfold cvTimes
    rw [d1, d2, w1, w2]
  have t1 : cvTimes a b n ≤ 1000000000 / cvA a b := by rw [hT]; split <;> omega
  have t2 : cvTimes a b n ≤ n / cvB a b := by rw [hT]; split <;> omega
  have t0 : 1 ≤ cvTimes a b n := by omega
  have m1 := Int.mul_le_mul_of_nonneg_right t1 (show 0 ≤ cvA a b by omega)
  have m2 := Int.mul_le_mul_of_nonneg_right t2 (show 0 ≤ cvB a b by omega)
  have m3 := Int.mul_le_mul t0 a1 (by omega) (show 0 ≤ cvTimes a b n by omega)
  have m4 := Int.mul_le_mul t0 b1 (by omega) (show 0 ≤ cvTimes a b n by omega)
  refine ⟨wrap_id (by omega) (by omega), wrap_id (by omega) (by omega), ?_, ?_, ?_, ?_⟩ <;> omega
theorem moved_moves {M : MState} (hJ : J M) (hO : OL M) {z : List TAmount × List TLot} {day thing in_ : Int} {ok : Bool} {upd : TLot → TLot} {mk : TLot → TPosting} (hu : ∀ x, (upd x).State ≠ 1)
    (hm : ok = true → ∀ x : TLot, x.Thing = thing → x.State = in_ → ∃ n fk fi tk ti why, Turn x (upd x) n fk fi tk ti why ∧ mk x = ⟨day, x.Unit, n, fk, fi, tk, ti, why, x.Id⟩) :
    Moves M (M.operO z day (gMoved thing ok in_ upd mk id)).2.1 ∧ OL (M.operO z day (gMoved thing ok in_ upd mk id)).2.1 := by
  refine operO_moves hJ hO fun A jA oA dA h => ?_
  unfold gMoved at h ⊢
  split
  · rename_i hc; rw [if_pos hc] at h; simp at h
  rename_i hc; rw [if_neg hc] at h
  split
  · rename_i he; rw [if_pos he] at h; simp at h
  have hok : ok = true := by
    simp only [Bool.or_eq_true, Bool.not_eq_true', not_or, Bool.not_eq_false] at hc
    exact hc.2
  refine ⟨each_moves fun x _ hs => ?_, each_ol oA hu⟩
  simp only [selL, Bool.and_eq_true, beq_iff_eq] at hs
  rw [dA]
  exact hm hok x hs.1 hs.2
theorem run_moves {M : MState} (hJ : J M) (hO : OL M) (o : MOp) : Moves M (M.run o).2 ∧ OL (M.run o).2 := by
  unfold MState.run
  by_cases c0 : o.kind = 0
  · rw [if_pos c0]
    refine oper_moves hJ hO fun A jA oA dA h => ?_
    unfold gUnit at h ⊢
    split
    · rename_i hc; rw [if_pos hc] at h; simp at h
    rename_i hc; rw [if_neg hc] at h
    split
    · rename_i hc; rw [if_pos hc] at h; simp at h
    rename_i hc2; rw [if_neg hc2] at h
    split
    · rename_i hc; rw [if_pos hc] at h; simp at h
    rename_i hc3; rw [if_neg hc3] at h
    split
    · rename_i hc; rw [if_pos hc] at h; simp at h
    exact ⟨.one (.unit (by simpa using hc) (by omega)), oA⟩
  rw [if_neg c0]
  by_cases c1 : o.kind = 1
  · rw [if_pos c1]
    refine oper_moves hJ hO fun A jA oA dA h => ?_
    unfold gValue at h ⊢
    split
    · exact ⟨.refl, oA⟩
    split
    · exact ⟨.refl, oA⟩
    rename_i u hu
    split
    · exact ⟨.refl, oA⟩
    split
    · exact ⟨.refl, oA⟩
    rename_i hgr
    have := Move.value (M := A) (g := o.a) hu (by omega) (by omega)
    have e : ({ A with units := A.units.set (A.find o.unit).toNat { u with values := u.values ++ [⟨A.day, o.a⟩] } } : MState) = { A with units := A.units.set (A.find o.unit).toNat { u with values := u.values ++ [⟨o.day, o.a⟩] } } := by rw [dA]
    rw [e] at this
    exact ⟨.one this, oA⟩
  rw [if_neg c1]
  by_cases c2 : o.kind = 2
  · rw [if_pos c2]
    refine oper_moves hJ hO fun A jA oA dA h => ?_
    unfold gTerm at h ⊢
    split
    · exact ⟨.refl, oA⟩
    split
    · exact ⟨.refl, oA⟩
    rename_i hc
    split
    · exact ⟨.refl, oA⟩
    exact ⟨.one (.term dA.symm (by show 1 ≤ o.b; omega) (by show o.b ≤ 40000; omega)), oA⟩
  rw [if_neg c2]
  by_cases c3 : o.kind = 3
  · rw [if_pos c3]
    exact oper_moves hJ hO fun A jA oA dA h => ⟨.refl, oA⟩
  rw [if_neg c3]
  by_cases c4 : o.kind = 4
  · rw [if_pos c4]
    refine operO_moves hJ hO fun A jA oA dA h => ?_
    unfold gDeposit at h ⊢
    split
    · exact ⟨.refl, oA⟩
    rename_i h1
    split
    · exact ⟨.refl, oA⟩
    split
    · exact ⟨.refl, oA⟩
    rename_i h3
    split
    · exact ⟨.refl, oA⟩
    split
    · exact ⟨.refl, oA⟩
    exact deposit_moves (by simp at h1; exact h1.1) _ jA oA dA (goods_ok (by simpa using h3)) (by omega)
  rw [if_neg c4]
  by_cases c5 : o.kind = 5
  · rw [if_pos c5]
    refine moved_moves hJ hO (fun x => by simp [updPay]) fun hok x h1 h2 => ⟨_, _, _, _, _, _, .pay o.b h2 hok, ?_⟩
    rw [h1]; rfl
  rw [if_neg c5]
  by_cases c6 : o.kind = 6
  · rw [if_pos c6]
    refine operO_moves hJ hO fun A jA oA dA h => ?_
    unfold gTake at h ⊢
    split
    · exact ⟨.refl, oA⟩
    rename_i h1
    split
    · exact ⟨.refl, oA⟩
    split
    · exact ⟨.refl, oA⟩
    rename_i h3
    simp only [Bool.or_eq_true, Bool.not_eq_true', decide_eq_true_eq, not_or, Bool.not_eq_false, Bool.and_eq_true] at h1
    have hle := sumLeft_le (A.lots.filter (selT o.a o.unit)) 0 (by omega)
    rw [← dA]
    refine take_moves h1.1.2 _ jA oA (by omega) (by omega) (fun y hy => ?_) ?_
    · rw [(isort_perm _).mem_iff, List.mem_filter] at hy
      obtain ⟨hy, hs⟩ := hy
      simp only [selT, Bool.and_eq_true, beq_iff_eq, strEq_iff] at hs
      obtain ⟨j, hj⟩ := List.getElem?_of_mem hy
      have hk := jA.lots y hy
      refine ⟨by rw [id_at jA.ids hj]; exact hj, hs.2.1, hs.2.2, hs.1, ?_, ?_⟩
      · have := hk.live; omega
      · have := hk.live; have := hk.n2; omega
    · refine ((isort_perm _).map _).nodup_iff.2 ?_
      exact (ids_nodup jA.ids).sublist ((List.filter_sublist).map _)
  rw [if_neg c6]
  by_cases c7 : o.kind = 7
  · rw [if_pos c7]
    refine operO_moves hJ hO fun A jA oA dA h => ?_
    unfold gConvert at h ⊢
    split
    · exact ⟨.refl, oA⟩
    rename_i h1
    split
    · exact ⟨.refl, oA⟩
    rename_i x hx
    dsimp only at h ⊢
    split
    · exact ⟨.refl, oA⟩
    rename_i hs
    split
    · exact ⟨.refl, oA⟩
    rename_i hf
    split
    · exact ⟨.refl, oA⟩
    rename_i hn
    split
    · exact ⟨.refl, oA⟩
    rename_i hl
    split
    · exact ⟨.refl, oA⟩
    rename_i ht
    split
    · exact ⟨.refl, oA⟩
    rename_i hlen
    have hs : x.State = 1 := by simpa using hs
    have hxm := List.mem_of_getElem? hx
    have hk := jA.lots x hxm
    have va := value_range jA.grains x.Unit o.day
    have vb := value_range jA.grains o.to_ o.day
    simp only [not_or] at hf
    have hlive := hk.live
    have hk2 := hk.n2
    obtain ⟨e1, e2, r1, r2, r3, r4⟩ := cv_range (a := A.value x.Unit o.day) (b := A.value o.to_ o.day) (n := o.b) (by omega) va.2 (by omega) vb.2 (by omega) (by omega) ht
    rw [e1, e2]
    generalize cvTimes (A.value x.Unit o.day) (A.value o.to_ o.day) o.b * cvB (A.value x.Unit o.day) (A.value o.to_ o.day) = m at r1 r2 ⊢
    generalize cvTimes (A.value x.Unit o.day) (A.value o.to_ o.day) o.b * cvA (A.value x.Unit o.day) (A.value o.to_ o.day) = kk at r3 r4 ⊢
    have hid : x.Id = o.a := by have := jA.ids _ x hx; omega
    have m1 : Move A ((A.setLot (o.a - 1).toNat (cvLot x m)).post ⟨o.day, x.Unit, m, 2, x.Thing, 6, 0, 5, o.a⟩) := by
      have := Move.turn (M := A) hx (.swap m hs r1 (by omega))
      rw [dA, hid] at this
      exact this
    have m2 : Move ((A.setLot (o.a - 1).toNat (cvLot x m)).post ⟨o.day, x.Unit, m, 2, x.Thing, 6, 0, 5, o.a⟩) (A.conv (o.a - 1).toNat x o.day o.a o.to_ m kk) :=
      .enter (.inr ⟨rfl, rfl⟩) ⟨hk.thing, by show 0 ≤ A.find o.to_; omega, r3, r4, rfl⟩ (by simp [MState.post, MState.setLot]; omega)
    exact ⟨.head m1 (.one m2), enter_ol (cv_ol oA hx hs m _) (oA x hxm hs)⟩
  rw [if_neg c7]
  by_cases c8 : o.kind = 8
  · rw [if_pos c8]
    refine operO_moves hJ hO fun A jA oA dA h => ?_
    unfold gRefund at h ⊢
    split
    · exact ⟨.refl, oA⟩
    rename_i h1
    simp only [Bool.and_eq_false_iff, not_or, Bool.not_eq_false] at h1
    have m := ref_moves (M := A) (thing := o.a) h1.2
    rw [dA] at m
    have ol : OL (A.ref o.day o.a o.b) := by
      intro x hx hs
      obtain ⟨y, hy, rfl⟩ := List.mem_map.1 (show x ∈ A.lots.map (updR o.day o.a) from hx)
      unfold updR at hs ⊢
      split at hs
      · simp at hs
      · rename_i hn
        rw [if_neg hn]
        exact oA y hy hs
    split
    · exact ⟨m, ol⟩
    split
    · exact ⟨m, ol⟩
    exact ⟨m, ol⟩
  rw [if_neg c8]
  by_cases c9 : o.kind = 9
  · rw [if_pos c9]
    refine moved_moves hJ hO (fun x => by simp [updLose]) fun hok x h1 h2 => ⟨_, _, _, _, _, _, .lose h2, ?_⟩
    rw [h1]; rfl
  rw [if_neg c9]
  by_cases c10 : o.kind = 10
  · rw [if_pos c10]
    refine operO_moves hJ hO fun A jA oA dA h => ?_
    unfold gMoved at h ⊢
    split
    · exact ⟨.refl, oA⟩
    split
    · rename_i hc he; rw [if_neg hc, if_pos he] at h; simp at h
    have m := each_moves (M := A) (sel := selL o.a 5) (upd := updRecover) (mk := mkRecover o.day o.a) fun x _ hs => by
      simp only [selL, Bool.and_eq_true, beq_iff_eq] at hs
      refine ⟨_, _, _, _, _, _, .recover hs.2, ?_⟩
      rw [dA, hs.1]; rfl
    obtain ⟨l1, l2, _⟩ := late_moves (m.j jA)
    exact ⟨m.trans l1, l2⟩
  rw [if_neg c10]
  by_cases c11 : o.kind = 11
  · rw [if_pos c11]
    refine moved_moves hJ hO (fun x => by simp [updDispatch]) fun hok x h1 h2 => ⟨_, _, _, _, _, _, .dispatch o.b h2 hok, ?_⟩
    rw [h1]; rfl
  rw [if_neg c11]
  by_cases c12 : o.kind = 12
  · rw [if_pos c12]
    refine operO_moves hJ hO fun A jA oA dA h => ?_
    unfold gArrived at h ⊢
    have m := each_moves (M := A) (sel := selBag o.a) (upd := updArrive) (mk := mkArrive o.day o.a) fun x _ hs => by
      simp only [selBag, Bool.and_eq_true, beq_iff_eq] at hs
      refine ⟨_, _, _, _, _, _, .arrive hs.1, ?_⟩
      rw [dA, hs.2]; rfl
    have ol : OL (A.each (selBag o.a) updArrive (mkArrive o.day o.a)) := each_ol oA fun x => by simp [updArrive]
    split
    · exact ⟨.refl, oA⟩
    split
    · exact ⟨m, ol⟩
    exact ⟨m, ol⟩
  rw [if_neg c12]
  refine operO_moves hJ hO fun A jA oA dA h => ?_
  unfold gReceive at h ⊢
  split
  · exact ⟨.refl, oA⟩
  rename_i h1
  split
  · exact ⟨.refl, oA⟩
  obtain ⟨m1, m2⟩ := recv_moves o.lots jA dA (recv_ok (by simpa using h1)) (by omega)
  obtain ⟨l1, l2, _⟩ := late_moves (m1.j jA)
  exact ⟨m1.trans l1, l2⟩
end Go.Proofs.YtcbijkakoepglaaGreat
namespace Go.Proofs.YtcbijkakoepglaaGreat
open Go Go.Wx

theorem balOn_app (d : Int) : ∀ (a : List TPosting) (m : List (Tplace × Int)) (b : List TPosting), balOn d m (a ++ b) = balOn d (balOn d m a) b
  | [], _, _ => rfl
  | p :: a, m, b => by simp only [List.cons_append, balOn]; exact balOn_app d a _ b
theorem balOn_later {d : Int} : ∀ (b : List TPosting) (m : List (Tplace × Int)), (∀ p ∈ b, d < p.Day) → balOn d m b = m
  | [], _, _ => rfl
  | p :: b, m, h => by
    unfold balOn
    rw [if_neg (by have := h p List.mem_cons_self; omega)]
    exact balOn_later b m fun q hq => h q (List.mem_cons_of_mem _ hq)
theorem valueOn_app (d : Int) : ∀ (a : List Tdated) (v : Int) (b : List Tdated), valueOn d v (a ++ b) = valueOn d (valueOn d v a) b
  | [], _, _ => rfl
  | x :: a, v, b => by simp only [List.cons_append, valueOn]; exact valueOn_app d a _ b
def valueIn (d : Int) : Option MUnit → Int
  | some u => valueOn d 0 u.values
  | none => 0
theorem value_in (M : MState) (name : ByteArray) (d : Int) : M.value name d = valueIn d (M.units.find? fun u => strEq u.name name) := by
  unfold MState.value valueIn
  split <;> rename_i h <;> rw [h]
theorem value_set {n : ByteArray} {d day g : Int} (hd : d < day) : ∀ (l : List MUnit) (i : Nat) (u : MUnit), l[i]? = some u →
    valueIn d ((l.set i { u with values := u.values ++ [⟨day, g⟩] }).find? fun u => strEq u.name n) = valueIn d (l.find? fun u => strEq u.name n)
  | [], _, _, h => by simp at h
  | x :: l, 0, u, h => by
    simp at h
    subst h
    simp only [List.set_cons_zero, List.find?_cons]
    cases strEq x.name n with
    | true =>
      simp only [valueIn, valueOn_app]
      simp only [valueOn]
      rw [if_neg (by omega)]
    | false => rfl
  | x :: l, i + 1, u, h => by
    simp only [List.set_cons_succ, List.find?_cons]
    cases strEq x.name n with
    | true => rfl
    | false => exact value_set hd l i u (by simpa using h)

structure Same (d : Int) (M M' : MState) : Prop where
  post : ∃ ex, M'.postings = M.postings ++ ex ∧ ∀ p ∈ ex, d < p.Day
  value : ∀ name, M'.value name d = M.value name d
theorem Same.refl (d : Int) (M : MState) : Same d M M := ⟨⟨[], by simp, fun _ h => by cases h⟩, fun _ => rfl⟩
theorem Same.trans {d : Int} {M M1 M2 : MState} (h : Same d M M1) (h2 : Same d M1 M2) : Same d M M2 := by
  obtain ⟨e1, p1, q1⟩ := h.post
  obtain ⟨e2, p2, q2⟩ := h2.post
  refine ⟨⟨e1 ++ e2, by rw [p2, p1, List.append_assoc], fun p hp => ?_⟩, fun name => (h2.value name).trans (h.value name)⟩
  rcases List.mem_append.1 hp with hp | hp
  · exact q1 p hp
  · exact q2 p hp
theorem Move.same {d : Int} {M M' : MState} (h : Move M M') (hd : d < M.day) : Same d M M' := by
  cases h with
  | turn hx ht => exact ⟨⟨[_], rfl, fun p hp => by simp at hp; subst hp; exact hd⟩, fun _ => rfl⟩
  | keep hx hs hr => exact ⟨⟨[], by simp [MState.setLot], fun _ h => by cases h⟩, fun _ => rfl⟩
  | enter hw hl hlen => exact ⟨⟨[_], rfl, fun p hp => by simp at hp; subst hp; exact hd⟩, fun _ => rfl⟩
  | day h1 h2 => exact ⟨⟨[], by simp, fun _ h => by cases h⟩, fun _ => rfl⟩
  | unit hn hf =>
    rename_i name kind
    refine ⟨⟨[], by simp, fun _ h => by cases h⟩, fun n => ?_⟩
    rw [value_in, value_in]
    simp only [List.find?_append]
    cases M.units.find? (fun u => strEq u.name n) with
    | some u => rfl
    | none =>
      simp only [Option.none_or, List.find?_cons, List.find?_nil]
      cases strEq name n <;> rfl
  | value hu g1 g2 =>
    refine ⟨⟨[], by simp, fun _ h => by cases h⟩, fun n => ?_⟩
    rw [value_in, value_in]
    exact value_set hd _ _ _ hu
  | term h1 h2 h3 => exact ⟨⟨[], by simp, fun _ h => by cases h⟩, fun _ => rfl⟩
theorem Moves.same {d : Int} {M M' : MState} (h : Moves M M') (hd : d < M.day) : Same d M M' := by
  induction h with
  | refl => exact Same.refl d _
  | tail h1 h2 ih => exact ih.trans (h2.same (Int.lt_of_lt_of_le hd h1.day_le))
section
variable {d : Int} {M M' : MState}
theorem Same.bal (h : Same d M M') : balOn d [] M'.postings = balOn d [] M.postings := by
  obtain ⟨ex, p, q⟩ := h.post
  rw [p, balOn_app, balOn_later ex _ q]
theorem Same.trial (h : Same d M M') : M'.trial d = M.trial d := by unfold MState.trial; rw [h.bal]
theorem Same.balance (h : Same d M M') (a : TAccount) (name : ByteArray) : M'.balance a name d = M.balance a name d := by unfold MState.balance; rw [h.bal]
theorem Same.balances (h : Same d M M') (a : TAccount) : M'.balances a d = M.balances a d := by unfold MState.balances; rw [h.trial]
theorem Same.worth (h : Same d M M') (a : TAccount) : M'.worth a d = M.worth a d := by
  unfold MState.worth
  rw [h.balances]
  have : ∀ (l : List TAmount) (v : Int), worthOn M' d v l = worthOn M d v l := by
    intro l
    induction l with
    | nil => intro v; rfl
    | cons x l ih => intro v; unfold worthOn; rw [h.value]; exact ih _
  exact this _ _
end
theorem j_M0 : J M0 := ⟨fun i x h => by simp [M0] at h, fun x h => by simp [M0] at h, fun x h => by simp [M0] at h, fun x h => by simp [M0] at h, fun x h => by simp [M0] at h, by decide, by decide, by simp [M0]⟩
theorem ol_M0 : OL M0 := fun x h => by simp [M0] at h
theorem runs_moves : ∀ (os : List MOp) {M : MState}, J M → OL M → Moves M (M.runs os) ∧ OL (M.runs os)
  | [], M, _, hO => ⟨.refl, hO⟩
  | o :: os, M, hJ, hO => by
    obtain ⟨m, o1⟩ := run_moves hJ hO o
    obtain ⟨m2, o2⟩ := runs_moves os (m.j hJ) o1
    exact ⟨m.trans m2, o2⟩
end Go.Proofs.YtcbijkakoepglaaGreat
namespace Go.Proofs.YtcbijkakoepglaaGreat
open Go Go.Wx
set_option maxRecDepth 100000
def law06_DrawersPast.l1 (Q : Bool → World → Prop) (more_a : Option Addr) (more_n : Nat) (a : TAccount) (unit : ByteArray) (day : Int) (b1 : Nat) (r1 : Option Addr) (r5 : Int) (r6_a : Option Addr) (r6_n : Nat) (r6_c : Nat) (r7 : Int) (r8_a : Option Addr) (r8_n : Nat) (r8_c : Nat) (r9 : Int) : Nat → Int → World → Prop
       | 0, _, _ => False
       | nl1 + 1, v1, w12 => (
       Ifb (decide (v1 < ((more_n : Nat) : Int)))
      (Ix more_a more_n v1 fun p1 =>
      LdT TOp.enc w12 (Addr.add p1 (v1.toNat * 9)) fun x1 =>
      Al w12 (.cells #[vu 0, vi 0, vs (ByteArray.mk #[]), vs (ByteArray.mk #[]), vi 0, vi 0, vi 0, vl none 0 0, vl none 0 0] 77) fun b2 w13 =>
      Sb w13 b2 (.cells #[vu x1.Kind, vi x1.Day, vs x1.Unit, vs x1.To, vi x1.A, vi x1.B, vi x1.C, vl x1.Goods_a x1.Goods_n x1.Goods_c, vl x1.Lots_a x1.Lots_n x1.Lots_c] 77 (0, 0)) fun w14 =>
      Cl Pg 42 #[vP r1, vg (TOp.enc x1)] w14 (fun v w15 => ∃ (r10 : TResult), v = vg (TResult.enc r10) ∧ Kp b1 w14 w15 ∧ (law06_DrawersPast.l1 Q more_a more_n a unit day b1 r1 r5 r6_a r6_n r6_c r7 r8_a r8_n r8_c r9 nl1) (IntKind.wrap .i64 (v1 + (1 : Int))) w15))
      (Cl Pg 18 #[] w12 (fun v w16 => ∃ (r11 : Bool), v = vb r11 ∧ Kp b1 w12 w16 ∧ Ifb r11
      (Cl Pg 48 #[vP r1, vg [vu a.Kind, vi a.Id], vs unit, vi day] w16 (fun v w17 => ∃ (r12 : Int), v = vi r12 ∧ Kp b1 w16 w17 ∧ Ifb (r5 == r12)
      (Cl Pg 32 #[vP r1, vg [vu a.Kind, vi a.Id], vi day] w17 (fun v w18 => ∃ (r13_a : Option Addr), ∃ (r13_n : Nat), ∃ (r13_c : Nat), v = vl r13_a r13_n r13_c ∧ Kp b1 w17 w18 ∧ Cl Pg 36 #[vl r6_a r6_n r6_c, vl r13_a r13_n r13_c] w18 (fun v w19 => ∃ (r14 : Bool), v = vb r14 ∧ Kp b1 w18 w19 ∧ Ifb r14
      (Cl Pg 29 #[vP r1, vg [vu a.Kind, vi a.Id], vi day] w19 (fun v w20 => ∃ (r15 : Int), v = vi r15 ∧ Ifb (r7 == r15)
      (Cl Pg 25 #[vP r1, vi day] w20 (fun v w21 => ∃ (r16_a : Option Addr), ∃ (r16_n : Nat), ∃ (r16_c : Nat), v = vl r16_a r16_n r16_c ∧ Cl Pg 21 #[vl r8_a r8_n r8_c, vl r16_a r16_n r16_c] w21 (fun v w22 => ∃ (r17 : Bool), v = vb r17 ∧ Ifb r17
      (Cl Pg 27 #[vP r1, vs unit, vi day] w22 (fun v w23 => ∃ (r18 : Int), v = vi r18 ∧ Q (r9 == r18) w23))
      (Q false w22))))
      (Q false w20)))
      (Q false w19))))
      (Q false w17)))
      (Q false w16))))
def law06_DrawersPast.R (Q : Bool → World → Prop) (script_a : Option Addr) (script_n : Nat) (script_c : Nat) (more_a : Option Addr) (more_n : Nat) (more_c : Nat) (a : TAccount) (unit : ByteArray) (day : Int) (w : World) : Prop := (
  Al w (.cells #[vu a.Kind, vi a.Id] 40) fun b1 w1 =>
      Cl Pg 22 #[vl script_a script_n script_c] w1 (fun v w2 => ∃ (r1 : Option Addr), v = vP r1 ∧ Kp b1 w1 w2 ∧ Ifb (r1.isNone || (decide (((more_n : Nat) : Int) > (60 : Int))))
      (Cl Pg 18 #[] w2 (fun v w3 => ∃ (r2 : Bool), v = vb r2 ∧ Q (r2 && ((decide (((script_n : Nat) : Int) > (60 : Int))) || (decide (((more_n : Nat) : Int) > (60 : Int))))) w3))
      (Cl Pg 44 #[vP r1] w2 (fun v w4 => ∃ (r3 : Int), v = vi r3 ∧ Kp b1 w2 w4 ∧ Ifb (decide (day ≥ r3))
      (Cl Pg 18 #[] w4 (fun v w5 => ∃ (r4 : Bool), v = vb r4 ∧ Q r4 w5))
      (Dr w4 fun w6 =>
      Cl Pg 48 #[vP r1, vg [vu a.Kind, vi a.Id], vs unit, vi day] w6 (fun v w7 => ∃ (r5 : Int), v = vi r5 ∧ Kp b1 w6 w7 ∧ Cl Pg 32 #[vP r1, vg [vu a.Kind, vi a.Id], vi day] w7 (fun v w8 => ∃ (r6_a : Option Addr), ∃ (r6_n : Nat), ∃ (r6_c : Nat), v = vl r6_a r6_n r6_c ∧ Kp b1 w7 w8 ∧ Cl Pg 29 #[vP r1, vg [vu a.Kind, vi a.Id], vi day] w8 (fun v w9 => ∃ (r7 : Int), v = vi r7 ∧ Kp b1 w8 w9 ∧ Cl Pg 25 #[vP r1, vi day] w9 (fun v w10 => ∃ (r8_a : Option Addr), ∃ (r8_n : Nat), ∃ (r8_c : Nat), v = vl r8_a r8_n r8_c ∧ Kp b1 w9 w10 ∧ Cl Pg 27 #[vP r1, vs unit, vi day] w10 (fun v w11 => ∃ (r9 : Int), v = vi r9 ∧ Kp b1 w10 w11 ∧ ∃ k, law06_DrawersPast.l1 Q more_a more_n a unit day b1 r1 r5 r6_a r6_n r6_c r7 r8_a r8_n r8_c r9 k 0 w11))))))))))
theorem law06_DrawersPast.ok {Q : Bool → World → Prop} {script_a : Option Addr} {script_n : Nat} {script_c : Nat} {more_a : Option Addr} {more_n : Nat} {more_c : Nat} {a : TAccount} {unit : ByteArray} {day : Int} {w : World} (h : law06_DrawersPast.R Q script_a script_n script_c more_a more_n more_c a unit day w) : Cl Pg 14 #[vl script_a script_n script_c, vl more_a more_n more_c, vg (TAccount.enc a), vs unit, vi day] w (fun v w' => ∃ (r0 : Bool), v = vb r0 ∧ Q r0 w') := by
 refine calls_args (args := [vl script_a script_n script_c, vl more_a more_n more_c, vg (TAccount.enc a), vs unit, vi day]) Tryz.func14 ?_
 unfold law06_DrawersPast.R at h
 refine W_regseq ?_
 refine alp h ?_
 intro b1 w1 eb ew hb_b1 h
 clear eb ew
 refine ps 1 [(10, vb false)] ?_
 refine WO_nil ?_
 refine W_regseq ?_
 refine ps 1 [(19, vl script_a script_n script_c)] ?_
 refine cl h ?_
 rintro _ w2 ⟨r1, rfl, hk0, h⟩
 replace hb_b1 := kp_at hk0 hb_b1
 refine ps 1 [(11, vP r1)] ?_
 refine WO_nil ?_
 refine W_seq ?_
 refine W_regseq ?_
 refine ps 1 [(21, vP r1)] ?_
 refine WO_p rfl rfl (v := vb r1.isNone) (ex_eqlnil_ptr_l (by kernel_rfl) rfl rfl rfl) ?_
 refine ps 1 [(23, vb r1.isNone)] ?_
 refine WO_conv (fun e w_ => ∃ (e0 : Env), e = upds e0 [(0, vl script_a script_n script_c), (1, vl more_a more_n more_c), (3, vs unit), (4, vi day), (7, vp ⟨b1, 0, none⟩), (11, vP r1), (27, vb (r1.isNone || (decide (((more_n : Nat) : Int) > (60 : Int)))))] ∧ w2 = w_) ?_ ?_
 ·clear h
  refine WO_case 23 (b := r1.isNone) rfl (fun hb0 => ?_) (fun hb0 => ?_)
  ·refine ps 4 [(24, undef), (25, undef), (26, undef), (27, vb true)] ?_
   exact WO_nil ⟨_, Agree.eq ⟨rfl, rfl, rfl, rfl, rfl, rfl, (by first | rfl | (simp only [hb0, Bool.true_and, Bool.false_and, Bool.true_or, Bool.false_or, Bool.and_true, Bool.and_false, Bool.or_true, Bool.or_false]; done) | (simp only [hb0]; rfl) | (simp [hb0]; done)), trivial⟩, rfl⟩
  ·refine ps 4 [(24, vl more_a more_n more_c), (25, vi (more_n : Nat)), (26, vb (decide (((more_n : Nat) : Int) > (60 : Int)))), (27, vb (decide (((more_n : Nat) : Int) > (60 : Int))))] ?_
   exact WO_nil ⟨_, Agree.eq ⟨rfl, rfl, rfl, rfl, rfl, rfl, (by first | rfl | (simp only [hb0, Bool.true_and, Bool.false_and, Bool.true_or, Bool.false_or, Bool.and_true, Bool.and_false, Bool.or_true, Bool.or_false]; done) | (simp only [hb0]; rfl) | (simp [hb0]; done)), trivial⟩, rfl⟩
 ·rintro _ _ ⟨e0, rfl, rfl⟩
  refine ci h (fun h => ?_) fun h => ?_
  ·refine W_regseq ?_
   refine cl h ?_
   rintro _ w3 ⟨r2, rfl, h⟩
   refine ps 1 [(29, vb r2)] ?_
   refine WO_conv (fun e w_ => ∃ (e0 : Env), e = upds e0 [(10, vb (r2 && ((decide (((script_n : Nat) : Int) > (60 : Int))) || (decide (((more_n : Nat) : Int) > (60 : Int))))))] ∧ w3 = w_) ?_ ?_
   ·clear h
    refine WO_case 29 (b := r2) rfl (fun hb0 => ?_) (fun hb0 => ?_)
    ·refine ps 4 [(30, vl script_a script_n script_c), (31, vi (script_n : Nat)), (32, vb (decide (((script_n : Nat) : Int) > (60 : Int)))), (33, vb (decide (((script_n : Nat) : Int) > (60 : Int))))] ?_
     refine WO_case 33 (b := decide (((script_n : Nat) : Int) > (60 : Int))) rfl (fun hb1 => ?_) (fun hb1 => ?_)
     ·refine ps 6 [(34, undef), (35, undef), (36, undef), (37, vb true), (38, vb true), (10, vb true)] ?_
      exact WO_nil ⟨_, Agree.eq ⟨(by first | rfl | (simp only [hb0, hb1, Bool.true_and, Bool.false_and, Bool.true_or, Bool.false_or, Bool.and_true, Bool.and_false, Bool.or_true, Bool.or_false]; done) | (simp only [hb0, hb1]; rfl) | (simp [hb0, hb1]; done)), trivial⟩, rfl⟩
     ·refine ps 6 [(34, vl more_a more_n more_c), (35, vi (more_n : Nat)), (36, vb (decide (((more_n : Nat) : Int) > (60 : Int)))), (37, vb (decide (((more_n : Nat) : Int) > (60 : Int)))), (38, vb (decide (((more_n : Nat) : Int) > (60 : Int)))), (10, vb (decide (((more_n : Nat) : Int) > (60 : Int))))] ?_
      exact WO_nil ⟨_, Agree.eq ⟨(by first | rfl | (simp only [hb0, hb1, Bool.true_and, Bool.false_and, Bool.true_or, Bool.false_or, Bool.and_true, Bool.and_false, Bool.or_true, Bool.or_false]; done) | (simp only [hb0, hb1]; rfl) | (simp [hb0, hb1]; done)), trivial⟩, rfl⟩
    ·refine ps 10 [(30, undef), (31, undef), (32, undef), (33, undef), (34, undef), (35, undef), (36, undef), (37, undef), (38, vb false), (10, vb false)] ?_
     exact WO_nil ⟨_, Agree.eq ⟨(by first | rfl | (simp only [hb0, Bool.true_and, Bool.false_and, Bool.true_or, Bool.false_or, Bool.and_true, Bool.and_false, Bool.or_true, Bool.or_false]; done) | (simp only [hb0]; rfl) | (simp [hb0]; done)), trivial⟩, rfl⟩
   ·rintro _ _ ⟨e0, rfl, rfl⟩
    refine W_ret ?_
    refine seqK_ret ?_
    exact ret1 (v := vb (r2 && ((decide (((script_n : Nat) : Int) > (60 : Int))) || (decide (((more_n : Nat) : Int) > (60 : Int)))))) (t := 10) rfl rfl ⟨_, rfl, h⟩
  ·refine W_skip ?_
   refine W_seq ?_
   refine W_regseq ?_
   refine ps 2 [(39, vi day), (40, vP r1)] ?_
   refine cl h ?_
   rintro _ w4 ⟨r3, rfl, hk0, h⟩
   replace hb_b1 := kp_at hk0 hb_b1
   refine ps 1 [(42, vb (decide (day ≥ r3)))] ?_
   refine WO_nil ?_
   refine ci h (fun h => ?_) fun h => ?_
   ·refine W_regseq ?_
    refine cl h ?_
    rintro _ w5 ⟨r4, rfl, h⟩
    refine ps 1 [(10, vb r4)] ?_
    refine WO_nil ?_
    refine W_ret ?_
    refine seqK_ret ?_
    exact ret1 (v := vb r4) (t := 10) rfl rfl ⟨_, rfl, h⟩
   ·refine W_skip ?_
    refine drs folM [[], [], [], [], [1], [], [], [], [1, 6], [], [], [], [1, 6, 10], [], [], [1, 6, 10], [], [], [], [1, 6, 10], [1, 6, 10], [1, 6, 10], [1, 6, 10], [1, 6, 10], [1, 6, 10]] [.p 0, .l 1, .p 2, .p 3, .p 5, .l 6, .p 7, .p 9, .l 10, .p 11, .p 13, .p 14, .p 16, .p 17, .p 18, .e 4, .e 8, .e 12, .e 15, .e 19, .p 20, .p 21, .p 22, .p 23, .p 24] h ?_
    intro w6 ew h
    replace hb_b1 := dr_keep ew hb_b1
    clear ew
    refine psC 1 [(44, vP r1)] ?_
    refine lbnC [vu a.Kind, vi a.Id] tk40 hb_b1 ?_
    refine psC 3 [(46, vs unit), (47, vi day), (49, vP r1)] ?_
    refine lbnC [vu a.Kind, vi a.Id] tk40 hb_b1 ?_
    refine psC 2 [(51, vi day), (53, vP r1)] ?_
    refine lbnC [vu a.Kind, vi a.Id] tk40 hb_b1 ?_
    refine psC 6 [(55, vi day), (57, vP r1), (58, vi day), (60, vP r1), (61, vs unit), (62, vi day)] ?_
    refine clC h ?_
    rintro _ w7 ⟨r5, rfl, hk0, h⟩
    replace hb_b1 := kp_at hk0 hb_b1
    refine ⟨AllOk.cons (Pend_ok (ex_load rfl rfl (run_loadVarN tk40 (vs := [vu a.Kind, vi a.Id]) rfl (cells_blk hb_b1 rfl)))) <| AllOk.cons (Pend_ok (ex_load rfl rfl (run_loadVarN tk40 (vs := [vu a.Kind, vi a.Id]) rfl (cells_blk hb_b1 rfl)))) <| AllOk.nil, ?_⟩
    refine clC h ?_
    rintro _ w8 ⟨r6_a, r6_n, r6_c, rfl, hk0, h⟩
    replace hb_b1 := kp_at hk0 hb_b1
    refine ⟨AllOk.cons (Pend_ok (ex_load rfl rfl (run_loadVarN tk40 (vs := [vu a.Kind, vi a.Id]) rfl (cells_blk hb_b1 rfl)))) <| AllOk.nil, ?_⟩
    refine clC h ?_
    rintro _ w9 ⟨r7, rfl, hk0, h⟩
    replace hb_b1 := kp_at hk0 hb_b1
    refine ⟨AllOk.nil, ?_⟩
    refine clC h ?_
    rintro _ w10 ⟨r8_a, r8_n, r8_c, rfl, hk0, h⟩
    replace hb_b1 := kp_at hk0 hb_b1
    refine ⟨AllOk.nil, ?_⟩
    refine clC h ?_
    rintro _ w11 ⟨r9, rfl, hk0, h⟩
    replace hb_b1 := kp_at hk0 hb_b1
    refine ⟨AllOk.nil, ?_⟩
    refine psC 5 [(12, vi r5), (13, vl r6_a r6_n r6_c), (14, vi r7), (15, vl r8_a r8_n r8_c), (16, vi r9)] ?_
    refine WC_nil ?_
    refine W_seq ?_
    refine W_regseq ?_
    refine ps 3 [(64, vl more_a more_n more_c), (65, vi (more_n : Nat)), (66, vi 0)] ?_
    refine WO_nil ?_
    refine W_block ?_
    obtain ⟨nl1, h⟩ := h
    refine W_loopI (fun k e w12 => ∃ (e0 : Env) (v1 : Int), e = upds e0 [(3, vs unit), (4, vi day), (7, vp ⟨b1, 0, none⟩), (11, vP r1), (12, vi r5), (13, vl r6_a r6_n r6_c), (14, vi r7), (15, vl r8_a r8_n r8_c), (16, vi r9), (64, vl more_a more_n more_c), (65, vi (more_n : Nat)), (66, vi v1)] ∧ w12.heap[b1]? = some (.cells #[vu a.Kind, vi a.Id] 40 (0, 0)) ∧ law06_DrawersPast.l1 Q more_a more_n a unit day b1 r1 r5 r6_a r6_n r6_c r7 r8_a r8_n r8_c r9 k v1 w12) nl1 ?_ ?_ ?_
    ·rintro _ _ ⟨_, _, _, _, h⟩
     exact h
    ·exact ⟨_, 0, Agree.eq ⟨rfl, rfl, rfl, rfl, rfl, rfl, rfl, rfl, rfl, rfl, rfl, rfl, trivial⟩, hb_b1, h⟩
    ·clear h nl1 hb_b1
     rintro nl1 _ w12 ⟨e0, v1, rfl, hb_b1, h⟩
     unfold law06_DrawersPast.l1 at h
     refine W_regseq ?_
     refine ps 1 [(67, vb (decide (v1 < ((more_n : Nat) : Int))))] ?_
     refine WO_nil ?_
     refine W_seq ?_
     refine ci h (fun h => ?_) fun h => ?_
     ·refine W_skip ?_
      refine W_seq ?_
      refine W_block ?_
      refine W_regseq ?_
      refine ix slk30 h fun p1 h => ?_
      obtain ⟨x1, hx1, h⟩ := h
      refine ldn tk77 hx1 ?_
      refine alp h ?_
      intro b2 w13 eb ew hb_b2 h
      have old_hb_b1 := hb_b1
      replace hb_b1 := al_keep ew hb_b1
      have ne_b1_b2 : b1 ≠ b2 := blk_ne old_hb_b1 eb
      clear old_hb_b1
      clear eb ew
      refine sb tk77 hb_b2 h ?_
      intro w14 ew hb_ h
      replace hb_b1 := sb_keep ew ne_b1_b2 hb_b1
      replace hb_b2 := hb_
      clear ew
      refine WO_nil ?_
      refine W_reg ?_
      refine ps 1 [(70, vP r1)] ?_
      refine lbn [vu x1.Kind, vi x1.Day, vs x1.Unit, vs x1.To, vi x1.A, vi x1.B, vi x1.C, vl x1.Goods_a x1.Goods_n x1.Goods_c, vl x1.Lots_a x1.Lots_n x1.Lots_c] tk77 hb_b2 ?_
      refine cl h ?_
      rintro _ w15 ⟨r10, rfl, hk0, h⟩
      replace hb_b1 := kp_at hk0 hb_b1
      refine WO_nil ?_
      refine blockK_normal ?_
      refine W_reg ?_
      refine ps 2 [(73, vi (IntKind.wrap .i64 (v1 + (1 : Int)))), (66, vi (IntKind.wrap .i64 (v1 + (1 : Int))))] ?_
      refine WO_nil ?_
      exact ⟨_, IntKind.wrap .i64 (v1 + (1 : Int)), Agree.eq ⟨rfl, rfl, rfl, rfl, rfl, rfl, rfl, rfl, rfl, rfl, rfl, rfl, trivial⟩, hb_b1, h⟩
     ·refine W_exit ?_
      refine blockK_hit ?_
      refine W_regseq ?_
      refine cl h ?_
      rintro _ w16 ⟨r11, rfl, hk0, h⟩
      replace hb_b1 := kp_at hk0 hb_b1
      refine ps 1 [(75, vb r11)] ?_
      refine cs 75 h (fun h => ?_) fun h => ?_
      ·refine ps 2 [(76, vi r5), (77, vP r1)] ?_
       refine lbn [vu a.Kind, vi a.Id] tk40 hb_b1 ?_
       refine ps 2 [(79, vs unit), (80, vi day)] ?_
       refine cl h ?_
       rintro _ w17 ⟨r12, rfl, hk0, h⟩
       replace hb_b1 := kp_at hk0 hb_b1
       refine ps 3 [(82, vb (r5 == r12)), (83, vb (r5 == r12)), (84, vb (r5 == r12))] ?_
       refine cs 84 h (fun h => ?_) fun h => ?_
       ·refine ps 2 [(85, vl r6_a r6_n r6_c), (86, vP r1)] ?_
        refine lbn [vu a.Kind, vi a.Id] tk40 hb_b1 ?_
        refine ps 1 [(88, vi day)] ?_
        refine cl h ?_
        rintro _ w18 ⟨r13_a, r13_n, r13_c, rfl, hk0, h⟩
        replace hb_b1 := kp_at hk0 hb_b1
        refine cl h ?_
        rintro _ w19 ⟨r14, rfl, hk0, h⟩
        replace hb_b1 := kp_at hk0 hb_b1
        refine ps 2 [(91, vb r14), (92, vb r14)] ?_
        refine cs 92 h (fun h => ?_) fun h => ?_
        ·refine ps 2 [(93, vi r7), (94, vP r1)] ?_
         refine lbn [vu a.Kind, vi a.Id] tk40 hb_b1 ?_
         refine ps 1 [(96, vi day)] ?_
         refine cl h ?_
         rintro _ w20 ⟨r15, rfl, h⟩
         refine ps 3 [(98, vb (r7 == r15)), (99, vb (r7 == r15)), (100, vb (r7 == r15))] ?_
         refine cs 100 h (fun h => ?_) fun h => ?_
         ·refine ps 3 [(101, vl r8_a r8_n r8_c), (102, vP r1), (103, vi day)] ?_
          refine cl h ?_
          rintro _ w21 ⟨r16_a, r16_n, r16_c, rfl, h⟩
          refine cl h ?_
          rintro _ w22 ⟨r17, rfl, h⟩
          refine ps 2 [(106, vb r17), (107, vb r17)] ?_
          refine cs 107 h (fun h => ?_) fun h => ?_
          ·refine ps 4 [(108, vi r9), (109, vP r1), (110, vs unit), (111, vi day)] ?_
           refine cl h ?_
           rintro _ w23 ⟨r18, rfl, h⟩
           refine ps 3 [(113, vb (r9 == r18)), (114, vb (r9 == r18)), (10, vb (r9 == r18))] ?_
           refine WO_nil ?_
           refine W_ret ?_
           exact ret1 (v := vb (r9 == r18)) (t := 10) rfl rfl ⟨_, rfl, h⟩
          ·refine ps 8 [(108, undef), (109, undef), (110, undef), (111, undef), (112, undef), (113, undef), (114, vb false), (10, vb false)] ?_
           refine WO_nil ?_
           refine W_ret ?_
           exact ret1 (v := vb false) (t := 10) rfl rfl ⟨_, rfl, h⟩
         ·refine ps 15 [(101, undef), (102, undef), (103, undef), (104, undef), (105, undef), (106, vb false), (107, vb false), (108, undef), (109, undef), (110, undef), (111, undef), (112, undef), (113, undef), (114, vb false), (10, vb false)] ?_
          refine WO_nil ?_
          refine W_ret ?_
          exact ret1 (v := vb false) (t := 10) rfl rfl ⟨_, rfl, h⟩
        ·refine ps 23 [(93, undef), (94, undef), (95, undef), (96, undef), (97, undef), (98, undef), (99, vb false), (100, vb false), (101, undef), (102, undef), (103, undef), (104, undef), (105, undef), (106, vb false), (107, vb false), (108, undef), (109, undef), (110, undef), (111, undef), (112, undef), (113, undef), (114, vb false), (10, vb false)] ?_
         refine WO_nil ?_
         refine W_ret ?_
         exact ret1 (v := vb false) (t := 10) rfl rfl ⟨_, rfl, h⟩
       ·refine ps 31 [(85, undef), (86, undef), (87, undef), (88, undef), (89, undef), (90, undef), (91, vb false), (92, vb false), (93, undef), (94, undef), (95, undef), (96, undef), (97, undef), (98, undef), (99, vb false), (100, vb false), (101, undef), (102, undef), (103, undef), (104, undef), (105, undef), (106, vb false), (107, vb false), (108, undef), (109, undef), (110, undef), (111, undef), (112, undef), (113, undef), (114, vb false), (10, vb false)] ?_
        refine WO_nil ?_
        refine W_ret ?_
        exact ret1 (v := vb false) (t := 10) rfl rfl ⟨_, rfl, h⟩
      ·refine ps 40 [(76, undef), (77, undef), (78, undef), (79, undef), (80, undef), (81, undef), (82, undef), (83, vb false), (84, vb false), (85, undef), (86, undef), (87, undef), (88, undef), (89, undef), (90, undef), (91, vb false), (92, vb false), (93, undef), (94, undef), (95, undef), (96, undef), (97, undef), (98, undef), (99, vb false), (100, vb false), (101, undef), (102, undef), (103, undef), (104, undef), (105, undef), (106, vb false), (107, vb false), (108, undef), (109, undef), (110, undef), (111, undef), (112, undef), (113, undef), (114, vb false), (10, vb false)] ?_
       refine WO_nil ?_
       refine W_ret ?_
       exact ret1 (v := vb false) (t := 10) rfl rfl ⟨_, rfl, h⟩
end Go.Proofs.YtcbijkakoepglaaGreat
namespace Go.Proofs.YtcbijkakoepglaaGreat
open Go Go.Wx
theorem balances_max {M : MState} (hG : Good M) (a : TAccount) (day : Int) : (M.balances a day).length ≤ maxLen := by
  have h1 := balances_len M a day
  have h2 := hG.postings
  simp only [maxLen]; omega
theorem trial_max {M : MState} (hG : Good M) (day : Int) : (M.trial day).length ≤ maxLen := by
  have h1 := trial_len M day
  have h2 := hG.postings
  simp only [maxLen]; omega
theorem lawPast_c {w : World} {a a2 : Option Addr} {n c n2 c2 : Nat} {ms ms2 : List MOp} (ho : OpsIs w a n ms) (ho2 : OpsIs w a2 n2 ms2) {acc : TAccount} {unit : ByteArray} {day : Int} :
    Cl Pg 14 #[vl a n c, vl a2 n2 c2, vg [vu acc.Kind, vi acc.Id], vs unit, vi day] w (Yes w) := by
  refine Cl.yes (law06_DrawersPast.ok (a := acc) (Q := fun b w' => b = true ∧ Ext w w') (al_f (er w) fun b1 w1 hb1 hat1 E1 e1 n1 => ?_))
  by_cases hlong : n ≤ 60
  case neg =>
    refine played_long (by omega) ⟨rfl, ifb_t (alive_c fun w3 E3 => ⟨?_, E1.ext E3⟩)⟩
    rw [decide_eq_true (show ((n : Nat) : Int) > 60 by omega)]; rfl
  have hl1 := ho.len
  refine played_c (ho.ext E1) hlong fun b w2 R st hL hb hR E2 => ⟨E2.blk _ hat1.lt id, ?_⟩
  have hat2 := hat1.ext E2
  have E12 := E1.ext E2
  by_cases hlong2 : n2 ≤ 60
  case neg =>
    rw [decide_eq_true (show ((n2 : Nat) : Int) > 60 by omega), Bool.or_true]
    refine ifb_t (alive_c fun w3 E3 => ⟨?_, E12.ext E3⟩)
    rw [Bool.or_true]; rfl
  rw [decide_eq_false (show ¬ ((n2 : Nat) : Int) > 60 by omega)]
  refine ifb_f (day_c hL.rd ⟨rfl, ifb ?_⟩)
  split
  · exact alive_c fun w3 E3 => ⟨rfl, E12.ext E3⟩
  rename_i hday
  have hday : day < (M0.runs ms).day := by simpa using hday
  have hGK : GoodK n (M0.runs ms) := by have := good_runs ms good_M0; rw [Nat.zero_add, ← hl1] at this; exact this
  have hG := hGK.good (by omega)
  have hF := hG.small.fits
  have hS : (M0.runs ms).postings.length ≤ 40000 := by have := hG.postings; omega
  obtain ⟨hm0, hO0⟩ := runs_moves ms j_M0 ol_M0
  have hJ0 := hm0.j j_M0
  generalize M0.runs ms = M at *
  have lb := hL.blk.lt
  have nb : ¬ b1 = b := by have := hat1.lt; omega
  refine dr_f E12 fun w6 E6 e6 => balance_c (hL.ext e6).rd hF fun w7 e7 => ⟨e7.blk _ (hat2.ext e6).lt id, lbalances_c ((hL.ext e6).ext e7).rd hS fun a6 n6 c6 w8 ho6 hk6 e8 => ⟨e8.blk _ ((hat2.ext e6).ext e7).lt id, worth_c (((hL.ext e6).ext e7).ext e8).rd hF hS fun w9 e9 => ⟨e9.blk _ (((hat2.ext e6).ext e7).ext e8).lt id, trial_c ((((hL.ext e6).ext e7).ext e8).ext e9).rd hS fun a8 n8 c8 w10 ho8 hk8 e10 => ⟨e10.blk _ ((((hat2.ext e6).ext e7).ext e8).ext e9).lt id, lvalue_c (((((hL.ext e6).ext e7).ext e8).ext e9).ext e10).rd hF fun w11 e11 => ⟨e11.blk _ (((((hat2.ext e6).ext e7).ext e8).ext e9).ext e10).lt id, n2 + 1, ?_⟩⟩⟩⟩⟩
  have e211 : Ext w2 w11 := ((((e6.trans e7).trans e8).trans e9).trans e10).trans e11
  have hL11 := hL.ext e211
  have hat11 := hat2.ext e211
  have ho6 := ((ho6.ext e9).ext e10).ext e11
  have ho8 := ho8.ext e11
  have E11 := E12.ext e211
  have s68 : w2.heap.size ≤ w7.heap.size := (e6.trans e7).size
  have s810 : w2.heap.size ≤ w9.heap.size := (((e6.trans e7).trans e8).trans e9).size
  have l6 : n6 ≤ maxLen := by rw [ho6.1]; exact balances_max hG acc day
  have l8 : n8 ≤ maxLen := by rw [ho8.1]; exact trial_max hG day
  have hln2 := ho2.len
  obtain ⟨_, os, hos, hop⟩ := ho2
  have key : ∀ m i w' R st M', i + m = n2 → Frm (fun k => k = b) w11 w' → Led w' R b st M' → GoodK (n + i) M' → J M' → OL M' → Moves M M' →
      law06_DrawersPast.l1 (fun b w' => b = true ∧ Ext w w') a2 n2 acc unit day b1 (some ⟨b, 0, none⟩) (M.balance acc unit day) a6 n6 c6 (M.worth acc day) a8 n8 c8 (M.value unit day) (m + 1) (i : Nat) w' := by
    intro m
    induction m with
    | zero =>
      intro i w' R st M' hi F hL hGK hJ hO hM
      have E' : Ext w w' := Frm.trans E11 F fun k hk e => by have e : k = b := e; have := E1.size; omega
      have hat' := hat11.frm F nb
      have ho6 := ho6.frm F fun k hk e => by have := hk6 k hk; omega
      have ho8 := ho8.frm F fun k hk e => by have := hk8 k hk; omega
      have hG' := hGK.good (by omega)
      have hF' := hG'.small.fits
      have hS' : M'.postings.length ≤ 40000 := by have := hG'.postings; omega
      have sm := hM.same hday
      unfold law06_DrawersPast.l1
      refine ifb_df (by omega) (alive_c fun w3 e3 => ⟨e3.blk _ hat'.lt id, ifb_t (balance_c (hL.ext e3).rd hF' fun w4 e4 => ⟨e4.blk _ (hat'.ext e3).lt id, ?_⟩)⟩)
      rw [sm.balance, beq_self_eq_true]
      refine ifb_t (lbalances_c ((hL.ext e3).ext e4).rd hS' fun a13 n13 c13 w5 ho13 hk13 e5 => ⟨e5.blk _ ((hat'.ext e3).ext e4).lt id, ?_⟩)
      rw [sm.balances] at ho13
      refine sameAmounts_c ((((ho6.ext e3).ext e4).ext e5).rd encAmount) (ho13.rd encAmount) l6 fun w6 e6 => ⟨e6.blk _ (((hat'.ext e3).ext e4).ext e5).lt id, ?_⟩
      rw [decide_eq_true rfl]
      have e36 := ((e3.trans e4).trans e5).trans e6
      refine ifb_t (worth_c (hL.ext e36).rd hF' hS' fun w7 e7 => ?_)
      rw [sm.worth, beq_self_eq_true]
      refine ifb_t (trial_c ((hL.ext e36).ext e7).rd hS' fun a16 n16 c16 w8 ho16 hk16 e8 => ?_)
      rw [sm.trial] at ho16
      refine sameLines_c ((((ho8.ext e36).ext e7).ext e8).rd encLine) (ho16.rd encLine) l8 fun w9 e9 => ?_
      rw [decide_eq_true rfl]
      refine ifb_t (lvalue_c ((((hL.ext e36).ext e7).ext e8).ext e9).rd hF' fun w10 e10 => ?_)
      rw [sm.value, beq_self_eq_true]
      exact ⟨rfl, E'.ext ((((e36.trans e7).trans e8).trans e9).trans e10)⟩
    | succ m ih =>
      intro i w' R st M' hi F hL hGK hJ hO hM
      have E' : Ext w w' := Frm.trans E11 F fun k hk e => by have e : k = b := e; have := E1.size; omega
      have hat' := hat11.frm F nb
      have lb' := hL.blk.lt
      unfold law06_DrawersPast.l1
      refine ifb_dt (by omega) ((hos.ext E').ix (by omega) (by omega) fun a0 o ha hx hc => ⟨o, hc, ?_⟩)
      simp only [Int.toNat_natCast] at hx
      obtain ⟨mo, hmo⟩ : ∃ mo, ms2[i]? = some mo := ⟨_, List.getElem?_eq_getElem (by omega)⟩
      have hoi := hop i o mo hx hmo
      refine al_f (er w') fun b2 w13 hb2 hat2' E13 e13 g2 => sb_f E13 hat2' hb2 fun w14 hat14 E14 f14 => ?_
      refine run_c (hL.ext E14) (hGK.good (by omega)) (hoi.ext (E'.ext E14)) fun r w15 R' st' hL15 hR15 F15 hr15 => ⟨F15.blk _ (hat'.ext E14).lt nb, ?_⟩
      rw [wrap_succ (n := n2) (by omega) (by omega) (by simp only [maxLen]; omega)]
      obtain ⟨m1, o1⟩ := run_moves hJ hO mo
      exact ih (i + 1) w15 R' st' _ (by omega) ((F.ext E14).trans F15 fun k hk e => e) hL15 (good_run hGK mo) (m1.j hJ) o1 (hM.trans m1)
  exact key n2 0 w11 R st M (by omega) (Ext.frm (er w11)) hL11 hGK hJ0 hO0 .refl
end Go.Proofs.YtcbijkakoepglaaGreat
namespace Go.Proofs.YtcbijkakoepglaaGreat
open Go Go.Wx Go.ChangeShapes Go.WideShapes Go.ChangeAt Go.RowKit
open Go.ChangeMaps (open_string shut_string)
set_option maxRecDepth 100000 in
theorem liftedDrawersPast (os : Os) (started : os.Started) (H : Type) (enc : TypeId × Value → H) :
    ReturnsInHanded {} Tryz.checked os 14 .any (Rows.drawersPastSpec.pre6 enc Tryz.prog Tryz.f14 Rows.drawersPastRow.domain false) (Rows.drawersPastSpec.post enc Tryz.prog Tryz.f14 false true false false) := by
  refine returnsInHanded_of_change_sized (C := Tryz.checked) own started (by kernel_rfl) Tryz.func14
    (ChangeSpec.witness6 (enc := enc) (C := Tryz.checked) false ⟨#[], #[.slice none 0 0, .slice none 0 0, .agg #[.int .u8 0, .int .i64 0], .string ByteArray.empty, .int .i64 0], []⟩ 8 (by kernel_rfl) (by kernel_rfl) (by kernel_rfl) (by kernel_rfl)) ?_
  intro W base args ds gs before hval0 hW hcnd hsz0 _
  have hsz : (DataW.weightsEach Tryz.prog (Tryz.f14.params.toList ++ Rows.drawersPastSpec.plain.varTypes Tryz.prog) (ds ++ gs)).all (· ≤ reachBytes) = true := hsz0
  have hval : ∀ (j : Nat) t v, Tryz.f14.params[j]? = some t → args[j]? = some v → Value.okWide Tryz.prog W .any base t v := hval0
  have hW' := hW
  obtain ⟨p, q, hA0, hV, rfl, hfz, hnd⟩ := hW
  have hA : DataW.TrodAll enc Tryz.prog W 0 (fun _ => true) true Tryz.f14.params.toList args.toList ds p := hA0
  have hA' := hA
  rw [Tryz.params14] at hA hval hsz
  obtain ⟨v0, vs0, d0, ds0, p0, q0, hargs, rfl, rfl, t0, r0⟩ := trodAll_cons hA
  obtain ⟨v1, vs1, d1, ds1, p1, q1, rfl, rfl, rfl, t1, r1⟩ := trodAll_cons r0
  obtain ⟨v2, vs2, d2, ds2, p2, q2, rfl, rfl, rfl, t2, r2⟩ := trodAll_cons r1
  obtain ⟨v3, vs3, d3, ds3, p3, q3, rfl, rfl, rfl, t3, r3⟩ := trodAll_cons r2
  obtain ⟨v4, vs4, d4, ds4, p4, q4, rfl, rfl, rfl, t4, r4⟩ := trodAll_cons r3
  obtain ⟨rfl, rfl, rfl⟩ := trodAll_nil r4
  obtain rfl : args = #[v0, v1, v2, v3, v4] := by cases args; simp_all
  obtain ⟨rfl, rfl⟩ := trodVars_none hV
  obtain ⟨a0, n0, c0, rfl⟩ := okWide_slice Tryz.underlying30 (hval 0 30 v0 rfl rfl)
  have u0 := (weights_of hsz (j := 0) (t := 30) (d := d0) rfl rfl)
  obtain ⟨fu0, hf0⟩ := t0
  obtain ⟨ms0, h0⟩ := open_script hf0 u0
  obtain ⟨a1, n1, c1, rfl⟩ := okWide_slice Tryz.underlying30 (hval 1 30 v1 rfl rfl)
  have u1 := (weights_of hsz (j := 1) (t := 30) (d := d1) rfl rfl)
  obtain ⟨fu1, hf1⟩ := t1
  obtain ⟨ms1, h1⟩ := open_script hf1 u1
  obtain ⟨x2, rfl⟩ := open_acct (hval 2 40 v2 rfl rfl) t2 (weights_of hsz (j := 2) (t := 40) (d := d2) rfl rfl)
  obtain ⟨x3, rfl, -, -, y3⟩ := open_string Tryz.underlying9 (hval 3 9 v3 rfl rfl) t3
  obtain ⟨x4, rfl, -, -, w4⟩ := open_int Tryz.underlying3 (hval 4 3 v4 rfl rfl) t4
  refine Calls.mono (lawPast_c h0 h1) fun e W' hy => ?_
  obtain ⟨v, he, hv, bel⟩ := hy
  subst he
  subst hv
  exact ⟨_, rfl, _, _, _, [], _, [], hW', trodAll_mk1 (shut_bool Tryz.underlying4 _), Below.trodAll laidOut bel.below (by kernel_rfl) hA', rfl, bel.below.frame _, fun h => by cases h⟩
theorem named14 : Tryz.checked.prog.funcNamed Rows.drawersPastRow.func = some 14 := by kernel_rfl
set_option maxRecDepth 100000 in
set_option maxHeartbeats 20000000 in
theorem facts14 : joinedFacts Tryz.checked.prog 14 Tryz.f14 Rows.drawersPastSpec Rows.drawersPastRow = true := by
  show joinedFacts Tryz.prog 14 Tryz.f14 Rows.drawersPastSpec Rows.drawersPastRow = true
  unfold joinedFacts
  simp only [Bool.and_eq_true]
  repeat' apply And.intro
  all_goals as_aux_lemma => kernel_rfl
theorem inst14 : Tryz.f14.isInstance Tryz.checked.prog Rows.drawersPastRow.origin Rows.drawersPastRow.targs := of_decide_eq_true (by kernel_rfl)
theorem wrap14 : Tryz.f14.isWrapper Tryz.checked.prog Rows.drawersPastRow.wrapper Rows.drawersPastRow.mainSum := by unfold Func.isWrapper; first | (rw [if_pos (by decide +kernel)]; kernel_rfl) | (rw [if_neg (by decide +kernel)]; exact ⟨rfl, rfl⟩)
theorem drawersPast_holds : Rows.DrawersPastSaid :=
  OpenClaim.holds_of_wide 14 Tryz.f14 rfl rfl rfl rfl rfl rfl rfl ⟨rfl, rfl, rfl, rfl, rfl⟩ rfl rfl rfl rfl rfl named14 Tryz.func14 facts14 inst14 wrap14
    (fun os started H enc _ => liftedDrawersPast os started H enc)
end Go.Proofs.YtcbijkakoepglaaGreat
