/- A part of the proof that the law DrawersAudits holds. Conditions: none. -/
import Derived.Test.YtcbijkakoepglaaGreatKAudits1
import Derived.Sort.LotA
import Derived.Sort.Walk0
import Derived.Shelf.SlSortCmp.NoneTotal
import Derived.Ground.SlsfProg
import Derived.MapKept
import Derived.Laws.RangeAny
set_option linter.all false
namespace Go.Proofs.YtcbijkakoepglaaGreat
open Go Go.Wx Go.Sort

/-! ### strings -/
theorem strEq_iff {x y : ByteArray} : strEq x y = true ↔ x = y := by
  unfold strEq
  rw [beq_iff_eq, ByteArray.toList_eq, ByteArray.toList_eq]
  constructor
  · intro h
    cases x; cases y
    simp only at h
    congr 1
    exact Array.ext' h
  · rintro rfl; rfl
theorem strEq_eq (x y : ByteArray) : strEq x y = decide (x = y) := by
  rw [Bool.eq_iff_iff, strEq_iff]; simp
theorem strLt_eq (x y : ByteArray) : strLt x y = ltStr x.data.toList y.data.toList := by
  unfold strLt ltStr
  rw [Go.Proofs.bytesLess_eq, ByteArray.toList_eq, ByteArray.toList_eq]
theorem swoStr : SWO strLt := {
  irrefl x := by rw [strLt_eq]; exact swo_ltStr.irrefl _
  trans x y z h1 h2 := by rw [strLt_eq] at *; exact swo_ltStr.trans _ _ _ h1 h2
  ntrans x y z h1 h2 := by rw [strLt_eq] at *; exact swo_ltStr.ntrans _ _ _ h1 h2 }
theorem strLt_anti {x y : ByteArray} (h1 : strLt x y = false) (h2 : strLt y x = false) : x = y := by
  rw [strLt_eq] at h1 h2
  simp only [ltStr, decide_eq_false_iff_not, List.not_lt] at h1 h2
  have h := List.le_antisymm h2 h1
  cases x; cases y
  simp only at h
  congr 1
  exact Array.ext' h

/-! ### comparing -/
theorem cmpI_neg {a b : Int} : cmpI a b < 0 ↔ a < b := by unfold cmpI; split <;> (try split) <;> omega
theorem cmpI_zero {a b : Int} : cmpI a b = 0 ↔ a = b := by unfold cmpI; split <;> (try split) <;> omega
theorem cmpS_neg {a b : ByteArray} : cmpS a b < 0 ↔ strLt a b = true := by
  unfold cmpS
  cases strLt a b <;> simp
  split <;> omega
theorem cmpS_zero {a b : ByteArray} : cmpS a b = 0 ↔ a = b := by
  unfold cmpS
  constructor
  · intro h
    cases h1 : strLt a b <;> rw [h1] at h <;> simp at h
    exact strEq_iff.1 h
  · rintro rfl
    rw [swoStr.irrefl, strEq_self]; rfl
theorem firstNZ_neg {x : Int} {xs : List Int} : firstNZ (x :: xs) < 0 ↔ x < 0 ∨ x = 0 ∧ firstNZ xs < 0 := by
  show (if x != 0 then x else firstNZ xs) < 0 ↔ _
  split
  · rename_i h; simp at h; omega
  · rename_i h; simp at h; omega
theorem firstNZ_nil : ¬ firstNZ [] < 0 := by simp [firstNZ]

def ltLot (x y : TLot) : Bool := decide (cfLot x y < 0)
def ltAmount (x y : TAmount) : Bool := decide (cfAmount x y < 0)
def ltLine (x y : TTrialLine) : Bool := decide (cfLine x y < 0)
theorem ltLot_iff {x y : TLot} : ltLot x y = true ↔ x.Due < y.Due ∨ x.Due = y.Due ∧ x.Id < y.Id := by
  unfold ltLot cfLot
  rw [decide_eq_true_eq, firstNZ_neg, firstNZ_neg, cmpI_neg, cmpI_zero, cmpI_neg]
  have := firstNZ_nil
  omega
theorem ltAmount_iff {x y : TAmount} : ltAmount x y = true ↔ strLt x.Unit y.Unit = true := by
  unfold ltAmount cfAmount
  rw [decide_eq_true_eq, cmpS_neg]
theorem ltLine_iff {x y : TTrialLine} : ltLine x y = true ↔ x.Account_Kind < y.Account_Kind ∨ x.Account_Kind = y.Account_Kind ∧ (x.Account_Id < y.Account_Id ∨ x.Account_Id = y.Account_Id ∧ strLt x.Unit y.Unit = true) := by
  unfold ltLine cfLine
  rw [decide_eq_true_eq, firstNZ_neg, firstNZ_neg, firstNZ_neg, cmpI_neg, cmpI_zero, cmpI_neg, cmpI_zero, cmpS_neg, cmpS_zero]
  have := firstNZ_nil
  constructor
  · rintro (h | ⟨h, h2 | ⟨h2, h3 | ⟨_, h3⟩⟩⟩)
    · exact .inl h
    · exact .inr ⟨h, .inl h2⟩
    · exact .inr ⟨h, .inr ⟨h2, h3⟩⟩
    · exact absurd h3 this
  · rintro (h | ⟨h, h2 | ⟨h2, h3⟩⟩)
    · exact .inl h
    · exact .inr ⟨h, .inl h2⟩
    · exact .inr ⟨h, .inr ⟨h2, .inl h3⟩⟩
theorem ltLot_false {x y : TLot} : ltLot x y = false ↔ ¬ (x.Due < y.Due ∨ x.Due = y.Due ∧ x.Id < y.Id) := by rw [← ltLot_iff]; simp
theorem swoLot : SWO ltLot := {
  irrefl x := by rw [ltLot_false]; omega
  trans x y z h1 h2 := by rw [ltLot_iff] at *; omega
  ntrans x y z h1 h2 := by rw [ltLot_false] at *; omega }
theorem swoAmount : SWO ltAmount := {
  irrefl x := by cases h : ltAmount x x with
    | false => rfl
    | true => rw [ltAmount_iff, swoStr.irrefl] at h; cases h
  trans x y z h1 h2 := by rw [ltAmount_iff] at *; exact swoStr.trans _ _ _ h1 h2
  ntrans x y z h1 h2 := by
    have e : ∀ {a b : TAmount}, ltAmount a b = false ↔ strLt a.Unit b.Unit = false := fun {a b} => by
      rw [← Bool.not_eq_true, ltAmount_iff, Bool.not_eq_true]
    rw [e] at *; exact swoStr.ntrans _ _ _ h1 h2 }
theorem ltLine_false {x y : TTrialLine} : ltLine x y = false ↔ ¬ (x.Account_Kind < y.Account_Kind ∨ x.Account_Kind = y.Account_Kind ∧ (x.Account_Id < y.Account_Id ∨ x.Account_Id = y.Account_Id ∧ strLt x.Unit y.Unit = true)) := by rw [← ltLine_iff]; simp
theorem swoLine : SWO ltLine := {
  irrefl x := by
    rw [ltLine_false]
    rintro (h | ⟨_, h | ⟨_, h⟩⟩)
    · omega
    · omega
    · rw [swoStr.irrefl] at h; cases h
  trans x y z h1 h2 := by
    rw [ltLine_iff] at *
    rcases h1 with h1 | ⟨h1, h1' | ⟨h1', h1''⟩⟩ <;> rcases h2 with h2 | ⟨h2, h2' | ⟨h2', h2''⟩⟩ <;> first
      | (left; omega)
      | (right; refine ⟨by omega, .inl (by omega)⟩)
      | (right; exact ⟨by omega, .inr ⟨by omega, swoStr.trans _ _ _ h1'' h2''⟩⟩)
  ntrans x y z h1 h2 := by
    rw [ltLine_false] at *
    rintro (h | ⟨h, h' | ⟨h', h''⟩⟩)
    · apply h1; by_cases h3 : x.Account_Kind < y.Account_Kind
      · exact .inl h3
      · exact absurd (.inl (by omega)) h2
    · have hk : x.Account_Kind = y.Account_Kind := by
        apply Classical.byContradiction; intro hne
        by_cases h3 : x.Account_Kind < y.Account_Kind
        · exact h1 (.inl h3)
        · exact h2 (.inl (by omega))
      by_cases h4 : x.Account_Id < y.Account_Id
      · exact h1 (.inr ⟨hk, .inl h4⟩)
      · exact h2 (.inr ⟨by omega, .inl (by omega)⟩)
    · have hk : x.Account_Kind = y.Account_Kind := by
        apply Classical.byContradiction; intro hne
        by_cases h3 : x.Account_Kind < y.Account_Kind
        · exact h1 (.inl h3)
        · exact h2 (.inl (by omega))
      have hi : x.Account_Id = y.Account_Id := by
        apply Classical.byContradiction; intro hne
        by_cases h3 : x.Account_Id < y.Account_Id
        · exact h1 (.inr ⟨hk, .inl h3⟩)
        · exact h2 (.inr ⟨by omega, .inl (by omega)⟩)
      cases h5 : strLt x.Unit y.Unit with
      | true => exact h1 (.inr ⟨hk, .inr ⟨hi, h5⟩⟩)
      | false =>
        cases h6 : strLt y.Unit z.Unit with
        | true => exact h2 (.inr ⟨by omega, .inr ⟨by omega, h6⟩⟩)
        | false => rw [swoStr.ntrans _ _ _ h5 h6] at h''; cases h'' }

/-! ### sorting -/
section
variable {α : Type} (lt : α → α → Bool)
def isortIn (x : α) : List α → List α
  | [] => [x]
  | y :: ys => if lt x y then x :: y :: ys else y :: isortIn x ys
def isort : List α → List α
  | [] => []
  | x :: xs => isortIn lt x (isort xs)
variable {lt}
theorem isortIn_perm (x : α) : ∀ l, (isortIn lt x l).Perm (x :: l)
  | [] => .refl _
  | y :: ys => by
    unfold isortIn
    split
    · exact .refl _
    · exact ((isortIn_perm x ys).cons y).trans (.swap x y ys)
theorem isort_perm : ∀ l, (isort lt l).Perm l
  | [] => .refl _
  | x :: xs => (isortIn_perm x _).trans ((isort_perm xs).cons x)
def Asc (lt : α → α → Bool) (l : List α) : Prop := l.Pairwise fun x y => lt y x = false
theorem isortIn_asc (hS : SWO lt) (x : α) : ∀ l, Asc lt l → Asc lt (isortIn lt x l)
  | [], _ => by simp [isortIn, Asc]
  | y :: ys, h => by
    obtain ⟨h1, h2⟩ := List.pairwise_cons.1 h
    unfold isortIn
    split
    · rename_i hxy
      refine List.pairwise_cons.2 ⟨fun z hz => ?_, h⟩
      rcases List.mem_cons.1 hz with rfl | hz
      · exact hS.asymmA hxy
      · exact hS.ntrans _ _ _ (h1 z hz) (hS.asymmA hxy)
    · rename_i hxy
      refine List.pairwise_cons.2 ⟨fun z hz => ?_, isortIn_asc hS x ys h2⟩
      rcases List.mem_cons.1 ((isortIn_perm x ys).mem_iff.1 hz) with rfl | hz
      · simpa using hxy
      · exact h1 z hz
theorem isort_asc (hS : SWO lt) : ∀ l, Asc lt (isort lt l)
  | [] => .nil
  | x :: xs => isortIn_asc hS x _ (isort_asc hS xs)
/-- there is one sorted permutation, where equals are one. -/
theorem isort_unique (hS : SWO lt) {l l' : List α} (hp : l'.Perm l) (ha : Asc lt l') (hk : ∀ x ∈ l, ∀ y ∈ l, lt x y = false → lt y x = false → x = y) : l' = isort lt l :=
  List.Perm.eq_of_pairwise (le := fun x y => lt y x = false) (fun a b h1 h2 h3 h4 => hk a (hp.mem_iff.1 h1) b ((isort_perm l).mem_iff.1 h2) h4 h3) ha (isort_asc hS l) (hp.trans (isort_perm l).symm)
theorem asc_of_sortedIn [Inhabited α] {d : Array α} (h : SortedIn lt 0 d.size d) : Asc lt d.toList := by
  refine List.pairwise_iff_getElem.2 fun i j hi hj hij => ?_
  have := h i j (Nat.zero_le _) hij (by simpa using hj)
  rw [getElem!_pos d j (by simpa using hj), getElem!_pos d i (by simpa using hi)] at this
  simpa using this
theorem perm_of_permIn [Inhabited α] {d d' : Array α} (h : PermIn 0 d.size d d') : d'.toList.Perm d.toList := by
  obtain ⟨h1, _, h3⟩ := h
  rw [Array.extract_size] at h3
  have : d'.extract 0 d.size = d' := by rw [← h1]; exact Array.extract_size
  rwa [this] at h3
end
end Go.Proofs.YtcbijkakoepglaaGreat
namespace Go.Proofs.YtcbijkakoepglaaGreat
open Go Go.Wx Go.Sort Go.Shelf

theorem ext_grow {w w' : World} (E : Ext w w') : ∃ q os, w' = grow (w.drewN q) os := by
  obtain ⟨e1, e2, e3, e4, e5, e6⟩ := E
  refine ⟨w'.drawn - w.drawn, w'.heap.extract w.heap.size w'.heap.size, ?_⟩
  have hh : w'.heap = w.heap ++ w'.heap.extract w.heap.size w'.heap.size := by
    apply Array.ext_getElem?
    intro k
    by_cases hk : k < w.heap.size
    · rw [Array.getElem?_append_left hk, e6 k hk id]
    · rw [Array.getElem?_append_right (by omega), Array.getElem?_extract]
      split
      · congr 1; omega
      · rename_i h
        rw [Array.getElem?_eq_none (by simp at h; omega)]
  have hd : w'.drawn = w.drawn + (w'.drawn - w.drawn) := by omega
  cases w; cases w'
  simp only at e1 e2 e3 hh hd
  subst e1 e2 e3
  unfold grow World.drewN
  simp only [World.mk.injEq]
  exact ⟨hh, trivial, hd, trivial, trivial⟩

section
variable {α : Type} [Inhabited α] {enc : α → List Value} {sz T : Nat}
theorem flatK_list (he : ∀ x, (enc x).length = sz) (hs : 0 < sz) (d : Array α) : (flatK enc sz d).toList = d.toList.flatMap enc := by
  apply List.ext_getElem?
  intro t
  have ht : t = (t / sz) * sz + t % sz := by rw [Nat.mul_comm]; exact (Nat.div_add_mod t sz).symm
  have hr : t % sz < sz := Nat.mod_lt _ hs
  by_cases hl : t < d.size * sz
  · have hq : t / sz < d.size := (Nat.div_lt_iff_lt_mul hs).2 hl
    rw [Array.getElem?_toList, Array.getElem?_eq_getElem (by rw [size_flatK]; exact hl), ← getElem!_pos (flatK enc sz d) t (by rw [size_flatK]; exact hl), get_flatK enc sz d t hl]
    have hf := flat_at he d.toList (t / sz) (t % sz) hr
    rw [← ht] at hf
    rw [hf, Array.getElem?_toList, Array.getElem?_eq_getElem hq, getElem!_pos d _ hq]
    simp only [Option.bind_some]
    rw [List.getElem?_eq_getElem (by rw [he]; exact hr), getElem!_pos]
  · rw [List.getElem?_eq_none (by simp; omega), List.getElem?_eq_none (by rw [flat_len he]; simp; omega)]

theorem own_holds (he : ∀ x, (enc x).length = sz) (hs : 0 < sz) {w : World} {g n c : Nat} {d : Array α} (ho : Own T sz enc w (some ⟨g, 0, none⟩) n c d.toList) (hn : n ≠ 0) : HoldsK enc sz w g 0 d := by
  intro j hj
  obtain ⟨g', cur, e, hat, hnc, hcm, hsz, htk⟩ := ho.2.resolve_left (fun h => hn h.2)
  cases e
  have hl := ho.1
  rw [size_flatK] at hj
  have hj' : j < n * sz := by rw [hl]; simpa using hj
  constructor
  · refine cell_blk hat ?_
    have hF : (flatK enc sz d)[j]? = cur[j]? := by
      rw [← Array.getElem?_toList, flatK_list he hs, ← htk, List.getElem?_take, if_pos hj', Array.getElem?_toList]
    rw [Nat.zero_add, id_eq, getElem!_pos _ j (by rw [size_flatK]; exact hj), ← Array.getElem?_eq_getElem, hF]
  · have hat' : w.heap[g]? = some (.cells cur T (0, 0)) := hat
    simp [World.frozen?, hat']

theorem sortWorld_own (he : ∀ x, (enc x).length = sz) (hs : 0 < sz) {w : World} {g n c : Nat} {xs : List α} (ho : Own T sz enc w (some ⟨g, 0, none⟩) n c xs) (hn : n ≠ 0) {d' : Array α} (hd : d'.size = n) (m : Nat) (os : Array Obj) :
    Own T sz enc (sortWorldK enc sz w g 0 m d' os) (some ⟨g, 0, none⟩) n c d'.toList ∧ Frm (fun k => k = g) w (sortWorldK enc sz w g 0 m d' os) := by
  obtain ⟨g', cur, e, hat, hnc, hcm, hsz, htk⟩ := ho.2.resolve_left (fun h => hn h.2)
  cases e
  have hg : g < (putRowK enc sz (Sort.ahead w m) g 0 d').heap.size := by
    unfold putRowK; rw [size_putRow]; exact hat.lt
  have hat' : w.heap[g]? = some (.cells cur T (0, 0)) := hat
  have h1 : (sortWorldK enc sz w g 0 m d' os).heap[g]? = some (.cells (putCells id 0 (flatK enc sz d') cur) T (0, 0)) := by
    unfold sortWorldK
    rw [heap_grow_old _ _ hg]
    unfold putRowK putRow mapBlock
    simp only [Array.getElem?_modify, if_true, Sort.heap_ahead, hat', Option.map_some, onCells]
  have hle : n * sz ≤ cur.size := by rw [hsz]; exact Nat.mul_le_mul_right _ hnc
  refine ⟨⟨by simp [hd], .inr ⟨g, _, rfl, h1, hnc, hcm, by simp [putCells, hsz], ?_⟩⟩, ?_⟩
  · rw [← flatK_list he hs]
    apply List.ext_getElem?
    intro k
    rw [List.getElem?_take]
    by_cases hk : k < n * sz
    · have hk' : k < (flatK enc sz d').size := by rw [size_flatK, hd]; exact hk
      rw [if_pos hk, Array.getElem?_toList, Array.getElem?_toList, Array.getElem?_eq_getElem hk']
      simp only [putCells, Array.getElem?_mapIdx]
      rw [Array.getElem?_eq_getElem (by omega)]
      simp only [Option.map_some, Nat.zero_le, true_and, Nat.zero_add, hk', if_true, Nat.sub_zero, id_eq]
      rw [getElem!_pos _ k hk']
    · rw [if_neg hk, List.getElem?_eq_none (by simp [hd]; omega)]
  · refine ⟨rfl, rfl, rfl, ?_, ?_, ?_⟩
    · show w.drawn ≤ w.drawn + m; omega
    · unfold sortWorldK; rw [size_grow]; unfold putRowK; rw [size_putRow]; exact Nat.le_add_right _ _
    · intro b hb hne
      unfold sortWorldK
      rw [heap_grow_old _ _ (by unfold putRowK; rw [size_putRow]; exact hb)]
      unfold putRowK putRow mapBlock
      simp only [Array.getElem?_modify, Sort.heap_ahead]
      rw [if_neg (fun e => hne e.symm)]

theorem cmps_lays {gf : Nat} {cb : Array Value} {cf : α → α → Int} {w : World} {g n : Nat} (hf : Cmps (.func (.func gf) #[] cb) enc cf (fun k => k = g) w)
    (hw : ∀ (m : Nat) (os : Array Obj) (dk : Array α), dk.size = n → Frm (fun k => k = g) w (sortWorldK enc sz w g 0 m dk os)) : CmpLays Pg gf cb enc sz cf g 0 n w := by
  intro m os dk hs x y
  obtain ⟨g', c', e, _, h⟩ := hf x y _ (hw m os dk hs) (fun r w' => r = cf x y ∧ Ext (sortWorldK enc sz w g 0 m dk os) w') (fun w' E => ⟨rfl, E⟩)
  cases e
  refine Calls.mono h ?_
  rintro en w' ⟨v, rfl, r, rfl, rfl, E⟩
  exact ⟨rfl, ext_grow E⟩

theorem sortF {gf fn : Nat} {cb : Array Value} {cf : α → α → Int} {ρ : Go.Shelf.Ren} (L : SlLaysF0.n6 Pg ρ) (hfn : ρ.f 6 = fn) (aE : ∀ w, (isAgg (ρ.t 24)).run Pg w = .ok true w) (zE : ∀ w, (Go.sizeOf (ρ.t 24)).run Pg w = .ok sz w)
    (he : ∀ x, (enc x).length = sz) (hs : 0 < sz) (h1 : ∀ x, ∀ v ∈ enc x, v.oneCell' = true) (hO : SWO fun x y => decide (cf x y < 0)) (eg : ∀ args w, (callFunc gf args).run Pg w = .ok (.enter gf args) w)
    {w : World} {a : Option Addr} {n c : Nat} {xs : List α} (ho : Own T sz enc w a n c xs) (hn : n ≤ 1000000) (hf : Cmps (.func (.func gf) #[] cb) enc cf (fun k => obk a c = some k) w)
    (hk : ∀ x ∈ xs, ∀ y ∈ xs, ¬ cf x y < 0 → ¬ cf y x < 0 → x = y) {Q : World → Prop}
    (hQ : ∀ w', Own T sz enc w' a n c (isort (fun x y => decide (cf x y < 0)) xs) → Frm (fun k => obk a c = some k) w w' → Q w') : Cl Pg fn #[vl a n c, .func (.func gf) #[] cb] w (fun v w' => v = .tuple #[] ∧ Q w') := by
  subst hfn
  by_cases hn0 : n = 0
  · subst hn0
    obtain rfl : xs = [] := List.eq_nil_of_length_eq_zero ho.1.symm
    refine Calls.mono (AnyF.slices_SortFunc_none L a c _ w) ?_
    rintro e w' ⟨rfl, rfl⟩
    exact ⟨_, rfl, rfl, hQ _ ho (Frm.refl _ _)⟩
  · obtain ⟨g, cur, rfl, hat, hnc, _⟩ := ho.2.resolve_left (fun h => hn0 h.2)
    have hc : c ≠ 0 := by omega
    have hobk : ∀ k, obk (some (⟨g, 0, none⟩ : Addr)) c = some k ↔ k = g := fun k => by simp [obk, hc, eq_comm]
    have hl := ho.1
    have ho' : Own T sz enc w (some ⟨g, 0, none⟩) n c xs.toArray.toList := ho
    have hlt : ltOf cf = fun x y => decide (cf x y < 0) := rfl
    have hsz : xs.toArray.size = n := by simp [hl]
    have hf' : Cmps (.func (.func gf) #[] cb) enc cf (fun k => k = g) w := fun x y w' F => hf x y w' (F.mono fun k _ hk => (hobk k).2 hk)
    have h := AnyQ.slices_SortFunc (P := Pg) L sz aE zE enc he h1 cf hO gf cb g 0 c xs.toArray w eg (cmps_lays hf' fun m os dk hdk => (sortWorld_own he hs ho hn0 (hdk.trans hsz) m os).2) (own_holds he hs ho' hn0) hat.lt (by omega)
    rw [hsz] at h
    refine Calls.mono h ?_
    rintro e w' ⟨rfl, d', m, os, hp, hso, rfl⟩
    have hd : d'.size = n := hp.1.trans hsz
    obtain ⟨ho2, F2⟩ := sortWorld_own he hs ho hn0 hd m os
    have hp' := perm_of_permIn (d := xs.toArray) (d' := d') (by rw [hsz]; exact hp)
    have he2 : d'.toList = isort (fun x y => decide (cf x y < 0)) xs := isort_unique hO hp' (asc_of_sortedIn (by rw [hd]; exact hso)) fun x hx y hy h1 h2 => hk x hx y hy (by simpa using h1) (by simpa using h2)
    rw [he2] at ho2
    exact ⟨_, rfl, rfl, hQ _ ho2 (F2.mono fun k _ hk => (hobk k).2 hk)⟩
end

instance : Inhabited TTrialLine := ⟨⟨0, 0, ByteArray.mk #[], 0⟩⟩
instance : Inhabited TAmount := ⟨⟨ByteArray.mk #[], 0⟩⟩
theorem oneAll' {l : List Value} (h : l.all Value.oneCell' = true) : ∀ u ∈ l, u.oneCell' = true := List.all_eq_true.1 h
theorem callB_enters {g : Nat} (h : callB Pg g = true) : ∀ args w, (callFunc g args).run Pg w = .ok (.enter g args) w := by
  unfold callB at h
  split at h
  · rename_i fn hf
    simp only [Bool.and_eq_true, Bool.not_eq_true'] at h
    obtain ⟨c, hc⟩ := Option.isSome_iff_exists.1 h.2
    exact enters_of hf h.1 hc
  · cases h
theorem oneAmount (x : TAmount) : ∀ v ∈ x.enc, v.oneCell' = true := oneAll' rfl
theorem sortLines {w : World} {a : Option Addr} {n c : Nat} {xs : List TTrialLine} (ho : Own 49 4 TTrialLine.enc w a n c xs) (hn : n ≤ 1000000)
    (hk : ∀ x ∈ xs, ∀ y ∈ xs, x.Account_Kind = y.Account_Kind → x.Account_Id = y.Account_Id → x.Unit = y.Unit → x = y) {Q : World → Prop}
    (hQ : ∀ w', Own 49 4 TTrialLine.enc w' a n c (isort ltLine xs) → Frm (fun k => obk a c = some k) w w' → Q w') : Cl Pg 126 #[vl a n c, .func (.func 127) #[] #[]] w (fun v w' => v = .tuple #[] ∧ Q w') := by
  refine sortF (cf := cfLine) Go.Proofs.Tryz.sortLine (by kernel_rfl) (fun w => (tyk_run (w := w) (show tyk Pg _ = some (true, 4) from tk49)).1) (fun w => (tyk_run (w := w) (show tyk Pg _ = some (true, 4) from tk49)).2) (fun _ => rfl) (by decide) (fun x => oneAll' rfl) swoLine (callB_enters (by kernel_rfl)) ho hn (cmpsLine _ _) ?_ hQ
  intro x hx y hy h1 h2
  have h1 : ltLine x y = false := by unfold ltLine; simpa using h1
  have h2 : ltLine y x = false := by unfold ltLine; simpa using h2
  rw [ltLine_false] at h1 h2
  have e1 : x.Account_Kind = y.Account_Kind := by
    apply Classical.byContradiction; intro hne
    by_cases h3 : x.Account_Kind < y.Account_Kind
    · exact h1 (.inl h3)
    · exact h2 (.inl (by omega))
  have e2 : x.Account_Id = y.Account_Id := by
    apply Classical.byContradiction; intro hne
    by_cases h3 : x.Account_Id < y.Account_Id
    · exact h1 (.inr ⟨e1, .inl h3⟩)
    · exact h2 (.inr ⟨e1.symm, .inl (by omega)⟩)
  refine hk x hx y hy e1 e2 (strLt_anti ?_ ?_)
  · cases h : strLt x.Unit y.Unit with
    | false => rfl
    | true => exact (h1 (.inr ⟨e1, .inr ⟨e2, h⟩⟩)).elim
  · cases h : strLt y.Unit x.Unit with
    | false => rfl
    | true => exact (h2 (.inr ⟨e1.symm, .inr ⟨e2.symm, h⟩⟩)).elim
theorem sortAmounts {w : World} {a : Option Addr} {n c : Nat} {xs : List TAmount} (ho : Own 58 2 TAmount.enc w a n c xs) (hn : n ≤ 1000000)
    (hk : ∀ x ∈ xs, ∀ y ∈ xs, x.Unit = y.Unit → x = y) {Q : World → Prop}
    (hQ : ∀ w', Own 58 2 TAmount.enc w' a n c (isort ltAmount xs) → Frm (fun k => obk a c = some k) w w' → Q w') : Cl Pg 145 #[vl a n c, .func (.func 146) #[] #[]] w (fun v w' => v = .tuple #[] ∧ Q w') := by
  refine sortF (cf := cfAmount) Go.Proofs.Tryz.sortAmount (by kernel_rfl) (fun w => (tyk_run (w := w) (show tyk Pg _ = some (true, 2) from tk58)).1) (fun w => (tyk_run (w := w) (show tyk Pg _ = some (true, 2) from tk58)).2) (fun _ => rfl) (by decide) oneAmount swoAmount (callB_enters (by kernel_rfl)) ho hn (cmpsAmount _ _) ?_ hQ
  intro x hx y hy h1 h2
  have e : ∀ {a b : TAmount}, ¬ cfAmount a b < 0 → strLt a.Unit b.Unit = false := fun {a b} h => by
    have : ltAmount a b = false := by unfold ltAmount; simpa using h
    rw [← Bool.not_eq_true, ltAmount_iff, Bool.not_eq_true] at this
    exact this
  exact hk x hx y hy (strLt_anti (e h1) (e h2))
end Go.Proofs.YtcbijkakoepglaaGreat
namespace Go.Proofs.YtcbijkakoepglaaGreat
open Go Go.Wx

theorem eqI111 {d : Nat} {w : World} {a0 : Int} {b0 : Int} {a1 : Int} {b1 : Int} {a2 : ByteArray} {b2 : ByteArray} : (Op.equalIn (d + 3) 111 (.agg (List.toArray [vu a0, vi a1, vs a2])) (.agg (List.toArray [vu b0, vi b1, vs b2]))).run Pg w = .ok (((a0 == b0) && ((a1 == b1) && true)) && (strEq a2 b2 && true)) w := by
  rw [run_equalIn_struct w (d + 2) 111 _ _ (by kernel_rfl) (by kernel_rfl)]
  simp only [Program.fieldsOf, show Pg.underlying 111 = _ from Tryz.underlying111]
  exact eqF_cons (a := vg [vu a0, vi a1]) (b := vg [vu b0, vi b1]) (by kernel_rfl) (by kernel_rfl) (by kernel_rfl) (eqI40 (d := d + 0)) (eqF_cons (a := vs a2) (b := vs b2) (by kernel_rfl) (by kernel_rfl) (by kernel_rfl) (run_equalIn_string w (d + 1) 9 _ _ (by kernel_rfl)) eqF_nil)

theorem beqB (x : ByteArray) : (x == x) = true := by
  first | exact beq_self_eq_true x | (cases x; show ByteArray.beq _ _ = true; simp [ByteArray.beq]) | (cases x; show ByteArray.beq _ _ = true; unfold ByteArray.beq; simp) | simp
/-- the entries of a map from which nothing was deleted. -/
def ents {κ : Type} (enc : κ → Value) (k : Nat) : List (κ × Int) → List MapEntry
  | [] => []
  | (x, v) :: m => ⟨enc x, vi v, k⟩ :: ents enc (k + 1) m
def MapIs {κ : Type} (enc : κ → Value) (w : World) (b : Nat) (m : List (κ × Int)) : Prop := At w b (.map (ents enc 0 m).toArray m.length) ∧ m.Pairwise fun x y => x.1 ≠ y.1
/-- how keys of a type are looked for. -/
structure Keys (κ : Type) [DecidableEq κ] (mt kt : TypeId) (enc : κ → Value) : Prop where
  under : ∃ el, Pg.underlying mt = some (.map kt el) ∧ ∀ w, (zeroValue el).run Pg w = .ok (vi 0) w
  check : ∀ (w : World) (b : Bool) (x : κ), (Instr.checkKey b 10000 kt (enc x)).run Pg w = .ok () w
  find : ∀ (w : World) (x : κ) (m : List (κ × Int)), (Instr.findKey kt (enc x) (ents enc 0 m)).run Pg w = .ok ((m.findIdx? fun y => decide (x = y.1)).map fun i => (i, vi ((m[i]?.map (·.2)).getD 0))) w
  bits : ∀ x : κ, Instr.sameBits 10000 (enc x) (enc x) = true

def encPlace (x : Tplace) : Value := vg x.enc
instance : DecidableEq Tplace := fun a b => decidable_of_iff (a.account_Kind = b.account_Kind ∧ a.account_Id = b.account_Id ∧ a.unit = b.unit) Tplace.ext_iff.symm

theorem findAsking_run {κ : Type} [DecidableEq κ] {kt : TypeId} {enc : κ → Value} (heq : ∀ (w : World) (x y : κ), (Op.equal kt (enc x) (enc y)).run Pg w = .ok (decide (x = y)) w) (w : World) (x : κ) : ∀ (m : List (κ × Int)) (k i : Nat),
    (Instr.findAsking kt (enc x) (ents enc k m) i).run Pg w = .ok ((m.findIdx? fun y => decide (x = y.1)).map fun j => (i + j, vi ((m[j]?.map (·.2)).getD 0))) w
  | [], k, i => rfl
  | (y, v) :: m, k, i => by
    simp only [ents, Instr.findAsking, run_bind, heq, List.findIdx?_cons]
    by_cases h : x = y
    · subst h; simp [run_pure]
    · simp only [h, decide_false, Bool.false_eq_true, if_false]
      rw [findAsking_run heq w x m (k + 1) (i + 1)]
      congr 1
      rw [Option.map_map]
      congr 1
      funext j
      simp only [Function.comp, Prod.mk.injEq]
      exact ⟨by omega, by simp⟩
theorem keysPlace : Keys Tplace 103 111 encPlace := {
  under := ⟨3, by kernel_rfl, fun w => by kernel_rfl⟩
  check w b x := by cases x; kernel_rfl
  bits x := by cases x; simp [encPlace, Tplace.enc, Instr.sameBits]; exact beqB _
  find w x m := by
    have heq : ∀ (w : World) (x y : Tplace), (Op.equal 111 (encPlace x) (encPlace y)).run Pg w = .ok (decide (x = y)) w := fun w x y => by
      cases x; cases y
      show (Op.equalIn (9997 + 3) 111 _ _).run Pg w = _
      rw [show encPlace ⟨_, _, _⟩ = .agg (List.toArray [vu _, vi _, vs _]) from rfl, show encPlace ⟨_, _, _⟩ = .agg (List.toArray [vu _, vi _, vs _]) from rfl, eqI111]
      congr 1
      rw [Bool.eq_iff_iff]
      simp only [Bool.and_true, Bool.and_eq_true, beq_iff_eq, strEq_iff, decide_eq_true_eq, Tplace.mk.injEq, and_assoc]
    obtain ⟨fs, hu⟩ : ∃ fs, Pg.underlying 111 = some (.struct fs) := ⟨_, Tryz.underlying111⟩
    unfold Instr.findKey
    simp only [run_bind, run_underlying hu]
    cases m with
    | nil => rfl
    | cons y m =>
      obtain ⟨y, v⟩ := y
      have : Instr.findNow (.struct fs) (encPlace x) (ents encPlace 0 ((y, v) :: m)) 0 = none := rfl
      rw [this]
      have h := findAsking_run heq w x ((y, v) :: m) 0 0
      simp only [Nat.zero_add] at h
      exact h }

theorem findNow_run (w : World) (x : ByteArray) : ∀ (m : List (ByteArray × Int)) (k i : Nat),
    Instr.findNow .string (vs x) (ents vs k m) i = some ((m.findIdx? fun y => decide (x = y.1)).map fun j => (i + j, vi ((m[j]?.map (·.2)).getD 0)))
  | [], k, i => rfl
  | (y, v) :: m, k, i => by
    simp only [ents, Instr.findNow, Instr.sameNow, List.findIdx?_cons]
    by_cases h : x = y
    · subst h
      rw [beqB]
      simp
    · have : (x == y) = false := by
        rw [← Bool.not_eq_true]; intro e
        exact h ((Go.MapKept.bytes_beq x y).1 e)
      rw [this]
      simp only [h, decide_false, Bool.false_eq_true, if_false]
      rw [findNow_run w x m (k + 1) (i + 1), Option.map_map]
      congr 2
      funext j
      simp only [Function.comp, Prod.mk.injEq]
      exact ⟨by omega, by simp⟩
theorem keysStr : Keys ByteArray 56 9 vs := {
  under := ⟨3, by kernel_rfl, fun w => by kernel_rfl⟩
  check w b x := by kernel_rfl
  bits x := by show (x == x) = true; exact beqB x
  find w x m := by
    unfold Instr.findKey
    simp only [run_bind, run_underlying (show Pg.underlying 9 = some .string by kernel_rfl), findNow_run w x m 0 0, Nat.zero_add]
    rfl }

section
variable {κ : Type} [DecidableEq κ] {mt kt : TypeId} {enc : κ → Value} {w : World} {b : Nat} {m : List (κ × Int)}
def getM (m : List (κ × Int)) (x : κ) : Int := match m with
  | [] => 0
  | (y, v) :: m => if x = y then v else getM m x
def putM (m : List (κ × Int)) (x : κ) (v : Int) : List (κ × Int) := match m with
  | [] => [(x, v)]
  | (y, u) :: m => if x = y then (y, v) :: m else (y, u) :: putM m x v
theorem ents_len (k : Nat) : (ents enc k m).length = m.length := by
  induction m generalizing k with
  | nil => rfl
  | cons y m ih => obtain ⟨y, v⟩ := y; simp [ents, ih]
theorem ents_get : ∀ (m : List (κ × Int)) (k j : Nat), (ents enc k m)[j]? = m[j]?.map fun y => ⟨enc y.1, vi y.2, k + j⟩
  | [], k, j => by simp [ents]
  | (y, v) :: m, k, 0 => by simp [ents]
  | (y, v) :: m, k, j + 1 => by simp [ents, ents_get m (k + 1) j, show k + 1 + j = k + (j + 1) by omega]
/-- the place of a key. -/
theorem find_spec (x : κ) : ∀ (m : List (κ × Int)), (m.findIdx? (fun y => decide (x = y.1)) = none ∧ getM m x = 0 ∧ (∀ v, putM m x v = m ++ [(x, v)]) ∧ ∀ y ∈ m, x ≠ y.1) ∨
    ∃ j, m.findIdx? (fun y => decide (x = y.1)) = some j ∧ m[j]? = some (x, getM m x) ∧ ∀ v, putM m x v = m.set j (x, v)
  | [] => .inl ⟨rfl, rfl, fun _ => rfl, fun y h => by cases h⟩
  | (y, u) :: m => by
    by_cases h : x = y
    · subst h
      exact .inr ⟨0, by simp [List.findIdx?_cons], by simp [getM], fun v => by simp [putM]⟩
    · rcases find_spec x m with ⟨h1, h2, h3, h4⟩ | ⟨j, h1, h2, h3⟩
      · refine .inl ⟨by simp [List.findIdx?_cons, h, h1], by simp [getM, h, h2], fun v => by simp [putM, h, h3], fun z hz => ?_⟩
        rcases List.mem_cons.1 hz with rfl | hz
        · exact h
        · exact h4 z hz
      · exact .inr ⟨j + 1, by simp [List.findIdx?_cons, h, h1], by simp [getM, h, h2], fun v => by simp [putM, h, h3]⟩
theorem MapIs.frm {S : Nat → Prop} {w' : World} (h : MapIs enc w b m) (F : Frm S w w') (hn : ¬ S b) : MapIs enc w' b m := ⟨h.1.frm F hn, h.2⟩
theorem MapIs.ext {w' : World} (h : MapIs enc w b m) (E : Ext w w') : MapIs enc w' b m := ⟨h.1.ext E, h.2⟩
theorem MapIs.new {w : World} {b : Nat} (h : At w b (.map #[] 0)) : MapIs enc w b [] := ⟨h, .nil⟩
theorem run_getM (h : MapIs enc w b m) : (getObj b).run Pg w = .ok (.map (ents enc 0 m).toArray m.length) w := by
  have h' : w.heap[b]? = _ := h.1
  simp [getObj, Sem.run, h']
theorem run_setM {o : Obj} (h : MapIs enc w b m) : (setObj b o).run Pg w = .ok () (setB w b o) := by
  have h' : w.heap[b]? = _ := h.1
  simp [setObj, Sem.run, h', setB]

theorem lookup_run (K : Keys κ mt kt enc) (h : MapIs enc w b m) (x : κ) : (Instr.lookup mt (.map (some b)) (enc x) false).run Pg w = .ok (vi (getM m x)) w := by
  obtain ⟨el, hu, hz⟩ := K.under
  unfold Instr.lookup
  simp only [run_bind, run_underlying hu, run_getM h, run_pure, K.check, K.find]
  rcases find_spec x m with ⟨h1, h2, _, _⟩ | ⟨j, h1, h2, _⟩
  · rw [h1, h2]
    simp only [Option.map_none, run_bind, hz, run_pure]
    rfl
  · rw [h1]
    simp only [Option.map_some, run_pure, h2, Option.getD_some]
    rfl

theorem keyStays (K : Keys κ mt kt enc) (x : κ) (w : World) : (Instr.keyThatStays (enc x) (enc x)).run Pg w = .ok (enc x) w := by
  unfold Instr.keyThatStays
  rw [K.bits, if_pos rfl]
  rfl
theorem ents_append (k : Nat) (x : κ) (v : Int) : ∀ (m : List (κ × Int)) (k : Nat), ents enc k (m ++ [(x, v)]) = ents enc k m ++ [⟨enc x, vi v, k + m.length⟩]
  | [], k => by simp [ents]
  | (y, u) :: m, k => by
    simp only [List.cons_append, ents, ents_append k x v m (k + 1), List.length_cons]
    rw [show k + 1 + m.length = k + (m.length + 1) by omega]
theorem ents_set (x : κ) (v : Int) : ∀ (m : List (κ × Int)) (k j : Nat), j < m.length → (ents enc k m).set j ⟨enc x, vi v, k + j⟩ = ents enc k (m.set j (x, v))
  | [], k, j, h => by simp at h
  | (y, u) :: m, k, 0, _ => by simp [ents]
  | (y, u) :: m, k, j + 1, h => by
    simp only [ents, List.set_cons_succ]
    rw [show k + (j + 1) = k + 1 + j by omega, ents_set x v m (k + 1) j (by simpa using h)]
/-- an entry turned. -/
theorem ents_modify {x : κ} {u v : Int} {j : Nat} (hj : m[j]? = some (x, u)) (f : MapEntry → MapEntry) (hf : f ⟨enc x, vi u, j⟩ = ⟨enc x, vi v, j⟩) : (ents enc 0 m).toArray.modify j f = (ents enc 0 (m.set j (x, v))).toArray := by
  apply Array.ext'
  have hlt := (List.getElem?_eq_some_iff.1 hj).1
  rw [Array.toList_modify, ← ents_set x v m 0 j hlt]
  apply List.ext_getElem?
  intro k
  rw [List.getElem?_modify, List.getElem?_set]
  by_cases h : j = k
  · subst h
    simp only [if_true]
    rw [if_pos (by rw [ents_len]; exact hlt), ents_get, hj]
    simp [hf]
  · simp [h]
theorem pw_set {x : κ} {u v : Int} {j : Nat} (hj : m[j]? = some (x, u)) (h : m.Pairwise fun x y => x.1 ≠ y.1) : (m.set j (x, v)).Pairwise fun x y => x.1 ≠ y.1 := by
  have h' : (m.map (·.1)).Nodup := List.pairwise_map.2 h
  have e : (m.set j (x, v)).map (·.1) = m.map (·.1) := by
    rw [List.map_set]
    apply List.ext_getElem?
    intro k
    rw [List.getElem?_set]
    split
    · rename_i e; subst e
      split
      · simp [hj]
      · rename_i h; rw [List.getElem?_eq_none (by omega)]
    · rfl
  rw [← e] at h'
  exact List.pairwise_map.1 h'
theorem pw_app {x : κ} {v : Int} (h : m.Pairwise fun x y => x.1 ≠ y.1) (hx : ∀ y ∈ m, x ≠ y.1) : (m ++ [(x, v)]).Pairwise fun x y => x.1 ≠ y.1 := by
  refine List.pairwise_append.2 ⟨h, by simp, fun y hy z hz => ?_⟩
  simp at hz; subst hz
  exact fun e => hx y hy e.symm

theorem mapUpdate_run (K : Keys κ mt kt enc) (h : MapIs enc w b m) (x : κ) (v : Int) : ∃ w', (Instr.mapUpdate mt (.map (some b)) (enc x) (vi v)).run Pg w = .ok () w' ∧ MapIs enc w' b (putM m x v) ∧ Frm (fun k => k = b) w w' := by
  obtain ⟨el, hu, hz⟩ := K.under
  unfold Instr.mapUpdate
  simp only [run_bind, run_underlying hu, run_getM h, run_pure, K.check, K.find]
  rcases find_spec x m with ⟨h1, _, h3, h4⟩ | ⟨j, h1, h2, h3⟩
  · rw [h1]
    simp only [Option.map_none, run_setM h]
    refine ⟨_, rfl, ?_, frm_setB⟩
    rw [h3]
    refine ⟨?_, pw_app h.2 h4⟩
    have : At (setB w b _) b _ := h.1.set (o' := .map ((ents enc 0 m).toArray.push ⟨enc x, vi v, m.length⟩) (m.length + 1))
    rw [ents_append 0]
    simpa using this
  · have hlt := (List.getElem?_eq_some_iff.1 h2).1
    have hk : ((((ents enc 0 m).toArray[j]?).map (·.key)).getD (enc x)) = enc x := by
      rw [List.getElem?_toArray, ents_get, h2]; rfl
    rw [h1]
    simp only [Option.map_some, run_bind, hk, keyStays K, run_setM h]
    refine ⟨_, rfl, ?_, frm_setB⟩
    rw [h3]
    refine ⟨?_, pw_set h2 h.2⟩
    have : At (setB w b _) b _ := h.1.set (o' := .map ((ents enc 0 m).toArray.modify j fun e => { e with key := enc x, val := vi v }) m.length)
    rw [ents_modify (v := v) h2 _ rfl] at this
    rw [List.length_set]
    rw [ents_modify (v := v) h2 _ rfl]
    exact this

theorem mapEntry_run (K : Keys κ mt kt enc) (h : MapIs enc w b m) (x : κ) : ∃ (j : Nat) (w' : World), (Instr.mapEntry mt (.map (some b)) (enc x)).run Pg w = .ok (.tuple #[vi (getM m x), vi j]) w' ∧ MapIs enc w' b (putM m x (getM m x)) ∧ Frm (fun k => k = b) w w' ∧
    (putM m x (getM m x))[j]? = some (x, getM m x) ∧ ∀ v, (putM m x (getM m x)).set j (x, v) = putM m x v := by
  obtain ⟨el, hu, hz⟩ := K.under
  unfold Instr.mapEntry
  simp only [run_bind, run_underlying hu, run_getM h, run_pure, K.check, K.find]
  rcases find_spec x m with ⟨h1, h2, h3, h4⟩ | ⟨j, h1, h2, h3⟩
  · rw [h1]
    simp only [Option.map_none, run_bind, hz, run_setM h]
    refine ⟨m.length, _, by rw [h2]; rfl, ?_, frm_setB, ?_, ?_⟩
    · rw [h3, h2]
      refine ⟨?_, pw_app h.2 h4⟩
      have : At (setB w b _) b _ := h.1.set (o' := .map ((ents enc 0 m).toArray.push ⟨enc x, vi 0, m.length⟩) (m.length + 1))
      rw [ents_append 0]
      simpa using this
    · rw [h3, h2]; simp
    · intro v; rw [h3, h3, h2]; simp
  · have hlt := (List.getElem?_eq_some_iff.1 h2).1
    have hk : ((((ents enc 0 m).toArray[j]?).map (·.key)).getD (enc x)) = enc x := by
      rw [List.getElem?_toArray, ents_get, h2]; rfl
    have hb : ((((ents enc 0 m).toArray[j]?).map (fun e => (e.born : Int))).getD 0) = j := by
      rw [List.getElem?_toArray, ents_get, h2]; simp
    have hv : (m[j]?.map (·.2)).getD 0 = getM m x := by rw [h2]; rfl
    rw [h1]
    simp only [Option.map_some, run_bind, hk, keyStays K, run_setM h, hb, hv]
    have hself : m.set j (x, getM m x) = m := by
      apply List.ext_getElem?
      intro k
      by_cases e : j = k
      · subst e; rw [List.getElem?_set_self hlt, h2]
      · rw [List.getElem?_set_ne e]
    refine ⟨j, _, rfl, ?_, frm_setB, ?_, ?_⟩
    · rw [h3, hself]
      refine ⟨?_, h.2⟩
      have : At (setB w b _) b _ := h.1.set (o' := .map ((ents enc 0 m).toArray.modify j fun e => { e with key := enc x }) m.length)
      rw [ents_modify (v := getM m x) h2 _ rfl, hself] at this
      rw [ents_modify (v := getM m x) h2 _ rfl, hself]
      exact this
    · rw [h3, hself]; exact h2
    · intro v; rw [h3, h3, hself]
theorem entryStore_run (h : MapIs enc w b m) {j : Nat} {x : κ} {u v : Int} (hj : m[j]? = some (x, u)) : ∃ w', (Instr.entryStore mt (.map (some b)) (vi j) (vi v)).run Pg w = .ok () w' ∧ MapIs enc w' b (m.set j (x, v)) ∧ Frm (fun k => k = b) w w' := by
  have hlt := (List.getElem?_eq_some_iff.1 hj).1
  have hfi : (ents enc 0 m).toArray.findIdx? (fun e => (e.born : Int) == (j : Int)) = some j := by
    rw [List.findIdx?_toArray, List.findIdx?_eq_some_iff_getElem]
    have hg : ∀ i (hi : i < (ents enc 0 m).length), ((ents enc 0 m)[i]).born = i := fun i hi => by
      have := ents_get (enc := enc) m 0 i
      rw [List.getElem?_eq_getElem hi, List.getElem?_eq_getElem (by rw [ents_len] at hi; exact hi)] at this
      simp at this
      rw [this]
    refine ⟨by rw [ents_len]; exact hlt, by rw [hg]; simp, fun i hi => ?_⟩
    rw [hg]; simp; omega
  unfold Instr.entryStore
  simp only [run_bind, run_getM h, run_pure, asInt, asIntOf, hfi, run_setM h]
  refine ⟨_, rfl, ⟨?_, pw_set hj h.2⟩, frm_setB⟩
  have : At (setB w b _) b _ := h.1.set (o' := .map ((ents enc 0 m).toArray.modify j fun e => { e with val := vi v }) m.length)
  rw [ents_modify (v := v) hj _ rfl] at this
  rw [List.length_set, ents_modify (v := v) hj _ rfl]
  exact this

/-! ### ranging -/
structure IterIs (w : World) (it b n : Nat) (seen : List Nat) : Prop where
  blk : At w it (.mapIter (some b) n seen.toArray n)
  nodup : seen.Nodup
  lt : ∀ j ∈ seen, j < n
theorem IterIs.frm {S : Nat → Prop} {w' : World} {it n : Nat} {seen : List Nat} (h : IterIs w it b n seen) (F : Frm S w w') (hn : ¬ S it) : IterIs w' it b n seen := ⟨h.blk.frm F hn, h.nodup, h.lt⟩
theorem range_run (K : Keys κ mt kt enc) (h : MapIs enc w b m) : ∃ w', (Instr.range mt (.map (some b))).run Pg w = .ok (.pointer (some ⟨w.heap.size, 0, none⟩)) w' ∧ IterIs w' w.heap.size b m.length [] ∧ Ext w w' := by
  obtain ⟨el, hu, hz⟩ := K.under
  unfold Instr.range
  simp only [run_bind, run_underlying hu, run_getM h, run_pure]
  refine ⟨w.alloc (.mapIter (some b) m.length #[] m.length), ?_, ⟨At.new, .nil, fun j hj => (by cases hj)⟩, frm_alloc _⟩
  rfl
theorem choose_run (n : Nat) (w : World) (hn : 0 < n) : ∃ i w', (choose (.mapNext n)).run Pg w = .ok i w' ∧ i < n ∧ Ext w w' := by
  unfold choose
  simp only [Sem.run]
  split
  · exact ⟨0, w, rfl, hn, er w⟩
  · exact ⟨_, w.drew, rfl, Nat.mod_lt _ hn, frm_drew⟩
theorem next_run (h : MapIs enc w b m) {it : Nat} {seen : List Nat} (hi : IterIs w it b m.length seen) {ty : TypeId} :
    (∃ (j : Nat) (y : κ × Int) (w' : World), j ∉ seen ∧ m[j]? = some y ∧ (Instr.next (.pointer (some ⟨it, 0, none⟩)) false ty).run Pg w = .ok (.tuple #[.bool true, enc y.1, vi y.2]) w' ∧ IterIs w' it b m.length (seen ++ [j]) ∧ Frm (fun k => k = it) w w') ∨
    ((∀ j, j < m.length → j ∈ seen) ∧ ∃ w', (Instr.next (.pointer (some ⟨it, 0, none⟩)) false ty).run Pg w = .ok (.tuple #[.bool false]) w' ∧ Ext w w') := by
  have hit : (getObj it).run Pg w = .ok (.mapIter (some b) m.length seen.toArray m.length) w := by
    have h' : w.heap[it]? = _ := hi.blk
    simp [getObj, Sem.run, h']
  have hmem : ∀ e ∈ ents enc 0 m, ∃ j y, m[j]? = some y ∧ e = ⟨enc y.1, vi y.2, j⟩ := by
    intro e he
    obtain ⟨j, hj⟩ := List.getElem?_of_mem he
    rw [ents_get] at hj
    obtain ⟨y, hy, e'⟩ := Option.map_eq_some_iff.1 hj
    exact ⟨j, y, hy, by rw [← e', Nat.zero_add]⟩
  have hborn : ∀ e ∈ ents enc 0 m, e.born < m.length := by
    intro e he
    obtain ⟨j, y, hy, rfl⟩ := hmem e he
    exact (List.getElem?_eq_some_iff.1 hy).1
  have hguard : (!seen.toArray.isEmpty && !(ents enc 0 m).toArray.isEmpty && (ents enc 0 m).toArray.all (fun e => decide (e.born ≥ m.length))) = false := by
    rw [Bool.and_eq_false_iff]
    cases hm : ents enc 0 m with
    | nil => left; simp
    | cons e es =>
      right
      have := hborn e (by rw [hm]; exact List.mem_cons_self)
      simp [this]
      intro h; omega
  have hold : ((ents enc 0 m).toArray.filter fun e => !seen.toArray.contains e.born).filter (fun e => decide (e.born < m.length)) = ((ents enc 0 m).filter fun e => !seen.contains e.born).toArray := by
    simp only [List.filter_toArray, List.contains_toArray]
    congr 1
    exact List.filter_eq_self.2 fun e he => by simpa using hborn e (List.mem_filter.1 he).1
  have hnew : ((ents enc 0 m).toArray.filter fun e => !seen.toArray.contains e.born).filter (fun e => decide (e.born ≥ m.length)) = #[] := by
    simp only [List.filter_toArray]
    rw [List.filter_eq_nil_iff.2]
    intro e he
    have := hborn e (List.mem_filter.1 he).1
    simp; omega
  generalize hL : ((ents enc 0 m).filter fun e => !seen.contains e.born) = L at hold
  unfold Instr.next
  simp only [run_bind, hit, run_getM h, hguard, Bool.false_eq_true, if_false, run_pure, hold, hnew]
  cases L with
  | nil =>
    refine .inr ⟨fun j hj => ?_, ?_⟩
    · apply Classical.byContradiction
      intro hn
      have : (ents enc 0 m)[j]? = _ := ents_get m 0 j
      rw [List.getElem?_eq_getElem hj] at this
      have hmm := List.mem_of_getElem? this
      have := List.filter_eq_nil_iff.1 hL _ hmm
      simp [hn] at this
    · obtain ⟨i, w', hr, hlt, E⟩ := choose_run 1 w (by omega)
      obtain rfl : i = 0 := by omega
      refine ⟨w', ?_, E⟩
      have hsz : ((if (List.toArray ([] : List MapEntry)).isEmpty then #[none] else #[]) ++ ((List.toArray ([] : List MapEntry)) ++ #[]).map (some : MapEntry → Option MapEntry)).size = 1 := by simp
      have hc : ((if (List.toArray ([] : List MapEntry)).isEmpty then #[none] else #[]) ++ ((List.toArray ([] : List MapEntry)) ++ #[]).map (some : MapEntry → Option MapEntry))[0]? = some none := by simp
      rw [hsz, hr]
      simp only [hc, run_pure]
  | cons e L =>
    left
    obtain ⟨i, w', hr, hlt, E⟩ := choose_run (L.length + 1) w (by omega)
    have hget : ∃ e', (e :: L)[i]? = some e' := ⟨_, List.getElem?_eq_getElem (by simpa using hlt)⟩
    obtain ⟨e', he'⟩ := hget
    have hmem' : e' ∈ (ents enc 0 m).filter fun e => !seen.contains e.born := by rw [hL]; exact List.mem_of_getElem? he'
    obtain ⟨h1, h2⟩ := List.mem_filter.1 hmem'
    obtain ⟨j, y, hy, rfl⟩ := hmem e' h1
    have hj : j ∉ seen := by simpa using h2
    have hat := hi.blk.ext E
    refine ⟨j, y, setB w' it (.mapIter (some b) m.length (seen ++ [j]).toArray m.length), hj, hy, ?_, ⟨hat.set, List.nodup_append.2 ⟨hi.nodup, by simp, ?_⟩, ?_⟩, Frm.trans (Ext.frm E) frm_setB fun k _ h => h⟩
    · have hset : ∀ o, (setObj it o).run Pg w' = .ok () (setB w' it o) := fun o => by
        have h' : w'.heap[it]? = _ := hat
        simp [setObj, Sem.run, h', setB]
      have hc : ((if (List.toArray (e :: L)).isEmpty then #[none] else #[]) ++ ((List.toArray (e :: L)) ++ #[]).map some)[i]? = some (some (⟨enc y.1, vi y.2, j⟩ : MapEntry)) := by
        have : (List.toArray (e :: L)).isEmpty = false := by simp
        rw [this]
        simp only [Bool.false_eq_true, if_false, Array.append_empty, Array.empty_append, Array.getElem?_map, List.getElem?_toArray, he', Option.map_some]
      have hsz : ((if (List.toArray (e :: L)).isEmpty then #[none] else #[]) ++ ((List.toArray (e :: L)) ++ #[]).map (some : MapEntry → Option MapEntry)).size = L.length + 1 := by simp
      rw [hsz, hr]
      simp only [hc, run_bind, hset, run_pure, List.push_toArray]
    · intro a ha c hc
      simp at hc; subst hc
      exact fun e => hj (e ▸ ha)
    · intro k hk
      rcases List.mem_append.1 hk with hk | hk
      · exact hi.lt k hk
      · simp at hk; subst hk; exact (List.getElem?_eq_some_iff.1 hy).1
theorem entry_run (h : MapIs enc w b m) {it j : Nat} {seen : List Nat} (hi : IterIs w it b m.length (seen ++ [j])) {y : κ × Int} (hy : m[j]? = some y) : (Instr.entry (.pointer (some ⟨it, 0, none⟩))).run Pg w = .ok (.tuple #[enc y.1, vi y.2]) w := by
  have hit : (getObj it).run Pg w = .ok (.mapIter (some b) m.length (seen ++ [j]).toArray m.length) w := by
    have h' : w.heap[it]? = _ := hi.blk
    simp [getObj, Sem.run, h']
  have hlt := (List.getElem?_eq_some_iff.1 hy).1
  have hf : (ents enc 0 m).toArray.find? (fun e => e.born == j) = some ⟨enc y.1, vi y.2, j⟩ := by
    rw [List.find?_toArray, List.find?_eq_some_iff_getElem]
    have hg : ∀ i (hi : i < (ents enc 0 m).length), ∃ z, m[i]? = some z ∧ (ents enc 0 m)[i] = ⟨enc z.1, vi z.2, i⟩ := fun i hi => by
      have hi' : i < m.length := by rw [ents_len] at hi; exact hi
      have := ents_get (enc := enc) m 0 i
      rw [List.getElem?_eq_getElem hi, List.getElem?_eq_getElem hi'] at this
      simp at this
      exact ⟨_, List.getElem?_eq_getElem hi', this⟩
    refine ⟨by simp, j, by rw [ents_len]; exact hlt, ?_, fun i hi => ?_⟩
    · obtain ⟨z, hz, e⟩ := hg j (by rw [ents_len]; exact hlt)
      rw [e]; rw [hy] at hz; cases hz; rfl
    · obtain ⟨z, hz, e⟩ := hg i (by rw [ents_len]; omega)
      simp [e]
      try omega
  unfold Instr.entry
  simp only [run_bind, hit, run_getM h, run_pure]
  have hb : (seen ++ [j]).toArray.back? = some j := by simp
  rw [hb]
  simp only [run_bind, run_getM h, bne_self_eq_false, Bool.false_eq_true, if_false, hf, run_pure]
end
end Go.Proofs.YtcbijkakoepglaaGreat
namespace Go.Proofs.YtcbijkakoepglaaGreat
open Go Go.Wx
set_option maxRecDepth 100000
def drawers_lines.l1 (Q : Option Addr → Nat → Nat → World → Prop) (it1 : Nat) : Nat → Option Addr → Nat → Nat → World → Prop
       | 0, _, _, _, _ => False
       | nl1 + 1, v1_a, v1_n, v1_c, w2 => (
       (∃ (x1 : Value), ∃ (x2 : Value), ∃ w3, (Instr.next (.pointer (some ⟨it1, 0, none⟩)) false 0).run Pg w2 = .ok (.tuple #[vb true, x1, x2]) w3 ∧ ∃ (x3 : Tplace), ∃ (x4 : Int), (Instr.entry (.pointer (some ⟨it1, 0, none⟩))).run Pg w3 = .ok (.tuple #[vg (Tplace.enc x3), vi x4]) w3 ∧
      Al w3 (.cells #[vu 0, vi 0, vs (ByteArray.mk #[])] 111) fun b1 w4 =>
      Sb w4 b1 (.cells #[vu x3.account_Kind, vi x3.account_Id, vs x3.unit] 111 (0, 0)) fun w5 =>
      Ifb (x4 != (0 : Int))
      (Al w5 (.cells #[vu x3.account_Kind, vi x3.account_Id, vs x3.unit, vi x4] 49) fun b2 w6 =>
      Ap Pg w6 #[24, 24] 24 (vl v1_a v1_n v1_c) (vl (some ⟨b2, 0, none⟩) 1 1) fun a1_a a1_n a1_c w7 =>
      (drawers_lines.l1 Q it1 nl1) a1_a a1_n a1_c w7)
      ((drawers_lines.l1 Q it1 nl1) v1_a v1_n v1_c w5)) ∨
      (∃ w8, (Instr.next (.pointer (some ⟨it1, 0, none⟩)) false 0).run Pg w2 = .ok (.tuple #[.bool false]) w8 ∧ Cl Pg 126 #[vl v1_a v1_n v1_c, .func (.func 127) #[] #[]] w8 (fun v w9 => v = .tuple #[] ∧ Q v1_a v1_n v1_c w9)))
def drawers_lines.R (Q : Option Addr → Nat → Nat → World → Prop) (all : Option Nat) (w : World) : Prop := (
  ∃ (it1 : Nat), ∃ w1, (Instr.range 103 (.map all)).run Pg w = .ok (.pointer (some ⟨it1, 0, none⟩)) w1 ∧
      ∃ k, drawers_lines.l1 Q it1 k none 0 0 w1)
theorem drawers_lines.ok {Q : Option Addr → Nat → Nat → World → Prop} {all : Option Nat} {w : World} (h : drawers_lines.R Q all w) : Cl Pg 70 #[.map all] w (fun v w' => ∃ (r0a : Option Addr), ∃ (r0n : Nat), ∃ (r0c : Nat), v = vl r0a r0n r0c ∧ Q r0a r0n r0c w') := by
 refine calls_args (args := [.map all]) Tryz.func70 ?_
 unfold drawers_lines.R at h
 refine W_regseq ?_
 refine ps 1 [(2, vl none 0 0)] ?_
 refine WO_nil ?_
 refine W_regseq ?_
 refine ps 1 [(3, vl none 0 0)] ?_
 refine WO_nil ?_
 refine W_seq ?_
 refine W_regseq ?_
 refine ps 1 [(6, .map all)] ?_
 obtain ⟨it1, w1, hrun, h⟩ := h
 refine WO_val rfl rfl (ex_range rfl rfl hrun) ?_
 clear hrun
 refine WO_nil ?_
 refine W_block ?_
 obtain ⟨nl1, h⟩ := h
 refine W_loopI (fun k e w2 => ∃ (e0 : Env) (v1_a : Option Addr) (v1_n : Nat) (v1_c : Nat), e = upds e0 [(3, vl v1_a v1_n v1_c), (7, vp ⟨it1, 0, none⟩)] ∧ drawers_lines.l1 Q it1 k v1_a v1_n v1_c w2) nl1 ?_ ?_ ?_
 ·rintro _ _ ⟨_, _, _, _, _, h⟩
  exact h
 ·exact ⟨_, none, 0, 0, Agree.eq ⟨rfl, rfl, trivial⟩, h⟩
 ·clear h nl1
  rintro nl1 _ w2 ⟨e0, v1_a, v1_n, v1_c, rfl, h⟩
  unfold drawers_lines.l1 at h
  refine W_regseq ?_
  rcases h with ⟨x1, x2, w3, hrun, h⟩ | ⟨w8, hrun, h⟩
  · refine WO_val rfl rfl (ex_next rfl rfl hrun) ?_
    clear hrun
    refine ps 1 [(9, vb true)] ?_
    refine WO_nil ?_
    refine W_seq ?_
    refine W_cond (t := true) rfl ?_
    refine W_skip ?_
    refine W_block ?_
    refine W_regseq ?_
    obtain ⟨x3, x4, hen, h⟩ := h
    refine WO_val rfl rfl (ex_entry rfl rfl hen) ?_
    clear hen
    refine ps 2 [(11, vg (Tplace.enc x3)), (12, vi x4)] ?_
    refine alp h ?_
    intro b1 w4 eb ew hb_b1 h
    clear eb ew
    refine sb tk111 hb_b1 h ?_
    intro w5 ew hb_ h
    replace hb_b1 := hb_
    clear ew
    refine ps 1 [(5, vi x4)] ?_
    refine WO_nil ?_
    refine W_regseq ?_
    refine ps 2 [(13, vi x4), (14, vb (x4 != (0 : Int)))] ?_
    refine WO_nil ?_
    refine ci h (fun h => ?_) fun h => ?_
    ·refine W_reg ?_
     refine ps 2 [(15, vl v1_a v1_n v1_c), (16, vp ⟨b1, 0, none⟩)] ?_
     refine lbn [vu x3.account_Kind, vi x3.account_Id] tk40 hb_b1 ?_
     refine ps 1 [(18, vp ⟨b1, 2, none⟩)] ?_
     refine lb1 tk9 hb_b1 ?_
     refine ps 2 [(20, vi x4), (21, vg [vu x3.account_Kind, vi x3.account_Id, vs x3.unit, vi x4])] ?_
     refine als 1 h ?_
     intro b2 w6 eb ew hb_b2 h
     clear eb ew hb_b2
     refine ap h ?_
     rintro a1_a a1_n a1_c w7 h
     refine ps 1 [(3, vl a1_a a1_n a1_c)] ?_
     refine WO_nil ?_
     refine blockK_normal ?_
     exact ⟨_, a1_a, a1_n, a1_c, Agree.eq ⟨rfl, rfl, trivial⟩, h⟩
    ·refine W_skip ?_
     refine blockK_normal ?_
     exact ⟨_, v1_a, v1_n, v1_c, Agree.eq ⟨rfl, rfl, trivial⟩, h⟩
  · refine WO_val rfl rfl (ex_next rfl rfl hrun) ?_
    clear hrun
    refine ps 1 [(9, vb false)] ?_
    refine WO_nil ?_
    refine W_seq ?_
    refine W_cond (t := false) rfl ?_
    refine W_exit ?_
    refine blockK_hit ?_
    refine W_regseq ?_
    refine ps 1 [(24, vl v1_a v1_n v1_c)] ?_
    refine cl h ?_
    rintro _ w9 ⟨rfl, h⟩
    refine WO_nil ?_
    refine W_regseq ?_
    refine ps 2 [(26, vl v1_a v1_n v1_c), (2, vl v1_a v1_n v1_c)] ?_
    refine WO_nil ?_
    refine W_ret ?_
    exact ret1 (v := vl v1_a v1_n v1_c) (t := 2) rfl rfl ⟨_, _, _, rfl, h⟩
def drawers_balances.l1 (Q : Option Nat → World → Prop) (l_a : Option Addr) (l_n : Nat) (day : Int) (b1 : Nat) : Nat → Int → World → Prop
       | 0, _, _ => False
       | nl1 + 1, v1, w2 => (
       Ifb (decide (v1 < ((l_n : Nat) : Int)))
      (Ix l_a l_n v1 fun p1 =>
      LdT TPosting.enc w2 (Addr.add p1 (v1.toNat * 9)) fun x1 =>
      Al w2 (.cells #[vi 0, vs (ByteArray.mk #[]), vi 0, vu 0, vi 0, vu 0, vi 0, vu 0, vi 0] 42) fun b2 w3 =>
      Sb w3 b2 (.cells #[vi x1.Day, vs x1.Unit, vi x1.N, vu x1.From_Kind, vi x1.From_Id, vu x1.To_Kind, vi x1.To_Id, vu x1.Why, vi x1.Lot] 42 (0, 0)) fun w4 =>
      Ifb (decide (x1.Day ≤ day))
      (Dr w4 fun w5 =>
      ∃ (x2 : Int), (Instr.lookup 103 (.map (some b1)) (vg [vu x1.From_Kind, vi x1.From_Id, vs x1.Unit]) false).run Pg w5 = .ok (vi x2) w5 ∧
      ∃ (x3 : Int), ∃ (x4 : Int), ∃ w6, (Instr.mapEntry 103 (.map (some b1)) (vg [vu x1.From_Kind, vi x1.From_Id, vs x1.Unit])).run Pg w5 = .ok (.tuple #[vi x3, vi x4]) w6 ∧
      Kp b2 w5 w6 ∧ (Instr.lookup 103 (.map (some b1)) (vg [vu x1.From_Kind, vi x1.From_Id, vs x1.Unit]) false).run Pg w6 = .ok (vi x2) w6 ∧ ∃ w7, (Instr.entryStore 103 (.map (some b1)) (vi x4) (vi (IntKind.wrap .i64 (x2 - x1.N)))).run Pg w6 = .ok () w7 ∧
      Kp b2 w6 w7 ∧ Dr w7 fun w8 =>
      ∃ (x5 : Int), (Instr.lookup 103 (.map (some b1)) (vg [vu x1.To_Kind, vi x1.To_Id, vs x1.Unit]) false).run Pg w8 = .ok (vi x5) w8 ∧
      ∃ (x6 : Int), ∃ (x7 : Int), ∃ w9, (Instr.mapEntry 103 (.map (some b1)) (vg [vu x1.To_Kind, vi x1.To_Id, vs x1.Unit])).run Pg w8 = .ok (.tuple #[vi x6, vi x7]) w9 ∧
      (Instr.lookup 103 (.map (some b1)) (vg [vu x1.To_Kind, vi x1.To_Id, vs x1.Unit]) false).run Pg w9 = .ok (vi x5) w9 ∧ ∃ w10, (Instr.entryStore 103 (.map (some b1)) (vi x7) (vi (IntKind.wrap .i64 (x5 + x1.N)))).run Pg w9 = .ok () w10 ∧
      (drawers_balances.l1 Q l_a l_n day b1 nl1) (IntKind.wrap .i64 (v1 + (1 : Int))) w10)
      ((drawers_balances.l1 Q l_a l_n day b1 nl1) (IntKind.wrap .i64 (v1 + (1 : Int))) w4))
      (Q (some b1) w2))
def drawers_balances.R (Q : Option Nat → World → Prop) (l_a : Option Addr) (l_n : Nat) (l_c : Nat) (day : Int) (w : World) : Prop := (
  Al w (.map #[] 0) fun b1 w1 =>
      ∃ k, drawers_balances.l1 Q l_a l_n day b1 k 0 w1)
theorem drawers_balances.ok {Q : Option Nat → World → Prop} {l_a : Option Addr} {l_n : Nat} {l_c : Nat} {day : Int} {w : World} (h : drawers_balances.R Q l_a l_n l_c day w) : Cl Pg 84 #[vl l_a l_n l_c, vi day] w (fun v w' => ∃ (r0 : Option Nat), v = .map r0 ∧ Q r0 w') := by
 refine calls_args (args := [vl l_a l_n l_c, vi day]) Tryz.func84 ?_
 unfold drawers_balances.R at h
 refine W_regseq ?_
 refine ps 1 [(4, .map none)] ?_
 refine WO_nil ?_
 refine W_regseq ?_
 refine alm h ?_
 intro b1 w1 eb ew hb_b1 h
 clear eb ew hb_b1
 refine ps 1 [(5, .map (some b1))] ?_
 refine WO_nil ?_
 refine W_seq ?_
 refine W_regseq ?_
 refine ps 3 [(9, vl l_a l_n l_c), (10, vi (l_n : Nat)), (11, vi 0)] ?_
 refine WO_nil ?_
 refine W_block ?_
 obtain ⟨nl1, h⟩ := h
 refine W_loopI (fun k e w2 => ∃ (e0 : Env) (v1 : Int), e = upds e0 [(1, vi day), (5, .map (some b1)), (9, vl l_a l_n l_c), (10, vi (l_n : Nat)), (11, vi v1)] ∧ drawers_balances.l1 Q l_a l_n day b1 k v1 w2) nl1 ?_ ?_ ?_
 ·rintro _ _ ⟨_, _, _, h⟩
  exact h
 ·exact ⟨_, 0, Agree.eq ⟨rfl, rfl, rfl, rfl, rfl, trivial⟩, h⟩
 ·clear h nl1
  rintro nl1 _ w2 ⟨e0, v1, rfl, h⟩
  unfold drawers_balances.l1 at h
  refine W_regseq ?_
  refine ps 1 [(12, vb (decide (v1 < ((l_n : Nat) : Int))))] ?_
  refine WO_nil ?_
  refine W_seq ?_
  refine ci h (fun h => ?_) fun h => ?_
  ·refine W_skip ?_
   refine W_seq ?_
   refine W_block ?_
   refine W_regseq ?_
   refine ix slk22 h fun p1 h => ?_
   obtain ⟨x1, hx1, h⟩ := h
   refine ldn tk42 hx1 ?_
   refine alp h ?_
   intro b2 w3 eb ew hb_b2 h
   clear eb ew
   refine sb tk42 hb_b2 h ?_
   intro w4 ew hb_ h
   replace hb_b2 := hb_
   clear ew
   refine WO_nil ?_
   refine W_regseq ?_
   refine ps 1 [(15, vp ⟨b2, 0, none⟩)] ?_
   refine lb1 tk3 hb_b2 ?_
   refine ps 2 [(17, vi day), (18, vb (decide (x1.Day ≤ day)))] ?_
   refine WO_nil ?_
   refine ci h (fun h => ?_) fun h => ?_
   ·refine drs folM [[], [], [], [], [], [2, 4], [2, 4], [], [], [2, 4, 6, 8], [2, 4, 8], [2, 4, 8], [2, 4, 6, 8]] [.p 0, .p 1, .l 2, .p 3, .l 4, .p 5, .l 6, .p 7, .l 8, .p 9, .e 10, .p 11, .e 12] h ?_
    intro w5 ew h
    replace hb_b2 := dr_keep ew hb_b2
    clear ew
    refine psC 2 [(19, .map (some b1)), (20, vp ⟨b2, 3, none⟩)] ?_
    refine lbnC [vu x1.From_Kind, vi x1.From_Id] tk40 hb_b2 ?_
    refine psC 1 [(22, vp ⟨b2, 1, none⟩)] ?_
    refine lb1C tk9 hb_b2 ?_
    refine psC 1 [(24, vg [vu x1.From_Kind, vi x1.From_Id, vs x1.Unit])] ?_
    obtain ⟨x2, hlk1, h⟩ := h
    refine WC_l rfl rfl rfl (ex_lookup rfl rfl rfl hlk1) ?_
    refine psC 1 [(26, vp ⟨b2, 2, none⟩)] ?_
    refine lb1C tk3 hb_b2 ?_
    refine psC 1 [(28, vi (IntKind.wrap .i64 (x2 - x1.N)))] ?_
    obtain ⟨x3, x4, w6, hrun, hk0, hk1, h⟩ := h
    refine WC_ev rfl rfl rfl (ex_mapEntry rfl rfl rfl hrun) ?_
    replace hb_b2 := kp_at hk0 hb_b2
    replace hlk1 := hk1
    clear hrun
    refine ⟨AllOk.cons (Pend_ok (ex_lookup rfl rfl rfl hlk1)) <| AllOk.nil, ?_⟩
    refine psC 1 [(30, vi x4)] ?_
    obtain ⟨w7, hrun, hk0, h⟩ := h
    refine WC_eu rfl rfl rfl (ex_entryStore rfl rfl rfl rfl hrun) ?_
    replace hb_b2 := kp_at hk0 hb_b2
    clear hrun
    refine ⟨AllOk.nil, ?_⟩
    refine WC_nil ?_
    refine drw folM [[], [], [], [], [], [2, 4], [2, 4], [], [], [2, 4, 6, 8], [2, 4, 8], [2, 4, 8], [2, 4, 6, 8]] [.p 0, .p 1, .l 2, .p 3, .l 4, .p 5, .l 6, .p 7, .l 8, .p 9, .e 10, .p 11, .e 12] h ?_
    intro w8 ew h
    replace hb_b2 := dr_keep ew hb_b2
    clear ew
    refine psC 2 [(31, .map (some b1)), (32, vp ⟨b2, 5, none⟩)] ?_
    refine lbnC [vu x1.To_Kind, vi x1.To_Id] tk40 hb_b2 ?_
    refine psC 1 [(34, vp ⟨b2, 1, none⟩)] ?_
    refine lb1C tk9 hb_b2 ?_
    refine psC 1 [(36, vg [vu x1.To_Kind, vi x1.To_Id, vs x1.Unit])] ?_
    obtain ⟨x5, hlk2, h⟩ := h
    refine WC_l rfl rfl rfl (ex_lookup rfl rfl rfl hlk2) ?_
    refine psC 1 [(38, vp ⟨b2, 2, none⟩)] ?_
    refine lb1C tk3 hb_b2 ?_
    refine psC 1 [(40, vi (IntKind.wrap .i64 (x5 + x1.N)))] ?_
    obtain ⟨x6, x7, w9, hrun, hk0, h⟩ := h
    refine WC_ev rfl rfl rfl (ex_mapEntry rfl rfl rfl hrun) ?_
    replace hlk2 := hk0
    clear hrun
    refine ⟨AllOk.cons (Pend_ok (ex_lookup rfl rfl rfl hlk2)) <| AllOk.nil, ?_⟩
    refine psC 1 [(42, vi x7)] ?_
    obtain ⟨w10, hrun, h⟩ := h
    refine WC_eu rfl rfl rfl (ex_entryStore rfl rfl rfl rfl hrun) ?_
    clear hrun
    refine ⟨AllOk.nil, ?_⟩
    refine WC_nil ?_
    refine blockK_normal ?_
    refine W_reg ?_
    refine ps 2 [(43, vi (IntKind.wrap .i64 (v1 + (1 : Int)))), (11, vi (IntKind.wrap .i64 (v1 + (1 : Int))))] ?_
    refine WO_nil ?_
    exact ⟨_, IntKind.wrap .i64 (v1 + (1 : Int)), Agree.eq ⟨rfl, rfl, rfl, rfl, rfl, trivial⟩, h⟩
   ·refine W_skip ?_
    refine blockK_normal ?_
    refine W_reg ?_
    refine ps 2 [(43, vi (IntKind.wrap .i64 (v1 + (1 : Int)))), (11, vi (IntKind.wrap .i64 (v1 + (1 : Int))))] ?_
    refine WO_nil ?_
    exact ⟨_, IntKind.wrap .i64 (v1 + (1 : Int)), Agree.eq ⟨rfl, rfl, rfl, rfl, rfl, trivial⟩, h⟩
  ·refine W_exit ?_
   refine blockK_hit ?_
   refine W_regseq ?_
   refine ps 2 [(44, .map (some b1)), (4, .map (some b1))] ?_
   refine WO_nil ?_
   refine W_ret ?_
   exact ret1 (v := .map (some b1)) (t := 4) rfl rfl ⟨_, rfl, h⟩
def drawers_sums.l2 (Q : Option Addr → Nat → Nat → World → Prop) (it1 : Nat) : Nat → Option Addr → Nat → Nat → World → Prop
       | 0, _, _, _, _ => False
       | nl2 + 1, v2_a, v2_n, v2_c, w7 => (
       (∃ (x3 : Value), ∃ (x4 : Value), ∃ w8, (Instr.next (.pointer (some ⟨it1, 0, none⟩)) false 0).run Pg w7 = .ok (.tuple #[vb true, x3, x4]) w8 ∧ ∃ (x5 : ByteArray), ∃ (x6 : Int), (Instr.entry (.pointer (some ⟨it1, 0, none⟩))).run Pg w8 = .ok (.tuple #[vs x5, vi x6]) w8 ∧
      Ifb (x6 != (0 : Int))
      (Al w8 (.cells #[vs x5, vi x6] 58) fun b3 w9 =>
      Ap Pg w9 #[53, 53] 53 (vl v2_a v2_n v2_c) (vl (some ⟨b3, 0, none⟩) 1 1) fun a1_a a1_n a1_c w10 =>
      (drawers_sums.l2 Q it1 nl2) a1_a a1_n a1_c w10)
      ((drawers_sums.l2 Q it1 nl2) v2_a v2_n v2_c w8)) ∨
      (∃ w11, (Instr.next (.pointer (some ⟨it1, 0, none⟩)) false 0).run Pg w7 = .ok (.tuple #[.bool false]) w11 ∧ Cl Pg 145 #[vl v2_a v2_n v2_c, .func (.func 146) #[] #[]] w11 (fun v w12 => v = .tuple #[] ∧ Q v2_a v2_n v2_c w12)))
def drawers_sums.l1 (Q : Option Addr → Nat → Nat → World → Prop) (l_a : Option Addr) (l_n : Nat) (b1 : Nat) : Nat → Int → World → Prop
       | 0, _, _ => False
       | nl1 + 1, v1, w2 => (
       Ifb (decide (v1 < ((l_n : Nat) : Int)))
      (Ix l_a l_n v1 fun p1 =>
      LdT TAmount.enc w2 (Addr.add p1 (v1.toNat * 2)) fun x1 =>
      Al w2 (.cells #[vs (ByteArray.mk #[]), vi 0] 58) fun b2 w3 =>
      Sb w3 b2 (.cells #[vs x1.Unit, vi x1.N] 58 (0, 0)) fun w4 =>
      ∃ (x2 : Int), (Instr.lookup 56 (.map (some b1)) (vs x1.Unit) false).run Pg w4 = .ok (vi x2) w4 ∧
      ∃ w5, (Instr.mapUpdate 56 (.map (some b1)) (vs x1.Unit) (vi (IntKind.wrap .i64 (x2 + x1.N)))).run Pg w4 = .ok () w5 ∧
      (drawers_sums.l1 Q l_a l_n b1 nl1) (IntKind.wrap .i64 (v1 + (1 : Int))) w5)
      (∃ (it1 : Nat), ∃ w6, (Instr.range 56 (.map (some b1))).run Pg w2 = .ok (.pointer (some ⟨it1, 0, none⟩)) w6 ∧
      ∃ k, drawers_sums.l2 Q it1 k none 0 0 w6))
def drawers_sums.R (Q : Option Addr → Nat → Nat → World → Prop) (l_a : Option Addr) (l_n : Nat) (l_c : Nat) (w : World) : Prop := (
  Al w (.map #[] 0) fun b1 w1 =>
      ∃ k, drawers_sums.l1 Q l_a l_n b1 k 0 w1)
theorem drawers_sums.ok {Q : Option Addr → Nat → Nat → World → Prop} {l_a : Option Addr} {l_n : Nat} {l_c : Nat} {w : World} (h : drawers_sums.R Q l_a l_n l_c w) : Cl Pg 88 #[vl l_a l_n l_c] w (fun v w' => ∃ (r0a : Option Addr), ∃ (r0n : Nat), ∃ (r0c : Nat), v = vl r0a r0n r0c ∧ Q r0a r0n r0c w') := by
 refine calls_args (args := [vl l_a l_n l_c]) Tryz.func88 ?_
 unfold drawers_sums.R at h
 refine W_regseq ?_
 refine ps 1 [(2, vl none 0 0)] ?_
 refine WO_nil ?_
 refine W_regseq ?_
 refine alm h ?_
 intro b1 w1 eb ew hb_b1 h
 clear eb ew hb_b1
 refine ps 1 [(3, .map (some b1))] ?_
 refine WO_nil ?_
 refine W_seq ?_
 refine W_regseq ?_
 refine ps 3 [(10, vl l_a l_n l_c), (11, vi (l_n : Nat)), (12, vi 0)] ?_
 refine WO_nil ?_
 refine W_block ?_
 obtain ⟨nl1, h⟩ := h
 refine W_loopI (fun k e w2 => ∃ (e0 : Env) (v1 : Int), e = upds e0 [(3, .map (some b1)), (10, vl l_a l_n l_c), (11, vi (l_n : Nat)), (12, vi v1)] ∧ drawers_sums.l1 Q l_a l_n b1 k v1 w2) nl1 ?_ ?_ ?_
 ·rintro _ _ ⟨_, _, _, h⟩
  exact h
 ·exact ⟨_, 0, Agree.eq ⟨rfl, rfl, rfl, rfl, trivial⟩, h⟩
 ·clear h nl1
  rintro nl1 _ w2 ⟨e0, v1, rfl, h⟩
  unfold drawers_sums.l1 at h
  refine W_regseq ?_
  refine ps 1 [(13, vb (decide (v1 < ((l_n : Nat) : Int))))] ?_
  refine WO_nil ?_
  refine W_seq ?_
  refine ci h (fun h => ?_) fun h => ?_
  ·refine W_skip ?_
   refine W_seq ?_
   refine W_block ?_
   refine W_regseq ?_
   refine ix slk53 h fun p1 h => ?_
   obtain ⟨x1, hx1, h⟩ := h
   refine ldn tk58 hx1 ?_
   refine alp h ?_
   intro b2 w3 eb ew hb_b2 h
   clear eb ew
   refine sb tk58 hb_b2 h ?_
   intro w4 ew hb_ h
   replace hb_b2 := hb_
   clear ew
   refine WO_nil ?_
   refine W_reg ?_
   refine ps 2 [(16, .map (some b1)), (17, vp ⟨b2, 0, none⟩)] ?_
   refine lb1 tk9 hb_b2 ?_
   obtain ⟨x2, hlk1, h⟩ := h
   refine WO_val rfl rfl (ex_lookup rfl rfl rfl hlk1) ?_
   refine ps 1 [(20, vp ⟨b2, 1, none⟩)] ?_
   refine lb1 tk3 hb_b2 ?_
   refine ps 1 [(22, vi (IntKind.wrap .i64 (x2 + x1.N)))] ?_
   obtain ⟨w5, hrun, h⟩ := h
   refine WO_unit rfl rfl (ex_mapUpdate rfl rfl rfl rfl hrun) ?_
   clear hrun
   refine WO_nil ?_
   refine blockK_normal ?_
   refine W_reg ?_
   refine ps 2 [(23, vi (IntKind.wrap .i64 (v1 + (1 : Int)))), (12, vi (IntKind.wrap .i64 (v1 + (1 : Int))))] ?_
   refine WO_nil ?_
   exact ⟨_, IntKind.wrap .i64 (v1 + (1 : Int)), Agree.eq ⟨rfl, rfl, rfl, rfl, trivial⟩, h⟩
  ·refine W_exit ?_
   refine blockK_hit ?_
   refine W_regseq ?_
   refine ps 1 [(6, vl none 0 0)] ?_
   refine WO_nil ?_
   refine W_seq ?_
   refine W_regseq ?_
   refine ps 1 [(24, .map (some b1))] ?_
   obtain ⟨it1, w6, hrun, h⟩ := h
   refine WO_val rfl rfl (ex_range rfl rfl hrun) ?_
   clear hrun
   refine WO_nil ?_
   refine W_block ?_
   obtain ⟨nl2, h⟩ := h
   refine W_loopI (fun k e w7 => ∃ (e0 : Env) (v2_a : Option Addr) (v2_n : Nat) (v2_c : Nat), e = upds e0 [(6, vl v2_a v2_n v2_c), (25, vp ⟨it1, 0, none⟩)] ∧ drawers_sums.l2 Q it1 k v2_a v2_n v2_c w7) nl2 ?_ ?_ ?_
   ·rintro _ _ ⟨_, _, _, _, _, h⟩
    exact h
   ·exact ⟨_, none, 0, 0, Agree.eq ⟨rfl, rfl, trivial⟩, h⟩
   ·clear h nl2
    rintro nl2 _ w7 ⟨e0, v2_a, v2_n, v2_c, rfl, h⟩
    unfold drawers_sums.l2 at h
    refine W_regseq ?_
    rcases h with ⟨x3, x4, w8, hrun, h⟩ | ⟨w11, hrun, h⟩
    · refine WO_val rfl rfl (ex_next rfl rfl hrun) ?_
      clear hrun
      refine ps 1 [(27, vb true)] ?_
      refine WO_nil ?_
      refine W_seq ?_
      refine W_cond (t := true) rfl ?_
      refine W_skip ?_
      refine W_block ?_
      refine W_regseq ?_
      obtain ⟨x5, x6, hen, h⟩ := h
      refine WO_val rfl rfl (ex_entry rfl rfl hen) ?_
      clear hen
      refine ps 4 [(29, vs x5), (30, vi x6), (7, vs x5), (8, vi x6)] ?_
      refine WO_nil ?_
      refine W_regseq ?_
      refine ps 2 [(31, vi x6), (32, vb (x6 != (0 : Int)))] ?_
      refine WO_nil ?_
      refine ci h (fun h => ?_) fun h => ?_
      ·refine W_reg ?_
       refine ps 4 [(33, vl v2_a v2_n v2_c), (34, vs x5), (35, vi x6), (36, vg [vs x5, vi x6])] ?_
       refine als 1 h ?_
       intro b3 w9 eb ew hb_b3 h
       clear eb ew hb_b3
       refine ap h ?_
       rintro a1_a a1_n a1_c w10 h
       refine ps 1 [(6, vl a1_a a1_n a1_c)] ?_
       refine WO_nil ?_
       refine blockK_normal ?_
       exact ⟨_, a1_a, a1_n, a1_c, Agree.eq ⟨rfl, rfl, trivial⟩, h⟩
      ·refine W_skip ?_
       refine blockK_normal ?_
       exact ⟨_, v2_a, v2_n, v2_c, Agree.eq ⟨rfl, rfl, trivial⟩, h⟩
    · refine WO_val rfl rfl (ex_next rfl rfl hrun) ?_
      clear hrun
      refine ps 1 [(27, vb false)] ?_
      refine WO_nil ?_
      refine W_seq ?_
      refine W_cond (t := false) rfl ?_
      refine W_exit ?_
      refine blockK_hit ?_
      refine W_regseq ?_
      refine ps 1 [(39, vl v2_a v2_n v2_c)] ?_
      refine cl h ?_
      rintro _ w12 ⟨rfl, h⟩
      refine WO_nil ?_
      refine W_regseq ?_
      refine ps 2 [(41, vl v2_a v2_n v2_c), (2, vl v2_a v2_n v2_c)] ?_
      refine WO_nil ?_
      refine W_ret ?_
      exact ret1 (v := vl v2_a v2_n v2_c) (t := 2) rfl rfl ⟨_, _, _, rfl, h⟩
end Go.Proofs.YtcbijkakoepglaaGreat
namespace Go.Proofs.YtcbijkakoepglaaGreat
open Go Go.Wx

/-! ### the plain side -/
def pFrom (p : TPosting) : Tplace := ⟨p.From_Kind, p.From_Id, p.Unit⟩
def pTo (p : TPosting) : Tplace := ⟨p.To_Kind, p.To_Id, p.Unit⟩
def subM (m : List (Tplace × Int)) (x : Tplace) (n : Int) : List (Tplace × Int) := putM m x (wr (getM m x - n))
def addM {κ : Type} [DecidableEq κ] (m : List (κ × Int)) (x : κ) (n : Int) : List (κ × Int) := putM m x (wr (getM m x + n))
def balOn (day : Int) : List (Tplace × Int) → List TPosting → List (Tplace × Int)
  | m, [] => m
  | m, p :: ps => balOn day (if p.Day ≤ day then addM (subM m (pFrom p) p.N) (pTo p) p.N else m) ps
def lineOf (y : Tplace × Int) : TTrialLine := ⟨y.1.account_Kind, y.1.account_Id, y.1.unit, y.2⟩
def linesM (m : List (Tplace × Int)) : List TTrialLine := isort ltLine ((m.filter fun y => y.2 != 0).map lineOf)
def sumOn : List (ByteArray × Int) → List TAmount → List (ByteArray × Int)
  | m, [] => m
  | m, a :: l => sumOn (addM m a.Unit a.N) l
def amountOf (y : ByteArray × Int) : TAmount := ⟨y.1, y.2⟩
def sumsM (l : List TAmount) : List TAmount := isort ltAmount (((sumOn [] l).filter fun y => y.2 != 0).map amountOf)

theorem putM_len {κ : Type} [DecidableEq κ] (x : κ) (v : Int) : ∀ m : List (κ × Int), (putM m x v).length ≤ m.length + 1
  | [] => by simp [putM]
  | (y, u) :: m => by
    unfold putM
    split
    · simp
    · simp [putM_len x v m]
theorem balOn_len (day : Int) : ∀ (l : List TPosting) (m : List (Tplace × Int)), (balOn day m l).length ≤ m.length + 2 * l.length
  | [], m => by simp [balOn]
  | p :: l, m => by
    have h := balOn_len day l (if p.Day ≤ day then addM (subM m (pFrom p) p.N) (pTo p) p.N else m)
    unfold balOn
    split at h
    · rename_i hd
      rw [if_pos hd]
      have h1 := putM_len (pTo p) (wr (getM (subM m (pFrom p) p.N) (pTo p) + p.N)) (subM m (pFrom p) p.N)
      have h2 := putM_len (pFrom p) (wr (getM m (pFrom p) - p.N)) m
      simp only [addM, subM, List.length_cons] at h h1 h2 ⊢
      omega
    · rename_i hd
      rw [if_neg hd]
      simp only [List.length_cons]; omega
theorem sumOn_len : ∀ (l : List TAmount) (m : List (ByteArray × Int)), (sumOn m l).length ≤ m.length + l.length
  | [], m => by simp [sumOn]
  | a :: l, m => by
    have h := sumOn_len l (addM m a.Unit a.N)
    have h1 := putM_len a.Unit (wr (getM m a.Unit + a.N)) m
    unfold sumOn
    simp only [addM, List.length_cons] at h h1 ⊢
    omega

theorem filterMap_range {α : Type} : ∀ m : List α, (List.range m.length).filterMap (fun j => m[j]?) = m
  | [] => rfl
  | x :: m => by
    rw [List.length_cons, List.range_succ_eq_map, List.filterMap_cons]
    simp only [List.getElem?_cons_zero, List.filterMap_map]
    congr 1
    exact filterMap_range m
/-- what was visited is all, in some order. -/
theorem visited {α : Type} {m : List α} {seen : List Nat} (hn : seen.Nodup) (hl : ∀ j ∈ seen, j < m.length) (ha : ∀ j, j < m.length → j ∈ seen) : (seen.filterMap fun j => m[j]?).Perm m := by
  have hp : seen.Perm (List.range m.length) := (List.perm_ext_iff_of_nodup hn List.nodup_range).2 fun j => ⟨fun h => List.mem_range.2 (hl j h), fun h => ha j (List.mem_range.1 h)⟩
  have h2 := hp.filterMap fun j => m[j]?
  rwa [filterMap_range] at h2
theorem keys_inj {κ : Type} {m : List (κ × Int)} (h : m.Pairwise fun x y => x.1 ≠ y.1) : ∀ x ∈ m, ∀ y ∈ m, x.1 = y.1 → x = y := by
  intro x hx y hy e
  obtain ⟨i, hi⟩ := List.getElem?_of_mem hx
  obtain ⟨j, hj⟩ := List.getElem?_of_mem hy
  obtain ⟨h1, rfl⟩ := List.getElem?_eq_some_iff.1 hi
  obtain ⟨h2, rfl⟩ := List.getElem?_eq_some_iff.1 hj
  have hp := List.pairwise_iff_getElem.1 h
  rcases Nat.lt_trichotomy i j with h' | h' | h'
  · exact absurd e (hp i j h1 h2 h')
  · subst h'; rfl
  · exact absurd e.symm (hp j i h2 h1 h')

def unseen (n : Nat) (seen : List Nat) : Nat := ((List.range n).filter fun j => !seen.contains j).length
theorem unseen_step {n j : Nat} {seen : List Nat} (hj : j < n) (hs : j ∉ seen) : unseen n (seen ++ [j]) < unseen n seen := by
  unfold unseen
  have e : (List.range n).filter (fun i => !(seen ++ [j]).contains i) = ((List.range n).filter fun i => !seen.contains i).filter fun i => i != j := by
    rw [List.filter_filter]
    congr 1
    funext i
    rw [Bool.eq_iff_iff]
    simp only [Bool.not_eq_true', List.contains_eq_mem, List.mem_append, List.mem_singleton, decide_eq_false_iff_not, Bool.and_eq_true, bne_iff_ne]
    exact ⟨fun h => ⟨fun e => h (.inr e), fun e => h (.inl e)⟩, fun h e => e.elim h.2 h.1⟩
  rw [e, List.length_filter_lt_length_iff_exists]
  exact ⟨j, List.mem_filter.2 ⟨List.mem_range.2 hj, by simpa using hs⟩, by simp⟩

/-! ### the contracts -/
theorem lines_c {w : World} {b : Nat} {m : List (Tplace × Int)} (h : MapIs encPlace w b m) (hm : m.length ≤ 100000) {Q : Option Addr → Nat → Nat → World → Prop}
    (hQ : ∀ a n c w', Own 49 4 TTrialLine.enc w' a n c (linesM m) → (∀ k, obk a c = some k → w.heap.size ≤ k) → Ext w w' → Q a n c w') : Cl Pg 70 #[.map (some b)] w (fun v w' => ∃ a n c, v = vl a n c ∧ Q a n c w') := by
  refine drawers_lines.ok ?_
  obtain ⟨w1, hr, hi, E⟩ := range_run keysPlace h
  refine ⟨_, w1, hr, unseen m.length [] + 1, ?_⟩
  have hlt := h.1.lt
  have hpw := h.2
  have hitl : w.heap.size ≤ w.heap.size := Nat.le_refl _
  generalize hit : w.heap.size = it at hr hi hitl
  have fin : ∀ w' (seen : List Nat) a n c, IterIs w' it b m.length seen → (∀ j, j < m.length → j ∈ seen) → Ext w w' → Own 49 4 TTrialLine.enc w' a n c (((seen.filterMap fun j => m[j]?).filter fun y => y.2 != 0).map lineOf) → (∀ k, obk a c = some k → w.heap.size ≤ k) → Cl Pg 126 #[vl a n c, .func (.func 127) #[] #[]] w' (fun v w' => v = .tuple #[] ∧ Q a n c w') := by
    intro w' seen a n c hi hall E ho hk
    have hp := visited hi.nodup hi.lt hall
    have hp2 : (((seen.filterMap fun j => m[j]?).filter fun y => y.2 != 0).map lineOf).Perm ((m.filter fun y => y.2 != 0).map lineOf) := (hp.filter _).map _
    have hinj : ∀ x ∈ (m.filter fun y => y.2 != 0).map lineOf, ∀ y ∈ (m.filter fun y => y.2 != 0).map lineOf, x.Account_Kind = y.Account_Kind → x.Account_Id = y.Account_Id → x.Unit = y.Unit → x = y := by
      intro x hx y hy e1 e2 e3
      obtain ⟨x', hx', rfl⟩ := List.mem_map.1 hx
      obtain ⟨y', hy', rfl⟩ := List.mem_map.1 hy
      have : x' = y' := keys_inj hpw x' (List.mem_filter.1 hx').1 y' (List.mem_filter.1 hy').1 (by
        obtain ⟨⟨_, _, _⟩, _⟩ := x'; obtain ⟨⟨_, _, _⟩, _⟩ := y'
        simp only [lineOf] at e1 e2 e3
        simp [e1, e2, e3])
      rw [this]
    have hlen : n ≤ m.length := by rw [ho.1, hp2.length_eq, List.length_map]; exact List.length_filter_le _ _
    refine sortLines ho (by omega) (fun x hx y hy => hinj x (hp2.mem_iff.1 hx) y (hp2.mem_iff.1 hy)) fun w2 ho2 F2 => hQ _ _ _ _ ?_ hk (Frm.trans E F2 fun k hk' e => by have := hk k e; omega)
    have : isort ltLine (((seen.filterMap fun j => m[j]?).filter fun y => y.2 != 0).map lineOf) = linesM m := by
      refine isort_unique swoLine ((isort_perm _).trans hp2) (isort_asc swoLine _) fun x hx y hy h1 h2 => ?_
      have g := fun {a b : TTrialLine} (h : ltLine a b = false) => ltLine_false.1 h
      have h1 := g h1
      have h2 := g h2
      have e1 : x.Account_Kind = y.Account_Kind := by
        apply Classical.byContradiction; intro hne
        by_cases h3 : x.Account_Kind < y.Account_Kind
        · exact h1 (.inl h3)
        · exact h2 (.inl (by omega))
      have e2 : x.Account_Id = y.Account_Id := by
        apply Classical.byContradiction; intro hne
        by_cases h3 : x.Account_Id < y.Account_Id
        · exact h1 (.inr ⟨e1, .inl h3⟩)
        · exact h2 (.inr ⟨e1.symm, .inl (by omega)⟩)
      refine hinj x hx y hy e1 e2 (strLt_anti ?_ ?_)
      · cases h : strLt x.Unit y.Unit with
        | false => rfl
        | true => exact (h1 (.inr ⟨e1, .inr ⟨e2, h⟩⟩)).elim
      · cases h : strLt y.Unit x.Unit with
        | false => rfl
        | true => exact (h2 (.inr ⟨e1.symm, .inr ⟨e2.symm, h⟩⟩)).elim
    rwa [this] at ho2
  have key : ∀ q w' seen a n c, unseen m.length seen ≤ q → IterIs w' it b m.length seen → MapIs encPlace w' b m → Ext w w' → n ≤ seen.length → seen.length + unseen m.length seen ≤ m.length → Own 49 4 TTrialLine.enc w' a n c (((seen.filterMap fun j => m[j]?).filter fun y => y.2 != 0).map lineOf) → (∀ k, obk a c = some k → w.heap.size ≤ k) → drawers_lines.l1 Q it (q + 1) a n c w' := by
    intro q
    induction q with
    | zero =>
      intro w' seen a n c hs hi h E hn hsl ho hk
      unfold drawers_lines.l1
      rcases next_run h hi (ty := 0) with ⟨j, y, w2, hj, hy, _, hi2, _⟩ | ⟨hall, w2, hr, e2⟩
      · have := unseen_step (List.getElem?_eq_some_iff.1 hy).1 hj; omega
      · exact .inr ⟨w2, hr, fin w2 seen a n c (hi.frm e2 id) hall (E.trans e2) (ho.ext e2) hk⟩
    | succ q ih =>
      intro w' seen a n c hs hi h E hn hsl ho hk
      unfold drawers_lines.l1
      rcases next_run h hi (ty := 0) with ⟨j, y, w2, hj, hy, hr, hi2, F2⟩ | ⟨hall, w2, hr, e2⟩
      · have hstep := unseen_step (List.getElem?_eq_some_iff.1 hy).1 hj
        have hne : b ≠ it := fun e => by subst e; have := hi.blk; have h' := h.1; exact absurd (Option.some.inj (this.symm.trans h')) (by simp)
        have h2 := h.frm F2 hne
        have hkit : ∀ k, obk a c = some k → ¬ k = it := fun k hk' e => by
          subst e
          obtain ⟨cur, hc⟩ := ho.at _ hk'
          exact absurd (Option.some.inj (hi.blk.symm.trans hc)) (by simp)
        have E2 : Ext w w2 := Frm.trans E F2 fun k hk' e => by omega
        have ho2 := ho.frm F2 hkit
        refine .inl ⟨_, _, w2, hr, y.1, y.2, entry_run h2 hi2 hy, al_f E2 fun b1 w4 hb1 hat E4 e4 _ => sb_f E4 hat hb1 fun w5 hat5 E5 f5 => ifb ?_⟩
        have hb1l := e4.size
        have n1 : ¬ b = b1 := fun e => by subst e; exact absurd (Option.some.inj (hat.symm.trans (h2.ext e4).1)) (by simp)
        have n2 : ¬ it = b1 := fun e => by subst e; exact absurd (Option.some.inj (hat.symm.trans (hi2.frm e4 id).blk)) (by simp)
        have h5 := (h2.ext e4).frm f5 n1
        have hi5 := (hi2.frm e4 id).frm f5 n2
        have ho5 := (ho2.ext e4).frm f5 fun k hk' e => by
          obtain ⟨cur, hc⟩ := (ho2.ext e4).at k hk'
          exact hc.neT hat (by simp [tyO]) e
        have hfm : (((seen ++ [j]).filterMap fun j => m[j]?).filter fun y => y.2 != 0).map lineOf = (((seen.filterMap fun j => m[j]?).filter fun y => y.2 != 0).map lineOf) ++ if y.2 != 0 then [lineOf y] else [] := by
          have e1 : ([j].filterMap fun j => m[j]?) = [y] := by simp [hy]
          have e2 : ([y].filter fun y => y.2 != 0).map lineOf = if y.2 != 0 then [lineOf y] else [] := by cases hz : (y.2 != 0) <;> simp [hz]
          rw [List.filterMap_append, e1, List.filter_append, List.map_append, e2]
        have hsl' : (seen ++ [j]).length + unseen m.length (seen ++ [j]) ≤ m.length := by simp; omega
        split
        · rename_i hnz
          rw [if_pos hnz] at hfm
          refine al_f E5 fun b2 w6 hb2 hat6 E6 e6 _ => ap_own ap24 encLine (fun x => oneAll rfl) (ho5.ext e6) (Rd.one (enc := TTrialLine.enc) (sz := 4) (lineOf y) hat6) (by omega) (by simp only [maxLen]; omega) fun a2 c2 w7 ho7 F7 hb7 => ?_
          rw [← hfm] at ho7
          have k7 : ∀ {o : Obj} {k : Nat}, At w6 k o → tyO o ≠ some 49 → ¬ obk a c = some k := fun hk' ho' e => (ho5.ext e6).neT hk' ho' e
          refine ih w7 (seen ++ [j]) a2 (n + 1) c2 (by omega) ((hi5.frm e6 id).frm F7 (k7 (hi5.frm e6 id).blk (by simp [tyO]))) ((h5.ext e6).frm F7 (k7 (h5.ext e6).1 (by simp [tyO]))) (Frm.trans E6 F7 fun k hk' e => by have := hk k e; omega) (by simp; omega) hsl' ho7 fun k hk' => (hb7 k hk').elim (hk k) fun h => Nat.le_trans E6.size h
        · rename_i hnz
          rw [if_neg hnz, List.append_nil] at hfm
          rw [← hfm] at ho5
          exact ih w5 (seen ++ [j]) a n c (by omega) hi5 h5 E5 (by simp; omega) hsl' ho5 hk
      · exact .inr ⟨w2, hr, fin w2 seen a n c (hi.frm e2 id) hall (E.trans e2) (ho.ext e2) hk⟩
  refine key _ w1 [] none 0 0 (Nat.le_refl _) hi (h.ext E) E (Nat.zero_le _) ?_ (by simpa using Own.nil) (fun k hk => by cases hk)
  have : unseen m.length [] = m.length := by unfold unseen; rw [List.filter_eq_self.2 (by simp), List.length_range]
  simp [this]
end Go.Proofs.YtcbijkakoepglaaGreat
namespace Go.Proofs.YtcbijkakoepglaaGreat
open Go Go.Wx

section
variable {κ : Type} [DecidableEq κ]
theorem getM_putM (x : κ) (v : Int) : ∀ m : List (κ × Int), getM (putM m x v) x = v
  | [] => by simp [putM, getM]
  | (y, u) :: m => by
    unfold putM
    split
    · rename_i h; simp [getM, h]
    · rename_i h; simp [getM, h, getM_putM x v m]
theorem getM_putM_ne {x y : κ} (hxy : y ≠ x) (v : Int) : ∀ m : List (κ × Int), getM (putM m x v) y = getM m y
  | [] => by simp [putM, getM, hxy]
  | (z, u) :: m => by
    unfold putM
    split
    · rename_i h; subst h; simp [getM, hxy]
    · rename_i h
      simp only [getM, getM_putM_ne hxy v m]
end

theorem map_ne {κ : Type} {enc : κ → Value} {w : World} {b k : Nat} {m : List (κ × Int)} (h : MapIs enc w b m) {cur : Array Value} {T : TypeId} {fr : Nat × Nat} (hk : At w k (.cells cur T fr)) : ¬ k = b := fun e => by
  subst e; exact absurd (Option.some.inj (hk.symm.trans h.1)) (by simp)

/-- all[x] += n of a map. -/
theorem mapAdd {w : World} {b : Nat} {m : List (Tplace × Int)} (h : MapIs encPlace w b m) (x : Tplace) (n : Int) {K : World → Prop}
    (hK : ∀ w', MapIs encPlace w' b (putM m x n) → Frm (fun k => k = b) w w' → K w') :
    ∃ (x3 : Int) (x4 : Int) (w6 : World), (Instr.mapEntry 103 (.map (some b)) (vg x.enc)).run Pg w = .ok (.tuple #[vi x3, vi x4]) w6 ∧ Frm (fun k => k = b) w w6 ∧
      (Instr.lookup 103 (.map (some b)) (vg x.enc) false).run Pg w6 = .ok (vi (getM m x)) w6 ∧ ∃ w7, (Instr.entryStore 103 (.map (some b)) (vi x4) (vi n)).run Pg w6 = .ok () w7 ∧ Frm (fun k => k = b) w6 w7 ∧ K w7 := by
  obtain ⟨j, w6, hr, h6, F6, hj, hset⟩ := mapEntry_run keysPlace h x
  have hl := lookup_run keysPlace h6 x
  rw [getM_putM] at hl
  obtain ⟨w7, hr7, h7, F7⟩ := entryStore_run h6 (v := n) hj
  rw [hset] at h7
  exact ⟨_, _, w6, hr, F6, hl, w7, hr7, F7, hK w7 h7 (F6.trans F7 fun _ _ h => h)⟩

theorem balances_c {w : World} {a : Option Addr} {n c : Nat} {ps : List TPosting} (hr : Rd TPosting.enc 9 w a n ps) (hn : n ≤ 1000000) {day : Int} {Q : Option Nat → World → Prop}
    (hQ : ∀ b w', w.heap.size ≤ b → MapIs encPlace w' b (balOn day [] ps) → Ext w w' → Q (some b) w') : Cl Pg 84 #[vl a n c, vi day] w (fun v w' => ∃ r, v = .map r ∧ Q r w') := by
  refine drawers_balances.ok (al_f (er w) fun b1 w1 hb1 hat E _ _ => ⟨n + 1, ?_⟩)
  have key : ∀ m i w' M, i + m = n → Ext w w' → MapIs encPlace w' b1 M → (∀ w', MapIs encPlace w' b1 (balOn day M (ps.drop i)) → Ext w w' → Q (some b1) w') → drawers_balances.l1 Q a n day b1 (m + 1) (i : Nat) w' := by
    intro m
    induction m with
    | zero =>
      intro i w' M hi E hM hQ
      unfold drawers_balances.l1
      rw [List.drop_of_length_le (by have := hr.1; omega)] at hQ
      exact ifb_df (by omega) (hQ _ hM E)
    | succ m ih =>
      intro i w' M hi E hM hQ
      unfold drawers_balances.l1
      refine ifb_dt (by omega) ((hr.ext E).ix (by omega) (by omega) fun a0 x ha hx hc => ⟨x, hc, al_f E fun b2 w3 hb2 hat2 E3 e3 _ => sb_f E3 hat2 hb2 fun w4 hat4 E4 f4 => ifb ?_⟩)
      simp only [Int.toNat_natCast] at hx
      obtain ⟨hl, hx'⟩ := List.getElem?_eq_some_iff.1 hx
      rw [List.drop_eq_getElem_cons hl, hx'] at hQ
      simp only [balOn] at hQ
      have hM4 : MapIs encPlace w4 b1 M := (hM.ext e3).frm f4 fun e => map_ne (hM.ext e3) hat2 e.symm
      rw [wrap_succ (n := n) (by omega) (by omega) (by simp only [maxLen]; omega)]
      split
      · rename_i hd
        rw [if_pos (of_decide_eq_true hd)] at hQ
        refine dr_f E4 fun w5 E5 e5 => ⟨_, lookup_run keysPlace (hM4.ext e5) (pFrom x), ?_⟩
        obtain ⟨x3, x4, w6, r6, F6, r6', w7, r7, F7, h7, F57⟩ := mapAdd (K := fun w' => MapIs encPlace w' b1 (subM M (pFrom x) x.N) ∧ Frm (fun k => k = b1) w5 w') (hM4.ext e5) (pFrom x) (wr (getM M (pFrom x) - x.N)) fun w' h F => ⟨h, F⟩
        have hn5 := map_ne (hM4.ext e5) (hat4.ext e5)
        refine ⟨x3, x4, w6, r6, F6.blk _ (hat4.ext e5).lt hn5, r6', w7, r7, F7.blk _ (Nat.lt_of_lt_of_le (hat4.ext e5).lt F6.size) hn5, ?_⟩
        have E7 : Ext w w7 := Frm.trans E5 F57 fun k hk e => by omega
        refine dr_f E7 fun w8 E8 e8 => ⟨_, lookup_run keysPlace (h7.ext e8) (pTo x), ?_⟩
        obtain ⟨y3, y4, w9, s9, G9, s9', w10, s10, G10, h10, F810⟩ := mapAdd (K := fun w' => MapIs encPlace w' b1 (addM (subM M (pFrom x) x.N) (pTo x) x.N) ∧ Frm (fun k => k = b1) w8 w') (h7.ext e8) (pTo x) (wr (getM (subM M (pFrom x) x.N) (pTo x) + x.N)) fun w' h F => ⟨h, F⟩
        refine ⟨y3, y4, w9, s9, s9', w10, s10, ?_⟩
        exact ih (i + 1) w10 _ (by omega) (Frm.trans E8 F810 fun k hk e => by omega) h10 hQ
      · rename_i hd
        rw [if_neg (by simpa using hd)] at hQ
        exact ih (i + 1) w4 M (by omega) E4 hM4 hQ
  exact key n 0 w1 [] (by omega) E (MapIs.new hat) fun w' h E' => hQ b1 w' hb1 (by simpa using h) E'

theorem sums_c {w : World} {a : Option Addr} {n c : Nat} {am : List TAmount} (hr : Rd TAmount.enc 2 w a n am) (hn : n ≤ 100000) {Q : Option Addr → Nat → Nat → World → Prop}
    (hQ : ∀ a2 n2 c2 w', Own 58 2 TAmount.enc w' a2 n2 c2 (sumsM am) → (∀ k, obk a2 c2 = some k → w.heap.size ≤ k) → Ext w w' → Q a2 n2 c2 w') : Cl Pg 88 #[vl a n c] w (fun v w' => ∃ a2 n2 c2, v = vl a2 n2 c2 ∧ Q a2 n2 c2 w') := by
  refine drawers_sums.ok (al_f (er w) fun b w1 hb hat E _ _ => ⟨n + 1, ?_⟩)
  have fin : ∀ w', MapIs vs w' b (sumOn [] am) → Ext w w' → ∃ (it1 : Nat), ∃ w6, (Instr.range 56 (.map (some b))).run Pg w' = .ok (.pointer (some ⟨it1, 0, none⟩)) w6 ∧ ∃ k, drawers_sums.l2 Q it1 k none 0 0 w6 := by
    intro w0 h E0
    have hm : (sumOn [] am).length ≤ 100000 := by have := sumOn_len am []; have := hr.1; simp only [List.length_nil] at *; omega
    have hsm : sumsM am = isort ltAmount (((sumOn [] am).filter fun y => y.2 != 0).map amountOf) := rfl
    rw [hsm] at hQ
    clear hsm
    generalize sumOn [] am = m at h hm hQ
    obtain ⟨w1, hr1, hi, E1⟩ := range_run keysStr h
    refine ⟨_, w1, hr1, unseen m.length [] + 1, ?_⟩
    have hpw := h.2
    have hit0 : w.heap.size ≤ w0.heap.size := E0.size
    have hitl : w0.heap.size ≤ w0.heap.size := Nat.le_refl _
    generalize hit : w0.heap.size = it at hr1 hi hit0 hitl
    have fin : ∀ w' (seen : List Nat) a n c, IterIs w' it b m.length seen → (∀ j, j < m.length → j ∈ seen) → Ext w w' → Own 58 2 TAmount.enc w' a n c (((seen.filterMap fun j => m[j]?).filter fun y => y.2 != 0).map amountOf) → (∀ k, obk a c = some k → w.heap.size ≤ k) → Cl Pg 145 #[vl a n c, .func (.func 146) #[] #[]] w' (fun v w' => v = .tuple #[] ∧ Q a n c w') := by
      intro w' seen a n c hi hall E ho hk
      have hp := visited hi.nodup hi.lt hall
      have hp2 : (((seen.filterMap fun j => m[j]?).filter fun y => y.2 != 0).map amountOf).Perm ((m.filter fun y => y.2 != 0).map amountOf) := (hp.filter _).map _
      have hinj : ∀ x ∈ (m.filter fun y => y.2 != 0).map amountOf, ∀ y ∈ (m.filter fun y => y.2 != 0).map amountOf, x.Unit = y.Unit → x = y := by
        intro x hx y hy e1
        obtain ⟨x', hx', rfl⟩ := List.mem_map.1 hx
        obtain ⟨y', hy', rfl⟩ := List.mem_map.1 hy
        have : x' = y' := keys_inj hpw x' (List.mem_filter.1 hx').1 y' (List.mem_filter.1 hy').1 e1
        rw [this]
      have hlen : n ≤ m.length := by rw [ho.1, hp2.length_eq, List.length_map]; exact List.length_filter_le _ _
      refine sortAmounts ho (by omega) (fun x hx y hy => hinj x (hp2.mem_iff.1 hx) y (hp2.mem_iff.1 hy)) fun w2 ho2 F2 => hQ _ _ _ _ ?_ hk (Frm.trans E F2 fun k hk' e => by have := hk k e; omega)
      have : isort ltAmount (((seen.filterMap fun j => m[j]?).filter fun y => y.2 != 0).map amountOf) = isort ltAmount ((m.filter fun y => y.2 != 0).map amountOf) := by
        refine isort_unique swoAmount ((isort_perm _).trans hp2) (isort_asc swoAmount _) fun x hx y hy h1 h2 => ?_
        have e : ∀ {a b : TAmount}, ltAmount a b = false → strLt a.Unit b.Unit = false := fun {a b} h => by
          rw [← Bool.not_eq_true, ltAmount_iff, Bool.not_eq_true] at h
          exact h
        exact hinj x hx y hy (strLt_anti (e h1) (e h2))
      rwa [this] at ho2
    have key : ∀ q w' seen a n c, unseen m.length seen ≤ q → IterIs w' it b m.length seen → MapIs vs w' b m → Ext w w' → n ≤ seen.length → seen.length + unseen m.length seen ≤ m.length → Own 58 2 TAmount.enc w' a n c (((seen.filterMap fun j => m[j]?).filter fun y => y.2 != 0).map amountOf) → (∀ k, obk a c = some k → w.heap.size ≤ k) → drawers_sums.l2 Q it (q + 1) a n c w' := by
      intro q
      induction q with
      | zero =>
        intro w' seen a n c hs hi h E hn hsl ho hk
        unfold drawers_sums.l2
        rcases next_run h hi (ty := 0) with ⟨j, y, w2, hj, hy, _, hi2, _⟩ | ⟨hall, w2, hr, e2⟩
        · have := unseen_step (List.getElem?_eq_some_iff.1 hy).1 hj; omega
        · exact .inr ⟨w2, hr, fin w2 seen a n c (hi.frm e2 id) hall (E.trans e2) (ho.ext e2) hk⟩
      | succ q ih =>
        intro w' seen a n c hs hi h E hn hsl ho hk
        unfold drawers_sums.l2
        rcases next_run h hi (ty := 0) with ⟨j, y, w2, hj, hy, hr, hi2, F2⟩ | ⟨hall, w2, hr, e2⟩
        · have hstep := unseen_step (List.getElem?_eq_some_iff.1 hy).1 hj
          have hne : b ≠ it := fun e => by subst e; have := hi.blk; have h' := h.1; exact absurd (Option.some.inj (this.symm.trans h')) (by simp)
          have h2 := h.frm F2 hne
          have hkit : ∀ k, obk a c = some k → ¬ k = it := fun k hk' e => by
            subst e
            obtain ⟨cur, hc⟩ := ho.at _ hk'
            exact absurd (Option.some.inj (hi.blk.symm.trans hc)) (by simp)
          have E2 : Ext w w2 := Frm.trans E F2 fun k hk' e => by omega
          have ho2 := ho.frm F2 hkit
          have hfm : (((seen ++ [j]).filterMap fun j => m[j]?).filter fun y => y.2 != 0).map amountOf = (((seen.filterMap fun j => m[j]?).filter fun y => y.2 != 0).map amountOf) ++ if y.2 != 0 then [amountOf y] else [] := by
            have e1 : ([j].filterMap fun j => m[j]?) = [y] := by simp [hy]
            have e2 : ([y].filter fun y => y.2 != 0).map amountOf = if y.2 != 0 then [amountOf y] else [] := by cases hz : (y.2 != 0) <;> simp [hz]
            rw [List.filterMap_append, e1, List.filter_append, List.map_append, e2]
          have hsl' : (seen ++ [j]).length + unseen m.length (seen ++ [j]) ≤ m.length := by simp; omega
          refine .inl ⟨_, _, w2, hr, y.1, y.2, entry_run h2 hi2 hy, ifb ?_⟩
          split
          · rename_i hnz
            rw [if_pos hnz] at hfm
            refine al_f E2 fun b2 w6 hb2 hat6 E6 e6 _ => ap_own ap53 encAmount (fun x => oneAll rfl) (ho2.ext e6) (Rd.one (enc := TAmount.enc) (sz := 2) (amountOf y) hat6) (by omega) (by simp only [maxLen]; omega) fun a2 c2 w7 ho7 F7 hb7 => ?_
            rw [← hfm] at ho7
            have k7 : ∀ {o : Obj} {k : Nat}, At w6 k o → tyO o ≠ some 58 → ¬ obk a c = some k := fun hk' ho' e => (ho2.ext e6).neT hk' ho' e
            refine ih w7 (seen ++ [j]) a2 (n + 1) c2 (by omega) ((hi2.frm e6 id).frm F7 (k7 (hi2.frm e6 id).blk (by simp [tyO]))) ((h2.ext e6).frm F7 (k7 (h2.ext e6).1 (by simp [tyO]))) (Frm.trans E6 F7 fun k hk' e => by have := hk k e; omega) (by simp; omega) hsl' ho7 fun k hk' => (hb7 k hk').elim (hk k) fun h => Nat.le_trans E6.size h
          · rename_i hnz
            rw [if_neg hnz, List.append_nil] at hfm
            rw [← hfm] at ho2
            exact ih w2 (seen ++ [j]) a n c (by omega) hi2 h2 E2 (by simp; omega) hsl' ho2 hk
        · exact .inr ⟨w2, hr, fin w2 seen a n c (hi.frm e2 id) hall (E.trans e2) (ho.ext e2) hk⟩
    refine key _ w1 [] none 0 0 (Nat.le_refl _) hi (h.ext E1) (E0.trans E1) (Nat.zero_le _) ?_ (by simpa using Own.nil) (fun k hk => by cases hk)
    have : unseen m.length [] = m.length := by unfold unseen; rw [List.filter_eq_self.2 (by simp), List.length_range]
    simp [this]
  have key : ∀ m i w' M, i + m = n → Ext w w' → MapIs vs w' b M → (∀ w', MapIs vs w' b (sumOn M (am.drop i)) → Ext w w' → ∃ (it1 : Nat), ∃ w6, (Instr.range 56 (.map (some b))).run Pg w' = .ok (.pointer (some ⟨it1, 0, none⟩)) w6 ∧ ∃ k, drawers_sums.l2 Q it1 k none 0 0 w6) → drawers_sums.l1 Q a n b (m + 1) (i : Nat) w' := by
    intro m
    induction m with
    | zero =>
      intro i w' M hi E hM hQ
      unfold drawers_sums.l1
      rw [List.drop_of_length_le (by have := hr.1; omega)] at hQ
      exact ifb_df (by omega) (hQ _ hM E)
    | succ m ih =>
      intro i w' M hi E hM hQ
      unfold drawers_sums.l1
      refine ifb_dt (by omega) ((hr.ext E).ix (by omega) (by omega) fun a0 x ha hx hc => ⟨x, hc, al_f E fun b2 w3 hb2 hat2 E3 e3 _ => sb_f E3 hat2 hb2 fun w4 hat4 E4 f4 => ?_⟩)
      simp only [Int.toNat_natCast] at hx
      obtain ⟨hl, hx'⟩ := List.getElem?_eq_some_iff.1 hx
      rw [List.drop_eq_getElem_cons hl, hx'] at hQ
      simp only [sumOn] at hQ
      have hM4 : MapIs vs w4 b M := (hM.ext e3).frm f4 fun e => map_ne (hM.ext e3) hat2 e.symm
      rw [wrap_succ (n := n) (by omega) (by omega) (by simp only [maxLen]; omega)]
      obtain ⟨w5, r5, h5, F5⟩ := mapUpdate_run keysStr hM4 x.Unit (wr (getM M x.Unit + x.N))
      refine ⟨_, lookup_run keysStr hM4 x.Unit, w5, r5, ?_⟩
      exact ih (i + 1) w5 _ (by omega) (Frm.trans E4 F5 fun k hk e => by omega) h5 hQ
  exact key n 0 w1 [] (by omega) E (MapIs.new hat) fun w' h E' => fin w' (by simpa using h) E'
end Go.Proofs.YtcbijkakoepglaaGreat
namespace Go.Proofs.YtcbijkakoepglaaGreat
open Go Go.Wx
set_option maxRecDepth 100000
def drawers_named.j1 (Q : Bool → World → Prop) (s : ByteArray) (v1 : Bool) (w1 : World) : Prop := (
       Ifb v1
      (Q false w1)
      (Cl Pg 123 #[vs s, .func (.func 124) #[] #[]] w1 (fun v w2 => ∃ (r1 : Bool), v = vb r1 ∧ Q (!r1) w2)))
def drawers_named.R (Q : Bool → World → Prop) (s : ByteArray) (w : World) : Prop := (
  Ifb (decide (((s.size : Nat) : Int) < (1 : Int)))
      (drawers_named.j1 Q s true w)
      (Ifb (decide (((s.size : Nat) : Int) > (24 : Int)))
      (drawers_named.j1 Q s true w)
      (IxS s (0 : Int) fun x1 =>
      Ifb (x1 == (32 : Int))
      (drawers_named.j1 Q s true w)
      (IxS s (IntKind.wrap .i64 (((s.size : Nat) : Int) - (1 : Int))) fun x2 =>
      drawers_named.j1 Q s (x2 == (32 : Int)) w))))
theorem drawers_named.ok {Q : Bool → World → Prop} {s : ByteArray} {w : World} (h : drawers_named.R Q s w) : Cl Pg 66 #[vs s] w (fun v w' => ∃ (r0 : Bool), v = vb r0 ∧ Q r0 w') := by
 refine calls_args (args := [vs s]) Tryz.func66 ?_
 unfold drawers_named.R at h
 refine W_regseq ?_
 refine ps 1 [(2, vb false)] ?_
 refine WO_nil ?_
 refine W_seq ?_
 refine W_join (fun e w1 => ∃ (e0 : Env) (v1 : Bool), e = upds e0 [(0, vs s), (23, vb v1)] ∧ drawers_named.j1 Q s v1 w1) ?_ ?_
 ·refine W_reg ?_
  refine ps 4 [(3, vs s), (4, vi (s.size : Nat)), (5, vb (decide (((s.size : Nat) : Int) < (1 : Int)))), (6, vb (decide (((s.size : Nat) : Int) < (1 : Int))))] ?_
  refine cs 6 h (fun h => ?_) fun h => ?_
  ·refine ps 17 [(7, undef), (8, undef), (9, undef), (10, vb true), (11, vb true), (12, undef), (13, undef), (14, undef), (15, vb true), (16, vb true), (17, undef), (18, undef), (19, undef), (20, undef), (21, undef), (22, undef), (23, vb true)] ?_
   refine WO_nil ?_
   exact ⟨_, true, Agree.eq ⟨rfl, rfl, trivial⟩, h⟩
  ·refine ps 5 [(7, vs s), (8, vi (s.size : Nat)), (9, vb (decide (((s.size : Nat) : Int) > (24 : Int)))), (10, vb (decide (((s.size : Nat) : Int) > (24 : Int)))), (11, vb (decide (((s.size : Nat) : Int) > (24 : Int))))] ?_
   refine cs 11 h (fun h => ?_) fun h => ?_
   ·refine ps 12 [(12, undef), (13, undef), (14, undef), (15, vb true), (16, vb true), (17, undef), (18, undef), (19, undef), (20, undef), (21, undef), (22, undef), (23, vb true)] ?_
    refine WO_nil ?_
    exact ⟨_, true, Agree.eq ⟨rfl, rfl, trivial⟩, h⟩
   ·refine ps 1 [(12, vs s)] ?_
    refine ixs h fun x1 h => ?_
    refine ps 3 [(14, vb (x1 == (32 : Int))), (15, vb (x1 == (32 : Int))), (16, vb (x1 == (32 : Int)))] ?_
    refine cs 16 h (fun h => ?_) fun h => ?_
    ·refine ps 7 [(17, undef), (18, undef), (19, undef), (20, undef), (21, undef), (22, undef), (23, vb true)] ?_
     refine WO_nil ?_
     exact ⟨_, true, Agree.eq ⟨rfl, rfl, trivial⟩, h⟩
    ·refine ps 4 [(17, vs s), (18, vs s), (19, vi (s.size : Nat)), (20, vi (IntKind.wrap .i64 (((s.size : Nat) : Int) - (1 : Int))))] ?_
     refine ixs h fun x2 h => ?_
     refine ps 2 [(22, vb (x2 == (32 : Int))), (23, vb (x2 == (32 : Int)))] ?_
     refine WO_nil ?_
     exact ⟨_, (x2 == (32 : Int)), Agree.eq ⟨rfl, rfl, trivial⟩, h⟩
 ·clear h
  rintro _ w1 ⟨e0, v1, rfl, h⟩
  unfold drawers_named.j1 at h
  refine ci h (fun h => ?_) fun h => ?_
  ·refine W_regseq ?_
   refine ps 1 [(2, vb false)] ?_
   refine WO_nil ?_
   refine W_ret ?_
   refine seqK_ret ?_
   exact ret1 (v := vb false) (t := 2) rfl rfl ⟨_, rfl, h⟩
  ·refine W_skip ?_
   refine W_regseq ?_
   refine ps 1 [(24, vs s)] ?_
   refine cl h ?_
   rintro _ w2 ⟨r1, rfl, h⟩
   refine ps 2 [(26, vb (!r1)), (2, vb (!r1))] ?_
   refine WO_nil ?_
   refine W_ret ?_
   exact ret1 (v := vb (!r1)) (t := 2) rfl rfl ⟨_, rfl, h⟩
def strings_ContainsFunc.R (Q : Bool → World → Prop) (s : ByteArray) (f : Value) (w : World) : Prop := (
  Cl Pg 171 #[vs s, f] w (fun v w1 => ∃ (r1 : Int), v = vi r1 ∧ Q (decide (r1 ≥ (0 : Int))) w1))
theorem strings_ContainsFunc.ok {Q : Bool → World → Prop} {s : ByteArray} {f : Value} {w : World} (h : strings_ContainsFunc.R Q s f w) : Cl Pg 123 #[vs s, f] w (fun v w' => ∃ (r0 : Bool), v = vb r0 ∧ Q r0 w') := by
 refine calls_args (args := [vs s, f]) Tryz.func123 ?_
 unfold strings_ContainsFunc.R at h
 refine W_regseq ?_
 refine ps 1 [(4, vb false)] ?_
 refine WO_nil ?_
 refine W_regseq ?_
 refine ps 2 [(5, vs s), (6, f)] ?_
 refine cl h ?_
 rintro _ w1 ⟨r1, rfl, h⟩
 refine ps 2 [(8, vb (decide (r1 ≥ (0 : Int)))), (4, vb (decide (r1 ≥ (0 : Int))))] ?_
 refine WO_nil ?_
 refine W_ret ?_
 exact ret1 (v := vb (decide (r1 ≥ (0 : Int)))) (t := 4) rfl rfl ⟨_, rfl, h⟩
def drawers_named_1.R (Q : Bool → World → Prop) (c : Int) (w : World) : Prop := (
  Q (((((decide (c < (97 : Int))) || (decide (c > (122 : Int)))) && ((decide (c < (48 : Int))) || (decide (c > (57 : Int))))) && (c != (32 : Int))) && (c != (45 : Int))) w)
theorem drawers_named_1.ok {Q : Bool → World → Prop} {c : Int} {w : World} (h : drawers_named_1.R Q c w) : Cl Pg 124 #[.int .i32 c] w (fun v w' => ∃ (r0 : Bool), v = vb r0 ∧ Q r0 w') := by
 refine calls_args (args := [.int .i32 c]) Tryz.func124 ?_
 unfold drawers_named_1.R at h
 refine W_regseq ?_
 refine ps 1 [(2, vb false)] ?_
 refine WO_nil ?_
 refine W_regseq ?_
 refine ps 3 [(3, .int .i32 c), (4, vb (decide (c < (97 : Int)))), (5, vb (decide (c < (97 : Int))))] ?_
 refine WO_conv (fun e w_ => ∃ (e0 : Env), e = upds e0 [(2, vb (((((decide (c < (97 : Int))) || (decide (c > (122 : Int)))) && ((decide (c < (48 : Int))) || (decide (c > (57 : Int))))) && (c != (32 : Int))) && (c != (45 : Int))))] ∧ w = w_) ?_ ?_
 ·clear h
  refine WO_case 5 (b := decide (c < (97 : Int))) rfl (fun hb0 => ?_) (fun hb0 => ?_)
  ·refine ps 7 [(6, undef), (7, undef), (8, vb true), (9, vb true), (10, .int .i32 c), (11, vb (decide (c < (48 : Int)))), (12, vb (decide (c < (48 : Int))))] ?_
   refine WO_case 12 (b := decide (c < (48 : Int))) rfl (fun hb1 => ?_) (fun hb1 => ?_)
   ·refine ps 9 [(13, undef), (14, undef), (15, vb true), (16, vb true), (17, vb true), (18, .int .i32 c), (19, vb (c != (32 : Int))), (20, vb (c != (32 : Int))), (21, vb (c != (32 : Int)))] ?_
    refine WO_case 21 (b := (c != (32 : Int))) rfl (fun hb2 => ?_) (fun hb2 => ?_)
    ·refine ps 4 [(22, .int .i32 c), (23, vb (c != (45 : Int))), (24, vb (c != (45 : Int))), (2, vb (c != (45 : Int)))] ?_
     exact WO_nil ⟨_, Agree.eq ⟨(by first | rfl | (simp only [hb0, hb1, hb2, Bool.true_and, Bool.false_and, Bool.true_or, Bool.false_or, Bool.and_true, Bool.and_false, Bool.or_true, Bool.or_false]; done) | (simp only [hb0, hb1, hb2]; rfl) | (simp [hb0, hb1, hb2]; done)), trivial⟩, rfl⟩
    ·refine ps 4 [(22, undef), (23, undef), (24, vb false), (2, vb false)] ?_
     exact WO_nil ⟨_, Agree.eq ⟨(by first | rfl | (simp only [hb0, hb1, hb2, Bool.true_and, Bool.false_and, Bool.true_or, Bool.false_or, Bool.and_true, Bool.and_false, Bool.or_true, Bool.or_false]; done) | (simp only [hb0, hb1, hb2]; rfl) | (simp [hb0, hb1, hb2]; done)), trivial⟩, rfl⟩
   ·refine ps 5 [(13, .int .i32 c), (14, vb (decide (c > (57 : Int)))), (15, vb (decide (c > (57 : Int)))), (16, vb (decide (c > (57 : Int)))), (17, vb (decide (c > (57 : Int))))] ?_
    refine WO_case 17 (b := decide (c > (57 : Int))) rfl (fun hb2 => ?_) (fun hb2 => ?_)
    ·refine ps 4 [(18, .int .i32 c), (19, vb (c != (32 : Int))), (20, vb (c != (32 : Int))), (21, vb (c != (32 : Int)))] ?_
     refine WO_case 21 (b := (c != (32 : Int))) rfl (fun hb3 => ?_) (fun hb3 => ?_)
     ·refine ps 4 [(22, .int .i32 c), (23, vb (c != (45 : Int))), (24, vb (c != (45 : Int))), (2, vb (c != (45 : Int)))] ?_
      exact WO_nil ⟨_, Agree.eq ⟨(by first | rfl | (simp only [hb0, hb1, hb2, hb3, Bool.true_and, Bool.false_and, Bool.true_or, Bool.false_or, Bool.and_true, Bool.and_false, Bool.or_true, Bool.or_false]; done) | (simp only [hb0, hb1, hb2, hb3]; rfl) | (simp [hb0, hb1, hb2, hb3]; done)), trivial⟩, rfl⟩
     ·refine ps 4 [(22, undef), (23, undef), (24, vb false), (2, vb false)] ?_
      exact WO_nil ⟨_, Agree.eq ⟨(by first | rfl | (simp only [hb0, hb1, hb2, hb3, Bool.true_and, Bool.false_and, Bool.true_or, Bool.false_or, Bool.and_true, Bool.and_false, Bool.or_true, Bool.or_false]; done) | (simp only [hb0, hb1, hb2, hb3]; rfl) | (simp [hb0, hb1, hb2, hb3]; done)), trivial⟩, rfl⟩
    ·refine ps 8 [(18, undef), (19, undef), (20, vb false), (21, vb false), (22, undef), (23, undef), (24, vb false), (2, vb false)] ?_
     exact WO_nil ⟨_, Agree.eq ⟨(by first | rfl | (simp only [hb0, hb1, hb2, Bool.true_and, Bool.false_and, Bool.true_or, Bool.false_or, Bool.and_true, Bool.and_false, Bool.or_true, Bool.or_false]; done) | (simp only [hb0, hb1, hb2]; rfl) | (simp [hb0, hb1, hb2]; done)), trivial⟩, rfl⟩
  ·refine ps 4 [(6, .int .i32 c), (7, vb (decide (c > (122 : Int)))), (8, vb (decide (c > (122 : Int)))), (9, vb (decide (c > (122 : Int))))] ?_
   refine WO_case 9 (b := decide (c > (122 : Int))) rfl (fun hb1 => ?_) (fun hb1 => ?_)
   ·refine ps 3 [(10, .int .i32 c), (11, vb (decide (c < (48 : Int)))), (12, vb (decide (c < (48 : Int))))] ?_
    refine WO_case 12 (b := decide (c < (48 : Int))) rfl (fun hb2 => ?_) (fun hb2 => ?_)
    ·refine ps 9 [(13, undef), (14, undef), (15, vb true), (16, vb true), (17, vb true), (18, .int .i32 c), (19, vb (c != (32 : Int))), (20, vb (c != (32 : Int))), (21, vb (c != (32 : Int)))] ?_
     refine WO_case 21 (b := (c != (32 : Int))) rfl (fun hb3 => ?_) (fun hb3 => ?_)
     ·refine ps 4 [(22, .int .i32 c), (23, vb (c != (45 : Int))), (24, vb (c != (45 : Int))), (2, vb (c != (45 : Int)))] ?_
      exact WO_nil ⟨_, Agree.eq ⟨(by first | rfl | (simp only [hb0, hb1, hb2, hb3, Bool.true_and, Bool.false_and, Bool.true_or, Bool.false_or, Bool.and_true, Bool.and_false, Bool.or_true, Bool.or_false]; done) | (simp only [hb0, hb1, hb2, hb3]; rfl) | (simp [hb0, hb1, hb2, hb3]; done)), trivial⟩, rfl⟩
     ·refine ps 4 [(22, undef), (23, undef), (24, vb false), (2, vb false)] ?_
      exact WO_nil ⟨_, Agree.eq ⟨(by first | rfl | (simp only [hb0, hb1, hb2, hb3, Bool.true_and, Bool.false_and, Bool.true_or, Bool.false_or, Bool.and_true, Bool.and_false, Bool.or_true, Bool.or_false]; done) | (simp only [hb0, hb1, hb2, hb3]; rfl) | (simp [hb0, hb1, hb2, hb3]; done)), trivial⟩, rfl⟩
    ·refine ps 5 [(13, .int .i32 c), (14, vb (decide (c > (57 : Int)))), (15, vb (decide (c > (57 : Int)))), (16, vb (decide (c > (57 : Int)))), (17, vb (decide (c > (57 : Int))))] ?_
     refine WO_case 17 (b := decide (c > (57 : Int))) rfl (fun hb3 => ?_) (fun hb3 => ?_)
     ·refine ps 4 [(18, .int .i32 c), (19, vb (c != (32 : Int))), (20, vb (c != (32 : Int))), (21, vb (c != (32 : Int)))] ?_
      refine WO_case 21 (b := (c != (32 : Int))) rfl (fun hb4 => ?_) (fun hb4 => ?_)
      ·refine ps 4 [(22, .int .i32 c), (23, vb (c != (45 : Int))), (24, vb (c != (45 : Int))), (2, vb (c != (45 : Int)))] ?_
       exact WO_nil ⟨_, Agree.eq ⟨(by first | rfl | (simp only [hb0, hb1, hb2, hb3, hb4, Bool.true_and, Bool.false_and, Bool.true_or, Bool.false_or, Bool.and_true, Bool.and_false, Bool.or_true, Bool.or_false]; done) | (simp only [hb0, hb1, hb2, hb3, hb4]; rfl) | (simp [hb0, hb1, hb2, hb3, hb4]; done)), trivial⟩, rfl⟩
      ·refine ps 4 [(22, undef), (23, undef), (24, vb false), (2, vb false)] ?_
       exact WO_nil ⟨_, Agree.eq ⟨(by first | rfl | (simp only [hb0, hb1, hb2, hb3, hb4, Bool.true_and, Bool.false_and, Bool.true_or, Bool.false_or, Bool.and_true, Bool.and_false, Bool.or_true, Bool.or_false]; done) | (simp only [hb0, hb1, hb2, hb3, hb4]; rfl) | (simp [hb0, hb1, hb2, hb3, hb4]; done)), trivial⟩, rfl⟩
     ·refine ps 8 [(18, undef), (19, undef), (20, vb false), (21, vb false), (22, undef), (23, undef), (24, vb false), (2, vb false)] ?_
      exact WO_nil ⟨_, Agree.eq ⟨(by first | rfl | (simp only [hb0, hb1, hb2, hb3, Bool.true_and, Bool.false_and, Bool.true_or, Bool.false_or, Bool.and_true, Bool.and_false, Bool.or_true, Bool.or_false]; done) | (simp only [hb0, hb1, hb2, hb3]; rfl) | (simp [hb0, hb1, hb2, hb3]; done)), trivial⟩, rfl⟩
   ·refine ps 16 [(10, undef), (11, undef), (12, undef), (13, undef), (14, undef), (15, undef), (16, vb false), (17, vb false), (18, undef), (19, undef), (20, vb false), (21, vb false), (22, undef), (23, undef), (24, vb false), (2, vb false)] ?_
    exact WO_nil ⟨_, Agree.eq ⟨(by first | rfl | (simp only [hb0, hb1, Bool.true_and, Bool.false_and, Bool.true_or, Bool.false_or, Bool.and_true, Bool.and_false, Bool.or_true, Bool.or_false]; done) | (simp only [hb0, hb1]; rfl) | (simp [hb0, hb1]; done)), trivial⟩, rfl⟩
 ·rintro _ _ ⟨e0, rfl, rfl⟩
  refine W_ret ?_
  exact ret1 (v := vb (((((decide (c < (97 : Int))) || (decide (c > (122 : Int)))) && ((decide (c < (48 : Int))) || (decide (c > (57 : Int))))) && (c != (32 : Int))) && (c != (45 : Int)))) (t := 2) rfl rfl ⟨_, rfl, h⟩
def strings_IndexFunc.R (Q : Int → World → Prop) (s : ByteArray) (f : Value) (w : World) : Prop := (
  Cl Pg 187 #[vs s, f, vb true] w (fun v w1 => ∃ (r1 : Int), v = vi r1 ∧ Q r1 w1))
theorem strings_IndexFunc.ok {Q : Int → World → Prop} {s : ByteArray} {f : Value} {w : World} (h : strings_IndexFunc.R Q s f w) : Cl Pg 171 #[vs s, f] w (fun v w' => ∃ (r0 : Int), v = vi r0 ∧ Q r0 w') := by
 refine calls_args (args := [vs s, f]) Tryz.func171 ?_
 unfold strings_IndexFunc.R at h
 refine W_regseq ?_
 refine ps 1 [(4, vi 0)] ?_
 refine WO_nil ?_
 refine W_regseq ?_
 refine ps 2 [(5, vs s), (6, f)] ?_
 refine cl h ?_
 rintro _ w1 ⟨r1, rfl, h⟩
 refine ps 1 [(4, vi r1)] ?_
 refine WO_nil ?_
 refine W_ret ?_
 exact ret1 (v := vi r1) (t := 4) rfl rfl ⟨_, rfl, h⟩
def strings_indexFunc.l1 (Q : Int → World → Prop) (f : Value) (truth : Bool) (it1 : Nat) : Nat → World → Prop
       | 0, _ => False
       | nl1 + 1, w2 => (
       (∃ (x1 : Int), ∃ (x2 : Int), ∃ w3, (Instr.next (.pointer (some ⟨it1, 0, none⟩)) true 0).run Pg w2 = .ok (.tuple #[vb true, vi x1, .int .i32 x2]) w3 ∧ Clv Pg f #[.int .i32 x2] w3 (fun v w4 => ∃ (r1 : Bool), v = vb r1 ∧ Ifb (r1 == truth)
      (Q x1 w4)
      ((strings_indexFunc.l1 Q f truth it1 nl1)  w4))) ∨
      (∃ w5, (Instr.next (.pointer (some ⟨it1, 0, none⟩)) true 0).run Pg w2 = .ok (.tuple #[.bool false]) w5 ∧ Q (-1) w5))
def strings_indexFunc.R (Q : Int → World → Prop) (s : ByteArray) (f : Value) (truth : Bool) (w : World) : Prop := (
  ∃ (it1 : Nat), ∃ w1, (Instr.range 9 (vs s)).run Pg w = .ok (.pointer (some ⟨it1, 0, none⟩)) w1 ∧
      ∃ k, strings_indexFunc.l1 Q f truth it1 k  w1)
theorem strings_indexFunc.ok {Q : Int → World → Prop} {s : ByteArray} {f : Value} {truth : Bool} {w : World} (h : strings_indexFunc.R Q s f truth w) : Cl Pg 187 #[vs s, f, vb truth] w (fun v w' => ∃ (r0 : Int), v = vi r0 ∧ Q r0 w') := by
 refine calls_args (args := [vs s, f, vb truth]) Tryz.func187 ?_
 unfold strings_indexFunc.R at h
 refine W_regseq ?_
 refine ps 1 [(6, vi 0)] ?_
 refine WO_nil ?_
 refine W_seq ?_
 refine W_regseq ?_
 refine ps 1 [(9, vs s)] ?_
 obtain ⟨it1, w1, hrun, h⟩ := h
 refine WO_val rfl rfl (ex_range rfl rfl hrun) ?_
 clear hrun
 refine WO_nil ?_
 refine W_block ?_
 obtain ⟨nl1, h⟩ := h
 refine W_loopI (fun k e w2 => ∃ (e0 : Env), e = upds e0 [(1, f), (2, vb truth), (10, vp ⟨it1, 0, none⟩)] ∧ strings_indexFunc.l1 Q f truth it1 k  w2) nl1 ?_ ?_ ?_
 ·rintro _ _ ⟨_, _, h⟩
  exact h
 ·exact ⟨_, Agree.eq ⟨rfl, rfl, rfl, trivial⟩, h⟩
 ·clear h nl1
  rintro nl1 _ w2 ⟨e0, rfl, h⟩
  unfold strings_indexFunc.l1 at h
  refine W_regseq ?_
  rcases h with ⟨x1, x2, w3, hrun, h⟩ | ⟨w5, hrun, h⟩
  · refine WO_val rfl rfl (ex_next rfl rfl hrun) ?_
    clear hrun
    refine ps 1 [(12, vb true)] ?_
    refine WO_nil ?_
    refine W_seq ?_
    refine W_cond (t := true) rfl ?_
    refine W_skip ?_
    refine W_block ?_
    refine W_regseq ?_
    refine ps 4 [(13, vi x1), (14, .int .i32 x2), (7, vi x1), (8, .int .i32 x2)] ?_
    refine WO_nil ?_
    refine W_regseq ?_
    refine ps 2 [(15, f), (16, .int .i32 x2)] ?_
    refine clv h ?_
    rintro _ w4 ⟨r1, rfl, h⟩
    refine ps 2 [(18, vb truth), (19, vb (r1 == truth))] ?_
    refine WO_nil ?_
    refine ci h (fun h => ?_) fun h => ?_
    ·refine W_regseq ?_
     refine ps 2 [(20, vi x1), (6, vi x1)] ?_
     refine WO_nil ?_
     refine W_ret ?_
     refine blockK_ret ?_
     refine seqK_ret ?_
     refine blockK_ret ?_
     refine seqK_ret ?_
     exact ret1 (v := vi x1) (t := 6) rfl rfl ⟨_, rfl, h⟩
    ·refine W_skip ?_
     refine blockK_normal ?_
     exact ⟨_, Agree.eq ⟨rfl, rfl, rfl, trivial⟩, h⟩
  · refine WO_val rfl rfl (ex_next rfl rfl hrun) ?_
    clear hrun
    refine ps 1 [(12, vb false)] ?_
    refine WO_nil ?_
    refine W_seq ?_
    refine W_cond (t := false) rfl ?_
    refine W_exit ?_
    refine blockK_hit ?_
    refine W_regseq ?_
    refine ps 1 [(6, vi (-1))] ?_
    refine WO_nil ?_
    refine W_ret ?_
    exact ret1 (v := vi (-1)) (t := 6) rfl rfl ⟨_, rfl, h⟩
end Go.Proofs.YtcbijkakoepglaaGreat
namespace Go.Proofs.YtcbijkakoepglaaGreat
open Go Go.Wx

def badR (c : Int) : Bool := ((((decide (c < (97 : Int))) || (decide (c > (122 : Int)))) && ((decide (c < (48 : Int))) || (decide (c > (57 : Int))))) && (c != (32 : Int))) && (c != (45 : Int))
def okBytes (s : ByteArray) : Bool := s.data.toList.all fun b => !badR b.toNat
/-- is it the name of a unit. -/
def named (s : ByteArray) : Bool :=
  if s.size < 1 then false else if s.size > 24 then false else if s.data[0]?.map (·.toNat) == some 32 then false else if s.data[s.size - 1]?.map (·.toNat) == some 32 then false else okBytes s

theorem badR_high {c : Int} (h : 123 ≤ c) : badR c = true := by unfold badR; simp; omega

theorem next_str {w : World} {b : Nat} {s : ByteArray} {pos : Nat} {ty : TypeId} (h : At w b (.stringIter s pos)) (hp : pos < s.size) :
    (Instr.next (.pointer (some ⟨b, 0, none⟩)) true ty).run Pg w = .ok (.tuple #[.bool true, .int .i64 pos, .int .i32 ((Utf8.decode s pos).1 : Nat)]) (setB w b (.stringIter s (pos + (Utf8.decode s pos).2))) := by
  have h' : w.heap[b]? = some (.stringIter s pos) := h
  simp only [Instr.next, getObj, setObj, Sem.run_bind, Sem.run, h', Result.andThen, hp, if_true]
  simp [goInt, Sem.run, setB]
theorem next_str_end {w : World} {b : Nat} {s : ByteArray} {pos : Nat} {ty : TypeId} (h : At w b (.stringIter s pos)) (hp : ¬ pos < s.size) :
    (Instr.next (.pointer (some ⟨b, 0, none⟩)) true ty).run Pg w = .ok (.tuple #[.bool false]) w := by
  have h' : w.heap[b]? = some (.stringIter s pos) := h
  simp [Instr.next, getObj, Sem.run, h', hp]

theorem index187 {s : ByteArray} {w : World} {Q : Int → World → Prop} (hQ : ∀ w' (r : Int), Ext w w' → (decide (r ≥ 0) = !okBytes s) → Q r w') : Cl Pg 187 #[vs s, .func (.func 124) #[] #[], vb true] w (fun v w' => ∃ r, v = vi r ∧ Q r w') := by
  refine strings_indexFunc.ok ?_
  have hr : (Instr.range 9 (vs s)).run Pg w = .ok (.pointer (some ⟨w.heap.size, 0, none⟩)) (w.iter s 0) := run_range_string w 9 s (by kernel_rfl)
  have hat : At (w.iter s 0) w.heap.size (.stringIter s 0) := World.iter_heap w s 0
  have hE : Ext w (w.iter s 0) := frm_alloc _
  refine ⟨_, _, hr, s.size + 1, ?_⟩
  generalize w.iter s 0 = w1 at hat hE
  have hsz : s.size = s.data.toList.length := by show s.data.size = _; rw [Array.length_toList]
  have key : ∀ m pos w', pos + m = s.size → At w' w.heap.size (.stringIter s pos) → Ext w w' → (∀ b ∈ s.data.toList.take pos, badR b.toNat = false) → strings_indexFunc.l1 Q (.func (.func 124) #[] #[]) true w.heap.size (m + 1) w' := by
    intro m
    induction m with
    | zero =>
      intro pos w' hp hat E hb
      unfold strings_indexFunc.l1
      refine .inr ⟨w', next_str_end hat (by omega), hQ _ _ E ?_⟩
      rw [List.take_of_length_le (by omega)] at hb
      have : okBytes s = true := by
        unfold okBytes
        rw [List.all_eq_true]
        intro x hx; rw [hb x hx]; rfl
      rw [this]; rfl
    | succ m ih =>
      intro pos w' hp hat E hb
      unfold strings_indexFunc.l1
      have hlt : pos < s.size := by omega
      have hget : s.data.toList[pos]? = some (s[pos]'hlt) := by
        rw [List.getElem?_eq_getElem (by omega)]
        simp [ByteArray.getElem_eq_getElem_data]
      refine .inl ⟨_, _, _, next_str hat hlt, ?_⟩
      have E2 : Ext w (setB w' w.heap.size (.stringIter s (pos + (Utf8.decode s pos).2))) := Frm.trans E frm_setB fun k hk e => by omega
      have hpred : badR ((Utf8.decode s pos).1 : Nat) = badR ((s[pos]'hlt).toNat : Nat) := by
        by_cases ha : (s[pos]'hlt).toNat < 128
        · rw [decode_ascii s pos hlt ha]
        · rw [badR_high (by have := (decode_high s pos hlt (by omega)).1; omega), badR_high (by omega)]
      refine clv_f (drawers_named_1.ok ?_)
      unfold drawers_named_1.R
      refine ifb ?_
      show if (badR ((Utf8.decode s pos).1 : Nat) == true) = true then _ else _
      rw [hpred]
      split
      · rename_i hbad
        refine hQ _ _ E2 ?_
        have : okBytes s = false := by
          unfold okBytes
          rw [List.all_eq_false]
          exact ⟨_, List.mem_of_getElem? hget, by simpa using hbad⟩
        rw [this]
        simp
      · rename_i hbad
        have hbad : badR ((s[pos]'hlt).toNat : Nat) = false := by simpa using hbad
        have ha : (s[pos]'hlt).toNat < 128 := by
          apply Classical.byContradiction
          intro h
          rw [badR_high (by omega)] at hbad
          cases hbad
        have hat2 : At (setB w' w.heap.size (.stringIter s (pos + (Utf8.decode s pos).2))) w.heap.size (.stringIter s (pos + 1)) := by
          rw [decode_ascii s pos hlt ha]; exact hat.set
        refine ih (pos + 1) _ (by omega) hat2 E2 fun b hb' => ?_
        rw [List.take_succ, hget] at hb'
        rcases List.mem_append.1 hb' with h | h
        · exact hb b h
        · simp at h; subst h; exact hbad
  exact key s.size 0 w1 (by omega) hat hE (fun b hb => by simp at hb)

theorem named_c {s : ByteArray} {w : World} {Q : Bool → World → Prop} (hQ : ∀ w', Ext w w' → Q (named s) w') : Cl Pg 66 #[vs s] w (fun v w' => ∃ r, v = vb r ∧ Q r w') := by
  have fin : ∀ w', Ext w w' → Q (named s) w' := hQ
  refine drawers_named.ok (ifb ?_)
  have jt : named s = false → drawers_named.j1 Q s true w := fun h => by
    unfold drawers_named.j1
    refine ifb_t ?_
    rw [← h]; exact hQ _ (er w)
  split
  · rename_i h
    have h' := of_decide_eq_true h
    exact jt (by unfold named; rw [if_pos (by omega)])
  rename_i h
  have h1 : ¬ s.size < 1 := by simp only [decide_eq_true_eq] at h; omega
  refine ifb ?_
  split
  · rename_i h
    have h' := of_decide_eq_true h
    exact jt (by unfold named; rw [if_neg h1, if_pos (by omega)])
  rename_i h
  have h2 : ¬ s.size > 24 := by simp only [decide_eq_true_eq] at h; omega
  have hd : s.size = s.data.size := rfl
  have g0 : s.data[0]?.map (·.toNat) = some (s[0]'(by omega)).toNat := by
    rw [Array.getElem?_eq_getElem (by omega)]; rfl
  have g1 : s.data[s.size - 1]?.map (·.toNat) = some (s[s.size - 1]'(by omega)).toNat := by
    rw [Array.getElem?_eq_getElem (by omega)]; rfl
  refine ⟨by omega, by omega, ifb ?_⟩
  split
  · rename_i h
    refine jt ?_
    unfold named
    rw [if_neg h1, if_neg h2, g0, if_pos]
    have h' : ((s[0]'(by omega)).toNat : Int) = 32 := eq_of_beq h
    simp; omega
  rename_i h3
  have hw : IntKind.wrap .i64 (((s.size : Nat) : Int) - 1) = ((s.size - 1 : Nat) : Int) := by rw [wrap_id (by omega) (by omega)]; omega
  rw [hw]
  refine ⟨by omega, by omega, ?_⟩
  simp only [Int.toNat_natCast]
  unfold drawers_named.j1
  refine ifb ?_
  split
  · rename_i h
    have : named s = false := by
      unfold named
      rw [if_neg h1, if_neg h2, g0, if_neg, g1, if_pos]
      · have := eq_of_beq h
        simp; omega
      · have h3' : ¬ ((s[0]'(by omega)).toNat : Int) = 32 := by simpa using h3
        simp; omega
    rw [← this]; exact hQ _ (er w)
  rename_i h4
  have hn : named s = okBytes s := by
    unfold named
    rw [if_neg h1, if_neg h2, g0, if_neg, g1, if_neg]
    · have h4' : ¬ ((s[s.size - 1]'(by omega)).toNat : Int) = 32 := by simpa using h4
      simp; omega
    · have h3' : ¬ ((s[0]'(by omega)).toNat : Int) = 32 := by simpa using h3
      simp; omega
  refine strings_ContainsFunc.ok (strings_IndexFunc.ok (Q := fun r w => Q (!decide (r ≥ 0)) w) (index187 fun w' r E hr => ?_))
  rw [hr, Bool.not_not, ← hn]
  exact hQ _ E
end Go.Proofs.YtcbijkakoepglaaGreat
namespace Go.Proofs.YtcbijkakoepglaaGreat
open Go Go.Wx
set_option maxRecDepth 100000
def drawers_Audit.j3 (Q : Option Addr → Nat → Nat → Int → World → Prop) (b1 : Nat) (v1 : Int) (kl1 : Int → World → Prop) (x1 : TPosting) (v4 : Bool) (w12 : World) : Prop := (
       Ifb v4
      (Q none 0 0 62 w12)
      (Dr w12 fun w13 =>
      ∃ (x5 : Int), (Instr.lookup 103 (.map (some b1)) (vg [vu x1.To_Kind, vi x1.To_Id, vs x1.Unit]) false).run Pg w13 = .ok (vi x5) w13 ∧
      ∃ (x6 : Int), ∃ (x7 : Int), ∃ w14, (Instr.mapEntry 103 (.map (some b1)) (vg [vu x1.To_Kind, vi x1.To_Id, vs x1.Unit])).run Pg w13 = .ok (.tuple #[vi x6, vi x7]) w14 ∧
      (Instr.lookup 103 (.map (some b1)) (vg [vu x1.To_Kind, vi x1.To_Id, vs x1.Unit]) false).run Pg w14 = .ok (vi x5) w14 ∧ ∃ w15, (Instr.entryStore 103 (.map (some b1)) (vi x7) (vi (IntKind.wrap .i64 (x5 + x1.N)))).run Pg w14 = .ok () w15 ∧
      kl1 (IntKind.wrap .i64 (v1 + (1 : Int))) w15))
def drawers_Audit.j2 (Q : Option Addr → Nat → Nat → Int → World → Prop) (b1 : Nat) (v1 : Int) (kl1 : Int → World → Prop) (x1 : TPosting) (b2 : Nat) (v3 : Bool) (w6 : World) : Prop := (
       Ifb v3
      (Q none 0 0 7 w6)
      (Al w6 (.cells #[vu 0, vi 0, vs (ByteArray.mk #[])] 111) fun b3 w7 =>
      Sb w7 b3 (.cells #[vu x1.From_Kind, vi x1.From_Id, vs x1.Unit] 111 (0, 0)) fun w8 =>
      Dr w8 fun w9 =>
      ∃ (x2 : Int), (Instr.lookup 103 (.map (some b1)) (vg [vu x1.From_Kind, vi x1.From_Id, vs x1.Unit]) false).run Pg w9 = .ok (vi x2) w9 ∧
      ∃ (x3 : Int), ∃ (x4 : Int), ∃ w10, (Instr.mapEntry 103 (.map (some b1)) (vg [vu x1.From_Kind, vi x1.From_Id, vs x1.Unit])).run Pg w9 = .ok (.tuple #[vi x3, vi x4]) w10 ∧
      Kp b2 w9 w10 ∧ Kp b3 w9 w10 ∧ (Instr.lookup 103 (.map (some b1)) (vg [vu x1.From_Kind, vi x1.From_Id, vs x1.Unit]) false).run Pg w10 = .ok (vi x2) w10 ∧ ∃ w11, (Instr.entryStore 103 (.map (some b1)) (vi x4) (vi (IntKind.wrap .i64 (x2 - x1.N)))).run Pg w10 = .ok () w11 ∧
      Kp b2 w10 w11 ∧ Kp b3 w10 w11 ∧ Ifb (x1.From_Kind != (1 : Int))
      (Ifb (x1.From_Kind != (6 : Int))
      (∃ (x8 : Int), (Instr.lookup 103 (.map (some b1)) (vg [vu x1.From_Kind, vi x1.From_Id, vs x1.Unit]) false).run Pg w11 = .ok (vi x8) w11 ∧
      drawers_Audit.j3 Q b1 v1 kl1 x1 (decide (x8 < (0 : Int))) w11)
      (drawers_Audit.j3 Q b1 v1 kl1 x1 false w11))
      (drawers_Audit.j3 Q b1 v1 kl1 x1 false w11)))
def drawers_Audit.j1 (Q : Option Addr → Nat → Nat → Int → World → Prop) (l_a : Option Addr) (l_n : Nat) (b1 : Nat) (v1 : Int) (kl1 : Int → World → Prop) (x1 : TPosting) (b2 : Nat) (v2 : Bool) (w5 : World) : Prop := (
       Ifb v2
      (Q none 0 0 1 w5)
      (Dr w5 fun w16 =>
      Ifb (decide (v1 > (0 : Int)))
      (Ix l_a l_n (IntKind.wrap .i64 (v1 - (1 : Int))) fun p2 =>
      LdI .i64 w16 (Addr.add p2 ((IntKind.wrap .i64 (v1 - (1 : Int))).toNat * 9)) fun x9 =>
      drawers_Audit.j2 Q b1 v1 kl1 x1 b2 (decide (x1.Day < x9)) w16)
      (drawers_Audit.j2 Q b1 v1 kl1 x1 b2 false w16)))
def drawers_Audit.l1 (Q : Option Addr → Nat → Nat → Int → World → Prop) (l_a : Option Addr) (l_n : Nat) (b1 : Nat) : Nat → Int → World → Prop
       | 0, _, _ => False
       | nl1 + 1, v1, w2 => (
       Ifb (decide (v1 < ((l_n : Nat) : Int)))
      (Ix l_a l_n v1 fun p1 =>
      LdT TPosting.enc w2 (Addr.add p1 (v1.toNat * 9)) fun x1 =>
      Al w2 (.cells #[vi 0, vs (ByteArray.mk #[]), vi 0, vu 0, vi 0, vu 0, vi 0, vu 0, vi 0] 42) fun b2 w3 =>
      Sb w3 b2 (.cells #[vi x1.Day, vs x1.Unit, vi x1.N, vu x1.From_Kind, vi x1.From_Id, vu x1.To_Kind, vi x1.To_Id, vu x1.Why, vi x1.Lot] 42 (0, 0)) fun w4 =>
      Dr w4 fun w17 =>
      Ifb (decide (x1.Day < (0 : Int)))
      (drawers_Audit.j1 Q l_a l_n b1 v1 (drawers_Audit.l1 Q l_a l_n b1 nl1) x1 b2 true w17)
      (Ifb (decide (x1.Day > (100000 : Int)))
      (drawers_Audit.j1 Q l_a l_n b1 v1 (drawers_Audit.l1 Q l_a l_n b1 nl1) x1 b2 true w17)
      (Cl Pg 66 #[vs x1.Unit] w17 (fun v w18 => ∃ (r1 : Bool), v = vb r1 ∧ Kp b2 w17 w18 ∧ Ifb (!r1)
      (drawers_Audit.j1 Q l_a l_n b1 v1 (drawers_Audit.l1 Q l_a l_n b1 nl1) x1 b2 true w18)
      (Ifb (decide (x1.N < (1 : Int)))
      (drawers_Audit.j1 Q l_a l_n b1 v1 (drawers_Audit.l1 Q l_a l_n b1 nl1) x1 b2 true w18)
      (Ifb (decide (x1.N > (1000000000 : Int)))
      (drawers_Audit.j1 Q l_a l_n b1 v1 (drawers_Audit.l1 Q l_a l_n b1 nl1) x1 b2 true w18)
      (Ifb (decide (x1.Lot < (1 : Int)))
      (drawers_Audit.j1 Q l_a l_n b1 v1 (drawers_Audit.l1 Q l_a l_n b1 nl1) x1 b2 true w18)
      (Ifb (decide (x1.Lot > (2000 : Int)))
      (drawers_Audit.j1 Q l_a l_n b1 v1 (drawers_Audit.l1 Q l_a l_n b1 nl1) x1 b2 true w18)
      (Cl Pg 67 #[vg [vu x1.From_Kind, vi x1.From_Id]] w18 (fun v w19 => ∃ (r2 : Bool), v = vb r2 ∧ Kp b2 w18 w19 ∧ Ifb (!r2)
      (drawers_Audit.j1 Q l_a l_n b1 v1 (drawers_Audit.l1 Q l_a l_n b1 nl1) x1 b2 true w19)
      (Cl Pg 67 #[vg [vu x1.To_Kind, vi x1.To_Id]] w19 (fun v w20 => ∃ (r3 : Bool), v = vb r3 ∧ Kp b2 w19 w20 ∧ Ifb (!r3)
      (drawers_Audit.j1 Q l_a l_n b1 v1 (drawers_Audit.l1 Q l_a l_n b1 nl1) x1 b2 true w20)
      (Cl Pg 69 #[vu x1.Why] w20 (fun v w21 => ∃ (r4_a : Option Addr), ∃ (r4_n : Nat), ∃ (r4_c : Nat), v = vl r4_a r4_n r4_c ∧ Kp b2 w20 w21 ∧ Cl Pg 68 #[vl r4_a r4_n r4_c, vg [vu x1.From_Kind, vu x1.To_Kind]] w21 (fun v w22 => ∃ (r5 : Bool), v = vb r5 ∧ Kp b2 w21 w22 ∧ drawers_Audit.j1 Q l_a l_n b1 v1 (drawers_Audit.l1 Q l_a l_n b1 nl1) x1 b2 (!r5) w22)))))))))))))))
      (Cl Pg 70 #[.map (some b1)] w2 (fun v w23 => ∃ (r6_a : Option Addr), ∃ (r6_n : Nat), ∃ (r6_c : Nat), v = vl r6_a r6_n r6_c ∧ Q r6_a r6_n r6_c 0 w23)))
def drawers_Audit.R (Q : Option Addr → Nat → Nat → Int → World → Prop) (l_a : Option Addr) (l_n : Nat) (l_c : Nat) (w : World) : Prop := (
  Ifb (decide (((l_n : Nat) : Int) > (20000 : Int)))
      (Q none 0 0 2 w)
      (Al w (.map #[] 0) fun b1 w1 =>
      ∃ k, drawers_Audit.l1 Q l_a l_n b1 k 0 w1))
theorem drawers_Audit.ok {Q : Option Addr → Nat → Nat → Int → World → Prop} {l_a : Option Addr} {l_n : Nat} {l_c : Nat} {w : World} (h : drawers_Audit.R Q l_a l_n l_c w) : Cl Pg 19 #[vl l_a l_n l_c] w (fun v w' => ∃ (r0a : Option Addr), ∃ (r0n : Nat), ∃ (r0c : Nat), ∃ (r1 : Int), v = .tuple #[vl r0a r0n r0c, vi r1] ∧ Q r0a r0n r0c r1 w') := by
 refine calls_args (args := [vl l_a l_n l_c]) Tryz.func19 ?_
 unfold drawers_Audit.R at h
 refine W_regseq ?_
 refine ps 2 [(2, vl none 0 0), (3, vi 0)] ?_
 refine WO_nil ?_
 refine W_seq ?_
 refine W_regseq ?_
 refine ps 3 [(8, vl l_a l_n l_c), (9, vi (l_n : Nat)), (10, vb (decide (((l_n : Nat) : Int) > (20000 : Int))))] ?_
 refine WO_nil ?_
 refine ci h (fun h => ?_) fun h => ?_
 ·refine W_regseq ?_
  refine ps 2 [(2, vl none 0 0), (3, vi 2)] ?_
  refine WO_nil ?_
  refine W_ret ?_
  refine seqK_ret ?_
  exact ret2 (v := vl none 0 0) (v' := vi 2) (t := 2) (u := 3) rfl rfl rfl ⟨_, _, _, _, rfl, h⟩
 ·refine W_skip ?_
  refine W_regseq ?_
  refine alm h ?_
  intro b1 w1 eb ew hb_b1 h
  clear eb ew hb_b1
  refine ps 1 [(4, .map (some b1))] ?_
  refine WO_nil ?_
  refine W_seq ?_
  refine W_regseq ?_
  refine ps 3 [(12, vl l_a l_n l_c), (13, vi (l_n : Nat)), (14, vi 0)] ?_
  refine WO_nil ?_
  refine W_block ?_
  obtain ⟨nl1, h⟩ := h
  refine W_loopI (fun k e w2 => ∃ (e0 : Env) (v1 : Int), e = upds e0 [(0, vl l_a l_n l_c), (4, .map (some b1)), (12, vl l_a l_n l_c), (13, vi (l_n : Nat)), (14, vi v1)] ∧ drawers_Audit.l1 Q l_a l_n b1 k v1 w2) nl1 ?_ ?_ ?_
  ·rintro _ _ ⟨_, _, _, h⟩
   exact h
  ·exact ⟨_, 0, Agree.eq ⟨rfl, rfl, rfl, rfl, rfl, trivial⟩, h⟩
  ·clear h nl1
   rintro nl1 _ w2 ⟨e0, v1, rfl, h⟩
   unfold drawers_Audit.l1 at h
   refine W_regseq ?_
   refine ps 1 [(15, vb (decide (v1 < ((l_n : Nat) : Int))))] ?_
   refine WO_nil ?_
   refine W_seq ?_
   refine ci h (fun h => ?_) fun h => ?_
   ·refine W_skip ?_
    refine W_seq ?_
    refine W_block ?_
    refine W_regseq ?_
    refine ps 1 [(16, vi v1)] ?_
    refine ix slk22 h fun p1 h => ?_
    obtain ⟨x1, hx1, h⟩ := h
    refine ldn tk42 hx1 ?_
    refine alp h ?_
    intro b2 w3 eb ew hb_b2 h
    clear eb ew
    refine ps 1 [(5, vi v1)] ?_
    refine sb tk42 hb_b2 h ?_
    intro w4 ew hb_ h
    replace hb_b2 := hb_
    clear ew
    refine WO_nil ?_
    refine W_seq ?_
    refine W_join (fun e w5 => ∃ (e0 : Env) (v2 : Bool), e = upds e0 [(0, vl l_a l_n l_c), (4, .map (some b1)), (5, vi v1), (6, vp ⟨b2, 0, none⟩), (12, vl l_a l_n l_c), (13, vi (l_n : Nat)), (14, vi v1), (78, vb v2)] ∧ w5.heap[b2]? = some (.cells #[vi x1.Day, vs x1.Unit, vi x1.N, vu x1.From_Kind, vi x1.From_Id, vu x1.To_Kind, vi x1.To_Id, vu x1.Why, vi x1.Lot] 42 (0, 0)) ∧ drawers_Audit.j1 Q l_a l_n b1 v1 (drawers_Audit.l1 Q l_a l_n b1 nl1) x1 b2 v2 w5) ?_ ?_
    ·refine drw folM [[], [], [1], [1], [1], [1], [1, 5], [1, 5], [1, 5], [1, 5], [1, 5], [1, 5, 10], [1, 5, 10], [1, 5, 10], [1, 5, 10], [1, 5, 10], [1, 5, 10], [1, 5, 10, 16], [1, 5, 10, 16], [1, 5, 10, 16], [1, 5, 10, 16], [1, 5, 10, 16], [1, 5, 10, 16, 21], [1, 5, 10, 16, 21], [1, 5, 10, 16, 21], [1, 5, 10, 16, 21], [1, 5, 10, 16, 21], [1, 5, 10, 16, 21, 26], [1, 5, 10, 16, 21, 26], [1, 5, 10, 16, 21, 26], [1, 5, 10, 16, 21, 26], [1, 5, 10, 16, 21, 26], [1, 5, 10, 16, 21, 26, 31], [1, 5, 10, 16, 21, 26, 31], [1, 5, 10, 16, 21, 26, 31], [1, 5, 10, 16, 21, 26, 31], [1, 5, 10, 16, 21, 26, 31], [1, 5, 10, 16, 21, 26, 31, 36], [1, 5, 10, 16, 21, 26, 31, 36], [1, 5, 10, 16, 21, 26, 31, 36], [1, 5, 10, 16, 21, 26, 31, 36], [1, 5, 10, 16, 21, 26, 31, 36], [1, 5, 10, 16, 21, 26, 31, 36], [1, 5, 10, 16, 21, 26, 31, 36, 42], [1, 5, 10, 16, 21, 26, 31, 36, 42], [1, 5, 10, 16, 21, 26, 31, 36, 42], [1, 5, 10, 16, 21, 26, 31, 36, 42], [1, 5, 10, 16, 21, 26, 31, 36, 42], [1, 5, 10, 16, 21, 26, 31, 36, 42], [1, 5, 10, 16, 21, 26, 31, 36, 42, 48], [1, 5, 10, 16, 21, 26, 31, 36, 42], [1, 5, 10, 16, 21, 26, 31, 36, 42], [1, 5, 10, 16, 21, 26, 31, 36, 42], [1, 5, 10, 16, 21, 26, 31, 36, 42], [1, 5, 10, 16, 21, 26, 31, 36, 42], [1, 5, 10, 16, 21, 26, 31, 36, 42], [1, 5, 10, 16, 21, 26, 31, 36, 42, 52, 55], [1, 5, 10, 16, 21, 26, 31, 36, 42, 48, 52, 55], [1, 5, 10, 16, 21, 26, 31, 36, 42, 48, 52, 55], [1, 5, 10, 16, 21, 26, 31, 36, 42, 48, 52, 55]] [.p 0, .l 1, .p 2, .p 3, .p 4, .l 5, .p 6, .p 7, .p 8, .p 9, .l 10, .e 11, .p 12, .p 13, .p 14, .p 15, .l 16, .p 17, .p 18, .p 19, .p 20, .l 21, .p 22, .p 23, .p 24, .p 25, .l 26, .p 27, .p 28, .p 29, .p 30, .l 31, .p 32, .p 33, .p 34, .p 35, .l 36, .e 37, .p 38, .p 39, .p 40, .p 41, .l 42, .e 43, .p 44, .p 45, .p 46, .p 47, .l 48, .p 50, .p 51, .l 52, .p 53, .p 54, .l 55, .p 56, .e 49, .e 57, .p 58, .p 59] h ?_
     intro w17 ew h
     replace hb_b2 := dr_keep ew hb_b2
     clear ew
     refine psC 1 [(19, vp ⟨b2, 0, none⟩)] ?_
     refine lb1C tk3 hb_b2 ?_
     refine psC 2 [(21, vb (decide (x1.Day < (0 : Int)))), (22, vb (decide (x1.Day < (0 : Int))))] ?_
     refine csC 22 h (fun h => ?_) fun h => ?_
     ·refine psC 1 [(23, undef)] ?_
      refine WC_lskip rfl rfl rfl ?_
      refine psC 4 [(25, undef), (26, vb true), (27, vb true), (28, undef)] ?_
      refine WC_lskip rfl rfl rfl ?_
      refine WC_eskip rfl rfl rfl ?_
      refine psC 4 [(31, undef), (32, vb true), (33, vb true), (34, undef)] ?_
      refine WC_lskip rfl rfl rfl ?_
      refine psC 4 [(36, undef), (37, vb true), (38, vb true), (39, undef)] ?_
      refine WC_lskip rfl rfl rfl ?_
      refine psC 4 [(41, undef), (42, vb true), (43, vb true), (44, undef)] ?_
      refine WC_lskip rfl rfl rfl ?_
      refine psC 4 [(46, undef), (47, vb true), (48, vb true), (49, undef)] ?_
      refine WC_lskip rfl rfl rfl ?_
      refine psC 4 [(51, undef), (52, vb true), (53, vb true), (54, undef)] ?_
      refine WC_lskip rfl rfl rfl ?_
      refine WC_eskip rfl rfl rfl ?_
      refine psC 4 [(57, undef), (58, vb true), (59, vb true), (60, undef)] ?_
      refine WC_lskip rfl rfl rfl ?_
      refine WC_eskip rfl rfl rfl ?_
      refine psC 4 [(63, undef), (64, vb true), (65, vb true), (66, undef)] ?_
      refine WC_lskip rfl rfl rfl ?_
      refine psC 2 [(69, undef), (70, undef)] ?_
      refine WC_lskip rfl rfl rfl ?_
      refine psC 2 [(72, undef), (73, undef)] ?_
      refine WC_lskip rfl rfl rfl ?_
      refine psC 1 [(75, undef)] ?_
      refine WC_eskip rfl rfl rfl ?_
      refine WC_eskip rfl rfl rfl ?_
      refine psC 2 [(77, undef), (78, vb true)] ?_
      refine WC_nil ?_
      exact ⟨_, true, Agree.eq ⟨rfl, rfl, rfl, rfl, rfl, rfl, rfl, rfl, trivial⟩, hb_b2, h⟩
     ·refine psC 1 [(23, vp ⟨b2, 0, none⟩)] ?_
      refine lb1C tk3 hb_b2 ?_
      refine psC 3 [(25, vb (decide (x1.Day > (100000 : Int)))), (26, vb (decide (x1.Day > (100000 : Int)))), (27, vb (decide (x1.Day > (100000 : Int))))] ?_
      refine csC 27 h (fun h => ?_) fun h => ?_
      ·refine psC 1 [(28, undef)] ?_
       refine WC_lskip rfl rfl rfl ?_
       refine WC_eskip rfl rfl rfl ?_
       refine psC 4 [(31, undef), (32, vb true), (33, vb true), (34, undef)] ?_
       refine WC_lskip rfl rfl rfl ?_
       refine psC 4 [(36, undef), (37, vb true), (38, vb true), (39, undef)] ?_
       refine WC_lskip rfl rfl rfl ?_
       refine psC 4 [(41, undef), (42, vb true), (43, vb true), (44, undef)] ?_
       refine WC_lskip rfl rfl rfl ?_
       refine psC 4 [(46, undef), (47, vb true), (48, vb true), (49, undef)] ?_
       refine WC_lskip rfl rfl rfl ?_
       refine psC 4 [(51, undef), (52, vb true), (53, vb true), (54, undef)] ?_
       refine WC_lskip rfl rfl rfl ?_
       refine WC_eskip rfl rfl rfl ?_
       refine psC 4 [(57, undef), (58, vb true), (59, vb true), (60, undef)] ?_
       refine WC_lskip rfl rfl rfl ?_
       refine WC_eskip rfl rfl rfl ?_
       refine psC 4 [(63, undef), (64, vb true), (65, vb true), (66, undef)] ?_
       refine WC_lskip rfl rfl rfl ?_
       refine psC 2 [(69, undef), (70, undef)] ?_
       refine WC_lskip rfl rfl rfl ?_
       refine psC 2 [(72, undef), (73, undef)] ?_
       refine WC_lskip rfl rfl rfl ?_
       refine psC 1 [(75, undef)] ?_
       refine WC_eskip rfl rfl rfl ?_
       refine WC_eskip rfl rfl rfl ?_
       refine psC 2 [(77, undef), (78, vb true)] ?_
       refine WC_nil ?_
       exact ⟨_, true, Agree.eq ⟨rfl, rfl, rfl, rfl, rfl, rfl, rfl, rfl, trivial⟩, hb_b2, h⟩
      ·refine psC 1 [(28, vp ⟨b2, 1, none⟩)] ?_
       refine lb1C tk9 hb_b2 ?_
       refine clC h ?_
       rintro _ w18 ⟨r1, rfl, hk0, h⟩
       replace hb_b2 := kp_at hk0 hb_b2
       refine ⟨AllOk.nil, ?_⟩
       refine psC 3 [(31, vb (!r1)), (32, vb (!r1)), (33, vb (!r1))] ?_
       refine csC 33 h (fun h => ?_) fun h => ?_
       ·refine psC 1 [(34, undef)] ?_
        refine WC_lskip rfl rfl rfl ?_
        refine psC 4 [(36, undef), (37, vb true), (38, vb true), (39, undef)] ?_
        refine WC_lskip rfl rfl rfl ?_
        refine psC 4 [(41, undef), (42, vb true), (43, vb true), (44, undef)] ?_
        refine WC_lskip rfl rfl rfl ?_
        refine psC 4 [(46, undef), (47, vb true), (48, vb true), (49, undef)] ?_
        refine WC_lskip rfl rfl rfl ?_
        refine psC 4 [(51, undef), (52, vb true), (53, vb true), (54, undef)] ?_
        refine WC_lskip rfl rfl rfl ?_
        refine WC_eskip rfl rfl rfl ?_
        refine psC 4 [(57, undef), (58, vb true), (59, vb true), (60, undef)] ?_
        refine WC_lskip rfl rfl rfl ?_
        refine WC_eskip rfl rfl rfl ?_
        refine psC 4 [(63, undef), (64, vb true), (65, vb true), (66, undef)] ?_
        refine WC_lskip rfl rfl rfl ?_
        refine psC 2 [(69, undef), (70, undef)] ?_
        refine WC_lskip rfl rfl rfl ?_
        refine psC 2 [(72, undef), (73, undef)] ?_
        refine WC_lskip rfl rfl rfl ?_
        refine psC 1 [(75, undef)] ?_
        refine WC_eskip rfl rfl rfl ?_
        refine WC_eskip rfl rfl rfl ?_
        refine psC 2 [(77, undef), (78, vb true)] ?_
        refine WC_nil ?_
        exact ⟨_, true, Agree.eq ⟨rfl, rfl, rfl, rfl, rfl, rfl, rfl, rfl, trivial⟩, hb_b2, h⟩
       ·refine psC 1 [(34, vp ⟨b2, 2, none⟩)] ?_
        refine lb1C tk3 hb_b2 ?_
        refine psC 3 [(36, vb (decide (x1.N < (1 : Int)))), (37, vb (decide (x1.N < (1 : Int)))), (38, vb (decide (x1.N < (1 : Int))))] ?_
        refine csC 38 h (fun h => ?_) fun h => ?_
        ·refine psC 1 [(39, undef)] ?_
         refine WC_lskip rfl rfl rfl ?_
         refine psC 4 [(41, undef), (42, vb true), (43, vb true), (44, undef)] ?_
         refine WC_lskip rfl rfl rfl ?_
         refine psC 4 [(46, undef), (47, vb true), (48, vb true), (49, undef)] ?_
         refine WC_lskip rfl rfl rfl ?_
         refine psC 4 [(51, undef), (52, vb true), (53, vb true), (54, undef)] ?_
         refine WC_lskip rfl rfl rfl ?_
         refine WC_eskip rfl rfl rfl ?_
         refine psC 4 [(57, undef), (58, vb true), (59, vb true), (60, undef)] ?_
         refine WC_lskip rfl rfl rfl ?_
         refine WC_eskip rfl rfl rfl ?_
         refine psC 4 [(63, undef), (64, vb true), (65, vb true), (66, undef)] ?_
         refine WC_lskip rfl rfl rfl ?_
         refine psC 2 [(69, undef), (70, undef)] ?_
         refine WC_lskip rfl rfl rfl ?_
         refine psC 2 [(72, undef), (73, undef)] ?_
         refine WC_lskip rfl rfl rfl ?_
         refine psC 1 [(75, undef)] ?_
         refine WC_eskip rfl rfl rfl ?_
         refine WC_eskip rfl rfl rfl ?_
         refine psC 2 [(77, undef), (78, vb true)] ?_
         refine WC_nil ?_
         exact ⟨_, true, Agree.eq ⟨rfl, rfl, rfl, rfl, rfl, rfl, rfl, rfl, trivial⟩, hb_b2, h⟩
        ·refine psC 1 [(39, vp ⟨b2, 2, none⟩)] ?_
         refine lb1C tk3 hb_b2 ?_
         refine psC 3 [(41, vb (decide (x1.N > (1000000000 : Int)))), (42, vb (decide (x1.N > (1000000000 : Int)))), (43, vb (decide (x1.N > (1000000000 : Int))))] ?_
         refine csC 43 h (fun h => ?_) fun h => ?_
         ·refine psC 1 [(44, undef)] ?_
          refine WC_lskip rfl rfl rfl ?_
          refine psC 4 [(46, undef), (47, vb true), (48, vb true), (49, undef)] ?_
          refine WC_lskip rfl rfl rfl ?_
          refine psC 4 [(51, undef), (52, vb true), (53, vb true), (54, undef)] ?_
          refine WC_lskip rfl rfl rfl ?_
          refine WC_eskip rfl rfl rfl ?_
          refine psC 4 [(57, undef), (58, vb true), (59, vb true), (60, undef)] ?_
          refine WC_lskip rfl rfl rfl ?_
          refine WC_eskip rfl rfl rfl ?_
          refine psC 4 [(63, undef), (64, vb true), (65, vb true), (66, undef)] ?_
          refine WC_lskip rfl rfl rfl ?_
          refine psC 2 [(69, undef), (70, undef)] ?_
          refine WC_lskip rfl rfl rfl ?_
          refine psC 2 [(72, undef), (73, undef)] ?_
          refine WC_lskip rfl rfl rfl ?_
          refine psC 1 [(75, undef)] ?_
          refine WC_eskip rfl rfl rfl ?_
          refine WC_eskip rfl rfl rfl ?_
          refine psC 2 [(77, undef), (78, vb true)] ?_
          refine WC_nil ?_
          exact ⟨_, true, Agree.eq ⟨rfl, rfl, rfl, rfl, rfl, rfl, rfl, rfl, trivial⟩, hb_b2, h⟩
         ·refine psC 1 [(44, vp ⟨b2, 8, none⟩)] ?_
          refine lb1C tk3 hb_b2 ?_
          refine psC 3 [(46, vb (decide (x1.Lot < (1 : Int)))), (47, vb (decide (x1.Lot < (1 : Int)))), (48, vb (decide (x1.Lot < (1 : Int))))] ?_
          refine csC 48 h (fun h => ?_) fun h => ?_
          ·refine psC 1 [(49, undef)] ?_
           refine WC_lskip rfl rfl rfl ?_
           refine psC 4 [(51, undef), (52, vb true), (53, vb true), (54, undef)] ?_
           refine WC_lskip rfl rfl rfl ?_
           refine WC_eskip rfl rfl rfl ?_
           refine psC 4 [(57, undef), (58, vb true), (59, vb true), (60, undef)] ?_
           refine WC_lskip rfl rfl rfl ?_
           refine WC_eskip rfl rfl rfl ?_
           refine psC 4 [(63, undef), (64, vb true), (65, vb true), (66, undef)] ?_
           refine WC_lskip rfl rfl rfl ?_
           refine psC 2 [(69, undef), (70, undef)] ?_
           refine WC_lskip rfl rfl rfl ?_
           refine psC 2 [(72, undef), (73, undef)] ?_
           refine WC_lskip rfl rfl rfl ?_
           refine psC 1 [(75, undef)] ?_
           refine WC_eskip rfl rfl rfl ?_
           refine WC_eskip rfl rfl rfl ?_
           refine psC 2 [(77, undef), (78, vb true)] ?_
           refine WC_nil ?_
           exact ⟨_, true, Agree.eq ⟨rfl, rfl, rfl, rfl, rfl, rfl, rfl, rfl, trivial⟩, hb_b2, h⟩
          ·refine psC 1 [(49, vp ⟨b2, 8, none⟩)] ?_
           refine lb1C tk3 hb_b2 ?_
           refine psC 3 [(51, vb (decide (x1.Lot > (2000 : Int)))), (52, vb (decide (x1.Lot > (2000 : Int)))), (53, vb (decide (x1.Lot > (2000 : Int))))] ?_
           refine csC 53 h (fun h => ?_) fun h => ?_
           ·refine psC 1 [(54, undef)] ?_
            refine WC_lskip rfl rfl rfl ?_
            refine WC_eskip rfl rfl rfl ?_
            refine psC 4 [(57, undef), (58, vb true), (59, vb true), (60, undef)] ?_
            refine WC_lskip rfl rfl rfl ?_
            refine WC_eskip rfl rfl rfl ?_
            refine psC 4 [(63, undef), (64, vb true), (65, vb true), (66, undef)] ?_
            refine WC_lskip rfl rfl rfl ?_
            refine psC 2 [(69, undef), (70, undef)] ?_
            refine WC_lskip rfl rfl rfl ?_
            refine psC 2 [(72, undef), (73, undef)] ?_
            refine WC_lskip rfl rfl rfl ?_
            refine psC 1 [(75, undef)] ?_
            refine WC_eskip rfl rfl rfl ?_
            refine WC_eskip rfl rfl rfl ?_
            refine psC 2 [(77, undef), (78, vb true)] ?_
            refine WC_nil ?_
            exact ⟨_, true, Agree.eq ⟨rfl, rfl, rfl, rfl, rfl, rfl, rfl, rfl, trivial⟩, hb_b2, h⟩
           ·refine psC 1 [(54, vp ⟨b2, 3, none⟩)] ?_
            refine lbnC [vu x1.From_Kind, vi x1.From_Id] tk40 hb_b2 ?_
            refine clC h ?_
            rintro _ w19 ⟨r2, rfl, hk0, h⟩
            replace hb_b2 := kp_at hk0 hb_b2
            refine ⟨AllOk.nil, ?_⟩
            refine psC 3 [(57, vb (!r2)), (58, vb (!r2)), (59, vb (!r2))] ?_
            refine csC 59 h (fun h => ?_) fun h => ?_
            ·refine psC 1 [(60, undef)] ?_
             refine WC_lskip rfl rfl rfl ?_
             refine WC_eskip rfl rfl rfl ?_
             refine psC 4 [(63, undef), (64, vb true), (65, vb true), (66, undef)] ?_
             refine WC_lskip rfl rfl rfl ?_
             refine psC 2 [(69, undef), (70, undef)] ?_
             refine WC_lskip rfl rfl rfl ?_
             refine psC 2 [(72, undef), (73, undef)] ?_
             refine WC_lskip rfl rfl rfl ?_
             refine psC 1 [(75, undef)] ?_
             refine WC_eskip rfl rfl rfl ?_
             refine WC_eskip rfl rfl rfl ?_
             refine psC 2 [(77, undef), (78, vb true)] ?_
             refine WC_nil ?_
             exact ⟨_, true, Agree.eq ⟨rfl, rfl, rfl, rfl, rfl, rfl, rfl, rfl, trivial⟩, hb_b2, h⟩
            ·refine psC 1 [(60, vp ⟨b2, 5, none⟩)] ?_
             refine lbnC [vu x1.To_Kind, vi x1.To_Id] tk40 hb_b2 ?_
             refine clC h ?_
             rintro _ w20 ⟨r3, rfl, hk0, h⟩
             replace hb_b2 := kp_at hk0 hb_b2
             refine ⟨AllOk.nil, ?_⟩
             refine psC 3 [(63, vb (!r3)), (64, vb (!r3)), (65, vb (!r3))] ?_
             refine csC 65 h (fun h => ?_) fun h => ?_
             ·refine psC 1 [(66, undef)] ?_
              refine WC_lskip rfl rfl rfl ?_
              refine psC 2 [(69, undef), (70, undef)] ?_
              refine WC_lskip rfl rfl rfl ?_
              refine psC 2 [(72, undef), (73, undef)] ?_
              refine WC_lskip rfl rfl rfl ?_
              refine psC 1 [(75, undef)] ?_
              refine WC_eskip rfl rfl rfl ?_
              refine WC_eskip rfl rfl rfl ?_
              refine psC 2 [(77, undef), (78, vb true)] ?_
              refine WC_nil ?_
              exact ⟨_, true, Agree.eq ⟨rfl, rfl, rfl, rfl, rfl, rfl, rfl, rfl, trivial⟩, hb_b2, h⟩
             ·refine psC 1 [(66, vp ⟨b2, 7, none⟩)] ?_
              refine lb1C tk5 hb_b2 ?_
              refine psC 2 [(69, vp ⟨b2, 3, none⟩), (70, vp ⟨b2, 3, none⟩)] ?_
              refine lb1C tk5 hb_b2 ?_
              refine psC 2 [(72, vp ⟨b2, 5, none⟩), (73, vp ⟨b2, 5, none⟩)] ?_
              refine lb1C tk5 hb_b2 ?_
              refine psC 1 [(75, vg [vu x1.From_Kind, vu x1.To_Kind])] ?_
              refine clC h ?_
              rintro _ w21 ⟨r4_a, r4_n, r4_c, rfl, hk0, h⟩
              replace hb_b2 := kp_at hk0 hb_b2
              refine ⟨AllOk.cons (Pend_ok (ex_load rfl rfl (run_loadVar1 tk5 (cell_blk hb_b2 rfl)))) <| AllOk.cons (Pend_ok (ex_load rfl rfl (run_loadVar1 tk5 (cell_blk hb_b2 rfl)))) <| AllOk.nil, ?_⟩
              refine clC h ?_
              rintro _ w22 ⟨r5, rfl, hk0, h⟩
              replace hb_b2 := kp_at hk0 hb_b2
              refine ⟨AllOk.nil, ?_⟩
              refine psC 2 [(77, vb (!r5)), (78, vb (!r5))] ?_
              refine WC_nil ?_
              exact ⟨_, (!r5), Agree.eq ⟨rfl, rfl, rfl, rfl, rfl, rfl, rfl, rfl, trivial⟩, hb_b2, h⟩
    ·clear h hb_b2
     rintro _ w5 ⟨e0, v2, rfl, hb_b2, h⟩
     unfold drawers_Audit.j1 at h
     refine ci h (fun h => ?_) fun h => ?_
     ·refine W_regseq ?_
      refine ps 2 [(2, vl none 0 0), (3, vi 1)] ?_
      refine WO_nil ?_
      refine W_ret ?_
      refine seqK_ret ?_
      refine blockK_ret ?_
      refine seqK_ret ?_
      refine seqK_ret ?_
      refine blockK_ret ?_
      refine seqK_ret ?_
      exact ret2 (v := vl none 0 0) (v' := vi 1) (t := 2) (u := 3) rfl rfl rfl ⟨_, _, _, _, rfl, h⟩
     ·refine W_skip ?_
      refine W_seq ?_
      refine W_join (fun e w6 => ∃ (e0 : Env) (v3 : Bool), e = upds e0 [(0, vl l_a l_n l_c), (4, .map (some b1)), (6, vp ⟨b2, 0, none⟩), (12, vl l_a l_n l_c), (13, vi (l_n : Nat)), (14, vi v1), (91, vb v3)] ∧ w6.heap[b2]? = some (.cells #[vi x1.Day, vs x1.Unit, vi x1.N, vu x1.From_Kind, vi x1.From_Id, vu x1.To_Kind, vi x1.To_Id, vu x1.Why, vi x1.Lot] 42 (0, 0)) ∧ drawers_Audit.j2 Q b1 v1 (drawers_Audit.l1 Q l_a l_n b1 nl1) x1 b2 v3 w6) ?_ ?_
      ·refine drw folM [[], [], [], [], [], [], [], [], [], [], [], [4, 10], [4, 10]] [.p 0, .p 1, .p 2, .p 3, .l 4, .p 5, .p 6, .p 7, .p 8, .p 9, .l 10, .p 11, .p 12] h ?_
       intro w16 ew h
       replace hb_b2 := dr_keep ew hb_b2
       clear ew
       refine psC 3 [(79, vi v1), (80, vb (decide (v1 > (0 : Int)))), (81, vb (decide (v1 > (0 : Int))))] ?_
       refine csC 81 h (fun h => ?_) fun h => ?_
       ·refine psC 1 [(82, vp ⟨b2, 0, none⟩)] ?_
        refine lb1C tk3 hb_b2 ?_
        refine psC 3 [(84, vl l_a l_n l_c), (85, vi v1), (86, vi (IntKind.wrap .i64 (v1 - (1 : Int))))] ?_
        refine ixC slk22 h fun p2 h => ?_
        refine psC 1 [(88, vp (Addr.add p2 ((IntKind.wrap .i64 (v1 - (1 : Int))).toNat * 9)))] ?_
        obtain ⟨x9, hx9, h⟩ := h
        refine ld1C tk3 hx9 ?_
        refine psC 2 [(90, vb (decide (x1.Day < x9))), (91, vb (decide (x1.Day < x9)))] ?_
        refine WC_nil ?_
        exact ⟨_, decide (x1.Day < x9), Agree.eq ⟨rfl, rfl, rfl, rfl, rfl, rfl, rfl, trivial⟩, hb_b2, h⟩
       ·refine psC 1 [(82, undef)] ?_
        refine WC_lskip rfl rfl rfl ?_
        refine psC 5 [(84, undef), (85, undef), (86, undef), (87, undef), (88, undef)] ?_
        refine WC_lskip rfl rfl rfl ?_
        refine psC 2 [(90, undef), (91, vb false)] ?_
        refine WC_nil ?_
        exact ⟨_, false, Agree.eq ⟨rfl, rfl, rfl, rfl, rfl, rfl, rfl, trivial⟩, hb_b2, h⟩
      ·clear h hb_b2
       rintro _ w6 ⟨e0, v3, rfl, hb_b2, h⟩
       unfold drawers_Audit.j2 at h
       refine ci h (fun h => ?_) fun h => ?_
       ·refine W_regseq ?_
        refine ps 2 [(2, vl none 0 0), (3, vi 7)] ?_
        refine WO_nil ?_
        refine W_ret ?_
        refine seqK_ret ?_
        refine blockK_ret ?_
        refine seqK_ret ?_
        refine seqK_ret ?_
        refine blockK_ret ?_
        refine seqK_ret ?_
        exact ret2 (v := vl none 0 0) (v' := vi 7) (t := 2) (u := 3) rfl rfl rfl ⟨_, _, _, _, rfl, h⟩
       ·refine W_skip ?_
        refine W_regseq ?_
        refine ps 1 [(92, vp ⟨b2, 3, none⟩)] ?_
        refine lbn [vu x1.From_Kind, vi x1.From_Id] tk40 hb_b2 ?_
        refine ps 1 [(94, vp ⟨b2, 1, none⟩)] ?_
        refine lb1 tk9 hb_b2 ?_
        refine ps 1 [(96, vg [vu x1.From_Kind, vi x1.From_Id, vs x1.Unit])] ?_
        refine alp h ?_
        intro b3 w7 eb ew hb_b3 h
        have old_hb_b2 := hb_b2
        replace hb_b2 := al_keep ew hb_b2
        have ne_b2_b3 : b2 ≠ b3 := blk_ne old_hb_b2 eb
        clear old_hb_b2
        clear eb ew
        refine sb tk111 hb_b3 h ?_
        intro w8 ew hb_ h
        replace hb_b2 := sb_keep ew ne_b2_b3 hb_b2
        replace hb_b3 := hb_
        clear ew
        refine WO_nil ?_
        refine drs folM [[], [], [1], [], [], [1, 2, 4], [1, 4], [1, 4], [1, 2, 4]] [.p 0, .l 1, .l 2, .p 3, .l 4, .p 5, .e 6, .p 7, .e 8] h ?_
        intro w9 ew h
        replace hb_b2 := dr_keep ew hb_b2
        replace hb_b3 := dr_keep ew hb_b3
        clear ew
        refine psC 1 [(97, .map (some b1))] ?_
        refine lbnC [vu x1.From_Kind, vi x1.From_Id, vs x1.Unit] tk111 hb_b3 ?_
        obtain ⟨x2, hlk1, h⟩ := h
        refine WC_l rfl rfl rfl (ex_lookup rfl rfl rfl hlk1) ?_
        refine psC 1 [(100, vp ⟨b2, 2, none⟩)] ?_
        refine lb1C tk3 hb_b2 ?_
        refine psC 1 [(102, vi (IntKind.wrap .i64 (x2 - x1.N)))] ?_
        obtain ⟨x3, x4, w10, hrun, hk0, hk1, hk2, h⟩ := h
        refine WC_ev rfl rfl rfl (ex_mapEntry rfl rfl rfl hrun) ?_
        replace hb_b2 := kp_at hk0 hb_b2
        replace hb_b3 := kp_at hk1 hb_b3
        replace hlk1 := hk2
        clear hrun
        refine ⟨AllOk.cons (Pend_ok (ex_lookup rfl rfl rfl hlk1)) <| AllOk.nil, ?_⟩
        refine psC 1 [(104, vi x4)] ?_
        obtain ⟨w11, hrun, hk0, hk1, h⟩ := h
        refine WC_eu rfl rfl rfl (ex_entryStore rfl rfl rfl rfl hrun) ?_
        replace hb_b2 := kp_at hk0 hb_b2
        replace hb_b3 := kp_at hk1 hb_b3
        clear hrun
        refine ⟨AllOk.nil, ?_⟩
        refine WC_nil ?_
        refine W_seq ?_
        refine W_join (fun e w12 => ∃ (e0 : Env) (v4 : Bool), e = upds e0 [(0, vl l_a l_n l_c), (4, .map (some b1)), (6, vp ⟨b2, 0, none⟩), (12, vl l_a l_n l_c), (13, vi (l_n : Nat)), (14, vi v1), (120, vb v4)] ∧ w12.heap[b2]? = some (.cells #[vi x1.Day, vs x1.Unit, vi x1.N, vu x1.From_Kind, vi x1.From_Id, vu x1.To_Kind, vi x1.To_Id, vu x1.Why, vi x1.Lot] 42 (0, 0)) ∧ drawers_Audit.j3 Q b1 v1 (drawers_Audit.l1 Q l_a l_n b1 nl1) x1 v4 w12) ?_ ?_
        ·refine W_reg ?_
         refine ps 2 [(105, vp ⟨b2, 3, none⟩), (106, vp ⟨b2, 3, none⟩)] ?_
         refine lb1 tk5 hb_b2 ?_
         refine ps 2 [(108, vb (x1.From_Kind != (1 : Int))), (109, vb (x1.From_Kind != (1 : Int)))] ?_
         refine cs 109 h (fun h => ?_) fun h => ?_
         ·refine ps 2 [(110, vp ⟨b2, 3, none⟩), (111, vp ⟨b2, 3, none⟩)] ?_
          refine lb1 tk5 hb_b2 ?_
          refine ps 3 [(113, vb (x1.From_Kind != (6 : Int))), (114, vb (x1.From_Kind != (6 : Int))), (115, vb (x1.From_Kind != (6 : Int)))] ?_
          refine cs 115 h (fun h => ?_) fun h => ?_
          ·refine ps 1 [(116, .map (some b1))] ?_
           refine lbn [vu x1.From_Kind, vi x1.From_Id, vs x1.Unit] tk111 hb_b3 ?_
           obtain ⟨x8, hlk3, h⟩ := h
           refine WO_val rfl rfl (ex_lookup rfl rfl rfl hlk3) ?_
           refine ps 2 [(119, vb (decide (x8 < (0 : Int)))), (120, vb (decide (x8 < (0 : Int))))] ?_
           refine WO_nil ?_
           exact ⟨_, decide (x8 < (0 : Int)), Agree.eq ⟨rfl, rfl, rfl, rfl, rfl, rfl, rfl, trivial⟩, hb_b2, h⟩
          ·refine ps 5 [(116, undef), (117, undef), (118, undef), (119, undef), (120, vb false)] ?_
           refine WO_nil ?_
           exact ⟨_, false, Agree.eq ⟨rfl, rfl, rfl, rfl, rfl, rfl, rfl, trivial⟩, hb_b2, h⟩
         ·refine ps 11 [(110, undef), (111, undef), (112, undef), (113, undef), (114, vb false), (115, vb false), (116, undef), (117, undef), (118, undef), (119, undef), (120, vb false)] ?_
          refine WO_nil ?_
          exact ⟨_, false, Agree.eq ⟨rfl, rfl, rfl, rfl, rfl, rfl, rfl, trivial⟩, hb_b2, h⟩
        ·clear h hb_b2 hb_b3 ne_b2_b3
         rintro _ w12 ⟨e0, v4, rfl, hb_b2, h⟩
         unfold drawers_Audit.j3 at h
         refine ci h (fun h => ?_) fun h => ?_
         ·refine W_regseq ?_
          refine ps 2 [(2, vl none 0 0), (3, vi 62)] ?_
          refine WO_nil ?_
          refine W_ret ?_
          refine seqK_ret ?_
          refine blockK_ret ?_
          refine seqK_ret ?_
          refine seqK_ret ?_
          refine blockK_ret ?_
          refine seqK_ret ?_
          exact ret2 (v := vl none 0 0) (v' := vi 62) (t := 2) (u := 3) rfl rfl rfl ⟨_, _, _, _, rfl, h⟩
         ·refine W_skip ?_
          refine drw folM [[], [], [], [], [], [2, 4], [2, 4], [], [], [2, 4, 6, 8], [2, 4, 8], [2, 4, 8], [2, 4, 6, 8]] [.p 0, .p 1, .l 2, .p 3, .l 4, .p 5, .l 6, .p 7, .l 8, .p 9, .e 10, .p 11, .e 12] h ?_
          intro w13 ew h
          replace hb_b2 := dr_keep ew hb_b2
          clear ew
          refine psC 2 [(121, .map (some b1)), (122, vp ⟨b2, 5, none⟩)] ?_
          refine lbnC [vu x1.To_Kind, vi x1.To_Id] tk40 hb_b2 ?_
          refine psC 1 [(124, vp ⟨b2, 1, none⟩)] ?_
          refine lb1C tk9 hb_b2 ?_
          refine psC 1 [(126, vg [vu x1.To_Kind, vi x1.To_Id, vs x1.Unit])] ?_
          obtain ⟨x5, hlk2, h⟩ := h
          refine WC_l rfl rfl rfl (ex_lookup rfl rfl rfl hlk2) ?_
          refine psC 1 [(128, vp ⟨b2, 2, none⟩)] ?_
          refine lb1C tk3 hb_b2 ?_
          refine psC 1 [(130, vi (IntKind.wrap .i64 (x5 + x1.N)))] ?_
          obtain ⟨x6, x7, w14, hrun, hk0, h⟩ := h
          refine WC_ev rfl rfl rfl (ex_mapEntry rfl rfl rfl hrun) ?_
          replace hlk2 := hk0
          clear hrun
          refine ⟨AllOk.cons (Pend_ok (ex_lookup rfl rfl rfl hlk2)) <| AllOk.nil, ?_⟩
          refine psC 1 [(132, vi x7)] ?_
          obtain ⟨w15, hrun, h⟩ := h
          refine WC_eu rfl rfl rfl (ex_entryStore rfl rfl rfl rfl hrun) ?_
          clear hrun
          refine ⟨AllOk.nil, ?_⟩
          refine WC_nil ?_
          refine blockK_normal ?_
          refine W_reg ?_
          refine ps 2 [(133, vi (IntKind.wrap .i64 (v1 + (1 : Int)))), (14, vi (IntKind.wrap .i64 (v1 + (1 : Int))))] ?_
          refine WO_nil ?_
          exact ⟨_, IntKind.wrap .i64 (v1 + (1 : Int)), Agree.eq ⟨rfl, rfl, rfl, rfl, rfl, trivial⟩, h⟩
   ·refine W_exit ?_
    refine blockK_hit ?_
    refine W_regseq ?_
    refine ps 1 [(134, .map (some b1))] ?_
    refine cl h ?_
    rintro _ w23 ⟨r6_a, r6_n, r6_c, rfl, h⟩
    refine ps 2 [(2, vl r6_a r6_n r6_c), (3, vi 0)] ?_
    refine WO_nil ?_
    refine W_ret ?_
    exact ret2 (v := vl r6_a r6_n r6_c) (v' := vi 0) (t := 2) (u := 3) rfl rfl rfl ⟨_, _, _, _, rfl, h⟩
def drawers_right.j2 (Q : Bool → World → Prop) (a : TAccount) (v2 : Bool) (w5 : World) : Prop := (
       Ifb v2
      (Q (a.Id == (0 : Int)) w5)
      (Q false w5))
def drawers_right.j1 (Q : Bool → World → Prop) (a : TAccount) (v1 : Bool) (w2 : World) : Prop := (
       Ifb v1
      (Al w2 (.cells #[vi a.Id] 3) fun b2 w3 =>
      Cl Pg 87 #[vl (some ⟨b2, 0, none⟩) 1 1] w3 (fun v w4 => ∃ (r1 : Bool), v = vb r1 ∧ Q r1 w4))
      (Ifb (a.Kind == (1 : Int))
      (drawers_right.j2 Q a (a.Kind == (1 : Int)) w2)
      (Ifb (a.Kind == (4 : Int))
      (drawers_right.j2 Q a (a.Kind == (4 : Int)) w2)
      (Ifb (a.Kind == (5 : Int))
      (drawers_right.j2 Q a (a.Kind == (5 : Int)) w2)
      (drawers_right.j2 Q a (a.Kind == (6 : Int)) w2)))))
def drawers_right.R (Q : Bool → World → Prop) (a : TAccount) (w : World) : Prop := (
  Al w (.cells #[vu a.Kind, vi a.Id] 40) fun b1 w1 =>
      Ifb (a.Kind == (2 : Int))
      (drawers_right.j1 Q a (a.Kind == (2 : Int)) w1)
      (Ifb (a.Kind == (3 : Int))
      (drawers_right.j1 Q a (a.Kind == (3 : Int)) w1)
      (drawers_right.j1 Q a (a.Kind == (7 : Int)) w1)))
theorem drawers_right.ok {Q : Bool → World → Prop} {a : TAccount} {w : World} (h : drawers_right.R Q a w) : Cl Pg 67 #[vg (TAccount.enc a)] w (fun v w' => ∃ (r0 : Bool), v = vb r0 ∧ Q r0 w') := by
 refine calls_args (args := [vg (TAccount.enc a)]) Tryz.func67 ?_
 unfold drawers_right.R at h
 refine W_regseq ?_
 refine alp h ?_
 intro b1 w1 eb ew hb_b1 h
 clear eb ew
 refine ps 1 [(2, vb false)] ?_
 refine WO_nil ?_
 refine W_seq ?_
 refine W_regseq ?_
 refine ps 1 [(3, vp ⟨b1, 0, none⟩)] ?_
 refine lb1 tk5 hb_b1 ?_
 refine WO_nil ?_
 refine W_block ?_
 refine W_join (fun e w2 => ∃ (e0 : Env) (v1 : Bool), e = upds e0 [(1, vp ⟨b1, 0, none⟩), (4, vu a.Kind), (5, vb v1)] ∧ w2.heap[b1]? = some (.cells #[vu a.Kind, vi a.Id] 40 (0, 0)) ∧ drawers_right.j1 Q a v1 w2) ?_ ?_
 ·refine W_regseq ?_
  refine ps 2 [(6, vb (a.Kind == (2 : Int))), (5, vb (a.Kind == (2 : Int)))] ?_
  refine WO_nil ?_
  refine ci h (fun h => ?_) fun h => ?_
  ·refine W_skip ?_
   exact ⟨_, (a.Kind == (2 : Int)), Agree.eq ⟨rfl, rfl, rfl, trivial⟩, hb_b1, h⟩
  ·refine W_regseq ?_
   refine ps 2 [(7, vb (a.Kind == (3 : Int))), (5, vb (a.Kind == (3 : Int)))] ?_
   refine WO_nil ?_
   refine ci h (fun h => ?_) fun h => ?_
   ·refine W_skip ?_
    exact ⟨_, (a.Kind == (3 : Int)), Agree.eq ⟨rfl, rfl, rfl, trivial⟩, hb_b1, h⟩
   ·refine W_reg ?_
    refine ps 2 [(8, vb (a.Kind == (7 : Int))), (5, vb (a.Kind == (7 : Int)))] ?_
    refine WO_nil ?_
    exact ⟨_, (a.Kind == (7 : Int)), Agree.eq ⟨rfl, rfl, rfl, trivial⟩, hb_b1, h⟩
 ·clear h hb_b1
  rintro _ w2 ⟨e0, v1, rfl, hb_b1, h⟩
  unfold drawers_right.j1 at h
  refine ci h (fun h => ?_) fun h => ?_
  ·refine W_regseq ?_
   refine ps 1 [(9, vp ⟨b1, 1, none⟩)] ?_
   refine lb1 tk3 hb_b1 ?_
   refine als 1 h ?_
   intro b2 w3 eb ew hb_b2 h
   clear eb ew hb_b2
   refine cl h ?_
   rintro _ w4 ⟨r1, rfl, h⟩
   refine ps 1 [(2, vb r1)] ?_
   refine WO_nil ?_
   refine W_ret ?_
   refine blockK_ret ?_
   refine seqK_ret ?_
   exact ret1 (v := vb r1) (t := 2) rfl rfl ⟨_, rfl, h⟩
  ·refine W_join (fun e w5 => ∃ (e0 : Env) (v2 : Bool), e = upds e0 [(1, vp ⟨b1, 0, none⟩), (13, vb v2)] ∧ w5.heap[b1]? = some (.cells #[vu a.Kind, vi a.Id] 40 (0, 0)) ∧ drawers_right.j2 Q a v2 w5) ?_ ?_
   ·refine W_regseq ?_
    refine ps 2 [(14, vb (a.Kind == (1 : Int))), (13, vb (a.Kind == (1 : Int)))] ?_
    refine WO_nil ?_
    refine ci h (fun h => ?_) fun h => ?_
    ·refine W_skip ?_
     exact ⟨_, (a.Kind == (1 : Int)), Agree.eq ⟨rfl, rfl, trivial⟩, hb_b1, h⟩
    ·refine W_regseq ?_
     refine ps 2 [(15, vb (a.Kind == (4 : Int))), (13, vb (a.Kind == (4 : Int)))] ?_
     refine WO_nil ?_
     refine ci h (fun h => ?_) fun h => ?_
     ·refine W_skip ?_
      exact ⟨_, (a.Kind == (4 : Int)), Agree.eq ⟨rfl, rfl, trivial⟩, hb_b1, h⟩
     ·refine W_regseq ?_
      refine ps 2 [(16, vb (a.Kind == (5 : Int))), (13, vb (a.Kind == (5 : Int)))] ?_
      refine WO_nil ?_
      refine ci h (fun h => ?_) fun h => ?_
      ·refine W_skip ?_
       exact ⟨_, (a.Kind == (5 : Int)), Agree.eq ⟨rfl, rfl, trivial⟩, hb_b1, h⟩
      ·refine W_reg ?_
       refine ps 2 [(17, vb (a.Kind == (6 : Int))), (13, vb (a.Kind == (6 : Int)))] ?_
       refine WO_nil ?_
       exact ⟨_, (a.Kind == (6 : Int)), Agree.eq ⟨rfl, rfl, trivial⟩, hb_b1, h⟩
   ·clear h hb_b1
    rintro _ w5 ⟨e0, v2, rfl, hb_b1, h⟩
    unfold drawers_right.j2 at h
    refine ci h (fun h => ?_) fun h => ?_
    ·refine W_regseq ?_
     refine ps 1 [(18, vp ⟨b1, 1, none⟩)] ?_
     refine lb1 tk3 hb_b1 ?_
     refine ps 2 [(20, vb (a.Id == (0 : Int))), (2, vb (a.Id == (0 : Int)))] ?_
     refine WO_nil ?_
     refine W_ret ?_
     refine blockK_ret ?_
     refine seqK_ret ?_
     exact ret1 (v := vb (a.Id == (0 : Int))) (t := 2) rfl rfl ⟨_, rfl, h⟩
    ·refine W_skip ?_
     refine blockK_normal ?_
     refine W_regseq ?_
     refine ps 1 [(2, vb false)] ?_
     refine WO_nil ?_
     refine W_ret ?_
     exact ret1 (v := vb false) (t := 2) rfl rfl ⟨_, rfl, h⟩
def slices_Contains_uint8.R (Q : Bool → World → Prop) (s_a : Option Addr) (s_n : Nat) (s_c : Nat) (v : A2_2_uint8) (w : World) : Prop := (
  Al w (.cells #[vu v.x0, vu v.x1] 108) fun b1 w1 =>
      Cl Pg 125 #[vl s_a s_n s_c, vg [vu v.x0, vu v.x1]] w1 (fun v w2 => ∃ (r1 : Int), v = vi r1 ∧ Q (decide (r1 ≥ (0 : Int))) w2))
theorem slices_Contains_uint8.ok {Q : Bool → World → Prop} {s_a : Option Addr} {s_n : Nat} {s_c : Nat} {v : A2_2_uint8} {w : World} (h : slices_Contains_uint8.R Q s_a s_n s_c v w) : Cl Pg 68 #[vl s_a s_n s_c, vg (A2_2_uint8.enc v)] w (fun v w' => ∃ (r0 : Bool), v = vb r0 ∧ Q r0 w') := by
 refine calls_args (args := [vl s_a s_n s_c, vg (A2_2_uint8.enc v)]) Tryz.func68 ?_
 unfold slices_Contains_uint8.R at h
 refine W_regseq ?_
 refine alp h ?_
 intro b1 w1 eb ew hb_b1 h
 clear eb ew
 refine ps 1 [(4, vb false)] ?_
 refine WO_nil ?_
 refine W_regseq ?_
 refine ps 1 [(5, vl s_a s_n s_c)] ?_
 refine lbn [vu v.x0, vu v.x1] tk108 hb_b1 ?_
 refine cl h ?_
 rintro _ w2 ⟨r1, rfl, h⟩
 refine ps 2 [(8, vb (decide (r1 ≥ (0 : Int)))), (4, vb (decide (r1 ≥ (0 : Int))))] ?_
 refine WO_nil ?_
 refine W_ret ?_
 exact ret1 (v := vb (decide (r1 ≥ (0 : Int)))) (t := 4) rfl rfl ⟨_, rfl, h⟩
def drawers_ways.j1 (Q : Option Addr → Nat → Nat → World → Prop) (why : Int) (v1 : Bool) (w1 : World) : Prop := (
       Ifb v1
      (Al w1 (.cells #[vu 1, vu 2] 108) fun b1 w2 =>
      Q (some ⟨b1, 0, none⟩) 1 1 w2)
      (Ifb (why == (2 : Int))
      (Al w1 (.cells #[vu 2, vu 3] 108) fun b2 w3 =>
      Q (some ⟨b2, 0, none⟩) 1 1 w3)
      (Ifb (why == (3 : Int))
      (Al w1 (.cells #[vu 2, vu 4] 108) fun b3 w4 =>
      Q (some ⟨b3, 0, none⟩) 1 1 w4)
      (Ifb (why == (4 : Int))
      (Al w1 (.cells #[vu 4, vu 3] 108) fun b4 w5 =>
      Q (some ⟨b4, 0, none⟩) 1 1 w5)
      (Ifb (why == (5 : Int))
      (Al w1 (.cells #[vu 2, vu 6, vu 6, vu 2] 108) fun b5 w6 =>
      Q (some ⟨b5, 0, none⟩) 2 2 w6)
      (Ifb (why == (6 : Int))
      (Al w1 (.cells #[vu 2, vu 5] 108) fun b6 w7 =>
      Q (some ⟨b6, 0, none⟩) 1 1 w7)
      (Ifb (why == (7 : Int))
      (Al w1 (.cells #[vu 5, vu 2] 108) fun b7 w8 =>
      Q (some ⟨b7, 0, none⟩) 1 1 w8)
      (Ifb (why == (8 : Int))
      (Al w1 (.cells #[vu 2, vu 7] 108) fun b8 w9 =>
      Q (some ⟨b8, 0, none⟩) 1 1 w9)
      (Ifb (why == (9 : Int))
      (Al w1 (.cells #[vu 7, vu 1] 108) fun b9 w10 =>
      Q (some ⟨b9, 0, none⟩) 1 1 w10)
      (Q none 0 0 w1))))))))))
def drawers_ways.R (Q : Option Addr → Nat → Nat → World → Prop) (why : Int) (w : World) : Prop := (
  Ifb (why == (1 : Int))
      (drawers_ways.j1 Q why (why == (1 : Int)) w)
      (drawers_ways.j1 Q why (why == (10 : Int)) w))
theorem drawers_ways.ok {Q : Option Addr → Nat → Nat → World → Prop} {why : Int} {w : World} (h : drawers_ways.R Q why w) : Cl Pg 69 #[vu why] w (fun v w' => ∃ (r0a : Option Addr), ∃ (r0n : Nat), ∃ (r0c : Nat), v = vl r0a r0n r0c ∧ Q r0a r0n r0c w') := by
 refine calls_args (args := [vu why]) Tryz.func69 ?_
 unfold drawers_ways.R at h
 refine W_regseq ?_
 refine ps 1 [(2, vl none 0 0)] ?_
 refine WO_nil ?_
 refine W_seq ?_
 refine W_regseq ?_
 refine ps 1 [(3, vu why)] ?_
 refine WO_nil ?_
 refine W_block ?_
 refine W_join (fun e w1 => ∃ (e0 : Env) (v1 : Bool), e = upds e0 [(3, vu why), (4, vb v1)] ∧ drawers_ways.j1 Q why v1 w1) ?_ ?_
 ·refine W_regseq ?_
  refine ps 2 [(5, vb (why == (1 : Int))), (4, vb (why == (1 : Int)))] ?_
  refine WO_nil ?_
  refine ci h (fun h => ?_) fun h => ?_
  ·refine W_skip ?_
   exact ⟨_, (why == (1 : Int)), Agree.eq ⟨rfl, rfl, trivial⟩, h⟩
  ·refine W_reg ?_
   refine ps 2 [(6, vb (why == (10 : Int))), (4, vb (why == (10 : Int)))] ?_
   refine WO_nil ?_
   exact ⟨_, (why == (10 : Int)), Agree.eq ⟨rfl, rfl, trivial⟩, h⟩
 ·clear h
  rintro _ w1 ⟨e0, v1, rfl, h⟩
  unfold drawers_ways.j1 at h
  refine ci h (fun h => ?_) fun h => ?_
  ·refine W_regseq ?_
   refine ps 1 [(7, vg [vu 1, vu 2])] ?_
   refine als 1 h ?_
   intro b1 w2 eb ew hb_b1 h
   clear eb ew hb_b1
   refine ps 1 [(2, vl (some ⟨b1, 0, none⟩) 1 1)] ?_
   refine WO_nil ?_
   refine W_ret ?_
   refine blockK_ret ?_
   refine seqK_ret ?_
   exact ret1 (v := vl (some ⟨b1, 0, none⟩) 1 1) (t := 2) rfl rfl ⟨_, _, _, rfl, h⟩
  ·refine W_regseq ?_
   refine ps 2 [(10, vb (why == (2 : Int))), (9, vb (why == (2 : Int)))] ?_
   refine WO_nil ?_
   refine ci h (fun h => ?_) fun h => ?_
   ·refine W_regseq ?_
    refine ps 1 [(11, vg [vu 2, vu 3])] ?_
    refine als 1 h ?_
    intro b2 w3 eb ew hb_b2 h
    clear eb ew hb_b2
    refine ps 1 [(2, vl (some ⟨b2, 0, none⟩) 1 1)] ?_
    refine WO_nil ?_
    refine W_ret ?_
    refine blockK_ret ?_
    refine seqK_ret ?_
    exact ret1 (v := vl (some ⟨b2, 0, none⟩) 1 1) (t := 2) rfl rfl ⟨_, _, _, rfl, h⟩
   ·refine W_regseq ?_
    refine ps 2 [(14, vb (why == (3 : Int))), (13, vb (why == (3 : Int)))] ?_
    refine WO_nil ?_
    refine ci h (fun h => ?_) fun h => ?_
    ·refine W_regseq ?_
     refine ps 1 [(15, vg [vu 2, vu 4])] ?_
     refine als 1 h ?_
     intro b3 w4 eb ew hb_b3 h
     clear eb ew hb_b3
     refine ps 1 [(2, vl (some ⟨b3, 0, none⟩) 1 1)] ?_
     refine WO_nil ?_
     refine W_ret ?_
     refine blockK_ret ?_
     refine seqK_ret ?_
     exact ret1 (v := vl (some ⟨b3, 0, none⟩) 1 1) (t := 2) rfl rfl ⟨_, _, _, rfl, h⟩
    ·refine W_regseq ?_
     refine ps 2 [(18, vb (why == (4 : Int))), (17, vb (why == (4 : Int)))] ?_
     refine WO_nil ?_
     refine ci h (fun h => ?_) fun h => ?_
     ·refine W_regseq ?_
      refine ps 1 [(19, vg [vu 4, vu 3])] ?_
      refine als 1 h ?_
      intro b4 w5 eb ew hb_b4 h
      clear eb ew hb_b4
      refine ps 1 [(2, vl (some ⟨b4, 0, none⟩) 1 1)] ?_
      refine WO_nil ?_
      refine W_ret ?_
      refine blockK_ret ?_
      refine seqK_ret ?_
      exact ret1 (v := vl (some ⟨b4, 0, none⟩) 1 1) (t := 2) rfl rfl ⟨_, _, _, rfl, h⟩
     ·refine W_regseq ?_
      refine ps 2 [(22, vb (why == (5 : Int))), (21, vb (why == (5 : Int)))] ?_
      refine WO_nil ?_
      refine ci h (fun h => ?_) fun h => ?_
      ·refine W_regseq ?_
       refine ps 2 [(23, vg [vu 2, vu 6]), (24, vg [vu 6, vu 2])] ?_
       refine als 2 h ?_
       intro b5 w6 eb ew hb_b5 h
       clear eb ew hb_b5
       refine ps 1 [(2, vl (some ⟨b5, 0, none⟩) 2 2)] ?_
       refine WO_nil ?_
       refine W_ret ?_
       refine blockK_ret ?_
       refine seqK_ret ?_
       exact ret1 (v := vl (some ⟨b5, 0, none⟩) 2 2) (t := 2) rfl rfl ⟨_, _, _, rfl, h⟩
      ·refine W_regseq ?_
       refine ps 2 [(27, vb (why == (6 : Int))), (26, vb (why == (6 : Int)))] ?_
       refine WO_nil ?_
       refine ci h (fun h => ?_) fun h => ?_
       ·refine W_regseq ?_
        refine ps 1 [(28, vg [vu 2, vu 5])] ?_
        refine als 1 h ?_
        intro b6 w7 eb ew hb_b6 h
        clear eb ew hb_b6
        refine ps 1 [(2, vl (some ⟨b6, 0, none⟩) 1 1)] ?_
        refine WO_nil ?_
        refine W_ret ?_
        refine blockK_ret ?_
        refine seqK_ret ?_
        exact ret1 (v := vl (some ⟨b6, 0, none⟩) 1 1) (t := 2) rfl rfl ⟨_, _, _, rfl, h⟩
       ·refine W_regseq ?_
        refine ps 2 [(31, vb (why == (7 : Int))), (30, vb (why == (7 : Int)))] ?_
        refine WO_nil ?_
        refine ci h (fun h => ?_) fun h => ?_
        ·refine W_regseq ?_
         refine ps 1 [(32, vg [vu 5, vu 2])] ?_
         refine als 1 h ?_
         intro b7 w8 eb ew hb_b7 h
         clear eb ew hb_b7
         refine ps 1 [(2, vl (some ⟨b7, 0, none⟩) 1 1)] ?_
         refine WO_nil ?_
         refine W_ret ?_
         refine blockK_ret ?_
         refine seqK_ret ?_
         exact ret1 (v := vl (some ⟨b7, 0, none⟩) 1 1) (t := 2) rfl rfl ⟨_, _, _, rfl, h⟩
        ·refine W_regseq ?_
         refine ps 2 [(35, vb (why == (8 : Int))), (34, vb (why == (8 : Int)))] ?_
         refine WO_nil ?_
         refine ci h (fun h => ?_) fun h => ?_
         ·refine W_regseq ?_
          refine ps 1 [(36, vg [vu 2, vu 7])] ?_
          refine als 1 h ?_
          intro b8 w9 eb ew hb_b8 h
          clear eb ew hb_b8
          refine ps 1 [(2, vl (some ⟨b8, 0, none⟩) 1 1)] ?_
          refine WO_nil ?_
          refine W_ret ?_
          refine blockK_ret ?_
          refine seqK_ret ?_
          exact ret1 (v := vl (some ⟨b8, 0, none⟩) 1 1) (t := 2) rfl rfl ⟨_, _, _, rfl, h⟩
         ·refine W_regseq ?_
          refine ps 2 [(39, vb (why == (9 : Int))), (38, vb (why == (9 : Int)))] ?_
          refine WO_nil ?_
          refine ci h (fun h => ?_) fun h => ?_
          ·refine W_regseq ?_
           refine ps 1 [(40, vg [vu 7, vu 1])] ?_
           refine als 1 h ?_
           intro b9 w10 eb ew hb_b9 h
           clear eb ew hb_b9
           refine ps 1 [(2, vl (some ⟨b9, 0, none⟩) 1 1)] ?_
           refine WO_nil ?_
           refine W_ret ?_
           refine blockK_ret ?_
           refine seqK_ret ?_
           exact ret1 (v := vl (some ⟨b9, 0, none⟩) 1 1) (t := 2) rfl rfl ⟨_, _, _, rfl, h⟩
          ·refine W_skip ?_
           refine blockK_normal ?_
           refine W_regseq ?_
           refine ps 1 [(2, vl none 0 0)] ?_
           refine WO_nil ?_
           refine W_ret ?_
           exact ret1 (v := vl none 0 0) (t := 2) rfl rfl ⟨_, _, _, rfl, h⟩
end Go.Proofs.YtcbijkakoepglaaGreat
namespace Go.Proofs.YtcbijkakoepglaaGreat
open Go Go.Wx
theorem eqI108 {d : Nat} {w : World} {a0 a1 b0 b1 : Int} : (Op.equalIn (d + 2) 108 (.agg (List.toArray [vu a0, vu a1])) (.agg (List.toArray [vu b0, vu b1]))).run Pg w = .ok ((a0 == b0) && ((a1 == b1) && true)) w := by
  have h0 : ∀ a b, (Op.equalIn (d + 1) 5 (vu a) (vu b)).run Pg w = .ok (a == b) w := fun a b => run_equalIn_int w d 5 .u8 .u8 _ _ (by kernel_rfl)
  have hp : ∀ x y, (part 5 (List.toArray [vu x, vu y]) 0).run Pg w = .ok (vu x) w := fun x y => by kernel_rfl
  have hq : ∀ x y, (part 5 (List.toArray [vu x, vu y]) 1).run Pg w = .ok (vu y) w := fun x y => by kernel_rfl
  rw [Op.equalIn]
  simp only [run_bind, run_underlying (show Pg.underlying 108 = some (.array 2 5) by kernel_rfl), (tyk_run (w := w) tk5).2]
  simp only [Std.Legacy.Range.forIn_eq_forIn_range', Std.Legacy.Range.size, List.range'_succ, List.range'_zero, List.forIn_cons, List.forIn_nil, run_bind, Nat.zero_mul, Nat.one_mul, Nat.zero_add, hp, hq, h0, run_pure]
  cases h1 : a0 == b0 <;> cases h2 : a1 == b1 <;> simp [run_bind, run_pure, h0, hp, hq, h1, h2]
end Go.Proofs.YtcbijkakoepglaaGreat
namespace Go.Proofs.YtcbijkakoepglaaGreat
open Go Go.Wx
set_option maxRecDepth 100000
def slices_Index_uint8.l1 (Q : Int → World → Prop) (s_a : Option Addr) (s_n : Nat) (v : A2_2_uint8) : Nat → Int → World → Prop
       | 0, _, _ => False
       | nl1 + 1, v1, w2 => (
       Ifb (decide (v1 < ((s_n : Nat) : Int)))
      (Dr w2 fun w3 =>
      Ix s_a s_n v1 fun p1 =>
      LdT A2_2_uint8.enc w3 (Addr.add p1 (v1.toNat * 2)) fun x1 =>
      Ifb ((v.x0 == x1.x0) && ((v.x1 == x1.x1) && true))
      (Q v1 w3)
      ((slices_Index_uint8.l1 Q s_a s_n v nl1) (IntKind.wrap .i64 (v1 + (1 : Int))) w3))
      (Q (-1) w2))
def slices_Index_uint8.R (Q : Int → World → Prop) (s_a : Option Addr) (s_n : Nat) (s_c : Nat) (v : A2_2_uint8) (w : World) : Prop := (
  Al w (.cells #[vu v.x0, vu v.x1] 108) fun b1 w1 =>
      ∃ k, slices_Index_uint8.l1 Q s_a s_n v k 0 w1)
theorem slices_Index_uint8.ok {Q : Int → World → Prop} {s_a : Option Addr} {s_n : Nat} {s_c : Nat} {v : A2_2_uint8} {w : World} (h : slices_Index_uint8.R Q s_a s_n s_c v w) : Cl Pg 125 #[vl s_a s_n s_c, vg (A2_2_uint8.enc v)] w (fun v w' => ∃ (r0 : Int), v = vi r0 ∧ Q r0 w') := by
 refine calls_args (args := [vl s_a s_n s_c, vg (A2_2_uint8.enc v)]) Tryz.func125 ?_
 unfold slices_Index_uint8.R at h
 refine W_regseq ?_
 refine alp h ?_
 intro b1 w1 eb ew hb_b1 h
 clear eb ew
 refine ps 1 [(4, vi 0)] ?_
 refine WO_nil ?_
 refine W_seq ?_
 refine W_regseq ?_
 refine ps 3 [(6, vl s_a s_n s_c), (7, vi (s_n : Nat)), (8, vi 0)] ?_
 refine WO_nil ?_
 refine W_block ?_
 obtain ⟨nl1, h⟩ := h
 refine W_loopI (fun k e w2 => ∃ (e0 : Env) (v1 : Int), e = upds e0 [(0, vl s_a s_n s_c), (3, vp ⟨b1, 0, none⟩), (7, vi (s_n : Nat)), (8, vi v1)] ∧ w2.heap[b1]? = some (.cells #[vu v.x0, vu v.x1] 108 (0, 0)) ∧ slices_Index_uint8.l1 Q s_a s_n v k v1 w2) nl1 ?_ ?_ ?_
 ·rintro _ _ ⟨_, _, _, _, h⟩
  exact h
 ·exact ⟨_, 0, Agree.eq ⟨rfl, rfl, rfl, rfl, trivial⟩, hb_b1, h⟩
 ·clear h nl1 hb_b1
  rintro nl1 _ w2 ⟨e0, v1, rfl, hb_b1, h⟩
  unfold slices_Index_uint8.l1 at h
  refine W_regseq ?_
  refine ps 1 [(9, vb (decide (v1 < ((s_n : Nat) : Int))))] ?_
  refine WO_nil ?_
  refine W_seq ?_
  refine ci h (fun h => ?_) fun h => ?_
  ·refine W_skip ?_
   refine W_seq ?_
   refine W_block ?_
   refine W_regseq ?_
   refine ps 2 [(10, vi v1), (5, vi v1)] ?_
   refine WO_nil ?_
   refine drs folM [[], [], [], [], [], [0, 4]] [.l 0, .p 1, .p 2, .p 3, .l 4, .p 5] h ?_
   intro w3 ew h
   replace hb_b1 := dr_keep ew hb_b1
   clear ew
   refine lbnC [vu v.x0, vu v.x1] tk108 hb_b1 ?_
   refine psC 2 [(12, vl s_a s_n s_c), (13, vi v1)] ?_
   refine ixC slk107 h fun p1 h => ?_
   obtain ⟨x1, hx1, h⟩ := h
   refine ldnC tk108 hx1 ?_
   refine WC_pw rfl rfl rfl (v := vb ((v.x0 == x1.x0) && ((v.x1 == x1.x1) && true))) (ex_eqlst (by kernel_rfl) (fun w => eqI108 (d := 9998)) rfl rfl rfl) ?_
   refine WC_nil ?_
   refine ci h (fun h => ?_) fun h => ?_
   ·refine W_regseq ?_
    refine ps 2 [(17, vi v1), (4, vi v1)] ?_
    refine WO_nil ?_
    refine W_ret ?_
    refine blockK_ret ?_
    refine seqK_ret ?_
    refine seqK_ret ?_
    refine blockK_ret ?_
    refine seqK_ret ?_
    exact ret1 (v := vi v1) (t := 4) rfl rfl ⟨_, rfl, h⟩
   ·refine W_skip ?_
    refine blockK_normal ?_
    refine W_reg ?_
    refine ps 2 [(18, vi (IntKind.wrap .i64 (v1 + (1 : Int)))), (8, vi (IntKind.wrap .i64 (v1 + (1 : Int))))] ?_
    refine WO_nil ?_
    exact ⟨_, IntKind.wrap .i64 (v1 + (1 : Int)), Agree.eq ⟨rfl, rfl, rfl, rfl, trivial⟩, hb_b1, h⟩
  ·refine W_exit ?_
   refine blockK_hit ?_
   refine W_regseq ?_
   refine ps 1 [(4, vi (-1))] ?_
   refine WO_nil ?_
   refine W_ret ?_
   exact ret1 (v := vi (-1)) (t := 4) rfl rfl ⟨_, rfl, h⟩
end Go.Proofs.YtcbijkakoepglaaGreat
namespace Go.Proofs.YtcbijkakoepglaaGreat
open Go Go.Wx

/-! ### the plain side -/
def rightA (k i : Int) : Bool := if k = 2 ∨ k = 3 ∨ k = 7 then isId i else if k = 1 ∨ k = 4 ∨ k = 5 ∨ k = 6 then i == 0 else false
def waysL (why : Int) : List A2_2_uint8 :=
  if why = 1 ∨ why = 10 then [⟨1, 2⟩] else if why = 2 then [⟨2, 3⟩] else if why = 3 then [⟨2, 4⟩] else if why = 4 then [⟨4, 3⟩] else if why = 5 then [⟨2, 6⟩, ⟨6, 2⟩] else if why = 6 then [⟨2, 5⟩] else if why = 7 then [⟨5, 2⟩] else
    if why = 8 then [⟨2, 7⟩] else if why = 9 then [⟨7, 1⟩] else []
def wayOk (why k k2 : Int) : Bool := (waysL why).any fun x => (k == x.x0) && ((k2 == x.x1) && true)
def fineP (p : TPosting) : Bool := decide (0 ≤ p.Day ∧ p.Day ≤ 100000) && named p.Unit && decide (1 ≤ p.N ∧ p.N ≤ 1000000000) && decide (1 ≤ p.Lot ∧ p.Lot ≤ 2000) && rightA p.From_Kind p.From_Id && rightA p.To_Kind p.To_Id && wayOk p.Why p.From_Kind p.To_Kind
def lateP : Option Int → TPosting → Bool
  | some d, p => decide (p.Day < d)
  | none, _ => false
def auditOn : List (Tplace × Int) → Option Int → List TPosting → Int × List (Tplace × Int)
  | m, _, [] => (0, m)
  | m, q, p :: ps => if !fineP p then (1, m) else if lateP q p then (7, m) else
      if p.From_Kind ≠ 1 ∧ p.From_Kind ≠ 6 ∧ getM (subM m (pFrom p) p.N) (pFrom p) < 0 then (62, m) else auditOn (addM (subM m (pFrom p) p.N) (pTo p) p.N) (some p.Day) ps
def auditM (l : List TPosting) : Int × List TTrialLine :=
  if 20000 < l.length then (2, []) else if (auditOn [] none l).1 ≠ 0 then ((auditOn [] none l).1, []) else (0, linesM (auditOn [] none l).2)

theorem auditOn_len : ∀ (l : List TPosting) (m : List (Tplace × Int)) (q : Option Int), (auditOn m q l).2.length ≤ m.length + 2 * l.length
  | [], m, q => by simp [auditOn]
  | p :: l, m, q => by
    unfold auditOn
    split
    · simp
    split
    · simp
    split
    · simp
    have h := auditOn_len l (addM (subM m (pFrom p) p.N) (pTo p) p.N) (some p.Day)
    have h1 := putM_len (pTo p) (wr (getM (subM m (pFrom p) p.N) (pTo p) + p.N)) (subM m (pFrom p) p.N)
    have h2 := putM_len (pFrom p) (wr (getM m (pFrom p) - p.N)) m
    simp only [addM, subM, List.length_cons] at h h1 h2 ⊢
    omega

/-! ### the contracts -/
theorem right_c {w : World} {a : TAccount} {Q : Bool → World → Prop} (hQ : ∀ w', Ext w w' → Q (rightA a.Kind a.Id) w') : Cl Pg 67 #[vg [vu a.Kind, vi a.Id]] w (fun v w' => ∃ r, v = vb r ∧ Q r w') := by
  refine drawers_right.ok (al_f (er w) fun b1 w1 _ _ E _ _ => ?_)
  have ids : (a.Kind = 2 ∨ a.Kind = 3 ∨ a.Kind = 7) → drawers_right.j1 Q a true w1 := fun h => by
    unfold drawers_right.j1
    refine ifb_t (al_f E fun b2 w2 _ h2 E _ _ => id_c (rd_ints [a.Id] h2) (by simp [maxLen]) fun w3 E3 => ?_)
    have := hQ w3 (E.ext E3)
    unfold rightA at this
    rw [if_pos h] at this
    simpa using this
  have nul : ¬ (a.Kind = 2 ∨ a.Kind = 3 ∨ a.Kind = 7) → (a.Kind = 1 ∨ a.Kind = 4 ∨ a.Kind = 5 ∨ a.Kind = 6) → drawers_right.j2 Q a true w1 := fun h1 h2 => by
    unfold drawers_right.j2
    have := hQ w1 E
    unfold rightA at this
    rw [if_neg h1, if_pos h2] at this
    exact ifb_t this
  have rest : ¬ (a.Kind = 2 ∨ a.Kind = 3 ∨ a.Kind = 7) → drawers_right.j1 Q a false w1 := fun h => by
    unfold drawers_right.j1
    refine ifb_f (ifb ?_)
    split
    · rename_i e; rw [e]; exact nul h (.inl (by simpa using e))
    rename_i c1
    refine ifb ?_
    split
    · rename_i e; rw [e]; exact nul h (.inr (.inl (by simpa using e)))
    rename_i c4
    refine ifb ?_
    split
    · rename_i e; rw [e]; exact nul h (.inr (.inr (.inl (by simpa using e))))
    rename_i c5
    cases c6 : a.Kind == 6 with
    | true => exact nul h (.inr (.inr (.inr (by simpa using c6))))
    | false =>
      unfold drawers_right.j2
      have := hQ w1 E
      unfold rightA at this
      rw [if_neg h, if_neg (by simp at c1 c4 c5 c6; omega)] at this
      exact ifb_f this
  refine ifb ?_
  split
  · rename_i e; rw [e]; exact ids (.inl (by simpa using e))
  rename_i c2
  refine ifb ?_
  split
  · rename_i e; rw [e]; exact ids (.inr (.inl (by simpa using e)))
  rename_i c3
  cases c7 : a.Kind == 7 with
  | true => exact ids (.inr (.inr (by simpa using c7)))
  | false => exact rest (by simp at c2 c3 c7; omega)

theorem rd_blk {α : Type} {enc : α → List Value} {sz : Nat} (he : ∀ x, (enc x).length = sz) {w : World} {b : Nat} {c : Array Value} {T : TypeId} {fr : Nat × Nat} (xs : List α) (h : At w b (.cells c T fr)) (hc : c = (xs.flatMap enc).toArray) : Rd enc sz w (some ⟨b, 0, none⟩) xs.length xs := by
  subst hc
  refine ⟨rfl, fun h => (by cases h), fun a0 ha i x hx => ?_⟩
  cases ha
  rw [Addr_add_none]
  refine Cells.of_at h ?_
  rw [he, Nat.zero_add]
  exact flat_get he xs i x hx

theorem ways_c {w : World} {why : Int} {Q : Option Addr → Nat → Nat → World → Prop} (hQ : ∀ a n c w', Rd A2_2_uint8.enc 2 w' a n (waysL why) → n ≤ 2 → Ext w w' → Q a n c w') : Cl Pg 69 #[vu why] w (fun v w' => ∃ a n c, v = vl a n c ∧ Q a n c w') := by
  have he : ∀ x : A2_2_uint8, x.enc.length = 2 := fun _ => rfl
  refine drawers_ways.ok ?_
  have one : (why = 1 ∨ why = 10) → drawers_ways.j1 Q why true w := fun h => by
    unfold drawers_ways.j1
    refine ifb_t (al fun b w' _ hat E => hQ _ _ _ _ ?_ (by omega) E)
    have : waysL why = [⟨1, 2⟩] := by unfold waysL; rw [if_pos h]
    rw [this]
    exact rd_blk he [⟨1, 2⟩] hat rfl
  have rest : ¬ (why = 1 ∨ why = 10) → drawers_ways.j1 Q why false w := fun h => by
    unfold drawers_ways.j1
    have hw : waysL why = if why = 2 then [⟨2, 3⟩] else if why = 3 then [⟨2, 4⟩] else if why = 4 then [⟨4, 3⟩] else if why = 5 then [⟨2, 6⟩, ⟨6, 2⟩] else if why = 6 then [⟨2, 5⟩] else if why = 7 then [⟨5, 2⟩] else if why = 8 then [⟨2, 7⟩] else if why = 9 then [⟨7, 1⟩] else [] := by unfold waysL; rw [if_neg h]
    refine ifb_f (ifb ?_)
    split
    · rename_i e; have e : why = 2 := by simpa using e
      refine al fun b w' _ hat E => hQ _ _ _ _ ?_ (by omega) E
      rw [hw, if_pos e]; exact rd_blk he [⟨2, 3⟩] hat rfl
    rename_i c2; have c2 : ¬ why = 2 := by simpa using c2
    rw [if_neg c2] at hw
    refine ifb ?_
    split
    · rename_i e; have e : why = 3 := by simpa using e
      refine al fun b w' _ hat E => hQ _ _ _ _ ?_ (by omega) E
      rw [hw, if_pos e]; exact rd_blk he [⟨2, 4⟩] hat rfl
    rename_i c3; have c3 : ¬ why = 3 := by simpa using c3
    rw [if_neg c3] at hw
    refine ifb ?_
    split
    · rename_i e; have e : why = 4 := by simpa using e
      refine al fun b w' _ hat E => hQ _ _ _ _ ?_ (by omega) E
      rw [hw, if_pos e]; exact rd_blk he [⟨4, 3⟩] hat rfl
    rename_i c4; have c4 : ¬ why = 4 := by simpa using c4
    rw [if_neg c4] at hw
    refine ifb ?_
    split
    · rename_i e; have e : why = 5 := by simpa using e
      refine al fun b w' _ hat E => hQ _ _ _ _ ?_ (by omega) E
      rw [hw, if_pos e]; exact rd_blk he [⟨2, 6⟩, ⟨6, 2⟩] hat rfl
    rename_i c5; have c5 : ¬ why = 5 := by simpa using c5
    rw [if_neg c5] at hw
    refine ifb ?_
    split
    · rename_i e; have e : why = 6 := by simpa using e
      refine al fun b w' _ hat E => hQ _ _ _ _ ?_ (by omega) E
      rw [hw, if_pos e]; exact rd_blk he [⟨2, 5⟩] hat rfl
    rename_i c6; have c6 : ¬ why = 6 := by simpa using c6
    rw [if_neg c6] at hw
    refine ifb ?_
    split
    · rename_i e; have e : why = 7 := by simpa using e
      refine al fun b w' _ hat E => hQ _ _ _ _ ?_ (by omega) E
      rw [hw, if_pos e]; exact rd_blk he [⟨5, 2⟩] hat rfl
    rename_i c7; have c7 : ¬ why = 7 := by simpa using c7
    rw [if_neg c7] at hw
    refine ifb ?_
    split
    · rename_i e; have e : why = 8 := by simpa using e
      refine al fun b w' _ hat E => hQ _ _ _ _ ?_ (by omega) E
      rw [hw, if_pos e]; exact rd_blk he [⟨2, 7⟩] hat rfl
    rename_i c8; have c8 : ¬ why = 8 := by simpa using c8
    rw [if_neg c8] at hw
    refine ifb ?_
    split
    · rename_i e; have e : why = 9 := by simpa using e
      refine al fun b w' _ hat E => hQ _ _ _ _ ?_ (by omega) E
      rw [hw, if_pos e]; exact rd_blk he [⟨7, 1⟩] hat rfl
    rename_i c9; have c9 : ¬ why = 9 := by simpa using c9
    rw [if_neg c9] at hw
    refine hQ _ _ _ _ ?_ (by omega) (er w)
    rw [hw]; exact Rd.nil
  refine ifb ?_
  split
  · rename_i e; rw [e]; exact one (.inl (by simpa using e))
  rename_i c1
  cases c10 : why == 10 with
  | true => exact one (.inr (by simpa using c10))
  | false => exact rest (by simp at c1 c10; omega)

theorem contains_c {w : World} {a : Option Addr} {n c : Nat} {xs : List A2_2_uint8} (hr : Rd A2_2_uint8.enc 2 w a n xs) (hn : n ≤ 2) {v : A2_2_uint8} {Q : Bool → World → Prop} (hQ : ∀ w', Ext w w' → Q (xs.any fun x => (v.x0 == x.x0) && ((v.x1 == x.x1) && true)) w') :
    Cl Pg 68 #[vl a n c, vg [vu v.x0, vu v.x1]] w (fun u w' => ∃ r, u = vb r ∧ Q r w') := by
  refine slices_Contains_uint8.ok (al_f (er w) fun b1 w1 _ _ E _ _ => slices_Index_uint8.ok (al_f E fun b2 w2 _ _ E _ _ => ⟨n + 1, ?_⟩))
  have key : ∀ m i w', i + m = n → Ext w w' → (∀ w', Ext w w' → Q ((xs.drop i).any fun x => (v.x0 == x.x0) && ((v.x1 == x.x1) && true)) w') → slices_Index_uint8.l1 (fun r1 w2 => Q (decide (r1 ≥ (0 : Int))) w2) a n v (m + 1) (i : Nat) w' := by
    intro m
    induction m with
    | zero =>
      intro i w' hi E hQ
      unfold slices_Index_uint8.l1
      rw [List.drop_of_length_le (by have := hr.1; omega)] at hQ
      exact ifb_df (by omega) (by simpa using hQ w' E)
    | succ m ih =>
      intro i w' hi E hQ
      unfold slices_Index_uint8.l1
      refine ifb_dt (by omega) (dr_f E fun w3 E3 _ => (hr.ext E3).ix (by omega) (by omega) fun a0 x ha hx hc => ⟨x, hc, ifb ?_⟩)
      simp only [Int.toNat_natCast] at hx
      obtain ⟨hl, hx'⟩ := List.getElem?_eq_some_iff.1 hx
      rw [List.drop_eq_getElem_cons hl, hx'] at hQ
      simp only [List.any_cons] at hQ
      split
      · rename_i h
        have := hQ w3 E3
        rw [h] at this
        simpa using this
      · rename_i h
        rw [wrap_succ (n := n) (by omega) (by omega) (by simp only [maxLen]; omega)]
        exact ih (i + 1) w3 (by omega) E3 fun w' E' => by
          have := hQ w' E'
          rw [show ((v.x0 == x.x0) && ((v.x1 == x.x1) && true)) = false by simpa using h, Bool.false_or] at this
          exact this
  exact key n 0 w2 (by omega) E (by simpa using hQ)

theorem audit_c {w : World} {a : Option Addr} {n c : Nat} {ps : List TPosting} (hr : Rd TPosting.enc 9 w a n ps) {Q : Option Addr → Nat → Nat → Int → World → Prop}
    (hQ : ∀ a2 n2 c2 w', Own 49 4 TTrialLine.enc w' a2 n2 c2 (auditM ps).2 → (∀ k, obk a2 c2 = some k → w.heap.size ≤ k) → Ext w w' → Q a2 n2 c2 (auditM ps).1 w') : Cl Pg 19 #[vl a n c] w (fun v w' => ∃ a2 n2 c2 r, v = .tuple #[vl a2 n2 c2, vi r] ∧ Q a2 n2 c2 r w') := by
  have hl := hr.1
  refine drawers_Audit.ok (ifb ?_)
  split
  · rename_i hlong
    have hQ := hQ none 0 0 w
    unfold auditM at hQ
    rw [if_pos (by have := of_decide_eq_true hlong; omega)] at hQ
    exact hQ Own.nil (fun _ h => by cases h) (er w)
  rename_i hlong
  have hlong : n ≤ 20000 := by simp at hlong; omega
  refine al_f (er w) fun b1 w1 hb1 hat E _ _ => ⟨n + 1, ?_⟩
  have bad : ∀ {r : Int} {w'}, r ≠ 0 → (auditOn [] none ps).1 = r → Ext w w' → Q none 0 0 r w' := fun {r w'} h0 e E' => by
    have hQ := hQ none 0 0 w'
    unfold auditM at hQ
    rw [if_neg (by omega), if_pos (by rw [e]; exact h0)] at hQ
    rw [e] at hQ
    exact hQ Own.nil (fun _ h => by cases h) E'
  have key : ∀ m i w' M q, i + m = n → Ext w w' → MapIs encPlace w' b1 M → (q = if i = 0 then none else (ps[i - 1]?).map (·.Day)) → auditOn M q (ps.drop i) = auditOn [] none ps → drawers_Audit.l1 Q a n b1 (m + 1) (i : Nat) w' := by
    intro m
    induction m with
    | zero =>
      intro i w' M q hi E' hM hq hb
      unfold drawers_Audit.l1
      rw [List.drop_of_length_le (by omega)] at hb
      simp only [auditOn] at hb
      refine ifb_df (by omega) (lines_c hM ?_ fun a2 n2 c2 w2 ho hk E2 => ?_)
      · have := auditOn_len ps [] none
        rw [← hb] at this
        simp only [List.length_nil] at this
        omega
      · have hQ := hQ a2 n2 c2 w2
        unfold auditM at hQ
        rw [if_neg (by omega), ← hb, if_neg (by simp)] at hQ
        exact hQ ho (fun k h => Nat.le_trans E'.size (hk k h)) (Ext.trans E' E2)
    | succ m ih =>
      intro i w' M q hi E' hM hq hb
      unfold drawers_Audit.l1
      refine ifb_dt (by omega) ((hr.ext E').ix (by omega) (by omega) fun a0 x ha hx hc => ⟨x, hc, al_f E' fun b2 w3 hb2 hat2 E3 e3 _ => sb_f E3 hat2 hb2 fun w4 hat4 E4 f4 => dr_f E4 fun w5 E5 e5 => ?_⟩)
      simp only [Int.toNat_natCast] at hx
      obtain ⟨hxl, hx'⟩ := List.getElem?_eq_some_iff.1 hx
      rw [List.drop_eq_getElem_cons hxl, hx'] at hb
      simp only [auditOn] at hb
      have hM5 : MapIs encPlace w5 b1 M := ((hM.ext e3).frm f4 fun e => map_ne (hM.ext e3) hat2 e.symm).ext e5
      have hat5 := hat4.ext e5
      have nok : fineP x = false → ∀ w', Ext w w' → drawers_Audit.j1 Q a n b1 (i : Nat) (drawers_Audit.l1 Q a n b1 (m + 1)) x b2 true w' := fun hf w' E' => by
        rw [hf] at hb
        simp only [Bool.not_false, if_true] at hb
        unfold drawers_Audit.j1
        exact ifb_t (bad (by decide) (by rw [← hb]) E')
      have ok : fineP x = true → ∀ w6, Ext w5 w6 → drawers_Audit.j1 Q a n b1 (i : Nat) (drawers_Audit.l1 Q a n b1 (m + 1)) x b2 false w6 := fun hf w6 e6 => by
        rw [hf] at hb
        simp only [Bool.not_true, Bool.false_eq_true, if_false] at hb
        have E6 := E5.ext e6
        have hM6 := hM5.ext e6
        have hat6 := hat5.ext e6
        unfold drawers_Audit.j1
        refine ifb_f (dr_f E6 fun w7 E7 e7 => ?_)
        have hM7 := hM6.ext e7
        have hat7 := hat6.ext e7
        have j2 : ∀ v, v = lateP q x → drawers_Audit.j2 Q b1 (i : Nat) (drawers_Audit.l1 Q a n b1 (m + 1)) x b2 v w7 := by
          intro v hv
          subst hv
          unfold drawers_Audit.j2
          refine ifb ?_
          split
          · rename_i hl
            rw [if_pos hl] at hb
            exact bad (by decide) (by rw [← hb]) E7
          rename_i hl
          rw [if_neg hl] at hb
          refine al_f E7 fun b3 w8 hb3 hat8 E8 e8 _ => sb_f E8 hat8 hb3 fun w9 hat9 E9 f9 => dr_f E9 fun w10 E10 e10 => ?_
          have nb23 : ¬ b2 = b3 := fun e => by
            subst e
            have h1 := hat7.ext e8
            exact absurd rfl (h1.neT hat8 (by simp [tyO]))
          have hM10 : MapIs encPlace w10 b1 M := ((hM7.ext e8).frm f9 fun e => map_ne (hM7.ext e8) hat8 e.symm).ext e10
          have hat10 := ((hat7.ext e8).frm f9 nb23).ext e10
          have hat10b := hat9.ext e10
          refine ⟨_, lookup_run keysPlace hM10 (pFrom x), ?_⟩
          obtain ⟨x3, x4, w11, r11, F11, r11', w12, r12, F12, h12, F1012⟩ := mapAdd (K := fun w' => MapIs encPlace w' b1 (subM M (pFrom x) x.N) ∧ Frm (fun k => k = b1) w10 w') hM10 (pFrom x) (wr (getM M (pFrom x) - x.N)) fun w' h F => ⟨h, F⟩
          have n2 := map_ne hM10 hat10
          have n3 := map_ne hM10 hat10b
          have E12 : Ext w w12 := Frm.trans E10 F1012 fun k hk e => by omega
          refine ⟨x3, x4, w11, r11, F11.blk _ hat10.lt n2, F11.blk _ hat10b.lt n3, r11', w12, r12, F12.blk _ (Nat.lt_of_lt_of_le hat10.lt F11.size) n2, F12.blk _ (Nat.lt_of_lt_of_le hat10b.lt F11.size) n3, ?_⟩
          have j3n : ¬ (x.From_Kind ≠ 1 ∧ x.From_Kind ≠ 6 ∧ getM (subM M (pFrom x) x.N) (pFrom x) < 0) → drawers_Audit.j3 Q b1 (i : Nat) (drawers_Audit.l1 Q a n b1 (m + 1)) x false w12 := fun hc => by
            rw [if_neg hc] at hb
            unfold drawers_Audit.j3
            refine ifb_f (dr_f E12 fun w13 E13 e13 => ⟨_, lookup_run keysPlace (h12.ext e13) (pTo x), ?_⟩)
            obtain ⟨y3, y4, w14, s14, G14, s14', w15, s15, G15, h15, F1315⟩ := mapAdd (K := fun w' => MapIs encPlace w' b1 (addM (subM M (pFrom x) x.N) (pTo x) x.N) ∧ Frm (fun k => k = b1) w13 w') (h12.ext e13) (pTo x) (wr (getM (subM M (pFrom x) x.N) (pTo x) + x.N)) fun w' h F => ⟨h, F⟩
            refine ⟨y3, y4, w14, s14, s14', w15, s15, ?_⟩
            rw [wrap_succ (n := n) (by omega) (by omega) (by simp only [maxLen]; omega)]
            exact ih (i + 1) w15 _ (some x.Day) (by omega) (Frm.trans E13 F1315 fun k hk e => by omega) h15 (by rw [if_neg (by omega), Nat.add_sub_cancel, hx]; rfl) hb
          refine ifb ?_
          split
          case isFalse hk => exact j3n fun h => hk (by simpa using h.1)
          rename_i hk1
          refine ifb ?_
          split
          case isFalse hk => exact j3n fun h => hk (by simpa using h.2.1)
          rename_i hk6
          refine ⟨_, lookup_run keysPlace h12 (pFrom x), ?_⟩
          cases hneg : decide (getM (subM M (pFrom x) x.N) (pFrom x) < 0) with
          | false => exact j3n fun h => absurd h.2.2 (of_decide_eq_false hneg)
          | true =>
            rw [if_pos ⟨by simpa using hk1, by simpa using hk6, of_decide_eq_true hneg⟩] at hb
            unfold drawers_Audit.j3
            exact ifb_t (bad (by decide) (by rw [← hb]) E12)
        refine ifb ?_
        split
        · rename_i h3'
          have h3' : 0 < i := by have := of_decide_eq_true h3'; omega
          have hw : IntKind.wrap .i64 (((i : Nat) : Int) - 1) = ((i - 1 : Nat) : Int) := by rw [wrap_id (by omega) (by omega)]; omega
          rw [hw]
          refine (hr.ext E7).ix (by omega) (by omega) fun a1 y ha1' hy hcy => ⟨_, (by have := hcy.at 0 rfl; rwa [add_add, Nat.add_zero] at this), j2 _ ?_⟩
          simp only [Int.toNat_natCast] at hy
          rw [if_neg (by omega), hy] at hq
          subst hq
          rfl
        · rename_i h3'
          have h3' : i = 0 := by simp at h3'; omega
          rw [if_pos h3'] at hq
          subst hq
          exact j2 _ rfl
      refine ifb ?_
      split
      · rename_i h; exact nok (by unfold fineP; rw [decide_eq_false (fun h' => by have := of_decide_eq_true h; omega)]; simp) _ E5
      rename_i d1
      refine ifb ?_
      split
      · rename_i h; exact nok (by unfold fineP; rw [decide_eq_false (fun h' => by have := of_decide_eq_true h; omega)]; simp) _ E5
      rename_i d2
      have p1 : decide (0 ≤ x.Day ∧ x.Day ≤ 100000) = true := by simp at d1 d2 ⊢; omega
      refine named_c fun w6 e6 => ⟨e6.blk _ hat5.lt id, ?_⟩
      have E6 := E5.ext e6
      have hat6 := hat5.ext e6
      refine ifb ?_
      split
      · rename_i h; exact nok (by unfold fineP; rw [show named x.Unit = false by simpa using h]; simp) _ E6
      rename_i d3
      have p2 : named x.Unit = true := by simpa using d3
      refine ifb ?_
      split
      · rename_i h; exact nok (by unfold fineP; rw [show decide (1 ≤ x.N ∧ x.N ≤ 1000000000) = false from decide_eq_false (fun h' => by have := of_decide_eq_true h; omega)]; simp) _ E6
      rename_i d4
      refine ifb ?_
      split
      · rename_i h; exact nok (by unfold fineP; rw [show decide (1 ≤ x.N ∧ x.N ≤ 1000000000) = false from decide_eq_false (fun h' => by have := of_decide_eq_true h; omega)]; simp) _ E6
      rename_i d5
      have p3 : decide (1 ≤ x.N ∧ x.N ≤ 1000000000) = true := by simp at d4 d5 ⊢; omega
      refine ifb ?_
      split
      · rename_i h; exact nok (by unfold fineP; rw [show decide (1 ≤ x.Lot ∧ x.Lot ≤ 2000) = false from decide_eq_false (fun h' => by have := of_decide_eq_true h; omega)]; simp) _ E6
      rename_i d6
      refine ifb ?_
      split
      · rename_i h; exact nok (by unfold fineP; rw [show decide (1 ≤ x.Lot ∧ x.Lot ≤ 2000) = false from decide_eq_false (fun h' => by have := of_decide_eq_true h; omega)]; simp) _ E6
      rename_i d7
      have p4 : decide (1 ≤ x.Lot ∧ x.Lot ≤ 2000) = true := by simp at d6 d7 ⊢; omega
      refine right_c (a := ⟨x.From_Kind, x.From_Id⟩) fun w7 e7 => ⟨e7.blk _ hat6.lt id, ?_⟩
      have E7 := E6.ext e7
      have hat7 := hat6.ext e7
      refine ifb ?_
      split
      · rename_i h; exact nok (by unfold fineP; rw [show rightA x.From_Kind x.From_Id = false by simpa using h]; simp) _ E7
      rename_i d8
      have p5 : rightA x.From_Kind x.From_Id = true := by simpa using d8
      refine right_c (a := ⟨x.To_Kind, x.To_Id⟩) fun w8 e8 => ⟨e8.blk _ hat7.lt id, ?_⟩
      have E8 := E7.ext e8
      have hat8 := hat7.ext e8
      refine ifb ?_
      split
      · rename_i h; exact nok (by unfold fineP; rw [show rightA x.To_Kind x.To_Id = false by simpa using h]; simp) _ E8
      rename_i d9
      have p6 : rightA x.To_Kind x.To_Id = true := by simpa using d9
      refine ways_c fun a4 n4 c4 w9 r9 hn4 e9 => ⟨e9.blk _ hat8.lt id, contains_c (v := ⟨x.From_Kind, x.To_Kind⟩) r9 hn4 fun w10 e10 => ⟨e10.blk _ (hat8.ext e9).lt id, ?_⟩⟩
      show drawers_Audit.j1 Q a n b1 (i : Nat) (drawers_Audit.l1 Q a n b1 (m + 1)) x b2 (!wayOk x.Why x.From_Kind x.To_Kind) w10
      cases hway : wayOk x.Why x.From_Kind x.To_Kind with
      | false => exact nok (by unfold fineP; rw [hway]; simp) _ ((E8.ext e9).ext e10)
      | true => exact ok (by unfold fineP; rw [p1, p2, p3, p4, p5, p6, hway]; rfl) _ ((((e6.trans e7).trans e8).trans e9).trans e10)
  exact key n 0 w1 [] none (by omega) E (MapIs.new hat) (by simp) (by simp)
end Go.Proofs.YtcbijkakoepglaaGreat
namespace Go.Proofs.YtcbijkakoepglaaGreat
open Go Go.Wx
set_option maxRecDepth 100000
def ref06_Audit.j1 (Q : Option Addr → Nat → Nat → Int → World → Prop) (v1_a : Option Addr) (v1_n : Nat) (v1_c : Nat) (v2 : Int) (kl1 : Option Addr → Nat → Nat → Int → World → Prop) (x1 : TPosting) (b1 : Nat) (v3 : Bool) (w5 : World) : Prop := (
       Ifb v3
      (Q none 0 0 7 w5)
      (Cl Pg 72 #[vl v1_a v1_n v1_c, vg [vu x1.From_Kind, vi x1.From_Id], vs x1.Unit, vi (IntKind.wrap .i64 (0 - x1.N))] w5 (fun v w6 => ∃ (r2_a : Option Addr), ∃ (r2_n : Nat), ∃ (r2_c : Nat), v = vl r2_a r2_n r2_c ∧ Kp b1 w5 w6 ∧ Cl Pg 72 #[vl r2_a r2_n r2_c, vg [vu x1.To_Kind, vi x1.To_Id], vs x1.Unit, vi x1.N] w6 (fun v w7 => ∃ (r3_a : Option Addr), ∃ (r3_n : Nat), ∃ (r3_c : Nat), v = vl r3_a r3_n r3_c ∧ Kp b1 w6 w7 ∧ Cl Pg 73 #[vl r3_a r3_n r3_c, vg [vu x1.From_Kind, vi x1.From_Id], vs x1.Unit] w7 (fun v w8 => ∃ (r4 : Int), v = vi r4 ∧ Kp b1 w7 w8 ∧ Ifb (((x1.From_Kind != (1 : Int)) && (x1.From_Kind != (6 : Int))) && (decide (r4 < (0 : Int))))
      (Q none 0 0 62 w8)
      (kl1 r3_a r3_n r3_c (IntKind.wrap .i64 (v2 + (1 : Int))) w8))))))
def ref06_Audit.l1 (Q : Option Addr → Nat → Nat → Int → World → Prop) (l_a : Option Addr) (l_n : Nat) : Nat → Option Addr → Nat → Nat → Int → World → Prop
       | 0, _, _, _, _, _ => False
       | nl1 + 1, v1_a, v1_n, v1_c, v2, w1 => (
       Ifb (decide (v2 < ((l_n : Nat) : Int)))
      (Ix l_a l_n v2 fun p1 =>
      LdT TPosting.enc w1 (Addr.add p1 (v2.toNat * 9)) fun x1 =>
      Al w1 (.cells #[vi 0, vs (ByteArray.mk #[]), vi 0, vu 0, vi 0, vu 0, vi 0, vu 0, vi 0] 42) fun b1 w2 =>
      Sb w2 b1 (.cells #[vi x1.Day, vs x1.Unit, vi x1.N, vu x1.From_Kind, vi x1.From_Id, vu x1.To_Kind, vi x1.To_Id, vu x1.Why, vi x1.Lot] 42 (0, 0)) fun w3 =>
      Cl Pg 71 #[vg (TPosting.enc x1)] w3 (fun v w4 => ∃ (r1 : Bool), v = vb r1 ∧ Kp b1 w3 w4 ∧ Ifb (!r1)
      (Q none 0 0 1 w4)
      (Dr w4 fun w9 =>
      Ifb (decide (v2 > (0 : Int)))
      (Ix l_a l_n (IntKind.wrap .i64 (v2 - (1 : Int))) fun p2 =>
      LdI .i64 w9 (Addr.add p2 ((IntKind.wrap .i64 (v2 - (1 : Int))).toNat * 9)) fun x2 =>
      ref06_Audit.j1 Q v1_a v1_n v1_c v2 (ref06_Audit.l1 Q l_a l_n nl1) x1 b1 (decide (x1.Day < x2)) w9)
      (ref06_Audit.j1 Q v1_a v1_n v1_c v2 (ref06_Audit.l1 Q l_a l_n nl1) x1 b1 false w9))))
      (Cl Pg 74 #[vl v1_a v1_n v1_c] w1 (fun v w10 => ∃ (r5_a : Option Addr), ∃ (r5_n : Nat), ∃ (r5_c : Nat), v = vl r5_a r5_n r5_c ∧ Q r5_a r5_n r5_c 0 w10)))
def ref06_Audit.R (Q : Option Addr → Nat → Nat → Int → World → Prop) (l_a : Option Addr) (l_n : Nat) (l_c : Nat) (w : World) : Prop := (
  Ifb (decide (((l_n : Nat) : Int) > (20000 : Int)))
      (Q none 0 0 2 w)
      (∃ k, ref06_Audit.l1 Q l_a l_n k none 0 0 0 w))
theorem ref06_Audit.ok {Q : Option Addr → Nat → Nat → Int → World → Prop} {l_a : Option Addr} {l_n : Nat} {l_c : Nat} {w : World} (h : ref06_Audit.R Q l_a l_n l_c w) : Cl Pg 20 #[vl l_a l_n l_c] w (fun v w' => ∃ (r0a : Option Addr), ∃ (r0n : Nat), ∃ (r0c : Nat), ∃ (r1 : Int), v = .tuple #[vl r0a r0n r0c, vi r1] ∧ Q r0a r0n r0c r1 w') := by
 refine calls_args (args := [vl l_a l_n l_c]) Tryz.func20 ?_
 unfold ref06_Audit.R at h
 refine W_regseq ?_
 refine ps 2 [(2, vl none 0 0), (3, vi 0)] ?_
 refine WO_nil ?_
 refine W_seq ?_
 refine W_regseq ?_
 refine ps 3 [(9, vl l_a l_n l_c), (10, vi (l_n : Nat)), (11, vb (decide (((l_n : Nat) : Int) > (20000 : Int))))] ?_
 refine WO_nil ?_
 refine ci h (fun h => ?_) fun h => ?_
 ·refine W_regseq ?_
  refine ps 2 [(2, vl none 0 0), (3, vi 2)] ?_
  refine WO_nil ?_
  refine W_ret ?_
  refine seqK_ret ?_
  exact ret2 (v := vl none 0 0) (v' := vi 2) (t := 2) (u := 3) rfl rfl rfl ⟨_, _, _, _, rfl, h⟩
 ·refine W_skip ?_
  refine W_regseq ?_
  refine ps 1 [(4, vl none 0 0)] ?_
  refine WO_nil ?_
  refine W_seq ?_
  refine W_regseq ?_
  refine ps 1 [(5, vi 0)] ?_
  refine WO_nil ?_
  refine W_block ?_
  obtain ⟨nl1, h⟩ := h
  refine W_loopI (fun k e w1 => ∃ (e0 : Env) (v1_a : Option Addr) (v1_n : Nat) (v1_c : Nat) (v2 : Int), e = upds e0 [(0, vl l_a l_n l_c), (4, vl v1_a v1_n v1_c), (5, vi v2)] ∧ ref06_Audit.l1 Q l_a l_n k v1_a v1_n v1_c v2 w1) nl1 ?_ ?_ ?_
  ·rintro _ _ ⟨_, _, _, _, _, _, h⟩
   exact h
  ·exact ⟨_, none, 0, 0, 0, Agree.eq ⟨rfl, rfl, rfl, trivial⟩, h⟩
  ·clear h nl1
   rintro nl1 _ w1 ⟨e0, v1_a, v1_n, v1_c, v2, rfl, h⟩
   unfold ref06_Audit.l1 at h
   refine W_seq ?_
   refine W_regseq ?_
   refine ps 4 [(12, vi v2), (13, vl l_a l_n l_c), (14, vi (l_n : Nat)), (15, vb (decide (v2 < ((l_n : Nat) : Int))))] ?_
   refine WO_nil ?_
   refine ci h (fun h => ?_) fun h => ?_
   ·refine W_skip ?_
    refine W_seq ?_
    refine W_block ?_
    refine W_regseq ?_
    refine ps 2 [(18, vl l_a l_n l_c), (19, vi v2)] ?_
    refine ix slk22 h fun p1 h => ?_
    obtain ⟨x1, hx1, h⟩ := h
    refine ldn tk42 hx1 ?_
    refine alp h ?_
    intro b1 w2 eb ew hb_b1 h
    clear eb ew
    refine sb tk42 hb_b1 h ?_
    intro w3 ew hb_ h
    replace hb_b1 := hb_
    clear ew
    refine WO_nil ?_
    refine W_regseq ?_
    refine lbn [vi x1.Day, vs x1.Unit, vi x1.N, vu x1.From_Kind, vi x1.From_Id, vu x1.To_Kind, vi x1.To_Id, vu x1.Why, vi x1.Lot] tk42 hb_b1 ?_
    refine cl h ?_
    rintro _ w4 ⟨r1, rfl, hk0, h⟩
    replace hb_b1 := kp_at hk0 hb_b1
    refine ps 1 [(7, vb r1)] ?_
    refine WO_nil ?_
    refine W_seq ?_
    refine W_regseq ?_
    refine ps 2 [(24, vb r1), (25, vb (!r1))] ?_
    refine WO_nil ?_
    refine ci h (fun h => ?_) fun h => ?_
    ·refine W_regseq ?_
     refine ps 2 [(2, vl none 0 0), (3, vi 1)] ?_
     refine WO_nil ?_
     refine W_ret ?_
     refine seqK_ret ?_
     refine blockK_ret ?_
     refine seqK_ret ?_
     refine seqK_ret ?_
     refine blockK_ret ?_
     refine seqK_ret ?_
     exact ret2 (v := vl none 0 0) (v' := vi 1) (t := 2) (u := 3) rfl rfl rfl ⟨_, _, _, _, rfl, h⟩
    ·refine W_skip ?_
     refine W_seq ?_
     refine W_join (fun e w5 => ∃ (e0 : Env) (v3 : Bool), e = upds e0 [(0, vl l_a l_n l_c), (4, vl v1_a v1_n v1_c), (5, vi v2), (6, vp ⟨b1, 0, none⟩), (38, vb v3)] ∧ w5.heap[b1]? = some (.cells #[vi x1.Day, vs x1.Unit, vi x1.N, vu x1.From_Kind, vi x1.From_Id, vu x1.To_Kind, vi x1.To_Id, vu x1.Why, vi x1.Lot] 42 (0, 0)) ∧ ref06_Audit.j1 Q v1_a v1_n v1_c v2 (ref06_Audit.l1 Q l_a l_n nl1) x1 b1 v3 w5) ?_ ?_
     ·refine drw folM [[], [], [], [], [], [], [], [], [], [], [], [4, 10], [4, 10]] [.p 0, .p 1, .p 2, .p 3, .l 4, .p 5, .p 6, .p 7, .p 8, .p 9, .l 10, .p 11, .p 12] h ?_
      intro w9 ew h
      replace hb_b1 := dr_keep ew hb_b1
      clear ew
      refine psC 3 [(26, vi v2), (27, vb (decide (v2 > (0 : Int)))), (28, vb (decide (v2 > (0 : Int))))] ?_
      refine csC 28 h (fun h => ?_) fun h => ?_
      ·refine psC 1 [(29, vp ⟨b1, 0, none⟩)] ?_
       refine lb1C tk3 hb_b1 ?_
       refine psC 3 [(31, vl l_a l_n l_c), (32, vi v2), (33, vi (IntKind.wrap .i64 (v2 - (1 : Int))))] ?_
       refine ixC slk22 h fun p2 h => ?_
       refine psC 1 [(35, vp (Addr.add p2 ((IntKind.wrap .i64 (v2 - (1 : Int))).toNat * 9)))] ?_
       obtain ⟨x2, hx2, h⟩ := h
       refine ld1C tk3 hx2 ?_
       refine psC 2 [(37, vb (decide (x1.Day < x2))), (38, vb (decide (x1.Day < x2)))] ?_
       refine WC_nil ?_
       exact ⟨_, decide (x1.Day < x2), Agree.eq ⟨rfl, rfl, rfl, rfl, rfl, trivial⟩, hb_b1, h⟩
      ·refine psC 1 [(29, undef)] ?_
       refine WC_lskip rfl rfl rfl ?_
       refine psC 5 [(31, undef), (32, undef), (33, undef), (34, undef), (35, undef)] ?_
       refine WC_lskip rfl rfl rfl ?_
       refine psC 2 [(37, undef), (38, vb false)] ?_
       refine WC_nil ?_
       exact ⟨_, false, Agree.eq ⟨rfl, rfl, rfl, rfl, rfl, trivial⟩, hb_b1, h⟩
     ·clear h hb_b1
      rintro _ w5 ⟨e0, v3, rfl, hb_b1, h⟩
      unfold ref06_Audit.j1 at h
      refine ci h (fun h => ?_) fun h => ?_
      ·refine W_regseq ?_
       refine ps 2 [(2, vl none 0 0), (3, vi 7)] ?_
       refine WO_nil ?_
       refine W_ret ?_
       refine seqK_ret ?_
       refine blockK_ret ?_
       refine seqK_ret ?_
       refine seqK_ret ?_
       refine blockK_ret ?_
       refine seqK_ret ?_
       exact ret2 (v := vl none 0 0) (v' := vi 7) (t := 2) (u := 3) rfl rfl rfl ⟨_, _, _, _, rfl, h⟩
      ·refine W_skip ?_
       refine W_regseq ?_
       refine ps 2 [(39, vl v1_a v1_n v1_c), (40, vp ⟨b1, 3, none⟩)] ?_
       refine lbn [vu x1.From_Kind, vi x1.From_Id] tk40 hb_b1 ?_
       refine ps 1 [(42, vp ⟨b1, 1, none⟩)] ?_
       refine lb1 tk9 hb_b1 ?_
       refine ps 1 [(44, vp ⟨b1, 2, none⟩)] ?_
       refine lb1 tk3 hb_b1 ?_
       refine ps 1 [(46, vi (IntKind.wrap .i64 (0 - x1.N)))] ?_
       refine cl h ?_
       rintro _ w6 ⟨r2_a, r2_n, r2_c, rfl, hk0, h⟩
       replace hb_b1 := kp_at hk0 hb_b1
       refine ps 1 [(4, vl r2_a r2_n r2_c)] ?_
       refine WO_nil ?_
       refine W_regseq ?_
       refine ps 2 [(48, vl r2_a r2_n r2_c), (49, vp ⟨b1, 5, none⟩)] ?_
       refine lbn [vu x1.To_Kind, vi x1.To_Id] tk40 hb_b1 ?_
       refine ps 1 [(51, vp ⟨b1, 1, none⟩)] ?_
       refine lb1 tk9 hb_b1 ?_
       refine ps 1 [(53, vp ⟨b1, 2, none⟩)] ?_
       refine lb1 tk3 hb_b1 ?_
       refine cl h ?_
       rintro _ w7 ⟨r3_a, r3_n, r3_c, rfl, hk0, h⟩
       replace hb_b1 := kp_at hk0 hb_b1
       refine ps 1 [(4, vl r3_a r3_n r3_c)] ?_
       refine WO_nil ?_
       refine W_regseq ?_
       refine ps 2 [(56, vl r3_a r3_n r3_c), (57, vp ⟨b1, 3, none⟩)] ?_
       refine lbn [vu x1.From_Kind, vi x1.From_Id] tk40 hb_b1 ?_
       refine ps 1 [(59, vp ⟨b1, 1, none⟩)] ?_
       refine lb1 tk9 hb_b1 ?_
       refine cl h ?_
       rintro _ w8 ⟨r4, rfl, hk0, h⟩
       replace hb_b1 := kp_at hk0 hb_b1
       refine ps 1 [(8, vi r4)] ?_
       refine WO_nil ?_
       refine W_regseq ?_
       refine ps 2 [(62, vp ⟨b1, 3, none⟩), (63, vp ⟨b1, 3, none⟩)] ?_
       refine lb1 tk5 hb_b1 ?_
       refine ps 2 [(65, vb (x1.From_Kind != (1 : Int))), (66, vb (x1.From_Kind != (1 : Int)))] ?_
       refine WO_conv (fun e w_ => ∃ (e0 : Env), e = upds e0 [(0, vl l_a l_n l_c), (4, vl r3_a r3_n r3_c), (5, vi v2), (75, vb (((x1.From_Kind != (1 : Int)) && (x1.From_Kind != (6 : Int))) && (decide (r4 < (0 : Int)))))] ∧ w8 = w_) ?_ ?_
       ·clear h
        refine WO_case 66 (b := (x1.From_Kind != (1 : Int))) rfl (fun hb0 => ?_) (fun hb0 => ?_)
        ·refine ps 2 [(67, vp ⟨b1, 3, none⟩), (68, vp ⟨b1, 3, none⟩)] ?_
         refine lb1 tk5 hb_b1 ?_
         refine ps 3 [(70, vb (x1.From_Kind != (6 : Int))), (71, vb (x1.From_Kind != (6 : Int))), (72, vb (x1.From_Kind != (6 : Int)))] ?_
         refine WO_case 72 (b := (x1.From_Kind != (6 : Int))) rfl (fun hb1 => ?_) (fun hb1 => ?_)
         ·refine ps 3 [(73, vi r4), (74, vb (decide (r4 < (0 : Int)))), (75, vb (decide (r4 < (0 : Int))))] ?_
          exact WO_nil ⟨_, Agree.eq ⟨rfl, rfl, rfl, (by first | rfl | (simp only [hb0, hb1, Bool.true_and, Bool.false_and, Bool.true_or, Bool.false_or, Bool.and_true, Bool.and_false, Bool.or_true, Bool.or_false]; done) | (simp only [hb0, hb1]; rfl) | (simp [hb0, hb1]; done)), trivial⟩, rfl⟩
         ·refine ps 3 [(73, undef), (74, undef), (75, vb false)] ?_
          exact WO_nil ⟨_, Agree.eq ⟨rfl, rfl, rfl, (by first | rfl | (simp only [hb0, hb1, Bool.true_and, Bool.false_and, Bool.true_or, Bool.false_or, Bool.and_true, Bool.and_false, Bool.or_true, Bool.or_false]; done) | (simp only [hb0, hb1]; rfl) | (simp [hb0, hb1]; done)), trivial⟩, rfl⟩
        ·refine ps 9 [(67, undef), (68, undef), (69, undef), (70, undef), (71, vb false), (72, vb false), (73, undef), (74, undef), (75, vb false)] ?_
         exact WO_nil ⟨_, Agree.eq ⟨rfl, rfl, rfl, (by first | rfl | (simp only [hb0, Bool.true_and, Bool.false_and, Bool.true_or, Bool.false_or, Bool.and_true, Bool.and_false, Bool.or_true, Bool.or_false]; done) | (simp only [hb0]; rfl) | (simp [hb0]; done)), trivial⟩, rfl⟩
       ·rintro _ _ ⟨e0, rfl, rfl⟩
        refine ci h (fun h => ?_) fun h => ?_
        ·refine W_regseq ?_
         refine ps 2 [(2, vl none 0 0), (3, vi 62)] ?_
         refine WO_nil ?_
         refine W_ret ?_
         refine blockK_ret ?_
         refine seqK_ret ?_
         refine seqK_ret ?_
         refine blockK_ret ?_
         refine seqK_ret ?_
         exact ret2 (v := vl none 0 0) (v' := vi 62) (t := 2) (u := 3) rfl rfl rfl ⟨_, _, _, _, rfl, h⟩
        ·refine W_skip ?_
         refine blockK_normal ?_
         refine W_reg ?_
         refine ps 3 [(16, vi v2), (17, vi (IntKind.wrap .i64 (v2 + (1 : Int)))), (5, vi (IntKind.wrap .i64 (v2 + (1 : Int))))] ?_
         refine WO_nil ?_
         exact ⟨_, r3_a, r3_n, r3_c, IntKind.wrap .i64 (v2 + (1 : Int)), Agree.eq ⟨rfl, rfl, rfl, trivial⟩, h⟩
   ·refine W_exit ?_
    refine blockK_hit ?_
    refine W_regseq ?_
    refine ps 1 [(76, vl v1_a v1_n v1_c)] ?_
    refine cl h ?_
    rintro _ w10 ⟨r5_a, r5_n, r5_c, rfl, h⟩
    refine ps 2 [(2, vl r5_a r5_n r5_c), (3, vi 0)] ?_
    refine WO_nil ?_
    refine W_ret ?_
    exact ret2 (v := vl r5_a r5_n r5_c) (v' := vi 0) (t := 2) (u := 3) rfl rfl rfl ⟨_, _, _, _, rfl, h⟩
def ref06_wellFormed.R (Q : Bool → World → Prop) (x : TPosting) (w : World) : Prop := (
  Al w (.cells #[vi x.Day, vs x.Unit, vi x.N, vu x.From_Kind, vi x.From_Id, vu x.To_Kind, vi x.To_Id, vu x.Why, vi x.Lot] 42) fun b1 w1 =>
      Cl Pg 132 #[vi x.Day, vi 0, vi 100000] w1 (fun v w2 => ∃ (r1 : Bool), v = vb r1 ∧ Kp b1 w1 w2 ∧ Cl Pg 133 #[vs x.Unit] w2 (fun v w3 => ∃ (r2 : Bool), v = vb r2 ∧ Kp b1 w2 w3 ∧ Cl Pg 132 #[vi x.N, vi 1, vi 1000000000] w3 (fun v w4 => ∃ (r3 : Bool), v = vb r3 ∧ Kp b1 w3 w4 ∧ Cl Pg 132 #[vi x.Lot, vi 1, vi 2000] w4 (fun v w5 => ∃ (r4 : Bool), v = vb r4 ∧ Kp b1 w4 w5 ∧ Cl Pg 134 #[vg [vu x.From_Kind, vi x.From_Id]] w5 (fun v w6 => ∃ (r5 : Bool), v = vb r5 ∧ Kp b1 w5 w6 ∧ Cl Pg 134 #[vg [vu x.To_Kind, vi x.To_Id]] w6 (fun v w7 => ∃ (r6 : Bool), v = vb r6 ∧ Kp b1 w6 w7 ∧ Cl Pg 135 #[vu x.Why, vu x.From_Kind, vu x.To_Kind] w7 (fun v w8 => ∃ (r7 : Bool), v = vb r7 ∧ Q ((((((r1 && r2) && r3) && r4) && r5) && r6) && r7) w8))))))))
theorem ref06_wellFormed.ok {Q : Bool → World → Prop} {x : TPosting} {w : World} (h : ref06_wellFormed.R Q x w) : Cl Pg 71 #[vg (TPosting.enc x)] w (fun v w' => ∃ (r0 : Bool), v = vb r0 ∧ Q r0 w') := by
 refine calls_args (args := [vg (TPosting.enc x)]) Tryz.func71 ?_
 unfold ref06_wellFormed.R at h
 refine W_regseq ?_
 refine alp h ?_
 intro b1 w1 eb ew hb_b1 h
 clear eb ew
 refine ps 1 [(2, vb false)] ?_
 refine WO_nil ?_
 refine W_regseq ?_
 refine ps 1 [(10, vp ⟨b1, 0, none⟩)] ?_
 refine lb1 tk3 hb_b1 ?_
 refine cl h ?_
 rintro _ w2 ⟨r1, rfl, hk0, h⟩
 replace hb_b1 := kp_at hk0 hb_b1
 refine ps 1 [(3, vb r1)] ?_
 refine WO_nil ?_
 refine W_regseq ?_
 refine ps 1 [(13, vp ⟨b1, 1, none⟩)] ?_
 refine lb1 tk9 hb_b1 ?_
 refine cl h ?_
 rintro _ w3 ⟨r2, rfl, hk0, h⟩
 replace hb_b1 := kp_at hk0 hb_b1
 refine ps 1 [(4, vb r2)] ?_
 refine WO_nil ?_
 refine W_regseq ?_
 refine ps 1 [(16, vp ⟨b1, 2, none⟩)] ?_
 refine lb1 tk3 hb_b1 ?_
 refine cl h ?_
 rintro _ w4 ⟨r3, rfl, hk0, h⟩
 replace hb_b1 := kp_at hk0 hb_b1
 refine ps 1 [(5, vb r3)] ?_
 refine WO_nil ?_
 refine W_regseq ?_
 refine ps 1 [(19, vp ⟨b1, 8, none⟩)] ?_
 refine lb1 tk3 hb_b1 ?_
 refine cl h ?_
 rintro _ w5 ⟨r4, rfl, hk0, h⟩
 replace hb_b1 := kp_at hk0 hb_b1
 refine ps 1 [(6, vb r4)] ?_
 refine WO_nil ?_
 refine W_regseq ?_
 refine ps 1 [(22, vp ⟨b1, 3, none⟩)] ?_
 refine lbn [vu x.From_Kind, vi x.From_Id] tk40 hb_b1 ?_
 refine cl h ?_
 rintro _ w6 ⟨r5, rfl, hk0, h⟩
 replace hb_b1 := kp_at hk0 hb_b1
 refine ps 1 [(7, vb r5)] ?_
 refine WO_nil ?_
 refine W_regseq ?_
 refine ps 1 [(25, vp ⟨b1, 5, none⟩)] ?_
 refine lbn [vu x.To_Kind, vi x.To_Id] tk40 hb_b1 ?_
 refine cl h ?_
 rintro _ w7 ⟨r6, rfl, hk0, h⟩
 replace hb_b1 := kp_at hk0 hb_b1
 refine ps 1 [(8, vb r6)] ?_
 refine WO_nil ?_
 refine W_regseq ?_
 refine ps 1 [(28, vp ⟨b1, 7, none⟩)] ?_
 refine lb1 tk5 hb_b1 ?_
 refine ps 2 [(30, vp ⟨b1, 3, none⟩), (31, vp ⟨b1, 3, none⟩)] ?_
 refine lb1 tk5 hb_b1 ?_
 refine ps 2 [(33, vp ⟨b1, 5, none⟩), (34, vp ⟨b1, 5, none⟩)] ?_
 refine lb1 tk5 hb_b1 ?_
 refine cl h ?_
 rintro _ w8 ⟨r7, rfl, h⟩
 refine ps 1 [(9, vb r7)] ?_
 refine WO_nil ?_
 refine W_regseq ?_
 refine ps 2 [(37, vb r1), (38, vb r1)] ?_
 refine WO_conv (fun e w_ => ∃ (e0 : Env), e = upds e0 [(2, vb ((((((r1 && r2) && r3) && r4) && r5) && r6) && r7))] ∧ w8 = w_) ?_ ?_
 ·clear h
  refine WO_case 38 (b := r1) rfl (fun hb0 => ?_) (fun hb0 => ?_)
  ·refine ps 3 [(39, vb r2), (40, vb r2), (41, vb r2)] ?_
   refine WO_case 41 (b := r2) rfl (fun hb1 => ?_) (fun hb1 => ?_)
   ·refine ps 3 [(42, vb r3), (43, vb r3), (44, vb r3)] ?_
    refine WO_case 44 (b := r3) rfl (fun hb2 => ?_) (fun hb2 => ?_)
    ·refine ps 3 [(45, vb r4), (46, vb r4), (47, vb r4)] ?_
     refine WO_case 47 (b := r4) rfl (fun hb3 => ?_) (fun hb3 => ?_)
     ·refine ps 3 [(48, vb r5), (49, vb r5), (50, vb r5)] ?_
      refine WO_case 50 (b := r5) rfl (fun hb4 => ?_) (fun hb4 => ?_)
      ·refine ps 3 [(51, vb r6), (52, vb r6), (53, vb r6)] ?_
       refine WO_case 53 (b := r6) rfl (fun hb5 => ?_) (fun hb5 => ?_)
       ·refine ps 3 [(54, vb r7), (55, vb r7), (2, vb r7)] ?_
        exact WO_nil ⟨_, Agree.eq ⟨(by first | rfl | (simp only [hb0, hb1, hb2, hb3, hb4, hb5, Bool.true_and, Bool.false_and, Bool.true_or, Bool.false_or, Bool.and_true, Bool.and_false, Bool.or_true, Bool.or_false]; done) | (simp only [hb0, hb1, hb2, hb3, hb4, hb5]; rfl) | (simp [hb0, hb1, hb2, hb3, hb4, hb5]; done)), trivial⟩, rfl⟩
       ·refine ps 3 [(54, undef), (55, vb false), (2, vb false)] ?_
        exact WO_nil ⟨_, Agree.eq ⟨(by first | rfl | (simp only [hb0, hb1, hb2, hb3, hb4, hb5, Bool.true_and, Bool.false_and, Bool.true_or, Bool.false_or, Bool.and_true, Bool.and_false, Bool.or_true, Bool.or_false]; done) | (simp only [hb0, hb1, hb2, hb3, hb4, hb5]; rfl) | (simp [hb0, hb1, hb2, hb3, hb4, hb5]; done)), trivial⟩, rfl⟩
      ·refine ps 6 [(51, undef), (52, vb false), (53, vb false), (54, undef), (55, vb false), (2, vb false)] ?_
       exact WO_nil ⟨_, Agree.eq ⟨(by first | rfl | (simp only [hb0, hb1, hb2, hb3, hb4, Bool.true_and, Bool.false_and, Bool.true_or, Bool.false_or, Bool.and_true, Bool.and_false, Bool.or_true, Bool.or_false]; done) | (simp only [hb0, hb1, hb2, hb3, hb4]; rfl) | (simp [hb0, hb1, hb2, hb3, hb4]; done)), trivial⟩, rfl⟩
     ·refine ps 9 [(48, undef), (49, vb false), (50, vb false), (51, undef), (52, vb false), (53, vb false), (54, undef), (55, vb false), (2, vb false)] ?_
      exact WO_nil ⟨_, Agree.eq ⟨(by first | rfl | (simp only [hb0, hb1, hb2, hb3, Bool.true_and, Bool.false_and, Bool.true_or, Bool.false_or, Bool.and_true, Bool.and_false, Bool.or_true, Bool.or_false]; done) | (simp only [hb0, hb1, hb2, hb3]; rfl) | (simp [hb0, hb1, hb2, hb3]; done)), trivial⟩, rfl⟩
    ·refine ps 12 [(45, undef), (46, vb false), (47, vb false), (48, undef), (49, vb false), (50, vb false), (51, undef), (52, vb false), (53, vb false), (54, undef), (55, vb false), (2, vb false)] ?_
     exact WO_nil ⟨_, Agree.eq ⟨(by first | rfl | (simp only [hb0, hb1, hb2, Bool.true_and, Bool.false_and, Bool.true_or, Bool.false_or, Bool.and_true, Bool.and_false, Bool.or_true, Bool.or_false]; done) | (simp only [hb0, hb1, hb2]; rfl) | (simp [hb0, hb1, hb2]; done)), trivial⟩, rfl⟩
   ·refine ps 15 [(42, undef), (43, vb false), (44, vb false), (45, undef), (46, vb false), (47, vb false), (48, undef), (49, vb false), (50, vb false), (51, undef), (52, vb false), (53, vb false), (54, undef), (55, vb false), (2, vb false)] ?_
    exact WO_nil ⟨_, Agree.eq ⟨(by first | rfl | (simp only [hb0, hb1, Bool.true_and, Bool.false_and, Bool.true_or, Bool.false_or, Bool.and_true, Bool.and_false, Bool.or_true, Bool.or_false]; done) | (simp only [hb0, hb1]; rfl) | (simp [hb0, hb1]; done)), trivial⟩, rfl⟩
  ·refine ps 18 [(39, undef), (40, vb false), (41, vb false), (42, undef), (43, vb false), (44, vb false), (45, undef), (46, vb false), (47, vb false), (48, undef), (49, vb false), (50, vb false), (51, undef), (52, vb false), (53, vb false), (54, undef), (55, vb false), (2, vb false)] ?_
   exact WO_nil ⟨_, Agree.eq ⟨(by first | rfl | (simp only [hb0, Bool.true_and, Bool.false_and, Bool.true_or, Bool.false_or, Bool.and_true, Bool.and_false, Bool.or_true, Bool.or_false]; done) | (simp only [hb0]; rfl) | (simp [hb0]; done)), trivial⟩, rfl⟩
 ·rintro _ _ ⟨e0, rfl, rfl⟩
  refine W_ret ?_
  exact ret1 (v := vb ((((((r1 && r2) && r3) && r4) && r5) && r6) && r7)) (t := 2) rfl rfl ⟨_, rfl, h⟩
def ref06_added.j2 (Q : Option Addr → Nat → Nat → World → Prop) (l_a : Option Addr) (l_n : Nat) (b1 : Nat) (b2 : Nat) (y1 : TTrialLine) (v3 : Int) (kl1 : TTrialLine → Option Addr → Nat → Nat → Bool → Int → World → Prop) (v5_a : Option Addr) (v5_n : Nat) (v5_c : Nat) (v6 : Bool) (w12 : World) : Prop := (
       Ix l_a l_n v3 fun p3 =>
      LdT TTrialLine.enc w12 (Addr.add p3 (v3.toNat * 4)) fun x3 =>
      Al w12 (.cells #[vu x3.Account_Kind, vi x3.Account_Id, vs x3.Unit, vi x3.N] 49) fun b4 w13 =>
      Ap Pg w13 #[24, 24] 24 (vl v5_a v5_n v5_c) (vl (some ⟨b4, 0, none⟩) 1 1) fun a2_a a2_n a2_c w14 =>
      Kp b1 w13 w14 ∧ Kp b2 w13 w14 ∧ kl1 y1 a2_a a2_n a2_c v6 (IntKind.wrap .i64 (v3 + (1 : Int))) w14)
def ref06_added.j1 (Q : Option Addr → Nat → Nat → World → Prop) (l_a : Option Addr) (l_n : Nat) (b1 : Nat) (b2 : Nat) (y1 : TTrialLine) (v1_a : Option Addr) (v1_n : Nat) (v1_c : Nat) (v2 : Bool) (v3 : Int) (kl1 : TTrialLine → Option Addr → Nat → Nat → Bool → Int → World → Prop) (r1 : Bool) (v4 : Bool) (w7 : World) : Prop := (
       Ifb v4
      (Dr w7 fun w8 =>
      Ix l_a l_n v3 fun p2 =>
      LdI .i64 w8 (Addr.add (Addr.add p2 (v3.toNat * 4)) 3) fun x2 =>
      Sb w8 b2 (.cells #[vu y1.Account_Kind, vi y1.Account_Id, vs y1.Unit, vi (IntKind.wrap .i64 (y1.N + x2))] 49 (0, 0)) fun w9 =>
      Al w9 (.cells #[vu y1.Account_Kind, vi y1.Account_Id, vs y1.Unit, vi (IntKind.wrap .i64 (y1.N + x2))] 49) fun b3 w10 =>
      Ap Pg w10 #[24, 24] 24 (vl v1_a v1_n v1_c) (vl (some ⟨b3, 0, none⟩) 1 1) fun a1_a a1_n a1_c w11 =>
      Kp b1 w10 w11 ∧ Kp b2 w10 w11 ∧ kl1 (⟨y1.Account_Kind, y1.Account_Id, y1.Unit, IntKind.wrap .i64 (y1.N + x2)⟩ : TTrialLine) a1_a a1_n a1_c true (IntKind.wrap .i64 (v3 + (1 : Int))) w11)
      (Ifb ((!v2) && r1)
      (Al w7 (.cells #[vu y1.Account_Kind, vi y1.Account_Id, vs y1.Unit, vi y1.N] 49) fun b5 w15 =>
      Ap Pg w15 #[24, 24] 24 (vl v1_a v1_n v1_c) (vl (some ⟨b5, 0, none⟩) 1 1) fun a3_a a3_n a3_c w16 =>
      Kp b1 w15 w16 ∧ Kp b2 w15 w16 ∧ ref06_added.j2 Q l_a l_n b1 b2 y1 v3 kl1 a3_a a3_n a3_c true w16)
      (ref06_added.j2 Q l_a l_n b1 b2 y1 v3 kl1 v1_a v1_n v1_c v2 w7)))
def ref06_added.l1 (Q : Option Addr → Nat → Nat → World → Prop) (l_a : Option Addr) (l_n : Nat) (a : TAccount) (unit : ByteArray) (b1 : Nat) (b2 : Nat) : Nat → TTrialLine → Option Addr → Nat → Nat → Bool → Int → World → Prop
       | 0, _, _, _, _, _, _, _ => False
       | nl1 + 1, y1, v1_a, v1_n, v1_c, v2, v3, w4 => (
       Ifb (decide (v3 < ((l_n : Nat) : Int)))
      (Dr w4 fun w5 =>
      Ix l_a l_n v3 fun p1 =>
      LdT TTrialLine.enc w5 (Addr.add p1 (v3.toNat * 4)) fun x1 =>
      Cl Pg 136 #[vg (TTrialLine.enc y1), vg (TTrialLine.enc x1)] w5 (fun v w6 => ∃ (r1 : Bool), v = vb r1 ∧ Kp b1 w5 w6 ∧ Kp b2 w5 w6 ∧ Dr w6 fun w17 =>
      Ifb (!v2)
      (Ix l_a l_n v3 fun p4 =>
      LdT TAccount.enc w17 (Addr.add p4 (v3.toNat * 4)) fun x4 =>
      Ifb ((x4.Kind == a.Kind) && ((x4.Id == a.Id) && true))
      (Ix l_a l_n v3 fun p5 =>
      LdS w17 (Addr.add (Addr.add p5 (v3.toNat * 4)) 2) fun x5 =>
      ref06_added.j1 Q l_a l_n b1 b2 y1 v1_a v1_n v1_c v2 v3 (ref06_added.l1 Q l_a l_n a unit b1 b2 nl1) r1 (strEq x5 unit) w17)
      (ref06_added.j1 Q l_a l_n b1 b2 y1 v1_a v1_n v1_c v2 v3 (ref06_added.l1 Q l_a l_n a unit b1 b2 nl1) r1 false w17))
      (ref06_added.j1 Q l_a l_n b1 b2 y1 v1_a v1_n v1_c v2 v3 (ref06_added.l1 Q l_a l_n a unit b1 b2 nl1) r1 false w17)))
      (Ifb (!v2)
      (Al w4 (.cells #[vu y1.Account_Kind, vi y1.Account_Id, vs y1.Unit, vi y1.N] 49) fun b6 w18 =>
      Ap Pg w18 #[24, 24] 24 (vl v1_a v1_n v1_c) (vl (some ⟨b6, 0, none⟩) 1 1) fun a4_a a4_n a4_c w19 =>
      Q a4_a a4_n a4_c w19)
      (Q v1_a v1_n v1_c w4)))
def ref06_added.R (Q : Option Addr → Nat → Nat → World → Prop) (l_a : Option Addr) (l_n : Nat) (l_c : Nat) (a : TAccount) (unit : ByteArray) (n : Int) (w : World) : Prop := (
  Al w (.cells #[vu a.Kind, vi a.Id] 40) fun b1 w1 =>
      Al w1 (.cells #[vu 0, vi 0, vs (ByteArray.mk #[]), vi 0] 49) fun b2 w2 =>
      Sb w2 b2 (.cells #[vu a.Kind, vi a.Id, vs unit, vi n] 49 (0, 0)) fun w3 =>
      ∃ k, ref06_added.l1 Q l_a l_n a unit b1 b2 k (⟨a.Kind, a.Id, unit, n⟩ : TTrialLine) none 0 0 false 0 w3)
theorem ref06_added.ok {Q : Option Addr → Nat → Nat → World → Prop} {l_a : Option Addr} {l_n : Nat} {l_c : Nat} {a : TAccount} {unit : ByteArray} {n : Int} {w : World} (h : ref06_added.R Q l_a l_n l_c a unit n w) : Cl Pg 72 #[vl l_a l_n l_c, vg (TAccount.enc a), vs unit, vi n] w (fun v w' => ∃ (r0a : Option Addr), ∃ (r0n : Nat), ∃ (r0c : Nat), v = vl r0a r0n r0c ∧ Q r0a r0n r0c w') := by
 refine calls_args (args := [vl l_a l_n l_c, vg (TAccount.enc a), vs unit, vi n]) Tryz.func72 ?_
 unfold ref06_added.R at h
 refine W_regseq ?_
 refine alp h ?_
 intro b1 w1 eb ew hb_b1 h
 clear eb ew
 refine ps 1 [(8, vl none 0 0)] ?_
 refine WO_nil ?_
 refine W_regseq ?_
 refine lbn [vu a.Kind, vi a.Id] tk40 hb_b1 ?_
 refine ps 3 [(15, vs unit), (16, vi n), (17, vg [vu a.Kind, vi a.Id, vs unit, vi n])] ?_
 refine alp h ?_
 intro b2 w2 eb ew hb_b2 h
 have old_hb_b1 := hb_b1
 replace hb_b1 := al_keep ew hb_b1
 have ne_b1_b2 : b1 ≠ b2 := blk_ne old_hb_b1 eb
 clear old_hb_b1
 clear eb ew
 refine sb tk49 hb_b2 h ?_
 intro w3 ew hb_ h
 replace hb_b1 := sb_keep ew ne_b1_b2 hb_b1
 replace hb_b2 := hb_
 clear ew
 refine WO_nil ?_
 refine W_regseq ?_
 refine ps 1 [(10, vl none 0 0)] ?_
 refine WO_nil ?_
 refine W_regseq ?_
 refine ps 1 [(11, vb false)] ?_
 refine WO_nil ?_
 refine W_seq ?_
 refine W_regseq ?_
 refine ps 1 [(12, vi 0)] ?_
 refine WO_nil ?_
 refine W_block ?_
 obtain ⟨nl1, h⟩ := h
 refine W_loopI (fun k e w4 => ∃ (e0 : Env) (y1 : TTrialLine) (v1_a : Option Addr) (v1_n : Nat) (v1_c : Nat) (v2 : Bool) (v3 : Int), e = upds e0 [(0, vl l_a l_n l_c), (2, vs unit), (5, vp ⟨b1, 0, none⟩), (9, vp ⟨b2, 0, none⟩), (10, vl v1_a v1_n v1_c), (11, vb v2), (12, vi v3)] ∧ w4.heap[b1]? = some (.cells #[vu a.Kind, vi a.Id] 40 (0, 0)) ∧ w4.heap[b2]? = some (.cells #[vu y1.Account_Kind, vi y1.Account_Id, vs y1.Unit, vi y1.N] 49 (0, 0)) ∧ b1 ≠ b2 ∧ ref06_added.l1 Q l_a l_n a unit b1 b2 k y1 v1_a v1_n v1_c v2 v3 w4) nl1 ?_ ?_ ?_
 ·rintro _ _ ⟨_, _, _, _, _, _, _, _, _, _, _, h⟩
  exact h
 ·exact ⟨_, (⟨a.Kind, a.Id, unit, n⟩ : TTrialLine), none, 0, 0, false, 0, Agree.eq ⟨rfl, rfl, rfl, rfl, rfl, rfl, rfl, trivial⟩, hb_b1, hb_b2, ne_b1_b2, h⟩
 ·clear h nl1 hb_b1 hb_b2 ne_b1_b2
  rintro nl1 _ w4 ⟨e0, y1, v1_a, v1_n, v1_c, v2, v3, rfl, hb_b1, hb_b2, ne_b1_b2, h⟩
  unfold ref06_added.l1 at h
  refine W_seq ?_
  refine W_regseq ?_
  refine ps 4 [(18, vi v3), (19, vl l_a l_n l_c), (20, vi (l_n : Nat)), (21, vb (decide (v3 < ((l_n : Nat) : Int))))] ?_
  refine WO_nil ?_
  refine ci h (fun h => ?_) fun h => ?_
  ·refine W_skip ?_
   refine W_seq ?_
   refine W_block ?_
   refine drs folM [[], [], [], [], [], [0, 4], [0, 4]] [.l 0, .p 1, .p 2, .p 3, .l 4, .e 5, .p 6] h ?_
   intro w5 ew h
   replace hb_b1 := dr_keep ew hb_b1
   replace hb_b2 := dr_keep ew hb_b2
   clear ew
   refine lbnC [vu y1.Account_Kind, vi y1.Account_Id, vs y1.Unit, vi y1.N] tk49 hb_b2 ?_
   refine psC 2 [(25, vl l_a l_n l_c), (26, vi v3)] ?_
   refine ixC slk24 h fun p1 h => ?_
   obtain ⟨x1, hx1, h⟩ := h
   refine ldnC tk49 hx1 ?_
   refine clC h ?_
   rintro _ w6 ⟨r1, rfl, hk0, hk1, h⟩
   replace hb_b1 := kp_at hk0 hb_b1
   replace hb_b2 := kp_at hk1 hb_b2
   refine ⟨AllOk.nil, ?_⟩
   refine psC 1 [(13, vb r1)] ?_
   refine WC_nil ?_
   refine W_seq ?_
   refine W_join (fun e w7 => ∃ (e0 : Env) (v4 : Bool), e = upds e0 [(0, vl l_a l_n l_c), (2, vs unit), (5, vp ⟨b1, 0, none⟩), (9, vp ⟨b2, 0, none⟩), (10, vl v1_a v1_n v1_c), (11, vb v2), (12, vi v3), (13, vb r1), (49, vb v4)] ∧ w7.heap[b1]? = some (.cells #[vu a.Kind, vi a.Id] 40 (0, 0)) ∧ w7.heap[b2]? = some (.cells #[vu y1.Account_Kind, vi y1.Account_Id, vs y1.Unit, vi y1.N] 49 (0, 0)) ∧ b1 ≠ b2 ∧ ref06_added.j1 Q l_a l_n b1 b2 y1 v1_a v1_n v1_c v2 v3 (ref06_added.l1 Q l_a l_n a unit b1 b2 nl1) r1 v4 w7) ?_ ?_
   ·refine drw folM [[], [], [], [], [], [], [], [], [], [7, 8], [7, 8], [7, 8], [7, 8], [7, 8], [7, 8], [7, 8], [7, 8], [7, 8], [7, 8, 16], [7, 8, 16]] [.p 0, .p 1, .p 2, .p 3, .p 4, .p 5, .p 6, .l 7, .l 8, .p 9, .p 10, .p 11, .p 12, .p 13, .p 14, .p 15, .l 16, .p 17, .p 18, .p 19] h ?_
    intro w17 ew h
    replace hb_b1 := dr_keep ew hb_b1
    replace hb_b2 := dr_keep ew hb_b2
    clear ew
    refine psC 3 [(30, vb v2), (31, vb (!v2)), (32, vb (!v2))] ?_
    refine csC 32 h (fun h => ?_) fun h => ?_
    ·refine psC 2 [(33, vl l_a l_n l_c), (34, vi v3)] ?_
     refine ixC slk24 h fun p4 h => ?_
     refine psC 1 [(36, vp (Addr.add p4 (v3.toNat * 4)))] ?_
     obtain ⟨x4, hx4, h⟩ := h
     refine ldnC tk40 hx4 ?_
     refine lbnC [vu a.Kind, vi a.Id] tk40 hb_b1 ?_
     refine WC_pw rfl rfl rfl (v := vb ((x4.Kind == a.Kind) && ((x4.Id == a.Id) && true))) (ex_eqlst (by kernel_rfl) (fun w => eqI40 (d := 9998)) rfl rfl rfl) ?_
     refine psC 2 [(40, vb ((x4.Kind == a.Kind) && ((x4.Id == a.Id) && true))), (41, vb ((x4.Kind == a.Kind) && ((x4.Id == a.Id) && true)))] ?_
     refine csC 41 h (fun h => ?_) fun h => ?_
     ·refine psC 2 [(42, vl l_a l_n l_c), (43, vi v3)] ?_
      refine ixC slk24 h fun p5 h => ?_
      refine psC 1 [(45, vp (Addr.add (Addr.add p5 (v3.toNat * 4)) 2))] ?_
      obtain ⟨x5, hx5, h⟩ := h
      refine ld1C tk9 hx5 ?_
      refine psC 3 [(47, vs unit), (48, vb (strEq x5 unit)), (49, vb (strEq x5 unit))] ?_
      refine WC_nil ?_
      exact ⟨_, strEq x5 unit, Agree.eq ⟨rfl, rfl, rfl, rfl, rfl, rfl, rfl, rfl, rfl, trivial⟩, hb_b1, hb_b2, ne_b1_b2, h⟩
     ·refine psC 4 [(42, undef), (43, undef), (44, undef), (45, undef)] ?_
      refine WC_lskip rfl rfl rfl ?_
      refine psC 3 [(47, undef), (48, undef), (49, vb false)] ?_
      refine WC_nil ?_
      exact ⟨_, false, Agree.eq ⟨rfl, rfl, rfl, rfl, rfl, rfl, rfl, rfl, rfl, trivial⟩, hb_b1, hb_b2, ne_b1_b2, h⟩
    ·refine psC 4 [(33, undef), (34, undef), (35, undef), (36, undef)] ?_
     refine WC_lskip rfl rfl rfl ?_
     refine WC_lskip rfl rfl rfl ?_
     refine psC 7 [(39, undef), (40, vb false), (41, vb false), (42, undef), (43, undef), (44, undef), (45, undef)] ?_
     refine WC_lskip rfl rfl rfl ?_
     refine psC 3 [(47, undef), (48, undef), (49, vb false)] ?_
     refine WC_nil ?_
     exact ⟨_, false, Agree.eq ⟨rfl, rfl, rfl, rfl, rfl, rfl, rfl, rfl, rfl, trivial⟩, hb_b1, hb_b2, ne_b1_b2, h⟩
   ·clear h hb_b1 hb_b2 ne_b1_b2
    rintro _ w7 ⟨e0, v4, rfl, hb_b1, hb_b2, ne_b1_b2, h⟩
    unfold ref06_added.j1 at h
    refine ci h (fun h => ?_) fun h => ?_
    ·refine drs folM [[], [], [], [], [], [], [], [1, 6], [1, 6], [1, 6]] [.p 0, .l 1, .p 2, .p 3, .p 4, .p 5, .l 6, .p 7, .p 8, .e 9] h ?_
     intro w8 ew h
     replace hb_b1 := dr_keep ew hb_b1
     replace hb_b2 := dr_keep ew hb_b2
     clear ew
     refine psC 1 [(50, vp ⟨b2, 3, none⟩)] ?_
     refine lb1C tk3 hb_b2 ?_
     refine psC 2 [(52, vl l_a l_n l_c), (53, vi v3)] ?_
     refine ixC slk24 h fun p2 h => ?_
     refine psC 1 [(55, vp (Addr.add (Addr.add p2 (v3.toNat * 4)) 3))] ?_
     obtain ⟨x2, hx2, h⟩ := h
     refine ld1C tk3 hx2 ?_
     refine psC 2 [(57, vi (IntKind.wrap .i64 (y1.N + x2))), (58, vp ⟨b2, 3, none⟩)] ?_
     refine sbC tk3 hb_b2 h ?_
     intro w9 ew hb_ h
     replace hb_b1 := sb_keep ew ne_b1_b2 hb_b1
     replace hb_b2 := hb_
     clear ew
     refine ⟨AllOk.nil, ?_⟩
     refine WC_nil ?_
     refine W_regseq ?_
     refine ps 1 [(59, vl v1_a v1_n v1_c)] ?_
     refine lbn [vu y1.Account_Kind, vi y1.Account_Id, vs y1.Unit, vi (IntKind.wrap .i64 (y1.N + x2))] tk49 hb_b2 ?_
     refine als 1 h ?_
     intro b3 w10 eb ew hb_b3 h
     replace hb_b1 := al_keep ew hb_b1
     replace hb_b2 := al_keep ew hb_b2
     clear eb ew hb_b3
     refine ap h ?_
     rintro a1_a a1_n a1_c w11 ⟨hk0, hk1, h⟩
     replace hb_b1 := kp_at hk0 hb_b1
     replace hb_b2 := kp_at hk1 hb_b2
     refine ps 1 [(10, vl a1_a a1_n a1_c)] ?_
     refine WO_nil ?_
     refine W_regseq ?_
     refine ps 1 [(11, vb true)] ?_
     refine WO_nil ?_
     refine W_exit ?_
     refine blockK_hit ?_
     refine W_reg ?_
     refine ps 3 [(22, vi v3), (23, vi (IntKind.wrap .i64 (v3 + (1 : Int)))), (12, vi (IntKind.wrap .i64 (v3 + (1 : Int))))] ?_
     refine WO_nil ?_
     exact ⟨_, (⟨y1.Account_Kind, y1.Account_Id, y1.Unit, IntKind.wrap .i64 (y1.N + x2)⟩ : TTrialLine), a1_a, a1_n, a1_c, true, IntKind.wrap .i64 (v3 + (1 : Int)), Agree.eq ⟨rfl, rfl, rfl, rfl, rfl, rfl, rfl, trivial⟩, hb_b1, hb_b2, ne_b1_b2, h⟩
    ·refine W_skip ?_
     refine W_join (fun e w12 => ∃ (e0 : Env) (v5_a : Option Addr) (v5_n : Nat) (v5_c : Nat) (v6 : Bool), e = upds e0 [(0, vl l_a l_n l_c), (2, vs unit), (5, vp ⟨b1, 0, none⟩), (9, vp ⟨b2, 0, none⟩), (10, vl v5_a v5_n v5_c), (11, vb v6), (12, vi v3)] ∧ w12.heap[b1]? = some (.cells #[vu a.Kind, vi a.Id] 40 (0, 0)) ∧ w12.heap[b2]? = some (.cells #[vu y1.Account_Kind, vi y1.Account_Id, vs y1.Unit, vi y1.N] 49 (0, 0)) ∧ b1 ≠ b2 ∧ ref06_added.j2 Q l_a l_n b1 b2 y1 v3 (ref06_added.l1 Q l_a l_n a unit b1 b2 nl1) v5_a v5_n v5_c v6 w12) ?_ ?_
     ·refine W_regseq ?_
      refine ps 3 [(63, vb v2), (64, vb (!v2)), (65, vb (!v2))] ?_
      refine WO_conv (fun e w_ => ∃ (e0 : Env), e = upds e0 [(0, vl l_a l_n l_c), (2, vs unit), (5, vp ⟨b1, 0, none⟩), (9, vp ⟨b2, 0, none⟩), (10, vl v1_a v1_n v1_c), (11, vb v2), (12, vi v3), (67, vb ((!v2) && r1))] ∧ w7 = w_) ?_ ?_
      ·clear h
       refine WO_case 65 (b := (!v2)) rfl (fun hb0 => ?_) (fun hb0 => ?_)
       ·refine ps 2 [(66, vb r1), (67, vb r1)] ?_
        exact WO_nil ⟨_, Agree.eq ⟨rfl, rfl, rfl, rfl, rfl, rfl, rfl, (by first | rfl | (simp only [hb0, Bool.true_and, Bool.false_and, Bool.true_or, Bool.false_or, Bool.and_true, Bool.and_false, Bool.or_true, Bool.or_false]; done) | (simp only [hb0]; rfl) | (simp [hb0]; done)), trivial⟩, rfl⟩
       ·refine ps 2 [(66, undef), (67, vb false)] ?_
        exact WO_nil ⟨_, Agree.eq ⟨rfl, rfl, rfl, rfl, rfl, rfl, rfl, (by first | rfl | (simp only [hb0, Bool.true_and, Bool.false_and, Bool.true_or, Bool.false_or, Bool.and_true, Bool.and_false, Bool.or_true, Bool.or_false]; done) | (simp only [hb0]; rfl) | (simp [hb0]; done)), trivial⟩, rfl⟩
      ·rintro _ _ ⟨e0, rfl, rfl⟩
       refine ci h (fun h => ?_) fun h => ?_
       ·refine W_regseq ?_
        refine ps 1 [(68, vl v1_a v1_n v1_c)] ?_
        refine lbn [vu y1.Account_Kind, vi y1.Account_Id, vs y1.Unit, vi y1.N] tk49 hb_b2 ?_
        refine als 1 h ?_
        intro b5 w15 eb ew hb_b5 h
        replace hb_b1 := al_keep ew hb_b1
        replace hb_b2 := al_keep ew hb_b2
        clear eb ew hb_b5
        refine ap h ?_
        rintro a3_a a3_n a3_c w16 ⟨hk0, hk1, h⟩
        replace hb_b1 := kp_at hk0 hb_b1
        replace hb_b2 := kp_at hk1 hb_b2
        refine ps 1 [(10, vl a3_a a3_n a3_c)] ?_
        refine WO_nil ?_
        refine W_reg ?_
        refine ps 1 [(11, vb true)] ?_
        refine WO_nil ?_
        exact ⟨_, a3_a, a3_n, a3_c, true, Agree.eq ⟨rfl, rfl, rfl, rfl, rfl, rfl, rfl, trivial⟩, hb_b1, hb_b2, ne_b1_b2, h⟩
       ·refine W_skip ?_
        exact ⟨_, v1_a, v1_n, v1_c, v2, Agree.eq ⟨rfl, rfl, rfl, rfl, rfl, rfl, rfl, trivial⟩, hb_b1, hb_b2, ne_b1_b2, h⟩
     ·clear h hb_b1 hb_b2 ne_b1_b2
      rintro _ w12 ⟨e0, v5_a, v5_n, v5_c, v6, rfl, hb_b1, hb_b2, ne_b1_b2, h⟩
      unfold ref06_added.j2 at h
      refine W_reg ?_
      refine ps 3 [(72, vl v5_a v5_n v5_c), (73, vl l_a l_n l_c), (74, vi v3)] ?_
      refine ix slk24 h fun p3 h => ?_
      obtain ⟨x3, hx3, h⟩ := h
      refine ldn tk49 hx3 ?_
      refine als 1 h ?_
      intro b4 w13 eb ew hb_b4 h
      replace hb_b1 := al_keep ew hb_b1
      replace hb_b2 := al_keep ew hb_b2
      clear eb ew hb_b4
      refine ap h ?_
      rintro a2_a a2_n a2_c w14 ⟨hk0, hk1, h⟩
      replace hb_b1 := kp_at hk0 hb_b1
      replace hb_b2 := kp_at hk1 hb_b2
      refine ps 1 [(10, vl a2_a a2_n a2_c)] ?_
      refine WO_nil ?_
      refine blockK_normal ?_
      refine W_reg ?_
      refine ps 3 [(22, vi v3), (23, vi (IntKind.wrap .i64 (v3 + (1 : Int)))), (12, vi (IntKind.wrap .i64 (v3 + (1 : Int))))] ?_
      refine WO_nil ?_
      exact ⟨_, y1, a2_a, a2_n, a2_c, v6, IntKind.wrap .i64 (v3 + (1 : Int)), Agree.eq ⟨rfl, rfl, rfl, rfl, rfl, rfl, rfl, trivial⟩, hb_b1, hb_b2, ne_b1_b2, h⟩
  ·refine W_exit ?_
   refine blockK_hit ?_
   refine W_seq ?_
   refine W_regseq ?_
   refine ps 2 [(79, vb v2), (80, vb (!v2))] ?_
   refine WO_nil ?_
   refine ci h (fun h => ?_) fun h => ?_
   ·refine W_reg ?_
    refine ps 1 [(81, vl v1_a v1_n v1_c)] ?_
    refine lbn [vu y1.Account_Kind, vi y1.Account_Id, vs y1.Unit, vi y1.N] tk49 hb_b2 ?_
    refine als 1 h ?_
    intro b6 w18 eb ew hb_b6 h
    clear eb ew hb_b6
    refine ap h ?_
    rintro a4_a a4_n a4_c w19 h
    refine ps 1 [(10, vl a4_a a4_n a4_c)] ?_
    refine WO_nil ?_
    refine W_regseq ?_
    refine ps 2 [(85, vl a4_a a4_n a4_c), (8, vl a4_a a4_n a4_c)] ?_
    refine WO_nil ?_
    refine W_ret ?_
    exact ret1 (v := vl a4_a a4_n a4_c) (t := 8) rfl rfl ⟨_, _, _, rfl, h⟩
   ·refine W_skip ?_
    refine W_regseq ?_
    refine ps 2 [(85, vl v1_a v1_n v1_c), (8, vl v1_a v1_n v1_c)] ?_
    refine WO_nil ?_
    refine W_ret ?_
    exact ret1 (v := vl v1_a v1_n v1_c) (t := 8) rfl rfl ⟨_, _, _, rfl, h⟩
def ref06_of.j1 (Q : Int → World → Prop) (l_a : Option Addr) (l_n : Nat) (v1 : Int) (kl1 : Int → World → Prop) (v2 : Bool) (w3 : World) : Prop := (
       Ifb v2
      (Ix l_a l_n v1 fun p1 =>
      LdI .i64 w3 (Addr.add (Addr.add p1 (v1.toNat * 4)) 3) fun x1 =>
      Q x1 w3)
      (kl1 (IntKind.wrap .i64 (v1 + (1 : Int))) w3))
def ref06_of.l1 (Q : Int → World → Prop) (l_a : Option Addr) (l_n : Nat) (a : TAccount) (unit : ByteArray) : Nat → Int → World → Prop
       | 0, _, _ => False
       | nl1 + 1, v1, w2 => (
       Ifb (decide (v1 < ((l_n : Nat) : Int)))
      (Dr w2 fun w4 =>
      Ix l_a l_n v1 fun p2 =>
      LdT TAccount.enc w4 (Addr.add p2 (v1.toNat * 4)) fun x2 =>
      Ifb ((x2.Kind == a.Kind) && ((x2.Id == a.Id) && true))
      (Ix l_a l_n v1 fun p3 =>
      LdS w4 (Addr.add (Addr.add p3 (v1.toNat * 4)) 2) fun x3 =>
      ref06_of.j1 Q l_a l_n v1 (ref06_of.l1 Q l_a l_n a unit nl1) (strEq x3 unit) w4)
      (ref06_of.j1 Q l_a l_n v1 (ref06_of.l1 Q l_a l_n a unit nl1) false w4))
      (Q 0 w2))
def ref06_of.R (Q : Int → World → Prop) (l_a : Option Addr) (l_n : Nat) (l_c : Nat) (a : TAccount) (unit : ByteArray) (w : World) : Prop := (
  Al w (.cells #[vu a.Kind, vi a.Id] 40) fun b1 w1 =>
      ∃ k, ref06_of.l1 Q l_a l_n a unit k 0 w1)
theorem ref06_of.ok {Q : Int → World → Prop} {l_a : Option Addr} {l_n : Nat} {l_c : Nat} {a : TAccount} {unit : ByteArray} {w : World} (h : ref06_of.R Q l_a l_n l_c a unit w) : Cl Pg 73 #[vl l_a l_n l_c, vg (TAccount.enc a), vs unit] w (fun v w' => ∃ (r0 : Int), v = vi r0 ∧ Q r0 w') := by
 refine calls_args (args := [vl l_a l_n l_c, vg (TAccount.enc a), vs unit]) Tryz.func73 ?_
 unfold ref06_of.R at h
 refine W_regseq ?_
 refine alp h ?_
 intro b1 w1 eb ew hb_b1 h
 clear eb ew
 refine ps 1 [(6, vi 0)] ?_
 refine WO_nil ?_
 refine W_seq ?_
 refine W_regseq ?_
 refine ps 1 [(7, vi 0)] ?_
 refine WO_nil ?_
 refine W_block ?_
 obtain ⟨nl1, h⟩ := h
 refine W_loopI (fun k e w2 => ∃ (e0 : Env) (v1 : Int), e = upds e0 [(0, vl l_a l_n l_c), (2, vs unit), (4, vp ⟨b1, 0, none⟩), (7, vi v1)] ∧ w2.heap[b1]? = some (.cells #[vu a.Kind, vi a.Id] 40 (0, 0)) ∧ ref06_of.l1 Q l_a l_n a unit k v1 w2) nl1 ?_ ?_ ?_
 ·rintro _ _ ⟨_, _, _, _, h⟩
  exact h
 ·exact ⟨_, 0, Agree.eq ⟨rfl, rfl, rfl, rfl, trivial⟩, hb_b1, h⟩
 ·clear h nl1 hb_b1
  rintro nl1 _ w2 ⟨e0, v1, rfl, hb_b1, h⟩
  unfold ref06_of.l1 at h
  refine W_seq ?_
  refine W_regseq ?_
  refine ps 4 [(8, vi v1), (9, vl l_a l_n l_c), (10, vi (l_n : Nat)), (11, vb (decide (v1 < ((l_n : Nat) : Int))))] ?_
  refine WO_nil ?_
  refine ci h (fun h => ?_) fun h => ?_
  ·refine W_skip ?_
   refine W_seq ?_
   refine W_block ?_
   refine W_join (fun e w3 => ∃ (e0 : Env) (v2 : Bool), e = upds e0 [(0, vl l_a l_n l_c), (2, vs unit), (4, vp ⟨b1, 0, none⟩), (7, vi v1), (29, vb v2)] ∧ w3.heap[b1]? = some (.cells #[vu a.Kind, vi a.Id] 40 (0, 0)) ∧ ref06_of.j1 Q l_a l_n v1 (ref06_of.l1 Q l_a l_n a unit nl1) v2 w3) ?_ ?_
   ·refine drw folM [[], [], [], [], [], [], [4, 5], [4, 5], [4, 5], [4, 5], [4, 5], [4, 5], [4, 5], [4, 5], [4, 5, 12], [4, 5, 12]] [.p 0, .p 1, .p 2, .p 3, .l 4, .l 5, .p 6, .p 7, .p 8, .p 9, .p 10, .p 11, .l 12, .p 13, .p 14, .p 15] h ?_
    intro w4 ew h
    replace hb_b1 := dr_keep ew hb_b1
    clear ew
    refine psC 2 [(14, vl l_a l_n l_c), (15, vi v1)] ?_
    refine ixC slk24 h fun p2 h => ?_
    refine psC 1 [(17, vp (Addr.add p2 (v1.toNat * 4)))] ?_
    obtain ⟨x2, hx2, h⟩ := h
    refine ldnC tk40 hx2 ?_
    refine lbnC [vu a.Kind, vi a.Id] tk40 hb_b1 ?_
    refine WC_pw rfl rfl rfl (v := vb ((x2.Kind == a.Kind) && ((x2.Id == a.Id) && true))) (ex_eqlst (by kernel_rfl) (fun w => eqI40 (d := 9998)) rfl rfl rfl) ?_
    refine psC 1 [(21, vb ((x2.Kind == a.Kind) && ((x2.Id == a.Id) && true)))] ?_
    refine csC 21 h (fun h => ?_) fun h => ?_
    ·refine psC 2 [(22, vl l_a l_n l_c), (23, vi v1)] ?_
     refine ixC slk24 h fun p3 h => ?_
     refine psC 1 [(25, vp (Addr.add (Addr.add p3 (v1.toNat * 4)) 2))] ?_
     obtain ⟨x3, hx3, h⟩ := h
     refine ld1C tk9 hx3 ?_
     refine psC 3 [(27, vs unit), (28, vb (strEq x3 unit)), (29, vb (strEq x3 unit))] ?_
     refine WC_nil ?_
     exact ⟨_, strEq x3 unit, Agree.eq ⟨rfl, rfl, rfl, rfl, rfl, trivial⟩, hb_b1, h⟩
    ·refine psC 4 [(22, undef), (23, undef), (24, undef), (25, undef)] ?_
     refine WC_lskip rfl rfl rfl ?_
     refine psC 3 [(27, undef), (28, undef), (29, vb false)] ?_
     refine WC_nil ?_
     exact ⟨_, false, Agree.eq ⟨rfl, rfl, rfl, rfl, rfl, trivial⟩, hb_b1, h⟩
   ·clear h hb_b1
    rintro _ w3 ⟨e0, v2, rfl, hb_b1, h⟩
    unfold ref06_of.j1 at h
    refine ci h (fun h => ?_) fun h => ?_
    ·refine W_regseq ?_
     refine ps 2 [(30, vl l_a l_n l_c), (31, vi v1)] ?_
     refine ix slk24 h fun p1 h => ?_
     refine ps 1 [(33, vp (Addr.add (Addr.add p1 (v1.toNat * 4)) 3))] ?_
     obtain ⟨x1, hx1, h⟩ := h
     refine ld1 tk3 hx1 ?_
     refine ps 1 [(6, vi x1)] ?_
     refine WO_nil ?_
     refine W_ret ?_
     refine blockK_ret ?_
     refine seqK_ret ?_
     refine seqK_ret ?_
     refine blockK_ret ?_
     refine seqK_ret ?_
     exact ret1 (v := vi x1) (t := 6) rfl rfl ⟨_, rfl, h⟩
    ·refine W_skip ?_
     refine blockK_normal ?_
     refine W_reg ?_
     refine ps 3 [(12, vi v1), (13, vi (IntKind.wrap .i64 (v1 + (1 : Int)))), (7, vi (IntKind.wrap .i64 (v1 + (1 : Int))))] ?_
     refine WO_nil ?_
     exact ⟨_, IntKind.wrap .i64 (v1 + (1 : Int)), Agree.eq ⟨rfl, rfl, rfl, rfl, trivial⟩, hb_b1, h⟩
  ·refine W_exit ?_
   refine blockK_hit ?_
   refine W_regseq ?_
   refine ps 1 [(6, vi 0)] ?_
   refine WO_nil ?_
   refine W_ret ?_
   exact ret1 (v := vi 0) (t := 6) rfl rfl ⟨_, rfl, h⟩
def ref06_lines.l1 (Q : Option Addr → Nat → Nat → World → Prop) (l_a : Option Addr) (l_n : Nat) : Nat → Option Addr → Nat → Nat → Int → World → Prop
       | 0, _, _, _, _, _ => False
       | nl1 + 1, v1_a, v1_n, v1_c, v2, w1 => (
       Ifb (decide (v2 < ((l_n : Nat) : Int)))
      (Ix l_a l_n v2 fun p1 =>
      LdI .i64 w1 (Addr.add (Addr.add p1 (v2.toNat * 4)) 3) fun x1 =>
      Ifb (x1 != (0 : Int))
      (Ix l_a l_n v2 fun p2 =>
      LdT TTrialLine.enc w1 (Addr.add p2 (v2.toNat * 4)) fun x2 =>
      Al w1 (.cells #[vu x2.Account_Kind, vi x2.Account_Id, vs x2.Unit, vi x2.N] 49) fun b1 w2 =>
      Ap Pg w2 #[24, 24] 24 (vl v1_a v1_n v1_c) (vl (some ⟨b1, 0, none⟩) 1 1) fun a1_a a1_n a1_c w3 =>
      (ref06_lines.l1 Q l_a l_n nl1) a1_a a1_n a1_c (IntKind.wrap .i64 (v2 + (1 : Int))) w3)
      ((ref06_lines.l1 Q l_a l_n nl1) v1_a v1_n v1_c (IntKind.wrap .i64 (v2 + (1 : Int))) w1))
      (Q v1_a v1_n v1_c w1))
def ref06_lines.R (Q : Option Addr → Nat → Nat → World → Prop) (l_a : Option Addr) (l_n : Nat) (l_c : Nat) (w : World) : Prop := (
  ∃ k, ref06_lines.l1 Q l_a l_n k none 0 0 0 w)
theorem ref06_lines.ok {Q : Option Addr → Nat → Nat → World → Prop} {l_a : Option Addr} {l_n : Nat} {l_c : Nat} {w : World} (h : ref06_lines.R Q l_a l_n l_c w) : Cl Pg 74 #[vl l_a l_n l_c] w (fun v w' => ∃ (r0a : Option Addr), ∃ (r0n : Nat), ∃ (r0c : Nat), v = vl r0a r0n r0c ∧ Q r0a r0n r0c w') := by
 refine calls_args (args := [vl l_a l_n l_c]) Tryz.func74 ?_
 unfold ref06_lines.R at h
 refine W_regseq ?_
 refine ps 1 [(2, vl none 0 0)] ?_
 refine WO_nil ?_
 refine W_regseq ?_
 refine ps 1 [(3, vl none 0 0)] ?_
 refine WO_nil ?_
 refine W_seq ?_
 refine W_regseq ?_
 refine ps 1 [(4, vi 0)] ?_
 refine WO_nil ?_
 refine W_block ?_
 obtain ⟨nl1, h⟩ := h
 refine W_loopI (fun k e w1 => ∃ (e0 : Env) (v1_a : Option Addr) (v1_n : Nat) (v1_c : Nat) (v2 : Int), e = upds e0 [(0, vl l_a l_n l_c), (3, vl v1_a v1_n v1_c), (4, vi v2)] ∧ ref06_lines.l1 Q l_a l_n k v1_a v1_n v1_c v2 w1) nl1 ?_ ?_ ?_
 ·rintro _ _ ⟨_, _, _, _, _, _, h⟩
  exact h
 ·exact ⟨_, none, 0, 0, 0, Agree.eq ⟨rfl, rfl, rfl, trivial⟩, h⟩
 ·clear h nl1
  rintro nl1 _ w1 ⟨e0, v1_a, v1_n, v1_c, v2, rfl, h⟩
  unfold ref06_lines.l1 at h
  refine W_seq ?_
  refine W_regseq ?_
  refine ps 4 [(5, vi v2), (6, vl l_a l_n l_c), (7, vi (l_n : Nat)), (8, vb (decide (v2 < ((l_n : Nat) : Int))))] ?_
  refine WO_nil ?_
  refine ci h (fun h => ?_) fun h => ?_
  ·refine W_skip ?_
   refine W_seq ?_
   refine W_block ?_
   refine W_regseq ?_
   refine ps 2 [(11, vl l_a l_n l_c), (12, vi v2)] ?_
   refine ix slk24 h fun p1 h => ?_
   refine ps 1 [(14, vp (Addr.add (Addr.add p1 (v2.toNat * 4)) 3))] ?_
   obtain ⟨x1, hx1, h⟩ := h
   refine ld1 tk3 hx1 ?_
   refine ps 1 [(16, vb (x1 != (0 : Int)))] ?_
   refine WO_nil ?_
   refine ci h (fun h => ?_) fun h => ?_
   ·refine W_reg ?_
    refine ps 3 [(17, vl v1_a v1_n v1_c), (18, vl l_a l_n l_c), (19, vi v2)] ?_
    refine ix slk24 h fun p2 h => ?_
    obtain ⟨x2, hx2, h⟩ := h
    refine ldn tk49 hx2 ?_
    refine als 1 h ?_
    intro b1 w2 eb ew hb_b1 h
    clear eb ew hb_b1
    refine ap h ?_
    rintro a1_a a1_n a1_c w3 h
    refine ps 1 [(3, vl a1_a a1_n a1_c)] ?_
    refine WO_nil ?_
    refine blockK_normal ?_
    refine W_reg ?_
    refine ps 3 [(9, vi v2), (10, vi (IntKind.wrap .i64 (v2 + (1 : Int)))), (4, vi (IntKind.wrap .i64 (v2 + (1 : Int))))] ?_
    refine WO_nil ?_
    exact ⟨_, a1_a, a1_n, a1_c, IntKind.wrap .i64 (v2 + (1 : Int)), Agree.eq ⟨rfl, rfl, rfl, trivial⟩, h⟩
   ·refine W_skip ?_
    refine blockK_normal ?_
    refine W_reg ?_
    refine ps 3 [(9, vi v2), (10, vi (IntKind.wrap .i64 (v2 + (1 : Int)))), (4, vi (IntKind.wrap .i64 (v2 + (1 : Int))))] ?_
    refine WO_nil ?_
    exact ⟨_, v1_a, v1_n, v1_c, IntKind.wrap .i64 (v2 + (1 : Int)), Agree.eq ⟨rfl, rfl, rfl, trivial⟩, h⟩
  ·refine W_exit ?_
   refine blockK_hit ?_
   refine W_regseq ?_
   refine ps 2 [(24, vl v1_a v1_n v1_c), (2, vl v1_a v1_n v1_c)] ?_
   refine WO_nil ?_
   refine W_ret ?_
   exact ret1 (v := vl v1_a v1_n v1_c) (t := 2) rfl rfl ⟨_, _, _, rfl, h⟩
def ref06_within.R (Q : Bool → World → Prop) (n : Int) (low : Int) (high : Int) (w : World) : Prop := (
  Q ((decide (n ≥ low)) && (decide (n ≤ high))) w)
theorem ref06_within.ok {Q : Bool → World → Prop} {n : Int} {low : Int} {high : Int} {w : World} (h : ref06_within.R Q n low high w) : Cl Pg 132 #[vi n, vi low, vi high] w (fun v w' => ∃ (r0 : Bool), v = vb r0 ∧ Q r0 w') := by
 refine calls_args (args := [vi n, vi low, vi high]) Tryz.func132 ?_
 unfold ref06_within.R at h
 refine W_regseq ?_
 refine ps 1 [(6, vb false)] ?_
 refine WO_nil ?_
 refine W_regseq ?_
 refine ps 4 [(7, vi n), (8, vi low), (9, vb (decide (n ≥ low))), (10, vb (decide (n ≥ low)))] ?_
 refine WO_conv (fun e w_ => ∃ (e0 : Env), e = upds e0 [(6, vb ((decide (n ≥ low)) && (decide (n ≤ high))))] ∧ w = w_) ?_ ?_
 ·clear h
  refine WO_case 10 (b := decide (n ≥ low)) rfl (fun hb0 => ?_) (fun hb0 => ?_)
  ·refine ps 5 [(11, vi n), (12, vi high), (13, vb (decide (n ≤ high))), (14, vb (decide (n ≤ high))), (6, vb (decide (n ≤ high)))] ?_
   exact WO_nil ⟨_, Agree.eq ⟨(by first | rfl | (simp only [hb0, Bool.true_and, Bool.false_and, Bool.true_or, Bool.false_or, Bool.and_true, Bool.and_false, Bool.or_true, Bool.or_false]; done) | (simp only [hb0]; rfl) | (simp [hb0]; done)), trivial⟩, rfl⟩
  ·refine ps 5 [(11, undef), (12, undef), (13, undef), (14, vb false), (6, vb false)] ?_
   exact WO_nil ⟨_, Agree.eq ⟨(by first | rfl | (simp only [hb0, Bool.true_and, Bool.false_and, Bool.true_or, Bool.false_or, Bool.and_true, Bool.and_false, Bool.or_true, Bool.or_false]; done) | (simp only [hb0]; rfl) | (simp [hb0]; done)), trivial⟩, rfl⟩
 ·rintro _ _ ⟨e0, rfl, rfl⟩
  refine W_ret ?_
  exact ret1 (v := vb ((decide (n ≥ low)) && (decide (n ≤ high)))) (t := 6) rfl rfl ⟨_, rfl, h⟩
def ref06_isUnit.l1 (Q : Bool → World → Prop) (s : ByteArray) : Nat → Int → World → Prop
       | 0, _, _ => False
       | nl1 + 1, v2, w2 => (
       Ifb (decide (v2 < ((s.size : Nat) : Int)))
      (IxS s v2 fun x1 =>
      Ifb (!(((((decide (x1 ≥ (97 : Int))) && (decide (x1 ≤ (122 : Int)))) || ((decide (x1 ≥ (48 : Int))) && (decide (x1 ≤ (57 : Int))))) || (x1 == (32 : Int))) || (x1 == (45 : Int))))
      (Q false w2)
      ((ref06_isUnit.l1 Q s nl1) (IntKind.wrap .i64 (v2 + (1 : Int))) w2))
      (Q true w2))
def ref06_isUnit.j1 (Q : Bool → World → Prop) (s : ByteArray) (v1 : Bool) (w1 : World) : Prop := (
       Ifb v1
      (Q false w1)
      (∃ k, ref06_isUnit.l1 Q s k 0 w1))
def ref06_isUnit.R (Q : Bool → World → Prop) (s : ByteArray) (w : World) : Prop := (
  Ifb (decide (((s.size : Nat) : Int) < (1 : Int)))
      (ref06_isUnit.j1 Q s true w)
      (Ifb (decide (((s.size : Nat) : Int) > (24 : Int)))
      (ref06_isUnit.j1 Q s true w)
      (IxS s (0 : Int) fun x2 =>
      Ifb (x2 == (32 : Int))
      (ref06_isUnit.j1 Q s true w)
      (IxS s (IntKind.wrap .i64 (((s.size : Nat) : Int) - (1 : Int))) fun x3 =>
      ref06_isUnit.j1 Q s (x3 == (32 : Int)) w))))
theorem ref06_isUnit.ok {Q : Bool → World → Prop} {s : ByteArray} {w : World} (h : ref06_isUnit.R Q s w) : Cl Pg 133 #[vs s] w (fun v w' => ∃ (r0 : Bool), v = vb r0 ∧ Q r0 w') := by
 refine calls_args (args := [vs s]) Tryz.func133 ?_
 unfold ref06_isUnit.R at h
 refine W_regseq ?_
 refine ps 1 [(2, vb false)] ?_
 refine WO_nil ?_
 refine W_seq ?_
 refine W_join (fun e w1 => ∃ (e0 : Env) (v1 : Bool), e = upds e0 [(0, vs s), (25, vb v1)] ∧ ref06_isUnit.j1 Q s v1 w1) ?_ ?_
 ·refine W_reg ?_
  refine ps 4 [(5, vs s), (6, vi (s.size : Nat)), (7, vb (decide (((s.size : Nat) : Int) < (1 : Int)))), (8, vb (decide (((s.size : Nat) : Int) < (1 : Int))))] ?_
  refine cs 8 h (fun h => ?_) fun h => ?_
  ·refine ps 17 [(9, undef), (10, undef), (11, undef), (12, vb true), (13, vb true), (14, undef), (15, undef), (16, undef), (17, vb true), (18, vb true), (19, undef), (20, undef), (21, undef), (22, undef), (23, undef), (24, undef), (25, vb true)] ?_
   refine WO_nil ?_
   exact ⟨_, true, Agree.eq ⟨rfl, rfl, trivial⟩, h⟩
  ·refine ps 5 [(9, vs s), (10, vi (s.size : Nat)), (11, vb (decide (((s.size : Nat) : Int) > (24 : Int)))), (12, vb (decide (((s.size : Nat) : Int) > (24 : Int)))), (13, vb (decide (((s.size : Nat) : Int) > (24 : Int))))] ?_
   refine cs 13 h (fun h => ?_) fun h => ?_
   ·refine ps 12 [(14, undef), (15, undef), (16, undef), (17, vb true), (18, vb true), (19, undef), (20, undef), (21, undef), (22, undef), (23, undef), (24, undef), (25, vb true)] ?_
    refine WO_nil ?_
    exact ⟨_, true, Agree.eq ⟨rfl, rfl, trivial⟩, h⟩
   ·refine ps 1 [(14, vs s)] ?_
    refine ixs h fun x2 h => ?_
    refine ps 3 [(16, vb (x2 == (32 : Int))), (17, vb (x2 == (32 : Int))), (18, vb (x2 == (32 : Int)))] ?_
    refine cs 18 h (fun h => ?_) fun h => ?_
    ·refine ps 7 [(19, undef), (20, undef), (21, undef), (22, undef), (23, undef), (24, undef), (25, vb true)] ?_
     refine WO_nil ?_
     exact ⟨_, true, Agree.eq ⟨rfl, rfl, trivial⟩, h⟩
    ·refine ps 4 [(19, vs s), (20, vs s), (21, vi (s.size : Nat)), (22, vi (IntKind.wrap .i64 (((s.size : Nat) : Int) - (1 : Int))))] ?_
     refine ixs h fun x3 h => ?_
     refine ps 2 [(24, vb (x3 == (32 : Int))), (25, vb (x3 == (32 : Int)))] ?_
     refine WO_nil ?_
     exact ⟨_, (x3 == (32 : Int)), Agree.eq ⟨rfl, rfl, trivial⟩, h⟩
 ·clear h
  rintro _ w1 ⟨e0, v1, rfl, h⟩
  unfold ref06_isUnit.j1 at h
  refine ci h (fun h => ?_) fun h => ?_
  ·refine W_regseq ?_
   refine ps 1 [(2, vb false)] ?_
   refine WO_nil ?_
   refine W_ret ?_
   refine seqK_ret ?_
   exact ret1 (v := vb false) (t := 2) rfl rfl ⟨_, rfl, h⟩
  ·refine W_skip ?_
   refine W_seq ?_
   refine W_regseq ?_
   refine ps 1 [(3, vi 0)] ?_
   refine WO_nil ?_
   refine W_block ?_
   obtain ⟨nl1, h⟩ := h
   refine W_loopI (fun k e w2 => ∃ (e0 : Env) (v2 : Int), e = upds e0 [(0, vs s), (3, vi v2)] ∧ ref06_isUnit.l1 Q s k v2 w2) nl1 ?_ ?_ ?_
   ·rintro _ _ ⟨_, _, _, h⟩
    exact h
   ·exact ⟨_, 0, Agree.eq ⟨rfl, rfl, trivial⟩, h⟩
   ·clear h nl1
    rintro nl1 _ w2 ⟨e0, v2, rfl, h⟩
    unfold ref06_isUnit.l1 at h
    refine W_seq ?_
    refine W_regseq ?_
    refine ps 4 [(26, vi v2), (27, vs s), (28, vi (s.size : Nat)), (29, vb (decide (v2 < ((s.size : Nat) : Int))))] ?_
    refine WO_nil ?_
    refine ci h (fun h => ?_) fun h => ?_
    ·refine W_skip ?_
     refine W_seq ?_
     refine W_block ?_
     refine W_regseq ?_
     refine ps 2 [(32, vs s), (33, vi v2)] ?_
     refine ixs h fun x1 h => ?_
     refine ps 1 [(4, vu x1)] ?_
     refine WO_nil ?_
     refine W_regseq ?_
     refine ps 3 [(35, vu x1), (36, vb (decide (x1 ≥ (97 : Int)))), (37, vb (decide (x1 ≥ (97 : Int))))] ?_
     refine WO_conv (fun e w_ => ∃ (e0 : Env), e = upds e0 [(0, vs s), (3, vi v2), (57, vb (!(((((decide (x1 ≥ (97 : Int))) && (decide (x1 ≤ (122 : Int)))) || ((decide (x1 ≥ (48 : Int))) && (decide (x1 ≤ (57 : Int))))) || (x1 == (32 : Int))) || (x1 == (45 : Int)))))] ∧ w2 = w_) ?_ ?_
     ·clear h
      refine WO_case 37 (b := decide (x1 ≥ (97 : Int))) rfl (fun hb0 => ?_) (fun hb0 => ?_)
      ·refine ps 4 [(38, vu x1), (39, vb (decide (x1 ≤ (122 : Int)))), (40, vb (decide (x1 ≤ (122 : Int)))), (41, vb (decide (x1 ≤ (122 : Int))))] ?_
       refine WO_case 41 (b := decide (x1 ≤ (122 : Int))) rfl (fun hb1 => ?_) (fun hb1 => ?_)
       ·refine ps 16 [(42, undef), (43, undef), (44, undef), (45, undef), (46, undef), (47, undef), (48, vb true), (49, vb true), (50, undef), (51, undef), (52, vb true), (53, vb true), (54, undef), (55, undef), (56, vb true), (57, vb (!true))] ?_
        exact WO_nil ⟨_, Agree.eq ⟨rfl, rfl, (by first | rfl | (simp only [hb0, hb1, Bool.true_and, Bool.false_and, Bool.true_or, Bool.false_or, Bool.and_true, Bool.and_false, Bool.or_true, Bool.or_false]; done) | (simp only [hb0, hb1]; rfl) | (simp [hb0, hb1]; done)), trivial⟩, rfl⟩
       ·refine ps 3 [(42, vu x1), (43, vb (decide (x1 ≥ (48 : Int)))), (44, vb (decide (x1 ≥ (48 : Int))))] ?_
        refine WO_case 44 (b := decide (x1 ≥ (48 : Int))) rfl (fun hb2 => ?_) (fun hb2 => ?_)
        ·refine ps 5 [(45, vu x1), (46, vb (decide (x1 ≤ (57 : Int)))), (47, vb (decide (x1 ≤ (57 : Int)))), (48, vb (decide (x1 ≤ (57 : Int)))), (49, vb (decide (x1 ≤ (57 : Int))))] ?_
         refine WO_case 49 (b := decide (x1 ≤ (57 : Int))) rfl (fun hb3 => ?_) (fun hb3 => ?_)
         ·refine ps 8 [(50, undef), (51, undef), (52, vb true), (53, vb true), (54, undef), (55, undef), (56, vb true), (57, vb (!true))] ?_
          exact WO_nil ⟨_, Agree.eq ⟨rfl, rfl, (by first | rfl | (simp only [hb0, hb1, hb2, hb3, Bool.true_and, Bool.false_and, Bool.true_or, Bool.false_or, Bool.and_true, Bool.and_false, Bool.or_true, Bool.or_false]; done) | (simp only [hb0, hb1, hb2, hb3]; rfl) | (simp [hb0, hb1, hb2, hb3]; done)), trivial⟩, rfl⟩
         ·refine ps 4 [(50, vu x1), (51, vb (x1 == (32 : Int))), (52, vb (x1 == (32 : Int))), (53, vb (x1 == (32 : Int)))] ?_
          refine WO_case 53 (b := (x1 == (32 : Int))) rfl (fun hb4 => ?_) (fun hb4 => ?_)
          ·refine ps 4 [(54, undef), (55, undef), (56, vb true), (57, vb (!true))] ?_
           exact WO_nil ⟨_, Agree.eq ⟨rfl, rfl, (by first | rfl | (simp only [hb0, hb1, hb2, hb3, hb4, Bool.true_and, Bool.false_and, Bool.true_or, Bool.false_or, Bool.and_true, Bool.and_false, Bool.or_true, Bool.or_false]; done) | (simp only [hb0, hb1, hb2, hb3, hb4]; rfl) | (simp [hb0, hb1, hb2, hb3, hb4]; done)), trivial⟩, rfl⟩
          ·refine ps 4 [(54, vu x1), (55, vb (x1 == (45 : Int))), (56, vb (x1 == (45 : Int))), (57, vb (!(x1 == (45 : Int))))] ?_
           exact WO_nil ⟨_, Agree.eq ⟨rfl, rfl, (by first | rfl | (simp only [hb0, hb1, hb2, hb3, hb4, Bool.true_and, Bool.false_and, Bool.true_or, Bool.false_or, Bool.and_true, Bool.and_false, Bool.or_true, Bool.or_false]; done) | (simp only [hb0, hb1, hb2, hb3, hb4]; rfl) | (simp [hb0, hb1, hb2, hb3, hb4]; done)), trivial⟩, rfl⟩
        ·refine ps 9 [(45, undef), (46, undef), (47, vb false), (48, vb false), (49, vb false), (50, vu x1), (51, vb (x1 == (32 : Int))), (52, vb (x1 == (32 : Int))), (53, vb (x1 == (32 : Int)))] ?_
         refine WO_case 53 (b := (x1 == (32 : Int))) rfl (fun hb3 => ?_) (fun hb3 => ?_)
         ·refine ps 4 [(54, undef), (55, undef), (56, vb true), (57, vb (!true))] ?_
          exact WO_nil ⟨_, Agree.eq ⟨rfl, rfl, (by first | rfl | (simp only [hb0, hb1, hb2, hb3, Bool.true_and, Bool.false_and, Bool.true_or, Bool.false_or, Bool.and_true, Bool.and_false, Bool.or_true, Bool.or_false]; done) | (simp only [hb0, hb1, hb2, hb3]; rfl) | (simp [hb0, hb1, hb2, hb3]; done)), trivial⟩, rfl⟩
         ·refine ps 4 [(54, vu x1), (55, vb (x1 == (45 : Int))), (56, vb (x1 == (45 : Int))), (57, vb (!(x1 == (45 : Int))))] ?_
          exact WO_nil ⟨_, Agree.eq ⟨rfl, rfl, (by first | rfl | (simp only [hb0, hb1, hb2, hb3, Bool.true_and, Bool.false_and, Bool.true_or, Bool.false_or, Bool.and_true, Bool.and_false, Bool.or_true, Bool.or_false]; done) | (simp only [hb0, hb1, hb2, hb3]; rfl) | (simp [hb0, hb1, hb2, hb3]; done)), trivial⟩, rfl⟩
      ·refine ps 7 [(38, undef), (39, undef), (40, vb false), (41, vb false), (42, vu x1), (43, vb (decide (x1 ≥ (48 : Int)))), (44, vb (decide (x1 ≥ (48 : Int))))] ?_
       refine WO_case 44 (b := decide (x1 ≥ (48 : Int))) rfl (fun hb1 => ?_) (fun hb1 => ?_)
       ·refine ps 5 [(45, vu x1), (46, vb (decide (x1 ≤ (57 : Int)))), (47, vb (decide (x1 ≤ (57 : Int)))), (48, vb (decide (x1 ≤ (57 : Int)))), (49, vb (decide (x1 ≤ (57 : Int))))] ?_
        refine WO_case 49 (b := decide (x1 ≤ (57 : Int))) rfl (fun hb2 => ?_) (fun hb2 => ?_)
        ·refine ps 8 [(50, undef), (51, undef), (52, vb true), (53, vb true), (54, undef), (55, undef), (56, vb true), (57, vb (!true))] ?_
         exact WO_nil ⟨_, Agree.eq ⟨rfl, rfl, (by first | rfl | (simp only [hb0, hb1, hb2, Bool.true_and, Bool.false_and, Bool.true_or, Bool.false_or, Bool.and_true, Bool.and_false, Bool.or_true, Bool.or_false]; done) | (simp only [hb0, hb1, hb2]; rfl) | (simp [hb0, hb1, hb2]; done)), trivial⟩, rfl⟩
        ·refine ps 4 [(50, vu x1), (51, vb (x1 == (32 : Int))), (52, vb (x1 == (32 : Int))), (53, vb (x1 == (32 : Int)))] ?_
         refine WO_case 53 (b := (x1 == (32 : Int))) rfl (fun hb3 => ?_) (fun hb3 => ?_)
         ·refine ps 4 [(54, undef), (55, undef), (56, vb true), (57, vb (!true))] ?_
          exact WO_nil ⟨_, Agree.eq ⟨rfl, rfl, (by first | rfl | (simp only [hb0, hb1, hb2, hb3, Bool.true_and, Bool.false_and, Bool.true_or, Bool.false_or, Bool.and_true, Bool.and_false, Bool.or_true, Bool.or_false]; done) | (simp only [hb0, hb1, hb2, hb3]; rfl) | (simp [hb0, hb1, hb2, hb3]; done)), trivial⟩, rfl⟩
         ·refine ps 4 [(54, vu x1), (55, vb (x1 == (45 : Int))), (56, vb (x1 == (45 : Int))), (57, vb (!(x1 == (45 : Int))))] ?_
          exact WO_nil ⟨_, Agree.eq ⟨rfl, rfl, (by first | rfl | (simp only [hb0, hb1, hb2, hb3, Bool.true_and, Bool.false_and, Bool.true_or, Bool.false_or, Bool.and_true, Bool.and_false, Bool.or_true, Bool.or_false]; done) | (simp only [hb0, hb1, hb2, hb3]; rfl) | (simp [hb0, hb1, hb2, hb3]; done)), trivial⟩, rfl⟩
       ·refine ps 9 [(45, undef), (46, undef), (47, vb false), (48, vb false), (49, vb false), (50, vu x1), (51, vb (x1 == (32 : Int))), (52, vb (x1 == (32 : Int))), (53, vb (x1 == (32 : Int)))] ?_
        refine WO_case 53 (b := (x1 == (32 : Int))) rfl (fun hb2 => ?_) (fun hb2 => ?_)
        ·refine ps 4 [(54, undef), (55, undef), (56, vb true), (57, vb (!true))] ?_
         exact WO_nil ⟨_, Agree.eq ⟨rfl, rfl, (by first | rfl | (simp only [hb0, hb1, hb2, Bool.true_and, Bool.false_and, Bool.true_or, Bool.false_or, Bool.and_true, Bool.and_false, Bool.or_true, Bool.or_false]; done) | (simp only [hb0, hb1, hb2]; rfl) | (simp [hb0, hb1, hb2]; done)), trivial⟩, rfl⟩
        ·refine ps 4 [(54, vu x1), (55, vb (x1 == (45 : Int))), (56, vb (x1 == (45 : Int))), (57, vb (!(x1 == (45 : Int))))] ?_
         exact WO_nil ⟨_, Agree.eq ⟨rfl, rfl, (by first | rfl | (simp only [hb0, hb1, hb2, Bool.true_and, Bool.false_and, Bool.true_or, Bool.false_or, Bool.and_true, Bool.and_false, Bool.or_true, Bool.or_false]; done) | (simp only [hb0, hb1, hb2]; rfl) | (simp [hb0, hb1, hb2]; done)), trivial⟩, rfl⟩
     ·rintro _ _ ⟨e0, rfl, rfl⟩
      refine ci h (fun h => ?_) fun h => ?_
      ·refine W_regseq ?_
       refine ps 1 [(2, vb false)] ?_
       refine WO_nil ?_
       refine W_ret ?_
       refine blockK_ret ?_
       refine seqK_ret ?_
       refine seqK_ret ?_
       refine blockK_ret ?_
       refine seqK_ret ?_
       exact ret1 (v := vb false) (t := 2) rfl rfl ⟨_, rfl, h⟩
      ·refine W_skip ?_
       refine blockK_normal ?_
       refine W_reg ?_
       refine ps 3 [(30, vi v2), (31, vi (IntKind.wrap .i64 (v2 + (1 : Int)))), (3, vi (IntKind.wrap .i64 (v2 + (1 : Int))))] ?_
       refine WO_nil ?_
       exact ⟨_, IntKind.wrap .i64 (v2 + (1 : Int)), Agree.eq ⟨rfl, rfl, trivial⟩, h⟩
    ·refine W_exit ?_
     refine blockK_hit ?_
     refine W_regseq ?_
     refine ps 1 [(2, vb true)] ?_
     refine WO_nil ?_
     refine W_ret ?_
     exact ret1 (v := vb true) (t := 2) rfl rfl ⟨_, rfl, h⟩
def ref06_validAccount.j2 (Q : Bool → World → Prop) (a : TAccount) (v2 : Bool) (w3 : World) : Prop := (
       Ifb v2
      (Q (a.Id == (0 : Int)) w3)
      (Q false w3))
def ref06_validAccount.j1 (Q : Bool → World → Prop) (a : TAccount) (v1 : Bool) (w2 : World) : Prop := (
       Ifb v1
      (Q ((decide (a.Id ≥ (1 : Int))) && (decide (a.Id ≤ (1000000 : Int)))) w2)
      (Ifb (a.Kind == (1 : Int))
      (ref06_validAccount.j2 Q a (a.Kind == (1 : Int)) w2)
      (Ifb (a.Kind == (4 : Int))
      (ref06_validAccount.j2 Q a (a.Kind == (4 : Int)) w2)
      (Ifb (a.Kind == (5 : Int))
      (ref06_validAccount.j2 Q a (a.Kind == (5 : Int)) w2)
      (ref06_validAccount.j2 Q a (a.Kind == (6 : Int)) w2)))))
def ref06_validAccount.R (Q : Bool → World → Prop) (a : TAccount) (w : World) : Prop := (
  Al w (.cells #[vu a.Kind, vi a.Id] 40) fun b1 w1 =>
      Ifb (a.Kind == (2 : Int))
      (ref06_validAccount.j1 Q a (a.Kind == (2 : Int)) w1)
      (Ifb (a.Kind == (3 : Int))
      (ref06_validAccount.j1 Q a (a.Kind == (3 : Int)) w1)
      (ref06_validAccount.j1 Q a (a.Kind == (7 : Int)) w1)))
theorem ref06_validAccount.ok {Q : Bool → World → Prop} {a : TAccount} {w : World} (h : ref06_validAccount.R Q a w) : Cl Pg 134 #[vg (TAccount.enc a)] w (fun v w' => ∃ (r0 : Bool), v = vb r0 ∧ Q r0 w') := by
 refine calls_args (args := [vg (TAccount.enc a)]) Tryz.func134 ?_
 unfold ref06_validAccount.R at h
 refine W_regseq ?_
 refine alp h ?_
 intro b1 w1 eb ew hb_b1 h
 clear eb ew
 refine ps 1 [(2, vb false)] ?_
 refine WO_nil ?_
 refine W_seq ?_
 refine W_regseq ?_
 refine ps 1 [(3, vp ⟨b1, 0, none⟩)] ?_
 refine lb1 tk5 hb_b1 ?_
 refine WO_nil ?_
 refine W_block ?_
 refine W_join (fun e w2 => ∃ (e0 : Env) (v1 : Bool), e = upds e0 [(1, vp ⟨b1, 0, none⟩), (4, vu a.Kind), (5, vb v1)] ∧ w2.heap[b1]? = some (.cells #[vu a.Kind, vi a.Id] 40 (0, 0)) ∧ ref06_validAccount.j1 Q a v1 w2) ?_ ?_
 ·refine W_regseq ?_
  refine ps 2 [(6, vb (a.Kind == (2 : Int))), (5, vb (a.Kind == (2 : Int)))] ?_
  refine WO_nil ?_
  refine ci h (fun h => ?_) fun h => ?_
  ·refine W_skip ?_
   exact ⟨_, (a.Kind == (2 : Int)), Agree.eq ⟨rfl, rfl, rfl, trivial⟩, hb_b1, h⟩
  ·refine W_regseq ?_
   refine ps 2 [(7, vb (a.Kind == (3 : Int))), (5, vb (a.Kind == (3 : Int)))] ?_
   refine WO_nil ?_
   refine ci h (fun h => ?_) fun h => ?_
   ·refine W_skip ?_
    exact ⟨_, (a.Kind == (3 : Int)), Agree.eq ⟨rfl, rfl, rfl, trivial⟩, hb_b1, h⟩
   ·refine W_reg ?_
    refine ps 2 [(8, vb (a.Kind == (7 : Int))), (5, vb (a.Kind == (7 : Int)))] ?_
    refine WO_nil ?_
    exact ⟨_, (a.Kind == (7 : Int)), Agree.eq ⟨rfl, rfl, rfl, trivial⟩, hb_b1, h⟩
 ·clear h hb_b1
  rintro _ w2 ⟨e0, v1, rfl, hb_b1, h⟩
  unfold ref06_validAccount.j1 at h
  refine ci h (fun h => ?_) fun h => ?_
  ·refine W_regseq ?_
   refine ps 1 [(9, vp ⟨b1, 1, none⟩)] ?_
   refine lb1 tk3 hb_b1 ?_
   refine ps 2 [(11, vb (decide (a.Id ≥ (1 : Int)))), (12, vb (decide (a.Id ≥ (1 : Int))))] ?_
   refine WO_conv (fun e w_ => ∃ (e0 : Env), e = upds e0 [(2, vb ((decide (a.Id ≥ (1 : Int))) && (decide (a.Id ≤ (1000000 : Int)))))] ∧ w2 = w_) ?_ ?_
   ·clear h
    refine WO_case 12 (b := decide (a.Id ≥ (1 : Int))) rfl (fun hb0 => ?_) (fun hb0 => ?_)
    ·refine ps 1 [(13, vp ⟨b1, 1, none⟩)] ?_
     refine lb1 tk3 hb_b1 ?_
     refine ps 3 [(15, vb (decide (a.Id ≤ (1000000 : Int)))), (16, vb (decide (a.Id ≤ (1000000 : Int)))), (2, vb (decide (a.Id ≤ (1000000 : Int))))] ?_
     exact WO_nil ⟨_, Agree.eq ⟨(by first | rfl | (simp only [hb0, Bool.true_and, Bool.false_and, Bool.true_or, Bool.false_or, Bool.and_true, Bool.and_false, Bool.or_true, Bool.or_false]; done) | (simp only [hb0]; rfl) | (simp [hb0]; done)), trivial⟩, rfl⟩
    ·refine ps 5 [(13, undef), (14, undef), (15, undef), (16, vb false), (2, vb false)] ?_
     exact WO_nil ⟨_, Agree.eq ⟨(by first | rfl | (simp only [hb0, Bool.true_and, Bool.false_and, Bool.true_or, Bool.false_or, Bool.and_true, Bool.and_false, Bool.or_true, Bool.or_false]; done) | (simp only [hb0]; rfl) | (simp [hb0]; done)), trivial⟩, rfl⟩
   ·rintro _ _ ⟨e0, rfl, rfl⟩
    refine W_ret ?_
    refine blockK_ret ?_
    refine seqK_ret ?_
    exact ret1 (v := vb ((decide (a.Id ≥ (1 : Int))) && (decide (a.Id ≤ (1000000 : Int))))) (t := 2) rfl rfl ⟨_, rfl, h⟩
  ·refine W_join (fun e w3 => ∃ (e0 : Env) (v2 : Bool), e = upds e0 [(1, vp ⟨b1, 0, none⟩), (17, vb v2)] ∧ w3.heap[b1]? = some (.cells #[vu a.Kind, vi a.Id] 40 (0, 0)) ∧ ref06_validAccount.j2 Q a v2 w3) ?_ ?_
   ·refine W_regseq ?_
    refine ps 2 [(18, vb (a.Kind == (1 : Int))), (17, vb (a.Kind == (1 : Int)))] ?_
    refine WO_nil ?_
    refine ci h (fun h => ?_) fun h => ?_
    ·refine W_skip ?_
     exact ⟨_, (a.Kind == (1 : Int)), Agree.eq ⟨rfl, rfl, trivial⟩, hb_b1, h⟩
    ·refine W_regseq ?_
     refine ps 2 [(19, vb (a.Kind == (4 : Int))), (17, vb (a.Kind == (4 : Int)))] ?_
     refine WO_nil ?_
     refine ci h (fun h => ?_) fun h => ?_
     ·refine W_skip ?_
      exact ⟨_, (a.Kind == (4 : Int)), Agree.eq ⟨rfl, rfl, trivial⟩, hb_b1, h⟩
     ·refine W_regseq ?_
      refine ps 2 [(20, vb (a.Kind == (5 : Int))), (17, vb (a.Kind == (5 : Int)))] ?_
      refine WO_nil ?_
      refine ci h (fun h => ?_) fun h => ?_
      ·refine W_skip ?_
       exact ⟨_, (a.Kind == (5 : Int)), Agree.eq ⟨rfl, rfl, trivial⟩, hb_b1, h⟩
      ·refine W_reg ?_
       refine ps 2 [(21, vb (a.Kind == (6 : Int))), (17, vb (a.Kind == (6 : Int)))] ?_
       refine WO_nil ?_
       exact ⟨_, (a.Kind == (6 : Int)), Agree.eq ⟨rfl, rfl, trivial⟩, hb_b1, h⟩
   ·clear h hb_b1
    rintro _ w3 ⟨e0, v2, rfl, hb_b1, h⟩
    unfold ref06_validAccount.j2 at h
    refine ci h (fun h => ?_) fun h => ?_
    ·refine W_regseq ?_
     refine ps 1 [(22, vp ⟨b1, 1, none⟩)] ?_
     refine lb1 tk3 hb_b1 ?_
     refine ps 2 [(24, vb (a.Id == (0 : Int))), (2, vb (a.Id == (0 : Int)))] ?_
     refine WO_nil ?_
     refine W_ret ?_
     refine blockK_ret ?_
     refine seqK_ret ?_
     exact ret1 (v := vb (a.Id == (0 : Int))) (t := 2) rfl rfl ⟨_, rfl, h⟩
    ·refine W_skip ?_
     refine blockK_normal ?_
     refine W_regseq ?_
     refine ps 1 [(2, vb false)] ?_
     refine WO_nil ?_
     refine W_ret ?_
     exact ret1 (v := vb false) (t := 2) rfl rfl ⟨_, rfl, h⟩
def ref06_reason.j1 (Q : Bool → World → Prop) (why : Int) (from_ : Int) (to_ : Int) (v1 : Bool) (w1 : World) : Prop := (
       Ifb v1
      (Q ((from_ == (1 : Int)) && (to_ == (2 : Int))) w1)
      (Ifb (why == (2 : Int))
      (Q ((from_ == (2 : Int)) && (to_ == (3 : Int))) w1)
      (Ifb (why == (3 : Int))
      (Q ((from_ == (2 : Int)) && (to_ == (4 : Int))) w1)
      (Ifb (why == (4 : Int))
      (Q ((from_ == (4 : Int)) && (to_ == (3 : Int))) w1)
      (Ifb (why == (5 : Int))
      (Q (((from_ == (2 : Int)) && (to_ == (6 : Int))) || ((from_ == (6 : Int)) && (to_ == (2 : Int)))) w1)
      (Ifb (why == (6 : Int))
      (Q ((from_ == (2 : Int)) && (to_ == (5 : Int))) w1)
      (Ifb (why == (7 : Int))
      (Q ((from_ == (5 : Int)) && (to_ == (2 : Int))) w1)
      (Ifb (why == (8 : Int))
      (Q ((from_ == (2 : Int)) && (to_ == (7 : Int))) w1)
      (Ifb (why == (9 : Int))
      (Q ((from_ == (7 : Int)) && (to_ == (1 : Int))) w1)
      (Q false w1))))))))))
def ref06_reason.R (Q : Bool → World → Prop) (why : Int) (from_ : Int) (to_ : Int) (w : World) : Prop := (
  Ifb (why == (1 : Int))
      (ref06_reason.j1 Q why from_ to_ (why == (1 : Int)) w)
      (ref06_reason.j1 Q why from_ to_ (why == (10 : Int)) w))
theorem ref06_reason.ok {Q : Bool → World → Prop} {why : Int} {from_ : Int} {to_ : Int} {w : World} (h : ref06_reason.R Q why from_ to_ w) : Cl Pg 135 #[vu why, vu from_, vu to_] w (fun v w' => ∃ (r0 : Bool), v = vb r0 ∧ Q r0 w') := by
 refine calls_args (args := [vu why, vu from_, vu to_]) Tryz.func135 ?_
 unfold ref06_reason.R at h
 refine W_regseq ?_
 refine ps 1 [(6, vb false)] ?_
 refine WO_nil ?_
 refine W_seq ?_
 refine W_regseq ?_
 refine ps 1 [(7, vu why)] ?_
 refine WO_nil ?_
 refine W_block ?_
 refine W_join (fun e w1 => ∃ (e0 : Env) (v1 : Bool), e = upds e0 [(1, vu from_), (2, vu to_), (7, vu why), (8, vb v1)] ∧ ref06_reason.j1 Q why from_ to_ v1 w1) ?_ ?_
 ·refine W_regseq ?_
  refine ps 2 [(9, vb (why == (1 : Int))), (8, vb (why == (1 : Int)))] ?_
  refine WO_nil ?_
  refine ci h (fun h => ?_) fun h => ?_
  ·refine W_skip ?_
   exact ⟨_, (why == (1 : Int)), Agree.eq ⟨rfl, rfl, rfl, rfl, trivial⟩, h⟩
  ·refine W_reg ?_
   refine ps 2 [(10, vb (why == (10 : Int))), (8, vb (why == (10 : Int)))] ?_
   refine WO_nil ?_
   exact ⟨_, (why == (10 : Int)), Agree.eq ⟨rfl, rfl, rfl, rfl, trivial⟩, h⟩
 ·clear h
  rintro _ w1 ⟨e0, v1, rfl, h⟩
  unfold ref06_reason.j1 at h
  refine ci h (fun h => ?_) fun h => ?_
  ·refine W_regseq ?_
   refine ps 3 [(11, vu from_), (12, vb (from_ == (1 : Int))), (13, vb (from_ == (1 : Int)))] ?_
   refine WO_conv (fun e w_ => ∃ (e0 : Env), e = upds e0 [(6, vb ((from_ == (1 : Int)) && (to_ == (2 : Int))))] ∧ w1 = w_) ?_ ?_
   ·clear h
    refine WO_case 13 (b := (from_ == (1 : Int))) rfl (fun hb0 => ?_) (fun hb0 => ?_)
    ·refine ps 4 [(14, vu to_), (15, vb (to_ == (2 : Int))), (16, vb (to_ == (2 : Int))), (6, vb (to_ == (2 : Int)))] ?_
     exact WO_nil ⟨_, Agree.eq ⟨(by first | rfl | (simp only [hb0, Bool.true_and, Bool.false_and, Bool.true_or, Bool.false_or, Bool.and_true, Bool.and_false, Bool.or_true, Bool.or_false]; done) | (simp only [hb0]; rfl) | (simp [hb0]; done)), trivial⟩, rfl⟩
    ·refine ps 4 [(14, undef), (15, undef), (16, vb false), (6, vb false)] ?_
     exact WO_nil ⟨_, Agree.eq ⟨(by first | rfl | (simp only [hb0, Bool.true_and, Bool.false_and, Bool.true_or, Bool.false_or, Bool.and_true, Bool.and_false, Bool.or_true, Bool.or_false]; done) | (simp only [hb0]; rfl) | (simp [hb0]; done)), trivial⟩, rfl⟩
   ·rintro _ _ ⟨e0, rfl, rfl⟩
    refine W_ret ?_
    refine blockK_ret ?_
    refine seqK_ret ?_
    exact ret1 (v := vb ((from_ == (1 : Int)) && (to_ == (2 : Int)))) (t := 6) rfl rfl ⟨_, rfl, h⟩
  ·refine W_regseq ?_
   refine ps 2 [(18, vb (why == (2 : Int))), (17, vb (why == (2 : Int)))] ?_
   refine WO_nil ?_
   refine ci h (fun h => ?_) fun h => ?_
   ·refine W_regseq ?_
    refine ps 3 [(19, vu from_), (20, vb (from_ == (2 : Int))), (21, vb (from_ == (2 : Int)))] ?_
    refine WO_conv (fun e w_ => ∃ (e0 : Env), e = upds e0 [(6, vb ((from_ == (2 : Int)) && (to_ == (3 : Int))))] ∧ w1 = w_) ?_ ?_
    ·clear h
     refine WO_case 21 (b := (from_ == (2 : Int))) rfl (fun hb0 => ?_) (fun hb0 => ?_)
     ·refine ps 4 [(22, vu to_), (23, vb (to_ == (3 : Int))), (24, vb (to_ == (3 : Int))), (6, vb (to_ == (3 : Int)))] ?_
      exact WO_nil ⟨_, Agree.eq ⟨(by first | rfl | (simp only [hb0, Bool.true_and, Bool.false_and, Bool.true_or, Bool.false_or, Bool.and_true, Bool.and_false, Bool.or_true, Bool.or_false]; done) | (simp only [hb0]; rfl) | (simp [hb0]; done)), trivial⟩, rfl⟩
     ·refine ps 4 [(22, undef), (23, undef), (24, vb false), (6, vb false)] ?_
      exact WO_nil ⟨_, Agree.eq ⟨(by first | rfl | (simp only [hb0, Bool.true_and, Bool.false_and, Bool.true_or, Bool.false_or, Bool.and_true, Bool.and_false, Bool.or_true, Bool.or_false]; done) | (simp only [hb0]; rfl) | (simp [hb0]; done)), trivial⟩, rfl⟩
    ·rintro _ _ ⟨e0, rfl, rfl⟩
     refine W_ret ?_
     refine blockK_ret ?_
     refine seqK_ret ?_
     exact ret1 (v := vb ((from_ == (2 : Int)) && (to_ == (3 : Int)))) (t := 6) rfl rfl ⟨_, rfl, h⟩
   ·refine W_regseq ?_
    refine ps 2 [(26, vb (why == (3 : Int))), (25, vb (why == (3 : Int)))] ?_
    refine WO_nil ?_
    refine ci h (fun h => ?_) fun h => ?_
    ·refine W_regseq ?_
     refine ps 3 [(27, vu from_), (28, vb (from_ == (2 : Int))), (29, vb (from_ == (2 : Int)))] ?_
     refine WO_conv (fun e w_ => ∃ (e0 : Env), e = upds e0 [(6, vb ((from_ == (2 : Int)) && (to_ == (4 : Int))))] ∧ w1 = w_) ?_ ?_
     ·clear h
      refine WO_case 29 (b := (from_ == (2 : Int))) rfl (fun hb0 => ?_) (fun hb0 => ?_)
      ·refine ps 4 [(30, vu to_), (31, vb (to_ == (4 : Int))), (32, vb (to_ == (4 : Int))), (6, vb (to_ == (4 : Int)))] ?_
       exact WO_nil ⟨_, Agree.eq ⟨(by first | rfl | (simp only [hb0, Bool.true_and, Bool.false_and, Bool.true_or, Bool.false_or, Bool.and_true, Bool.and_false, Bool.or_true, Bool.or_false]; done) | (simp only [hb0]; rfl) | (simp [hb0]; done)), trivial⟩, rfl⟩
      ·refine ps 4 [(30, undef), (31, undef), (32, vb false), (6, vb false)] ?_
       exact WO_nil ⟨_, Agree.eq ⟨(by first | rfl | (simp only [hb0, Bool.true_and, Bool.false_and, Bool.true_or, Bool.false_or, Bool.and_true, Bool.and_false, Bool.or_true, Bool.or_false]; done) | (simp only [hb0]; rfl) | (simp [hb0]; done)), trivial⟩, rfl⟩
     ·rintro _ _ ⟨e0, rfl, rfl⟩
      refine W_ret ?_
      refine blockK_ret ?_
      refine seqK_ret ?_
      exact ret1 (v := vb ((from_ == (2 : Int)) && (to_ == (4 : Int)))) (t := 6) rfl rfl ⟨_, rfl, h⟩
    ·refine W_regseq ?_
     refine ps 2 [(34, vb (why == (4 : Int))), (33, vb (why == (4 : Int)))] ?_
     refine WO_nil ?_
     refine ci h (fun h => ?_) fun h => ?_
     ·refine W_regseq ?_
      refine ps 3 [(35, vu from_), (36, vb (from_ == (4 : Int))), (37, vb (from_ == (4 : Int)))] ?_
      refine WO_conv (fun e w_ => ∃ (e0 : Env), e = upds e0 [(6, vb ((from_ == (4 : Int)) && (to_ == (3 : Int))))] ∧ w1 = w_) ?_ ?_
      ·clear h
       refine WO_case 37 (b := (from_ == (4 : Int))) rfl (fun hb0 => ?_) (fun hb0 => ?_)
       ·refine ps 4 [(38, vu to_), (39, vb (to_ == (3 : Int))), (40, vb (to_ == (3 : Int))), (6, vb (to_ == (3 : Int)))] ?_
        exact WO_nil ⟨_, Agree.eq ⟨(by first | rfl | (simp only [hb0, Bool.true_and, Bool.false_and, Bool.true_or, Bool.false_or, Bool.and_true, Bool.and_false, Bool.or_true, Bool.or_false]; done) | (simp only [hb0]; rfl) | (simp [hb0]; done)), trivial⟩, rfl⟩
       ·refine ps 4 [(38, undef), (39, undef), (40, vb false), (6, vb false)] ?_
        exact WO_nil ⟨_, Agree.eq ⟨(by first | rfl | (simp only [hb0, Bool.true_and, Bool.false_and, Bool.true_or, Bool.false_or, Bool.and_true, Bool.and_false, Bool.or_true, Bool.or_false]; done) | (simp only [hb0]; rfl) | (simp [hb0]; done)), trivial⟩, rfl⟩
      ·rintro _ _ ⟨e0, rfl, rfl⟩
       refine W_ret ?_
       refine blockK_ret ?_
       refine seqK_ret ?_
       exact ret1 (v := vb ((from_ == (4 : Int)) && (to_ == (3 : Int)))) (t := 6) rfl rfl ⟨_, rfl, h⟩
     ·refine W_regseq ?_
      refine ps 2 [(42, vb (why == (5 : Int))), (41, vb (why == (5 : Int)))] ?_
      refine WO_nil ?_
      refine ci h (fun h => ?_) fun h => ?_
      ·refine W_regseq ?_
       refine ps 3 [(43, vu from_), (44, vb (from_ == (2 : Int))), (45, vb (from_ == (2 : Int)))] ?_
       refine WO_conv (fun e w_ => ∃ (e0 : Env), e = upds e0 [(6, vb (((from_ == (2 : Int)) && (to_ == (6 : Int))) || ((from_ == (6 : Int)) && (to_ == (2 : Int)))))] ∧ w1 = w_) ?_ ?_
       ·clear h
        refine WO_case 45 (b := (from_ == (2 : Int))) rfl (fun hb0 => ?_) (fun hb0 => ?_)
        ·refine ps 4 [(46, vu to_), (47, vb (to_ == (6 : Int))), (48, vb (to_ == (6 : Int))), (49, vb (to_ == (6 : Int)))] ?_
         refine WO_case 49 (b := (to_ == (6 : Int))) rfl (fun hb1 => ?_) (fun hb1 => ?_)
         ·refine ps 8 [(50, undef), (51, undef), (52, undef), (53, undef), (54, undef), (55, undef), (56, vb true), (6, vb true)] ?_
          exact WO_nil ⟨_, Agree.eq ⟨(by first | rfl | (simp only [hb0, hb1, Bool.true_and, Bool.false_and, Bool.true_or, Bool.false_or, Bool.and_true, Bool.and_false, Bool.or_true, Bool.or_false]; done) | (simp only [hb0, hb1]; rfl) | (simp [hb0, hb1]; done)), trivial⟩, rfl⟩
         ·refine ps 3 [(50, vu from_), (51, vb (from_ == (6 : Int))), (52, vb (from_ == (6 : Int)))] ?_
          refine WO_case 52 (b := (from_ == (6 : Int))) rfl (fun hb2 => ?_) (fun hb2 => ?_)
          ·refine ps 5 [(53, vu to_), (54, vb (to_ == (2 : Int))), (55, vb (to_ == (2 : Int))), (56, vb (to_ == (2 : Int))), (6, vb (to_ == (2 : Int)))] ?_
           exact WO_nil ⟨_, Agree.eq ⟨(by first | rfl | (simp only [hb0, hb1, hb2, Bool.true_and, Bool.false_and, Bool.true_or, Bool.false_or, Bool.and_true, Bool.and_false, Bool.or_true, Bool.or_false]; done) | (simp only [hb0, hb1, hb2]; rfl) | (simp [hb0, hb1, hb2]; done)), trivial⟩, rfl⟩
          ·refine ps 5 [(53, undef), (54, undef), (55, vb false), (56, vb false), (6, vb false)] ?_
           exact WO_nil ⟨_, Agree.eq ⟨(by first | rfl | (simp only [hb0, hb1, hb2, Bool.true_and, Bool.false_and, Bool.true_or, Bool.false_or, Bool.and_true, Bool.and_false, Bool.or_true, Bool.or_false]; done) | (simp only [hb0, hb1, hb2]; rfl) | (simp [hb0, hb1, hb2]; done)), trivial⟩, rfl⟩
        ·refine ps 7 [(46, undef), (47, undef), (48, vb false), (49, vb false), (50, vu from_), (51, vb (from_ == (6 : Int))), (52, vb (from_ == (6 : Int)))] ?_
         refine WO_case 52 (b := (from_ == (6 : Int))) rfl (fun hb1 => ?_) (fun hb1 => ?_)
         ·refine ps 5 [(53, vu to_), (54, vb (to_ == (2 : Int))), (55, vb (to_ == (2 : Int))), (56, vb (to_ == (2 : Int))), (6, vb (to_ == (2 : Int)))] ?_
          exact WO_nil ⟨_, Agree.eq ⟨(by first | rfl | (simp only [hb0, hb1, Bool.true_and, Bool.false_and, Bool.true_or, Bool.false_or, Bool.and_true, Bool.and_false, Bool.or_true, Bool.or_false]; done) | (simp only [hb0, hb1]; rfl) | (simp [hb0, hb1]; done)), trivial⟩, rfl⟩
         ·refine ps 5 [(53, undef), (54, undef), (55, vb false), (56, vb false), (6, vb false)] ?_
          exact WO_nil ⟨_, Agree.eq ⟨(by first | rfl | (simp only [hb0, hb1, Bool.true_and, Bool.false_and, Bool.true_or, Bool.false_or, Bool.and_true, Bool.and_false, Bool.or_true, Bool.or_false]; done) | (simp only [hb0, hb1]; rfl) | (simp [hb0, hb1]; done)), trivial⟩, rfl⟩
       ·rintro _ _ ⟨e0, rfl, rfl⟩
        refine W_ret ?_
        refine blockK_ret ?_
        refine seqK_ret ?_
        exact ret1 (v := vb (((from_ == (2 : Int)) && (to_ == (6 : Int))) || ((from_ == (6 : Int)) && (to_ == (2 : Int))))) (t := 6) rfl rfl ⟨_, rfl, h⟩
      ·refine W_regseq ?_
       refine ps 2 [(58, vb (why == (6 : Int))), (57, vb (why == (6 : Int)))] ?_
       refine WO_nil ?_
       refine ci h (fun h => ?_) fun h => ?_
       ·refine W_regseq ?_
        refine ps 3 [(59, vu from_), (60, vb (from_ == (2 : Int))), (61, vb (from_ == (2 : Int)))] ?_
        refine WO_conv (fun e w_ => ∃ (e0 : Env), e = upds e0 [(6, vb ((from_ == (2 : Int)) && (to_ == (5 : Int))))] ∧ w1 = w_) ?_ ?_
        ·clear h
         refine WO_case 61 (b := (from_ == (2 : Int))) rfl (fun hb0 => ?_) (fun hb0 => ?_)
         ·refine ps 4 [(62, vu to_), (63, vb (to_ == (5 : Int))), (64, vb (to_ == (5 : Int))), (6, vb (to_ == (5 : Int)))] ?_
          exact WO_nil ⟨_, Agree.eq ⟨(by first | rfl | (simp only [hb0, Bool.true_and, Bool.false_and, Bool.true_or, Bool.false_or, Bool.and_true, Bool.and_false, Bool.or_true, Bool.or_false]; done) | (simp only [hb0]; rfl) | (simp [hb0]; done)), trivial⟩, rfl⟩
         ·refine ps 4 [(62, undef), (63, undef), (64, vb false), (6, vb false)] ?_
          exact WO_nil ⟨_, Agree.eq ⟨(by first | rfl | (simp only [hb0, Bool.true_and, Bool.false_and, Bool.true_or, Bool.false_or, Bool.and_true, Bool.and_false, Bool.or_true, Bool.or_false]; done) | (simp only [hb0]; rfl) | (simp [hb0]; done)), trivial⟩, rfl⟩
        ·rintro _ _ ⟨e0, rfl, rfl⟩
         refine W_ret ?_
         refine blockK_ret ?_
         refine seqK_ret ?_
         exact ret1 (v := vb ((from_ == (2 : Int)) && (to_ == (5 : Int)))) (t := 6) rfl rfl ⟨_, rfl, h⟩
       ·refine W_regseq ?_
        refine ps 2 [(66, vb (why == (7 : Int))), (65, vb (why == (7 : Int)))] ?_
        refine WO_nil ?_
        refine ci h (fun h => ?_) fun h => ?_
        ·refine W_regseq ?_
         refine ps 3 [(67, vu from_), (68, vb (from_ == (5 : Int))), (69, vb (from_ == (5 : Int)))] ?_
         refine WO_conv (fun e w_ => ∃ (e0 : Env), e = upds e0 [(6, vb ((from_ == (5 : Int)) && (to_ == (2 : Int))))] ∧ w1 = w_) ?_ ?_
         ·clear h
          refine WO_case 69 (b := (from_ == (5 : Int))) rfl (fun hb0 => ?_) (fun hb0 => ?_)
          ·refine ps 4 [(70, vu to_), (71, vb (to_ == (2 : Int))), (72, vb (to_ == (2 : Int))), (6, vb (to_ == (2 : Int)))] ?_
           exact WO_nil ⟨_, Agree.eq ⟨(by first | rfl | (simp only [hb0, Bool.true_and, Bool.false_and, Bool.true_or, Bool.false_or, Bool.and_true, Bool.and_false, Bool.or_true, Bool.or_false]; done) | (simp only [hb0]; rfl) | (simp [hb0]; done)), trivial⟩, rfl⟩
          ·refine ps 4 [(70, undef), (71, undef), (72, vb false), (6, vb false)] ?_
           exact WO_nil ⟨_, Agree.eq ⟨(by first | rfl | (simp only [hb0, Bool.true_and, Bool.false_and, Bool.true_or, Bool.false_or, Bool.and_true, Bool.and_false, Bool.or_true, Bool.or_false]; done) | (simp only [hb0]; rfl) | (simp [hb0]; done)), trivial⟩, rfl⟩
         ·rintro _ _ ⟨e0, rfl, rfl⟩
          refine W_ret ?_
          refine blockK_ret ?_
          refine seqK_ret ?_
          exact ret1 (v := vb ((from_ == (5 : Int)) && (to_ == (2 : Int)))) (t := 6) rfl rfl ⟨_, rfl, h⟩
        ·refine W_regseq ?_
         refine ps 2 [(74, vb (why == (8 : Int))), (73, vb (why == (8 : Int)))] ?_
         refine WO_nil ?_
         refine ci h (fun h => ?_) fun h => ?_
         ·refine W_regseq ?_
          refine ps 3 [(75, vu from_), (76, vb (from_ == (2 : Int))), (77, vb (from_ == (2 : Int)))] ?_
          refine WO_conv (fun e w_ => ∃ (e0 : Env), e = upds e0 [(6, vb ((from_ == (2 : Int)) && (to_ == (7 : Int))))] ∧ w1 = w_) ?_ ?_
          ·clear h
           refine WO_case 77 (b := (from_ == (2 : Int))) rfl (fun hb0 => ?_) (fun hb0 => ?_)
           ·refine ps 4 [(78, vu to_), (79, vb (to_ == (7 : Int))), (80, vb (to_ == (7 : Int))), (6, vb (to_ == (7 : Int)))] ?_
            exact WO_nil ⟨_, Agree.eq ⟨(by first | rfl | (simp only [hb0, Bool.true_and, Bool.false_and, Bool.true_or, Bool.false_or, Bool.and_true, Bool.and_false, Bool.or_true, Bool.or_false]; done) | (simp only [hb0]; rfl) | (simp [hb0]; done)), trivial⟩, rfl⟩
           ·refine ps 4 [(78, undef), (79, undef), (80, vb false), (6, vb false)] ?_
            exact WO_nil ⟨_, Agree.eq ⟨(by first | rfl | (simp only [hb0, Bool.true_and, Bool.false_and, Bool.true_or, Bool.false_or, Bool.and_true, Bool.and_false, Bool.or_true, Bool.or_false]; done) | (simp only [hb0]; rfl) | (simp [hb0]; done)), trivial⟩, rfl⟩
          ·rintro _ _ ⟨e0, rfl, rfl⟩
           refine W_ret ?_
           refine blockK_ret ?_
           refine seqK_ret ?_
           exact ret1 (v := vb ((from_ == (2 : Int)) && (to_ == (7 : Int)))) (t := 6) rfl rfl ⟨_, rfl, h⟩
         ·refine W_regseq ?_
          refine ps 2 [(82, vb (why == (9 : Int))), (81, vb (why == (9 : Int)))] ?_
          refine WO_nil ?_
          refine ci h (fun h => ?_) fun h => ?_
          ·refine W_regseq ?_
           refine ps 3 [(83, vu from_), (84, vb (from_ == (7 : Int))), (85, vb (from_ == (7 : Int)))] ?_
           refine WO_conv (fun e w_ => ∃ (e0 : Env), e = upds e0 [(6, vb ((from_ == (7 : Int)) && (to_ == (1 : Int))))] ∧ w1 = w_) ?_ ?_
           ·clear h
            refine WO_case 85 (b := (from_ == (7 : Int))) rfl (fun hb0 => ?_) (fun hb0 => ?_)
            ·refine ps 4 [(86, vu to_), (87, vb (to_ == (1 : Int))), (88, vb (to_ == (1 : Int))), (6, vb (to_ == (1 : Int)))] ?_
             exact WO_nil ⟨_, Agree.eq ⟨(by first | rfl | (simp only [hb0, Bool.true_and, Bool.false_and, Bool.true_or, Bool.false_or, Bool.and_true, Bool.and_false, Bool.or_true, Bool.or_false]; done) | (simp only [hb0]; rfl) | (simp [hb0]; done)), trivial⟩, rfl⟩
            ·refine ps 4 [(86, undef), (87, undef), (88, vb false), (6, vb false)] ?_
             exact WO_nil ⟨_, Agree.eq ⟨(by first | rfl | (simp only [hb0, Bool.true_and, Bool.false_and, Bool.true_or, Bool.false_or, Bool.and_true, Bool.and_false, Bool.or_true, Bool.or_false]; done) | (simp only [hb0]; rfl) | (simp [hb0]; done)), trivial⟩, rfl⟩
           ·rintro _ _ ⟨e0, rfl, rfl⟩
            refine W_ret ?_
            refine blockK_ret ?_
            refine seqK_ret ?_
            exact ret1 (v := vb ((from_ == (7 : Int)) && (to_ == (1 : Int)))) (t := 6) rfl rfl ⟨_, rfl, h⟩
          ·refine W_skip ?_
           refine blockK_normal ?_
           refine W_regseq ?_
           refine ps 1 [(6, vb false)] ?_
           refine WO_nil ?_
           refine W_ret ?_
           exact ret1 (v := vb false) (t := 6) rfl rfl ⟨_, rfl, h⟩
end Go.Proofs.YtcbijkakoepglaaGreat
