/- A part of a proof over the ledger of the package drawers: what its functions do, as contracts. Conditions: none. -/
import Derived.Test.YtcbijkakoepglaaGreatKB2
import Derived.MapKept
set_option linter.all false
namespace Go.Proofs.YtcbijkakoepglaaGreat
open Go Go.Wx

theorem eqI111 {d : Nat} {w : World} {a0 : Int} {b0 : Int} {a1 : Int} {b1 : Int} {a2 : ByteArray} {b2 : ByteArray} : (Op.equalIn (d + 3) 111 (.agg (List.toArray [vu a0, vi a1, vs a2])) (.agg (List.toArray [vu b0, vi b1, vs b2]))).run Pg w = .ok (((a0 == b0) && ((a1 == b1) && true)) && (strEq a2 b2 && true)) w := by
  rw [run_equalIn_struct w (d + 2) 111 _ _ (by kernel_rfl) (by kernel_rfl)]
  simp only [Program.fieldsOf, show Pg.underlying 111 = _ from Tryz.underlying111]
  exact eqF_cons (a := vg [vu a0, vi a1]) (b := vg [vu b0, vi b1]) (by kernel_rfl) (by kernel_rfl) (by kernel_rfl) (eqI40 (d := d + 0)) (eqF_cons (a := vs a2) (b := vs b2) (by kernel_rfl) (by kernel_rfl) (by kernel_rfl) (run_equalIn_string w (d + 1) 9 _ _ (by kernel_rfl)) eqF_nil)

theorem beqB (x : ByteArray) : (x == x) = true := by
  first | exact beq_self_eq_true x | (cases x; show ByteArray.beq _ _ = true; simp [ByteArray.beq]) | (cases x; show ByteArray.beq _ _ = true; unfold ByteArray.beq; simp) | simp
/-- the entries of a map from which nothing was deleted. -/
def ents {κ : Type} (enc : κ → Value) (k : Nat) : List (κ × Int) → List MapEntry
  | [] => []
  | (x, v) :: m => ⟨enc x, vi v, k⟩ :: ents enc (k + 1) m
def MapIs {κ : Type} (enc : κ → Value) (w : World) (b : Nat) (m : List (κ × Int)) : Prop := At w b (.map (ents enc 0 m).toArray m.length) ∧ m.Pairwise fun x y => x.1 ≠ y.1
/-- how keys of a type are looked for. -/
structure Keys (κ : Type) [DecidableEq κ] (mt kt : TypeId) (enc : κ → Value) : Prop where
  under : ∃ el, Pg.underlying mt = some (.map kt el) ∧ ∀ w, (zeroValue el).run Pg w = .ok (vi 0) w
  check : ∀ (w : World) (b : Bool) (x : κ), (Instr.checkKey b 10000 kt (enc x)).run Pg w = .ok () w
  find : ∀ (w : World) (x : κ) (m : List (κ × Int)), (Instr.findKey kt (enc x) (ents enc 0 m)).run Pg w = .ok ((m.findIdx? fun y => decide (x = y.1)).map fun i => (i, vi ((m[i]?.map (·.2)).getD 0))) w
  bits : ∀ x : κ, Instr.sameBits 10000 (enc x) (enc x) = true

def encPlace (x : Tplace) : Value := vg x.enc
instance : DecidableEq Tplace := fun a b => decidable_of_iff (a.account_Kind = b.account_Kind ∧ a.account_Id = b.account_Id ∧ a.unit = b.unit) Tplace.ext_iff.symm

theorem findAsking_run {κ : Type} [DecidableEq κ] {kt : TypeId} {enc : κ → Value} (heq : ∀ (w : World) (x y : κ), (Op.equal kt (enc x) (enc y)).run Pg w = .ok (decide (x = y)) w) (w : World) (x : κ) : ∀ (m : List (κ × Int)) (k i : Nat),
    (Instr.findAsking kt (enc x) (ents enc k m) i).run Pg w = .ok ((m.findIdx? fun y => decide (x = y.1)).map fun j => (i + j, vi ((m[j]?.map (·.2)).getD 0))) w
  | [], k, i => rfl
  | (y, v) :: m, k, i => by
    simp only [ents, Instr.findAsking, run_bind, heq, List.findIdx?_cons]
    by_cases h : x = y
    · subst h; simp [run_pure]
    · simp only [h, decide_false, Bool.false_eq_true, if_false]
      rw [findAsking_run heq w x m (k + 1) (i + 1)]
      congr 1
      rw [Option.map_map]
      congr 1
      funext j
      simp only [Function.comp, Prod.mk.injEq]
      exact ⟨by omega, by simp⟩
theorem keysPlace : Keys Tplace 103 111 encPlace := {
  under := ⟨3, by kernel_rfl, fun w => by kernel_rfl⟩
  check w b x := by cases x; kernel_rfl
  bits x := by cases x; simp [encPlace, Tplace.enc, Instr.sameBits]; exact beqB _
  find w x m := by
    have heq : ∀ (w : World) (x y : Tplace), (Op.equal 111 (encPlace x) (encPlace y)).run Pg w = .ok (decide (x = y)) w := fun w x y => by
      cases x; cases y
      show (Op.equalIn (9997 + 3) 111 _ _).run Pg w = _
      rw [show encPlace ⟨_, _, _⟩ = .agg (List.toArray [vu _, vi _, vs _]) from rfl, show encPlace ⟨_, _, _⟩ = .agg (List.toArray [vu _, vi _, vs _]) from rfl, eqI111]
      congr 1
      rw [Bool.eq_iff_iff]
      simp only [Bool.and_true, Bool.and_eq_true, beq_iff_eq, strEq_iff, decide_eq_true_eq, Tplace.mk.injEq, and_assoc]
    obtain ⟨fs, hu⟩ : ∃ fs, Pg.underlying 111 = some (.struct fs) := ⟨_, Tryz.underlying111⟩
    unfold Instr.findKey
    simp only [run_bind, run_underlying hu]
    cases m with
    | nil => rfl
    | cons y m =>
      obtain ⟨y, v⟩ := y
      have : Instr.findNow (.struct fs) (encPlace x) (ents encPlace 0 ((y, v) :: m)) 0 = none := rfl
      rw [this]
      have h := findAsking_run heq w x ((y, v) :: m) 0 0
      simp only [Nat.zero_add] at h
      exact h }

theorem findNow_run (w : World) (x : ByteArray) : ∀ (m : List (ByteArray × Int)) (k i : Nat),
    Instr.findNow .string (vs x) (ents vs k m) i = some ((m.findIdx? fun y => decide (x = y.1)).map fun j => (i + j, vi ((m[j]?.map (·.2)).getD 0)))
  | [], k, i => rfl
  | (y, v) :: m, k, i => by
    simp only [ents, Instr.findNow, Instr.sameNow, List.findIdx?_cons]
    by_cases h : x = y
    · subst h
      rw [beqB]
      simp
    · have : (x == y) = false := by
        rw [← Bool.not_eq_true]; intro e
        exact h ((Go.MapKept.bytes_beq x y).1 e)
      rw [this]
      simp only [h, decide_false, Bool.false_eq_true, if_false]
      rw [findNow_run w x m (k + 1) (i + 1), Option.map_map]
      congr 2
      funext j
      simp only [Function.comp, Prod.mk.injEq]
      exact ⟨by omega, by simp⟩
theorem keysStr : Keys ByteArray 56 9 vs := {
  under := ⟨3, by kernel_rfl, fun w => by kernel_rfl⟩
  check w b x := by kernel_rfl
  bits x := by show (x == x) = true; exact beqB x
  find w x m := by
    unfold Instr.findKey
    simp only [run_bind, run_underlying (show Pg.underlying 9 = some .string by kernel_rfl), findNow_run w x m 0 0, Nat.zero_add]
    rfl }

section
variable {κ : Type} [DecidableEq κ] {mt kt : TypeId} {enc : κ → Value} {w : World} {b : Nat} {m : List (κ × Int)}
def getM (m : List (κ × Int)) (x : κ) : Int := match m with
  | [] => 0
  | (y, v) :: m => if x = y then v else getM m x
def putM (m : List (κ × Int)) (x : κ) (v : Int) : List (κ × Int) := match m with
  | [] => [(x, v)]
  | (y, u) :: m => if x = y then (y, v) :: m else (y, u) :: putM m x v
theorem ents_len (k : Nat) : (ents enc k m).length = m.length := by
  induction m generalizing k with
  | nil => rfl
  | cons y m ih => obtain ⟨y, v⟩ := y; simp [ents, ih]
theorem ents_get : ∀ (m : List (κ × Int)) (k j : Nat), (ents enc k m)[j]? = m[j]?.map fun y => ⟨enc y.1, vi y.2, k + j⟩
  | [], k, j => by simp [ents]
  | (y, v) :: m, k, 0 => by simp [ents]
  | (y, v) :: m, k, j + 1 => by simp [ents, ents_get m (k + 1) j, show k + 1 + j = k + (j + 1) by omega]
/-- the place of a key. -/
theorem find_spec (x : κ) : ∀ (m : List (κ × Int)), (m.findIdx? (fun y => decide (x = y.1)) = none ∧ getM m x = 0 ∧ (∀ v, putM m x v = m ++ [(x, v)]) ∧ ∀ y ∈ m, x ≠ y.1) ∨
    ∃ j, m.findIdx? (fun y => decide (x = y.1)) = some j ∧ m[j]? = some (x, getM m x) ∧ ∀ v, putM m x v = m.set j (x, v)
  | [] => .inl ⟨rfl, rfl, fun _ => rfl, fun y h => by cases h⟩
  | (y, u) :: m => by
    by_cases h : x = y
    · subst h
      exact .inr ⟨0, by simp [List.findIdx?_cons], by simp [getM], fun v => by simp [putM]⟩
    · rcases find_spec x m with ⟨h1, h2, h3, h4⟩ | ⟨j, h1, h2, h3⟩
      · refine .inl ⟨by simp [List.findIdx?_cons, h, h1], by simp [getM, h, h2], fun v => by simp [putM, h, h3], fun z hz => ?_⟩
        rcases List.mem_cons.1 hz with rfl | hz
        · exact h
        · exact h4 z hz
      · exact .inr ⟨j + 1, by simp [List.findIdx?_cons, h, h1], by simp [getM, h, h2], fun v => by simp [putM, h, h3]⟩
theorem MapIs.frm {S : Nat → Prop} {w' : World} (h : MapIs enc w b m) (F : Frm S w w') (hn : ¬ S b) : MapIs enc w' b m := ⟨h.1.frm F hn, h.2⟩
theorem MapIs.ext {w' : World} (h : MapIs enc w b m) (E : Ext w w') : MapIs enc w' b m := ⟨h.1.ext E, h.2⟩
theorem MapIs.new {w : World} {b : Nat} (h : At w b (.map #[] 0)) : MapIs enc w b [] := ⟨h, .nil⟩
theorem run_getM (h : MapIs enc w b m) : (getObj b).run Pg w = .ok (.map (ents enc 0 m).toArray m.length) w := by
  have h' : w.heap[b]? = _ := h.1
  simp [getObj, Sem.run, h']
theorem run_setM {o : Obj} (h : MapIs enc w b m) : (setObj b o).run Pg w = .ok () (setB w b o) := by
  have h' : w.heap[b]? = _ := h.1
  simp [setObj, Sem.run, h', setB]

theorem lookup_run (K : Keys κ mt kt enc) (h : MapIs enc w b m) (x : κ) : (Instr.lookup mt (.map (some b)) (enc x) false).run Pg w = .ok (vi (getM m x)) w := by
  obtain ⟨el, hu, hz⟩ := K.under
  unfold Instr.lookup
  simp only [run_bind, run_underlying hu, run_getM h, run_pure, K.check, K.find]
  rcases find_spec x m with ⟨h1, h2, _, _⟩ | ⟨j, h1, h2, _⟩
  · rw [h1, h2]
    simp only [Option.map_none, run_bind, hz, run_pure]
    rfl
  · rw [h1]
    simp only [Option.map_some, run_pure, h2, Option.getD_some]
    rfl

theorem keyStays (K : Keys κ mt kt enc) (x : κ) (w : World) : (Instr.keyThatStays (enc x) (enc x)).run Pg w = .ok (enc x) w := by
  unfold Instr.keyThatStays
  rw [K.bits, if_pos rfl]
  rfl
theorem ents_append (k : Nat) (x : κ) (v : Int) : ∀ (m : List (κ × Int)) (k : Nat), ents enc k (m ++ [(x, v)]) = ents enc k m ++ [⟨enc x, vi v, k + m.length⟩]
  | [], k => by simp [ents]
  | (y, u) :: m, k => by
    simp only [List.cons_append, ents, ents_append k x v m (k + 1), List.length_cons]
    rw [show k + 1 + m.length = k + (m.length + 1) by omega]
theorem ents_set (x : κ) (v : Int) : ∀ (m : List (κ × Int)) (k j : Nat), j < m.length → (ents enc k m).set j ⟨enc x, vi v, k + j⟩ = ents enc k (m.set j (x, v))
  | [], k, j, h => by simp at h
  | (y, u) :: m, k, 0, _ => by simp [ents]
  | (y, u) :: m, k, j + 1, h => by
    simp only [ents, List.set_cons_succ]
    rw [show k + (j + 1) = k + 1 + j by omega, ents_set x v m (k + 1) j (by simpa using h)]
/-- an entry turned. -/
theorem ents_modify {x : κ} {u v : Int} {j : Nat} (hj : m[j]? = some (x, u)) (f : MapEntry → MapEntry) (hf : f ⟨enc x, vi u, j⟩ = ⟨enc x, vi v, j⟩) : (ents enc 0 m).toArray.modify j f = (ents enc 0 (m.set j (x, v))).toArray := by
  apply Array.ext'
  have hlt := (List.getElem?_eq_some_iff.1 hj).1
  rw [Array.toList_modify, ← ents_set x v m 0 j hlt]
  apply List.ext_getElem?
  intro k
  rw [List.getElem?_modify, List.getElem?_set]
  by_cases h : j = k
  · subst h
    simp only [if_true]
    rw [if_pos (by rw [ents_len]; exact hlt), ents_get, hj]
    simp [hf]
  · simp [h]
theorem pw_set {x : κ} {u v : Int} {j : Nat} (hj : m[j]? = some (x, u)) (h : m.Pairwise fun x y => x.1 ≠ y.1) : (m.set j (x, v)).Pairwise fun x y => x.1 ≠ y.1 := by
  have h' : (m.map (·.1)).Nodup := List.pairwise_map.2 h
  have e : (m.set j (x, v)).map (·.1) = m.map (·.1) := by
    rw [List.map_set]
    apply List.ext_getElem?
    intro k
    rw [List.getElem?_set]
    split
    · rename_i e; subst e
      split
      · simp [hj]
      · rename_i h; rw [List.getElem?_eq_none (by omega)]
    · rfl
  rw [← e] at h'
  exact List.pairwise_map.1 h'
theorem pw_app {x : κ} {v : Int} (h : m.Pairwise fun x y => x.1 ≠ y.1) (hx : ∀ y ∈ m, x ≠ y.1) : (m ++ [(x, v)]).Pairwise fun x y => x.1 ≠ y.1 := by
  refine List.pairwise_append.2 ⟨h, by simp, fun y hy z hz => ?_⟩
  simp at hz; subst hz
  exact fun e => hx y hy e.symm

theorem mapUpdate_run (K : Keys κ mt kt enc) (h : MapIs enc w b m) (x : κ) (v : Int) : ∃ w', (Instr.mapUpdate mt (.map (some b)) (enc x) (vi v)).run Pg w = .ok () w' ∧ MapIs enc w' b (putM m x v) ∧ Frm (fun k => k = b) w w' := by
  obtain ⟨el, hu, hz⟩ := K.under
  unfold Instr.mapUpdate
  simp only [run_bind, run_underlying hu, run_getM h, run_pure, K.check, K.find]
  rcases find_spec x m with ⟨h1, _, h3, h4⟩ | ⟨j, h1, h2, h3⟩
  · rw [h1]
    simp only [Option.map_none, run_setM h]
    refine ⟨_, rfl, ?_, frm_setB⟩
    rw [h3]
    refine ⟨?_, pw_app h.2 h4⟩
    have : At (setB w b _) b _ := h.1.set (o' := .map ((ents enc 0 m).toArray.push ⟨enc x, vi v, m.length⟩) (m.length + 1))
    rw [ents_append 0]
    simpa using this
  · have hlt := (List.getElem?_eq_some_iff.1 h2).1
    have hk : ((((ents enc 0 m).toArray[j]?).map (·.key)).getD (enc x)) = enc x := by
      rw [List.getElem?_toArray, ents_get, h2]; rfl
    rw [h1]
    simp only [Option.map_some, run_bind, hk, keyStays K, run_setM h]
    refine ⟨_, rfl, ?_, frm_setB⟩
    rw [h3]
    refine ⟨?_, pw_set h2 h.2⟩
    have : At (setB w b _) b _ := h.1.set (o' := .map ((ents enc 0 m).toArray.modify j fun e => { e with key := enc x, val := vi v }) m.length)
    rw [ents_modify (v := v) h2 _ rfl] at this
    rw [List.length_set]
    rw [ents_modify (v := v) h2 _ rfl]
    exact this

theorem mapEntry_run (K : Keys κ mt kt enc) (h : MapIs enc w b m) (x : κ) : ∃ (j : Nat) (w' : World), (Instr.mapEntry mt (.map (some b)) (enc x)).run Pg w = .ok (.tuple #[vi (getM m x), vi j]) w' ∧ MapIs enc w' b (putM m x (getM m x)) ∧ Frm (fun k => k = b) w w' ∧
    (putM m x (getM m x))[j]? = some (x, getM m x) ∧ ∀ v, (putM m x (getM m x)).set j (x, v) = putM m x v := by
  obtain ⟨el, hu, hz⟩ := K.under
  unfold Instr.mapEntry
  simp only [run_bind, run_underlying hu, run_getM h, run_pure, K.check, K.find]
  rcases find_spec x m with ⟨h1, h2, h3, h4⟩ | ⟨j, h1, h2, h3⟩
  · rw [h1]
    simp only [Option.map_none, run_bind, hz, run_setM h]
    refine ⟨m.length, _, by rw [h2]; rfl, ?_, frm_setB, ?_, ?_⟩
    · rw [h3, h2]
      refine ⟨?_, pw_app h.2 h4⟩
      have : At (setB w b _) b _ := h.1.set (o' := .map ((ents enc 0 m).toArray.push ⟨enc x, vi 0, m.length⟩) (m.length + 1))
      rw [ents_append 0]
      simpa using this
    · rw [h3, h2]; simp
    · intro v; rw [h3, h3, h2]; simp
  · have hlt := (List.getElem?_eq_some_iff.1 h2).1
    have hk : ((((ents enc 0 m).toArray[j]?).map (·.key)).getD (enc x)) = enc x := by
      rw [List.getElem?_toArray, ents_get, h2]; rfl
    have hb : ((((ents enc 0 m).toArray[j]?).map (fun e => (e.born : Int))).getD 0) = j := by
      rw [List.getElem?_toArray, ents_get, h2]; simp
    have hv : (m[j]?.map (·.2)).getD 0 = getM m x := by rw [h2]; rfl
    rw [h1]
    simp only [Option.map_some, run_bind, hk, keyStays K, run_setM h, hb, hv]
    have hself : m.set j (x, getM m x) = m := by
      apply List.ext_getElem?
      intro k
      by_cases e : j = k
      · subst e; rw [List.getElem?_set_self hlt, h2]
      · rw [List.getElem?_set_ne e]
    refine ⟨j, _, rfl, ?_, frm_setB, ?_, ?_⟩
    · rw [h3, hself]
      refine ⟨?_, h.2⟩
      have : At (setB w b _) b _ := h.1.set (o' := .map ((ents enc 0 m).toArray.modify j fun e => { e with key := enc x }) m.length)
      rw [ents_modify (v := getM m x) h2 _ rfl, hself] at this
      rw [ents_modify (v := getM m x) h2 _ rfl, hself]
      exact this
    · rw [h3, hself]; exact h2
    · intro v; rw [h3, h3, hself]
theorem entryStore_run (h : MapIs enc w b m) {j : Nat} {x : κ} {u v : Int} (hj : m[j]? = some (x, u)) : ∃ w', (Instr.entryStore mt (.map (some b)) (vi j) (vi v)).run Pg w = .ok () w' ∧ MapIs enc w' b (m.set j (x, v)) ∧ Frm (fun k => k = b) w w' := by
  have hlt := (List.getElem?_eq_some_iff.1 hj).1
  have hfi : (ents enc 0 m).toArray.findIdx? (fun e => (e.born : Int) == (j : Int)) = some j := by
    rw [List.findIdx?_toArray, List.findIdx?_eq_some_iff_getElem]
    have hg : ∀ i (hi : i < (ents enc 0 m).length), ((ents enc 0 m)[i]).born = i := fun i hi => by
      have := ents_get (enc := enc) m 0 i
      rw [List.getElem?_eq_getElem hi, List.getElem?_eq_getElem (by rw [ents_len] at hi; exact hi)] at this
      simp at this
      rw [this]
    refine ⟨by rw [ents_len]; exact hlt, by rw [hg]; simp, fun i hi => ?_⟩
    rw [hg]; simp; omega
  unfold Instr.entryStore
  simp only [run_bind, run_getM h, run_pure, asInt, asIntOf, hfi, run_setM h]
  refine ⟨_, rfl, ⟨?_, pw_set hj h.2⟩, frm_setB⟩
  have : At (setB w b _) b _ := h.1.set (o' := .map ((ents enc 0 m).toArray.modify j fun e => { e with val := vi v }) m.length)
  rw [ents_modify (v := v) hj _ rfl] at this
  rw [List.length_set, ents_modify (v := v) hj _ rfl]
  exact this

/-! ### ranging -/
structure IterIs (w : World) (it b n : Nat) (seen : List Nat) : Prop where
  blk : At w it (.mapIter (some b) n seen.toArray n)
  nodup : seen.Nodup
  lt : ∀ j ∈ seen, j < n
theorem IterIs.frm {S : Nat → Prop} {w' : World} {it n : Nat} {seen : List Nat} (h : IterIs w it b n seen) (F : Frm S w w') (hn : ¬ S it) : IterIs w' it b n seen := ⟨h.blk.frm F hn, h.nodup, h.lt⟩
theorem range_run (K : Keys κ mt kt enc) (h : MapIs enc w b m) : ∃ w', (Instr.range mt (.map (some b))).run Pg w = .ok (.pointer (some ⟨w.heap.size, 0, none⟩)) w' ∧ IterIs w' w.heap.size b m.length [] ∧ Ext w w' := by
  obtain ⟨el, hu, hz⟩ := K.under
  unfold Instr.range
  simp only [run_bind, run_underlying hu, run_getM h, run_pure]
  refine ⟨w.alloc (.mapIter (some b) m.length #[] m.length), ?_, ⟨At.new, .nil, fun j hj => (by cases hj)⟩, frm_alloc _⟩
  rfl
theorem choose_run (n : Nat) (w : World) (hn : 0 < n) : ∃ i w', (choose (.mapNext n)).run Pg w = .ok i w' ∧ i < n ∧ Ext w w' := by
  unfold choose
  simp only [Sem.run]
  split
  · exact ⟨0, w, rfl, hn, er w⟩
  · exact ⟨_, w.drew, rfl, Nat.mod_lt _ hn, frm_drew⟩
theorem next_run (h : MapIs enc w b m) {it : Nat} {seen : List Nat} (hi : IterIs w it b m.length seen) {ty : TypeId} :
    (∃ (j : Nat) (y : κ × Int) (w' : World), j ∉ seen ∧ m[j]? = some y ∧ (Instr.next (.pointer (some ⟨it, 0, none⟩)) false ty).run Pg w = .ok (.tuple #[.bool true, enc y.1, vi y.2]) w' ∧ IterIs w' it b m.length (seen ++ [j]) ∧ Frm (fun k => k = it) w w') ∨
    ((∀ j, j < m.length → j ∈ seen) ∧ ∃ w', (Instr.next (.pointer (some ⟨it, 0, none⟩)) false ty).run Pg w = .ok (.tuple #[.bool false]) w' ∧ Ext w w') := by
  have hit : (getObj it).run Pg w = .ok (.mapIter (some b) m.length seen.toArray m.length) w := by
    have h' : w.heap[it]? = _ := hi.blk
    simp [getObj, Sem.run, h']
  have hmem : ∀ e ∈ ents enc 0 m, ∃ j y, m[j]? = some y ∧ e = ⟨enc y.1, vi y.2, j⟩ := by
    intro e he
    obtain ⟨j, hj⟩ := List.getElem?_of_mem he
    rw [ents_get] at hj
    obtain ⟨y, hy, e'⟩ := Option.map_eq_some_iff.1 hj
    exact ⟨j, y, hy, by rw [← e', Nat.zero_add]⟩
  have hborn : ∀ e ∈ ents enc 0 m, e.born < m.length := by
    intro e he
    obtain ⟨j, y, hy, rfl⟩ := hmem e he
    exact (List.getElem?_eq_some_iff.1 hy).1
  have hguard : (!seen.toArray.isEmpty && !(ents enc 0 m).toArray.isEmpty && (ents enc 0 m).toArray.all (fun e => decide (e.born ≥ m.length))) = false := by
    rw [Bool.and_eq_false_iff]
    cases hm : ents enc 0 m with
    | nil => left; simp
    | cons e es =>
      right
      have := hborn e (by rw [hm]; exact List.mem_cons_self)
      simp [this]
      intro h; omega
  have hold : ((ents enc 0 m).toArray.filter fun e => !seen.toArray.contains e.born).filter (fun e => decide (e.born < m.length)) = ((ents enc 0 m).filter fun e => !seen.contains e.born).toArray := by
    simp only [List.filter_toArray, List.contains_toArray]
    congr 1
    exact List.filter_eq_self.2 fun e he => by simpa using hborn e (List.mem_filter.1 he).1
  have hnew : ((ents enc 0 m).toArray.filter fun e => !seen.toArray.contains e.born).filter (fun e => decide (e.born ≥ m.length)) = #[] := by
    simp only [List.filter_toArray]
    rw [List.filter_eq_nil_iff.2]
    intro e he
    have := hborn e (List.mem_filter.1 he).1
    simp; omega
  generalize hL : ((ents enc 0 m).filter fun e => !seen.contains e.born) = L at hold
  unfold Instr.next
  simp only [run_bind, hit, run_getM h, hguard, Bool.false_eq_true, if_false, run_pure, hold, hnew]
  cases L with
  | nil =>
    refine .inr ⟨fun j hj => ?_, ?_⟩
    · apply Classical.byContradiction
      intro hn
      have : (ents enc 0 m)[j]? = _ := ents_get m 0 j
      rw [List.getElem?_eq_getElem hj] at this
      have hmm := List.mem_of_getElem? this
      have := List.filter_eq_nil_iff.1 hL _ hmm
      simp [hn] at this
    · obtain ⟨i, w', hr, hlt, E⟩ := choose_run 1 w (by omega)
      obtain rfl : i = 0 := by omega
      refine ⟨w', ?_, E⟩
      have hsz : ((if (List.toArray ([] : List MapEntry)).isEmpty then #[none] else #[]) ++ ((List.toArray ([] : List MapEntry)) ++ #[]).map (some : MapEntry → Option MapEntry)).size = 1 := by simp
      have hc : ((if (List.toArray ([] : List MapEntry)).isEmpty then #[none] else #[]) ++ ((List.toArray ([] : List MapEntry)) ++ #[]).map (some : MapEntry → Option MapEntry))[0]? = some none := by simp
      rw [hsz, hr]
      simp only [hc, run_pure]
  | cons e L =>
    left
    obtain ⟨i, w', hr, hlt, E⟩ := choose_run (L.length + 1) w (by omega)
    have hget : ∃ e', (e :: L)[i]? = some e' := ⟨_, List.getElem?_eq_getElem (by simpa using hlt)⟩
    obtain ⟨e', he'⟩ := hget
    have hmem' : e' ∈ (ents enc 0 m).filter fun e => !seen.contains e.born := by rw [hL]; exact List.mem_of_getElem? he'
    obtain ⟨h1, h2⟩ := List.mem_filter.1 hmem'
    obtain ⟨j, y, hy, rfl⟩ := hmem e' h1
    have hj : j ∉ seen := by simpa using h2
    have hat := hi.blk.ext E
    refine ⟨j, y, setB w' it (.mapIter (some b) m.length (seen ++ [j]).toArray m.length), hj, hy, ?_, ⟨hat.set, List.nodup_append.2 ⟨hi.nodup, by simp, ?_⟩, ?_⟩, Frm.trans (Ext.frm E) frm_setB fun k _ h => h⟩
    · have hset : ∀ o, (setObj it o).run Pg w' = .ok () (setB w' it o) := fun o => by
        have h' : w'.heap[it]? = _ := hat
        simp [setObj, Sem.run, h', setB]
      have hc : ((if (List.toArray (e :: L)).isEmpty then #[none] else #[]) ++ ((List.toArray (e :: L)) ++ #[]).map some)[i]? = some (some (⟨enc y.1, vi y.2, j⟩ : MapEntry)) := by
        have : (List.toArray (e :: L)).isEmpty = false := by simp
        rw [this]
        simp only [Bool.false_eq_true, if_false, Array.append_empty, Array.empty_append, Array.getElem?_map, List.getElem?_toArray, he', Option.map_some]
      have hsz : ((if (List.toArray (e :: L)).isEmpty then #[none] else #[]) ++ ((List.toArray (e :: L)) ++ #[]).map (some : MapEntry → Option MapEntry)).size = L.length + 1 := by simp
      rw [hsz, hr]
      simp only [hc, run_bind, hset, run_pure, List.push_toArray]
    · intro a ha c hc
      simp at hc; subst hc
      exact fun e => hj (e ▸ ha)
    · intro k hk
      rcases List.mem_append.1 hk with hk | hk
      · exact hi.lt k hk
      · simp at hk; subst hk; exact (List.getElem?_eq_some_iff.1 hy).1
theorem entry_run (h : MapIs enc w b m) {it j : Nat} {seen : List Nat} (hi : IterIs w it b m.length (seen ++ [j])) {y : κ × Int} (hy : m[j]? = some y) : (Instr.entry (.pointer (some ⟨it, 0, none⟩))).run Pg w = .ok (.tuple #[enc y.1, vi y.2]) w := by
  have hit : (getObj it).run Pg w = .ok (.mapIter (some b) m.length (seen ++ [j]).toArray m.length) w := by
    have h' : w.heap[it]? = _ := hi.blk
    simp [getObj, Sem.run, h']
  have hlt := (List.getElem?_eq_some_iff.1 hy).1
  have hf : (ents enc 0 m).toArray.find? (fun e => e.born == j) = some ⟨enc y.1, vi y.2, j⟩ := by
    rw [List.find?_toArray, List.find?_eq_some_iff_getElem]
    have hg : ∀ i (hi : i < (ents enc 0 m).length), ∃ z, m[i]? = some z ∧ (ents enc 0 m)[i] = ⟨enc z.1, vi z.2, i⟩ := fun i hi => by
      have hi' : i < m.length := by rw [ents_len] at hi; exact hi
      have := ents_get (enc := enc) m 0 i
      rw [List.getElem?_eq_getElem hi, List.getElem?_eq_getElem hi'] at this
      simp at this
      exact ⟨_, List.getElem?_eq_getElem hi', this⟩
    refine ⟨by simp, j, by rw [ents_len]; exact hlt, ?_, fun i hi => ?_⟩
    · obtain ⟨z, hz, e⟩ := hg j (by rw [ents_len]; exact hlt)
      rw [e]; rw [hy] at hz; cases hz; rfl
    · obtain ⟨z, hz, e⟩ := hg i (by rw [ents_len]; omega)
      simp [e]
      try omega
  unfold Instr.entry
  simp only [run_bind, hit, run_getM h, run_pure]
  have hb : (seen ++ [j]).toArray.back? = some j := by simp
  rw [hb]
  simp only [run_bind, run_getM h, bne_self_eq_false, Bool.false_eq_true, if_false, hf, run_pure]
end
end Go.Proofs.YtcbijkakoepglaaGreat
namespace Go.Proofs.YtcbijkakoepglaaGreat
open Go Go.Wx
set_option maxRecDepth 100000
def drawers_lines.l1 (Q : Option Addr → Nat → Nat → World → Prop) (it1 : Nat) : Nat → Option Addr → Nat → Nat → World → Prop
 | 0, _, _, _, _ => False
 | nl1 + 1, v1_a, v1_n, v1_c, w2 => (
 (∃ (x1 : Value), ∃ (x2 : Value), ∃ w3, (Instr.next (.pointer (some ⟨it1, 0, none⟩)) false 0).run Pg w2 = .ok (.tuple #[vb true, x1, x2]) w3 ∧ ∃ x3 x4, (Instr.entry (.pointer (some ⟨it1, 0, none⟩))).run Pg w3 = .ok (.tuple #[vg (Tplace.enc x3), vi x4]) w3 ∧
 Al w3 (.cells #[vu 0, vi 0, vs (ByteArray.mk #[])] 111) fun b1 w4 =>
 Sb w4 b1 (.cells #[vu x3.account_Kind, vi x3.account_Id, vs x3.unit] 111 (0, 0)) fun w5 =>
 Ifb (x4 != 0)
 (Al w5 (.cells #[vu x3.account_Kind, vi x3.account_Id, vs x3.unit, vi x4] 49) fun b2 w6 =>
 Ap Pg w6 #[24, 24] 24 (vl v1_a v1_n v1_c) (vl (some ⟨b2, 0, none⟩) 1 1) fun a1_a a1_n a1_c w7 =>
 (drawers_lines.l1 Q it1 nl1) a1_a a1_n a1_c w7)
 ((drawers_lines.l1 Q it1 nl1) v1_a v1_n v1_c w5)) ∨
 (∃ w8, (Instr.next (.pointer (some ⟨it1, 0, none⟩)) false 0).run Pg w2 = .ok (.tuple #[.bool false]) w8 ∧ Cl Pg 126 #[vl v1_a v1_n v1_c, .func (.func 127) #[] #[]] w8 (fun v w9 => v = .tuple #[] ∧ Q v1_a v1_n v1_c w9)))
def drawers_lines.R (Q : Option Addr → Nat → Nat → World → Prop) (all : Option Nat) (w : World) : Prop := (
 ∃ (it1 : Nat), ∃ w1, (Instr.range 103 (.map all)).run Pg w = .ok (.pointer (some ⟨it1, 0, none⟩)) w1 ∧
 ∃ k, drawers_lines.l1 Q it1 k none 0 0 w1)
theorem drawers_lines.ok {Q : Option Addr → Nat → Nat → World → Prop} {all : Option Nat} {w : World} (h : drawers_lines.R Q all w) : Cl Pg 70 #[.map all] w (fun v w' => ∃ r0a r0n r0c, v = vl r0a r0n r0c ∧ Q r0a r0n r0c w') := by
 refine calls_args (args := [.map all]) Tryz.func70 ?_
 unfold drawers_lines.R at h
 refine W_regseq <| ps 1 [(2, vl none 0 0)] <| WO_nil <| W_regseq <| ps 1 [(3, vl none 0 0)] <| WO_nil <| W_seq <| W_regseq <| ps 1 [(6, .map all)] ?_
 obtain ⟨it1, w1, hrun, h⟩ := h
 refine WO_val rfl rfl (ex_range rfl rfl hrun) ?_
 clear hrun
 refine WO_nil <| W_block ?_
 obtain ⟨nl1, h⟩ := h
 refine W_loopI (fun k e w2 => ∃ (e0 : Env) (v1_a : Option Addr) (v1_n : Nat) (v1_c : Nat), e = upds e0 [(3, vl v1_a v1_n v1_c), (7, vp ⟨it1, 0, none⟩)] ∧ drawers_lines.l1 Q it1 k v1_a v1_n v1_c w2) nl1 ?_ ?_ ?_
 rintro _ _ ⟨_, _, _, _, _, h⟩
 exact h
 exact ⟨_, none, 0, 0, Agree.eq ⟨rfl, rfl, trivial⟩, h⟩
 clear h nl1
 rintro nl1 _ w2 ⟨e0, v1_a, v1_n, v1_c, rfl, h⟩
 unfold drawers_lines.l1 at h
 refine W_regseq ?_
 rcases h with ⟨x1, x2, w3, hrun, h⟩ | ⟨w8, hrun, h⟩
 refine WO_val rfl rfl (ex_next rfl rfl hrun) ?_
 clear hrun
 refine ps 1 [(9, vb true)] <| WO_nil <| W_seq <| W_cond (t := true) rfl <| W_skip <| W_block <| W_regseq ?_
 obtain ⟨x3, x4, hen, h⟩ := h
 refine WO_val rfl rfl (ex_entry rfl rfl hen) ?_
 clear hen
 refine ps 2 [(11, vg (Tplace.enc x3)), (12, vi x4)] <| alp h ?_
 intro b1 w4 _ _ hb_b1 h
 refine sb tk111 hb_b1 h ?_
 intro w5 ew hb_ h
 replace hb_b1 := hb_
 refine ps 1 [(5, vi x4)] <| WO_nil <| W_regseq <| ps 2 [(13, vi x4), (14, vb (x4 != 0))] <| WO_nil <| ci h (fun h => ?_) fun h => ?_
 refine W_reg <| ps 2 [(15, vl v1_a v1_n v1_c), (16, vp ⟨b1, 0, none⟩)] <| lbn [vu x3.account_Kind, vi x3.account_Id] tk40 hb_b1 <| ps 1 [(18, vp ⟨b1, 2, none⟩)] <| lb1 tk9 hb_b1 <| ps 2 [(20, vi x4), (21, vg [vu x3.account_Kind, vi x3.account_Id, vs x3.unit, vi x4])] <| als 1 h ?_
 intro b2 w6 _ _ _ h
 refine ap h ?_
 rintro a1_a a1_n a1_c w7 h
 exact ps 1 [(3, vl a1_a a1_n a1_c)] <| WO_nil <| blockK_normal <| ⟨_, a1_a, a1_n, a1_c, Agree.eq ⟨rfl, rfl, trivial⟩, h⟩
 exact W_skip <| blockK_normal <| ⟨_, v1_a, v1_n, v1_c, Agree.eq ⟨rfl, rfl, trivial⟩, h⟩
 refine WO_val rfl rfl (ex_next rfl rfl hrun) ?_
 clear hrun
 refine ps 1 [(9, vb false)] <| WO_nil <| W_seq <| W_cond (t := false) rfl <| W_exit <| blockK_hit <| W_regseq <| ps 1 [(24, vl v1_a v1_n v1_c)] <| cl h ?_
 rintro _ w9 ⟨rfl, h⟩
 exact WO_nil <| W_regseq <| ps 2 [(26, vl v1_a v1_n v1_c), (2, vl v1_a v1_n v1_c)] <| WO_nil <| W_ret <| ret1 (v := vl v1_a v1_n v1_c) (t := 2) rfl rfl ⟨_, _, _, rfl, h⟩
def drawers_balances.l1 (Q : Option Nat → World → Prop) (l_a : Option Addr) (l_n : Nat) (day : Int) (b1 : Nat) : Nat → Int → World → Prop
 | 0, _, _ => False
 | nl1 + 1, v1, w2 => (
 Ifb (decide (v1 < ((l_n : Nat) : Int)))
 (Ix l_a l_n v1 fun p1 =>
 LdT TPosting.enc w2 (Addr.add p1 (v1.toNat * 9)) fun x1 =>
 Al w2 (.cells #[vi 0, vs (ByteArray.mk #[]), vi 0, vu 0, vi 0, vu 0, vi 0, vu 0, vi 0] 42) fun b2 w3 =>
 Sb w3 b2 (.cells #[vi x1.Day, vs x1.Unit, vi x1.N, vu x1.From_Kind, vi x1.From_Id, vu x1.To_Kind, vi x1.To_Id, vu x1.Why, vi x1.Lot] 42 (0, 0)) fun w4 =>
 Ifb (decide (x1.Day ≤ day))
 (Dr w4 fun w5 =>
 ∃ x2, (Instr.lookup 103 (.map (some b1)) (vg [vu x1.From_Kind, vi x1.From_Id, vs x1.Unit]) false).run Pg w5 = .ok (vi x2) w5 ∧
 ∃ (x3 : Int), ∃ (x4 : Int), ∃ w6, (Instr.mapEntry 103 (.map (some b1)) (vg [vu x1.From_Kind, vi x1.From_Id, vs x1.Unit])).run Pg w5 = .ok (.tuple #[vi x3, vi x4]) w6 ∧
 Kp b2 w5 w6 ∧ (Instr.lookup 103 (.map (some b1)) (vg [vu x1.From_Kind, vi x1.From_Id, vs x1.Unit]) false).run Pg w6 = .ok (vi x2) w6 ∧ ∃ w7, (Instr.entryStore 103 (.map (some b1)) (vi x4) (vi (IntKind.wrap .i64 (x2 - x1.N)))).run Pg w6 = .ok () w7 ∧
 Kp b2 w6 w7 ∧ Dr w7 fun w8 =>
 ∃ x5, (Instr.lookup 103 (.map (some b1)) (vg [vu x1.To_Kind, vi x1.To_Id, vs x1.Unit]) false).run Pg w8 = .ok (vi x5) w8 ∧
 ∃ (x6 : Int), ∃ (x7 : Int), ∃ w9, (Instr.mapEntry 103 (.map (some b1)) (vg [vu x1.To_Kind, vi x1.To_Id, vs x1.Unit])).run Pg w8 = .ok (.tuple #[vi x6, vi x7]) w9 ∧
 (Instr.lookup 103 (.map (some b1)) (vg [vu x1.To_Kind, vi x1.To_Id, vs x1.Unit]) false).run Pg w9 = .ok (vi x5) w9 ∧ ∃ w10, (Instr.entryStore 103 (.map (some b1)) (vi x7) (vi (IntKind.wrap .i64 (x5 + x1.N)))).run Pg w9 = .ok () w10 ∧
 (drawers_balances.l1 Q l_a l_n day b1 nl1) (IntKind.wrap .i64 (v1 + 1)) w10)
 ((drawers_balances.l1 Q l_a l_n day b1 nl1) (IntKind.wrap .i64 (v1 + 1)) w4))
 (Q (some b1) w2))
def drawers_balances.R (Q : Option Nat → World → Prop) (l_a : Option Addr) (l_n : Nat) (l_c : Nat) (day : Int) (w : World) : Prop := (
 Al w (.map #[] 0) fun b1 w1 =>
 ∃ k, drawers_balances.l1 Q l_a l_n day b1 k 0 w1)
theorem drawers_balances.ok {Q : Option Nat → World → Prop} {l_a : Option Addr} {l_n : Nat} {l_c : Nat} {day : Int} {w : World} (h : drawers_balances.R Q l_a l_n l_c day w) : Cl Pg 84 #[vl l_a l_n l_c, vi day] w (fun v w' => ∃ (r0 : Option Nat), v = .map r0 ∧ Q r0 w') := by
 refine calls_args (args := [vl l_a l_n l_c, vi day]) Tryz.func84 ?_
 unfold drawers_balances.R at h
 refine W_regseq <| ps 1 [(4, .map none)] <| WO_nil <| W_regseq <| alm h ?_
 intro b1 w1 _ _ _ h
 refine ps 1 [(5, .map (some b1))] <| WO_nil <| W_seq <| W_regseq <| ps 3 [(9, vl l_a l_n l_c), (10, vi (l_n : Nat)), (11, vi 0)] <| WO_nil <| W_block ?_
 obtain ⟨nl1, h⟩ := h
 refine W_loopI (fun k e w2 => ∃ (e0 : Env) (v1 : Int), e = upds e0 [(1, vi day), (5, .map (some b1)), (9, vl l_a l_n l_c), (10, vi (l_n : Nat)), (11, vi v1)] ∧ drawers_balances.l1 Q l_a l_n day b1 k v1 w2) nl1 ?_ ?_ ?_
 rintro _ _ ⟨_, _, _, h⟩
 exact h
 exact ⟨_, 0, Agree.eq ⟨rfl, rfl, rfl, rfl, rfl, trivial⟩, h⟩
 clear h nl1
 rintro nl1 _ w2 ⟨e0, v1, rfl, h⟩
 unfold drawers_balances.l1 at h
 refine W_regseq <| ps 1 [(12, vb (decide (v1 < ((l_n : Nat) : Int))))] <| WO_nil <| W_seq <| ci h (fun h => ?_) fun h => ?_
 refine W_skip <| W_seq <| W_block <| W_regseq <| ix slk22 h fun p1 h => ?_
 obtain ⟨x1, hx1, h⟩ := h
 refine ldn tk42 hx1 <| alp h ?_
 intro b2 w3 _ _ hb_b2 h
 refine sb tk42 hb_b2 h ?_
 intro w4 ew hb_ h
 replace hb_b2 := hb_
 refine WO_nil <| W_regseq <| ps 1 [(15, vp ⟨b2, 0, none⟩)] <| lb1 tk3 hb_b2 <| ps 2 [(17, vi day), (18, vb (decide (x1.Day ≤ day)))] <| WO_nil <| ci h (fun h => ?_) fun h => ?_
 refine drs folM [[], [], [], [], [], [2, 4], [2, 4], [], [], [2, 4, 6, 8], [2, 4, 8], [2, 4, 8], [2, 4, 6, 8]] [.p 0, .p 1, .l 2, .p 3, .l 4, .p 5, .l 6, .p 7, .l 8, .p 9, .e 10, .p 11, .e 12] h ?_
 intro w5 ew h
 replace hb_b2 := dr_keep ew hb_b2
 refine psC 2 [(19, .map (some b1)), (20, vp ⟨b2, 3, none⟩)] <| lbnC [vu x1.From_Kind, vi x1.From_Id] tk40 hb_b2 <| psC 1 [(22, vp ⟨b2, 1, none⟩)] <| lb1C tk9 hb_b2 <| psC 1 [(24, vg [vu x1.From_Kind, vi x1.From_Id, vs x1.Unit])] ?_
 obtain ⟨x2, hlk1, h⟩ := h
 refine WC_l rfl rfl rfl (ex_lookup rfl rfl rfl hlk1) <| psC 1 [(26, vp ⟨b2, 2, none⟩)] <| lb1C tk3 hb_b2 <| psC 1 [(28, vi (IntKind.wrap .i64 (x2 - x1.N)))] ?_
 obtain ⟨x3, x4, w6, hrun, hk0, hk1, h⟩ := h
 refine WC_ev rfl rfl rfl (ex_mapEntry rfl rfl rfl hrun) ?_
 replace hb_b2 := kp_at hk0 hb_b2
 replace hlk1 := hk1
 clear hrun
 refine ⟨AllOk.cons (Pend_ok (ex_lookup rfl rfl rfl hlk1)) <| AllOk.nil, ?_⟩
 refine psC 1 [(30, vi x4)] ?_
 obtain ⟨w7, hrun, hk0, h⟩ := h
 refine WC_eu rfl rfl rfl (ex_entryStore rfl rfl rfl rfl hrun) ?_
 replace hb_b2 := kp_at hk0 hb_b2
 clear hrun
 refine ⟨AllOk.nil, ?_⟩
 refine WC_nil <| drw folM [[], [], [], [], [], [2, 4], [2, 4], [], [], [2, 4, 6, 8], [2, 4, 8], [2, 4, 8], [2, 4, 6, 8]] [.p 0, .p 1, .l 2, .p 3, .l 4, .p 5, .l 6, .p 7, .l 8, .p 9, .e 10, .p 11, .e 12] h ?_
 intro w8 ew h
 replace hb_b2 := dr_keep ew hb_b2
 refine psC 2 [(31, .map (some b1)), (32, vp ⟨b2, 5, none⟩)] <| lbnC [vu x1.To_Kind, vi x1.To_Id] tk40 hb_b2 <| psC 1 [(34, vp ⟨b2, 1, none⟩)] <| lb1C tk9 hb_b2 <| psC 1 [(36, vg [vu x1.To_Kind, vi x1.To_Id, vs x1.Unit])] ?_
 obtain ⟨x5, hlk2, h⟩ := h
 refine WC_l rfl rfl rfl (ex_lookup rfl rfl rfl hlk2) <| psC 1 [(38, vp ⟨b2, 2, none⟩)] <| lb1C tk3 hb_b2 <| psC 1 [(40, vi (IntKind.wrap .i64 (x5 + x1.N)))] ?_
 obtain ⟨x6, x7, w9, hrun, hk0, h⟩ := h
 refine WC_ev rfl rfl rfl (ex_mapEntry rfl rfl rfl hrun) ?_
 replace hlk2 := hk0
 clear hrun
 refine ⟨AllOk.cons (Pend_ok (ex_lookup rfl rfl rfl hlk2)) <| AllOk.nil, ?_⟩
 refine psC 1 [(42, vi x7)] ?_
 obtain ⟨w10, hrun, h⟩ := h
 refine WC_eu rfl rfl rfl (ex_entryStore rfl rfl rfl rfl hrun) ?_
 clear hrun
 refine ⟨AllOk.nil, ?_⟩
 exact WC_nil <| blockK_normal <| W_reg <| ps 2 [(43, vi (IntKind.wrap .i64 (v1 + 1))), (11, vi (IntKind.wrap .i64 (v1 + 1)))] <| WO_nil <| ⟨_, IntKind.wrap .i64 (v1 + 1), Agree.eq ⟨rfl, rfl, rfl, rfl, rfl, trivial⟩, h⟩
 exact W_skip <| blockK_normal <| W_reg <| ps 2 [(43, vi (IntKind.wrap .i64 (v1 + 1))), (11, vi (IntKind.wrap .i64 (v1 + 1)))] <| WO_nil <| ⟨_, IntKind.wrap .i64 (v1 + 1), Agree.eq ⟨rfl, rfl, rfl, rfl, rfl, trivial⟩, h⟩
 exact W_exit <| blockK_hit <| W_regseq <| ps 2 [(44, .map (some b1)), (4, .map (some b1))] <| WO_nil <| W_ret <| ret1 (v := .map (some b1)) (t := 4) rfl rfl ⟨_, rfl, h⟩
def drawers_sums.l2 (Q : Option Addr → Nat → Nat → World → Prop) (it1 : Nat) : Nat → Option Addr → Nat → Nat → World → Prop
 | 0, _, _, _, _ => False
 | nl2 + 1, v2_a, v2_n, v2_c, w7 => (
 (∃ (x3 : Value), ∃ (x4 : Value), ∃ w8, (Instr.next (.pointer (some ⟨it1, 0, none⟩)) false 0).run Pg w7 = .ok (.tuple #[vb true, x3, x4]) w8 ∧ ∃ x5 x6, (Instr.entry (.pointer (some ⟨it1, 0, none⟩))).run Pg w8 = .ok (.tuple #[vs x5, vi x6]) w8 ∧
 Ifb (x6 != 0)
 (Al w8 (.cells #[vs x5, vi x6] 58) fun b3 w9 =>
 Ap Pg w9 #[53, 53] 53 (vl v2_a v2_n v2_c) (vl (some ⟨b3, 0, none⟩) 1 1) fun a1_a a1_n a1_c w10 =>
 (drawers_sums.l2 Q it1 nl2) a1_a a1_n a1_c w10)
 ((drawers_sums.l2 Q it1 nl2) v2_a v2_n v2_c w8)) ∨
 (∃ w11, (Instr.next (.pointer (some ⟨it1, 0, none⟩)) false 0).run Pg w7 = .ok (.tuple #[.bool false]) w11 ∧ Cl Pg 145 #[vl v2_a v2_n v2_c, .func (.func 146) #[] #[]] w11 (fun v w12 => v = .tuple #[] ∧ Q v2_a v2_n v2_c w12)))
def drawers_sums.l1 (Q : Option Addr → Nat → Nat → World → Prop) (l_a : Option Addr) (l_n : Nat) (b1 : Nat) : Nat → Int → World → Prop
 | 0, _, _ => False
 | nl1 + 1, v1, w2 => (
 Ifb (decide (v1 < ((l_n : Nat) : Int)))
 (Ix l_a l_n v1 fun p1 =>
 LdT TAmount.enc w2 (Addr.add p1 (v1.toNat * 2)) fun x1 =>
 Al w2 (.cells #[vs (ByteArray.mk #[]), vi 0] 58) fun b2 w3 =>
 Sb w3 b2 (.cells #[vs x1.Unit, vi x1.N] 58 (0, 0)) fun w4 =>
 ∃ x2, (Instr.lookup 56 (.map (some b1)) (vs x1.Unit) false).run Pg w4 = .ok (vi x2) w4 ∧
 ∃ w5, (Instr.mapUpdate 56 (.map (some b1)) (vs x1.Unit) (vi (IntKind.wrap .i64 (x2 + x1.N)))).run Pg w4 = .ok () w5 ∧
 (drawers_sums.l1 Q l_a l_n b1 nl1) (IntKind.wrap .i64 (v1 + 1)) w5)
 (∃ (it1 : Nat), ∃ w6, (Instr.range 56 (.map (some b1))).run Pg w2 = .ok (.pointer (some ⟨it1, 0, none⟩)) w6 ∧
 ∃ k, drawers_sums.l2 Q it1 k none 0 0 w6))
def drawers_sums.R (Q : Option Addr → Nat → Nat → World → Prop) (l_a : Option Addr) (l_n : Nat) (l_c : Nat) (w : World) : Prop := (
 Al w (.map #[] 0) fun b1 w1 =>
 ∃ k, drawers_sums.l1 Q l_a l_n b1 k 0 w1)
theorem drawers_sums.ok {Q : Option Addr → Nat → Nat → World → Prop} {l_a : Option Addr} {l_n : Nat} {l_c : Nat} {w : World} (h : drawers_sums.R Q l_a l_n l_c w) : Cl Pg 88 #[vl l_a l_n l_c] w (fun v w' => ∃ r0a r0n r0c, v = vl r0a r0n r0c ∧ Q r0a r0n r0c w') := by
 refine calls_args (args := [vl l_a l_n l_c]) Tryz.func88 ?_
 unfold drawers_sums.R at h
 refine W_regseq <| ps 1 [(2, vl none 0 0)] <| WO_nil <| W_regseq <| alm h ?_
 intro b1 w1 _ _ _ h
 refine ps 1 [(3, .map (some b1))] <| WO_nil <| W_seq <| W_regseq <| ps 3 [(10, vl l_a l_n l_c), (11, vi (l_n : Nat)), (12, vi 0)] <| WO_nil <| W_block ?_
 obtain ⟨nl1, h⟩ := h
 refine W_loopI (fun k e w2 => ∃ (e0 : Env) (v1 : Int), e = upds e0 [(3, .map (some b1)), (10, vl l_a l_n l_c), (11, vi (l_n : Nat)), (12, vi v1)] ∧ drawers_sums.l1 Q l_a l_n b1 k v1 w2) nl1 ?_ ?_ ?_
 rintro _ _ ⟨_, _, _, h⟩
 exact h
 exact ⟨_, 0, Agree.eq ⟨rfl, rfl, rfl, rfl, trivial⟩, h⟩
 clear h nl1
 rintro nl1 _ w2 ⟨e0, v1, rfl, h⟩
 unfold drawers_sums.l1 at h
 refine W_regseq <| ps 1 [(13, vb (decide (v1 < ((l_n : Nat) : Int))))] <| WO_nil <| W_seq <| ci h (fun h => ?_) fun h => ?_
 refine W_skip <| W_seq <| W_block <| W_regseq <| ix slk53 h fun p1 h => ?_
 obtain ⟨x1, hx1, h⟩ := h
 refine ldn tk58 hx1 <| alp h ?_
 intro b2 w3 _ _ hb_b2 h
 refine sb tk58 hb_b2 h ?_
 intro w4 ew hb_ h
 replace hb_b2 := hb_
 refine WO_nil <| W_reg <| ps 2 [(16, .map (some b1)), (17, vp ⟨b2, 0, none⟩)] <| lb1 tk9 hb_b2 ?_
 obtain ⟨x2, hlk1, h⟩ := h
 refine WO_val rfl rfl (ex_lookup rfl rfl rfl hlk1) <| ps 1 [(20, vp ⟨b2, 1, none⟩)] <| lb1 tk3 hb_b2 <| ps 1 [(22, vi (IntKind.wrap .i64 (x2 + x1.N)))] ?_
 obtain ⟨w5, hrun, h⟩ := h
 refine WO_unit rfl rfl (ex_mapUpdate rfl rfl rfl rfl hrun) ?_
 clear hrun
 exact WO_nil <| blockK_normal <| W_reg <| ps 2 [(23, vi (IntKind.wrap .i64 (v1 + 1))), (12, vi (IntKind.wrap .i64 (v1 + 1)))] <| WO_nil <| ⟨_, IntKind.wrap .i64 (v1 + 1), Agree.eq ⟨rfl, rfl, rfl, rfl, trivial⟩, h⟩
 refine W_exit <| blockK_hit <| W_regseq <| ps 1 [(6, vl none 0 0)] <| WO_nil <| W_seq <| W_regseq <| ps 1 [(24, .map (some b1))] ?_
 obtain ⟨it1, w6, hrun, h⟩ := h
 refine WO_val rfl rfl (ex_range rfl rfl hrun) ?_
 clear hrun
 refine WO_nil <| W_block ?_
 obtain ⟨nl2, h⟩ := h
 refine W_loopI (fun k e w7 => ∃ (e0 : Env) (v2_a : Option Addr) (v2_n : Nat) (v2_c : Nat), e = upds e0 [(6, vl v2_a v2_n v2_c), (25, vp ⟨it1, 0, none⟩)] ∧ drawers_sums.l2 Q it1 k v2_a v2_n v2_c w7) nl2 ?_ ?_ ?_
 rintro _ _ ⟨_, _, _, _, _, h⟩
 exact h
 exact ⟨_, none, 0, 0, Agree.eq ⟨rfl, rfl, trivial⟩, h⟩
 clear h nl2
 rintro nl2 _ w7 ⟨e0, v2_a, v2_n, v2_c, rfl, h⟩
 unfold drawers_sums.l2 at h
 refine W_regseq ?_
 rcases h with ⟨x3, x4, w8, hrun, h⟩ | ⟨w11, hrun, h⟩
 refine WO_val rfl rfl (ex_next rfl rfl hrun) ?_
 clear hrun
 refine ps 1 [(27, vb true)] <| WO_nil <| W_seq <| W_cond (t := true) rfl <| W_skip <| W_block <| W_regseq ?_
 obtain ⟨x5, x6, hen, h⟩ := h
 refine WO_val rfl rfl (ex_entry rfl rfl hen) ?_
 clear hen
 refine ps 4 [(29, vs x5), (30, vi x6), (7, vs x5), (8, vi x6)] <| WO_nil <| W_regseq <| ps 2 [(31, vi x6), (32, vb (x6 != 0))] <| WO_nil <| ci h (fun h => ?_) fun h => ?_
 refine W_reg <| ps 4 [(33, vl v2_a v2_n v2_c), (34, vs x5), (35, vi x6), (36, vg [vs x5, vi x6])] <| als 1 h ?_
 intro b3 w9 _ _ _ h
 refine ap h ?_
 rintro a1_a a1_n a1_c w10 h
 exact ps 1 [(6, vl a1_a a1_n a1_c)] <| WO_nil <| blockK_normal <| ⟨_, a1_a, a1_n, a1_c, Agree.eq ⟨rfl, rfl, trivial⟩, h⟩
 exact W_skip <| blockK_normal <| ⟨_, v2_a, v2_n, v2_c, Agree.eq ⟨rfl, rfl, trivial⟩, h⟩
 refine WO_val rfl rfl (ex_next rfl rfl hrun) ?_
 clear hrun
 refine ps 1 [(27, vb false)] <| WO_nil <| W_seq <| W_cond (t := false) rfl <| W_exit <| blockK_hit <| W_regseq <| ps 1 [(39, vl v2_a v2_n v2_c)] <| cl h ?_
 rintro _ w12 ⟨rfl, h⟩
 exact WO_nil <| W_regseq <| ps 2 [(41, vl v2_a v2_n v2_c), (2, vl v2_a v2_n v2_c)] <| WO_nil <| W_ret <| ret1 (v := vl v2_a v2_n v2_c) (t := 2) rfl rfl ⟨_, _, _, rfl, h⟩
end Go.Proofs.YtcbijkakoepglaaGreat
namespace Go.Proofs.YtcbijkakoepglaaGreat
open Go Go.Wx

/-! ### the plain side -/
def pFrom (p : TPosting) : Tplace := ⟨p.From_Kind, p.From_Id, p.Unit⟩
def pTo (p : TPosting) : Tplace := ⟨p.To_Kind, p.To_Id, p.Unit⟩
def subM (m : List (Tplace × Int)) (x : Tplace) (n : Int) : List (Tplace × Int) := putM m x (wr (getM m x - n))
def addM {κ : Type} [DecidableEq κ] (m : List (κ × Int)) (x : κ) (n : Int) : List (κ × Int) := putM m x (wr (getM m x + n))
def balOn (day : Int) : List (Tplace × Int) → List TPosting → List (Tplace × Int)
  | m, [] => m
  | m, p :: ps => balOn day (if p.Day ≤ day then addM (subM m (pFrom p) p.N) (pTo p) p.N else m) ps
def lineOf (y : Tplace × Int) : TTrialLine := ⟨y.1.account_Kind, y.1.account_Id, y.1.unit, y.2⟩
def linesM (m : List (Tplace × Int)) : List TTrialLine := isort ltLine ((m.filter fun y => y.2 != 0).map lineOf)
def sumOn : List (ByteArray × Int) → List TAmount → List (ByteArray × Int)
  | m, [] => m
  | m, a :: l => sumOn (addM m a.Unit a.N) l
def amountOf (y : ByteArray × Int) : TAmount := ⟨y.1, y.2⟩
def sumsM (l : List TAmount) : List TAmount := isort ltAmount (((sumOn [] l).filter fun y => y.2 != 0).map amountOf)

theorem putM_len {κ : Type} [DecidableEq κ] (x : κ) (v : Int) : ∀ m : List (κ × Int), (putM m x v).length ≤ m.length + 1
  | [] => by simp [putM]
  | (y, u) :: m => by
    unfold putM
    split
    · simp
    · simp [putM_len x v m]
theorem balOn_len (day : Int) : ∀ (l : List TPosting) (m : List (Tplace × Int)), (balOn day m l).length ≤ m.length + 2 * l.length
  | [], m => by simp [balOn]
  | p :: l, m => by
    have h := balOn_len day l (if p.Day ≤ day then addM (subM m (pFrom p) p.N) (pTo p) p.N else m)
    unfold balOn
    split at h
    · rename_i hd
      rw [if_pos hd]
      have h1 := putM_len (pTo p) (wr (getM (subM m (pFrom p) p.N) (pTo p) + p.N)) (subM m (pFrom p) p.N)
      have h2 := putM_len (pFrom p) (wr (getM m (pFrom p) - p.N)) m
      simp only [addM, subM, List.length_cons] at h h1 h2 ⊢
      omega
    · rename_i hd
      rw [if_neg hd]
      simp only [List.length_cons]; omega
theorem sumOn_len : ∀ (l : List TAmount) (m : List (ByteArray × Int)), (sumOn m l).length ≤ m.length + l.length
  | [], m => by simp [sumOn]
  | a :: l, m => by
    have h := sumOn_len l (addM m a.Unit a.N)
    have h1 := putM_len a.Unit (wr (getM m a.Unit + a.N)) m
    unfold sumOn
    simp only [addM, List.length_cons] at h h1 ⊢
    omega

theorem filterMap_range {α : Type} : ∀ m : List α, (List.range m.length).filterMap (fun j => m[j]?) = m
  | [] => rfl
  | x :: m => by
    rw [List.length_cons, List.range_succ_eq_map, List.filterMap_cons]
    simp only [List.getElem?_cons_zero, List.filterMap_map]
    congr 1
    exact filterMap_range m
/-- what was visited is all, in some order. -/
theorem visited {α : Type} {m : List α} {seen : List Nat} (hn : seen.Nodup) (hl : ∀ j ∈ seen, j < m.length) (ha : ∀ j, j < m.length → j ∈ seen) : (seen.filterMap fun j => m[j]?).Perm m := by
  have hp : seen.Perm (List.range m.length) := (List.perm_ext_iff_of_nodup hn List.nodup_range).2 fun j => ⟨fun h => List.mem_range.2 (hl j h), fun h => ha j (List.mem_range.1 h)⟩
  have h2 := hp.filterMap fun j => m[j]?
  rwa [filterMap_range] at h2
theorem keys_inj {κ : Type} {m : List (κ × Int)} (h : m.Pairwise fun x y => x.1 ≠ y.1) : ∀ x ∈ m, ∀ y ∈ m, x.1 = y.1 → x = y := by
  intro x hx y hy e
  obtain ⟨i, hi⟩ := List.getElem?_of_mem hx
  obtain ⟨j, hj⟩ := List.getElem?_of_mem hy
  obtain ⟨h1, rfl⟩ := List.getElem?_eq_some_iff.1 hi
  obtain ⟨h2, rfl⟩ := List.getElem?_eq_some_iff.1 hj
  have hp := List.pairwise_iff_getElem.1 h
  rcases Nat.lt_trichotomy i j with h' | h' | h'
  · exact absurd e (hp i j h1 h2 h')
  · subst h'; rfl
  · exact absurd e.symm (hp j i h2 h1 h')

def unseen (n : Nat) (seen : List Nat) : Nat := ((List.range n).filter fun j => !seen.contains j).length
theorem unseen_step {n j : Nat} {seen : List Nat} (hj : j < n) (hs : j ∉ seen) : unseen n (seen ++ [j]) < unseen n seen := by
  unfold unseen
  have e : (List.range n).filter (fun i => !(seen ++ [j]).contains i) = ((List.range n).filter fun i => !seen.contains i).filter fun i => i != j := by
    rw [List.filter_filter]
    congr 1
    funext i
    rw [Bool.eq_iff_iff]
    simp only [Bool.not_eq_true', List.contains_eq_mem, List.mem_append, List.mem_singleton, decide_eq_false_iff_not, Bool.and_eq_true, bne_iff_ne]
    exact ⟨fun h => ⟨fun e => h (.inr e), fun e => h (.inl e)⟩, fun h e => e.elim h.2 h.1⟩
  rw [e, List.length_filter_lt_length_iff_exists]
  exact ⟨j, List.mem_filter.2 ⟨List.mem_range.2 hj, by simpa using hs⟩, by simp⟩

/-! ### the contracts -/
theorem lines_c {w : World} {b : Nat} {m : List (Tplace × Int)} (h : MapIs encPlace w b m) (hm : m.length ≤ 100000) {Q : Option Addr → Nat → Nat → World → Prop}
    (hQ : ∀ a n c w', Own 49 4 TTrialLine.enc w' a n c (linesM m) → (∀ k, obk a c = some k → w.heap.size ≤ k) → Ext w w' → Q a n c w') : Cl Pg 70 #[.map (some b)] w (fun v w' => ∃ a n c, v = vl a n c ∧ Q a n c w') := by
  refine drawers_lines.ok ?_
  obtain ⟨w1, hr, hi, E⟩ := range_run keysPlace h
  refine ⟨_, w1, hr, unseen m.length [] + 1, ?_⟩
  have hlt := h.1.lt
  have hpw := h.2
  have hitl : w.heap.size ≤ w.heap.size := Nat.le_refl _
  generalize hit : w.heap.size = it at hr hi hitl
  have fin : ∀ w' (seen : List Nat) a n c, IterIs w' it b m.length seen → (∀ j, j < m.length → j ∈ seen) → Ext w w' → Own 49 4 TTrialLine.enc w' a n c (((seen.filterMap fun j => m[j]?).filter fun y => y.2 != 0).map lineOf) → (∀ k, obk a c = some k → w.heap.size ≤ k) → Cl Pg 126 #[vl a n c, .func (.func 127) #[] #[]] w' (fun v w' => v = .tuple #[] ∧ Q a n c w') := by
    intro w' seen a n c hi hall E ho hk
    have hp := visited hi.nodup hi.lt hall
    have hp2 : (((seen.filterMap fun j => m[j]?).filter fun y => y.2 != 0).map lineOf).Perm ((m.filter fun y => y.2 != 0).map lineOf) := (hp.filter _).map _
    have hinj : ∀ x ∈ (m.filter fun y => y.2 != 0).map lineOf, ∀ y ∈ (m.filter fun y => y.2 != 0).map lineOf, x.Account_Kind = y.Account_Kind → x.Account_Id = y.Account_Id → x.Unit = y.Unit → x = y := by
      intro x hx y hy e1 e2 e3
      obtain ⟨x', hx', rfl⟩ := List.mem_map.1 hx
      obtain ⟨y', hy', rfl⟩ := List.mem_map.1 hy
      have : x' = y' := keys_inj hpw x' (List.mem_filter.1 hx').1 y' (List.mem_filter.1 hy').1 (by
        obtain ⟨⟨_, _, _⟩, _⟩ := x'; obtain ⟨⟨_, _, _⟩, _⟩ := y'
        simp only [lineOf] at e1 e2 e3
        simp [e1, e2, e3])
      rw [this]
    have hlen : n ≤ m.length := by rw [ho.1, hp2.length_eq, List.length_map]; exact List.length_filter_le _ _
    refine sortLines ho (by omega) (fun x hx y hy => hinj x (hp2.mem_iff.1 hx) y (hp2.mem_iff.1 hy)) fun w2 ho2 F2 => hQ _ _ _ _ ?_ hk (Frm.trans E F2 fun k hk' e => by have := hk k e; omega)
    have : isort ltLine (((seen.filterMap fun j => m[j]?).filter fun y => y.2 != 0).map lineOf) = linesM m := by
      refine isort_unique swoLine ((isort_perm _).trans hp2) (isort_asc swoLine _) fun x hx y hy h1 h2 => ?_
      have g := fun {a b : TTrialLine} (h : ltLine a b = false) => ltLine_false.1 h
      have h1 := g h1
      have h2 := g h2
      have e1 : x.Account_Kind = y.Account_Kind := by
        apply Classical.byContradiction; intro hne
        by_cases h3 : x.Account_Kind < y.Account_Kind
        · exact h1 (.inl h3)
        · exact h2 (.inl (by omega))
      have e2 : x.Account_Id = y.Account_Id := by
        apply Classical.byContradiction; intro hne
        by_cases h3 : x.Account_Id < y.Account_Id
        · exact h1 (.inr ⟨e1, .inl h3⟩)
        · exact h2 (.inr ⟨e1.symm, .inl (by omega)⟩)
      refine hinj x hx y hy e1 e2 (strLt_anti ?_ ?_)
      · cases h : strLt x.Unit y.Unit with
        | false => rfl
        | true => exact (h1 (.inr ⟨e1, .inr ⟨e2, h⟩⟩)).elim
      · cases h : strLt y.Unit x.Unit with
        | false => rfl
        | true => exact (h2 (.inr ⟨e1.symm, .inr ⟨e2.symm, h⟩⟩)).elim
    rwa [this] at ho2
  have key : ∀ q w' seen a n c, unseen m.length seen ≤ q → IterIs w' it b m.length seen → MapIs encPlace w' b m → Ext w w' → n ≤ seen.length → seen.length + unseen m.length seen ≤ m.length → Own 49 4 TTrialLine.enc w' a n c (((seen.filterMap fun j => m[j]?).filter fun y => y.2 != 0).map lineOf) → (∀ k, obk a c = some k → w.heap.size ≤ k) → drawers_lines.l1 Q it (q + 1) a n c w' := by
    intro q
    induction q with
    | zero =>
      intro w' seen a n c hs hi h E hn hsl ho hk
      unfold drawers_lines.l1
      rcases next_run h hi (ty := 0) with ⟨j, y, w2, hj, hy, _, hi2, _⟩ | ⟨hall, w2, hr, e2⟩
      · have := unseen_step (List.getElem?_eq_some_iff.1 hy).1 hj; omega
      · exact .inr ⟨w2, hr, fin w2 seen a n c (hi.frm e2 id) hall (E.trans e2) (ho.ext e2) hk⟩
    | succ q ih =>
      intro w' seen a n c hs hi h E hn hsl ho hk
      unfold drawers_lines.l1
      rcases next_run h hi (ty := 0) with ⟨j, y, w2, hj, hy, hr, hi2, F2⟩ | ⟨hall, w2, hr, e2⟩
      · have hstep := unseen_step (List.getElem?_eq_some_iff.1 hy).1 hj
        have hne : b ≠ it := fun e => by subst e; have := hi.blk; have h' := h.1; exact absurd (Option.some.inj (this.symm.trans h')) (by simp)
        have h2 := h.frm F2 hne
        have hkit : ∀ k, obk a c = some k → ¬ k = it := fun k hk' e => by
          subst e
          obtain ⟨cur, hc⟩ := ho.at _ hk'
          exact absurd (Option.some.inj (hi.blk.symm.trans hc)) (by simp)
        have E2 : Ext w w2 := Frm.trans E F2 fun k hk' e => by omega
        have ho2 := ho.frm F2 hkit
        refine .inl ⟨_, _, w2, hr, y.1, y.2, entry_run h2 hi2 hy, al_f E2 fun b1 w4 hb1 hat E4 e4 _ => sb_f E4 hat hb1 fun w5 hat5 E5 f5 => ifb ?_⟩
        have hb1l := e4.size
        have n1 : ¬ b = b1 := fun e => by subst e; exact absurd (Option.some.inj (hat.symm.trans (h2.ext e4).1)) (by simp)
        have n2 : ¬ it = b1 := fun e => by subst e; exact absurd (Option.some.inj (hat.symm.trans (hi2.frm e4 id).blk)) (by simp)
        have h5 := (h2.ext e4).frm f5 n1
        have hi5 := (hi2.frm e4 id).frm f5 n2
        have ho5 := (ho2.ext e4).frm f5 fun k hk' e => by
          obtain ⟨cur, hc⟩ := (ho2.ext e4).at k hk'
          exact hc.neT hat (by simp [tyO]) e
        have hfm : (((seen ++ [j]).filterMap fun j => m[j]?).filter fun y => y.2 != 0).map lineOf = (((seen.filterMap fun j => m[j]?).filter fun y => y.2 != 0).map lineOf) ++ if y.2 != 0 then [lineOf y] else [] := by
          have e1 : ([j].filterMap fun j => m[j]?) = [y] := by simp [hy]
          have e2 : ([y].filter fun y => y.2 != 0).map lineOf = if y.2 != 0 then [lineOf y] else [] := by cases hz : (y.2 != 0) <;> simp [hz]
          rw [List.filterMap_append, e1, List.filter_append, List.map_append, e2]
        have hsl' : (seen ++ [j]).length + unseen m.length (seen ++ [j]) ≤ m.length := by simp; omega
        split
        · rename_i hnz
          rw [if_pos hnz] at hfm
          refine al_f E5 fun b2 w6 hb2 hat6 E6 e6 _ => ap_own ap24 encLine (fun x => oneAll rfl) (ho5.ext e6) (Rd.one (enc := TTrialLine.enc) (sz := 4) (lineOf y) hat6) (by omega) (by simp only [maxLen]; omega) fun a2 c2 w7 ho7 F7 hb7 => ?_
          rw [← hfm] at ho7
          have k7 : ∀ {o : Obj} {k : Nat}, At w6 k o → tyO o ≠ some 49 → ¬ obk a c = some k := fun hk' ho' e => (ho5.ext e6).neT hk' ho' e
          refine ih w7 (seen ++ [j]) a2 (n + 1) c2 (by omega) ((hi5.frm e6 id).frm F7 (k7 (hi5.frm e6 id).blk (by simp [tyO]))) ((h5.ext e6).frm F7 (k7 (h5.ext e6).1 (by simp [tyO]))) (Frm.trans E6 F7 fun k hk' e => by have := hk k e; omega) (by simp; omega) hsl' ho7 fun k hk' => (hb7 k hk').elim (hk k) fun h => Nat.le_trans E6.size h
        · rename_i hnz
          rw [if_neg hnz, List.append_nil] at hfm
          rw [← hfm] at ho5
          exact ih w5 (seen ++ [j]) a n c (by omega) hi5 h5 E5 (by simp; omega) hsl' ho5 hk
      · exact .inr ⟨w2, hr, fin w2 seen a n c (hi.frm e2 id) hall (E.trans e2) (ho.ext e2) hk⟩
  refine key _ w1 [] none 0 0 (Nat.le_refl _) hi (h.ext E) E (Nat.zero_le _) ?_ (by simpa using Own.nil) (fun k hk => by cases hk)
  have : unseen m.length [] = m.length := by unfold unseen; rw [List.filter_eq_self.2 (by simp), List.length_range]
  simp [this]
end Go.Proofs.YtcbijkakoepglaaGreat
namespace Go.Proofs.YtcbijkakoepglaaGreat
open Go Go.Wx

section
variable {κ : Type} [DecidableEq κ]
theorem getM_putM (x : κ) (v : Int) : ∀ m : List (κ × Int), getM (putM m x v) x = v
  | [] => by simp [putM, getM]
  | (y, u) :: m => by
    unfold putM
    split
    · rename_i h; simp [getM, h]
    · rename_i h; simp [getM, h, getM_putM x v m]
theorem getM_putM_ne {x y : κ} (hxy : y ≠ x) (v : Int) : ∀ m : List (κ × Int), getM (putM m x v) y = getM m y
  | [] => by simp [putM, getM, hxy]
  | (z, u) :: m => by
    unfold putM
    split
    · rename_i h; subst h; simp [getM, hxy]
    · rename_i h
      simp only [getM, getM_putM_ne hxy v m]
end

theorem map_ne {κ : Type} {enc : κ → Value} {w : World} {b k : Nat} {m : List (κ × Int)} (h : MapIs enc w b m) {cur : Array Value} {T : TypeId} {fr : Nat × Nat} (hk : At w k (.cells cur T fr)) : ¬ k = b := fun e => by
  subst e; exact absurd (Option.some.inj (hk.symm.trans h.1)) (by simp)

/-- all[x] += n of a map. -/
theorem mapAdd {w : World} {b : Nat} {m : List (Tplace × Int)} (h : MapIs encPlace w b m) (x : Tplace) (n : Int) {K : World → Prop}
    (hK : ∀ w', MapIs encPlace w' b (putM m x n) → Frm (fun k => k = b) w w' → K w') :
    ∃ (x3 : Int) (x4 : Int) (w6 : World), (Instr.mapEntry 103 (.map (some b)) (vg x.enc)).run Pg w = .ok (.tuple #[vi x3, vi x4]) w6 ∧ Frm (fun k => k = b) w w6 ∧
      (Instr.lookup 103 (.map (some b)) (vg x.enc) false).run Pg w6 = .ok (vi (getM m x)) w6 ∧ ∃ w7, (Instr.entryStore 103 (.map (some b)) (vi x4) (vi n)).run Pg w6 = .ok () w7 ∧ Frm (fun k => k = b) w6 w7 ∧ K w7 := by
  obtain ⟨j, w6, hr, h6, F6, hj, hset⟩ := mapEntry_run keysPlace h x
  have hl := lookup_run keysPlace h6 x
  rw [getM_putM] at hl
  obtain ⟨w7, hr7, h7, F7⟩ := entryStore_run h6 (v := n) hj
  rw [hset] at h7
  exact ⟨_, _, w6, hr, F6, hl, w7, hr7, F7, hK w7 h7 (F6.trans F7 fun _ _ h => h)⟩

theorem balances_c {w : World} {a : Option Addr} {n c : Nat} {ps : List TPosting} (hr : Rd TPosting.enc 9 w a n ps) (hn : n ≤ 1000000) {day : Int} {Q : Option Nat → World → Prop}
    (hQ : ∀ b w', w.heap.size ≤ b → MapIs encPlace w' b (balOn day [] ps) → Ext w w' → Q (some b) w') : Cl Pg 84 #[vl a n c, vi day] w (fun v w' => ∃ r, v = .map r ∧ Q r w') := by
  refine drawers_balances.ok (al_f (er w) fun b1 w1 hb1 hat E _ _ => ⟨n + 1, ?_⟩)
  have key : ∀ m i w' M, i + m = n → Ext w w' → MapIs encPlace w' b1 M → (∀ w', MapIs encPlace w' b1 (balOn day M (ps.drop i)) → Ext w w' → Q (some b1) w') → drawers_balances.l1 Q a n day b1 (m + 1) (i : Nat) w' := by
    intro m
    induction m with
    | zero =>
      intro i w' M hi E hM hQ
      unfold drawers_balances.l1
      rw [List.drop_of_length_le (by have := hr.1; omega)] at hQ
      exact ifb_df (by omega) (hQ _ hM E)
    | succ m ih =>
      intro i w' M hi E hM hQ
      unfold drawers_balances.l1
      refine ifb_dt (by omega) ((hr.ext E).ix (by omega) (by omega) fun a0 x ha hx hc => ⟨x, hc, al_f E fun b2 w3 hb2 hat2 E3 e3 _ => sb_f E3 hat2 hb2 fun w4 hat4 E4 f4 => ifb ?_⟩)
      simp only [Int.toNat_natCast] at hx
      obtain ⟨hl, hx'⟩ := List.getElem?_eq_some_iff.1 hx
      rw [List.drop_eq_getElem_cons hl, hx'] at hQ
      simp only [balOn] at hQ
      have hM4 : MapIs encPlace w4 b1 M := (hM.ext e3).frm f4 fun e => map_ne (hM.ext e3) hat2 e.symm
      rw [wrap_succ (n := n) (by omega) (by omega) (by simp only [maxLen]; omega)]
      split
      · rename_i hd
        rw [if_pos (of_decide_eq_true hd)] at hQ
        refine dr_f E4 fun w5 E5 e5 => ⟨_, lookup_run keysPlace (hM4.ext e5) (pFrom x), ?_⟩
        obtain ⟨x3, x4, w6, r6, F6, r6', w7, r7, F7, h7, F57⟩ := mapAdd (K := fun w' => MapIs encPlace w' b1 (subM M (pFrom x) x.N) ∧ Frm (fun k => k = b1) w5 w') (hM4.ext e5) (pFrom x) (wr (getM M (pFrom x) - x.N)) fun w' h F => ⟨h, F⟩
        have hn5 := map_ne (hM4.ext e5) (hat4.ext e5)
        refine ⟨x3, x4, w6, r6, F6.blk _ (hat4.ext e5).lt hn5, r6', w7, r7, F7.blk _ (Nat.lt_of_lt_of_le (hat4.ext e5).lt F6.size) hn5, ?_⟩
        have E7 : Ext w w7 := Frm.trans E5 F57 fun k hk e => by omega
        refine dr_f E7 fun w8 E8 e8 => ⟨_, lookup_run keysPlace (h7.ext e8) (pTo x), ?_⟩
        obtain ⟨y3, y4, w9, s9, G9, s9', w10, s10, G10, h10, F810⟩ := mapAdd (K := fun w' => MapIs encPlace w' b1 (addM (subM M (pFrom x) x.N) (pTo x) x.N) ∧ Frm (fun k => k = b1) w8 w') (h7.ext e8) (pTo x) (wr (getM (subM M (pFrom x) x.N) (pTo x) + x.N)) fun w' h F => ⟨h, F⟩
        refine ⟨y3, y4, w9, s9, s9', w10, s10, ?_⟩
        exact ih (i + 1) w10 _ (by omega) (Frm.trans E8 F810 fun k hk e => by omega) h10 hQ
      · rename_i hd
        rw [if_neg (by simpa using hd)] at hQ
        exact ih (i + 1) w4 M (by omega) E4 hM4 hQ
  exact key n 0 w1 [] (by omega) E (MapIs.new hat) fun w' h E' => hQ b1 w' hb1 (by simpa using h) E'

theorem sums_c {w : World} {a : Option Addr} {n c : Nat} {am : List TAmount} (hr : Rd TAmount.enc 2 w a n am) (hn : n ≤ 100000) {Q : Option Addr → Nat → Nat → World → Prop}
    (hQ : ∀ a2 n2 c2 w', Own 58 2 TAmount.enc w' a2 n2 c2 (sumsM am) → (∀ k, obk a2 c2 = some k → w.heap.size ≤ k) → Ext w w' → Q a2 n2 c2 w') : Cl Pg 88 #[vl a n c] w (fun v w' => ∃ a2 n2 c2, v = vl a2 n2 c2 ∧ Q a2 n2 c2 w') := by
  refine drawers_sums.ok (al_f (er w) fun b w1 hb hat E _ _ => ⟨n + 1, ?_⟩)
  have fin : ∀ w', MapIs vs w' b (sumOn [] am) → Ext w w' → ∃ (it1 : Nat), ∃ w6, (Instr.range 56 (.map (some b))).run Pg w' = .ok (.pointer (some ⟨it1, 0, none⟩)) w6 ∧ ∃ k, drawers_sums.l2 Q it1 k none 0 0 w6 := by
    intro w0 h E0
    have hm : (sumOn [] am).length ≤ 100000 := by have := sumOn_len am []; have := hr.1; simp only [List.length_nil] at *; omega
    have hsm : sumsM am = isort ltAmount (((sumOn [] am).filter fun y => y.2 != 0).map amountOf) := rfl
    rw [hsm] at hQ
    clear hsm
    generalize sumOn [] am = m at h hm hQ
    obtain ⟨w1, hr1, hi, E1⟩ := range_run keysStr h
    refine ⟨_, w1, hr1, unseen m.length [] + 1, ?_⟩
    have hpw := h.2
    have hit0 : w.heap.size ≤ w0.heap.size := E0.size
    have hitl : w0.heap.size ≤ w0.heap.size := Nat.le_refl _
    generalize hit : w0.heap.size = it at hr1 hi hit0 hitl
    have fin : ∀ w' (seen : List Nat) a n c, IterIs w' it b m.length seen → (∀ j, j < m.length → j ∈ seen) → Ext w w' → Own 58 2 TAmount.enc w' a n c (((seen.filterMap fun j => m[j]?).filter fun y => y.2 != 0).map amountOf) → (∀ k, obk a c = some k → w.heap.size ≤ k) → Cl Pg 145 #[vl a n c, .func (.func 146) #[] #[]] w' (fun v w' => v = .tuple #[] ∧ Q a n c w') := by
      intro w' seen a n c hi hall E ho hk
      have hp := visited hi.nodup hi.lt hall
      have hp2 : (((seen.filterMap fun j => m[j]?).filter fun y => y.2 != 0).map amountOf).Perm ((m.filter fun y => y.2 != 0).map amountOf) := (hp.filter _).map _
      have hinj : ∀ x ∈ (m.filter fun y => y.2 != 0).map amountOf, ∀ y ∈ (m.filter fun y => y.2 != 0).map amountOf, x.Unit = y.Unit → x = y := by
        intro x hx y hy e1
        obtain ⟨x', hx', rfl⟩ := List.mem_map.1 hx
        obtain ⟨y', hy', rfl⟩ := List.mem_map.1 hy
        have : x' = y' := keys_inj hpw x' (List.mem_filter.1 hx').1 y' (List.mem_filter.1 hy').1 e1
        rw [this]
      have hlen : n ≤ m.length := by rw [ho.1, hp2.length_eq, List.length_map]; exact List.length_filter_le _ _
      refine sortAmounts ho (by omega) (fun x hx y hy => hinj x (hp2.mem_iff.1 hx) y (hp2.mem_iff.1 hy)) fun w2 ho2 F2 => hQ _ _ _ _ ?_ hk (Frm.trans E F2 fun k hk' e => by have := hk k e; omega)
      have : isort ltAmount (((seen.filterMap fun j => m[j]?).filter fun y => y.2 != 0).map amountOf) = isort ltAmount ((m.filter fun y => y.2 != 0).map amountOf) := by
        refine isort_unique swoAmount ((isort_perm _).trans hp2) (isort_asc swoAmount _) fun x hx y hy h1 h2 => ?_
        have e : ∀ {a b : TAmount}, ltAmount a b = false → strLt a.Unit b.Unit = false := fun {a b} h => by
          rw [← Bool.not_eq_true, ltAmount_iff, Bool.not_eq_true] at h
          exact h
        exact hinj x hx y hy (strLt_anti (e h1) (e h2))
      rwa [this] at ho2
    have key : ∀ q w' seen a n c, unseen m.length seen ≤ q → IterIs w' it b m.length seen → MapIs vs w' b m → Ext w w' → n ≤ seen.length → seen.length + unseen m.length seen ≤ m.length → Own 58 2 TAmount.enc w' a n c (((seen.filterMap fun j => m[j]?).filter fun y => y.2 != 0).map amountOf) → (∀ k, obk a c = some k → w.heap.size ≤ k) → drawers_sums.l2 Q it (q + 1) a n c w' := by
      intro q
      induction q with
      | zero =>
        intro w' seen a n c hs hi h E hn hsl ho hk
        unfold drawers_sums.l2
        rcases next_run h hi (ty := 0) with ⟨j, y, w2, hj, hy, _, hi2, _⟩ | ⟨hall, w2, hr, e2⟩
        · have := unseen_step (List.getElem?_eq_some_iff.1 hy).1 hj; omega
        · exact .inr ⟨w2, hr, fin w2 seen a n c (hi.frm e2 id) hall (E.trans e2) (ho.ext e2) hk⟩
      | succ q ih =>
        intro w' seen a n c hs hi h E hn hsl ho hk
        unfold drawers_sums.l2
        rcases next_run h hi (ty := 0) with ⟨j, y, w2, hj, hy, hr, hi2, F2⟩ | ⟨hall, w2, hr, e2⟩
        · have hstep := unseen_step (List.getElem?_eq_some_iff.1 hy).1 hj
          have hne : b ≠ it := fun e => by subst e; have := hi.blk; have h' := h.1; exact absurd (Option.some.inj (this.symm.trans h')) (by simp)
          have h2 := h.frm F2 hne
          have hkit : ∀ k, obk a c = some k → ¬ k = it := fun k hk' e => by
            subst e
            obtain ⟨cur, hc⟩ := ho.at _ hk'
            exact absurd (Option.some.inj (hi.blk.symm.trans hc)) (by simp)
          have E2 : Ext w w2 := Frm.trans E F2 fun k hk' e => by omega
          have ho2 := ho.frm F2 hkit
          have hfm : (((seen ++ [j]).filterMap fun j => m[j]?).filter fun y => y.2 != 0).map amountOf = (((seen.filterMap fun j => m[j]?).filter fun y => y.2 != 0).map amountOf) ++ if y.2 != 0 then [amountOf y] else [] := by
            have e1 : ([j].filterMap fun j => m[j]?) = [y] := by simp [hy]
            have e2 : ([y].filter fun y => y.2 != 0).map amountOf = if y.2 != 0 then [amountOf y] else [] := by cases hz : (y.2 != 0) <;> simp [hz]
            rw [List.filterMap_append, e1, List.filter_append, List.map_append, e2]
          have hsl' : (seen ++ [j]).length + unseen m.length (seen ++ [j]) ≤ m.length := by simp; omega
          refine .inl ⟨_, _, w2, hr, y.1, y.2, entry_run h2 hi2 hy, ifb ?_⟩
          split
          · rename_i hnz
            rw [if_pos hnz] at hfm
            refine al_f E2 fun b2 w6 hb2 hat6 E6 e6 _ => ap_own ap53 encAmount (fun x => oneAll rfl) (ho2.ext e6) (Rd.one (enc := TAmount.enc) (sz := 2) (amountOf y) hat6) (by omega) (by simp only [maxLen]; omega) fun a2 c2 w7 ho7 F7 hb7 => ?_
            rw [← hfm] at ho7
            have k7 : ∀ {o : Obj} {k : Nat}, At w6 k o → tyO o ≠ some 58 → ¬ obk a c = some k := fun hk' ho' e => (ho2.ext e6).neT hk' ho' e
            refine ih w7 (seen ++ [j]) a2 (n + 1) c2 (by omega) ((hi2.frm e6 id).frm F7 (k7 (hi2.frm e6 id).blk (by simp [tyO]))) ((h2.ext e6).frm F7 (k7 (h2.ext e6).1 (by simp [tyO]))) (Frm.trans E6 F7 fun k hk' e => by have := hk k e; omega) (by simp; omega) hsl' ho7 fun k hk' => (hb7 k hk').elim (hk k) fun h => Nat.le_trans E6.size h
          · rename_i hnz
            rw [if_neg hnz, List.append_nil] at hfm
            rw [← hfm] at ho2
            exact ih w2 (seen ++ [j]) a n c (by omega) hi2 h2 E2 (by simp; omega) hsl' ho2 hk
        · exact .inr ⟨w2, hr, fin w2 seen a n c (hi.frm e2 id) hall (E.trans e2) (ho.ext e2) hk⟩
    refine key _ w1 [] none 0 0 (Nat.le_refl _) hi (h.ext E1) (E0.trans E1) (Nat.zero_le _) ?_ (by simpa using Own.nil) (fun k hk => by cases hk)
    have : unseen m.length [] = m.length := by unfold unseen; rw [List.filter_eq_self.2 (by simp), List.length_range]
    simp [this]
  have key : ∀ m i w' M, i + m = n → Ext w w' → MapIs vs w' b M → (∀ w', MapIs vs w' b (sumOn M (am.drop i)) → Ext w w' → ∃ (it1 : Nat), ∃ w6, (Instr.range 56 (.map (some b))).run Pg w' = .ok (.pointer (some ⟨it1, 0, none⟩)) w6 ∧ ∃ k, drawers_sums.l2 Q it1 k none 0 0 w6) → drawers_sums.l1 Q a n b (m + 1) (i : Nat) w' := by
    intro m
    induction m with
    | zero =>
      intro i w' M hi E hM hQ
      unfold drawers_sums.l1
      rw [List.drop_of_length_le (by have := hr.1; omega)] at hQ
      exact ifb_df (by omega) (hQ _ hM E)
    | succ m ih =>
      intro i w' M hi E hM hQ
      unfold drawers_sums.l1
      refine ifb_dt (by omega) ((hr.ext E).ix (by omega) (by omega) fun a0 x ha hx hc => ⟨x, hc, al_f E fun b2 w3 hb2 hat2 E3 e3 _ => sb_f E3 hat2 hb2 fun w4 hat4 E4 f4 => ?_⟩)
      simp only [Int.toNat_natCast] at hx
      obtain ⟨hl, hx'⟩ := List.getElem?_eq_some_iff.1 hx
      rw [List.drop_eq_getElem_cons hl, hx'] at hQ
      simp only [sumOn] at hQ
      have hM4 : MapIs vs w4 b M := (hM.ext e3).frm f4 fun e => map_ne (hM.ext e3) hat2 e.symm
      rw [wrap_succ (n := n) (by omega) (by omega) (by simp only [maxLen]; omega)]
      obtain ⟨w5, r5, h5, F5⟩ := mapUpdate_run keysStr hM4 x.Unit (wr (getM M x.Unit + x.N))
      refine ⟨_, lookup_run keysStr hM4 x.Unit, w5, r5, ?_⟩
      exact ih (i + 1) w5 _ (by omega) (Frm.trans E4 F5 fun k hk e => by omega) h5 hQ
  exact key n 0 w1 [] (by omega) E (MapIs.new hat) fun w' h E' => fin w' (by simpa using h) E'
end Go.Proofs.YtcbijkakoepglaaGreat
namespace Go.Proofs.YtcbijkakoepglaaGreat
open Go Go.Wx
set_option maxRecDepth 100000
def drawers_Ledger_Trial.R (Q : Option Addr → Nat → Nat → World → Prop) (l : Option Addr) (day : Int) (w : World) : Prop := (
 Ifb l.isNone
 (Q none 0 0 w)
 (NN l fun p1 =>
 LdSl w (Addr.add p1 4) fun x1_a x1_n x1_c =>
 Cl Pg 84 #[vl x1_a x1_n x1_c, vi day] w (fun v w1 => ∃ (r1 : Option Nat), v = .map r1 ∧ Cl Pg 70 #[.map r1] w1 (fun v w2 => ∃ r2_a r2_n r2_c, v = vl r2_a r2_n r2_c ∧ Q r2_a r2_n r2_c w2))))
theorem drawers_Ledger_Trial.ok {Q : Option Addr → Nat → Nat → World → Prop} {l : Option Addr} {day : Int} {w : World} (h : drawers_Ledger_Trial.R Q l day w) : Cl Pg 25 #[vP l, vi day] w (fun v w' => ∃ r0a r0n r0c, v = vl r0a r0n r0c ∧ Q r0a r0n r0c w') := by
 refine calls_args (args := [vP l, vi day]) Tryz.func25 ?_
 unfold drawers_Ledger_Trial.R at h
 refine W_regseq <| ps 1 [(4, vl none 0 0)] <| WO_nil <| W_seq <| W_regseq <| ps 1 [(5, vP l)] <| WO_p rfl rfl (v := vb l.isNone) (ex_eqlnil_ptr_l (by kernel_rfl) rfl rfl rfl) <| WO_nil <| ci h (fun h => ?_) fun h => ?_
 exact W_regseq <| ps 1 [(4, vl none 0 0)] <| WO_nil <| W_ret <| seqK_ret <| ret1 (v := vl none 0 0) (t := 4) rfl rfl ⟨_, _, _, rfl, h⟩
 refine W_skip <| W_regseq <| ps 1 [(7, vP l)] <| nn h fun p1 h => ps 2 [(9, vp p1), (10, vp (Addr.add p1 4))] ?_
 obtain ⟨x1_a, x1_n, x1_c, hx1, h⟩ := h
 refine ld1 tk22 hx1 <| ps 1 [(12, vi day)] <| cl h ?_
 rintro _ w1 ⟨r1, rfl, h⟩
 refine cl h ?_
 rintro _ w2 ⟨r2_a, r2_n, r2_c, rfl, h⟩
 exact ps 1 [(4, vl r2_a r2_n r2_c)] <| WO_nil <| W_ret <| ret1 (v := vl r2_a r2_n r2_c) (t := 4) rfl rfl ⟨_, _, _, rfl, h⟩
def drawers_Ledger_Postings.R (Q : Option Addr → Nat → Nat → World → Prop) (l : Option Addr) (w : World) : Prop := (
 Ifb l.isNone
 (Q none 0 0 w)
 (NN l fun p1 =>
 LdSl w (Addr.add p1 4) fun x1_a x1_n x1_c =>
 Cl Pg 85 #[vl x1_a x1_n x1_c] w (fun v w1 => ∃ r1_a r1_n r1_c, v = vl r1_a r1_n r1_c ∧ Q r1_a r1_n r1_c w1)))
theorem drawers_Ledger_Postings.ok {Q : Option Addr → Nat → Nat → World → Prop} {l : Option Addr} {w : World} (h : drawers_Ledger_Postings.R Q l w) : Cl Pg 26 #[vP l] w (fun v w' => ∃ r0a r0n r0c, v = vl r0a r0n r0c ∧ Q r0a r0n r0c w') := by
 refine calls_args (args := [vP l]) Tryz.func26 ?_
 unfold drawers_Ledger_Postings.R at h
 refine W_regseq <| ps 1 [(2, vl none 0 0)] <| WO_nil <| W_seq <| W_regseq <| ps 1 [(3, vP l)] <| WO_p rfl rfl (v := vb l.isNone) (ex_eqlnil_ptr_l (by kernel_rfl) rfl rfl rfl) <| WO_nil <| ci h (fun h => ?_) fun h => ?_
 exact W_regseq <| ps 1 [(2, vl none 0 0)] <| WO_nil <| W_ret <| seqK_ret <| ret1 (v := vl none 0 0) (t := 2) rfl rfl ⟨_, _, _, rfl, h⟩
 refine W_skip <| W_regseq <| ps 1 [(5, vP l)] <| nn h fun p1 h => ps 2 [(7, vp p1), (8, vp (Addr.add p1 4))] ?_
 obtain ⟨x1_a, x1_n, x1_c, hx1, h⟩ := h
 refine ld1 tk22 hx1 <| cl h ?_
 rintro _ w1 ⟨r1_a, r1_n, r1_c, rfl, h⟩
 exact ps 1 [(2, vl r1_a r1_n r1_c)] <| WO_nil <| W_ret <| ret1 (v := vl r1_a r1_n r1_c) (t := 2) rfl rfl ⟨_, _, _, rfl, h⟩
def drawers_Ledger_Value.R (Q : Int → World → Prop) (l : Option Addr) (name : ByteArray) (day : Int) (w : World) : Prop := (
 Ifb l.isNone
 (Q 0 w)
 (NN l fun p1 =>
 Cl Pg 79 #[vp p1, vs name, vi day] w (fun v w1 => ∃ r1, v = vi r1 ∧ Q r1 w1)))
theorem drawers_Ledger_Value.ok {Q : Int → World → Prop} {l : Option Addr} {name : ByteArray} {day : Int} {w : World} (h : drawers_Ledger_Value.R Q l name day w) : Cl Pg 27 #[vP l, vs name, vi day] w (fun v w' => ∃ r0, v = vi r0 ∧ Q r0 w') := by
 refine calls_args (args := [vP l, vs name, vi day]) Tryz.func27 ?_
 unfold drawers_Ledger_Value.R at h
 refine W_regseq <| ps 1 [(6, vi 0)] <| WO_nil <| W_seq <| W_regseq <| ps 1 [(7, vP l)] <| WO_p rfl rfl (v := vb l.isNone) (ex_eqlnil_ptr_l (by kernel_rfl) rfl rfl rfl) <| WO_nil <| ci h (fun h => ?_) fun h => ?_
 exact W_regseq <| ps 1 [(6, vi 0)] <| WO_nil <| W_ret <| seqK_ret <| ret1 (v := vi 0) (t := 6) rfl rfl ⟨_, rfl, h⟩
 refine W_skip <| W_regseq <| ps 1 [(9, vP l)] <| nn h fun p1 h => ps 3 [(11, vp p1), (12, vs name), (13, vi day)] <| cl h ?_
 rintro _ w1 ⟨r1, rfl, h⟩
 exact ps 1 [(6, vi r1)] <| WO_nil <| W_ret <| ret1 (v := vi r1) (t := 6) rfl rfl ⟨_, rfl, h⟩
def drawers_Ledger_Lots.l1 (Q : Option Addr → Nat → Nat → World → Prop) (thing : Int) (x1_a : Option Addr) (x1_n : Nat) : Nat → Option Addr → Nat → Nat → Int → World → Prop
 | 0, _, _, _, _, _ => False
 | nl1 + 1, v1_a, v1_n, v1_c, v2, w1 => (
 Ifb (decide (v2 < ((x1_n : Nat) : Int)))
 (Ix x1_a x1_n v2 fun p2 =>
 LdT TLot.enc w1 (Addr.add p2 (v2.toNat * 10)) fun x2 =>
 Al w1 (.cells #[vi 0, vi 0, vi 0, vi 0, vi 0, vs (ByteArray.mk #[]), vi 0, vi 0, vu 0, vi 0] 45) fun b1 w2 =>
 Sb w2 b1 (.cells #[vi x2.Id, vi x2.Thing, vi x2.Layer, vi x2.Day, vi x2.Due, vs x2.Unit, vi x2.N, vi x2.Left, vu x2.State, vi x2.Bag] 45 (0, 0)) fun w3 =>
 Ifb (x2.Thing == thing)
 (Al w3 (.cells #[vi x2.Id, vi x2.Thing, vi x2.Layer, vi x2.Day, vi x2.Due, vs x2.Unit, vi x2.N, vi x2.Left, vu x2.State, vi x2.Bag] 45) fun b2 w4 =>
 Ap Pg w4 #[46, 46] 46 (vl v1_a v1_n v1_c) (vl (some ⟨b2, 0, none⟩) 1 1) fun a1_a a1_n a1_c w5 =>
 (drawers_Ledger_Lots.l1 Q thing x1_a x1_n nl1) a1_a a1_n a1_c (IntKind.wrap .i64 (v2 + 1)) w5)
 ((drawers_Ledger_Lots.l1 Q thing x1_a x1_n nl1) v1_a v1_n v1_c (IntKind.wrap .i64 (v2 + 1)) w3))
 (Q v1_a v1_n v1_c w1))
def drawers_Ledger_Lots.R (Q : Option Addr → Nat → Nat → World → Prop) (l : Option Addr) (thing : Int) (w : World) : Prop := (
 Ifb l.isNone
 (Q none 0 0 w)
 (NN l fun p1 =>
 LdSl w (Addr.add p1 3) fun x1_a x1_n x1_c =>
 ∃ k, drawers_Ledger_Lots.l1 Q thing x1_a x1_n k none 0 0 0 w))
theorem drawers_Ledger_Lots.ok {Q : Option Addr → Nat → Nat → World → Prop} {l : Option Addr} {thing : Int} {w : World} (h : drawers_Ledger_Lots.R Q l thing w) : Cl Pg 28 #[vP l, vi thing] w (fun v w' => ∃ r0a r0n r0c, v = vl r0a r0n r0c ∧ Q r0a r0n r0c w') := by
 refine calls_args (args := [vP l, vi thing]) Tryz.func28 ?_
 unfold drawers_Ledger_Lots.R at h
 refine W_regseq <| ps 1 [(4, vl none 0 0)] <| WO_nil <| W_seq <| W_regseq <| ps 1 [(8, vP l)] <| WO_p rfl rfl (v := vb l.isNone) (ex_eqlnil_ptr_l (by kernel_rfl) rfl rfl rfl) <| WO_nil <| ci h (fun h => ?_) fun h => ?_
 exact W_regseq <| ps 1 [(4, vl none 0 0)] <| WO_nil <| W_ret <| seqK_ret <| ret1 (v := vl none 0 0) (t := 4) rfl rfl ⟨_, _, _, rfl, h⟩
 refine W_skip <| W_regseq <| ps 1 [(5, vl none 0 0)] <| WO_nil <| W_seq <| W_regseq <| ps 1 [(10, vP l)] <| nn h fun p1 h => ps 2 [(12, vp p1), (13, vp (Addr.add p1 3))] ?_
 obtain ⟨x1_a, x1_n, x1_c, hx1, h⟩ := h
 refine ld1 tk46 hx1 <| ps 2 [(15, vi (x1_n : Nat)), (16, vi 0)] <| WO_nil <| W_block ?_
 obtain ⟨nl1, h⟩ := h
 refine W_loopI (fun k e w1 => ∃ (e0 : Env) (v1_a : Option Addr) (v1_n : Nat) (v1_c : Nat) (v2 : Int), e = upds e0 [(1, vi thing), (5, vl v1_a v1_n v1_c), (14, vl x1_a x1_n x1_c), (15, vi (x1_n : Nat)), (16, vi v2)] ∧ drawers_Ledger_Lots.l1 Q thing x1_a x1_n k v1_a v1_n v1_c v2 w1) nl1 ?_ ?_ ?_
 rintro _ _ ⟨_, _, _, _, _, _, h⟩
 exact h
 exact ⟨_, none, 0, 0, 0, Agree.eq ⟨rfl, rfl, rfl, rfl, rfl, trivial⟩, h⟩
 clear h nl1
 rintro nl1 _ w1 ⟨e0, v1_a, v1_n, v1_c, v2, rfl, h⟩
 unfold drawers_Ledger_Lots.l1 at h
 refine W_regseq <| ps 1 [(17, vb (decide (v2 < ((x1_n : Nat) : Int))))] <| WO_nil <| W_seq <| ci h (fun h => ?_) fun h => ?_
 refine W_skip <| W_seq <| W_block <| W_regseq <| ix slk46 h fun p2 h => ?_
 obtain ⟨x2, hx2, h⟩ := h
 refine ldn tk45 hx2 <| alp h ?_
 intro b1 w2 _ _ hb_b1 h
 refine sb tk45 hb_b1 h ?_
 intro w3 ew hb_ h
 replace hb_b1 := hb_
 refine WO_nil <| W_regseq <| ps 1 [(20, vp ⟨b1, 1, none⟩)] <| lb1 tk3 hb_b1 <| ps 2 [(22, vi thing), (23, vb (x2.Thing == thing))] <| WO_nil <| ci h (fun h => ?_) fun h => ?_
 refine W_reg <| ps 1 [(24, vl v1_a v1_n v1_c)] <| lbn [vi x2.Id, vi x2.Thing, vi x2.Layer, vi x2.Day, vi x2.Due, vs x2.Unit, vi x2.N, vi x2.Left, vu x2.State, vi x2.Bag] tk45 hb_b1 <| als 1 h ?_
 intro b2 w4 _ _ _ h
 refine ap h ?_
 rintro a1_a a1_n a1_c w5 h
 exact ps 1 [(5, vl a1_a a1_n a1_c)] <| WO_nil <| blockK_normal <| W_reg <| ps 2 [(28, vi (IntKind.wrap .i64 (v2 + 1))), (16, vi (IntKind.wrap .i64 (v2 + 1)))] <| WO_nil <| ⟨_, a1_a, a1_n, a1_c, IntKind.wrap .i64 (v2 + 1), Agree.eq ⟨rfl, rfl, rfl, rfl, rfl, trivial⟩, h⟩
 exact W_skip <| blockK_normal <| W_reg <| ps 2 [(28, vi (IntKind.wrap .i64 (v2 + 1))), (16, vi (IntKind.wrap .i64 (v2 + 1)))] <| WO_nil <| ⟨_, v1_a, v1_n, v1_c, IntKind.wrap .i64 (v2 + 1), Agree.eq ⟨rfl, rfl, rfl, rfl, rfl, trivial⟩, h⟩
 exact W_exit <| blockK_hit <| W_regseq <| ps 2 [(29, vl v1_a v1_n v1_c), (4, vl v1_a v1_n v1_c)] <| WO_nil <| W_ret <| ret1 (v := vl v1_a v1_n v1_c) (t := 4) rfl rfl ⟨_, _, _, rfl, h⟩
def drawers_Ledger_Worth.l1 (Q : Int → World → Prop) (l : Option Addr) (day : Int) (r1_a : Option Addr) (r1_n : Nat) : Nat → Int → Int → World → Prop
 | 0, _, _, _ => False
 | nl1 + 1, v1, v2, w3 => (
 Ifb (decide (v2 < ((r1_n : Nat) : Int)))
 (Ix r1_a r1_n v2 fun p1 =>
 LdT TAmount.enc w3 (Addr.add p1 (v2.toNat * 2)) fun x1 =>
 Al w3 (.cells #[vs (ByteArray.mk #[]), vi 0] 58) fun b2 w4 =>
 Sb w4 b2 (.cells #[vs x1.Unit, vi x1.N] 58 (0, 0)) fun w5 =>
 Dr w5 fun w6 =>
 Cl Pg 27 #[vP l, vs x1.Unit, vi day] w6 (fun v w7 => ∃ r2, v = vi r2 ∧ Kp b2 w6 w7 ∧ (drawers_Ledger_Worth.l1 Q l day r1_a r1_n nl1) (IntKind.wrap .i64 (v1 + (IntKind.wrap .i64 (x1.N * r2)))) (IntKind.wrap .i64 (v2 + 1)) w7))
 (Q v1 w3))
def drawers_Ledger_Worth.R (Q : Int → World → Prop) (l : Option Addr) (a : TAccount) (day : Int) (w : World) : Prop := (
 Al w (.cells #[vu a.Kind, vi a.Id] 40) fun b1 w1 =>
 Cl Pg 32 #[vP l, vg [vu a.Kind, vi a.Id], vi day] w1 (fun v w2 => ∃ r1_a r1_n r1_c, v = vl r1_a r1_n r1_c ∧ ∃ k, drawers_Ledger_Worth.l1 Q l day r1_a r1_n k 0 0 w2))
theorem drawers_Ledger_Worth.ok {Q : Int → World → Prop} {l : Option Addr} {a : TAccount} {day : Int} {w : World} (h : drawers_Ledger_Worth.R Q l a day w) : Cl Pg 29 #[vP l, vg (TAccount.enc a), vi day] w (fun v w' => ∃ r0, v = vi r0 ∧ Q r0 w') := by
 refine calls_args (args := [vP l, vg (TAccount.enc a), vi day]) Tryz.func29 ?_
 unfold drawers_Ledger_Worth.R at h
 refine W_regseq <| alp h ?_
 intro b1 w1 _ _ hb_b1 h
 refine ps 1 [(6, vi 0)] <| WO_nil <| W_regseq <| ps 1 [(7, vi 0)] <| WO_nil <| W_seq <| W_regseq <| ps 1 [(10, vP l)] <| lbn [vu a.Kind, vi a.Id] tk40 hb_b1 <| ps 1 [(12, vi day)] <| cl h ?_
 rintro _ w2 ⟨r1_a, r1_n, r1_c, rfl, h⟩
 refine ps 2 [(14, vi (r1_n : Nat)), (15, vi 0)] <| WO_nil <| W_block ?_
 obtain ⟨nl1, h⟩ := h
 refine W_loopI (fun k e w3 => ∃ (e0 : Env) (v1 : Int) (v2 : Int), e = upds e0 [(0, vP l), (2, vi day), (7, vi v1), (13, vl r1_a r1_n r1_c), (14, vi (r1_n : Nat)), (15, vi v2)] ∧ drawers_Ledger_Worth.l1 Q l day r1_a r1_n k v1 v2 w3) nl1 ?_ ?_ ?_
 rintro _ _ ⟨_, _, _, _, h⟩
 exact h
 exact ⟨_, 0, 0, Agree.eq ⟨rfl, rfl, rfl, rfl, rfl, rfl, trivial⟩, h⟩
 clear h nl1
 rintro nl1 _ w3 ⟨e0, v1, v2, rfl, h⟩
 unfold drawers_Ledger_Worth.l1 at h
 refine W_regseq <| ps 1 [(16, vb (decide (v2 < ((r1_n : Nat) : Int))))] <| WO_nil <| W_seq <| ci h (fun h => ?_) fun h => ?_
 refine W_skip <| W_seq <| W_block <| W_regseq <| ix slk53 h fun p1 h => ?_
 obtain ⟨x1, hx1, h⟩ := h
 refine ldn tk58 hx1 <| alp h ?_
 intro b2 w4 _ _ hb_b2 h
 refine sb tk58 hb_b2 h ?_
 intro w5 ew hb_ h
 replace hb_b2 := hb_
 refine WO_nil <| drw folM [[], [], [], [], [], [], [], [5], [2, 5], [2, 5], [2, 5]] [.p 0, .p 1, .l 2, .p 3, .p 4, .l 5, .p 6, .e 7, .p 8, .p 9, .p 10] h ?_
 intro w6 ew h
 replace hb_b2 := dr_keep ew hb_b2
 refine psC 2 [(19, vi v1), (20, vp ⟨b2, 1, none⟩)] <| lb1C tk3 hb_b2 <| psC 2 [(22, vP l), (23, vp ⟨b2, 0, none⟩)] <| lb1C tk9 hb_b2 <| psC 1 [(25, vi day)] <| clC h ?_
 rintro _ w7 ⟨r2, rfl, hk0, h⟩
 replace hb_b2 := kp_at hk0 hb_b2
 refine ⟨AllOk.cons (Pend_ok (ex_load rfl rfl (run_loadVar1 tk3 (cell_blk hb_b2 rfl)))) <| AllOk.nil, ?_⟩
 exact psC 3 [(27, vi (IntKind.wrap .i64 (x1.N * r2))), (28, vi (IntKind.wrap .i64 (v1 + (IntKind.wrap .i64 (x1.N * r2))))), (7, vi (IntKind.wrap .i64 (v1 + (IntKind.wrap .i64 (x1.N * r2)))))] <| WC_nil <| blockK_normal <| W_reg <| ps 2 [(29, vi (IntKind.wrap .i64 (v2 + 1))), (15, vi (IntKind.wrap .i64 (v2 + 1)))] <| WO_nil <| ⟨_, IntKind.wrap .i64 (v1 + (IntKind.wrap .i64 (x1.N * r2))), IntKind.wrap .i64 (v2 + 1), Agree.eq ⟨rfl, rfl, rfl, rfl, rfl, rfl, trivial⟩, h⟩
 exact W_exit <| blockK_hit <| W_regseq <| ps 2 [(30, vi v1), (6, vi v1)] <| WO_nil <| W_ret <| ret1 (v := vi v1) (t := 6) rfl rfl ⟨_, rfl, h⟩
def drawers_Ledger_Balance.R (Q : Int → World → Prop) (l : Option Addr) (a : TAccount) (name : ByteArray) (day : Int) (w : World) : Prop := (
 Al w (.cells #[vu a.Kind, vi a.Id] 40) fun b1 w1 =>
 Ifb l.isNone
 (Q 0 w1)
 (Dr w1 fun w2 =>
 NN l fun p1 =>
 LdSl w2 (Addr.add p1 4) fun x1_a x1_n x1_c =>
 Cl Pg 84 #[vl x1_a x1_n x1_c, vi day] w2 (fun v w3 => ∃ (r1 : Option Nat), v = .map r1 ∧ Kp b1 w2 w3 ∧ ∃ x2, (Instr.lookup 103 (.map r1) (vg [vu a.Kind, vi a.Id, vs name]) false).run Pg w3 = .ok (vi x2) w3 ∧
 Q x2 w3)))
theorem drawers_Ledger_Balance.ok {Q : Int → World → Prop} {l : Option Addr} {a : TAccount} {name : ByteArray} {day : Int} {w : World} (h : drawers_Ledger_Balance.R Q l a name day w) : Cl Pg 48 #[vP l, vg (TAccount.enc a), vs name, vi day] w (fun v w' => ∃ r0, v = vi r0 ∧ Q r0 w') := by
 refine calls_args (args := [vP l, vg (TAccount.enc a), vs name, vi day]) Tryz.func48 ?_
 unfold drawers_Ledger_Balance.R at h
 refine W_regseq <| alp h ?_
 intro b1 w1 _ _ hb_b1 h
 refine ps 1 [(8, vi 0)] <| WO_nil <| W_seq <| W_regseq <| ps 1 [(9, vP l)] <| WO_p rfl rfl (v := vb l.isNone) (ex_eqlnil_ptr_l (by kernel_rfl) rfl rfl rfl) <| WO_nil <| ci h (fun h => ?_) fun h => ?_
 exact W_regseq <| ps 1 [(8, vi 0)] <| WO_nil <| W_ret <| seqK_ret <| ret1 (v := vi 0) (t := 8) rfl rfl ⟨_, rfl, h⟩
 refine W_skip <| drs folM [[], [], [], [], [], [], [4], [], [], [7], [4, 7], [4, 7, 10]] [.p 0, .p 1, .p 2, .p 3, .l 4, .p 5, .l 7, .p 8, .p 9, .e 6, .l 10, .p 11] h ?_
 intro w2 ew h
 replace hb_b1 := dr_keep ew hb_b1
 refine psC 1 [(11, vP l)] <| nnC h fun p1 h => psC 2 [(13, vp p1), (14, vp (Addr.add p1 4))] ?_
 obtain ⟨x1_a, x1_n, x1_c, hx1, h⟩ := h
 refine ld1C tk22 hx1 <| psC 1 [(16, vi day)] ?_
 refine lbnC [vu a.Kind, vi a.Id] tk40 hb_b1 <| psC 2 [(19, vs name), (20, vg [vu a.Kind, vi a.Id, vs name])] <| clC h ?_
 rintro _ w3 ⟨r1, rfl, hk0, h⟩
 replace hb_b1 := kp_at hk0 hb_b1
 refine ⟨AllOk.cons (Pend_ok (ex_load rfl rfl (run_loadVarN tk40 (vs := [vu a.Kind, vi a.Id]) rfl (cells_blk hb_b1 rfl)))) <| AllOk.nil, ?_⟩
 obtain ⟨x2, hlk1, h⟩ := h
 exact WC_l rfl rfl rfl (ex_lookup rfl rfl rfl hlk1) <| psC 1 [(8, vi x2)] <| WC_nil <| W_ret <| ret1 (v := vi x2) (t := 8) rfl rfl ⟨_, rfl, h⟩
def drawers_Ledger_Balances.l1 (Q : Option Addr → Nat → Nat → World → Prop) (a : TAccount) (b1 : Nat) (r1_a : Option Addr) (r1_n : Nat) : Nat → Option Addr → Nat → Nat → Int → World → Prop
 | 0, _, _, _, _, _ => False
 | nl1 + 1, v1_a, v1_n, v1_c, v2, w3 => (
 Ifb (decide (v2 < ((r1_n : Nat) : Int)))
 (Ix r1_a r1_n v2 fun p1 =>
 LdT TTrialLine.enc w3 (Addr.add p1 (v2.toNat * 4)) fun x1 =>
 Al w3 (.cells #[vu 0, vi 0, vs (ByteArray.mk #[]), vi 0] 49) fun b2 w4 =>
 Sb w4 b2 (.cells #[vu x1.Account_Kind, vi x1.Account_Id, vs x1.Unit, vi x1.N] 49 (0, 0)) fun w5 =>
 Ifb ((x1.Account_Kind == a.Kind) && ((x1.Account_Id == a.Id) && true))
 (Al w5 (.cells #[vs x1.Unit, vi x1.N] 58) fun b3 w6 =>
 Ap Pg w6 #[53, 53] 53 (vl v1_a v1_n v1_c) (vl (some ⟨b3, 0, none⟩) 1 1) fun a1_a a1_n a1_c w7 =>
 Kp b1 w6 w7 ∧ (drawers_Ledger_Balances.l1 Q a b1 r1_a r1_n nl1) a1_a a1_n a1_c (IntKind.wrap .i64 (v2 + 1)) w7)
 ((drawers_Ledger_Balances.l1 Q a b1 r1_a r1_n nl1) v1_a v1_n v1_c (IntKind.wrap .i64 (v2 + 1)) w5))
 (Q v1_a v1_n v1_c w3))
def drawers_Ledger_Balances.R (Q : Option Addr → Nat → Nat → World → Prop) (l : Option Addr) (a : TAccount) (day : Int) (w : World) : Prop := (
 Al w (.cells #[vu a.Kind, vi a.Id] 40) fun b1 w1 =>
 Cl Pg 25 #[vP l, vi day] w1 (fun v w2 => ∃ r1_a r1_n r1_c, v = vl r1_a r1_n r1_c ∧ Kp b1 w1 w2 ∧ ∃ k, drawers_Ledger_Balances.l1 Q a b1 r1_a r1_n k none 0 0 0 w2))
theorem drawers_Ledger_Balances.ok {Q : Option Addr → Nat → Nat → World → Prop} {l : Option Addr} {a : TAccount} {day : Int} {w : World} (h : drawers_Ledger_Balances.R Q l a day w) : Cl Pg 32 #[vP l, vg (TAccount.enc a), vi day] w (fun v w' => ∃ r0a r0n r0c, v = vl r0a r0n r0c ∧ Q r0a r0n r0c w') := by
 refine calls_args (args := [vP l, vg (TAccount.enc a), vi day]) Tryz.func32 ?_
 unfold drawers_Ledger_Balances.R at h
 refine W_regseq <| alp h ?_
 intro b1 w1 _ _ hb_b1 h
 refine ps 1 [(6, vl none 0 0)] <| WO_nil <| W_regseq <| ps 1 [(7, vl none 0 0)] <| WO_nil <| W_seq <| W_regseq <| ps 2 [(10, vP l), (11, vi day)] <| cl h ?_
 rintro _ w2 ⟨r1_a, r1_n, r1_c, rfl, hk0, h⟩
 replace hb_b1 := kp_at hk0 hb_b1
 refine ps 2 [(13, vi (r1_n : Nat)), (14, vi 0)] <| WO_nil <| W_block ?_
 obtain ⟨nl1, h⟩ := h
 refine W_loopI (fun k e w3 => ∃ (e0 : Env) (v1_a : Option Addr) (v1_n : Nat) (v1_c : Nat) (v2 : Int), e = upds e0 [(4, vp ⟨b1, 0, none⟩), (7, vl v1_a v1_n v1_c), (12, vl r1_a r1_n r1_c), (13, vi (r1_n : Nat)), (14, vi v2)] ∧ w3.heap[b1]? = some (.cells #[vu a.Kind, vi a.Id] 40 (0, 0)) ∧ drawers_Ledger_Balances.l1 Q a b1 r1_a r1_n k v1_a v1_n v1_c v2 w3) nl1 ?_ ?_ ?_
 rintro _ _ ⟨_, _, _, _, _, _, _, h⟩
 exact h
 exact ⟨_, none, 0, 0, 0, Agree.eq ⟨rfl, rfl, rfl, rfl, rfl, trivial⟩, hb_b1, h⟩
 clear h nl1 hb_b1
 rintro nl1 _ w3 ⟨e0, v1_a, v1_n, v1_c, v2, rfl, hb_b1, h⟩
 unfold drawers_Ledger_Balances.l1 at h
 refine W_regseq <| ps 1 [(15, vb (decide (v2 < ((r1_n : Nat) : Int))))] <| WO_nil <| W_seq <| ci h (fun h => ?_) fun h => ?_
 refine W_skip <| W_seq <| W_block <| W_regseq <| ix slk24 h fun p1 h => ?_
 obtain ⟨x1, hx1, h⟩ := h
 refine ldn tk49 hx1 <| alp h ?_
 intro b2 w4 eb ew hb_b2 h
 have old_hb_b1 := hb_b1
 replace hb_b1 := al_keep ew hb_b1
 have ne_b1_b2 : b1 ≠ b2 := blk_ne old_hb_b1 eb
 clear old_hb_b1
 clear eb ew
 refine sb tk49 hb_b2 h ?_
 intro w5 ew hb_ h
 replace hb_b1 := sb_keep ew ne_b1_b2 hb_b1
 replace hb_b2 := hb_
 refine WO_nil <| W_regseq <| ps 1 [(18, vp ⟨b2, 0, none⟩)] <| lbn [vu x1.Account_Kind, vi x1.Account_Id] tk40 hb_b2 <| lbn [vu a.Kind, vi a.Id] tk40 hb_b1 <| WO_pw rfl rfl (v := vb ((x1.Account_Kind == a.Kind) && ((x1.Account_Id == a.Id) && true))) (ex_eqlst (by kernel_rfl) (fun w => eqI40 (d := 9998)) rfl rfl rfl) <| WO_nil <| ci h (fun h => ?_) fun h => ?_
 refine W_reg <| ps 2 [(22, vl v1_a v1_n v1_c), (23, vp ⟨b2, 2, none⟩)] <| lb1 tk9 hb_b2 <| ps 1 [(25, vp ⟨b2, 3, none⟩)] <| lb1 tk3 hb_b2 <| ps 1 [(27, vg [vs x1.Unit, vi x1.N])] <| als 1 h ?_
 intro b3 w6 eb ew hb_b3 h
 replace hb_b1 := al_keep ew hb_b1
 clear eb ew hb_b3
 refine ap h ?_
 rintro a1_a a1_n a1_c w7 ⟨hk0, h⟩
 replace hb_b1 := kp_at hk0 hb_b1
 exact ps 1 [(7, vl a1_a a1_n a1_c)] <| WO_nil <| blockK_normal <| W_reg <| ps 2 [(30, vi (IntKind.wrap .i64 (v2 + 1))), (14, vi (IntKind.wrap .i64 (v2 + 1)))] <| WO_nil <| ⟨_, a1_a, a1_n, a1_c, IntKind.wrap .i64 (v2 + 1), Agree.eq ⟨rfl, rfl, rfl, rfl, rfl, trivial⟩, hb_b1, h⟩
 exact W_skip <| blockK_normal <| W_reg <| ps 2 [(30, vi (IntKind.wrap .i64 (v2 + 1))), (14, vi (IntKind.wrap .i64 (v2 + 1)))] <| WO_nil <| ⟨_, v1_a, v1_n, v1_c, IntKind.wrap .i64 (v2 + 1), Agree.eq ⟨rfl, rfl, rfl, rfl, rfl, trivial⟩, hb_b1, h⟩
 exact W_exit <| blockK_hit <| W_regseq <| ps 2 [(31, vl v1_a v1_n v1_c), (6, vl v1_a v1_n v1_c)] <| WO_nil <| W_ret <| ret1 (v := vl v1_a v1_n v1_c) (t := 6) rfl rfl ⟨_, _, _, rfl, h⟩
def drawers_Ledger_Due.R (Q : Option Addr → Nat → Nat → World → Prop) (l : Option Addr) (until_ : Int) (w : World) : Prop := (
 Ifb l.isNone
 (Q none 0 0 w)
 (NN l fun p1 =>
 Cl Pg 75 #[vp p1, vi until_] w (fun v w1 => ∃ r1_a r1_n r1_c, v = vl r1_a r1_n r1_c ∧ Q r1_a r1_n r1_c w1)))
theorem drawers_Ledger_Due.ok {Q : Option Addr → Nat → Nat → World → Prop} {l : Option Addr} {until_ : Int} {w : World} (h : drawers_Ledger_Due.R Q l until_ w) : Cl Pg 52 #[vP l, vi until_] w (fun v w' => ∃ r0a r0n r0c, v = vl r0a r0n r0c ∧ Q r0a r0n r0c w') := by
 refine calls_args (args := [vP l, vi until_]) Tryz.func52 ?_
 unfold drawers_Ledger_Due.R at h
 refine W_regseq <| ps 1 [(4, vl none 0 0)] <| WO_nil <| W_seq <| W_regseq <| ps 1 [(5, vP l)] <| WO_p rfl rfl (v := vb l.isNone) (ex_eqlnil_ptr_l (by kernel_rfl) rfl rfl rfl) <| WO_nil <| ci h (fun h => ?_) fun h => ?_
 exact W_regseq <| ps 1 [(4, vl none 0 0)] <| WO_nil <| W_ret <| seqK_ret <| ret1 (v := vl none 0 0) (t := 4) rfl rfl ⟨_, _, _, rfl, h⟩
 refine W_skip <| W_regseq <| ps 1 [(7, vP l)] <| nn h fun p1 h => ps 2 [(9, vp p1), (10, vi until_)] <| cl h ?_
 rintro _ w1 ⟨r1_a, r1_n, r1_c, rfl, h⟩
 exact ps 1 [(4, vl r1_a r1_n r1_c)] <| WO_nil <| W_ret <| ret1 (v := vl r1_a r1_n r1_c) (t := 4) rfl rfl ⟨_, _, _, rfl, h⟩
def drawers_Ledger_Term.R (Q : Int → World → Prop) (l : Option Addr) (name : ByteArray) (n : Int) (day : Int) (w : World) : Prop := (
 Ifb l.isNone
 (Q 0 w)
 (NN l fun p1 =>
 Cl Pg 97 #[vp p1, vs name, vi n, vi day] w (fun v w1 => ∃ r1, v = vi r1 ∧ Q r1 w1)))
theorem drawers_Ledger_Term.ok {Q : Int → World → Prop} {l : Option Addr} {name : ByteArray} {n : Int} {day : Int} {w : World} (h : drawers_Ledger_Term.R Q l name n day w) : Cl Pg 55 #[vP l, vs name, vi n, vi day] w (fun v w' => ∃ r0, v = vi r0 ∧ Q r0 w') := by
 refine calls_args (args := [vP l, vs name, vi n, vi day]) Tryz.func55 ?_
 unfold drawers_Ledger_Term.R at h
 refine W_regseq <| ps 1 [(8, vi 0)] <| WO_nil <| W_seq <| W_regseq <| ps 1 [(9, vP l)] <| WO_p rfl rfl (v := vb l.isNone) (ex_eqlnil_ptr_l (by kernel_rfl) rfl rfl rfl) <| WO_nil <| ci h (fun h => ?_) fun h => ?_
 exact W_regseq <| ps 1 [(8, vi 0)] <| WO_nil <| W_ret <| seqK_ret <| ret1 (v := vi 0) (t := 8) rfl rfl ⟨_, rfl, h⟩
 refine W_skip <| W_regseq <| ps 1 [(11, vP l)] <| nn h fun p1 h => ps 4 [(13, vp p1), (14, vs name), (15, vi n), (16, vi day)] <| cl h ?_
 rintro _ w1 ⟨r1, rfl, h⟩
 exact ps 1 [(8, vi r1)] <| WO_nil <| W_ret <| ret1 (v := vi r1) (t := 8) rfl rfl ⟨_, rfl, h⟩
def drawers_Ledger_Statement.j3 (Q : Option Addr → Nat → Nat → World → Prop) (from_ : Int) (until_ : Int) (b1 : Nat) (v1_a : Option Addr) (v1_n : Nat) (v1_c : Nat) (v3 : Int) (kl1 : Option Addr → Nat → Nat → Int → Int → World → Prop) (x2 : TPosting) (v6 : Int) (w7 : World) : Prop := (
 Ifb ((decide (x2.Day ≥ from_)) && (decide (x2.Day ≤ until_)))
 (Al w7 (.cells #[vi v3, vi v6] 97) fun b3 w8 =>
 Ap Pg w8 #[94, 94] 94 (vl v1_a v1_n v1_c) (vl (some ⟨b3, 0, none⟩) 1 1) fun a1_a a1_n a1_c w9 =>
 Kp b1 w8 w9 ∧ kl1 a1_a a1_n a1_c v6 (IntKind.wrap .i64 (v3 + 1)) w9)
 (kl1 v1_a v1_n v1_c v6 (IntKind.wrap .i64 (v3 + 1)) w7))
def drawers_Ledger_Statement.j2 (Q : Option Addr → Nat → Nat → World → Prop) (a : TAccount) (from_ : Int) (until_ : Int) (b1 : Nat) (v1_a : Option Addr) (v1_n : Nat) (v1_c : Nat) (v3 : Int) (kl1 : Option Addr → Nat → Nat → Int → Int → World → Prop) (x2 : TPosting) (v5 : Int) (w6 : World) : Prop := (
 Ifb ((x2.To_Kind == a.Kind) && ((x2.To_Id == a.Id) && true))
 (drawers_Ledger_Statement.j3 Q from_ until_ b1 v1_a v1_n v1_c v3 kl1 x2 (IntKind.wrap .i64 (v5 + x2.N)) w6)
 (drawers_Ledger_Statement.j3 Q from_ until_ b1 v1_a v1_n v1_c v3 kl1 x2 v5 w6))
def drawers_Ledger_Statement.j1 (Q : Option Addr → Nat → Nat → World → Prop) (a : TAccount) (from_ : Int) (until_ : Int) (b1 : Nat) (v1_a : Option Addr) (v1_n : Nat) (v1_c : Nat) (v2 : Int) (v3 : Int) (kl1 : Option Addr → Nat → Nat → Int → Int → World → Prop) (x2 : TPosting) (v4 : Bool) (w5 : World) : Prop := (
 Ifb v4
 (kl1 v1_a v1_n v1_c v2 (IntKind.wrap .i64 (v3 + 1)) w5)
 (Ifb ((x2.From_Kind == a.Kind) && ((x2.From_Id == a.Id) && true))
 (drawers_Ledger_Statement.j2 Q a from_ until_ b1 v1_a v1_n v1_c v3 kl1 x2 (IntKind.wrap .i64 (v2 - x2.N)) w5)
 (drawers_Ledger_Statement.j2 Q a from_ until_ b1 v1_a v1_n v1_c v3 kl1 x2 v2 w5)))
def drawers_Ledger_Statement.l1 (Q : Option Addr → Nat → Nat → World → Prop) (a : TAccount) (name : ByteArray) (from_ : Int) (until_ : Int) (b1 : Nat) (x1_a : Option Addr) (x1_n : Nat) : Nat → Option Addr → Nat → Nat → Int → Int → World → Prop
 | 0, _, _, _, _, _, _ => False
 | nl1 + 1, v1_a, v1_n, v1_c, v2, v3, w2 => (
 Ifb (decide (v3 < ((x1_n : Nat) : Int)))
 (Ix x1_a x1_n v3 fun p2 =>
 LdT TPosting.enc w2 (Addr.add p2 (v3.toNat * 9)) fun x2 =>
 Al w2 (.cells #[vi 0, vs (ByteArray.mk #[]), vi 0, vu 0, vi 0, vu 0, vi 0, vu 0, vi 0] 42) fun b2 w3 =>
 Sb w3 b2 (.cells #[vi x2.Day, vs x2.Unit, vi x2.N, vu x2.From_Kind, vi x2.From_Id, vu x2.To_Kind, vi x2.To_Id, vu x2.Why, vi x2.Lot] 42 (0, 0)) fun w4 =>
 Ifb (!strEq x2.Unit name)
 (drawers_Ledger_Statement.j1 Q a from_ until_ b1 v1_a v1_n v1_c v2 v3 (drawers_Ledger_Statement.l1 Q a name from_ until_ b1 x1_a x1_n nl1) x2 true w4)
 (Ifb (!((x2.From_Kind == a.Kind) && ((x2.From_Id == a.Id) && true)))
 (drawers_Ledger_Statement.j1 Q a from_ until_ b1 v1_a v1_n v1_c v2 v3 (drawers_Ledger_Statement.l1 Q a name from_ until_ b1 x1_a x1_n nl1) x2 (!((x2.To_Kind == a.Kind) && ((x2.To_Id == a.Id) && true))) w4)
 (drawers_Ledger_Statement.j1 Q a from_ until_ b1 v1_a v1_n v1_c v2 v3 (drawers_Ledger_Statement.l1 Q a name from_ until_ b1 x1_a x1_n nl1) x2 false w4)))
 (Q v1_a v1_n v1_c w2))
def drawers_Ledger_Statement.R (Q : Option Addr → Nat → Nat → World → Prop) (l : Option Addr) (a : TAccount) (name : ByteArray) (from_ : Int) (until_ : Int) (w : World) : Prop := (
 Al w (.cells #[vu a.Kind, vi a.Id] 40) fun b1 w1 =>
 Ifb l.isNone
 (Q none 0 0 w1)
 (NN l fun p1 =>
 LdSl w1 (Addr.add p1 4) fun x1_a x1_n x1_c =>
 ∃ k, drawers_Ledger_Statement.l1 Q a name from_ until_ b1 x1_a x1_n k none 0 0 0 0 w1))
theorem drawers_Ledger_Statement.ok {Q : Option Addr → Nat → Nat → World → Prop} {l : Option Addr} {a : TAccount} {name : ByteArray} {from_ : Int} {until_ : Int} {w : World} (h : drawers_Ledger_Statement.R Q l a name from_ until_ w) : Cl Pg 53 #[vP l, vg (TAccount.enc a), vs name, vi from_, vi until_] w (fun v w' => ∃ r0a r0n r0c, v = vl r0a r0n r0c ∧ Q r0a r0n r0c w') := by
 refine calls_args (args := [vP l, vg (TAccount.enc a), vs name, vi from_, vi until_]) Tryz.func53 ?_
 unfold drawers_Ledger_Statement.R at h
 refine W_regseq <| alp h ?_
 intro b1 w1 _ _ hb_b1 h
 refine ps 1 [(10, vl none 0 0)] <| WO_nil <| W_seq <| W_regseq <| ps 1 [(15, vP l)] <| WO_p rfl rfl (v := vb l.isNone) (ex_eqlnil_ptr_l (by kernel_rfl) rfl rfl rfl) <| WO_nil <| ci h (fun h => ?_) fun h => ?_
 exact W_regseq <| ps 1 [(10, vl none 0 0)] <| WO_nil <| W_ret <| seqK_ret <| ret1 (v := vl none 0 0) (t := 10) rfl rfl ⟨_, _, _, rfl, h⟩
 refine W_skip <| W_regseq <| ps 1 [(11, vl none 0 0)] <| WO_nil <| W_regseq <| ps 1 [(12, vi 0)] <| WO_nil <| W_seq <| W_regseq <| ps 1 [(17, vP l)] <| nn h fun p1 h => ps 2 [(19, vp p1), (20, vp (Addr.add p1 4))] ?_
 obtain ⟨x1_a, x1_n, x1_c, hx1, h⟩ := h
 refine ld1 tk22 hx1 <| ps 2 [(22, vi (x1_n : Nat)), (23, vi 0)] <| WO_nil <| W_block ?_
 obtain ⟨nl1, h⟩ := h
 refine W_loopI (fun k e w2 => ∃ (e0 : Env) (v1_a : Option Addr) (v1_n : Nat) (v1_c : Nat) (v2 : Int) (v3 : Int), e = upds e0 [(2, vs name), (3, vi from_), (4, vi until_), (6, vp ⟨b1, 0, none⟩), (11, vl v1_a v1_n v1_c), (12, vi v2), (21, vl x1_a x1_n x1_c), (22, vi (x1_n : Nat)), (23, vi v3)] ∧ w2.heap[b1]? = some (.cells #[vu a.Kind, vi a.Id] 40 (0, 0)) ∧ drawers_Ledger_Statement.l1 Q a name from_ until_ b1 x1_a x1_n k v1_a v1_n v1_c v2 v3 w2) nl1 ?_ ?_ ?_
 rintro _ _ ⟨_, _, _, _, _, _, _, _, h⟩
 exact h
 exact ⟨_, none, 0, 0, 0, 0, Agree.eq ⟨rfl, rfl, rfl, rfl, rfl, rfl, rfl, rfl, rfl, trivial⟩, hb_b1, h⟩
 clear h nl1 hb_b1
 rintro nl1 _ w2 ⟨e0, v1_a, v1_n, v1_c, v2, v3, rfl, hb_b1, h⟩
 unfold drawers_Ledger_Statement.l1 at h
 refine W_regseq <| ps 1 [(24, vb (decide (v3 < ((x1_n : Nat) : Int))))] <| WO_nil <| W_seq <| ci h (fun h => ?_) fun h => ?_
 refine W_skip <| W_seq <| W_block <| W_regseq <| ps 1 [(25, vi v3)] <| ix slk22 h fun p2 h => ?_
 obtain ⟨x2, hx2, h⟩ := h
 refine ldn tk42 hx2 <| alp h ?_
 intro b2 w3 eb ew hb_b2 h
 have old_hb_b1 := hb_b1
 replace hb_b1 := al_keep ew hb_b1
 have ne_b1_b2 : b1 ≠ b2 := blk_ne old_hb_b1 eb
 clear old_hb_b1
 clear eb ew
 refine ps 1 [(13, vi v3)] <| sb tk42 hb_b2 h ?_
 intro w4 ew hb_ h
 replace hb_b1 := sb_keep ew ne_b1_b2 hb_b1
 replace hb_b2 := hb_
 refine WO_nil <| W_seq <| W_join (fun e w5 => ∃ (e0 : Env) (v4 : Bool), e = upds e0 [(2, vs name), (3, vi from_), (4, vi until_), (6, vp ⟨b1, 0, none⟩), (11, vl v1_a v1_n v1_c), (12, vi v2), (13, vi v3), (14, vp ⟨b2, 0, none⟩), (21, vl x1_a x1_n x1_c), (22, vi (x1_n : Nat)), (23, vi v3), (43, vb v4)] ∧ w5.heap[b1]? = some (.cells #[vu a.Kind, vi a.Id] 40 (0, 0)) ∧ w5.heap[b2]? = some (.cells #[vi x2.Day, vs x2.Unit, vi x2.N, vu x2.From_Kind, vi x2.From_Id, vu x2.To_Kind, vi x2.To_Id, vu x2.Why, vi x2.Lot] 42 (0, 0)) ∧ b1 ≠ b2 ∧ drawers_Ledger_Statement.j1 Q a from_ until_ b1 v1_a v1_n v1_c v2 v3 (drawers_Ledger_Statement.l1 Q a name from_ until_ b1 x1_a x1_n nl1) x2 v4 w5) ?_ ?_
 refine W_reg <| ps 1 [(28, vp ⟨b2, 1, none⟩)] <| lb1 tk9 hb_b2 <| ps 3 [(30, vs name), (31, vb (!strEq x2.Unit name)), (32, vb (!strEq x2.Unit name))] <| cs 32 h (fun h => ?_) fun h => ?_
 exact ps 11 [(33, undef), (34, undef), (35, undef), (36, undef), (37, undef), (38, undef), (39, undef), (40, undef), (41, undef), (42, undef), (43, vb true)] <| WO_nil <| ⟨_, true, Agree.eq ⟨rfl, rfl, rfl, rfl, rfl, rfl, rfl, rfl, rfl, rfl, rfl, rfl, trivial⟩, hb_b1, hb_b2, ne_b1_b2, h⟩
 refine ps 1 [(33, vp ⟨b2, 3, none⟩)] <| lbn [vu x2.From_Kind, vi x2.From_Id] tk40 hb_b2 <| lbn [vu a.Kind, vi a.Id] tk40 hb_b1 <| WO_pw rfl rfl (v := vb (!((x2.From_Kind == a.Kind) && ((x2.From_Id == a.Id) && true)))) (ex_neqst (by kernel_rfl) (fun w => eqI40 (d := 9998)) rfl rfl rfl) <| ps 1 [(37, vb (!((x2.From_Kind == a.Kind) && ((x2.From_Id == a.Id) && true))))] <| cs 37 h (fun h => ?_) fun h => ?_
 exact ps 1 [(38, vp ⟨b2, 5, none⟩)] <| lbn [vu x2.To_Kind, vi x2.To_Id] tk40 hb_b2 <| lbn [vu a.Kind, vi a.Id] tk40 hb_b1 <| WO_pw rfl rfl (v := vb (!((x2.To_Kind == a.Kind) && ((x2.To_Id == a.Id) && true)))) (ex_neqst (by kernel_rfl) (fun w => eqI40 (d := 9998)) rfl rfl rfl) <| ps 2 [(42, vb (!((x2.To_Kind == a.Kind) && ((x2.To_Id == a.Id) && true)))), (43, vb (!((x2.To_Kind == a.Kind) && ((x2.To_Id == a.Id) && true))))] <| WO_nil <| ⟨_, (!((x2.To_Kind == a.Kind) && ((x2.To_Id == a.Id) && true))), Agree.eq ⟨rfl, rfl, rfl, rfl, rfl, rfl, rfl, rfl, rfl, rfl, rfl, rfl, trivial⟩, hb_b1, hb_b2, ne_b1_b2, h⟩
 exact ps 6 [(38, undef), (39, undef), (40, undef), (41, undef), (42, vb false), (43, vb false)] <| WO_nil <| ⟨_, false, Agree.eq ⟨rfl, rfl, rfl, rfl, rfl, rfl, rfl, rfl, rfl, rfl, rfl, rfl, trivial⟩, hb_b1, hb_b2, ne_b1_b2, h⟩
 clear h hb_b1 hb_b2 ne_b1_b2
 rintro _ w5 ⟨e0, v4, rfl, hb_b1, hb_b2, ne_b1_b2, h⟩
 unfold drawers_Ledger_Statement.j1 at h
 refine ci h (fun h => ?_) fun h => ?_
 exact W_exit <| blockK_hit <| W_reg <| ps 2 [(76, vi (IntKind.wrap .i64 (v3 + 1))), (23, vi (IntKind.wrap .i64 (v3 + 1)))] <| WO_nil <| ⟨_, v1_a, v1_n, v1_c, v2, IntKind.wrap .i64 (v3 + 1), Agree.eq ⟨rfl, rfl, rfl, rfl, rfl, rfl, rfl, rfl, rfl, trivial⟩, hb_b1, h⟩
 refine W_skip <| W_join (fun e w6 => ∃ (e0 : Env) (v5 : Int), e = upds e0 [(2, vs name), (3, vi from_), (4, vi until_), (6, vp ⟨b1, 0, none⟩), (11, vl v1_a v1_n v1_c), (12, vi v5), (13, vi v3), (14, vp ⟨b2, 0, none⟩), (21, vl x1_a x1_n x1_c), (22, vi (x1_n : Nat)), (23, vi v3)] ∧ w6.heap[b1]? = some (.cells #[vu a.Kind, vi a.Id] 40 (0, 0)) ∧ w6.heap[b2]? = some (.cells #[vi x2.Day, vs x2.Unit, vi x2.N, vu x2.From_Kind, vi x2.From_Id, vu x2.To_Kind, vi x2.To_Id, vu x2.Why, vi x2.Lot] 42 (0, 0)) ∧ b1 ≠ b2 ∧ drawers_Ledger_Statement.j2 Q a from_ until_ b1 v1_a v1_n v1_c v3 (drawers_Ledger_Statement.l1 Q a name from_ until_ b1 x1_a x1_n nl1) x2 v5 w6) ?_ ?_
 refine W_regseq <| ps 1 [(44, vp ⟨b2, 3, none⟩)] <| lbn [vu x2.From_Kind, vi x2.From_Id] tk40 hb_b2 <| lbn [vu a.Kind, vi a.Id] tk40 hb_b1 <| WO_pw rfl rfl (v := vb ((x2.From_Kind == a.Kind) && ((x2.From_Id == a.Id) && true))) (ex_eqlst (by kernel_rfl) (fun w => eqI40 (d := 9998)) rfl rfl rfl) <| WO_nil <| ci h (fun h => ?_) fun h => ?_
 exact W_reg <| ps 2 [(48, vi v2), (49, vp ⟨b2, 2, none⟩)] <| lb1 tk3 hb_b2 <| ps 2 [(51, vi (IntKind.wrap .i64 (v2 - x2.N))), (12, vi (IntKind.wrap .i64 (v2 - x2.N)))] <| WO_nil <| ⟨_, IntKind.wrap .i64 (v2 - x2.N), Agree.eq ⟨rfl, rfl, rfl, rfl, rfl, rfl, rfl, rfl, rfl, rfl, rfl, trivial⟩, hb_b1, hb_b2, ne_b1_b2, h⟩
 exact W_skip <| ⟨_, v2, Agree.eq ⟨rfl, rfl, rfl, rfl, rfl, rfl, rfl, rfl, rfl, rfl, rfl, trivial⟩, hb_b1, hb_b2, ne_b1_b2, h⟩
 clear h hb_b1 hb_b2 ne_b1_b2
 rintro _ w6 ⟨e0, v5, rfl, hb_b1, hb_b2, ne_b1_b2, h⟩
 unfold drawers_Ledger_Statement.j2 at h
 refine W_join (fun e w7 => ∃ (e0 : Env) (v6 : Int), e = upds e0 [(2, vs name), (3, vi from_), (4, vi until_), (6, vp ⟨b1, 0, none⟩), (11, vl v1_a v1_n v1_c), (12, vi v6), (13, vi v3), (14, vp ⟨b2, 0, none⟩), (21, vl x1_a x1_n x1_c), (22, vi (x1_n : Nat)), (23, vi v3)] ∧ w7.heap[b1]? = some (.cells #[vu a.Kind, vi a.Id] 40 (0, 0)) ∧ w7.heap[b2]? = some (.cells #[vi x2.Day, vs x2.Unit, vi x2.N, vu x2.From_Kind, vi x2.From_Id, vu x2.To_Kind, vi x2.To_Id, vu x2.Why, vi x2.Lot] 42 (0, 0)) ∧ b1 ≠ b2 ∧ drawers_Ledger_Statement.j3 Q from_ until_ b1 v1_a v1_n v1_c v3 (drawers_Ledger_Statement.l1 Q a name from_ until_ b1 x1_a x1_n nl1) x2 v6 w7) ?_ ?_
 refine W_regseq <| ps 1 [(52, vp ⟨b2, 5, none⟩)] <| lbn [vu x2.To_Kind, vi x2.To_Id] tk40 hb_b2 <| lbn [vu a.Kind, vi a.Id] tk40 hb_b1 <| WO_pw rfl rfl (v := vb ((x2.To_Kind == a.Kind) && ((x2.To_Id == a.Id) && true))) (ex_eqlst (by kernel_rfl) (fun w => eqI40 (d := 9998)) rfl rfl rfl) <| WO_nil <| ci h (fun h => ?_) fun h => ?_
 exact W_reg <| ps 2 [(56, vi v5), (57, vp ⟨b2, 2, none⟩)] <| lb1 tk3 hb_b2 <| ps 2 [(59, vi (IntKind.wrap .i64 (v5 + x2.N))), (12, vi (IntKind.wrap .i64 (v5 + x2.N)))] <| WO_nil <| ⟨_, IntKind.wrap .i64 (v5 + x2.N), Agree.eq ⟨rfl, rfl, rfl, rfl, rfl, rfl, rfl, rfl, rfl, rfl, rfl, trivial⟩, hb_b1, hb_b2, ne_b1_b2, h⟩
 exact W_skip <| ⟨_, v5, Agree.eq ⟨rfl, rfl, rfl, rfl, rfl, rfl, rfl, rfl, rfl, rfl, rfl, trivial⟩, hb_b1, hb_b2, ne_b1_b2, h⟩
 clear h hb_b1 hb_b2 ne_b1_b2
 rintro _ w7 ⟨e0, v6, rfl, hb_b1, hb_b2, ne_b1_b2, h⟩
 unfold drawers_Ledger_Statement.j3 at h
 refine W_regseq <| ps 1 [(60, vp ⟨b2, 0, none⟩)] <| lb1 tk3 hb_b2 <| ps 3 [(62, vi from_), (63, vb (decide (x2.Day ≥ from_))), (64, vb (decide (x2.Day ≥ from_)))] <| WO_conv (fun e w_ => ∃ (e0 : Env), e = upds e0 [(2, vs name), (3, vi from_), (4, vi until_), (6, vp ⟨b1, 0, none⟩), (11, vl v1_a v1_n v1_c), (12, vi v6), (13, vi v3), (21, vl x1_a x1_n x1_c), (22, vi (x1_n : Nat)), (23, vi v3), (69, vb ((decide (x2.Day ≥ from_)) && (decide (x2.Day ≤ until_))))] ∧ w7 = w_) ?_ ?_
 clear h
 refine WO_case 64 (b := decide (x2.Day ≥ from_)) rfl (fun hb0 => ?_) (fun hb0 => ?_)
 exact ps 1 [(65, vp ⟨b2, 0, none⟩)] <| lb1 tk3 hb_b2 <| ps 3 [(67, vi until_), (68, vb (decide (x2.Day ≤ until_))), (69, vb (decide (x2.Day ≤ until_)))] <| WO_nil ⟨_, Agree.eq ⟨rfl, rfl, rfl, rfl, rfl, rfl, rfl, rfl, rfl, rfl, (by first | rfl | (simp only [hb0, Bool.true_and, Bool.false_and, Bool.true_or, Bool.false_or, Bool.and_true, Bool.and_false, Bool.or_true, Bool.or_false]; done) | (simp only [hb0]; rfl) | (simp [hb0]; done)), trivial⟩, rfl⟩
 exact ps 5 [(65, undef), (66, undef), (67, undef), (68, undef), (69, vb false)] <| WO_nil ⟨_, Agree.eq ⟨rfl, rfl, rfl, rfl, rfl, rfl, rfl, rfl, rfl, rfl, (by first | rfl | (simp only [hb0, Bool.true_and, Bool.false_and, Bool.true_or, Bool.false_or, Bool.and_true, Bool.and_false, Bool.or_true, Bool.or_false]; done) | (simp only [hb0]; rfl) | (simp [hb0]; done)), trivial⟩, rfl⟩
 rintro _ _ ⟨e0, rfl, rfl⟩
 refine ci h (fun h => ?_) fun h => ?_
 refine W_reg <| ps 4 [(70, vl v1_a v1_n v1_c), (71, vi v3), (72, vi v6), (73, vg [vi v3, vi v6])] <| als 1 h ?_
 intro b3 w8 eb ew hb_b3 h
 replace hb_b1 := al_keep ew hb_b1
 clear eb ew hb_b3
 refine ap h ?_
 rintro a1_a a1_n a1_c w9 ⟨hk0, h⟩
 replace hb_b1 := kp_at hk0 hb_b1
 exact ps 1 [(11, vl a1_a a1_n a1_c)] <| WO_nil <| blockK_normal <| W_reg <| ps 2 [(76, vi (IntKind.wrap .i64 (v3 + 1))), (23, vi (IntKind.wrap .i64 (v3 + 1)))] <| WO_nil <| ⟨_, a1_a, a1_n, a1_c, v6, IntKind.wrap .i64 (v3 + 1), Agree.eq ⟨rfl, rfl, rfl, rfl, rfl, rfl, rfl, rfl, rfl, trivial⟩, hb_b1, h⟩
 exact W_skip <| blockK_normal <| W_reg <| ps 2 [(76, vi (IntKind.wrap .i64 (v3 + 1))), (23, vi (IntKind.wrap .i64 (v3 + 1)))] <| WO_nil <| ⟨_, v1_a, v1_n, v1_c, v6, IntKind.wrap .i64 (v3 + 1), Agree.eq ⟨rfl, rfl, rfl, rfl, rfl, rfl, rfl, rfl, rfl, trivial⟩, hb_b1, h⟩
 exact W_exit <| blockK_hit <| W_regseq <| ps 2 [(77, vl v1_a v1_n v1_c), (10, vl v1_a v1_n v1_c)] <| WO_nil <| W_ret <| ret1 (v := vl v1_a v1_n v1_c) (t := 10) rfl rfl ⟨_, _, _, rfl, h⟩
def drawers_Ledger_Day.R (Q : Int → World → Prop) (l : Option Addr) (w : World) : Prop := (
 Ifb l.isNone
 (Q 0 w)
 (NN l fun p1 =>
 LdI .i64 w p1 fun x1 =>
 Q x1 w))
theorem drawers_Ledger_Day.ok {Q : Int → World → Prop} {l : Option Addr} {w : World} (h : drawers_Ledger_Day.R Q l w) : Cl Pg 44 #[vP l] w (fun v w' => ∃ r0, v = vi r0 ∧ Q r0 w') := by
 refine calls_args (args := [vP l]) Tryz.func44 ?_
 unfold drawers_Ledger_Day.R at h
 refine W_regseq <| ps 1 [(2, vi 0)] <| WO_nil <| W_seq <| W_regseq <| ps 1 [(3, vP l)] <| WO_p rfl rfl (v := vb l.isNone) (ex_eqlnil_ptr_l (by kernel_rfl) rfl rfl rfl) <| WO_nil <| ci h (fun h => ?_) fun h => ?_
 exact W_regseq <| ps 1 [(2, vi 0)] <| WO_nil <| W_ret <| seqK_ret <| ret1 (v := vi 0) (t := 2) rfl rfl ⟨_, rfl, h⟩
 refine W_skip <| W_regseq <| ps 1 [(5, vP l)] <| nn h fun p1 h => ps 2 [(7, vp p1), (8, vp p1)] ?_
 obtain ⟨x1, hx1, h⟩ := h
 exact ld1 tk3 hx1 <| ps 1 [(2, vi x1)] <| WO_nil <| W_ret <| ret1 (v := vi x1) (t := 2) rfl rfl ⟨_, rfl, h⟩
end Go.Proofs.YtcbijkakoepglaaGreat
namespace Go.Proofs.YtcbijkakoepglaaGreat
open Go Go.Wx

/-! ### the plain side -/
def MState.lotsOf (M : MState) (thing : Int) : List TLot := M.lots.filter fun x => x.Thing == thing
def MState.trial (M : MState) (day : Int) : List TTrialLine := linesM (balOn day [] M.postings)
def MState.balance (M : MState) (a : TAccount) (name : ByteArray) (day : Int) : Int := getM (balOn day [] M.postings) ⟨a.Kind, a.Id, name⟩
def isAt (a : TAccount) (x : TTrialLine) : Bool := (x.Account_Kind == a.Kind) && ((x.Account_Id == a.Id) && true)
def MState.balances (M : MState) (a : TAccount) (day : Int) : List TAmount := ((M.trial day).filter (isAt a)).map fun x => ⟨x.Unit, x.N⟩
def worthOn (M : MState) (day : Int) : Int → List TAmount → Int
  | v, [] => v
  | v, x :: xs => worthOn M day (wr (v + wr (x.N * M.value x.Unit day))) xs
def MState.worth (M : MState) (a : TAccount) (day : Int) : Int := worthOn M day 0 (M.balances a day)
def fromAt (a : TAccount) (x : TPosting) : Bool := (x.From_Kind == a.Kind) && ((x.From_Id == a.Id) && true)
def toAt (a : TAccount) (x : TPosting) : Bool := (x.To_Kind == a.Kind) && ((x.To_Id == a.Id) && true)
def stmtOn (a : TAccount) (name : ByteArray) (from_ until_ : Int) : Int → Int → List TPosting → List TStatementLine
  | _, _, [] => []
  | v, i, x :: xs =>
    if !strEq x.Unit name || (!fromAt a x && !toAt a x) then stmtOn a name from_ until_ v (i + 1) xs else
      let v1 := if fromAt a x then wr (v - x.N) else v
      let v2 := if toAt a x then wr (v1 + x.N) else v1
      (if (decide (x.Day ≥ from_)) && (decide (x.Day ≤ until_)) then [⟨i, v2⟩] else []) ++ stmtOn a name from_ until_ v2 (i + 1) xs
def MState.statement (M : MState) (a : TAccount) (name : ByteArray) (from_ until_ : Int) : List TStatementLine := stmtOn a name from_ until_ 0 0 M.postings

theorem encStmt (x : TStatementLine) : x.enc.length = 2 := rfl
theorem linesM_len (m : List (Tplace × Int)) : (linesM m).length ≤ m.length := by
  unfold linesM
  rw [(isort_perm _).length_eq, List.length_map]
  exact List.length_filter_le _ _
theorem trial_len (M : MState) (day : Int) : (M.trial day).length ≤ 2 * M.postings.length := by
  have h1 := linesM_len (balOn day [] M.postings)
  have h2 := balOn_len day M.postings []
  simp only [List.length_nil] at h2
  unfold MState.trial
  omega

/-! ### the contracts -/
section
variable {w : World} {p : Addr} {st : Tstate} {M : MState}
theorem trial_c (h : StRd w p st M) (hS : M.postings.length ≤ 40000) {day : Int} {Q : Option Addr → Nat → Nat → World → Prop}
    (hQ : ∀ a n c w', Own 49 4 TTrialLine.enc w' a n c (M.trial day) → (∀ k, obk a c = some k → w.heap.size ≤ k) → Ext w w' → Q a n c w') : Cl Pg 25 #[vP (some p), vi day] w (fun v w' => ∃ a n c, v = vl a n c ∧ Q a n c w') := by
  refine drawers_Ledger_Trial.ok (ifb_f ⟨_, rfl, _, _, _, h.cells.at 4 rfl, ?_⟩)
  refine balances_c h.postings (by rw [h.postings.1]; omega) fun b w1 hb hm E => ?_
  have hl := balOn_len day M.postings []
  simp only [List.length_nil] at hl
  refine lines_c hm (by omega) fun a n c w2 ho hk E2 => hQ a n c w2 ho (fun k h => Nat.le_trans E.size (hk k h)) (E.trans E2)
theorem postings_c (h : StRd w p st M) (hF : Fits M) {Q : Option Addr → Nat → Nat → World → Prop}
    (hQ : ∀ a n c w', Own 42 9 TPosting.enc w' a n c M.postings → (∀ k, obk a c = some k → w.heap.size ≤ k) → Ext w w' → Q a n c w') : Cl Pg 26 #[vP (some p)] w (fun v w' => ∃ a n c, v = vl a n c ∧ Q a n c w') := by
  refine drawers_Ledger_Postings.ok (ifb_f ⟨_, rfl, _, _, _, h.cells.at 4 rfl, ?_⟩)
  exact clonePosting h.postings (by rw [h.postings.1]; exact hF.postings) fun a c w1 ho hk E => hQ _ _ _ _ ho hk E
theorem lvalue_c (h : StRd w p st M) (hF : Fits M) {name : ByteArray} {day : Int} {Q : Int → World → Prop} (hQ : ∀ w', Ext w w' → Q (M.value name day) w') :
    Cl Pg 27 #[vP (some p), vs name, vi day] w (fun v w' => ∃ r, v = vi r ∧ Q r w') := by
  refine drawers_Ledger_Value.ok (ifb_f ⟨_, rfl, value_c h hF hQ⟩)
theorem lterm_c (h : StRd w p st M) (hF : Fits M) {name : ByteArray} {n day : Int} {Q : Int → World → Prop} (hQ : ∀ w', Ext w w' → Q (M.term name n day) w') :
    Cl Pg 55 #[vP (some p), vs name, vi n, vi day] w (fun v w' => ∃ r, v = vi r ∧ Q r w') := by
  refine drawers_Ledger_Term.ok (ifb_f ⟨_, rfl, term_c h hF hQ⟩)
theorem ldue_c (h : StRd w p st M) (hS : Small M) (hI : IdOk M) {day : Int} {Q : Option Addr → Nat → Nat → World → Prop}
    (hQ : ∀ a n c w', Own 45 10 TLot.enc w' a n c (M.due day) → (∀ k, obk a c = some k → w.heap.size ≤ k) → Ext w w' → Q a n c w') : Cl Pg 52 #[vP (some p), vi day] w (fun v w' => ∃ a n c, v = vl a n c ∧ Q a n c w') := by
  refine drawers_Ledger_Due.ok (ifb_f ⟨_, rfl, due_c h hS.fits hI (Nat.le_trans (List.length_filter_le _ _) hS.lots) hQ⟩)
theorem day_c (h : StRd w p st M) {Q : Int → World → Prop} (hQ : Q M.day w) : Cl Pg 44 #[vP (some p)] w (fun v w' => ∃ r, v = vi r ∧ Q r w') := by
  refine drawers_Ledger_Day.ok (ifb_f ⟨_, rfl, _, h.cells.at 0 rfl, ?_⟩)
  rw [h.day]; exact hQ
theorem balance_c (h : StRd w p st M) (hF : Fits M) {a : TAccount} {name : ByteArray} {day : Int} {Q : Int → World → Prop} (hQ : ∀ w', Ext w w' → Q (M.balance a name day) w') :
    Cl Pg 48 #[vP (some p), vg [vu a.Kind, vi a.Id], vs name, vi day] w (fun v w' => ∃ r, v = vi r ∧ Q r w') := by
  refine drawers_Ledger_Balance.ok (al_f (er w) fun b1 w1 hb1 hat E _ _ => ifb_f (dr_f E fun w2 E2 e2 => ⟨_, rfl, _, _, _, (h.ext E2).cells.at 4 rfl, ?_⟩))
  refine balances_c (h.ext E2).postings (by rw [h.postings.1]; exact hF.postings) fun b w3 hb hm E3 => ⟨E3.blk _ (hat.ext e2).lt id, _, lookup_run keysPlace hm ⟨a.Kind, a.Id, name⟩, hQ _ (E2.ext E3)⟩
theorem lots_c (h : StRd w p st M) (hF : Fits M) {thing : Int} {Q : Option Addr → Nat → Nat → World → Prop}
    (hQ : ∀ a n c w', Own 45 10 TLot.enc w' a n c (M.lotsOf thing) → (∀ k, obk a c = some k → w.heap.size ≤ k) → Ext w w' → Q a n c w') : Cl Pg 28 #[vP (some p), vi thing] w (fun v w' => ∃ a n c, v = vl a n c ∧ Q a n c w') := by
  have hl := h.lots
  have hn : st.lots_n ≤ 1000000 := by rw [hl.1]; exact hF.lots
  refine drawers_Ledger_Lots.ok (ifb_f ⟨_, rfl, _, _, _, h.cells.at 3 rfl, st.lots_n + 1, ?_⟩)
  have key : ∀ m i w' a n c, i + m = st.lots_n → Ext w w' → Own 45 10 TLot.enc w' a n c ((M.lots.take i).filter fun x => x.Thing == thing) → (∀ k, obk a c = some k → w.heap.size ≤ k) → drawers_Ledger_Lots.l1 Q thing st.lots_a st.lots_n (m + 1) a n c (i : Nat) w' := by
    intro m
    induction m with
    | zero =>
      intro i w' a n c hi E ho hk
      unfold drawers_Ledger_Lots.l1
      rw [List.take_of_length_le (by have := hl.1; omega)] at ho
      exact ifb_df (by omega) (hQ _ _ _ _ ho hk E)
    | succ m ih =>
      intro i w' a n c hi E ho hk
      unfold drawers_Ledger_Lots.l1
      refine ifb_dt (by omega) ((hl.ext E).ix (by omega) (by omega) fun a0 x ha hx hc => ⟨x, hc, al_f E fun b1 w2 hb1 hat E2 e2 hn2 => sb_f E2 hat hb1 fun w3 hat E3 f3 => ?_⟩)
      simp only [Int.toNat_natCast] at hx
      have htk : (M.lots.take (i + 1)).filter (fun x => x.Thing == thing) = (M.lots.take i).filter (fun x => x.Thing == thing) ++ if x.Thing == thing then [x] else [] := by
        rw [List.take_succ, hx, List.filter_append]
        simp [List.filter_cons]
      have hn1 : n ≤ i := by rw [ho.1]; exact Nat.le_trans (List.length_filter_le _ _) (by rw [List.length_take]; omega)
      have ho3 : Own 45 10 TLot.enc w3 a n c _ := (ho.ext e2).frm f3 fun k hk' e => (by
        obtain ⟨cur, hc⟩ := ho.at k hk'
        have := hc.lt
        subst e
        omega)
      rw [wrap_succ (n := st.lots_n) (by omega) (by omega) (by simp only [maxLen]; omega)]
      refine ifb ?_
      split
      · rename_i hdue
        rw [if_pos hdue] at htk
        refine al_f E3 fun b2 w4 hb2 hat2 E4 e4 _ => ?_
        refine ap_own ap46 encLot (fun x => oneAll rfl) (ho3.ext e4) (Rd.one (enc := TLot.enc) (sz := 10) x hat2) (by omega) (by simp only [maxLen]; omega) fun a2 c2 w5 ho5 F5 hb5 => ?_
        rw [← htk] at ho5
        exact ih (i + 1) w5 a2 (n + 1) c2 (by omega) (Frm.trans E4 F5 fun k hk' e => by have := hk k e; omega) ho5 fun k hk' => (hb5 k hk').elim (hk k) fun h => Nat.le_trans E4.size h
      · rename_i hdue
        rw [if_neg hdue, List.append_nil] at htk
        rw [← htk] at ho3
        exact ih (i + 1) w3 a n c (by omega) E3 ho3 hk
  exact key _ 0 w none 0 0 (by omega) (er w) (by simpa using Own.nil) (fun k hk => by cases hk)
theorem lbalances_c (h : StRd w p st M) (hS : M.postings.length ≤ 40000) {a : TAccount} {day : Int} {Q : Option Addr → Nat → Nat → World → Prop}
    (hQ : ∀ a2 n c w', Own 58 2 TAmount.enc w' a2 n c (M.balances a day) → (∀ k, obk a2 c = some k → w.heap.size ≤ k) → Ext w w' → Q a2 n c w') : Cl Pg 32 #[vP (some p), vg [vu a.Kind, vi a.Id], vi day] w (fun v w' => ∃ a n c, v = vl a n c ∧ Q a n c w') := by
  refine drawers_Ledger_Balances.ok (al_f (er w) fun b1 w1 hb1 hat E _ _ => trial_c (h.ext E) hS fun ta tn tc w2 ht hkt E2 => ⟨E2.blk _ hat.lt id, tn + 1, ?_⟩)
  have hat2 := hat.ext E2
  have hr := ht.rd encLine
  have htl := trial_len M day
  have hn : tn ≤ 80000 := by have := hr.1; omega
  have key : ∀ m i w' a2 n c, i + m = tn → Ext w2 w' → At w' b1 (.cells #[vu a.Kind, vi a.Id] 40 (0, 0)) → Own 58 2 TAmount.enc w' a2 n c ((((M.trial day).take i).filter (isAt a)).map fun x => ⟨x.Unit, x.N⟩) → (∀ k, obk a2 c = some k → w2.heap.size ≤ k) → drawers_Ledger_Balances.l1 Q a b1 ta tn (m + 1) a2 n c (i : Nat) w' := by
    intro m
    induction m with
    | zero =>
      intro i w' a2 n c hi E' hat' ho hk
      unfold drawers_Ledger_Balances.l1
      rw [List.take_of_length_le (by have := hr.1; omega)] at ho
      exact ifb_df (by omega) (hQ _ _ _ _ ho (fun k h => Nat.le_trans (E.ext E2).size (hk k h)) ((E.ext E2).ext E'))
    | succ m ih =>
      intro i w' a2 n c hi E' hat' ho hk
      unfold drawers_Ledger_Balances.l1
      refine ifb_dt (by omega) ((hr.ext E').ix (by omega) (by omega) fun a0 x ha hx hc => ⟨x, hc, al_f E' fun b2 w4 hb2 hat4 E4 e4 hn4 => sb_f E4 hat4 hb2 fun w5 hat5 E5 f5 => ?_⟩)
      simp only [Int.toNat_natCast] at hx
      have htk : (((M.trial day).take (i + 1)).filter (isAt a)).map (fun x => (⟨x.Unit, x.N⟩ : TAmount)) = (((M.trial day).take i).filter (isAt a)).map (fun x => (⟨x.Unit, x.N⟩ : TAmount)) ++ if isAt a x then [⟨x.Unit, x.N⟩] else [] := by
        rw [List.take_succ, hx, List.filter_append, List.map_append]
        congr 1
        cases hz : isAt a x <;> simp [List.filter_cons, hz]
      have hn1 : n ≤ i := by rw [ho.1, List.length_map]; exact Nat.le_trans (List.length_filter_le _ _) (by rw [List.length_take]; omega)
      have hb12 : b1 ≠ b2 := fun e => by subst e; have := hat'.lt; omega
      have hat5' : At w5 b1 (.cells #[vu a.Kind, vi a.Id] 40 (0, 0)) := (hat'.ext e4).frm f5 hb12
      have ho5 := (ho.ext e4).frm f5 fun k hk' e => (by
        obtain ⟨cur, hc⟩ := ho.at k hk'
        have := hc.lt
        subst e
        omega)
      rw [wrap_succ (n := tn) (by omega) (by omega) (by simp only [maxLen]; omega)]
      show Ifb (isAt a x) _ _
      refine ifb ?_
      split
      · rename_i hdue
        rw [if_pos hdue] at htk
        refine al_f E5 fun b3 w6 hb3 hat3 E6 e6 _ => ?_
        refine ap_own ap53 encAmount (fun x => oneAll rfl) (ho5.ext e6) (Rd.one (enc := TAmount.enc) (sz := 2) ⟨x.Unit, x.N⟩ hat3) (by omega) (by simp only [maxLen]; omega) fun a3 c3 w7 ho7 F7 hb7 => ?_
        rw [← htk] at ho7
        have hnb : ¬ obk a2 c = some b1 := (ho5.ext e6).notP (hat5'.ext e6) (by decide)
        refine ⟨F7.blk _ (hat5'.ext e6).lt hnb, ih (i + 1) w7 a3 (n + 1) c3 (by omega) (Frm.trans E6 F7 fun k hk' e => by have := hk k e; omega) ((hat5'.ext e6).frm F7 hnb) ho7 fun k hk' => (hb7 k hk').elim (hk k) fun h => Nat.le_trans E6.size h⟩
      · rename_i hdue
        rw [if_neg hdue, List.append_nil] at htk
        rw [← htk] at ho5
        exact ih (i + 1) w5 a2 n c (by omega) E5 hat5' ho5 hk
  exact key _ 0 w2 none 0 0 (by omega) (er w2) hat2 (by simpa using Own.nil) (fun k hk => by cases hk)
theorem balances_len (M : MState) (a : TAccount) (day : Int) : (M.balances a day).length ≤ 2 * M.postings.length := by
  have := trial_len M day
  unfold MState.balances
  rw [List.length_map]
  exact Nat.le_trans (List.length_filter_le _ _) this
theorem worth_c (h : StRd w p st M) (hF : Fits M) (hS : M.postings.length ≤ 40000) {a : TAccount} {day : Int} {Q : Int → World → Prop} (hQ : ∀ w', Ext w w' → Q (M.worth a day) w') :
    Cl Pg 29 #[vP (some p), vg [vu a.Kind, vi a.Id], vi day] w (fun v w' => ∃ r, v = vi r ∧ Q r w') := by
  refine drawers_Ledger_Worth.ok (al_f (er w) fun b1 w1 hb1 hat E _ _ => lbalances_c (h.ext E) hS fun ta tn tc w2 ht hkt E2 => ⟨tn + 1, ?_⟩)
  have hr := ht.rd encAmount
  have hbl := balances_len M a day
  have hn : tn ≤ 80000 := by have := hr.1; omega
  have key : ∀ m i w' v, i + m = tn → Ext w2 w' → (∀ w', Ext w w' → Q (worthOn M day v ((M.balances a day).drop i)) w') → drawers_Ledger_Worth.l1 Q (some p) day ta tn (m + 1) v (i : Nat) w' := by
    intro m
    induction m with
    | zero =>
      intro i w' v hi E' hQ
      unfold drawers_Ledger_Worth.l1
      rw [List.drop_of_length_le (by have := hr.1; omega)] at hQ
      exact ifb_df (by omega) (hQ _ ((E.ext E2).ext E'))
    | succ m ih =>
      intro i w' v hi E' hQ
      unfold drawers_Ledger_Worth.l1
      refine ifb_dt (by omega) ((hr.ext E').ix (by omega) (by omega) fun a0 x ha hx hc => ⟨x, hc, al_f E' fun b2 w4 hb2 hat4 E4 e4 hn4 => sb_f E4 hat4 hb2 fun w5 hat5 E5 f5 => dr_f E5 fun w6 E6 e6 => ?_⟩)
      simp only [Int.toNat_natCast] at hx
      obtain ⟨hl, hx'⟩ := List.getElem?_eq_some_iff.1 hx
      rw [List.drop_eq_getElem_cons hl, hx'] at hQ
      simp only [worthOn] at hQ
      rw [wrap_succ (n := tn) (by omega) (by omega) (by simp only [maxLen]; omega)]
      refine lvalue_c (h.ext ((E.ext E2).ext E6)) hF fun w7 E7 => ⟨E7.blk _ (hat5.ext e6).lt id, ih (i + 1) w7 _ (by omega) (E6.ext E7) hQ⟩
  exact key tn 0 w2 0 (by omega) (er w2) (by simpa [MState.worth] using hQ)
theorem statement_c (h : StRd w p st M) (hF : Fits M) {a : TAccount} {name : ByteArray} {from_ until_ : Int} {Q : Option Addr → Nat → Nat → World → Prop}
    (hQ : ∀ a2 n c w', Own 97 2 TStatementLine.enc w' a2 n c (M.statement a name from_ until_) → (∀ k, obk a2 c = some k → w.heap.size ≤ k) → Ext w w' → Q a2 n c w') :
    Cl Pg 53 #[vP (some p), vg [vu a.Kind, vi a.Id], vs name, vi from_, vi until_] w (fun v w' => ∃ a n c, v = vl a n c ∧ Q a n c w') := by
  have hp := h.postings
  have hn : st.postings_n ≤ 1000000 := by rw [hp.1]; exact hF.postings
  refine drawers_Ledger_Statement.ok (al_f (er w) fun b1 w1 hb1 hat E _ _ => ifb_f ⟨_, rfl, _, _, _, (h.ext E).cells.at 4 rfl, st.postings_n + 1, ?_⟩)
  have key : ∀ m i w' a2 n c v out, i + m = st.postings_n → n ≤ i → Ext w w' → At w' b1 (.cells #[vu a.Kind, vi a.Id] 40 (0, 0)) → Own 97 2 TStatementLine.enc w' a2 n c out → (∀ k, obk a2 c = some k → w.heap.size ≤ k) →
      (∀ a2 n c w', Own 97 2 TStatementLine.enc w' a2 n c (out ++ stmtOn a name from_ until_ v i (M.postings.drop i)) → (∀ k, obk a2 c = some k → w.heap.size ≤ k) → Ext w w' → Q a2 n c w') →
      drawers_Ledger_Statement.l1 Q a name from_ until_ b1 st.postings_a st.postings_n (m + 1) a2 n c v (i : Nat) w' := by
    intro m
    induction m with
    | zero =>
      intro i w' a2 n c v out hi hni E' hat' ho hk hQ
      unfold drawers_Ledger_Statement.l1
      rw [List.drop_of_length_le (by have := hp.1; omega)] at hQ
      simp only [stmtOn, List.append_nil] at hQ
      exact ifb_df (by omega) (hQ _ _ _ _ ho hk E')
    | succ m ih =>
      intro i w' a2 n c v out hi hni E' hat' ho hk hQ
      unfold drawers_Ledger_Statement.l1
      refine ifb_dt (by omega) ((hp.ext E').ix (by omega) (by omega) fun a0 x ha hx hc => ⟨x, hc, al_f E' fun b2 w4 hb2 hat4 E4 e4 hn4 => sb_f E4 hat4 hb2 fun w5 hat5 E5 f5 => ?_⟩)
      simp only [Int.toNat_natCast] at hx
      obtain ⟨hl, hx'⟩ := List.getElem?_eq_some_iff.1 hx
      rw [List.drop_eq_getElem_cons hl, hx'] at hQ
      simp only [stmtOn] at hQ
      have hb12 : b1 ≠ b2 := fun e => by subst e; have := hat'.lt; omega
      have hat5' : At w5 b1 (.cells #[vu a.Kind, vi a.Id] 40 (0, 0)) := (hat'.ext e4).frm f5 hb12
      have ho5 := (ho.ext e4).frm f5 fun k hk' e => (by
        obtain ⟨cur, hc⟩ := ho.at k hk'
        have := hc.lt
        subst e
        omega)
      have hw : IntKind.wrap .i64 ((i : Int) + 1) = ((i + 1 : Nat) : Int) := by rw [wrap_id (by omega) (by omega)]; omega
      have hi1 : (i : Int) + 1 = ((i + 1 : Nat) : Int) := by omega
      have skip : (!strEq x.Unit name || (!fromAt a x && !toAt a x)) = true → drawers_Ledger_Statement.j1 Q a from_ until_ b1 a2 n c v i (drawers_Ledger_Statement.l1 Q a name from_ until_ b1 st.postings_a st.postings_n (m + 1)) x true w5 := fun hs => by
        rw [if_pos hs] at hQ
        unfold drawers_Ledger_Statement.j1
        rw [hw]
        rw [hi1] at hQ
        exact ifb_t (ih (i + 1) w5 a2 n c v out (by omega) (by omega) E5 hat5' ho5 hk hQ)
      have take : (!strEq x.Unit name || (!fromAt a x && !toAt a x)) = false → drawers_Ledger_Statement.j1 Q a from_ until_ b1 a2 n c v i (drawers_Ledger_Statement.l1 Q a name from_ until_ b1 st.postings_a st.postings_n (m + 1)) x false w5 := fun hs => by
        rw [if_neg (by rw [hs]; simp)] at hQ
        have j3 : ∀ v2, (v2 = if toAt a x then wr ((if fromAt a x then wr (v - x.N) else v) + x.N) else if fromAt a x then wr (v - x.N) else v) → drawers_Ledger_Statement.j3 Q from_ until_ b1 a2 n c i (drawers_Ledger_Statement.l1 Q a name from_ until_ b1 st.postings_a st.postings_n (m + 1)) x v2 w5 := by
          intro v2 hv2
          rw [← hv2] at hQ
          unfold drawers_Ledger_Statement.j3
          rw [hw]
          rw [hi1] at hQ
          refine ifb ?_
          split
          · rename_i hd
            rw [if_pos hd] at hQ
            refine al_f E5 fun b3 w6 hb3 hat3 E6 e6 _ => ?_
            refine ap_own ap94 encStmt (fun x => oneAll rfl) (ho5.ext e6) (Rd.one (enc := TStatementLine.enc) (sz := 2) ⟨i, v2⟩ hat3) (by omega) (by simp only [maxLen]; omega) fun a3 c3 w7 ho7 F7 hb7 => ?_
            have hnb : ¬ obk a2 c = some b1 := (ho5.ext e6).notP (hat5'.ext e6) (by decide)
            refine ⟨F7.blk _ (hat5'.ext e6).lt hnb, ih (i + 1) w7 a3 (n + 1) c3 v2 (out ++ [⟨i, v2⟩]) (by omega) (by omega) (Frm.trans E6 F7 fun k hk' e => by have := hk k e; omega) ((hat5'.ext e6).frm F7 hnb) ho7 (fun k hk' => (hb7 k hk').elim (hk k) fun h => Nat.le_trans E6.size h) ?_⟩
            simpa using hQ
          · rename_i hd
            rw [if_neg hd] at hQ
            exact ih (i + 1) w5 a2 n c v2 out (by omega) (by omega) E5 hat5' ho5 hk (by simpa using hQ)
        unfold drawers_Ledger_Statement.j1
        refine ifb_f ?_
        have j2 : ∀ v1, (v1 = if fromAt a x then wr (v - x.N) else v) → drawers_Ledger_Statement.j2 Q a from_ until_ b1 a2 n c i (drawers_Ledger_Statement.l1 Q a name from_ until_ b1 st.postings_a st.postings_n (m + 1)) x v1 w5 := by
          intro v1 hv1
          unfold drawers_Ledger_Statement.j2
          show Ifb (toAt a x) _ _
          refine ifb ?_
          split
          · rename_i ht; exact j3 _ (by rw [if_pos ht, hv1])
          · rename_i ht; exact j3 _ (by rw [if_neg ht, hv1])
        show Ifb (fromAt a x) _ _
        refine ifb ?_
        split
        · rename_i ht; exact j2 _ (by rw [if_pos ht])
        · rename_i ht; exact j2 _ (by rw [if_neg ht])
      refine ifb ?_
      split
      · rename_i hu; exact skip (by rw [hu]; rfl)
      · rename_i hu
        have hu : (!strEq x.Unit name) = false := by simpa using hu
        show Ifb (!fromAt a x) (drawers_Ledger_Statement.j1 _ _ _ _ _ _ _ _ _ _ _ _ (!toAt a x) _) _
        refine ifb ?_
        split
        · rename_i hf
          cases ht : toAt a x with
          | true => exact take (by rw [hu, hf, ht]; rfl)
          | false => exact skip (by rw [hu, hf, ht]; rfl)
        · rename_i hf
          have hf : (!fromAt a x) = false := by simpa using hf
          exact take (by rw [hu, hf]; rfl)
  exact key _ 0 w1 none 0 0 0 [] (by omega) (by omega) E hat (by simpa using Own.nil) (fun k hk => by cases hk) (by simpa [MState.statement] using hQ)
end
end Go.Proofs.YtcbijkakoepglaaGreat
namespace Go.Proofs.YtcbijkakoepglaaGreat
open Go Go.Wx
set_option maxRecDepth 100000
def drawers_Ledger_Deposit_1.j2 (Q : Int → World → Prop) (s : Option Addr) (v2 : Int) (kl1 : Int → World → Prop) (x3 : TAmount) (v3 : Bool) (w5 : World) : Prop := (
 Ifb v3
 (Q 1 w5)
 (Cl Pg 80 #[vP s, vs x3.Unit] w5 (fun v w6 => ∃ r1, v = vi r1 ∧ Ifb (decide (r1 < 0))
 (Q 60 w6)
 (kl1 (IntKind.wrap .i64 (v2 + 1)) w6))))
def drawers_Ledger_Deposit_1.j3 (Q : Int → World → Prop) (s : Option Addr) (p1_1 : Addr) (p2_2 : Addr) (p4_4 : Addr) (p5_5 : Addr) (v4 : Int) (kl2 : Int → World → Prop) (x10 : TAmount) (v5 : Int) (w13 : World) : Prop := (
 Dr w13 fun w14 =>
 LdSl w14 p5_5 fun x11_a x11_n x11_c =>
 LdI .i64 w14 p1_1 fun x12 =>
 LdI .i64 w14 p2_2 fun x13 =>
 LdI .i64 w14 p4_4 fun x14 =>
 Cl Pg 83 #[vP s, vg [vi 0, vi x12, vi x13, vi x14, vi v5, vs x10.Unit, vi x10.N, vi x10.N, vu 0, vi 0], vg [vu 1, vi 0], vu 1] w14 (fun v w15 => ∃ r3, v = vi r3 ∧ w15.cell? p5_5 = some (vl x11_a x11_n x11_c) ∧ Al w15 (.cells #[vi r3] 3) fun b3 w16 =>
 Ap Pg w16 #[63, 63] 63 (vl x11_a x11_n x11_c) (vl (some ⟨b3, 0, none⟩) 1 1) fun a1_a a1_n a1_c w17 =>
 St w17 p5_5 ([vl a1_a a1_n a1_c]) fun w18 =>
 kl2 (IntKind.wrap .i64 (v4 + 1)) w18))
def drawers_Ledger_Deposit_1.l2 (Q : Int → World → Prop) (s : Option Addr) (p1_1 : Addr) (p2_2 : Addr) (p4_4 : Addr) (p5_5 : Addr) (x9_a : Option Addr) (x9_n : Nat) : Nat → Int → World → Prop
 | 0, _, _ => False
 | nl2 + 1, v4, w10 => (
 Ifb (decide (v4 < ((x9_n : Nat) : Int)))
 (Ix x9_a x9_n v4 fun p5 =>
 LdT TAmount.enc w10 (Addr.add p5 (v4.toNat * 2)) fun x10 =>
 Al w10 (.cells #[vs (ByteArray.mk #[]), vi 0] 58) fun b2 w11 =>
 Sb w11 b2 (.cells #[vs x10.Unit, vi x10.N] 58 (0, 0)) fun w12 =>
 LdI .i64 w12 p4_4 fun x15 =>
 Cl Pg 97 #[vP s, vs x10.Unit, vi x10.N, vi x15] w12 (fun v w19 => ∃ r4, v = vi r4 ∧ Kp b2 w12 w19 ∧ Ifb (decide (r4 > 0))
 (LdI .i64 w19 p4_4 fun x16 =>
 drawers_Ledger_Deposit_1.j3 Q s p1_1 p2_2 p4_4 p5_5 v4 (drawers_Ledger_Deposit_1.l2 Q s p1_1 p2_2 p4_4 p5_5 x9_a x9_n nl2) x10 (if (IntKind.wrap .i64 (x16 + r4)) < 100001 then (IntKind.wrap .i64 (x16 + r4)) else (100001 : Int)) w19)
 (drawers_Ledger_Deposit_1.j3 Q s p1_1 p2_2 p4_4 p5_5 v4 (drawers_Ledger_Deposit_1.l2 Q s p1_1 p2_2 p4_4 p5_5 x9_a x9_n nl2) x10 100001 w19)))
 (Q 0 w10))
def drawers_Ledger_Deposit_1.l1 (Q : Int → World → Prop) (s : Option Addr) (p1_1 : Addr) (p2_2 : Addr) (p3_3 : Addr) (p4_4 : Addr) (p5_5 : Addr) (x2_a : Option Addr) (x2_n : Nat) : Nat → Int → World → Prop
 | 0, _, _ => False
 | nl1 + 1, v2, w2 => (
 Ifb (decide (v2 < ((x2_n : Nat) : Int)))
 (Ix x2_a x2_n v2 fun p1 =>
 LdT TAmount.enc w2 (Addr.add p1 (v2.toNat * 2)) fun x3 =>
 Al w2 (.cells #[vs (ByteArray.mk #[]), vi 0] 58) fun b1 w3 =>
 Sb w3 b1 (.cells #[vs x3.Unit, vi x3.N] 58 (0, 0)) fun w4 =>
 Dr w4 fun w7 =>
 Ifb (decide (x3.N < 1))
 (drawers_Ledger_Deposit_1.j2 Q s v2 (drawers_Ledger_Deposit_1.l1 Q s p1_1 p2_2 p3_3 p4_4 p5_5 x2_a x2_n nl1) x3 true w7)
 (Ifb (decide (x3.N > 1000000000))
 (drawers_Ledger_Deposit_1.j2 Q s v2 (drawers_Ledger_Deposit_1.l1 Q s p1_1 p2_2 p3_3 p4_4 p5_5 x2_a x2_n nl1) x3 true w7)
 (Ifb (decide (v2 > 0))
 (LdSl w7 p3_3 fun x4_a x4_n x4_c =>
 Ix x4_a x4_n (IntKind.wrap .i64 (v2 - 1)) fun p2 =>
 LdS w7 (Addr.add p2 ((IntKind.wrap .i64 (v2 - 1)).toNat * 2)) fun x5 =>
 drawers_Ledger_Deposit_1.j2 Q s v2 (drawers_Ledger_Deposit_1.l1 Q s p1_1 p2_2 p3_3 p4_4 p5_5 x2_a x2_n nl1) x3 (!strLt x5 x3.Unit) w7)
 (drawers_Ledger_Deposit_1.j2 Q s v2 (drawers_Ledger_Deposit_1.l1 Q s p1_1 p2_2 p3_3 p4_4 p5_5 x2_a x2_n nl1) x3 false w7))))
 (NN s fun p3 =>
 LdSl w2 (Addr.add p3 3) fun x6_a x6_n x6_c =>
 Cl Pg 95 #[vl x6_a x6_n x6_c, .func (.func 96) #[] #[vp p1_1, vp p2_2]] w2 (fun v w8 => ∃ r2, v = vb r2 ∧ Ifb r2
 (Q 6 w8)
 (Dr w8 fun w9 =>
 NN s fun p4 =>
 LdSl w9 (Addr.add p4 3) fun x7_a x7_n x7_c =>
 LdSl w9 p3_3 fun x8_a x8_n x8_c =>
 Ifb (decide ((IntKind.wrap .i64 (((x7_n : Nat) : Int) + ((x8_n : Nat) : Int))) > 2000))
 (Q 2 w9)
 (LdSl w9 p3_3 fun x9_a x9_n x9_c =>
 ∃ k, drawers_Ledger_Deposit_1.l2 Q s p1_1 p2_2 p4_4 p5_5 x9_a x9_n k 0 w9)))))
def drawers_Ledger_Deposit_1.j1 (Q : Int → World → Prop) (s : Option Addr) (p1_1 : Addr) (p2_2 : Addr) (p3_3 : Addr) (p4_4 : Addr) (p5_5 : Addr) (v1 : Bool) (w1 : World) : Prop := (
 Ifb v1
 (Q 1 w1)
 (LdSl w1 p3_3 fun x1_a x1_n x1_c =>
 Ifb (decide (((x1_n : Nat) : Int) > 6))
 (Q 2 w1)
 (LdSl w1 p3_3 fun x2_a x2_n x2_c =>
 ∃ k, drawers_Ledger_Deposit_1.l1 Q s p1_1 p2_2 p3_3 p4_4 p5_5 x2_a x2_n k 0 w1)))
def drawers_Ledger_Deposit_1.R (Q : Int → World → Prop) (s : Option Addr) (p1_1 : Addr) (p2_2 : Addr) (p3_3 : Addr) (p4_4 : Addr) (p5_5 : Addr) (w : World) : Prop := (
 LdI .i64 w p1_1 fun x17 =>
 Al w (.cells #[vi x17] 3) fun b4 w20 =>
 Cl Pg 87 #[vl (some ⟨b4, 0, none⟩) 1 1] w20 (fun v w21 => ∃ r5, v = vb r5 ∧ Ifb (!r5)
 (drawers_Ledger_Deposit_1.j1 Q s p1_1 p2_2 p3_3 p4_4 p5_5 true w21)
 (LdI .i64 w21 p2_2 fun x18 =>
 Ifb (decide (x18 < 1))
 (drawers_Ledger_Deposit_1.j1 Q s p1_1 p2_2 p3_3 p4_4 p5_5 true w21)
 (LdI .i64 w21 p2_2 fun x19 =>
 drawers_Ledger_Deposit_1.j1 Q s p1_1 p2_2 p3_3 p4_4 p5_5 (decide (x19 > 3)) w21))))
theorem drawers_Ledger_Deposit_1.ok {Q : Int → World → Prop} {s : Option Addr} {p1_1 : Addr} {p2_2 : Addr} {p3_3 : Addr} {p4_4 : Addr} {p5_5 : Addr} {w : World} (h : drawers_Ledger_Deposit_1.R Q s p1_1 p2_2 p3_3 p4_4 p5_5 w) : Cl Pg 94 #[vP s, vp p1_1, vp p2_2, vp p3_3, vp p4_4, vp p5_5] w (fun v w' => ∃ r0, v = vi r0 ∧ Q r0 w') := by
 refine calls_args (args := [vP s, vp p1_1, vp p2_2, vp p3_3, vp p4_4, vp p5_5]) Tryz.func94 ?_
 unfold drawers_Ledger_Deposit_1.R at h
 refine W_regseq <| ps 1 [(7, vi 0)] <| WO_nil <| W_seq <| W_join (fun e w1 => ∃ (e0 : Env) (v1 : Bool), e = upds e0 [(0, vP s), (1, vp p1_1), (2, vp p2_2), (3, vp p3_3), (4, vp p4_4), (5, vp p5_5), (25, vb v1)] ∧ drawers_Ledger_Deposit_1.j1 Q s p1_1 p2_2 p3_3 p4_4 p5_5 v1 w1) ?_ ?_
 refine W_reg ?_
 obtain ⟨x17, hx17, h⟩ := h
 refine ld1 tk3 hx17 <| als 1 h ?_
 intro b4 w20 _ _ _ h
 refine cl h ?_
 rintro _ w21 ⟨r5, rfl, h⟩
 refine ps 2 [(17, vb (!r5)), (18, vb (!r5))] <| cs 18 h (fun h => ?_) fun h => ?_
 exact ps 7 [(19, undef), (20, undef), (21, vb true), (22, vb true), (23, undef), (24, undef), (25, vb true)] <| WO_nil <| ⟨_, true, Agree.eq ⟨rfl, rfl, rfl, rfl, rfl, rfl, rfl, trivial⟩, h⟩
 obtain ⟨x18, hx18, h⟩ := h
 refine ld1 tk3 hx18 <| ps 3 [(20, vb (decide (x18 < 1))), (21, vb (decide (x18 < 1))), (22, vb (decide (x18 < 1)))] <| cs 22 h (fun h => ?_) fun h => ?_
 exact ps 3 [(23, undef), (24, undef), (25, vb true)] <| WO_nil <| ⟨_, true, Agree.eq ⟨rfl, rfl, rfl, rfl, rfl, rfl, rfl, trivial⟩, h⟩
 obtain ⟨x19, hx19, h⟩ := h
 exact ld1 tk3 hx19 <| ps 2 [(24, vb (decide (x19 > 3))), (25, vb (decide (x19 > 3)))] <| WO_nil <| ⟨_, decide (x19 > 3), Agree.eq ⟨rfl, rfl, rfl, rfl, rfl, rfl, rfl, trivial⟩, h⟩
 clear h
 rintro _ w1 ⟨e0, v1, rfl, h⟩
 unfold drawers_Ledger_Deposit_1.j1 at h
 refine ci h (fun h => ?_) fun h => ?_
 exact W_regseq <| ps 1 [(7, vi 1)] <| WO_nil <| W_ret <| seqK_ret <| ret1 (v := vi 1) (t := 7) rfl rfl ⟨_, rfl, h⟩
 refine W_skip <| W_seq <| W_regseq ?_
 obtain ⟨x1_a, x1_n, x1_c, hx1, h⟩ := h
 refine ld1 tk53 hx1 <| ps 2 [(27, vi (x1_n : Nat)), (28, vb (decide (((x1_n : Nat) : Int) > 6)))] <| WO_nil <| ci h (fun h => ?_) fun h => ?_
 exact W_regseq <| ps 1 [(7, vi 2)] <| WO_nil <| W_ret <| seqK_ret <| ret1 (v := vi 2) (t := 7) rfl rfl ⟨_, rfl, h⟩
 refine W_skip <| W_seq <| W_regseq ?_
 obtain ⟨x2_a, x2_n, x2_c, hx2, h⟩ := h
 refine ld1 tk53 hx2 <| ps 2 [(30, vi (x2_n : Nat)), (31, vi 0)] <| WO_nil <| W_block ?_
 obtain ⟨nl1, h⟩ := h
 refine W_loopI (fun k e w2 => ∃ (e0 : Env) (v2 : Int), e = upds e0 [(0, vP s), (1, vp p1_1), (2, vp p2_2), (3, vp p3_3), (4, vp p4_4), (5, vp p5_5), (29, vl x2_a x2_n x2_c), (30, vi (x2_n : Nat)), (31, vi v2)] ∧ drawers_Ledger_Deposit_1.l1 Q s p1_1 p2_2 p3_3 p4_4 p5_5 x2_a x2_n k v2 w2) nl1 ?_ ?_ ?_
 rintro _ _ ⟨_, _, _, h⟩
 exact h
 exact ⟨_, 0, Agree.eq ⟨rfl, rfl, rfl, rfl, rfl, rfl, rfl, rfl, rfl, trivial⟩, h⟩
 clear h nl1
 rintro nl1 _ w2 ⟨e0, v2, rfl, h⟩
 unfold drawers_Ledger_Deposit_1.l1 at h
 refine W_regseq <| ps 1 [(32, vb (decide (v2 < ((x2_n : Nat) : Int))))] <| WO_nil <| W_seq <| ci h (fun h => ?_) fun h => ?_
 refine W_skip <| W_seq <| W_block <| W_regseq <| ps 1 [(33, vi v2)] <| ix slk53 h fun p1 h => ?_
 obtain ⟨x3, hx3, h⟩ := h
 refine ldn tk58 hx3 <| alp h ?_
 intro b1 w3 _ _ hb_b1 h
 refine ps 1 [(8, vi v2)] ?_
 refine sb tk58 hb_b1 h ?_
 intro w4 ew hb_ h
 replace hb_b1 := hb_
 refine WO_nil <| W_seq <| W_join (fun e w5 => ∃ (e0 : Env) (v3 : Bool), e = upds e0 [(0, vP s), (1, vp p1_1), (2, vp p2_2), (3, vp p3_3), (4, vp p4_4), (5, vp p5_5), (9, vp ⟨b1, 0, none⟩), (29, vl x2_a x2_n x2_c), (30, vi (x2_n : Nat)), (31, vi v2), (58, vb v3)] ∧ w5.heap[b1]? = some (.cells #[vs x3.Unit, vi x3.N] 58 (0, 0)) ∧ drawers_Ledger_Deposit_1.j2 Q s v2 (drawers_Ledger_Deposit_1.l1 Q s p1_1 p2_2 p3_3 p4_4 p5_5 x2_a x2_n nl1) x3 v3 w5) ?_ ?_
 refine drw folM [[], [], [1], [1], [1], [1], [1, 5], [1, 5], [1, 5], [1, 5], [1, 5], [1, 5], [1, 5], [1, 5], [1, 5], [1, 5, 12], [1, 5, 12], [1, 5, 12], [1, 5], [1, 5], [1, 5, 12, 17, 19], [1, 5, 12, 17, 19], [1, 5, 12, 17, 19]] [.p 0, .l 1, .p 2, .p 3, .p 4, .l 5, .p 6, .p 7, .p 8, .p 9, .p 10, .p 11, .l 12, .p 13, .p 14, .p 15, .p 16, .l 17, .p 18, .l 19, .p 20, .p 21, .p 22] h ?_
 intro w7 ew h
 replace hb_b1 := dr_keep ew hb_b1
 refine psC 1 [(36, vp ⟨b1, 1, none⟩)] ?_
 refine lb1C tk3 hb_b1 <| psC 2 [(38, vb (decide (x3.N < 1))), (39, vb (decide (x3.N < 1)))] <| csC 39 h (fun h => ?_) fun h => ?_
 exact psC 1 [(40, undef)] <| WC_lskip rfl rfl rfl <| psC 6 [(42, undef), (43, vb true), (44, vb true), (45, undef), (46, undef), (47, undef)] <| WC_lskip rfl rfl rfl <| psC 4 [(49, undef), (50, undef), (51, undef), (52, undef)] <| WC_lskip rfl rfl rfl <| psC 1 [(54, undef)] <| WC_lskip rfl rfl rfl <| psC 3 [(56, undef), (57, undef), (58, vb true)] <| WC_nil <| ⟨_, true, Agree.eq ⟨rfl, rfl, rfl, rfl, rfl, rfl, rfl, rfl, rfl, rfl, rfl, trivial⟩, hb_b1, h⟩
 refine psC 1 [(40, vp ⟨b1, 1, none⟩)] ?_
 refine lb1C tk3 hb_b1 <| psC 3 [(42, vb (decide (x3.N > 1000000000))), (43, vb (decide (x3.N > 1000000000))), (44, vb (decide (x3.N > 1000000000)))] <| csC 44 h (fun h => ?_) fun h => ?_
 exact psC 3 [(45, undef), (46, undef), (47, undef)] <| WC_lskip rfl rfl rfl <| psC 4 [(49, undef), (50, undef), (51, undef), (52, undef)] <| WC_lskip rfl rfl rfl <| psC 1 [(54, undef)] <| WC_lskip rfl rfl rfl <| psC 3 [(56, undef), (57, undef), (58, vb true)] <| WC_nil <| ⟨_, true, Agree.eq ⟨rfl, rfl, rfl, rfl, rfl, rfl, rfl, rfl, rfl, rfl, rfl, trivial⟩, hb_b1, h⟩
 refine psC 3 [(45, vi v2), (46, vb (decide (v2 > 0))), (47, vb (decide (v2 > 0)))] <| csC 47 h (fun h => ?_) fun h => ?_
 obtain ⟨x4_a, x4_n, x4_c, hx4, h⟩ := h
 refine ld1C tk53 hx4 <| psC 2 [(49, vi v2), (50, vi (IntKind.wrap .i64 (v2 - 1)))] ?_
 refine ixC slk53 h fun p2 h => psC 1 [(52, vp (Addr.add p2 ((IntKind.wrap .i64 (v2 - 1)).toNat * 2)))] ?_
 obtain ⟨x5, hx5, h⟩ := h
 refine ld1C tk9 hx5 <| psC 1 [(54, vp ⟨b1, 0, none⟩)] ?_
 exact lb1C tk9 hb_b1 <| psC 3 [(56, vb (!strLt x5 x3.Unit)), (57, vb (!strLt x5 x3.Unit)), (58, vb (!strLt x5 x3.Unit))] <| WC_nil <| ⟨_, (!strLt x5 x3.Unit), Agree.eq ⟨rfl, rfl, rfl, rfl, rfl, rfl, rfl, rfl, rfl, rfl, rfl, trivial⟩, hb_b1, h⟩
 exact WC_lskip rfl rfl rfl <| psC 4 [(49, undef), (50, undef), (51, undef), (52, undef)] <| WC_lskip rfl rfl rfl <| psC 1 [(54, undef)] <| WC_lskip rfl rfl rfl <| psC 3 [(56, undef), (57, vb false), (58, vb false)] <| WC_nil <| ⟨_, false, Agree.eq ⟨rfl, rfl, rfl, rfl, rfl, rfl, rfl, rfl, rfl, rfl, rfl, trivial⟩, hb_b1, h⟩
 clear h hb_b1
 rintro _ w5 ⟨e0, v3, rfl, hb_b1, h⟩
 unfold drawers_Ledger_Deposit_1.j2 at h
 refine ci h (fun h => ?_) fun h => ?_
 exact W_regseq <| ps 1 [(7, vi 1)] <| WO_nil <| W_ret <| seqK_ret <| blockK_ret <| seqK_ret <| seqK_ret <| blockK_ret <| seqK_ret <| ret1 (v := vi 1) (t := 7) rfl rfl ⟨_, rfl, h⟩
 refine W_skip <| W_regseq <| ps 2 [(59, vP s), (60, vp ⟨b1, 0, none⟩)] <| lb1 tk9 hb_b1 <| cl h ?_
 rintro _ w6 ⟨r1, rfl, h⟩
 refine ps 1 [(63, vb (decide (r1 < 0)))] <| WO_nil <| ci h (fun h => ?_) fun h => ?_
 exact W_regseq <| ps 1 [(7, vi 60)] <| WO_nil <| W_ret <| blockK_ret <| seqK_ret <| seqK_ret <| blockK_ret <| seqK_ret <| ret1 (v := vi 60) (t := 7) rfl rfl ⟨_, rfl, h⟩
 exact W_skip <| blockK_normal <| W_reg <| ps 2 [(64, vi (IntKind.wrap .i64 (v2 + 1))), (31, vi (IntKind.wrap .i64 (v2 + 1)))] <| WO_nil <| ⟨_, IntKind.wrap .i64 (v2 + 1), Agree.eq ⟨rfl, rfl, rfl, rfl, rfl, rfl, rfl, rfl, rfl, trivial⟩, h⟩
 refine W_exit <| blockK_hit <| W_seq <| W_regseq <| ps 1 [(65, vP s)] <| nn h fun p3 h => ps 1 [(67, vp (Addr.add p3 3))] ?_
 obtain ⟨x6_a, x6_n, x6_c, hx6, h⟩ := h
 refine ld1 tk46 hx6 <| ps 1 [(69, .func (.func 96) #[] #[vp p1_1, vp p2_2])] <| cl h ?_
 rintro _ w8 ⟨r2, rfl, h⟩
 refine WO_nil <| ci h (fun h => ?_) fun h => ?_
 exact W_regseq <| ps 1 [(7, vi 6)] <| WO_nil <| W_ret <| seqK_ret <| ret1 (v := vi 6) (t := 7) rfl rfl ⟨_, rfl, h⟩
 refine W_skip <| W_seq <| drs folM [[], [], [], [], [3], [], [5], [3, 5], [3, 5]] [.p 0, .p 1, .p 2, .l 3, .p 4, .l 5, .p 6, .p 7, .p 8] h ?_
 intro w9 _ h
 refine psC 1 [(71, vP s)] <| nnC h fun p4 h => psC 1 [(73, vp (Addr.add p4 3))] ?_
 obtain ⟨x7_a, x7_n, x7_c, hx7, h⟩ := h
 refine ld1C tk46 hx7 <| psC 1 [(75, vi (x7_n : Nat))] ?_
 obtain ⟨x8_a, x8_n, x8_c, hx8, h⟩ := h
 refine ld1C tk53 hx8 <| psC 3 [(77, vi (x8_n : Nat)), (78, vi (IntKind.wrap .i64 (((x7_n : Nat) : Int) + ((x8_n : Nat) : Int)))), (79, vb (decide ((IntKind.wrap .i64 (((x7_n : Nat) : Int) + ((x8_n : Nat) : Int))) > 2000)))] <| WC_nil <| ci h (fun h => ?_) fun h => ?_
 exact W_regseq <| ps 1 [(7, vi 2)] <| WO_nil <| W_ret <| seqK_ret <| ret1 (v := vi 2) (t := 7) rfl rfl ⟨_, rfl, h⟩
 refine W_skip <| W_seq <| W_regseq ?_
 obtain ⟨x9_a, x9_n, x9_c, hx9, h⟩ := h
 refine ld1 tk53 hx9 <| ps 2 [(81, vi (x9_n : Nat)), (82, vi 0)] <| WO_nil <| W_block ?_
 obtain ⟨nl2, h⟩ := h
 refine W_loopI (fun k e w10 => ∃ (e0 : Env) (v4 : Int), e = upds e0 [(0, vP s), (1, vp p1_1), (2, vp p2_2), (4, vp p4_4), (5, vp p5_5), (80, vl x9_a x9_n x9_c), (81, vi (x9_n : Nat)), (82, vi v4)] ∧ drawers_Ledger_Deposit_1.l2 Q s p1_1 p2_2 p4_4 p5_5 x9_a x9_n k v4 w10) nl2 ?_ ?_ ?_
 rintro _ _ ⟨_, _, _, h⟩
 exact h
 exact ⟨_, 0, Agree.eq ⟨rfl, rfl, rfl, rfl, rfl, rfl, rfl, rfl, trivial⟩, h⟩
 clear h nl2
 rintro nl2 _ w10 ⟨e0, v4, rfl, h⟩
 unfold drawers_Ledger_Deposit_1.l2 at h
 refine W_regseq <| ps 1 [(83, vb (decide (v4 < ((x9_n : Nat) : Int))))] <| WO_nil <| W_seq <| ci h (fun h => ?_) fun h => ?_
 refine W_skip <| W_seq <| W_block <| W_regseq <| ix slk53 h fun p5 h => ?_
 obtain ⟨x10, hx10, h⟩ := h
 refine ldn tk58 hx10 <| alp h ?_
 intro b2 w11 _ _ hb_b2 h
 refine sb tk58 hb_b2 h ?_
 intro w12 ew hb_ h
 replace hb_b2 := hb_
 refine WO_nil <| W_regseq <| ps 1 [(12, vi 100001)] <| WO_nil <| W_join (fun e w13 => ∃ (e0 : Env) (v5 : Int), e = upds e0 [(0, vP s), (1, vp p1_1), (2, vp p2_2), (4, vp p4_4), (5, vp p5_5), (11, vp ⟨b2, 0, none⟩), (12, vi v5), (80, vl x9_a x9_n x9_c), (81, vi (x9_n : Nat)), (82, vi v4)] ∧ w13.heap[b2]? = some (.cells #[vs x10.Unit, vi x10.N] 58 (0, 0)) ∧ drawers_Ledger_Deposit_1.j3 Q s p1_1 p2_2 p4_4 p5_5 v4 (drawers_Ledger_Deposit_1.l2 Q s p1_1 p2_2 p4_4 p5_5 x9_a x9_n nl2) x10 v5 w13) ?_ ?_
 refine W_regseq <| ps 2 [(86, vP s), (87, vp ⟨b2, 0, none⟩)] <| lb1 tk9 hb_b2 <| ps 1 [(89, vp ⟨b2, 1, none⟩)] <| lb1 tk3 hb_b2 ?_
 obtain ⟨x15, hx15, h⟩ := h
 refine ld1 tk3 hx15 <| cl h ?_
 rintro _ w19 ⟨r4, rfl, hk0, h⟩
 replace hb_b2 := kp_at hk0 hb_b2
 refine ps 1 [(13, vi r4)] <| WO_nil <| W_regseq <| ps 2 [(93, vi r4), (94, vb (decide (r4 > 0)))] <| WO_nil <| ci h (fun h => ?_) fun h => ?_
 refine W_reg <| ps 1 [(95, vi 100001)] ?_
 obtain ⟨x16, hx16, h⟩ := h
 exact ld1 tk3 hx16 <| ps 4 [(97, vi r4), (98, vi (IntKind.wrap .i64 (x16 + r4))), (99, vi (if (IntKind.wrap .i64 (x16 + r4)) < 100001 then (IntKind.wrap .i64 (x16 + r4)) else (100001 : Int))), (12, vi (if (IntKind.wrap .i64 (x16 + r4)) < 100001 then (IntKind.wrap .i64 (x16 + r4)) else (100001 : Int)))] <| WO_nil <| ⟨_, (if (IntKind.wrap .i64 (x16 + r4)) < 100001 then (IntKind.wrap .i64 (x16 + r4)) else (100001 : Int)), Agree.eq ⟨rfl, rfl, rfl, rfl, rfl, rfl, rfl, rfl, rfl, rfl, trivial⟩, hb_b2, h⟩
 exact W_skip <| ⟨_, 100001, Agree.eq ⟨rfl, rfl, rfl, rfl, rfl, rfl, rfl, rfl, rfl, rfl, trivial⟩, hb_b2, h⟩
 clear h hb_b2
 rintro _ w13 ⟨e0, v5, rfl, hb_b2, h⟩
 unfold drawers_Ledger_Deposit_1.j3 at h
 refine drw folM [[], [], [], [], [], [], [], [], [], [], [], [], [2, 3, 4, 7, 9, 11], [], [2, 3, 4, 7, 9, 11], [2, 3, 4, 7, 9, 11], [0, 2, 3, 4, 7, 9, 11], [0, 2, 3, 4, 7, 9, 11]] [.l 0, .p 1, .l 2, .l 3, .l 4, .p 5, .p 6, .l 7, .p 8, .l 9, .p 10, .l 11, .p 12, .p 13, .e 14, .e 15, .e 16, .e 17] h ?_
 intro w14 ew h
 replace hb_b2 := dr_keep ew hb_b2
 obtain ⟨x11_a, x11_n, x11_c, hx11, h⟩ := h
 refine ld1C tk63 hx11 <| psC 1 [(101, vP s)] ?_
 obtain ⟨x12, hx12, h⟩ := h
 refine ld1C tk3 hx12 ?_
 obtain ⟨x13, hx13, h⟩ := h
 refine ld1C tk3 hx13 ?_
 obtain ⟨x14, hx14, h⟩ := h
 refine ld1C tk3 hx14 <| psC 2 [(105, vi v5), (106, vp ⟨b2, 0, none⟩)] ?_
 refine lb1C tk9 hb_b2 <| psC 1 [(108, vp ⟨b2, 1, none⟩)] ?_
 refine lb1C tk3 hb_b2 <| psC 1 [(110, vp ⟨b2, 1, none⟩)] ?_
 refine lb1C tk3 hb_b2 <| psC 2 [(112, vg [vi 0, vi x12, vi x13, vi x14, vi v5, vs x10.Unit, vi x10.N, vi x10.N, vu 0, vi 0]), (113, vg [vu 1, vi 0])] <| clC h ?_
 rintro _ w15 ⟨r3, rfl, hk0, h⟩
 replace hx11 := hk0
 refine ⟨AllOk.cons (Pend_ok (ex_load rfl rfl (run_loadVar1 tk63 hx11))) <| AllOk.nil, ?_⟩
 refine alsC 1 h ?_
 intro b3 w16 eb ew hb_b3 h
 replace hx11 := al_ld ew hx11
 clear eb ew hb_b3
 refine ⟨AllOk.cons (Pend_ok (ex_load rfl rfl (run_loadVar1 tk63 hx11))) <| AllOk.nil, ?_⟩
 refine apC h ?_
 rintro a1_a a1_n a1_c w17 h
 refine ⟨AllOk.nil, ?_⟩
 refine stC tk63 h ?_
 rintro w18 h
 refine ⟨AllOk.nil, ?_⟩
 exact WC_nil <| blockK_normal <| W_reg <| ps 2 [(117, vi (IntKind.wrap .i64 (v4 + 1))), (82, vi (IntKind.wrap .i64 (v4 + 1)))] <| WO_nil <| ⟨_, IntKind.wrap .i64 (v4 + 1), Agree.eq ⟨rfl, rfl, rfl, rfl, rfl, rfl, rfl, rfl, trivial⟩, h⟩
 exact W_exit <| blockK_hit <| W_regseq <| ps 1 [(7, vi 0)] <| WO_nil <| W_ret <| ret1 (v := vi 0) (t := 7) rfl rfl ⟨_, rfl, h⟩
def drawers_Ledger_Deposit.R (Q : Option Addr → Nat → Nat → Int → World → Prop) (l : Option Addr) (day : Int) (thing : Int) (layer : Int) (goods_a : Option Addr) (goods_n : Nat) (goods_c : Nat) (w : World) : Prop := (
 Al w (.cells #[vi day] 3) fun b1 w1 =>
 Al w1 (.cells #[vi thing] 3) fun b2 w2 =>
 Al w2 (.cells #[vi layer] 3) fun b3 w3 =>
 Al w3 (.cells #[vl goods_a goods_n goods_c] 53) fun b4 w4 =>
 Al w4 (.cells #[vl none 0 0] 63) fun b5 w5 =>
 LdI .i64 w5 ⟨b1, 0, none⟩ fun x1 =>
 Cl Pg 76 #[vP l, vi x1, .func (.func 94) #[] #[vp ⟨b2, 0, none⟩, vp ⟨b3, 0, none⟩, vp ⟨b4, 0, none⟩, vp ⟨b1, 0, none⟩, vp ⟨b5, 0, none⟩]] w5 (fun v w6 => ∃ r1, v = vi r1 ∧ Ifb (r1 != 0)
 (Q none 0 0 r1 w6)
 (LdSl w6 ⟨b5, 0, none⟩ fun x2_a x2_n x2_c =>
 Q x2_a x2_n x2_c 0 w6)))
theorem drawers_Ledger_Deposit.ok {Q : Option Addr → Nat → Nat → Int → World → Prop} {l : Option Addr} {day : Int} {thing : Int} {layer : Int} {goods_a : Option Addr} {goods_n : Nat} {goods_c : Nat} {w : World} (h : drawers_Ledger_Deposit.R Q l day thing layer goods_a goods_n goods_c w) : Cl Pg 35 #[vP l, vi day, vi thing, vi layer, vl goods_a goods_n goods_c] w (fun v w' => ∃ r0a r0n r0c r1, v = .tuple #[vl r0a r0n r0c, vi r1] ∧ Q r0a r0n r0c r1 w') := by
 refine calls_args (args := [vP l, vi day, vi thing, vi layer, vl goods_a goods_n goods_c]) Tryz.func35 ?_
 unfold drawers_Ledger_Deposit.R at h
 refine W_regseq <| alp h ?_
 intro b1 w1 _ _ _ h
 refine alp h ?_
 intro b2 w2 _ _ _ h
 refine alp h ?_
 intro b3 w3 _ _ _ h
 refine alp h ?_
 intro b4 w4 _ _ _ h
 refine ps 2 [(10, vl none 0 0), (11, vi 0)] <| WO_nil <| W_regseq <| alp h ?_
 intro b5 w5 _ _ _ h
 refine WO_nil <| W_regseq <| ps 1 [(14, vP l)] ?_
 obtain ⟨x1, hx1, h⟩ := h
 refine ld1 tk3 hx1 <| ps 1 [(16, .func (.func 94) #[] #[vp ⟨b2, 0, none⟩, vp ⟨b3, 0, none⟩, vp ⟨b4, 0, none⟩, vp ⟨b1, 0, none⟩, vp ⟨b5, 0, none⟩])] <| cl h ?_
 rintro _ w6 ⟨r1, rfl, h⟩
 refine ps 1 [(13, vi r1)] <| WO_nil <| W_seq <| W_regseq <| ps 2 [(18, vi r1), (19, vb (r1 != 0))] <| WO_nil <| ci h (fun h => ?_) fun h => ?_
 exact W_regseq <| ps 3 [(20, vi r1), (10, vl none 0 0), (11, vi r1)] <| WO_nil <| W_ret <| seqK_ret <| ret2 (v := vl none 0 0) (v' := vi r1) (t := 10) (u := 11) rfl rfl rfl ⟨_, _, _, _, rfl, h⟩
 refine W_skip <| W_regseq ?_
 obtain ⟨x2_a, x2_n, x2_c, hx2, h⟩ := h
 exact ld1 tk63 hx2 <| ps 2 [(10, vl x2_a x2_n x2_c), (11, vi 0)] <| WO_nil <| W_ret <| ret2 (v := vl x2_a x2_n x2_c) (v' := vi 0) (t := 10) (u := 11) rfl rfl rfl ⟨_, _, _, _, rfl, h⟩
end Go.Proofs.YtcbijkakoepglaaGreat
namespace Go.Proofs.YtcbijkakoepglaaGreat
open Go Go.Wx

/-- the state of a ledger between operations. -/
structure Good (M : MState) : Prop where
  units : M.units.length ≤ 16
  values : ∀ u ∈ M.units, u.values.length ≤ 1000
  terms : M.terms.length ≤ 64
  lots : M.lots.length ≤ 2000
  postings : M.postings.length ≤ 20000
  ids : IdOk M
  grains : ∀ u ∈ M.units, ∀ v ∈ u.values, 1 ≤ v.grains ∧ v.grains ≤ 100000
theorem Good.small {M : MState} (h : Good M) : Small M := ⟨by have := h.units; omega, fun u hu => Nat.le_trans (h.values u hu) (by omega), by have := h.terms; omega, by have := h.lots; omega, by have := h.postings; omega⟩
theorem Good.dueOk {M : MState} (h : Good M) (day : Int) : DueOk M day := h.small.dueOk day
theorem Good.adv {M : MState} (h : Good M) (day : Int) : Small (M.advance day) ∧ IdOk (M.advance day) ∧ (M.advance day).postings.length ≤ 22000 ∧ (M.advance day).lots.length = M.lots.length := by
  obtain ⟨a, b, c, d, e⟩ := kept_advance M day
  have hd : (M.due day).length ≤ M.lots.length := by rw [MState.due_len]; exact List.length_filter_le _ _
  have := h.lots
  have := h.postings
  exact ⟨⟨by rw [a]; exact h.small.units, by rw [a]; exact h.small.values, by rw [b]; exact h.small.terms, by omega, by omega⟩, e h.ids, by omega, c⟩

/-! ### what an operation gives -/
/-- as Step, but cells in C are written too. -/
structure Run (C R : Nat → Prop) (w : World) (R' : Nat → Prop) (w' : World) : Prop where
  frm : Frm (fun k => R k ∨ C k) w w'
  sub : ∀ k, R' k → R k ∨ w.heap.size ≤ k
section
variable {C R R1 R2 : Nat → Prop} {w w1 w2 : World}
theorem Run.refl (C R : Nat → Prop) (w : World) : Run C R w R w := ⟨Frm.refl _ _, fun _ => .inl⟩
theorem Run.step (h : Run C R w R1 w1) (s : Step R1 w1 R2 w2) : Run C R w R2 w2 :=
  ⟨h.frm.trans s.frm fun b hb hR => .inl ((h.sub b hR).resolve_right (by omega)), fun k hk => (s.sub k hk).elim (h.sub k) fun hk => .inr (Nat.le_trans h.frm.size hk)⟩
theorem Run.ext (h : Run C R w R1 w1) (E : Ext w1 w2) : Run C R w R1 w2 := h.step (Ext.step E)
theorem Run.trans (h : Run C R w R1 w1) (s : Run C R1 w1 R2 w2) : Run C R w R2 w2 :=
  ⟨h.frm.trans s.frm fun b hb hR => hR.imp (fun hR => (h.sub b hR).resolve_right (by omega)) id, fun k hk => (s.sub k hk).elim (h.sub k) fun hk => .inr (Nat.le_trans h.frm.size hk)⟩
theorem Step.run (h : Step R w R1 w1) : Run C R w R1 w1 := ⟨h.frm.mono fun _ _ h => .inl h, h.sub⟩
/-- old blocks, and cells of C. -/
theorem Run.put {S : Nat → Prop} (h : Run C R w R1 w1) (F : Frm S w1 w2) (hS : ∀ k, S k → C k ∨ w.heap.size ≤ k) : Run C R w R1 w2 :=
  ⟨h.frm.trans F fun b hb hs => .inr ((hS b hs).resolve_right (by omega)), h.sub⟩
end
theorem does_run {C : Nat → Prop} {X : Int → MState → World → Prop} {w1 w2 : World} {R1 R2 : Nat → Prop} {b1 : Nat} {st2 : Tstate} {M2 : MState} {r : Int} (h : StIn w2 R2 b1 st2 M2) (s : Run C R1 w1 R2 w2) (hX : X r M2 w2) : DoesQ C X w1 R1 b1 r w2 :=
  ⟨M2, R2, st2, h, s.sub, s.frm, hX⟩

/-- a captured variable that holds a slice that was made. -/
structure Outs {α : Type} (T sz : Nat) (enc : α → List Value) (w : World) (R : Nat → Prop) (s0 bO TO : Nat) (out : List α) (a : Option Addr) (n c : Nat) : Prop where
  at' : At w bO (.cells #[vl a n c] TO (0, 0))
  own : Own T sz enc w a n c out
  new : ∀ k, obk a c = some k → s0 ≤ k ∧ ¬ R k
section
variable {α : Type} {T sz s0 bO TO : Nat} {enc : α → List Value} {w w' : World} {R R' : Nat → Prop} {out : List α} {a : Option Addr} {n c : Nat}
theorem Outs.step (h : Outs T sz enc w R s0 bO TO out a n c) (s : Step R w R' w') (hb : ¬ R bO) : Outs T sz enc w' R' s0 bO TO out a n c :=
  ⟨h.at'.frm s.frm hb, h.own.frm s.frm fun k hk => (h.new k hk).2, fun k hk => ⟨(h.new k hk).1, s.out (by obtain ⟨cur, hc⟩ := h.own.at k hk; exact hc.lt) (h.new k hk).2⟩⟩
theorem Outs.ext (h : Outs T sz enc w R s0 bO TO out a n c) (E : Ext w w') : Outs T sz enc w' R s0 bO TO out a n c :=
  ⟨h.at'.ext E, h.own.ext E, h.new⟩
/-- with blocks changed that are none of its own. -/
theorem Outs.frm {S : Nat → Prop} (h : Outs T sz enc w R s0 bO TO out a n c) (F : Frm S w w') (hb : ¬ S bO) (hS : ∀ k, obk a c = some k → ¬ S k) : Outs T sz enc w' R s0 bO TO out a n c :=
  ⟨h.at'.frm F hb, h.own.frm F hS, h.new⟩

theorem outs_app {t by_ : Nat} (hap : apk Pg t = some (T, sz, by_)) (hby : by_ ≤ 100) (he : ∀ x, (enc x).length = sz) (h1 : ∀ x, ∀ u ∈ enc x, u.oneCell' = true) (hTO : TO ≠ T) (h : Outs T sz enc w R s0 bO TO out a n c) (hn : n ≤ 1000000)
    (hlt : ∀ k, R k → k < w.heap.size) (hs0 : s0 ≤ w.heap.size) (x : α) {K : World → Prop} (hk : ∀ a2 c2 w', Outs T sz enc w' R s0 bO TO (out ++ [x]) a2 (n + 1) c2 → Frm (fun k => k = bO ∨ obk a c = some k) w w' → (∀ k, obk a2 c2 = some k → obk a c = some k ∨ w.heap.size ≤ k) → K w') :
    Al w (.cells (enc x).toArray T) fun b3 w16 => Ap Pg w16 #[t, t] t (vl a n c) (vl (some ⟨b3, 0, none⟩) 1 1) fun a1 n1 c1 w17 => St w17 ⟨bO, 0, none⟩ ([vl a1 n1 c1]) fun w18 => K w18 := by
  refine al_f (er w) fun b3 w16 hb3 hat3 E _ _ => ap_own hap he h1 (h.own.ext E) (Rd.one (enc := enc) (sz := sz) x hat3) ?_ (by simp only [maxLen]; omega) fun a2 c2 w17 ho F17 hb17 => ?_
  · have h2 : ((n + 1) + (n + 1) / 4 + 192) * by_ ≤ ((n + 1) + (n + 1) / 4 + 192) * 100 := Nat.mul_le_mul_left _ hby
    omega
  have hnb : ¬ obk a c = some bO := h.own.notP h.at' hTO
  have hat17 := (h.at'.ext E).frm F17 hnb
  refine st_at hat17 (by simp) fun w18 hat18 F18 => hk a2 c2 w18 ⟨hat18, ho.frm F18 fun k hk' e => ?_, fun k hk => ?_⟩ (((Frm.mono E fun _ _ h => h.elim).trans F17 fun k _ hk => .inr hk).trans F18 fun k _ hk => .inl hk) fun k hk => (hb17 k hk).imp id fun h => Nat.le_trans E.size h
  · subst e
    obtain ⟨cur, hc⟩ := ho.at _ hk'
    exact hc.neT hat17 (fun e => hTO (Option.some.inj e).symm) rfl
  · rcases hb17 k hk with hk | hk
    · exact h.new k hk
    · have := E.size
      exact ⟨by omega, fun hR => by have := hlt k hR; omega⟩
end

def MState.operO {α : Type} (M : MState) (z : α) (day : Int) (g : MState → Int × MState × α) : Int × MState × α :=
  if day < 0 ∨ 100000 < day then (1, M, z) else if day < M.day then (7, M, z) else
    if (g (M.advance day)).1 ≠ 0 then ((g (M.advance day)).1, M, z) else if 20000 < (g (M.advance day)).2.1.postings.length then (2, M, z) else (0, (g (M.advance day)).2.1, (g (M.advance day)).2.2)
/-- a closure returns what the plain side says, and what it gives is there. -/
def RetO {α : Type} (Y : α → World → Prop) (g : Int × MState × α) (r : Int) (M2 : MState) (w : World) : Prop := ∃ o, (r, M2, o) = g ∧ (r = 0 → Y o w)
theorem operateO_c {α : Type} {w : World} {R : Nat → Prop} {bL : Nat} {st : Tstate} {M : MState} (h : Led w R bL st M) (hG : Good M) {day : Int} {f : Value} {C : Nat → Prop} (hC : ¬ C bL) {z : α} {Y : α → World → Prop} {g : MState → Int × MState × α}
    (hY : ∀ o w2 w6, Y o w2 → Frm (fun k => k = bL) w2 w6 → (∃ cur, At w2 bL (.cells cur 122 (0, 0))) → Y o w6)
    (hdo : 0 ≤ day → day ≤ 100000 → M.day ≤ day → Does f w C (M.advance day) (RetO Y (g (M.advance day)))) {Q : Int → World → Prop}
    (hQ : ∀ w' R' st', Led w' R' bL st' (M.operO z day g).2.1 → (∀ k, R' k → R k ∨ w.heap.size ≤ k) → Frm (fun k => C k ∨ k = bL) w w' → ((M.operO z day g).1 = 0 → Y (M.operO z day g).2.2 w') → ((M.operO z day g).1 ≠ 0 → (M.operO z day g).2.2 = z) → Q (M.operO z day g).1 w')
    (hRC : ∀ k, R k → ¬ C k) :
    Cl Pg 76 #[vp ⟨bL, 0, none⟩, vi day, f] w (fun v w' => ∃ r, v = vi r ∧ Q r w') := by
  refine operate_c h hG.small hG.ids hC (hG.dueOk day) hdo (fun M2 w2 w6 ⟨o, e, hy⟩ F hat => ⟨o, e, fun hr => hY o w2 w6 (hy hr) F hat⟩) ?_ ?_ ?_ ?_ ?_
  · intro hb
    have e : M.operO z day g = (1, M, z) := by unfold MState.operO; rw [if_pos hb]
    rw [e] at hQ
    exact hQ _ _ _ h (fun k => .inl) (Frm.refl _ _) (fun h => by cases h) fun _ => rfl
  · intro h1 h2 h3
    have e : M.operO z day g = (7, M, z) := by unfold MState.operO; rw [if_neg (by omega), if_pos h3]
    rw [e] at hQ
    exact hQ _ _ _ h (fun k => .inl) (Frm.refl _ _) (fun h => by cases h) fun _ => rfl
  · intro h1 h2 h3 r M2 w2 hr ⟨o, hx, _⟩ F
    have e : M.operO z day g = (r, M, z) := by unfold MState.operO; rw [if_neg (by omega), if_neg (by omega), ← hx, if_pos hr]
    rw [e] at hQ
    exact hQ _ _ _ (h.frm F hRC hC) (fun k => .inl) (F.mono fun _ _ h => .inl h) (fun h => absurd h hr) fun _ => rfl
  · intro h1 h2 h3 M2 w2 ⟨o, hx, _⟩ hl F
    have e : M.operO z day g = (2, M, z) := by unfold MState.operO; rw [if_neg (by omega), if_neg (by omega), ← hx, if_neg (by simp), if_pos hl]
    rw [e] at hQ
    exact hQ _ _ _ (h.frm F hRC hC) (fun k => .inl) (F.mono fun _ _ h => .inl h) (fun h => by cases h) fun _ => rfl
  · intro h1 h2 h3 M2 w2 R2 st2 ⟨o, hx, hy⟩ hl h' hR F
    have e : M.operO z day g = (0, M2, o) := by unfold MState.operO; rw [if_neg (by omega), if_neg (by omega), ← hx, if_neg (by simp), if_neg (by simpa using hl)]
    rw [e] at hQ
    exact hQ _ _ _ h' (fun k hk => .inr (hR k hk)) F (fun _ => hy rfl) fun h => absurd rfl h

/-! ### depositing -/
def notAsc : Option TAmount → TAmount → Bool
  | some q, g => !strLt q.Unit g.Unit
  | none, _ => false
def goodsBad (M : MState) : Option TAmount → List TAmount → Int
  | _, [] => 0
  | q, g :: gs => if g.N < 1 ∨ 1000000000 < g.N ∨ notAsc q g = true then 1 else if M.find g.Unit < 0 then 60 else goodsBad M (some g) gs
def dueOf (M : MState) (day : Int) (g : TAmount) : Int :=
  let t := M.term g.Unit g.N day
  if 0 < t then (if wr (day + t) < 100001 then wr (day + t) else 100001) else 100001
def depositOn (day thing layer : Int) : MState → List TAmount → MState × List Int
  | M, [] => (M, [])
  | M, g :: gs =>
    let r := depositOn day thing layer (M.enter ⟨0, thing, layer, day, dueOf M day g, g.Unit, g.N, g.N, 0, 0⟩ 1 0 1) gs
    (r.1, M.nextId :: r.2)
def gDeposit (day thing layer : Int) (goods : List TAmount) (M : MState) : Int × MState × List Int :=
  if !isId thing ∨ layer < 1 ∨ 3 < layer then (1, M, []) else if 6 < goods.length then (2, M, []) else
    if goodsBad M none goods ≠ 0 then (goodsBad M none goods, M, []) else
      if M.lots.any fun x => (x.Thing == thing) && (x.Layer == layer) then (6, M, []) else if 2000 < M.lots.length + goods.length then (2, M, []) else
        (0, (depositOn day thing layer M goods).1, (depositOn day thing layer M goods).2)
def MState.deposit (M : MState) (day thing layer : Int) (goods : List TAmount) : Int × MState × List Int := M.operO [] day (gDeposit day thing layer goods)

abbrev encI (x : Int) : List Value := [vi x]
/-- a captured variable holds the ids. -/
def YInts (bO : Nat) (s0 : Nat) (o : List Int) (w : World) : Prop := ∃ a n c, At w bO (.cells #[vl a n c] 63 (0, 0)) ∧ Own 3 1 encI w a n c o ∧ ∀ k, obk a c = some k → s0 ≤ k
theorem YInts.keep {bO bL s0 : Nat} {o : List Int} {w2 w6 : World} (h : YInts bO s0 o w2) (F : Frm (fun k => k = bL) w2 w6) (hat : ∃ cur, At w2 bL (.cells cur 122 (0, 0))) : YInts bO s0 o w6 := by
  obtain ⟨a, n, c, h1, h2, h3⟩ := h
  obtain ⟨cur, hL⟩ := hat
  refine ⟨a, n, c, h1.frm F fun e => ?_, h2.frm F fun k hk e => ?_, h3⟩
  · subst e; exact absurd rfl (h1.neT hL (by simp [tyO]))
  · subst e
    obtain ⟨cur', hc⟩ := h2.at _ hk
    exact absurd rfl (hc.neT hL (by simp [tyO]))

theorem enterFits {M : MState} (hF : Fits M) (hl : M.lots.length ≤ 500000) (hp : M.postings.length ≤ 500000) (x : TLot) (fk fi why : Int) : Fits (M.enter x fk fi why) :=
  ⟨hF.units, hF.values, hF.terms, by simp [MState.enter]; omega, by simp [MState.enter]; omega⟩

/-- from where the closure was made. -/
theorem Run.base {C R R' : Nat → Prop} {w w1 w' : World} (E : Ext w w1) (hR : ∀ k, R k → w.heap.size ≤ k) (h : Run C R w1 R' w') : Frm C w w' :=
  (Ext.frm E).trans h.frm fun b hb hk => hk.elim (fun hk => by have := hR b hk; omega) id
theorem isId_one (x : Int) : [x].all isId = isId x := by simp

theorem doesDeposit {w : World} {b1 b2 b3 b4 b5 : Nat} {day thing layer : Int} {ga : Option Addr} {gn gc : Nat} {goods : List TAmount} (h1 : At w b1 (.cells #[vi day] 3 (0, 0))) (h2 : At w b2 (.cells #[vi thing] 3 (0, 0))) (h3 : At w b3 (.cells #[vi layer] 3 (0, 0)))
    (h4 : At w b4 (.cells #[vl ga gn gc] 53 (0, 0))) (h5 : At w b5 (.cells #[vl none 0 0] 63 (0, 0))) (hg : Rd TAmount.enc 2 w ga gn goods) (hgl : gn ≤ maxLen) (hg5 : ∀ a0, ga = some a0 → gn ≠ 0 → a0.block ≠ b5) {M : MState} (hS : Small M) (hp : M.postings.length ≤ 100000) {s0 : Nat} (hs0 : s0 ≤ w.heap.size) :
    Does (.func (.func 94) #[] #[vp ⟨b2, 0, none⟩, vp ⟨b3, 0, none⟩, vp ⟨b4, 0, none⟩, vp ⟨b1, 0, none⟩, vp ⟨b5, 0, none⟩]) w (fun k => k = b5) M (RetO (YInts b5 s0) (gDeposit day thing layer goods M)) := by
  intro w1 R1 b st h hR E
  have l1 := h1.lt
  have l2 := h2.lt
  have l3 := h3.lt
  have l4 := h4.lt
  have l5 := h5.lt
  have n15 : b1 ≠ b5 := h1.neT h5 (by simp [tyO])
  have n25 : b2 ≠ b5 := h2.neT h5 (by simp [tyO])
  have n35 : b3 ≠ b5 := h3.neT h5 (by simp [tyO])
  have n45 : b4 ≠ b5 := h4.neT h5 (by simp [tyO])
  have c1 : ∀ {w'}, Frm (fun k => k = b5) w w' → w'.cell? ⟨b1, 0, none⟩ = some (vi day) := fun F => cell_blk (h1.frm F n15) rfl
  have c2 : ∀ {w'}, Frm (fun k => k = b5) w w' → w'.cell? ⟨b2, 0, none⟩ = some (vi thing) := fun F => cell_blk (h2.frm F n25) rfl
  have c3 : ∀ {w'}, Frm (fun k => k = b5) w w' → w'.cell? ⟨b3, 0, none⟩ = some (vi layer) := fun F => cell_blk (h3.frm F n35) rfl
  have c4 : ∀ {w'}, Frm (fun k => k = b5) w w' → w'.cell? ⟨b4, 0, none⟩ = some (vl ga gn gc) := fun F => cell_blk (h4.frm F n45) rfl
  have cg : ∀ {w'}, Frm (fun k => k = b5) w w' → Rd TAmount.enc 2 w' ga gn goods := fun F => hg.frm F hg5
  have same : ∀ {r : Int} {w'}, r ≠ 0 → (∃ o, (r, M, o) = gDeposit day thing layer goods M) → Ext w1 w' → DoesQ (fun k => k = b5) (RetO (YInts b5 s0) (gDeposit day thing layer goods M)) w1 R1 b r w' := fun {r w'} hr ho E' => by
    obtain ⟨o, ho⟩ := ho
    exact does_same h E' ⟨o, ho, fun h => absurd h hr⟩
  have X0 : ∀ {w'}, Ext w w' → Frm (fun k => k = b5) w w' := fun E => Ext.frm E
  have hF := hS.fits
  have hnb5 : ¬ R1 b5 := fun hk => by have := hR _ hk; omega
  -- entering
  have enterL : ∀ (m i : Nat) (w' : World) (R' : Nat → Prop) (st' : Tstate) (Mi : MState) (ids : List Int) (a : Option Addr) (c : Nat), i + m = gn → gn ≤ 6 → i ≤ gn → StIn w' R' b st' Mi → Mi.lots.length ≤ 100000 + i → Mi.postings.length ≤ 100000 + i → Mi.units = M.units → Mi.terms = M.terms → Mi.day = M.day → Run (fun k => k = b5) R1 w1 R' w' → Outs 3 1 encI w' R' w1.heap.size b5 63 ids a i c →
      (0, (depositOn day thing layer Mi (goods.drop i)).1, ids ++ (depositOn day thing layer Mi (goods.drop i)).2) = gDeposit day thing layer goods M →
      drawers_Ledger_Deposit_1.l2 (DoesQ (fun k => k = b5) (RetO (YInts b5 s0) (gDeposit day thing layer goods M)) w1 R1 b) (some ⟨b, 0, none⟩) ⟨b2, 0, none⟩ ⟨b3, 0, none⟩ ⟨b1, 0, none⟩ ⟨b5, 0, none⟩ ga gn (m + 1) (i : Nat) w' := by
    intro m
    induction m with
    | zero =>
      intro i w' R' st' Mi ids a c hi _ _ h' _ _ _ _ _ rn ou hd
      unfold drawers_Ledger_Deposit_1.l2
      rw [List.drop_of_length_le (by have := hg.1; omega)] at hd
      refine ifb_df (by omega) (does_run h' rn ⟨_, ?_, fun _ => ⟨a, _, c, ou.at', ou.own, fun k hk => Nat.le_trans hs0 (Nat.le_trans E.size (ou.new k hk).1)⟩⟩)
      simpa [depositOn] using hd
    | succ m ih =>
      intro i w' R' st' Mi ids a c hi hg6 hig h' hl hp' hu ht hdy rn ou hd
      have F := Run.base E hR rn
      unfold drawers_Ledger_Deposit_1.l2
      refine ifb_dt (by omega) ((cg F).ix (by omega) (by omega) fun a0 x ha hx hc => ⟨x, hc, al_f (er w') fun bb w11 hbb hat E11 _ _ => sb_f E11 hat hbb fun w12 hat12 E12 f12 => ?_⟩)
      simp only [Int.toNat_natCast] at hx
      obtain ⟨hxl, hx'⟩ := List.getElem?_eq_some_iff.1 hx
      rw [List.drop_eq_getElem_cons hxl, hx'] at hd
      have rn12 := rn.ext E12
      have F12 := Run.base E hR rn12
      refine ⟨_, c1 F12, ?_⟩
      have hFi : Fits Mi := ⟨by rw [hu]; exact hF.units, by rw [hu]; exact hF.values, by rw [ht]; exact hF.terms, by omega, by omega⟩
      refine term_c (h'.ext E12).rd hFi fun w19 E19 => ⟨E19.blk _ hat12.lt id, ?_⟩
      have h19 := (h'.ext E12).ext E19
      have rn19 := rn12.ext E19
      have ou19 := (ou.ext E12).ext E19
      have F19 := Run.base E hR rn19
      have hb5R : ¬ R' b5 := fun hk => (rn.sub _ hk).elim hnb5 fun h => by have := E.size; omega
      have j3 : ∀ due, due = dueOf Mi day x → drawers_Ledger_Deposit_1.j3 (DoesQ (fun k => k = b5) (RetO (YInts b5 s0) (gDeposit day thing layer goods M)) w1 R1 b) (some ⟨b, 0, none⟩) ⟨b2, 0, none⟩ ⟨b3, 0, none⟩ ⟨b1, 0, none⟩ ⟨b5, 0, none⟩ (i : Nat) (drawers_Ledger_Deposit_1.l2 (DoesQ (fun k => k = b5) (RetO (YInts b5 s0) (gDeposit day thing layer goods M)) w1 R1 b) (some ⟨b, 0, none⟩) ⟨b2, 0, none⟩ ⟨b3, 0, none⟩ ⟨b1, 0, none⟩ ⟨b5, 0, none⟩ ga gn (m + 1)) x due w19 := by
        intro due hdue
        unfold drawers_Ledger_Deposit_1.j3
        refine dr_f (er w19) fun w14 E14 _ => ?_
        have F14 := F19.ext E14
        have ou14 := ou19.ext E14
        refine ⟨_, _, _, cell_blk ou14.at' rfl, _, c2 F14, _, c3 F14, _, c1 F14, ?_⟩
        refine enter_c (h19.ext E14) hFi (x := ⟨0, thing, layer, day, due, x.Unit, x.N, x.N, 0, 0⟩) (fk := 1) (fi := 0) (why := 1) fun w15 R15 st15 h15 s15 => ?_
        have ou15 := ou14.step s15 hb5R
        have rn15 := (rn19.ext E14).step s15
        refine ⟨cell_blk ou15.at' rfl, ?_⟩
        have hb5R15 : ¬ R15 b5 := fun hk => (rn15.sub _ hk).elim hnb5 fun h => by have := E.size; omega
        refine outs_app ap63 (by decide) (fun _ => rfl) (fun x => oneAll rfl) (by decide) ou15 (by omega) h15.rLt rn15.frm.size Mi.nextId fun a2 c2 w18 ou18 F18 _ => ?_
        rw [wrap_succ (n := gn) (by omega) (by omega) (by simp only [maxLen]; omega)]
        have h18 : StIn w18 R15 b st15 (Mi.enter ⟨0, thing, layer, day, due, x.Unit, x.N, x.N, 0, 0⟩ 1 0 1) := h15.frm F18 fun k hk e => e.elim (fun e => hb5R15 (e ▸ hk)) fun e => (ou15.new k e).2 hk
        have rn18 : Run (fun k => k = b5) R1 w1 R15 w18 := rn15.put F18 fun k hk => hk.imp id fun e => (ou15.new k e).1
        refine ih (i + 1) w18 R15 st15 _ _ a2 c2 (by omega) hg6 (by omega) h18 ?_ ?_ hu ht hdy rn18 ou18 ?_
        · simp [MState.enter]; omega
        · simp [MState.enter]; omega
        · rw [← hd]
          simp only [depositOn, hdue]
          simp
      have hwd : ∀ t : Int, wr (day + t) = IntKind.wrap .i64 (day + t) := fun _ => rfl
      refine ifb ?_
      split
      · rename_i hpos
        have hpos : 0 < Mi.term x.Unit x.N day := of_decide_eq_true hpos
        exact ⟨_, c1 F19, j3 _ (by unfold dueOf; dsimp only; rw [if_pos hpos])⟩
      · rename_i hpos
        have hpos : ¬ 0 < Mi.term x.Unit x.N day := by simpa using hpos
        exact j3 _ (by unfold dueOf; dsimp only; rw [if_neg hpos])
  -- the goods are looked at
  have lookL : ∀ (m i : Nat) (w' : World) (q : Option TAmount), i + m = gn → gn ≤ 6 → (q = if i = 0 then none else goods[i - 1]?) → Ext w1 w' → goodsBad M q (goods.drop i) = goodsBad M none goods → ¬ (!isId thing ∨ layer < 1 ∨ 3 < layer) →
      drawers_Ledger_Deposit_1.l1 (DoesQ (fun k => k = b5) (RetO (YInts b5 s0) (gDeposit day thing layer goods M)) w1 R1 b) (some ⟨b, 0, none⟩) ⟨b2, 0, none⟩ ⟨b3, 0, none⟩ ⟨b4, 0, none⟩ ⟨b1, 0, none⟩ ⟨b5, 0, none⟩ ga gn (m + 1) (i : Nat) w' := by
    intro m
    induction m with
    | zero =>
      intro i w' q hi hg6 hq E' hb ha1
      unfold drawers_Ledger_Deposit_1.l1
      rw [List.drop_of_length_le (by have := hg.1; omega)] at hb
      have hb : goodsBad M none goods = 0 := hb.symm
      have hgn := hg.1
      have h' := h.ext E'
      have F' := X0 (E.ext E')
      refine ifb_df (by omega) ⟨_, rfl, _, _, _, h'.rd.cells.at 3 rfl, ?_⟩
      have hll := h'.lots.1
      have hls := hS.lots
      refine lotCont (p := fun x => (x.Thing == thing) && (x.Layer == layer)) (h'.lots.rd encLot) (by simp only [maxLen]; omega) ?_ fun w2 E2 => ifb ?_
      · intro x w2 E2 K hK
        refine clv_f (drawers_Ledger_Deposit_1_1.ok (al_f (er w2) fun bx w3 _ _ E3 _ _ => ⟨_, c2 (X0 ((E.ext E').ext (E2.ext E3))), ifb ?_⟩))
        split
        · rename_i ht
          refine ⟨_, c3 (X0 ((E.ext E').ext (E2.ext E3))), ?_⟩
          have := hK w3 E3
          simp only [ht, Bool.true_and] at this
          exact this
        · rename_i ht
          have ht : (x.Thing == thing) = false := by simpa using ht
          have := hK w3 E3
          simp only [ht, Bool.false_and] at this
          exact this
      · split
        · rename_i hany
          refine same (by decide) ⟨[], ?_⟩ (E'.trans E2)
          unfold gDeposit
          rw [if_neg ha1, if_neg (by omega), if_neg (by rw [hb]; simp), if_pos hany]
        · rename_i hany
          refine dr_f (E'.trans E2) fun w3 E3 _ => ?_
          have h3 := h.ext E3
          have F3 := X0 (E.ext E3)
          refine ⟨_, rfl, _, _, _, h3.rd.cells.at 3 rfl, _, _, _, c4 F3, ifb ?_⟩
          have hw : IntKind.wrap .i64 (((st.lots_n : Nat) : Int) + ((gn : Nat) : Int)) = ((st.lots_n + gn : Nat) : Int) := by rw [wrap_id (by omega) (by omega)]; omega
          rw [hw]
          split
          · rename_i hl
            refine same (by decide) ⟨[], ?_⟩ E3
            unfold gDeposit
            rw [if_neg ha1, if_neg (by omega), if_neg (by rw [hb]; simp), if_neg hany, if_pos (by have := of_decide_eq_true hl; omega)]
          · rename_i hl
            refine ⟨_, _, _, c4 F3, gn + 1, ?_⟩
            refine enterL gn 0 w3 R1 st M [] none 0 (by omega) hg6 (by omega) h3 (by omega) (by omega) rfl rfl rfl ((Run.refl _ _ _).ext E3) ⟨(h5.ext E).ext E3, Own.nil, fun k hk => by cases hk⟩ ?_
            unfold gDeposit
            rw [if_neg ha1, if_neg (by omega), if_neg (by rw [hb]; simp), if_neg hany, if_neg (by simp at hl; omega)]
            simp
    | succ m ih =>
      intro i w' q hi hg6 hq E' hb ha1
      unfold drawers_Ledger_Deposit_1.l1
      have hgn := hg.1
      have F' := X0 (E.ext E')
      refine ifb_dt (by omega) ((cg F').ix (by omega) (by omega) fun a0 x ha hx hc => ⟨x, hc, al_f E' fun bb w11 hbb hat E11 _ _ => sb_f E11 hat hbb fun w12 hat12 E12 f12 => dr_f E12 fun w7 E7 _ => ?_⟩)
      simp only [Int.toNat_natCast] at hx
      obtain ⟨hxl, hx'⟩ := List.getElem?_eq_some_iff.1 hx
      rw [List.drop_eq_getElem_cons hxl, hx'] at hb
      simp only [goodsBad] at hb
      have F7 := X0 (E.ext E7)
      have bad : (x.N < 1 ∨ 1000000000 < x.N ∨ notAsc q x = true) → drawers_Ledger_Deposit_1.j2 (DoesQ (fun k => k = b5) (RetO (YInts b5 s0) (gDeposit day thing layer goods M)) w1 R1 b) (some ⟨b, 0, none⟩) (i : Nat) (drawers_Ledger_Deposit_1.l1 (DoesQ (fun k => k = b5) (RetO (YInts b5 s0) (gDeposit day thing layer goods M)) w1 R1 b) (some ⟨b, 0, none⟩) ⟨b2, 0, none⟩ ⟨b3, 0, none⟩ ⟨b4, 0, none⟩ ⟨b1, 0, none⟩ ⟨b5, 0, none⟩ ga gn (m + 1)) x true w7 := fun hbad => by
        rw [if_pos hbad] at hb
        unfold drawers_Ledger_Deposit_1.j2
        refine ifb_t (same (by decide) ⟨[], ?_⟩ E7)
        unfold gDeposit
        rw [if_neg ha1, if_neg (by omega), if_pos (by rw [← hb]; simp), ← hb]
      have good : ¬ (x.N < 1 ∨ 1000000000 < x.N ∨ notAsc q x = true) → drawers_Ledger_Deposit_1.j2 (DoesQ (fun k => k = b5) (RetO (YInts b5 s0) (gDeposit day thing layer goods M)) w1 R1 b) (some ⟨b, 0, none⟩) (i : Nat) (drawers_Ledger_Deposit_1.l1 (DoesQ (fun k => k = b5) (RetO (YInts b5 s0) (gDeposit day thing layer goods M)) w1 R1 b) (some ⟨b, 0, none⟩) ⟨b2, 0, none⟩ ⟨b3, 0, none⟩ ⟨b4, 0, none⟩ ⟨b1, 0, none⟩ ⟨b5, 0, none⟩ ga gn (m + 1)) x false w7 := fun hgood => by
        rw [if_neg hgood] at hb
        unfold drawers_Ledger_Deposit_1.j2
        refine ifb_f (find_c (h.ext E7).rd hF fun w8 E8 => ifb ?_)
        split
        · rename_i hfd
          have hfd := of_decide_eq_true hfd
          rw [if_pos hfd] at hb
          refine same (by decide) ⟨[], ?_⟩ (E7.ext E8)
          unfold gDeposit
          rw [if_neg ha1, if_neg (by omega), if_pos (by rw [← hb]; simp), ← hb]
        · rename_i hfd
          rw [if_neg (by simpa using hfd)] at hb
          rw [wrap_succ (n := gn) (by omega) (by omega) (by simp only [maxLen]; omega)]
          exact ih (i + 1) w8 (some x) (by omega) hg6 (by rw [if_neg (by omega), Nat.add_sub_cancel, hx]) (E7.ext E8) hb ha1
      refine ifb ?_
      split
      · rename_i h1'; exact bad (.inl (of_decide_eq_true h1'))
      rename_i h1'
      refine ifb ?_
      split
      · rename_i h2'; exact bad (.inr (.inl (of_decide_eq_true h2')))
      rename_i h2'
      refine ifb ?_
      split
      · rename_i h3'
        have h3' : 0 < i := by have := of_decide_eq_true h3'; omega
        have hw : IntKind.wrap .i64 (((i : Nat) : Int) - 1) = ((i - 1 : Nat) : Int) := by rw [wrap_id (by omega) (by omega)]; omega
        rw [hw]
        refine ⟨_, _, _, c4 F7, (cg F7).ix (by omega) (by omega) fun a1 y ha1' hy hcy => ⟨_, hcy.at 0 rfl, ?_⟩⟩
        simp only [Int.toNat_natCast] at hy
        rw [if_neg (by omega), hy] at hq
        subst hq
        cases hs : !strLt y.Unit x.Unit with
        | true => exact bad (.inr (.inr hs))
        | false => exact good (by simp at h1' h2'; rintro (h | h | h); · omega
                                  · omega
                                  · exact absurd (h.symm.trans hs) (by simp))
      · rename_i h3'
        have h3' : i = 0 := by simp at h3'; omega
        rw [if_pos h3'] at hq
        subst hq
        exact good (by simp at h1' h2'; rintro (h | h | h); · omega
                       · omega
                       · cases h)
  -- the arguments
  refine clv_f (drawers_Ledger_Deposit_1.ok ⟨_, c2 (X0 E), al_f (er w1) fun b9 w2 _ hat9 E2 _ _ => ?_⟩)
  refine id_c (rd_ints [thing] hat9) (by simp [maxLen]) fun w3 E3 => ?_
  have E3 := E2.ext E3
  have F3 := X0 (E.ext E3)
  have j1 : ∀ v, v = decide (!isId thing ∨ layer < 1 ∨ 3 < layer) → drawers_Ledger_Deposit_1.j1 (DoesQ (fun k => k = b5) (RetO (YInts b5 s0) (gDeposit day thing layer goods M)) w1 R1 b) (some ⟨b, 0, none⟩) ⟨b2, 0, none⟩ ⟨b3, 0, none⟩ ⟨b4, 0, none⟩ ⟨b1, 0, none⟩ ⟨b5, 0, none⟩ v w3 := by
    intro v hv
    unfold drawers_Ledger_Deposit_1.j1
    subst hv
    refine ifb ?_
    split
    · rename_i hv
      have hv := of_decide_eq_true hv
      refine same (by decide) ⟨[], ?_⟩ E3
      unfold gDeposit; rw [if_pos hv]
    · rename_i hv
      have hv : ¬ (!isId thing ∨ layer < 1 ∨ 3 < layer) := fun h => hv (decide_eq_true h)
      refine ⟨_, _, _, c4 F3, ifb ?_⟩
      have hgn := hg.1
      split
      · rename_i hl
        refine same (by decide) ⟨[], ?_⟩ E3
        unfold gDeposit; rw [if_neg hv, if_pos (by have := of_decide_eq_true hl; omega)]
      · rename_i hl
        exact ⟨_, _, _, c4 F3, gn + 1, lookL gn 0 w3 none (by omega) (by simp at hl; omega) (by simp) E3 (by simp) hv⟩
  rw [isId_one]
  refine ifb ?_
  split
  · rename_i hi; exact j1 true (by symm; exact decide_eq_true (.inl hi))
  rename_i hi
  refine ⟨_, c3 F3, ifb ?_⟩
  split
  · rename_i hl; exact j1 true (by symm; exact decide_eq_true (.inr (.inl (of_decide_eq_true hl))))
  rename_i hl
  refine ⟨_, c3 F3, j1 _ ?_⟩
  simp only [gt_iff_lt, decide_eq_decide]
  simp at hl
  constructor
  · intro h; exact .inr (.inr h)
  · rintro (h | h | h)
    · exact absurd h hi
    · omega
    · exact h

theorem deposit_c {w : World} {R : Nat → Prop} {bL : Nat} {st : Tstate} {M : MState} (h : Led w R bL st M) (hG : Good M) {day thing layer : Int} {ga : Option Addr} {gn gc : Nat} {goods : List TAmount} (hg : Rd TAmount.enc 2 w ga gn goods) (hgl : gn ≤ maxLen) {Q : Option Addr → Nat → Nat → Int → World → Prop}
    (hQ : ∀ a n c w' R' st', Led w' R' bL st' (M.deposit day thing layer goods).2.1 → (∀ k, R' k → R k ∨ w.heap.size ≤ k) → Frm (fun k => k = bL) w w' → Own 3 1 encI w' a n c (M.deposit day thing layer goods).2.2 → (∀ k, obk a c = some k → w.heap.size ≤ k) → Q a n c (M.deposit day thing layer goods).1 w') :
    Cl Pg 35 #[vp ⟨bL, 0, none⟩, vi day, vi thing, vi layer, vl ga gn gc] w (fun v w' => ∃ a n c r, v = .tuple #[vl a n c, vi r] ∧ Q a n c r w') := by
  refine drawers_Ledger_Deposit.ok (al_f (er w) fun b1 w1 hb1 h1 E e1 n1 => al_f E fun b2 w2 hb2 h2 E e2 n2 => al_f E fun b3 w3 hb3 h3 E e3 n3 => al_f E fun b4 w4 hb4 h4 E e4 n4 => al_f E fun b5 w5 hb5 h5 E e5 n5 => ?_)
  have h1 := (((h1.ext e2).ext e3).ext e4).ext e5
  have h2 := ((h2.ext e3).ext e4).ext e5
  have h3 := (h3.ext e4).ext e5
  have h4 := h4.ext e5
  refine ⟨_, cell_blk h1 rfl, ?_⟩
  have hbL := h.blk.lt
  have hg5 := hg.ext E
  obtain ⟨s1, _, s2, _⟩ := hG.adv day
  have s2 := hG.adv day
  refine operateO_c (h.ext E) hG (C := fun k => k = b5) (z := ([] : List Int)) (Y := YInts b5 w.heap.size) (g := gDeposit day thing layer goods) (by omega) (fun o w2 w6 => YInts.keep) (fun _ _ _ => doesDeposit h1 h2 h3 h4 h5 hg5 hgl (fun a0 ha hn => ?_) s2.1 (by have := s2.2.2.1; omega) E.size) ?_ (fun k hk e => by have := h.free.rLt k hk; omega)
  · have := hg.block_lt (fun x => by simp [TAmount.enc]) a0 ha hn; omega
  · intro w' R' st' hL hR F hy hz
    have hR' : ∀ k, R' k → R k ∨ w.heap.size ≤ k := fun k hk => (hR k hk).imp id fun h => Nat.le_trans E.size h
    have F' : Frm (fun k => k = bL) w w' := (Ext.frm E).trans F fun k hk hk' => hk'.elim (fun e => by omega) id
    have e : M.deposit day thing layer goods = M.operO [] day (gDeposit day thing layer goods) := rfl
    rw [← e] at *
    refine ifb ?_
    split
    · rename_i hr
      have hr : (M.deposit day thing layer goods).1 ≠ 0 := by simpa using hr
      refine hQ _ _ _ _ R' st' hL hR' F' ?_ (fun k hk => by cases hk)
      rw [show (M.deposit day thing layer goods).2.2 = [] from hz hr]
      exact Own.nil
    · rename_i hr
      have hr : (M.deposit day thing layer goods).1 = 0 := by simpa using hr
      obtain ⟨a, n, c, g1, g2, g3⟩ := hy hr
      refine ⟨_, _, _, cell_blk g1 rfl, ?_⟩
      have := hQ a n c w' R' st' hL hR' F' g2 g3
      rw [hr] at this
      exact this
end Go.Proofs.YtcbijkakoepglaaGreat
namespace Go.Proofs.YtcbijkakoepglaaGreat
open Go Go.Wx
set_option maxRecDepth 100000
def drawers_state_each.j1 (Q : Option Addr → Nat → Nat → Int → World → Prop) (do_ : Value) (v1_a : Option Addr) (v1_n : Nat) (v1_c : Nat) (v2 : Bool) (v3 : Int) (kl1 : Option Addr → Nat → Nat → Bool → Int → World → Prop) (p3 : Addr) (v4 : Bool) (w2 : World) : Prop := (
 Ifb v4
 (Dr w2 fun w3 =>
 LdS w3 (Addr.add (Addr.add p3 (v3.toNat * 10)) 5) fun x3 =>
 LdI .i64 w3 (Addr.add (Addr.add p3 (v3.toNat * 10)) 7) fun x4 =>
 Al w3 (.cells #[vs x3, vi x4] 58) fun b1 w4 =>
 Ap Pg w4 #[53, 53] 53 (vl v1_a v1_n v1_c) (vl (some ⟨b1, 0, none⟩) 1 1) fun a1_a a1_n a1_c w5 =>
 Clv Pg do_ #[vp (Addr.add p3 (v3.toNat * 10))] w5 (fun v w6 => v = .tuple #[] ∧ kl1 a1_a a1_n a1_c false (IntKind.wrap .i64 (v3 + 1)) w6))
 (kl1 v1_a v1_n v1_c v2 (IntKind.wrap .i64 (v3 + 1)) w2))
def drawers_state_each.l1 (Q : Option Addr → Nat → Nat → Int → World → Prop) (s : Option Addr) (thing : Int) (in_ : Int) (do_ : Value) (x1_n : Nat) : Nat → Option Addr → Nat → Nat → Bool → Int → World → Prop
 | 0, _, _, _, _, _, _ => False
 | nl1 + 1, v1_a, v1_n, v1_c, v2, v3, w1 => (
 Ifb (decide (v3 < ((x1_n : Nat) : Int)))
 (NN s fun p2 =>
 LdSl w1 (Addr.add p2 3) fun x2_a x2_n x2_c =>
 Ix x2_a x2_n v3 fun p3 =>
 LdI .i64 w1 (Addr.add (Addr.add p3 (v3.toNat * 10)) 1) fun x5 =>
 Ifb (x5 == thing)
 (LdI .u8 w1 (Addr.add (Addr.add p3 (v3.toNat * 10)) 8) fun x6 =>
 drawers_state_each.j1 Q do_ v1_a v1_n v1_c v2 v3 (drawers_state_each.l1 Q s thing in_ do_ x1_n nl1) p3 (x6 == in_) w1)
 (drawers_state_each.j1 Q do_ v1_a v1_n v1_c v2 v3 (drawers_state_each.l1 Q s thing in_ do_ x1_n nl1) p3 false w1))
 (Ifb v2
 (Q none 0 0 5 w1)
 (Cl Pg 88 #[vl v1_a v1_n v1_c] w1 (fun v w7 => ∃ r1_a r1_n r1_c, v = vl r1_a r1_n r1_c ∧ Q r1_a r1_n r1_c 0 w7))))
def drawers_state_each.R (Q : Option Addr → Nat → Nat → Int → World → Prop) (s : Option Addr) (thing : Int) (in_ : Int) (do_ : Value) (w : World) : Prop := (
 NN s fun p1 =>
 LdSl w (Addr.add p1 3) fun x1_a x1_n x1_c =>
 ∃ k, drawers_state_each.l1 Q s thing in_ do_ x1_n k none 0 0 true 0 w)
theorem drawers_state_each.ok {Q : Option Addr → Nat → Nat → Int → World → Prop} {s : Option Addr} {thing : Int} {in_ : Int} {do_ : Value} {w : World} (h : drawers_state_each.R Q s thing in_ do_ w) : Cl Pg 148 #[vP s, vi thing, vu in_, do_] w (fun v w' => ∃ r0a r0n r0c r1, v = .tuple #[vl r0a r0n r0c, vi r1] ∧ Q r0a r0n r0c r1 w') := by
 refine calls_args (args := [vP s, vi thing, vu in_, do_]) Tryz.func148 ?_
 unfold drawers_state_each.R at h
 refine W_regseq <| ps 2 [(8, vl none 0 0), (9, vi 0)] <| WO_nil <| W_regseq <| ps 1 [(10, vl none 0 0)] <| WO_nil <| W_regseq <| ps 1 [(11, vb true)] <| WO_nil <| W_seq <| W_regseq <| ps 1 [(14, vP s)] <| nn h fun p1 h => ps 1 [(16, vp (Addr.add p1 3))] ?_
 obtain ⟨x1_a, x1_n, x1_c, hx1, h⟩ := h
 refine ld1 tk46 hx1 <| ps 2 [(18, vi (x1_n : Nat)), (19, vi 0)] <| WO_nil <| W_block ?_
 obtain ⟨nl1, h⟩ := h
 refine W_loopI (fun k e w1 => ∃ (e0 : Env) (v1_a : Option Addr) (v1_n : Nat) (v1_c : Nat) (v2 : Bool) (v3 : Int), e = upds e0 [(0, vP s), (1, vi thing), (2, vu in_), (3, do_), (10, vl v1_a v1_n v1_c), (11, vb v2), (18, vi (x1_n : Nat)), (19, vi v3)] ∧ drawers_state_each.l1 Q s thing in_ do_ x1_n k v1_a v1_n v1_c v2 v3 w1) nl1 ?_ ?_ ?_
 rintro _ _ ⟨_, _, _, _, _, _, _, h⟩
 exact h
 exact ⟨_, none, 0, 0, true, 0, Agree.eq ⟨rfl, rfl, rfl, rfl, rfl, rfl, rfl, rfl, trivial⟩, h⟩
 clear h nl1
 rintro nl1 _ w1 ⟨e0, v1_a, v1_n, v1_c, v2, v3, rfl, h⟩
 unfold drawers_state_each.l1 at h
 refine W_regseq <| ps 1 [(20, vb (decide (v3 < ((x1_n : Nat) : Int))))] <| WO_nil <| W_seq <| ci h (fun h => ?_) fun h => ?_
 refine W_skip <| W_seq <| W_block <| W_regseq <| ps 2 [(21, vi v3), (12, vi v3)] <| WO_nil <| W_regseq <| ps 1 [(22, vP s)] <| nn h fun p2 h => ps 1 [(24, vp (Addr.add p2 3))] ?_
 obtain ⟨x2_a, x2_n, x2_c, hx2, h⟩ := h
 refine ld1 tk46 hx2 <| ps 1 [(26, vi v3)] <| ix slk46 h fun p3 h => ps 1 [(13, vp (Addr.add p3 (v3.toNat * 10)))] <| WO_nil <| W_join (fun e w2 => ∃ (e0 : Env) (v4 : Bool), e = upds e0 [(0, vP s), (1, vi thing), (2, vu in_), (3, do_), (10, vl v1_a v1_n v1_c), (11, vb v2), (13, vp (Addr.add p3 (v3.toNat * 10))), (18, vi (x1_n : Nat)), (19, vi v3), (41, vb v4)] ∧ drawers_state_each.j1 Q do_ v1_a v1_n v1_c v2 v3 (drawers_state_each.l1 Q s thing in_ do_ x1_n nl1) p3 v4 w2) ?_ ?_
 refine W_reg <| ps 3 [(28, vp (Addr.add p3 (v3.toNat * 10))), (29, vp (Addr.add p3 (v3.toNat * 10))), (30, vp (Addr.add (Addr.add p3 (v3.toNat * 10)) 1))] ?_
 obtain ⟨x5, hx5, h⟩ := h
 refine ld1 tk3 hx5 <| ps 3 [(32, vi thing), (33, vb (x5 == thing)), (34, vb (x5 == thing))] <| cs 34 h (fun h => ?_) fun h => ?_
 refine ps 3 [(35, vp (Addr.add p3 (v3.toNat * 10))), (36, vp (Addr.add p3 (v3.toNat * 10))), (37, vp (Addr.add (Addr.add p3 (v3.toNat * 10)) 8))] ?_
 obtain ⟨x6, hx6, h⟩ := h
 exact ld1 tk5 hx6 <| ps 3 [(39, vu in_), (40, vb (x6 == in_)), (41, vb (x6 == in_))] <| WO_nil <| ⟨_, (x6 == in_), Agree.eq ⟨rfl, rfl, rfl, rfl, rfl, rfl, rfl, rfl, rfl, rfl, trivial⟩, h⟩
 exact ps 7 [(35, undef), (36, undef), (37, undef), (38, undef), (39, undef), (40, undef), (41, vb false)] <| WO_nil <| ⟨_, false, Agree.eq ⟨rfl, rfl, rfl, rfl, rfl, rfl, rfl, rfl, rfl, rfl, trivial⟩, h⟩
 clear h
 rintro _ w2 ⟨e0, v4, rfl, h⟩
 unfold drawers_state_each.j1 at h
 refine ci h (fun h => ?_) fun h => ?_
 refine W_regseq <| ps 1 [(11, vb false)] <| WO_nil <| drs folM [[], [], [], [], [], [], [], [], [], [4, 8], [4, 8], [4, 8], [4, 8]] [.p 0, .p 1, .p 2, .p 3, .l 4, .p 5, .p 6, .p 7, .l 8, .p 9, .e 10, .e 11, .p 12] h ?_
 intro w3 _ h
 refine psC 4 [(42, vl v1_a v1_n v1_c), (43, vp (Addr.add p3 (v3.toNat * 10))), (44, vp (Addr.add p3 (v3.toNat * 10))), (45, vp (Addr.add (Addr.add p3 (v3.toNat * 10)) 5))] ?_
 obtain ⟨x3, hx3, h⟩ := h
 refine ld1C tk9 hx3 <| psC 3 [(47, vp (Addr.add p3 (v3.toNat * 10))), (48, vp (Addr.add p3 (v3.toNat * 10))), (49, vp (Addr.add (Addr.add p3 (v3.toNat * 10)) 7))] ?_
 obtain ⟨x4, hx4, h⟩ := h
 refine ld1C tk3 hx4 <| psC 1 [(51, vg [vs x3, vi x4])] <| alsC 1 h ?_
 intro b1 w4 _ _ _ h
 refine ⟨AllOk.nil, ?_⟩
 refine apC h ?_
 rintro a1_a a1_n a1_c w5 h
 refine ⟨AllOk.nil, ?_⟩
 refine psC 1 [(10, vl a1_a a1_n a1_c)] <| WC_nil <| W_reg <| ps 2 [(54, do_), (55, vp (Addr.add p3 (v3.toNat * 10)))] <| clv h ?_
 rintro _ w6 ⟨rfl, h⟩
 exact WO_nil <| blockK_normal <| W_reg <| ps 2 [(57, vi (IntKind.wrap .i64 (v3 + 1))), (19, vi (IntKind.wrap .i64 (v3 + 1)))] <| WO_nil <| ⟨_, a1_a, a1_n, a1_c, false, IntKind.wrap .i64 (v3 + 1), Agree.eq ⟨rfl, rfl, rfl, rfl, rfl, rfl, rfl, rfl, trivial⟩, h⟩
 exact W_skip <| blockK_normal <| W_reg <| ps 2 [(57, vi (IntKind.wrap .i64 (v3 + 1))), (19, vi (IntKind.wrap .i64 (v3 + 1)))] <| WO_nil <| ⟨_, v1_a, v1_n, v1_c, v2, IntKind.wrap .i64 (v3 + 1), Agree.eq ⟨rfl, rfl, rfl, rfl, rfl, rfl, rfl, rfl, trivial⟩, h⟩
 refine W_exit <| blockK_hit <| W_seq <| W_regseq <| ps 1 [(58, vb v2)] <| WO_nil <| ci h (fun h => ?_) fun h => ?_
 exact W_regseq <| ps 2 [(8, vl none 0 0), (9, vi 5)] <| WO_nil <| W_ret <| seqK_ret <| ret2 (v := vl none 0 0) (v' := vi 5) (t := 8) (u := 9) rfl rfl rfl ⟨_, _, _, _, rfl, h⟩
 refine W_skip <| W_regseq <| ps 1 [(59, vl v1_a v1_n v1_c)] <| cl h ?_
 rintro _ w7 ⟨r1_a, r1_n, r1_c, rfl, h⟩
 exact ps 2 [(8, vl r1_a r1_n r1_c), (9, vi 0)] <| WO_nil <| W_ret <| ret2 (v := vl r1_a r1_n r1_c) (v' := vi 0) (t := 8) (u := 9) rfl rfl rfl ⟨_, _, _, _, rfl, h⟩
def drawers_Ledger_moved_1.j2 (Q : Int → World → Prop) (p6_6 : Addr) (b1 : Nat) (r2 : Int) (v2 : Bool) (w5 : World) : Prop := (
 Ifb v2
 (LdV w5 p6_6 fun x4 =>
 LdP w5 ⟨b1, 0, none⟩ fun x5 =>
 Clv Pg x4 #[vP x5] w5 (fun v w6 => v = .tuple #[] ∧ Q r2 w6))
 (Q r2 w5))
def drawers_Ledger_moved_1.j1 (Q : Int → World → Prop) (p1_1 : Addr) (p3_3 : Addr) (p4_4 : Addr) (p5_5 : Addr) (p6_6 : Addr) (b1 : Nat) (v1 : Bool) (w2 : World) : Prop := (
 Ifb v1
 (Q 1 w2)
 (LdP w2 ⟨b1, 0, none⟩ fun x1 =>
 LdI .i64 w2 p1_1 fun x2 =>
 LdI .u8 w2 p3_3 fun x3 =>
 Cl Pg 148 #[vP x1, vi x2, vu x3, .func (.func 149) #[] #[vp p4_4, vp ⟨b1, 0, none⟩]] w2 (fun v w3 => ∃ r1_a r1_n r1_c r2, v = .tuple #[vl r1_a r1_n r1_c, vi r2] ∧ St w3 p5_5 ([vl r1_a r1_n r1_c]) fun w4 =>
 Ifb (r2 == 0)
 (LdV w4 p6_6 fun x6 =>
 isFn x6 = true ∧ drawers_Ledger_moved_1.j2 Q p6_6 b1 r2 (!isNilF x6) w4)
 (drawers_Ledger_moved_1.j2 Q p6_6 b1 r2 false w4))))
def drawers_Ledger_moved_1.R (Q : Int → World → Prop) (s : Option Addr) (p1_1 : Addr) (p2_2 : Addr) (p3_3 : Addr) (p4_4 : Addr) (p5_5 : Addr) (p6_6 : Addr) (w : World) : Prop := (
 Al w (.cells #[vP s] 124) fun b1 w1 =>
 LdI .i64 w1 p1_1 fun x7 =>
 Al w1 (.cells #[vi x7] 3) fun b2 w7 =>
 Cl Pg 87 #[vl (some ⟨b2, 0, none⟩) 1 1] w7 (fun v w8 => ∃ r3, v = vb r3 ∧ Ifb (!r3)
 (drawers_Ledger_moved_1.j1 Q p1_1 p3_3 p4_4 p5_5 p6_6 b1 true w8)
 (LdB w8 p2_2 fun x8 =>
 drawers_Ledger_moved_1.j1 Q p1_1 p3_3 p4_4 p5_5 p6_6 b1 (!x8) w8)))
theorem drawers_Ledger_moved_1.ok {Q : Int → World → Prop} {s : Option Addr} {p1_1 : Addr} {p2_2 : Addr} {p3_3 : Addr} {p4_4 : Addr} {p5_5 : Addr} {p6_6 : Addr} {w : World} (h : drawers_Ledger_moved_1.R Q s p1_1 p2_2 p3_3 p4_4 p5_5 p6_6 w) : Cl Pg 147 #[vP s, vp p1_1, vp p2_2, vp p3_3, vp p4_4, vp p5_5, vp p6_6] w (fun v w' => ∃ r0, v = vi r0 ∧ Q r0 w') := by
 refine calls_args (args := [vP s, vp p1_1, vp p2_2, vp p3_3, vp p4_4, vp p5_5, vp p6_6]) Tryz.func147 ?_
 unfold drawers_Ledger_moved_1.R at h
 refine W_regseq <| alp h ?_
 intro b1 w1 _ _ _ h
 refine ps 1 [(8, vi 0)] <| WO_nil <| W_seq <| W_join (fun e w2 => ∃ (e0 : Env) (v1 : Bool), e = upds e0 [(1, vp p1_1), (3, vp p3_3), (4, vp p4_4), (5, vp p5_5), (6, vp p6_6), (7, vp ⟨b1, 0, none⟩), (18, vb v1)] ∧ drawers_Ledger_moved_1.j1 Q p1_1 p3_3 p4_4 p5_5 p6_6 b1 v1 w2) ?_ ?_
 refine W_reg ?_
 obtain ⟨x7, hx7, h⟩ := h
 refine ld1 tk3 hx7 <| als 1 h ?_
 intro b2 w7 _ _ _ h
 refine cl h ?_
 rintro _ w8 ⟨r3, rfl, h⟩
 refine ps 2 [(14, vb (!r3)), (15, vb (!r3))] <| cs 15 h (fun h => ?_) fun h => ?_
 exact ps 3 [(16, undef), (17, undef), (18, vb true)] <| WO_nil <| ⟨_, true, Agree.eq ⟨rfl, rfl, rfl, rfl, rfl, rfl, rfl, trivial⟩, h⟩
 obtain ⟨x8, hx8, h⟩ := h
 exact ld1 tk4 hx8 <| ps 2 [(17, vb (!x8)), (18, vb (!x8))] <| WO_nil <| ⟨_, (!x8), Agree.eq ⟨rfl, rfl, rfl, rfl, rfl, rfl, rfl, trivial⟩, h⟩
 clear h
 rintro _ w2 ⟨e0, v1, rfl, h⟩
 unfold drawers_Ledger_moved_1.j1 at h
 refine ci h (fun h => ?_) fun h => ?_
 exact W_regseq <| ps 1 [(8, vi 1)] <| WO_nil <| W_ret <| seqK_ret <| ret1 (v := vi 1) (t := 8) rfl rfl ⟨_, rfl, h⟩
 refine W_skip <| W_regseq ?_
 obtain ⟨x1, hx1, h⟩ := h
 refine ld1 tk124 hx1 ?_
 obtain ⟨x2, hx2, h⟩ := h
 refine ld1 tk3 hx2 ?_
 obtain ⟨x3, hx3, h⟩ := h
 refine ld1 tk5 hx3 <| ps 1 [(23, .func (.func 149) #[] #[vp p4_4, vp ⟨b1, 0, none⟩])] <| cl h ?_
 rintro _ w3 ⟨r1_a, r1_n, r1_c, r2, rfl, h⟩
 refine ps 5 [(19, .tuple #[vl r1_a r1_n r1_c, vi r2]), (25, vl r1_a r1_n r1_c), (26, vi r2), (9, vl r1_a r1_n r1_c), (10, vi r2)] <| WO_nil <| W_regseq <| ps 1 [(27, vl r1_a r1_n r1_c)] <| st tk53 h ?_
 rintro w4 h
 refine WO_nil <| W_seq <| W_join (fun e w5 => ∃ (e0 : Env) (v2 : Bool), e = upds e0 [(6, vp p6_6), (7, vp ⟨b1, 0, none⟩), (10, vi r2), (33, vb v2)] ∧ drawers_Ledger_moved_1.j2 Q p6_6 b1 r2 v2 w5) ?_ ?_
 refine W_reg <| ps 3 [(28, vi r2), (29, vb (r2 == 0)), (30, vb (r2 == 0))] <| cs 30 h (fun h => ?_) fun h => ?_
 obtain ⟨x6, hx6, h⟩ := h
 refine ld1 tk181 hx6 ?_
 obtain ⟨hfn, h⟩ := h
 refine WO_p rfl rfl (v := vb (!isNilF x6)) (ex_neqnilf_l (by kernel_rfl) rfl rfl rfl hfn) ?_
 clear hfn
 exact ps 1 [(33, vb (!isNilF x6))] <| WO_nil <| ⟨_, (!isNilF x6), Agree.eq ⟨rfl, rfl, rfl, rfl, trivial⟩, h⟩
 exact ps 3 [(31, undef), (32, undef), (33, vb false)] <| WO_nil <| ⟨_, false, Agree.eq ⟨rfl, rfl, rfl, rfl, trivial⟩, h⟩
 clear h
 rintro _ w5 ⟨e0, v2, rfl, h⟩
 unfold drawers_Ledger_moved_1.j2 at h
 refine ci h (fun h => ?_) fun h => ?_
 refine W_reg ?_
 obtain ⟨x4, hx4, h⟩ := h
 refine ld1 tk181 hx4 ?_
 obtain ⟨x5, hx5, h⟩ := h
 refine ld1 tk124 hx5 <| clv h ?_
 rintro _ w6 ⟨rfl, h⟩
 exact WO_nil <| W_regseq <| ps 2 [(37, vi r2), (8, vi r2)] <| WO_nil <| W_ret <| ret1 (v := vi r2) (t := 8) rfl rfl ⟨_, rfl, h⟩
 exact W_skip <| W_regseq <| ps 2 [(37, vi r2), (8, vi r2)] <| WO_nil <| W_ret <| ret1 (v := vi r2) (t := 8) rfl rfl ⟨_, rfl, h⟩
def drawers_Ledger_moved_1_1.R (Q : World → Prop) (x : Option Addr) (p1_1 : Addr) (p2_2 : Addr) (w : World) : Prop := (
 LdV w p1_1 fun x1 =>
 LdP w p2_2 fun x2 =>
 Clv Pg x1 #[vP x2, vP x] w (fun v w1 => v = .tuple #[] ∧ Q w1))
theorem drawers_Ledger_moved_1_1.ok {Q : World → Prop} {x : Option Addr} {p1_1 : Addr} {p2_2 : Addr} {w : World} (h : drawers_Ledger_moved_1_1.R Q x p1_1 p2_2 w) : Cl Pg 149 #[vP x, vp p1_1, vp p2_2] w (fun v w' => v = .tuple #[] ∧ Q w') := by
 refine calls_args (args := [vP x, vp p1_1, vp p2_2]) Tryz.func149 ?_
 unfold drawers_Ledger_moved_1_1.R at h
 refine W_reg ?_
 obtain ⟨x1, hx1, h⟩ := h
 refine ld1 tk136 hx1 ?_
 obtain ⟨x2, hx2, h⟩ := h
 refine ld1 tk124 hx2 <| ps 1 [(6, vP x)] <| clv h ?_
 rintro _ w1 ⟨rfl, h⟩
 exact WO_nil <| retN <| ret0 rfl ⟨rfl, h⟩
def drawers_Ledger_moved.R (Q : Option Addr → Nat → Nat → Int → World → Prop) (l : Option Addr) (day : Int) (thing : Int) (ok : Bool) (in_ : Int) (do_ : Value) (then_ : Value) (w : World) : Prop := (
 Al w (.cells #[vi thing] 3) fun b1 w1 =>
 Al w1 (.cells #[vb ok] 4) fun b2 w2 =>
 Al w2 (.cells #[vu in_] 5) fun b3 w3 =>
 isOne do_ = true ∧ Al w3 (.cells #[do_] 136) fun b4 w4 =>
 isOne then_ = true ∧ Al w4 (.cells #[then_] 181) fun b5 w5 =>
 Al w5 (.cells #[vl none 0 0] 53) fun b6 w6 =>
 Cl Pg 76 #[vP l, vi day, .func (.func 147) #[] #[vp ⟨b1, 0, none⟩, vp ⟨b2, 0, none⟩, vp ⟨b3, 0, none⟩, vp ⟨b4, 0, none⟩, vp ⟨b6, 0, none⟩, vp ⟨b5, 0, none⟩]] w6 (fun v w7 => ∃ r1, v = vi r1 ∧ Ifb (r1 != 0)
 (Q none 0 0 r1 w7)
 (LdSl w7 ⟨b6, 0, none⟩ fun x1_a x1_n x1_c =>
 Q x1_a x1_n x1_c 0 w7)))
theorem drawers_Ledger_moved.ok {Q : Option Addr → Nat → Nat → Int → World → Prop} {l : Option Addr} {day : Int} {thing : Int} {ok : Bool} {in_ : Int} {do_ : Value} {then_ : Value} {w : World} (h : drawers_Ledger_moved.R Q l day thing ok in_ do_ then_ w) : Cl Pg 89 #[vP l, vi day, vi thing, vb ok, vu in_, do_, then_] w (fun v w' => ∃ r0a r0n r0c r1, v = .tuple #[vl r0a r0n r0c, vi r1] ∧ Q r0a r0n r0c r1 w') := by
 refine calls_args (args := [vP l, vi day, vi thing, vb ok, vu in_, do_, then_]) Tryz.func89 ?_
 unfold drawers_Ledger_moved.R at h
 refine W_regseq <| alp h ?_
 intro b1 w1 _ _ _ h
 refine alp h ?_
 intro b2 w2 _ _ _ h
 refine alp h ?_
 intro b3 w3 _ _ _ h
 obtain ⟨hone, h⟩ := h
 refine WO_al (obj := .cells #[do_] 136) (vf := fun b => .pointer (some ⟨b, 0, none⟩)) rfl rfl (ex_boxv rfl rfl hone) ?_
 intro b4 w4 eb ew
 replace h := Al.at h eb ew
 have hb_b4 := al_new eb ew
 clear eb ew hb_b4
 obtain ⟨hone, h⟩ := h
 refine WO_al (obj := .cells #[then_] 181) (vf := fun b => .pointer (some ⟨b, 0, none⟩)) rfl rfl (ex_boxv rfl rfl hone) ?_
 intro b5 w5 eb ew
 replace h := Al.at h eb ew
 have hb_b5 := al_new eb ew
 clear eb ew hb_b5
 refine ps 2 [(14, vl none 0 0), (15, vi 0)] <| WO_nil <| W_regseq <| alp h ?_
 intro b6 w6 _ _ _ h
 refine WO_nil <| W_regseq <| ps 3 [(18, vP l), (19, vi day), (20, .func (.func 147) #[] #[vp ⟨b1, 0, none⟩, vp ⟨b2, 0, none⟩, vp ⟨b3, 0, none⟩, vp ⟨b4, 0, none⟩, vp ⟨b6, 0, none⟩, vp ⟨b5, 0, none⟩])] <| cl h ?_
 rintro _ w7 ⟨r1, rfl, h⟩
 refine ps 1 [(17, vi r1)] <| WO_nil <| W_seq <| W_regseq <| ps 2 [(22, vi r1), (23, vb (r1 != 0))] <| WO_nil <| ci h (fun h => ?_) fun h => ?_
 exact W_regseq <| ps 3 [(24, vi r1), (14, vl none 0 0), (15, vi r1)] <| WO_nil <| W_ret <| seqK_ret <| ret2 (v := vl none 0 0) (v' := vi r1) (t := 14) (u := 15) rfl rfl rfl ⟨_, _, _, _, rfl, h⟩
 refine W_skip <| W_regseq ?_
 obtain ⟨x1_a, x1_n, x1_c, hx1, h⟩ := h
 exact ld1 tk53 hx1 <| ps 2 [(14, vl x1_a x1_n x1_c), (15, vi 0)] <| WO_nil <| W_ret <| ret2 (v := vl x1_a x1_n x1_c) (v' := vi 0) (t := 14) (u := 15) rfl rfl rfl ⟨_, _, _, _, rfl, h⟩
def drawers_Ledger_Pay.R (Q : Option Addr → Nat → Nat → Int → World → Prop) (l : Option Addr) (day : Int) (thing : Int) (person : Int) (w : World) : Prop := (
 Al w (.cells #[vi day] 3) fun b1 w1 =>
 Al w1 (.cells #[vi thing] 3) fun b2 w2 =>
 Al w2 (.cells #[vi person] 3) fun b3 w3 =>
 Dr w3 fun w4 =>
 LdI .i64 w4 ⟨b1, 0, none⟩ fun x1 =>
 LdI .i64 w4 ⟨b2, 0, none⟩ fun x2 =>
 LdI .i64 w4 ⟨b3, 0, none⟩ fun x3 =>
 Al w4 (.cells #[vi x3] 3) fun b4 w5 =>
 Cl Pg 87 #[vl (some ⟨b4, 0, none⟩) 1 1] w5 (fun v w6 => ∃ r1, v = vb r1 ∧ w6.cell? ⟨b1, 0, none⟩ = some (vi x1) ∧ w6.cell? ⟨b2, 0, none⟩ = some (vi x2) ∧ Cl Pg 89 #[vP l, vi x1, vi x2, vb r1, vu 1, .func (.func 122) #[] #[vp ⟨b1, 0, none⟩, vp ⟨b2, 0, none⟩, vp ⟨b3, 0, none⟩], .nilFunc] w6 (fun v w7 => ∃ r2_a r2_n r2_c r3, v = .tuple #[vl r2_a r2_n r2_c, vi r3] ∧ Q r2_a r2_n r2_c r3 w7)))
theorem drawers_Ledger_Pay.ok {Q : Option Addr → Nat → Nat → Int → World → Prop} {l : Option Addr} {day : Int} {thing : Int} {person : Int} {w : World} (h : drawers_Ledger_Pay.R Q l day thing person w) : Cl Pg 65 #[vP l, vi day, vi thing, vi person] w (fun v w' => ∃ r0a r0n r0c r1, v = .tuple #[vl r0a r0n r0c, vi r1] ∧ Q r0a r0n r0c r1 w') := by
 refine calls_args (args := [vP l, vi day, vi thing, vi person]) Tryz.func65 ?_
 unfold drawers_Ledger_Pay.R at h
 refine W_regseq <| alp h ?_
 intro b1 w1 _ _ _ h
 refine alp h ?_
 intro b2 w2 _ _ _ h
 refine alp h ?_
 intro b3 w3 _ _ _ h
 refine ps 2 [(8, vl none 0 0), (9, vi 0)] <| WO_nil <| drs folM [[], [], [], [], [3], [3], [], [1, 2, 3], [1, 2, 3], [1, 2, 3], [1, 2, 3], [1, 2, 3]] [.p 0, .l 1, .l 2, .l 3, .p 6, .e 4, .e 5, .e 7, .p 8, .p 9, .p 10, .p 11] h ?_
 intro w4 _ h
 refine psC 1 [(10, vP l)] ?_
 obtain ⟨x1, hx1, h⟩ := h
 refine ld1C tk3 hx1 ?_
 obtain ⟨x2, hx2, h⟩ := h
 refine ld1C tk3 hx2 ?_
 obtain ⟨x3, hx3, h⟩ := h
 refine ld1C tk3 hx3 <| psC 1 [(16, .func (.func 122) #[] #[vp ⟨b1, 0, none⟩, vp ⟨b2, 0, none⟩, vp ⟨b3, 0, none⟩])] <| alsC 1 h ?_
 intro b4 w5 eb ew hb_b4 h
 replace hx1 := al_ld ew hx1
 replace hx2 := al_ld ew hx2
 clear eb ew hb_b4
 refine ⟨AllOk.cons (Pend_ok (ex_load rfl rfl (run_loadVar1 tk3 hx2))) <| AllOk.cons (Pend_ok (ex_load rfl rfl (run_loadVar1 tk3 hx1))) <| AllOk.nil, ?_⟩
 refine clC h ?_
 rintro _ w6 ⟨r1, rfl, hk0, hk1, h⟩
 replace hx1 := hk0
 replace hx2 := hk1
 refine ⟨AllOk.cons (Pend_ok (ex_load rfl rfl (run_loadVar1 tk3 hx2))) <| AllOk.cons (Pend_ok (ex_load rfl rfl (run_loadVar1 tk3 hx1))) <| AllOk.nil, ?_⟩
 refine clC h ?_
 rintro _ w7 ⟨r2_a, r2_n, r2_c, r3, rfl, h⟩
 refine ⟨AllOk.nil, ?_⟩
 exact psC 4 [(18, vl r2_a r2_n r2_c), (19, vi r3), (8, vl r2_a r2_n r2_c), (9, vi r3)] <| WC_nil <| W_ret <| ret2 (v := vl r2_a r2_n r2_c) (v' := vi r3) (t := 8) (u := 9) rfl rfl rfl ⟨_, _, _, _, rfl, h⟩
def drawers_Ledger_Pay_1.R (Q : World → Prop) (s : Option Addr) (x : Option Addr) (p2_2 : Addr) (p3_3 : Addr) (p4_4 : Addr) (w : World) : Prop := (
 Dr w fun w1 =>
 LdI .i64 w1 p2_2 fun x1 =>
 NN x fun p1 =>
 LdS w1 (Addr.add p1 5) fun x2 =>
 NN x fun p2 =>
 LdI .i64 w1 (Addr.add p2 7) fun x3 =>
 LdI .i64 w1 p3_3 fun x4 =>
 LdI .i64 w1 p4_4 fun x5 =>
 NN x fun p3 =>
 LdI .i64 w1 p3 fun x6 =>
 Cl Pg 82 #[vP s, vi x1, vs x2, vi x3, vg [vu 2, vi x4], vg [vu 3, vi x5], vu 2, vi x6] w1 (fun v w2 => v = .tuple #[] ∧ NN x fun p4 =>
 St w2 (Addr.add p4 8) ([vu 2]) fun w3 =>
 NN x fun p5 =>
 St w3 (Addr.add p5 7) ([vi 0]) fun w4 =>
 Q w4))
theorem drawers_Ledger_Pay_1.ok {Q : World → Prop} {s : Option Addr} {x : Option Addr} {p2_2 : Addr} {p3_3 : Addr} {p4_4 : Addr} {w : World} (h : drawers_Ledger_Pay_1.R Q s x p2_2 p3_3 p4_4 w) : Cl Pg 122 #[vP s, vP x, vp p2_2, vp p3_3, vp p4_4] w (fun v w' => v = .tuple #[] ∧ Q w') := by
 refine calls_args (args := [vP s, vP x, vp p2_2, vp p3_3, vp p4_4]) Tryz.func122 ?_
 unfold drawers_Ledger_Pay_1.R at h
 refine drs folM [[], [], [], [], [], [], [], [], [], [], [], [10], [], [12], [], [], [], [], [1, 5, 9, 10, 12, 17]] [.p 0, .l 1, .p 2, .p 3, .p 4, .l 5, .p 6, .p 7, .p 8, .l 9, .l 10, .p 11, .l 12, .p 13, .p 14, .p 15, .p 16, .l 17, .e 18] h ?_
 intro w1 _ h
 refine psC 1 [(7, vP s)] ?_
 obtain ⟨x1, hx1, h⟩ := h
 refine ld1C tk3 hx1 <| psC 1 [(9, vP x)] <| nnC h fun p1 h => psC 1 [(11, vp (Addr.add p1 5))] ?_
 obtain ⟨x2, hx2, h⟩ := h
 refine ld1C tk9 hx2 <| psC 1 [(13, vP x)] <| nnC h fun p2 h => psC 1 [(15, vp (Addr.add p2 7))] ?_
 obtain ⟨x3, hx3, h⟩ := h
 refine ld1C tk3 hx3 ?_
 obtain ⟨x4, hx4, h⟩ := h
 refine ld1C tk3 hx4 <| psC 1 [(18, vg [vu 2, vi x4])] ?_
 obtain ⟨x5, hx5, h⟩ := h
 refine ld1C tk3 hx5 <| psC 2 [(20, vg [vu 3, vi x5]), (21, vP x)] <| nnC h fun p3 h => psC 1 [(23, vp p3)] ?_
 obtain ⟨x6, hx6, h⟩ := h
 refine ld1C tk3 hx6 <| clC h ?_
 rintro _ w2 ⟨rfl, h⟩
 refine ⟨AllOk.nil, ?_⟩
 refine WC_nil <| W_regseq <| ps 1 [(26, vP x)] <| nn h fun p4 h => ps 1 [(28, vp (Addr.add p4 8))] <| st tk5 h ?_
 rintro w3 h
 refine WO_nil <| W_reg <| ps 1 [(29, vP x)] <| nn h fun p5 h => ps 1 [(31, vp (Addr.add p5 7))] <| st tk3 h ?_
 rintro w4 h
 exact WO_nil <| retN <| ret0 rfl ⟨rfl, h⟩
def drawers_Ledger_Lose.R (Q : Option Addr → Nat → Nat → Int → World → Prop) (l : Option Addr) (day : Int) (thing : Int) (w : World) : Prop := (
 Al w (.cells #[vi day] 3) fun b1 w1 =>
 Al w1 (.cells #[vi thing] 3) fun b2 w2 =>
 LdI .i64 w2 ⟨b1, 0, none⟩ fun x1 =>
 LdI .i64 w2 ⟨b2, 0, none⟩ fun x2 =>
 Cl Pg 89 #[vP l, vi x1, vi x2, vb true, vu 1, .func (.func 155) #[] #[vp ⟨b1, 0, none⟩, vp ⟨b2, 0, none⟩], .nilFunc] w2 (fun v w3 => ∃ r1_a r1_n r1_c r2, v = .tuple #[vl r1_a r1_n r1_c, vi r2] ∧ Q r1_a r1_n r1_c r2 w3))
theorem drawers_Ledger_Lose.ok {Q : Option Addr → Nat → Nat → Int → World → Prop} {l : Option Addr} {day : Int} {thing : Int} {w : World} (h : drawers_Ledger_Lose.R Q l day thing w) : Cl Pg 101 #[vP l, vi day, vi thing] w (fun v w' => ∃ r0a r0n r0c r1, v = .tuple #[vl r0a r0n r0c, vi r1] ∧ Q r0a r0n r0c r1 w') := by
 refine calls_args (args := [vP l, vi day, vi thing]) Tryz.func101 ?_
 unfold drawers_Ledger_Lose.R at h
 refine W_regseq <| alp h ?_
 intro b1 w1 _ _ _ h
 refine alp h ?_
 intro b2 w2 _ _ _ h
 refine ps 2 [(6, vl none 0 0), (7, vi 0)] <| WO_nil <| W_regseq <| ps 1 [(8, vP l)] ?_
 obtain ⟨x1, hx1, h⟩ := h
 refine ld1 tk3 hx1 ?_
 obtain ⟨x2, hx2, h⟩ := h
 refine ld1 tk3 hx2 <| ps 1 [(11, .func (.func 155) #[] #[vp ⟨b1, 0, none⟩, vp ⟨b2, 0, none⟩])] <| cl h ?_
 rintro _ w3 ⟨r1_a, r1_n, r1_c, r2, rfl, h⟩
 exact ps 4 [(13, vl r1_a r1_n r1_c), (14, vi r2), (6, vl r1_a r1_n r1_c), (7, vi r2)] <| WO_nil <| W_ret <| ret2 (v := vl r1_a r1_n r1_c) (v' := vi r2) (t := 6) (u := 7) rfl rfl rfl ⟨_, _, _, _, rfl, h⟩
def drawers_Ledger_Lose_1.R (Q : World → Prop) (s : Option Addr) (x : Option Addr) (p2_2 : Addr) (p3_3 : Addr) (w : World) : Prop := (
 Dr w fun w1 =>
 LdI .i64 w1 p2_2 fun x1 =>
 NN x fun p1 =>
 LdS w1 (Addr.add p1 5) fun x2 =>
 NN x fun p2 =>
 LdI .i64 w1 (Addr.add p2 7) fun x3 =>
 LdI .i64 w1 p3_3 fun x4 =>
 NN x fun p3 =>
 LdI .i64 w1 p3 fun x5 =>
 Cl Pg 82 #[vP s, vi x1, vs x2, vi x3, vg [vu 2, vi x4], vg [vu 5, vi 0], vu 6, vi x5] w1 (fun v w2 => v = .tuple #[] ∧ NN x fun p4 =>
 St w2 (Addr.add p4 8) ([vu 5]) fun w3 =>
 Q w3))
theorem drawers_Ledger_Lose_1.ok {Q : World → Prop} {s : Option Addr} {x : Option Addr} {p2_2 : Addr} {p3_3 : Addr} {w : World} (h : drawers_Ledger_Lose_1.R Q s x p2_2 p3_3 w) : Cl Pg 155 #[vP s, vP x, vp p2_2, vp p3_3] w (fun v w' => v = .tuple #[] ∧ Q w') := by
 refine calls_args (args := [vP s, vP x, vp p2_2, vp p3_3]) Tryz.func155 ?_
 unfold drawers_Ledger_Lose_1.R at h
 refine drs folM [[], [], [], [], [], [], [], [], [], [], [], [10], [], [], [], [], [], [1, 5, 9, 10, 16]] [.p 0, .l 1, .p 2, .p 3, .p 4, .l 5, .p 6, .p 7, .p 8, .l 9, .l 10, .p 11, .p 12, .p 13, .p 14, .p 15, .l 16, .e 17] h ?_
 intro w1 _ h
 refine psC 1 [(6, vP s)] ?_
 obtain ⟨x1, hx1, h⟩ := h
 refine ld1C tk3 hx1 <| psC 1 [(8, vP x)] <| nnC h fun p1 h => psC 1 [(10, vp (Addr.add p1 5))] ?_
 obtain ⟨x2, hx2, h⟩ := h
 refine ld1C tk9 hx2 <| psC 1 [(12, vP x)] <| nnC h fun p2 h => psC 1 [(14, vp (Addr.add p2 7))] ?_
 obtain ⟨x3, hx3, h⟩ := h
 refine ld1C tk3 hx3 ?_
 obtain ⟨x4, hx4, h⟩ := h
 refine ld1C tk3 hx4 <| psC 3 [(17, vg [vu 2, vi x4]), (18, vg [vu 5, vi 0]), (19, vP x)] <| nnC h fun p3 h => psC 1 [(21, vp p3)] ?_
 obtain ⟨x5, hx5, h⟩ := h
 refine ld1C tk3 hx5 <| clC h ?_
 rintro _ w2 ⟨rfl, h⟩
 refine ⟨AllOk.nil, ?_⟩
 refine WC_nil <| W_reg <| ps 1 [(24, vP x)] <| nn h fun p4 h => ps 1 [(26, vp (Addr.add p4 8))] <| st tk5 h ?_
 rintro w3 h
 exact WO_nil <| retN <| ret0 rfl ⟨rfl, h⟩
def drawers_Ledger_Recover.R (Q : Option Addr → Nat → Nat → Int → World → Prop) (l : Option Addr) (day : Int) (thing : Int) (w : World) : Prop := (
 Al w (.cells #[vi day] 3) fun b1 w1 =>
 Al w1 (.cells #[vi thing] 3) fun b2 w2 =>
 LdI .i64 w2 ⟨b1, 0, none⟩ fun x1 =>
 LdI .i64 w2 ⟨b2, 0, none⟩ fun x2 =>
 Cl Pg 89 #[vP l, vi x1, vi x2, vb true, vu 5, .func (.func 156) #[] #[vp ⟨b1, 0, none⟩, vp ⟨b2, 0, none⟩], .func (.func 92) #[] #[]] w2 (fun v w3 => ∃ r1_a r1_n r1_c r2, v = .tuple #[vl r1_a r1_n r1_c, vi r2] ∧ Q r1_a r1_n r1_c r2 w3))
theorem drawers_Ledger_Recover.ok {Q : Option Addr → Nat → Nat → Int → World → Prop} {l : Option Addr} {day : Int} {thing : Int} {w : World} (h : drawers_Ledger_Recover.R Q l day thing w) : Cl Pg 102 #[vP l, vi day, vi thing] w (fun v w' => ∃ r0a r0n r0c r1, v = .tuple #[vl r0a r0n r0c, vi r1] ∧ Q r0a r0n r0c r1 w') := by
 refine calls_args (args := [vP l, vi day, vi thing]) Tryz.func102 ?_
 unfold drawers_Ledger_Recover.R at h
 refine W_regseq <| alp h ?_
 intro b1 w1 _ _ _ h
 refine alp h ?_
 intro b2 w2 _ _ _ h
 refine ps 2 [(6, vl none 0 0), (7, vi 0)] <| WO_nil <| W_regseq <| ps 1 [(8, vP l)] ?_
 obtain ⟨x1, hx1, h⟩ := h
 refine ld1 tk3 hx1 ?_
 obtain ⟨x2, hx2, h⟩ := h
 refine ld1 tk3 hx2 <| ps 1 [(11, .func (.func 156) #[] #[vp ⟨b1, 0, none⟩, vp ⟨b2, 0, none⟩])] <| cl h ?_
 rintro _ w3 ⟨r1_a, r1_n, r1_c, r2, rfl, h⟩
 exact ps 4 [(13, vl r1_a r1_n r1_c), (14, vi r2), (6, vl r1_a r1_n r1_c), (7, vi r2)] <| WO_nil <| W_ret <| ret2 (v := vl r1_a r1_n r1_c) (v' := vi r2) (t := 6) (u := 7) rfl rfl rfl ⟨_, _, _, _, rfl, h⟩
def drawers_Ledger_Recover_1.R (Q : World → Prop) (s : Option Addr) (x : Option Addr) (p2_2 : Addr) (p3_3 : Addr) (w : World) : Prop := (
 Dr w fun w1 =>
 LdI .i64 w1 p2_2 fun x1 =>
 NN x fun p1 =>
 LdS w1 (Addr.add p1 5) fun x2 =>
 NN x fun p2 =>
 LdI .i64 w1 (Addr.add p2 7) fun x3 =>
 LdI .i64 w1 p3_3 fun x4 =>
 NN x fun p3 =>
 LdI .i64 w1 p3 fun x5 =>
 Cl Pg 82 #[vP s, vi x1, vs x2, vi x3, vg [vu 5, vi 0], vg [vu 2, vi x4], vu 7, vi x5] w1 (fun v w2 => v = .tuple #[] ∧ NN x fun p4 =>
 St w2 (Addr.add p4 8) ([vu 1]) fun w3 =>
 Q w3))
theorem drawers_Ledger_Recover_1.ok {Q : World → Prop} {s : Option Addr} {x : Option Addr} {p2_2 : Addr} {p3_3 : Addr} {w : World} (h : drawers_Ledger_Recover_1.R Q s x p2_2 p3_3 w) : Cl Pg 156 #[vP s, vP x, vp p2_2, vp p3_3] w (fun v w' => v = .tuple #[] ∧ Q w') := by
 refine calls_args (args := [vP s, vP x, vp p2_2, vp p3_3]) Tryz.func156 ?_
 unfold drawers_Ledger_Recover_1.R at h
 refine drs folM [[], [], [], [], [], [], [], [], [], [], [], [], [11], [], [], [], [], [1, 5, 9, 11, 16]] [.p 0, .l 1, .p 2, .p 3, .p 4, .l 5, .p 6, .p 7, .p 8, .l 9, .p 10, .l 11, .p 12, .p 13, .p 14, .p 15, .l 16, .e 17] h ?_
 intro w1 _ h
 refine psC 1 [(6, vP s)] ?_
 obtain ⟨x1, hx1, h⟩ := h
 refine ld1C tk3 hx1 <| psC 1 [(8, vP x)] <| nnC h fun p1 h => psC 1 [(10, vp (Addr.add p1 5))] ?_
 obtain ⟨x2, hx2, h⟩ := h
 refine ld1C tk9 hx2 <| psC 1 [(12, vP x)] <| nnC h fun p2 h => psC 1 [(14, vp (Addr.add p2 7))] ?_
 obtain ⟨x3, hx3, h⟩ := h
 refine ld1C tk3 hx3 <| psC 1 [(16, vg [vu 5, vi 0])] ?_
 obtain ⟨x4, hx4, h⟩ := h
 refine ld1C tk3 hx4 <| psC 2 [(18, vg [vu 2, vi x4]), (19, vP x)] <| nnC h fun p3 h => psC 1 [(21, vp p3)] ?_
 obtain ⟨x5, hx5, h⟩ := h
 refine ld1C tk3 hx5 <| clC h ?_
 rintro _ w2 ⟨rfl, h⟩
 refine ⟨AllOk.nil, ?_⟩
 refine WC_nil <| W_reg <| ps 1 [(24, vP x)] <| nn h fun p4 h => ps 1 [(26, vp (Addr.add p4 8))] <| st tk5 h ?_
 rintro w3 h
 exact WO_nil <| retN <| ret0 rfl ⟨rfl, h⟩
def drawers_Ledger_Dispatch.R (Q : Option Addr → Nat → Nat → Int → World → Prop) (l : Option Addr) (day : Int) (thing : Int) (bag : Int) (w : World) : Prop := (
 Al w (.cells #[vi day] 3) fun b1 w1 =>
 Al w1 (.cells #[vi thing] 3) fun b2 w2 =>
 Al w2 (.cells #[vi bag] 3) fun b3 w3 =>
 Al w3 (.cells #[vl none 0 0] 46) fun b4 w4 =>
 Dr w4 fun w5 =>
 LdI .i64 w5 ⟨b1, 0, none⟩ fun x1 =>
 LdI .i64 w5 ⟨b2, 0, none⟩ fun x2 =>
 LdI .i64 w5 ⟨b3, 0, none⟩ fun x3 =>
 Al w5 (.cells #[vi x3] 3) fun b5 w6 =>
 Cl Pg 87 #[vl (some ⟨b5, 0, none⟩) 1 1] w6 (fun v w7 => ∃ r1, v = vb r1 ∧ w7.cell? ⟨b1, 0, none⟩ = some (vi x1) ∧ w7.cell? ⟨b2, 0, none⟩ = some (vi x2) ∧ Cl Pg 89 #[vP l, vi x1, vi x2, vb r1, vu 1, .func (.func 90) #[] #[vp ⟨b1, 0, none⟩, vp ⟨b2, 0, none⟩, vp ⟨b3, 0, none⟩, vp ⟨b4, 0, none⟩], .nilFunc] w7 (fun v w8 => ∃ r2_a r2_n r2_c r3, v = .tuple #[vl r2_a r2_n r2_c, vi r3] ∧ Ifb (r3 != 0)
 (Q none 0 0 r3 w8)
 (LdSl w8 ⟨b4, 0, none⟩ fun x4_a x4_n x4_c =>
 Q x4_a x4_n x4_c 0 w8))))
theorem drawers_Ledger_Dispatch.ok {Q : Option Addr → Nat → Nat → Int → World → Prop} {l : Option Addr} {day : Int} {thing : Int} {bag : Int} {w : World} (h : drawers_Ledger_Dispatch.R Q l day thing bag w) : Cl Pg 31 #[vP l, vi day, vi thing, vi bag] w (fun v w' => ∃ r0a r0n r0c r1, v = .tuple #[vl r0a r0n r0c, vi r1] ∧ Q r0a r0n r0c r1 w') := by
 refine calls_args (args := [vP l, vi day, vi thing, vi bag]) Tryz.func31 ?_
 unfold drawers_Ledger_Dispatch.R at h
 refine W_regseq <| alp h ?_
 intro b1 w1 _ _ _ h
 refine alp h ?_
 intro b2 w2 _ _ _ h
 refine alp h ?_
 intro b3 w3 _ _ _ h
 refine ps 2 [(8, vl none 0 0), (9, vi 0)] <| WO_nil <| W_regseq <| alp h ?_
 intro b4 w4 _ _ _ h
 refine WO_nil <| drs folM [[], [], [], [], [3], [3], [], [1, 2, 3], [1, 2, 3], [1, 2, 3], [1, 2, 3], [1, 2, 3], [1, 2, 3]] [.p 0, .l 1, .l 2, .l 3, .p 6, .e 4, .e 5, .e 7, .p 8, .p 9, .p 10, .p 11, .p 12] h ?_
 intro w5 _ h
 refine psC 1 [(14, vP l)] ?_
 obtain ⟨x1, hx1, h⟩ := h
 refine ld1C tk3 hx1 ?_
 obtain ⟨x2, hx2, h⟩ := h
 refine ld1C tk3 hx2 ?_
 obtain ⟨x3, hx3, h⟩ := h
 refine ld1C tk3 hx3 <| psC 1 [(20, .func (.func 90) #[] #[vp ⟨b1, 0, none⟩, vp ⟨b2, 0, none⟩, vp ⟨b3, 0, none⟩, vp ⟨b4, 0, none⟩])] <| alsC 1 h ?_
 intro b5 w6 eb ew hb_b5 h
 replace hx1 := al_ld ew hx1
 replace hx2 := al_ld ew hx2
 clear eb ew hb_b5
 refine ⟨AllOk.cons (Pend_ok (ex_load rfl rfl (run_loadVar1 tk3 hx2))) <| AllOk.cons (Pend_ok (ex_load rfl rfl (run_loadVar1 tk3 hx1))) <| AllOk.nil, ?_⟩
 refine clC h ?_
 rintro _ w7 ⟨r1, rfl, hk0, hk1, h⟩
 replace hx1 := hk0
 replace hx2 := hk1
 refine ⟨AllOk.cons (Pend_ok (ex_load rfl rfl (run_loadVar1 tk3 hx2))) <| AllOk.cons (Pend_ok (ex_load rfl rfl (run_loadVar1 tk3 hx1))) <| AllOk.nil, ?_⟩
 refine clC h ?_
 rintro _ w8 ⟨r2_a, r2_n, r2_c, r3, rfl, h⟩
 refine ⟨AllOk.nil, ?_⟩
 refine psC 5 [(13, .tuple #[vl r2_a r2_n r2_c, vi r3]), (22, vl r2_a r2_n r2_c), (23, vi r3), (11, vl r2_a r2_n r2_c), (12, vi r3)] <| WC_nil <| W_seq <| W_regseq <| ps 2 [(24, vi r3), (25, vb (r3 != 0))] <| WO_nil <| ci h (fun h => ?_) fun h => ?_
 exact W_regseq <| ps 3 [(26, vi r3), (8, vl none 0 0), (9, vi r3)] <| WO_nil <| W_ret <| seqK_ret <| ret2 (v := vl none 0 0) (v' := vi r3) (t := 8) (u := 9) rfl rfl rfl ⟨_, _, _, _, rfl, h⟩
 refine W_skip <| W_regseq ?_
 obtain ⟨x4_a, x4_n, x4_c, hx4, h⟩ := h
 exact ld1 tk46 hx4 <| ps 2 [(8, vl x4_a x4_n x4_c), (9, vi 0)] <| WO_nil <| W_ret <| ret2 (v := vl x4_a x4_n x4_c) (v' := vi 0) (t := 8) (u := 9) rfl rfl rfl ⟨_, _, _, _, rfl, h⟩
def drawers_Ledger_Dispatch_1.R (Q : World → Prop) (s : Option Addr) (x : Option Addr) (p2_2 : Addr) (p3_3 : Addr) (p4_4 : Addr) (p5_5 : Addr) (w : World) : Prop := (
 Dr w fun w1 =>
 LdI .i64 w1 p2_2 fun x1 =>
 NN x fun p1 =>
 LdS w1 (Addr.add p1 5) fun x2 =>
 NN x fun p2 =>
 LdI .i64 w1 (Addr.add p2 7) fun x3 =>
 LdI .i64 w1 p3_3 fun x4 =>
 LdI .i64 w1 p4_4 fun x5 =>
 NN x fun p3 =>
 LdI .i64 w1 p3 fun x6 =>
 Cl Pg 82 #[vP s, vi x1, vs x2, vi x3, vg [vu 2, vi x4], vg [vu 7, vi x5], vu 8, vi x6] w1 (fun v w2 => v = .tuple #[] ∧ NN x fun p4 =>
 St w2 (Addr.add p4 8) ([vu 6]) fun w3 =>
 LdI .i64 w3 p4_4 fun x7 =>
 NN x fun p5 =>
 St w3 (Addr.add p5 9) ([vi x7]) fun w4 =>
 Dr w4 fun w5 =>
 LdSl w5 p5_5 fun x8_a x8_n x8_c =>
 NN x fun p6 =>
 LdT TLot.enc w5 p6 fun x9 =>
 Al w5 (.cells #[vi x9.Id, vi x9.Thing, vi x9.Layer, vi x9.Day, vi x9.Due, vs x9.Unit, vi x9.N, vi x9.Left, vu x9.State, vi x9.Bag] 45) fun b1 w6 =>
 Ap Pg w6 #[46, 46] 46 (vl x8_a x8_n x8_c) (vl (some ⟨b1, 0, none⟩) 1 1) fun a1_a a1_n a1_c w7 =>
 St w7 p5_5 ([vl a1_a a1_n a1_c]) fun w8 =>
 Q w8))
theorem drawers_Ledger_Dispatch_1.ok {Q : World → Prop} {s : Option Addr} {x : Option Addr} {p2_2 : Addr} {p3_3 : Addr} {p4_4 : Addr} {p5_5 : Addr} {w : World} (h : drawers_Ledger_Dispatch_1.R Q s x p2_2 p3_3 p4_4 p5_5 w) : Cl Pg 90 #[vP s, vP x, vp p2_2, vp p3_3, vp p4_4, vp p5_5] w (fun v w' => v = .tuple #[] ∧ Q w') := by
 refine calls_args (args := [vP s, vP x, vp p2_2, vp p3_3, vp p4_4, vp p5_5]) Tryz.func90 ?_
 unfold drawers_Ledger_Dispatch_1.R at h
 refine drs folM [[], [], [], [], [], [], [], [], [], [], [], [10], [], [12], [], [], [], [], [1, 5, 9, 10, 12, 17]] [.p 0, .l 1, .p 2, .p 3, .p 4, .l 5, .p 6, .p 7, .p 8, .l 9, .l 10, .p 11, .l 12, .p 13, .p 14, .p 15, .p 16, .l 17, .e 18] h ?_
 intro w1 _ h
 refine psC 1 [(8, vP s)] ?_
 obtain ⟨x1, hx1, h⟩ := h
 refine ld1C tk3 hx1 <| psC 1 [(10, vP x)] <| nnC h fun p1 h => psC 1 [(12, vp (Addr.add p1 5))] ?_
 obtain ⟨x2, hx2, h⟩ := h
 refine ld1C tk9 hx2 <| psC 1 [(14, vP x)] <| nnC h fun p2 h => psC 1 [(16, vp (Addr.add p2 7))] ?_
 obtain ⟨x3, hx3, h⟩ := h
 refine ld1C tk3 hx3 ?_
 obtain ⟨x4, hx4, h⟩ := h
 refine ld1C tk3 hx4 <| psC 1 [(19, vg [vu 2, vi x4])] ?_
 obtain ⟨x5, hx5, h⟩ := h
 refine ld1C tk3 hx5 <| psC 2 [(21, vg [vu 7, vi x5]), (22, vP x)] <| nnC h fun p3 h => psC 1 [(24, vp p3)] ?_
 obtain ⟨x6, hx6, h⟩ := h
 refine ld1C tk3 hx6 <| clC h ?_
 rintro _ w2 ⟨rfl, h⟩
 refine ⟨AllOk.nil, ?_⟩
 refine WC_nil <| W_regseq <| ps 1 [(27, vP x)] <| nn h fun p4 h => ps 1 [(29, vp (Addr.add p4 8))] <| st tk5 h ?_
 rintro w3 h
 refine WO_nil <| W_regseq <| ps 1 [(30, vP x)] ?_
 obtain ⟨x7, hx7, h⟩ := h
 refine ld1 tk3 hx7 <| nn h fun p5 h => ps 1 [(33, vp (Addr.add p5 9))] <| st tk3 h ?_
 rintro w4 h
 refine WO_nil <| drw folM [[], [], [], [], [3], [0, 3], [0, 3]] [.l 0, .p 1, .p 2, .l 3, .e 4, .e 5, .e 6] h ?_
 intro w5 _ h
 obtain ⟨x8_a, x8_n, x8_c, hx8, h⟩ := h
 refine ld1C tk46 hx8 <| psC 1 [(35, vP x)] <| nnC h fun p6 h => ?_
 obtain ⟨x9, hx9, h⟩ := h
 refine ldnC tk45 hx9 <| alsC 1 h ?_
 intro b1 w6 eb ew hb_b1 h
 replace hx8 := al_ld ew hx8
 clear eb ew hb_b1
 refine ⟨AllOk.cons (Pend_ok (ex_load rfl rfl (run_loadVar1 tk46 hx8))) <| AllOk.nil, ?_⟩
 refine apC h ?_
 rintro a1_a a1_n a1_c w7 h
 refine ⟨AllOk.nil, ?_⟩
 refine stC tk46 h ?_
 rintro w8 h
 refine ⟨AllOk.nil, ?_⟩
 exact WC_nil <| retN <| ret0 rfl ⟨rfl, h⟩
end Go.Proofs.YtcbijkakoepglaaGreat
namespace Go.Proofs.YtcbijkakoepglaaGreat
open Go Go.Wx

/-! ### the plain side -/
def selL (thing in_ : Int) (x : TLot) : Bool := (x.Thing == thing) && (x.State == in_)
def amtOf (x : TLot) : TAmount := ⟨x.Unit, x.Left⟩
def MState.eachTo (M : MState) (sel : TLot → Bool) (upd : TLot → TLot) (mk : TLot → TPosting) (i : Nat) : MState :=
  { M with lots := ((M.lots.take i).map fun x => if sel x then upd x else x) ++ M.lots.drop i, postings := M.postings ++ ((M.lots.take i).filter sel).map mk }
def MState.each (M : MState) (sel : TLot → Bool) (upd : TLot → TLot) (mk : TLot → TPosting) : MState :=
  { M with lots := M.lots.map fun x => if sel x then upd x else x, postings := M.postings ++ (M.lots.filter sel).map mk }
def gMoved (thing : Int) (ok : Bool) (in_ : Int) (upd : TLot → TLot) (mk : TLot → TPosting) (thn : MState → MState) (M : MState) : Int × MState × (List TAmount × List TLot) :=
  if (!isId thing || !ok) = true then (1, M, ([], [])) else
    if (M.lots.filter (selL thing in_)).isEmpty then (5, M.each (selL thing in_) upd mk, ([], [])) else
      (0, thn (M.each (selL thing in_) upd mk), (sumsM ((M.lots.filter (selL thing in_)).map amtOf), (M.lots.filter (selL thing in_)).map upd))

theorem setLot_setLot (M : MState) (i : Nat) (x y : TLot) : (M.setLot i x).setLot i y = M.setLot i y := by
  unfold MState.setLot; simp
theorem setLot_get {M : MState} {i : Nat} {x y : TLot} (h : M.lots[i]? = some x) : (M.setLot i y).lots[i]? = some y := by
  unfold MState.setLot
  simp only
  rw [List.getElem?_set_self (List.getElem?_eq_some_iff.1 h).1]
theorem eachTo_step {M : MState} {sel : TLot → Bool} {upd : TLot → TLot} {mk : TLot → TPosting} {i : Nat} {x : TLot} (hx : M.lots[i]? = some x) :
    M.eachTo sel upd mk (i + 1) = if sel x then ((M.eachTo sel upd mk i).post (mk x)).setLot i (upd x) else M.eachTo sel upd mk i := by
  obtain ⟨hl, hx'⟩ := List.getElem?_eq_some_iff.1 hx
  have ht : M.lots.take (i + 1) = M.lots.take i ++ [x] := by rw [List.take_succ, hx]; rfl
  have hd : M.lots.drop i = x :: M.lots.drop (i + 1) := by rw [List.drop_eq_getElem_cons hl, hx']
  unfold MState.eachTo
  rw [ht, hd, List.filter_append, List.map_append]
  cases hs : sel x with
  | true =>
    simp only [MState.post, MState.setLot, if_true, hs, List.filter_cons, List.filter_nil, List.map_append, List.map_cons, List.map_nil, MState.mk.injEq, true_and]
    refine ⟨?_, by simp⟩
    rw [set_mid (by simp; omega)]
    simp
  | false => simp [hs]
theorem eachTo_all (M : MState) (sel : TLot → Bool) (upd : TLot → TLot) (mk : TLot → TPosting) : M.eachTo sel upd mk M.lots.length = M.each sel upd mk := by
  unfold MState.eachTo MState.each; simp
theorem eachTo_get {M : MState} {sel : TLot → Bool} {upd : TLot → TLot} {mk : TLot → TPosting} {i : Nat} {x : TLot} (hx : M.lots[i]? = some x) : (M.eachTo sel upd mk i).lots[i]? = some x := by
  obtain ⟨hl, hx'⟩ := List.getElem?_eq_some_iff.1 hx
  unfold MState.eachTo
  simp only
  rw [List.drop_eq_getElem_cons hl, hx', get_mid (by simp; omega)]
theorem eachTo_len (M : MState) (sel : TLot → Bool) (upd : TLot → TLot) (mk : TLot → TPosting) {i : Nat} (hi : i ≤ M.lots.length) : (M.eachTo sel upd mk i).lots.length = M.lots.length ∧ (M.eachTo sel upd mk i).postings.length ≤ M.postings.length + i := by
  unfold MState.eachTo
  simp only [List.length_append, List.length_map, List.length_take, List.length_drop]
  have := List.length_filter_le sel (M.lots.take i)
  rw [List.length_take] at this
  omega

/-! ### the contracts -/
/-- as Run, with blocks D that what is given owns. -/
structure Run2 (C R D : Nat → Prop) (w : World) (R' D' : Nat → Prop) (w' : World) : Prop where
  frm : Frm (fun k => R k ∨ D k ∨ C k) w w'
  sub : ∀ k, R' k → R k ∨ w.heap.size ≤ k
  subD : ∀ k, D' k → D k ∨ w.heap.size ≤ k
abbrev No : Nat → Prop := fun _ => False
section
variable {C R D R1 D1 R2 D2 : Nat → Prop} {w w1 w2 : World}
theorem Run2.refl (C R D : Nat → Prop) (w : World) : Run2 C R D w R D w := ⟨Frm.refl _ _, fun _ => .inl, fun _ => .inl⟩
theorem Run2.ext (h : Run2 C R D w R1 D1 w1) (E : Ext w1 w2) : Run2 C R D w R1 D1 w2 := ⟨h.frm.ext E, h.sub, h.subD⟩
theorem Run2.trans (h : Run2 C R D w R1 D1 w1) (s : Run2 C R1 D1 w1 R2 D2 w2) : Run2 C R D w R2 D2 w2 :=
  ⟨h.frm.trans s.frm fun b hb hR => hR.imp (fun hR => (h.sub b hR).resolve_right (by omega)) fun hR => hR.imp (fun hR => (h.subD b hR).resolve_right (by omega)) id, fun k hk => (s.sub k hk).elim (h.sub k) fun hk => .inr (Nat.le_trans h.frm.size hk), fun k hk => (s.subD k hk).elim (h.subD k) fun hk => .inr (Nat.le_trans h.frm.size hk)⟩
theorem Step.run2 (h : Step R w R1 w1) : Run2 C R D w R1 D w1 := ⟨h.frm.mono fun _ _ h => .inl h, h.sub, fun _ => .inl⟩
theorem Run2.put {S : Nat → Prop} (h : Run2 C R D w R1 D1 w1) (F : Frm S w1 w2) (hS : ∀ k, S k → C k ∨ w.heap.size ≤ k) : Run2 C R D w R1 D1 w2 :=
  ⟨h.frm.trans F fun b hb hs => .inr (.inr ((hS b hs).resolve_right (by omega))), h.sub, h.subD⟩
theorem Run2.run (h : Run2 C R No w R1 D1 w1) : Run C R w R1 w1 := ⟨h.frm.mono fun _ _ h => h.elim .inl fun h => h.elim (fun h => h.elim) .inr, h.sub⟩
end
/-- what a closure gives is kept. -/
structure YOk (C : Nat → Prop) (Yd : List TLot → World → (Nat → Prop) → (Nat → Prop) → Prop) : Prop where
  keep : ∀ {out w w' R D} {S : Nat → Prop}, Yd out w R D → Frm S w w' → (∀ k, S k → ¬ D k ∧ ¬ C k) → Yd out w' R D
  step : ∀ {out w w'} {R R' D : Nat → Prop}, Yd out w R D → Step R w R' w' → Yd out w' R' D
  lt : ∀ {out w R D}, Yd out w R D → ∀ k, D k → k < w.heap.size
theorem YOk.ext {C : Nat → Prop} {Yd : List TLot → World → (Nat → Prop) → (Nat → Prop) → Prop} (h : YOk C Yd) {out : List TLot} {w w' : World} {R D : Nat → Prop} (hy : Yd out w R D) (E : Ext w w') : Yd out w' R D := h.keep hy E fun _ h => h.elim

def EachDo (f : Value) (C R0 : Nat → Prop) (w0 : World) (b : Nat) (mk : TLot → TPosting) (upd : TLot → TLot) (Yd : List TLot → World → (Nat → Prop) → (Nat → Prop) → Prop) : Prop :=
  ∀ (w2 : World) (R D : Nat → Prop) (st : Tstate) (M : MState) (i : Nat) (x : TLot) (a0 : Addr) (out : List TLot), Run2 C R0 No w0 R D w2 → StIn w2 R b st M → M.postings.length ≤ 1000000 → out.length ≤ 100000 → M.lots[i]? = some x → st.lots_a = some a0 → Yd out w2 R D → ∀ K : World → Prop,
    (∀ w3 R3 D3 st3, StIn w3 R3 b st3 ((M.post (mk x)).setLot i (upd x)) → Run2 C R D w2 R3 D3 w3 → Yd (out ++ [upd x]) w3 R3 D3 → K w3) →
    Clv Pg f #[vp (a0.add (i * 10))] w2 (fun v w3 => v = .tuple #[] ∧ K w3)

theorem each_c {w : World} {R : Nat → Prop} {b : Nat} {st : Tstate} {M : MState} (h : StIn w R b st M) (hS : Small M) {thing in_ : Int} {f : Value} {C : Nat → Prop} {mk : TLot → TPosting} {upd : TLot → TLot} {Yd : List TLot → World → (Nat → Prop) → (Nat → Prop) → Prop} (hY : YOk C Yd)
    (hC : ∀ k, C k → k < w.heap.size) (hdo : EachDo f C R w b mk upd Yd) (y0 : Yd [] w R No) {Q : Option Addr → Nat → Nat → Int → World → Prop}
    (hQ : ∀ w' R' D' st' a n c, (M.lots.filter (selL thing in_)).isEmpty = false → StIn w' R' b st' (M.each (selL thing in_) upd mk) → Run2 C R No w R' D' w' → Yd ((M.lots.filter (selL thing in_)).map upd) w' R' D' → Own 58 2 TAmount.enc w' a n c (sumsM ((M.lots.filter (selL thing in_)).map amtOf)) → (∀ k, obk a c = some k → w.heap.size ≤ k ∧ ¬ R' k ∧ ¬ D' k) → Q a n c 0 w')
    (hQ5 : ∀ w' R' st', (M.lots.filter (selL thing in_)).isEmpty = true → StIn w' R' b st' (M.each (selL thing in_) upd mk) → Run C R w R' w' → Q none 0 0 5 w') :
    Cl Pg 148 #[vP (some ⟨b, 0, none⟩), vi thing, vu in_, f] w (fun v w' => ∃ a n c r, v = .tuple #[vl a n c, vi r] ∧ Q a n c r w') := by
  have hl := h.lots.1
  have hn := hS.lots
  refine drawers_state_each.ok ⟨_, rfl, _, _, _, h.rd.cells.at 3 rfl, st.lots_n + 1, ?_⟩
  have key : ∀ m i w' R' D' st' a n c v2, i + m = st.lots_n → n ≤ i → StIn w' R' b st' (M.eachTo (selL thing in_) upd mk i) → Run2 C R No w R' D' w' → Yd (((M.lots.take i).filter (selL thing in_)).map upd) w' R' D' → Own 58 2 TAmount.enc w' a n c (((M.lots.take i).filter (selL thing in_)).map amtOf) → (∀ k, obk a c = some k → w.heap.size ≤ k ∧ ¬ R' k ∧ ¬ D' k) →
      v2 = ((M.lots.take i).filter (selL thing in_)).isEmpty → drawers_state_each.l1 Q (some ⟨b, 0, none⟩) thing in_ f st.lots_n (m + 1) a n c v2 (i : Nat) w' := by
    intro m
    induction m with
    | zero =>
      intro i w' R' D' st' a n c v2 hi hni h' rn hy ho hk hv
      unfold drawers_state_each.l1
      rw [List.take_of_length_le (by omega)] at *
      obtain rfl : i = M.lots.length := by omega
      rw [eachTo_all] at h'
      refine ifb_df (by omega) (ifb ?_)
      subst hv
      split
      · rename_i he
        exact hQ5 w' R' st' he h' rn.run
      · rename_i he
        refine sums_c (ho.rd encAmount) (by omega) fun a2 n2 c2 w2 ho2 hk2 E2 => hQ _ _ _ _ _ _ _ (by simpa using he) (h'.ext E2) (rn.ext E2) (hY.ext hy E2) ho2 fun k hk => ?_
        have h1 := hk2 k hk
        exact ⟨Nat.le_trans rn.frm.size h1, fun hR => by have := h'.rLt k hR; omega, fun hD => by have := hY.lt hy k hD; omega⟩
    | succ m ih =>
      intro i w' R' D' st' a n c v2 hi hni h' rn hy ho hk hv
      unfold drawers_state_each.l1
      obtain ⟨x, hx⟩ : ∃ x, M.lots[i]? = some x := ⟨_, List.getElem?_eq_getElem (by omega)⟩
      have hst := eachTo_step (sel := selL thing in_) (upd := upd) (mk := mk) hx
      have hln := eachTo_len M (selL thing in_) upd mk (i := i) (by omega)
      have hl' := h'.lots.1
      have hps := hS.postings
      have htk : (M.lots.take (i + 1)).filter (selL thing in_) = (M.lots.take i).filter (selL thing in_) ++ if selL thing in_ x then [x] else [] := by
        rw [List.take_succ, hx, List.filter_append]
        simp [List.filter_cons]
      refine ifb_dt (by omega) ⟨_, rfl, _, _, _, h'.rd.cells.at 3 rfl, h'.rd.lots.ix (by omega) (by omega) fun a0 y ha hy' hc => ?_⟩
      rw [Int.toNat_natCast, eachTo_get hx] at hy'
      cases hy'
      rw [Int.toNat_natCast] at hc ⊢
      refine ⟨_, hc.at 1 rfl, ?_⟩
      have hw : IntKind.wrap .i64 (((i : Nat) : Int) + 1) = ((i + 1 : Nat) : Int) := by rw [wrap_id (by omega) (by omega)]; omega
      have no : selL thing in_ x = false → drawers_state_each.j1 Q f a n c v2 (i : Nat) (drawers_state_each.l1 Q (some ⟨b, 0, none⟩) thing in_ f st.lots_n (m + 1)) a0 false w' := fun hs => by
        unfold drawers_state_each.j1
        refine ifb_f ?_
        rw [hw]
        rw [if_neg (by rw [hs]; simp)] at hst htk
        rw [List.append_nil] at htk
        exact ih (i + 1) w' R' D' st' a n c v2 (by omega) (by omega) (by rw [hst]; exact h') rn (by rw [htk]; exact hy) (by rw [htk]; exact ho) hk (by rw [htk]; exact hv)
      refine ifb ?_
      split
      · rename_i ht
        refine ⟨_, hc.at 8 rfl, ?_⟩
        dsimp only
        cases hs : x.State == in_ with
        | false => exact no (by unfold selL; rw [hs]; simp)
        | true =>
          have hsel : selL thing in_ x = true := by unfold selL; rw [ht, hs]; rfl
          rw [if_pos hsel] at hst htk
          unfold drawers_state_each.j1
          rw [Int.toNat_natCast]
          refine ifb_t (dr_f (er w') fun w3 E3 _ => ⟨_, (hc.ext E3).at 5 rfl, _, (hc.ext E3).at 7 rfl, al_f E3 fun b1 w4 hb1 hat4 E4 e4 _ => ?_⟩)
          refine ap_own ap53 encAmount (fun x => oneAll rfl) (ho.ext E4) (Rd.one (enc := TAmount.enc) (sz := 2) (amtOf x) hat4) (by omega) (by simp only [maxLen]; omega) fun a2 c2 w5 ho5 F5 hb5 => ?_
          have ho4 := ho.ext E4
          have hS5 : ∀ k, obk a c = some k → ¬ D' k ∧ ¬ C k := fun k hk' => ⟨(hk k hk').2.2, fun hCk => by have := hC k hCk; have := (hk k hk').1; omega⟩
          have h5 := (h'.ext E4).frm F5 fun k hR hk' => (hk k hk').2.1 hR
          have rn5 : Run2 C R No w R' D' w5 := (rn.ext E4).put F5 fun k hk' => .inr (hk k hk').1
          have hk5 : ∀ k, obk a2 c2 = some k → w.heap.size ≤ k ∧ ¬ R' k ∧ ¬ D' k := fun k hk' => (hb5 k hk').elim (hk k) fun h5' => ⟨Nat.le_trans rn.frm.size (Nat.le_trans E4.size h5'), fun hR => by have := h'.rLt k hR; have := E4.size; omega, fun hD => by have := hY.lt hy k hD; have := E4.size; omega⟩
          refine hdo w5 R' D' st' _ i x a0 _ rn5 h5 (by omega) ?_ (eachTo_get hx) ha (hY.keep (hY.ext hy E4) F5 hS5) _ fun w6 R6 D6 st6 h6 rn6 hy6 => ?_
          · rw [List.length_map]
            exact Nat.le_trans (List.length_filter_le _ _) (by rw [List.length_take]; omega)
          · rw [hw]
            have hlt5 : ∀ k, obk a2 c2 = some k → k < w5.heap.size := fun k hk' => by obtain ⟨cur, hc'⟩ := ho5.at k hk'; exact hc'.lt
            refine ih (i + 1) w6 R6 D6 st6 a2 (n + 1) c2 false (by omega) (by omega) (by rw [hst]; exact h6) (rn5.trans rn6) ?_ ?_ ?_ ?_
            · rw [htk, List.map_append]; exact hy6
            · rw [htk, List.map_append]
              exact ho5.frm rn6.frm fun k hk' hc' => hc'.elim (hk5 k hk').2.1 fun hc' => hc'.elim (hk5 k hk').2.2 fun hCk => by have := hC k hCk; have := (hk5 k hk').1; omega
            · exact fun k hk' => ⟨(hk5 k hk').1, fun hR => (rn6.sub k hR).elim (hk5 k hk').2.1 fun h => (by have := hlt5 k hk'; omega), fun hR => (rn6.subD k hR).elim (hk5 k hk').2.2 fun h => (by have := hlt5 k hk'; omega)⟩
            · rw [htk]; simp
      · rename_i ht
        exact no (by unfold selL; rw [show (x.Thing == thing) = false by simpa using ht]; rfl)
  refine key st.lots_n 0 w R No st none 0 0 true (by omega) (Nat.le_refl _) ?_ (Run2.refl _ _ _ _) (by simpa using y0) (by simpa using Own.nil) (fun k hk => by cases hk) (by simp)
  have : M.eachTo (selL thing in_) upd mk 0 = M := by unfold MState.eachTo; simp
  rw [this]; exact h

def LotDo (f : Value) (w : World) (C : Nat → Prop) (mk : TLot → TPosting) (upd : TLot → TLot) (Yd : List TLot → World → (Nat → Prop) → (Nat → Prop) → Prop) : Prop :=
  ∀ (b : Nat) (w2 : World) (R D : Nat → Prop) (st : Tstate) (M : MState) (i : Nat) (x : TLot) (a0 : Addr) (out : List TLot), Frm C w w2 → (∀ k, R k → w.heap.size ≤ k) → StIn w2 R b st M → M.postings.length ≤ 1000000 → out.length ≤ 100000 → M.lots[i]? = some x → st.lots_a = some a0 → Yd out w2 R D → ∀ K : World → Prop,
    (∀ w3 R3 D3 st3, StIn w3 R3 b st3 ((M.post (mk x)).setLot i (upd x)) → Run2 C R D w2 R3 D3 w3 → Yd (out ++ [upd x]) w3 R3 D3 → K w3) →
    Clv Pg f #[vp ⟨b, 0, none⟩, vp (a0.add (i * 10))] w2 (fun v w3 => v = .tuple #[] ∧ K w3)
/-- what is done behind. -/
def ThenIs (v : Value) (thn : MState → MState) : Prop := (v = .nilFunc ∧ thn = id) ∨ (v = .func (.func 92) #[] #[] ∧ thn = MState.late)
def YAm (bO : Nat) (s0 : Nat) (o : List TAmount) (w : World) : Prop := ∃ a n c, At w bO (.cells #[vl a n c] 53 (0, 0)) ∧ Own 58 2 TAmount.enc w a n c o ∧ ∀ k, obk a c = some k → s0 ≤ k
theorem YAm.keep {bO bL s0 : Nat} {o : List TAmount} {w2 w6 : World} (h : YAm bO s0 o w2) (F : Frm (fun k => k = bL) w2 w6) (hat : ∃ cur, At w2 bL (.cells cur 122 (0, 0))) : YAm bO s0 o w6 := by
  obtain ⟨a, n, c, h1, h2, h3⟩ := h
  obtain ⟨cur, hL⟩ := hat
  refine ⟨a, n, c, h1.frm F fun e => ?_, h2.frm F fun k hk e => ?_, h3⟩
  · subst e; exact absurd rfl (h1.neT hL (by simp [tyO]))
  · subst e
    obtain ⟨cur', hc⟩ := h2.at _ hk
    exact absurd rfl (hc.neT hL (by simp [tyO]))
theorem small_each {M : MState} (hS : Small M) (hl : M.lots.length ≤ 2000) (hp : M.postings.length ≤ 50000) (sel : TLot → Bool) (upd : TLot → TLot) (mk : TLot → TPosting) : Small (M.each sel upd mk) := by
  refine ⟨hS.units, hS.values, hS.terms, by simp [MState.each]; omega, ?_⟩
  have := List.length_filter_le sel M.lots
  simp only [MState.each, List.length_append, List.length_map]
  omega
theorem ids_each {M : MState} (hI : IdOk M) {sel : TLot → Bool} {upd : TLot → TLot} {mk : TLot → TPosting} (hu : ∀ x, (upd x).Id = x.Id) : IdOk (M.each sel upd mk) := by
  intro i x hx
  simp only [MState.each, List.getElem?_map, Option.map_eq_some_iff] at hx
  obtain ⟨y, hy, rfl⟩ := hx
  split
  · rw [hu]; exact hI i y hy
  · exact hI i y hy

theorem doesMoved {w0 w : World} (E0 : Ext w0 w) {b1 b2 b3 b4 b5 b6 : Nat} {thing in_ : Int} {ok : Bool} {f thenv : Value} (h1 : At w b1 (.cells #[vi thing] 3 (0, 0))) (h2 : At w b2 (.cells #[vb ok] 4 (0, 0))) (h3 : At w b3 (.cells #[vu in_] 5 (0, 0)))
    (h4 : At w b4 (.cells #[f] 136 (0, 0))) (h5 : At w b5 (.cells #[thenv] 181 (0, 0))) (h6 : At w b6 (.cells #[vl none 0 0] 53 (0, 0))) (l1 : w0.heap.size ≤ b1) (l2 : w0.heap.size ≤ b2) (l3 : w0.heap.size ≤ b3) (l4 : w0.heap.size ≤ b4) (l5 : w0.heap.size ≤ b5) (l6 : w0.heap.size ≤ b6)
    {Cd : Nat → Prop} {mk : TLot → TPosting} {upd : TLot → TLot} {thn : MState → MState} (hu : ∀ x, (upd x).Id = x.Id) {Yd : List TLot → World → (Nat → Prop) → (Nat → Prop) → Prop} (hY : YOk Cd Yd) (hCd : ∀ k, Cd k → k < w0.heap.size) (hdo : LotDo f w0 Cd mk upd Yd) (ht : ThenIs thenv thn)
    (y0 : ∀ w' R', Ext w0 w' → (∀ k, R' k → w0.heap.size ≤ k) → Yd [] w' R' No) {M : MState} (hS : Small M) (hI : IdOk M) (hl : M.lots.length ≤ 2000) (hp : M.postings.length ≤ 50000) :
    Does (.func (.func 147) #[] #[vp ⟨b1, 0, none⟩, vp ⟨b2, 0, none⟩, vp ⟨b3, 0, none⟩, vp ⟨b4, 0, none⟩, vp ⟨b6, 0, none⟩, vp ⟨b5, 0, none⟩]) w (fun k => Cd k ∨ k = b6) M (RetO (fun o w => YAm b6 w0.heap.size o.1 w ∧ ∃ R D, Yd o.2 w R D ∧ ∀ k, D k → w0.heap.size ≤ k) (gMoved thing ok in_ upd mk thn M)) := by
  intro w1 R1 b st h hR E
  have k1 := h1.lt
  have k2 := h2.lt
  have k3 := h3.lt
  have k4 := h4.lt
  have k5 := h5.lt
  have k6 := h6.lt
  have s0 := E0.size
  have s1 := E.size
  have n1 : ¬ Cd b1 := fun h => by have := hCd _ h; omega
  have n4 : ¬ Cd b4 := fun h => by have := hCd _ h; omega
  have n5 : ¬ Cd b5 := fun h => by have := hCd _ h; omega
  have n6 : ¬ Cd b6 := fun h => by have := hCd _ h; omega
  have same : ∀ {r : Int} {w'}, r ≠ 0 → (∃ o, (r, M, o) = gMoved thing ok in_ upd mk thn M) → Ext w1 w' → DoesQ (fun k => Cd k ∨ k = b6) (RetO (fun o w => YAm b6 w0.heap.size o.1 w ∧ ∃ R D, Yd o.2 w R D ∧ ∀ k, D k → w0.heap.size ≤ k) (gMoved thing ok in_ upd mk thn M)) w1 R1 b r w' := fun {r w'} hr ho E' => by
    obtain ⟨o, ho⟩ := ho
    exact does_same h E' ⟨o, ho, fun h => absurd h hr⟩
  refine clv_f (drawers_Ledger_moved_1.ok (al_f (er w1) fun b7 w2 hb7 hat7 E2 _ _ => ⟨_, cell_blk ((h1.ext E).ext E2) rfl, al_f E2 fun b8 w3 hb8 hat8 E3 e3 _ => ?_⟩))
  refine id_c (rd_ints [thing] hat8) (by simp [maxLen]) fun w4 E4 => ?_
  have hat7 := (hat7.ext e3).ext E4
  have E4 := E3.ext E4
  have EE4 := E.ext E4
  have j1 : ∀ v, v = (!isId thing || !ok) → drawers_Ledger_moved_1.j1 (DoesQ (fun k => Cd k ∨ k = b6) (RetO (fun o w => YAm b6 w0.heap.size o.1 w ∧ ∃ R D, Yd o.2 w R D ∧ ∀ k, D k → w0.heap.size ≤ k) (gMoved thing ok in_ upd mk thn M)) w1 R1 b) ⟨b1, 0, none⟩ ⟨b3, 0, none⟩ ⟨b4, 0, none⟩ ⟨b6, 0, none⟩ ⟨b5, 0, none⟩ b7 v w4 := by
    intro v hv
    subst hv
    unfold drawers_Ledger_moved_1.j1
    refine ifb ?_
    split
    · rename_i hv
      refine same (by decide) ⟨([], []), ?_⟩ E4
      unfold gMoved; rw [if_pos hv]
    rename_i hv
    have h4' := h.ext E4
    have hltR : ∀ k, R1 k → k < w1.heap.size := h.rLt
    refine ⟨_, cell_blk hat7 rfl, _, cell_blk (h1.ext EE4) rfl, _, cell_blk (h3.ext EE4) rfl, ?_⟩
    have hb7n : ¬ R1 b7 := fun h => by have := hltR _ h; omega
    have c7n : ¬ Cd b7 := fun h => by have := hCd _ h; omega
    have hdo' : EachDo (.func (.func 149) #[] #[vp ⟨b4, 0, none⟩, vp ⟨b7, 0, none⟩]) Cd R1 w4 b mk upd Yd := by
      intro w2 R D st M' i x a0 out rn2 hs hpl hol hx ha hy K hK
      have rn := rn2.run
      have FC : Frm Cd w w2 := (Ext.frm EE4).trans rn.frm fun k hk h => h.elim (fun h => by have := hR k h; omega) id
      refine clv_f (drawers_Ledger_moved_1_1.ok ⟨f, cell_blk (h4.frm FC n4) rfl, _, cell_blk (hat7.frm rn.frm fun h => h.elim hb7n c7n) rfl, ?_⟩)
      refine hdo b w2 R D st M' i x a0 out ((Ext.frm E0).trans FC fun _ _ h => h) (fun k hk => (rn.sub k hk).elim (fun h => by have := hR k h; omega) fun h => by have := EE4.size; omega) hs hpl hol hx ha hy K hK
    have b6R : ∀ {R' w'}, Run Cd R1 w4 R' w' → ¬ R' b6 := fun rn h => (rn.sub _ h).elim (fun h => by have := hR _ h; omega) fun h => by have := EE4.size; omega
    have b6at : ∀ {R' w'}, Run Cd R1 w4 R' w' → At w' b6 (.cells #[vl none 0 0] 53 (0, 0)) := fun rn => (h6.ext EE4).frm rn.frm fun h => h.elim (fun h => by have := hR _ h; omega) n6
    have run6 : ∀ {R' w' w5}, Run Cd R1 w4 R' w' → Frm (fun k => k = b6) w' w5 → Run (fun k => Cd k ∨ k = b6) R1 w1 R' w5 := fun {R' w' w5} rn F =>
      ⟨((Ext.frm E4).trans (Frm.mono rn.frm (S' := fun k => R1 k ∨ Cd k ∨ k = b6) fun k _ h => h.imp id .inl) fun _ _ h => h).trans F fun k _ e => .inr (.inr e), fun k hk => (rn.sub k hk).imp id fun h => Nat.le_trans E4.size h⟩
    refine each_c h4' hS hY (fun k hk => by have := hCd k hk; have := EE4.size; omega) hdo' (y0 _ _ (E0.ext EE4) fun k hk => by have := hR k hk; omega) (fun w5 R5 D5 st5 a n c he h5' rn2 hy ho hk => ?_) fun w5 R5 st5 he h5' rn => ?_
    · have rn := rn2.run
      have hD5 : ∀ k, D5 k → w0.heap.size ≤ k := fun k hk => (rn2.subD k hk).elim (fun h => h.elim) fun h => by have := EE4.size; omega
      refine st_at (b6at rn) (by simp) fun w6 hat6 F6 => ifb_t ?_
      have h6' := h5'.frm F6 fun k hk e => b6R rn (e ▸ hk)
      have hkb6 : ∀ k, obk a c = some k → ¬ k = b6 := fun k hk' e => by have := (hk k hk').1; have := EE4.size; omega
      have ho6 := ho.frm F6 hkb6
      have hy6 := hY.keep hy F6 (fun k e => ⟨fun hD => (rn2.subD k hD).elim (fun h => h.elim) fun h => by have := EE4.size; omega, fun hc => n6 (e ▸ hc)⟩)
      have FC : ∀ {w'}, Frm (fun k => k = b6) w5 w' → Frm (fun k => Cd k ∨ k = b6) w w' := fun F => ((Ext.frm EE4).trans rn.frm (S := fun k => Cd k ∨ k = b6) fun k hk h => h.elim (fun h => by have := hR k h; omega) .inl).trans F fun k _ e => .inr e
      have c5 := h5.frm (FC F6) fun h => h.elim n5 fun e => h5.neT h6 (by simp [tyO]) e
      refine ⟨thenv, cell_blk c5 rfl, ?_, ?_⟩
      · rcases ht with ⟨rfl, _⟩ | ⟨rfl, _⟩ <;> rfl
      have hret : ∀ {thn' : MState → MState}, thn' = thn → (0, thn' (M.each (selL thing in_) upd mk), (sumsM ((M.lots.filter (selL thing in_)).map amtOf), (M.lots.filter (selL thing in_)).map upd)) = gMoved thing ok in_ upd mk thn M := fun e => by
        subst e; unfold gMoved; rw [if_neg hv, if_neg (by rw [he]; simp)]
      unfold drawers_Ledger_moved_1.j2
      rcases ht with ⟨rfl, rfl⟩ | ⟨rfl, rfl⟩
      · refine ifb_f (does_run h6' (run6 rn F6) ⟨_, hret rfl, fun _ => ⟨⟨a, n, c, hat6, ho6, fun k hk' => ?_⟩, R5, D5, hy6, hD5⟩⟩)
        have := (hk k hk').1; have := EE4.size; omega
      · have b7at : At w6 b7 (.cells #[vP (some ⟨b, 0, none⟩)] 124 (0, 0)) := (hat7.frm rn.frm fun h => h.elim hb7n c7n).frm F6 fun e => by omega
        refine ifb_t ⟨_, cell_blk c5 rfl, _, cell_blk b7at rfl, clv_f ?_⟩
        have hSe := small_each hS hl hp (selL thing in_) upd mk
        refine late_c h6' hSe (ids_each hI hu) (Nat.le_trans (List.length_filter_le _ _) hSe.lots) fun w7 R7 st7 h7 s7 => ?_
        refine does_run h7 ((run6 rn F6).step s7) ⟨_, hret rfl, fun _ => ⟨⟨a, n, c, hat6.frm s7.frm (b6R rn), ho6.frm s7.frm fun k hk' => (hk k hk').2.1, fun k hk' => ?_⟩, R7, D5, hY.step hy6 s7, hD5⟩⟩
        have := (hk k hk').1; have := EE4.size; omega
    · refine st_at (b6at rn) (by simp) fun w6 hat6 F6 => ifb_f ?_
      have h6' := h5'.frm F6 fun k hk e => b6R rn (e ▸ hk)
      unfold drawers_Ledger_moved_1.j2
      refine ifb_f (does_run h6' (run6 rn F6) ⟨([], []), ?_, fun h => by cases h⟩)
      unfold gMoved; rw [if_neg hv, if_pos he]
  rw [isId_one]
  refine ifb ?_
  split
  · rename_i hi; exact j1 true (by rw [hi]; rfl)
  · rename_i hi
    refine ⟨_, cell_blk (h2.ext EE4) rfl, j1 _ ?_⟩
    rw [show (!isId thing) = false by simpa using hi]; rfl

theorem moved_c {w : World} {R : Nat → Prop} {bL : Nat} {st : Tstate} {M : MState} (h : Led w R bL st M) (hG : Good M) {day thing in_ : Int} {ok : Bool} {f thenv : Value} (hf : isOne f = true)
    {Cd : Nat → Prop} {mk : TLot → TPosting} {upd : TLot → TLot} {thn : MState → MState} (hu : ∀ x, (upd x).Id = x.Id) {Yd : List TLot → World → (Nat → Prop) → (Nat → Prop) → Prop} (hY : YOk Cd Yd) (hCd : ∀ k, Cd k → k < w.heap.size ∧ k ≠ bL ∧ ¬ R k) (hdo : LotDo f w Cd mk upd Yd) (ht : ThenIs thenv thn)
    (y0 : ∀ w' R', Ext w w' → (∀ k, R' k → w.heap.size ≤ k) → Yd [] w' R' No) {Q : Option Addr → Nat → Nat → Int → World → Prop}
    (hQ : ∀ a n c w' R' st', Led w' R' bL st' (M.operO ([], []) day (gMoved thing ok in_ upd mk thn)).2.1 → (∀ k, R' k → R k ∨ w.heap.size ≤ k) → Frm (fun k => Cd k ∨ k = bL) w w' → Own 58 2 TAmount.enc w' a n c (M.operO ([], []) day (gMoved thing ok in_ upd mk thn)).2.2.1 → (∀ k, obk a c = some k → w.heap.size ≤ k) →
      ((M.operO ([], []) day (gMoved thing ok in_ upd mk thn)).1 = 0 → ∃ R D, Yd (M.operO ([], []) day (gMoved thing ok in_ upd mk thn)).2.2.2 w' R D ∧ ∀ k, D k → w.heap.size ≤ k) → ((M.operO ([], []) day (gMoved thing ok in_ upd mk thn)).1 ≠ 0 → (M.operO ([], []) day (gMoved thing ok in_ upd mk thn)).2.2 = ([], [])) → Q a n c (M.operO ([], []) day (gMoved thing ok in_ upd mk thn)).1 w') :
    Cl Pg 89 #[vp ⟨bL, 0, none⟩, vi day, vi thing, vb ok, vu in_, f, thenv] w (fun v w' => ∃ a n c r, v = .tuple #[vl a n c, vi r] ∧ Q a n c r w') := by
  have ht1 : isOne thenv = true := by rcases ht with ⟨rfl, _⟩ | ⟨rfl, _⟩ <;> rfl
  refine drawers_Ledger_moved.ok (al_f (er w) fun b1 w1 hb1 h1 E e1 n1 => al_f E fun b2 w2 hb2 h2 E e2 n2 => al_f E fun b3 w3 hb3 h3 E e3 n3 => ⟨hf, al_f E fun b4 w4 hb4 h4 E e4 n4 => ⟨ht1, al_f E fun b5 w5 hb5 h5 E e5 n5 => al_f E fun b6 w6 hb6 h6 E e6 n6 => ?_⟩⟩)
  have hbL := h.blk.lt
  have h1 := ((((h1.ext e2).ext e3).ext e4).ext e5).ext e6
  have h2 := (((h2.ext e3).ext e4).ext e5).ext e6
  have h3 := ((h3.ext e4).ext e5).ext e6
  have h4 := (h4.ext e5).ext e6
  have h5 := h5.ext e6
  refine operateO_c (h.ext E) hG (C := fun k => Cd k ∨ k = b6) (z := (([], []) : List TAmount × List TLot)) (Y := fun o w' => YAm b6 w.heap.size o.1 w' ∧ ∃ R D, Yd o.2 w' R D ∧ ∀ k, D k → w.heap.size ≤ k) (g := gMoved thing ok in_ upd mk thn) (fun h => h.elim (fun h => (hCd _ h).2.1 rfl) fun e => by omega) (fun o w2 w6 hy F hat => ⟨hy.1.keep F hat, ?_⟩)
    (fun _ _ _ => doesMoved E h1 h2 h3 h4 h5 h6 hb1 hb2 hb3 hb4 hb5 hb6 hu hY (fun k hk => (hCd k hk).1) hdo ht y0 (hG.adv day).1 (hG.adv day).2.1 (by rw [(hG.adv day).2.2.2]; exact hG.lots) (by have := (hG.adv day).2.2.1; omega)) ?_ (fun k hk h' => h'.elim (fun h' => (hCd _ h').2.2 hk) fun e => by have := h.free.rLt k hk; omega)
  · obtain ⟨R', D', hy', hD'⟩ := hy.2
    exact ⟨R', D', hY.keep hy' F fun k e => ⟨fun hd => by have := hD' k hd; omega, fun hc => (hCd k hc).2.1 e⟩, hD'⟩
  · intro w' R' st' hL hR F hy hz
    have hR' : ∀ k, R' k → R k ∨ w.heap.size ≤ k := fun k hk => (hR k hk).imp id fun h => Nat.le_trans E.size h
    have F' : Frm (fun k => Cd k ∨ k = bL) w w' := (Ext.frm E).trans F fun k hk hk' => hk'.elim (fun h => h.elim .inl fun e => by omega) .inr
    refine ifb ?_
    split
    · rename_i hr
      have hr : (M.operO ([], []) day (gMoved thing ok in_ upd mk thn)).1 ≠ 0 := by simpa using hr
      refine hQ _ _ _ _ R' st' hL hR' F' ?_ (fun k hk => by cases hk) (fun h => absurd h hr) hz
      rw [hz hr]
      exact Own.nil
    · rename_i hr
      have hr : (M.operO ([], []) day (gMoved thing ok in_ upd mk thn)).1 = 0 := by simpa using hr
      obtain ⟨⟨a, n, c, g1, g2, g3⟩, g4⟩ := hy hr
      refine ⟨_, _, _, cell_blk g1 rfl, ?_⟩
      have := hQ a n c w' R' st' hL hR' F' g2 g3 (fun _ => g4) hz
      rw [hr] at this
      exact this
end Go.Proofs.YtcbijkakoepglaaGreat
namespace Go.Proofs.YtcbijkakoepglaaGreat
open Go Go.Wx

/-! ### the plain side -/
def updPay (x : TLot) : TLot := { x with State := 2, Left := 0 }
def updLose (x : TLot) : TLot := { x with State := 5 }
def updRecover (x : TLot) : TLot := { x with State := 1 }
def updDispatch (bag : Int) (x : TLot) : TLot := { x with State := 6, Bag := bag }
def mkPay (day thing person : Int) (x : TLot) : TPosting := ⟨day, x.Unit, x.Left, 2, thing, 3, person, 2, x.Id⟩
def mkLose (day thing : Int) (x : TLot) : TPosting := ⟨day, x.Unit, x.Left, 2, thing, 5, 0, 6, x.Id⟩
def mkRecover (day thing : Int) (x : TLot) : TPosting := ⟨day, x.Unit, x.Left, 5, 0, 2, thing, 7, x.Id⟩
def mkDispatch (day thing bag : Int) (x : TLot) : TPosting := ⟨day, x.Unit, x.Left, 2, thing, 7, bag, 8, x.Id⟩
def MState.pay (M : MState) (day thing person : Int) := M.operO ([], []) day (gMoved thing (isId person) 1 updPay (mkPay day thing person) id)
def MState.lose (M : MState) (day thing : Int) := M.operO ([], []) day (gMoved thing true 1 updLose (mkLose day thing) id)
def MState.recover (M : MState) (day thing : Int) := M.operO ([], []) day (gMoved thing true 5 updRecover (mkRecover day thing) MState.late)
def MState.dispatch (M : MState) (day thing bag : Int) := M.operO ([], []) day (gMoved thing (isId bag) 1 (updDispatch bag) (mkDispatch day thing bag) id)
def MState.adv (M : MState) (day : Int) : Int × MState := M.oper day fun M => (0, M)

/-! ### the contracts -/
def YNo (_ : List TLot) (_ : World) (_ D : Nat → Prop) : Prop := ∀ k, ¬ D k
theorem yNo : YOk No YNo := ⟨fun h _ _ => h, fun h _ => h, fun h k hk => (h k hk).elim⟩
theorem cell_id {w : World} {a : Addr} {vs : List Value} (h : Cells w a vs) {v : Value} (hv : vs[0]? = some v) : w.cell? a = some v := by
  have := h.at 0 hv
  unfold Addr.add at this
  simpa using this

theorem doPay {w : World} {b1 b2 b3 : Nat} {day thing person : Int} (h1 : At w b1 (.cells #[vi day] 3 (0, 0))) (h2 : At w b2 (.cells #[vi thing] 3 (0, 0))) (h3 : At w b3 (.cells #[vi person] 3 (0, 0))) :
    LotDo (.func (.func 122) #[] #[vp ⟨b1, 0, none⟩, vp ⟨b2, 0, none⟩, vp ⟨b3, 0, none⟩]) w (fun _ => False) (mkPay day thing person) updPay YNo := by
  intro b w2 R D st M i x a0 out E hR h hp hol hx ha hD K hK
  have hc := h.rd.lots.2.2 a0 ha i x hx
  refine clv_f (drawers_Ledger_Pay_1.ok (dr_f (er w2) fun w3 E3 _ => ⟨_, cell_blk ((h1.ext E).ext E3) rfl, _, rfl, _, (hc.ext E3).at 5 rfl, _, rfl, _, (hc.ext E3).at 7 rfl, _, cell_blk ((h2.ext E).ext E3) rfl, _, cell_blk ((h3.ext E).ext E3) rfl, _, rfl, _, cell_id (hc.ext E3) rfl, ?_⟩))
  refine post_c (h.ext E3) hp fun w4 R4 st4 h4 ⟨e1, e2, e3⟩ s4 => ⟨_, rfl, ?_⟩
  refine st_lot h4 { x with State := 2 } hx (by decide) (fun r hr => ?_) (e1.trans ha) fun w5 h5 s5 => ⟨_, rfl, ?_⟩
  · match r, hr with
    | 0, _ | 1, _ | 2, _ | 3, _ | 4, _ | 5, _ | 6, _ | 7, _ | 8, _ | 9, _ => rfl
  refine st_lot h5 (updPay x) (setLot_get hx) (by decide) (fun r hr => ?_) (e1.trans ha) fun w6 h6 s6 => ?_
  · match r, hr with
    | 0, _ | 1, _ | 2, _ | 3, _ | 4, _ | 5, _ | 6, _ | 7, _ | 8, _ | 9, _ => rfl
  rw [setLot_setLot] at h6
  exact hK w6 R4 D st4 h6 ((Ext.step E3).trans (s4.trans (s5.trans s6))).run2 hD
theorem doLose {w : World} {b1 b2 : Nat} {day thing : Int} (h1 : At w b1 (.cells #[vi day] 3 (0, 0))) (h2 : At w b2 (.cells #[vi thing] 3 (0, 0))) :
    LotDo (.func (.func 155) #[] #[vp ⟨b1, 0, none⟩, vp ⟨b2, 0, none⟩]) w (fun _ => False) (mkLose day thing) updLose YNo := by
  intro b w2 R D st M i x a0 out E hR h hp hol hx ha hD K hK
  have hc := h.rd.lots.2.2 a0 ha i x hx
  refine clv_f (drawers_Ledger_Lose_1.ok (dr_f (er w2) fun w3 E3 _ => ⟨_, cell_blk ((h1.ext E).ext E3) rfl, _, rfl, _, (hc.ext E3).at 5 rfl, _, rfl, _, (hc.ext E3).at 7 rfl, _, cell_blk ((h2.ext E).ext E3) rfl, _, rfl, _, cell_id (hc.ext E3) rfl, ?_⟩))
  refine post_c (h.ext E3) hp fun w4 R4 st4 h4 ⟨e1, e2, e3⟩ s4 => ⟨_, rfl, ?_⟩
  refine st_lot h4 (updLose x) hx (by decide) (fun r hr => ?_) (e1.trans ha) fun w5 h5 s5 => hK w5 R4 D st4 h5 ((Ext.step E3).trans (s4.trans s5)).run2 hD
  · match r, hr with
    | 0, _ | 1, _ | 2, _ | 3, _ | 4, _ | 5, _ | 6, _ | 7, _ | 8, _ | 9, _ => rfl
theorem doRecover {w : World} {b1 b2 : Nat} {day thing : Int} (h1 : At w b1 (.cells #[vi day] 3 (0, 0))) (h2 : At w b2 (.cells #[vi thing] 3 (0, 0))) :
    LotDo (.func (.func 156) #[] #[vp ⟨b1, 0, none⟩, vp ⟨b2, 0, none⟩]) w (fun _ => False) (mkRecover day thing) updRecover YNo := by
  intro b w2 R D st M i x a0 out E hR h hp hol hx ha hD K hK
  have hc := h.rd.lots.2.2 a0 ha i x hx
  refine clv_f (drawers_Ledger_Recover_1.ok (dr_f (er w2) fun w3 E3 _ => ⟨_, cell_blk ((h1.ext E).ext E3) rfl, _, rfl, _, (hc.ext E3).at 5 rfl, _, rfl, _, (hc.ext E3).at 7 rfl, _, cell_blk ((h2.ext E).ext E3) rfl, _, rfl, _, cell_id (hc.ext E3) rfl, ?_⟩))
  refine post_c (h.ext E3) hp fun w4 R4 st4 h4 ⟨e1, e2, e3⟩ s4 => ⟨_, rfl, ?_⟩
  refine st_lot h4 (updRecover x) hx (by decide) (fun r hr => ?_) (e1.trans ha) fun w5 h5 s5 => hK w5 R4 D st4 h5 ((Ext.step E3).trans (s4.trans s5)).run2 hD
  · match r, hr with
    | 0, _ | 1, _ | 2, _ | 3, _ | 4, _ | 5, _ | 6, _ | 7, _ | 8, _ | 9, _ => rfl

/-- the lots that were dispatched, in a captured variable. -/
structure YLots (b4 s1 : Nat) (out : List TLot) (w : World) (R D : Nat → Prop) : Prop where
  nr : ¬ R b4
  lt4 : b4 < s1
  le : s1 ≤ w.heap.size
  d : ∀ k, D k → k < w.heap.size ∧ ¬ R k
  is : ∃ a c, At w b4 (.cells #[vl a out.length c] 46 (0, 0)) ∧ Own 45 10 TLot.enc w a out.length c out ∧ ∀ k, obk a c = some k → D k
theorem yLots (b4 s1 : Nat) : YOk (fun k => k = b4) (YLots b4 s1) := {
  keep := by
    rintro out w w' R D S ⟨h1, h2, h3, h4, a, c, h5, h6, h7⟩ F hS
    exact ⟨h1, h2, Nat.le_trans h3 F.size, fun k hk => ⟨Nat.lt_of_lt_of_le (h4 k hk).1 F.size, (h4 k hk).2⟩, a, c, h5.frm F fun h => (hS _ h).2 rfl, h6.frm F fun k hk h => (hS k h).1 (h7 k hk), h7⟩
  step := by
    rintro out w w' R R' D ⟨h1, h2, h3, h4, a, c, h5, h6, h7⟩ s
    exact ⟨s.out (by omega) h1, h2, Nat.le_trans h3 s.frm.size, fun k hk => ⟨Nat.lt_of_lt_of_le (h4 k hk).1 s.frm.size, s.out (h4 k hk).1 (h4 k hk).2⟩, a, c, h5.frm s.frm h1, h6.frm s.frm fun k hk => (h4 k (h7 k hk)).2, h7⟩
  lt h k hk := (h.d k hk).1 }
theorem doDispatch {w : World} {b1 b2 b3 b4 s0 : Nat} {day thing bag : Int} (h1 : At w b1 (.cells #[vi day] 3 (0, 0))) (h2 : At w b2 (.cells #[vi thing] 3 (0, 0))) (h3 : At w b3 (.cells #[vi bag] 3 (0, 0))) (h4 : At w b4 (.cells #[vl none 0 0] 46 (0, 0))) (hs : s0 ≤ w.heap.size) :
    LotDo (.func (.func 90) #[] #[vp ⟨b1, 0, none⟩, vp ⟨b2, 0, none⟩, vp ⟨b3, 0, none⟩, vp ⟨b4, 0, none⟩]) w (fun k => k = b4) (mkDispatch day thing bag) (updDispatch bag) (YLots b4 w.heap.size) := by
  intro b w2 R D st M i x a0 out F hR h hp hol hx ha hy K hK
  have n1 : ¬ b1 = b4 := h1.neT h4 (by simp [tyO])
  have n2 : ¬ b2 = b4 := h2.neT h4 (by simp [tyO])
  have n3 : ¬ b3 = b4 := h3.neT h4 (by simp [tyO])
  have l3 := h3.lt
  have hc := h.rd.lots.2.2 a0 ha i x hx
  have c1 := h1.frm F n1
  have c2 := h2.frm F n2
  have c3 := h3.frm F n3
  refine clv_f (drawers_Ledger_Dispatch_1.ok (dr_f (er w2) fun w3 E3 _ => ⟨_, cell_blk (c1.ext E3) rfl, _, rfl, _, (hc.ext E3).at 5 rfl, _, rfl, _, (hc.ext E3).at 7 rfl, _, cell_blk (c2.ext E3) rfl, _, cell_blk (c3.ext E3) rfl, _, rfl, _, cell_id (hc.ext E3) rfl, ?_⟩))
  refine post_c (h.ext E3) hp fun w4 R4 st4 h4' ⟨e1, e2, e3⟩ s4 => ⟨_, rfl, ?_⟩
  refine st_lot h4' { x with State := 6 } hx (by decide) (fun r hr => ?_) (e1.trans ha) fun w5 h5 s5 => ?_
  · match r, hr with
    | 0, _ | 1, _ | 2, _ | 3, _ | 4, _ | 5, _ | 6, _ | 7, _ | 8, _ | 9, _ => rfl
  have s35 : Step R w2 R4 w5 := (Ext.step E3).trans (s4.trans s5)
  have hb3R : ¬ R b3 := fun hr => by have := hR _ hr; omega
  have hb3R4 : ¬ R4 b3 := s35.out c3.lt hb3R
  refine ⟨_, cell_blk (c3.frm s35.frm hb3R) rfl, _, rfl, ?_⟩
  refine st_lot h5 (vs := [vi bag]) (updDispatch bag x) (setLot_get hx) (by simp) (fun r hr => ?_) (e1.trans ha) fun w6 h6 s6 => ?_
  · match r, hr with
    | 0, _ | 1, _ | 2, _ | 3, _ | 4, _ | 5, _ | 6, _ | 7, _ | 8, _ | 9, _ => rfl
  rw [setLot_setLot] at h6
  have s36 : Step R w2 R4 w6 := s35.trans s6
  obtain ⟨y1, y2, y3, y4, oa, oc, y5, y6, y7⟩ := (yLots _ _).step hy s36
  refine dr_f (er w6) fun w7 E7 _ => ?_
  have hx6 : (M.setLot i (updDispatch bag x)).lots[i]? = some (updDispatch bag x) := setLot_get hx
  have hc6 := h6.rd.lots.2.2 a0 (e1.trans ha) i (updDispatch bag x) hx6
  refine ⟨_, _, _, cell_blk (y5.ext E7) rfl, _, rfl, updDispatch bag x, hc6.ext E7, ?_⟩
  have ou7 : Outs 45 10 TLot.enc w7 R4 0 b4 46 out oa out.length oc := ⟨y5.ext E7, y6.ext E7, fun k hk => ⟨Nat.zero_le _, (y4 k (y7 k hk)).2⟩⟩
  refine outs_app ap46 (by decide) encLot (fun x => oneAll rfl) (by decide) ou7 (by omega) (h6.ext E7).rLt (Nat.zero_le _) (updDispatch bag x) fun a2 c2' w8 ou8 F8 hb8 => ?_
  have s67 := E7.size
  have s28 := F8.size
  have hsz := s36.frm.size
  refine hK w8 R4 (fun k => D k ∨ obk a2 c2' = some k) st4 ((h6.ext E7).frm F8 fun k hk e => e.elim (fun e => y1 (e ▸ hk)) fun e => (ou7.new k e).2 hk) ⟨((s36.ext E7).frm.mono fun _ _ h => .inl h).trans F8 fun k hk hk' => hk'.elim (fun e => .inr (.inr e)) fun hk' => .inr (.inl (y7 k hk')), s36.sub, fun k hk => hk.elim .inl fun hk => (hb8 k hk).elim (fun h => .inl (y7 k h)) fun h => .inr (by omega)⟩ ⟨y1, y2, by omega, fun k hk => hk.elim (fun hk => ⟨by have := (y4 k hk).1; omega, (y4 k hk).2⟩) fun hk => ⟨?_, (ou8.new k hk).2⟩, a2, c2', ?_, ?_, fun k hk => .inr hk⟩
  · obtain ⟨cur, hc⟩ := ou8.own.at k hk; exact hc.lt
  · rw [List.length_append, List.length_singleton]; exact ou8.at'
  · rw [List.length_append, List.length_singleton]; exact ou8.own

section
variable {w : World} {R : Nat → Prop} {bL : Nat} {st : Tstate} {M : MState}
theorem adv_c (h : Led w R bL st M) (hG : Good M) {day : Int} {Q : Int → Int → World → Prop}
    (hQ : ∀ w' R' st', Led w' R' bL st' (M.adv day).2 → (∀ k, R' k → R k ∨ w.heap.size ≤ k) → Frm (fun k => k = bL) w w' → Q (if (M.adv day).1 = 0 then (M.due day).length else 0) (M.adv day).1 w') :
    Cl Pg 23 #[vp ⟨bL, 0, none⟩, vi day] w (fun v w' => ∃ r1 r2, v = .tuple #[vi r1, vi r2] ∧ Q r1 r2 w') := by
  refine drawers_Ledger_Advance.ok (ifb_t ⟨_, rfl, due_c h.rd hG.small.fits hG.ids (Nat.le_trans (List.length_filter_le _ _) hG.small.lots) fun a n c w1 ho hk E => ?_⟩)
  unfold drawers_Ledger_Advance.j1
  refine operate0_c (h.ext E) hG.small hG.ids (hG.dueOk day) (g := fun M => (0, M)) (fun _ _ _ => ?_) fun w' R' st' hL hR F => ?_
  · intro w2 R2 b2 st2 h2 hR2 E2
    refine clv_f (drawers_Ledger_Advance_1.ok ?_)
    exact does_same h2 (er w2) rfl
  · have := hQ w' R' st' hL (fun k hk => (hR k hk).imp id fun h => Nat.le_trans E.size h) (Ext.then E F)
    refine ifb ?_
    split
    · rename_i hr
      have hr : (M.adv day).1 ≠ 0 := by simpa [MState.adv] using hr
      rw [if_neg hr] at this
      exact this
    · rename_i hr
      have hr : (M.adv day).1 = 0 := by simpa [MState.adv] using hr
      rw [if_pos hr, hr] at this
      rw [ho.1]
      exact this

theorem pay_c (h : Led w R bL st M) (hG : Good M) {day thing person : Int} {Q : Option Addr → Nat → Nat → Int → World → Prop}
    (hQ : ∀ a n c w' R' st', Led w' R' bL st' (M.pay day thing person).2.1 → (∀ k, R' k → R k ∨ w.heap.size ≤ k) → Frm (fun k => k = bL) w w' → Own 58 2 TAmount.enc w' a n c (M.pay day thing person).2.2.1 → (∀ k, obk a c = some k → w.heap.size ≤ k) → Q a n c (M.pay day thing person).1 w') :
    Cl Pg 65 #[vp ⟨bL, 0, none⟩, vi day, vi thing, vi person] w (fun v w' => ∃ a n c r, v = .tuple #[vl a n c, vi r] ∧ Q a n c r w') := by
  refine drawers_Ledger_Pay.ok (al_f (er w) fun b1 w1 hb1 h1 E e1 n1 => al_f E fun b2 w2 hb2 h2 E e2 n2 => al_f E fun b3 w3 hb3 h3 E e3 n3 => dr_f E fun w4 E e4 => ?_)
  have h1 := ((h1.ext e2).ext e3).ext e4
  have h2 := (h2.ext e3).ext e4
  have h3 := h3.ext e4
  refine ⟨_, cell_blk h1 rfl, _, cell_blk h2 rfl, _, cell_blk h3 rfl, al_f E fun b4 w5 hb4 h4 E e5 n4 => id_c (rd_ints [person] h4) (by simp [maxLen]) fun w6 e6 => ?_⟩
  have h1 := (h1.ext e5).ext e6
  have h2 := (h2.ext e5).ext e6
  have h3 := (h3.ext e5).ext e6
  have E := E.ext e6
  refine ⟨cell_blk h1 rfl, cell_blk h2 rfl, ?_⟩
  rw [isId_one]
  refine moved_c (h.ext E) hG rfl (upd := updPay) (fun _ => rfl) yNo (fun _ h => h.elim) (doPay h1 h2 h3) (.inl ⟨rfl, rfl⟩) (fun _ _ _ _ => fun _ h => h) fun a n c w' R' st' hL hR F ho hk _ _ => ?_
  exact hQ _ _ _ _ _ _ hL (fun k hk => (hR k hk).imp id fun h => Nat.le_trans E.size h) (Ext.then E (F.mono fun k _ hk => hk.elim False.elim id)) ho fun k h => Nat.le_trans E.size (hk k h)
theorem lose_c (h : Led w R bL st M) (hG : Good M) {day thing : Int} {Q : Option Addr → Nat → Nat → Int → World → Prop}
    (hQ : ∀ a n c w' R' st', Led w' R' bL st' (M.lose day thing).2.1 → (∀ k, R' k → R k ∨ w.heap.size ≤ k) → Frm (fun k => k = bL) w w' → Own 58 2 TAmount.enc w' a n c (M.lose day thing).2.2.1 → (∀ k, obk a c = some k → w.heap.size ≤ k) → Q a n c (M.lose day thing).1 w') :
    Cl Pg 101 #[vp ⟨bL, 0, none⟩, vi day, vi thing] w (fun v w' => ∃ a n c r, v = .tuple #[vl a n c, vi r] ∧ Q a n c r w') := by
  refine drawers_Ledger_Lose.ok (al_f (er w) fun b1 w1 hb1 h1 E e1 n1 => al_f E fun b2 w2 hb2 h2 E e2 n2 => ?_)
  have h1 := h1.ext e2
  refine ⟨_, cell_blk h1 rfl, _, cell_blk h2 rfl, ?_⟩
  refine moved_c (h.ext E) hG rfl (upd := updLose) (fun _ => rfl) yNo (fun _ h => h.elim) (doLose h1 h2) (.inl ⟨rfl, rfl⟩) (fun _ _ _ _ => fun _ h => h) fun a n c w' R' st' hL hR F ho hk _ _ => ?_
  exact hQ _ _ _ _ _ _ hL (fun k hk => (hR k hk).imp id fun h => Nat.le_trans E.size h) (Ext.then E (F.mono fun k _ hk => hk.elim False.elim id)) ho fun k h => Nat.le_trans E.size (hk k h)
theorem recover_c (h : Led w R bL st M) (hG : Good M) {day thing : Int} {Q : Option Addr → Nat → Nat → Int → World → Prop}
    (hQ : ∀ a n c w' R' st', Led w' R' bL st' (M.recover day thing).2.1 → (∀ k, R' k → R k ∨ w.heap.size ≤ k) → Frm (fun k => k = bL) w w' → Own 58 2 TAmount.enc w' a n c (M.recover day thing).2.2.1 → (∀ k, obk a c = some k → w.heap.size ≤ k) → Q a n c (M.recover day thing).1 w') :
    Cl Pg 102 #[vp ⟨bL, 0, none⟩, vi day, vi thing] w (fun v w' => ∃ a n c r, v = .tuple #[vl a n c, vi r] ∧ Q a n c r w') := by
  refine drawers_Ledger_Recover.ok (al_f (er w) fun b1 w1 hb1 h1 E e1 n1 => al_f E fun b2 w2 hb2 h2 E e2 n2 => ?_)
  have h1 := h1.ext e2
  refine ⟨_, cell_blk h1 rfl, _, cell_blk h2 rfl, ?_⟩
  refine moved_c (h.ext E) hG rfl (upd := updRecover) (fun _ => rfl) yNo (fun _ h => h.elim) (doRecover h1 h2) (.inr ⟨rfl, rfl⟩) (fun _ _ _ _ => fun _ h => h) fun a n c w' R' st' hL hR F ho hk _ _ => ?_
  exact hQ _ _ _ _ _ _ hL (fun k hk => (hR k hk).imp id fun h => Nat.le_trans E.size h) (Ext.then E (F.mono fun k _ hk => hk.elim False.elim id)) ho fun k h => Nat.le_trans E.size (hk k h)
theorem dispatch_c (h : Led w R bL st M) (hG : Good M) {day thing bag : Int} {Q : Option Addr → Nat → Nat → Int → World → Prop}
    (hQ : ∀ a n c w' R' st', Led w' R' bL st' (M.dispatch day thing bag).2.1 → (∀ k, R' k → R k ∨ w.heap.size ≤ k) → Frm (fun k => k = bL) w w' → Own 45 10 TLot.enc w' a n c (M.dispatch day thing bag).2.2.2 → (∀ k, obk a c = some k → w.heap.size ≤ k) → Q a n c (M.dispatch day thing bag).1 w') :
    Cl Pg 31 #[vp ⟨bL, 0, none⟩, vi day, vi thing, vi bag] w (fun v w' => ∃ a n c r, v = .tuple #[vl a n c, vi r] ∧ Q a n c r w') := by
  refine drawers_Ledger_Dispatch.ok (al_f (er w) fun b1 w1 hb1 h1 E e1 n1 => al_f E fun b2 w2 hb2 h2 E e2 n2 => al_f E fun b3 w3 hb3 h3 E e3 n3 => al_f E fun b4 w4 hb4 h4 E e4 n4 => dr_f E fun w5 E e5 => ?_)
  have h1 := (((h1.ext e2).ext e3).ext e4).ext e5
  have h2 := ((h2.ext e3).ext e4).ext e5
  have h3 := (h3.ext e4).ext e5
  have h4 := h4.ext e5
  refine ⟨_, cell_blk h1 rfl, _, cell_blk h2 rfl, _, cell_blk h3 rfl, al_f E fun b5 w6 hb5 h5 E e6 n5 => id_c (rd_ints [bag] h5) (by simp [maxLen]) fun w7 e7 => ?_⟩
  have h1 := (h1.ext e6).ext e7
  have h2 := (h2.ext e6).ext e7
  have h3 := (h3.ext e6).ext e7
  have h4 := (h4.ext e6).ext e7
  have E := E.ext e7
  have hbL := h.blk.lt
  refine ⟨cell_blk h1 rfl, cell_blk h2 rfl, ?_⟩
  rw [isId_one]
  refine moved_c (h.ext E) hG rfl (upd := updDispatch bag) (fun _ => rfl) (yLots b4 w7.heap.size) (fun k e => ⟨by subst e; exact h4.lt, by omega, fun hR => by have := h.free.rLt k hR; omega⟩) (doDispatch h1 h2 h3 h4 (Nat.zero_le _)) (.inl ⟨rfl, rfl⟩) (fun w' R' E' hR' => ⟨fun hk => by have := hR' _ hk; have := h4.lt; omega, h4.lt, E'.size, fun _ h => h.elim, none, 0, h4.ext E', Own.nil, fun k hk => by cases hk⟩) fun a n c w' R' st' hL hR F ho hk hy hz => ?_
  have hR' : ∀ k, R' k → R k ∨ w.heap.size ≤ k := fun k hk => (hR k hk).imp id fun h => Nat.le_trans E.size h
  have F' : Frm (fun k => k = bL) w w' := (Ext.frm E).trans F fun k hk hk' => hk'.elim (fun e => by omega) id
  have e : M.dispatch day thing bag = M.operO ([], []) day (gMoved thing (isId bag) 1 (updDispatch bag) (mkDispatch day thing bag) id) := rfl
  rw [← e] at hz hy hL ⊢
  refine ifb ?_
  split
  · rename_i hr
    have hr : (M.dispatch day thing bag).1 ≠ 0 := by simpa using hr
    refine hQ _ _ _ _ R' st' hL hR' F' ?_ (fun k hk => by cases hk)
    rw [hz hr]
    exact Own.nil
  · rename_i hr
    have hr : (M.dispatch day thing bag).1 = 0 := by simpa using hr
    obtain ⟨R2, D2, y, hD2⟩ := hy hr
    obtain ⟨a2, c2, g1, g2, g3⟩ := y.is
    refine ⟨_, _, _, cell_blk g1 rfl, ?_⟩
    have := hQ a2 _ c2 w' R' st' hL hR' F' g2 fun k hk => Nat.le_trans E.size (hD2 k (g3 k hk))
    rw [hr] at this
    exact this
end
end Go.Proofs.YtcbijkakoepglaaGreat
namespace Go.Proofs.YtcbijkakoepglaaGreat
open Go Go.Wx
set_option maxRecDepth 100000
def drawers_Ledger_Convert.R (Q : Int → Int → Int → World → Prop) (l : Option Addr) (day : Int) (lot : Int) (to_ : ByteArray) (n : Int) (w : World) : Prop := (
 Al w (.cells #[vi day] 3) fun b1 w1 =>
 Al w1 (.cells #[vi lot] 3) fun b2 w2 =>
 Al w2 (.cells #[vs to_] 9) fun b3 w3 =>
 Al w3 (.cells #[vi n] 3) fun b4 w4 =>
 Al w4 (.cells #[vi 0] 3) fun b5 w5 =>
 Al w5 (.cells #[vi 0] 3) fun b6 w6 =>
 St w6 ⟨b5, 0, none⟩ ([vi 0]) fun w7 =>
 St w7 ⟨b6, 0, none⟩ ([vi 0]) fun w8 =>
 LdI .i64 w8 ⟨b1, 0, none⟩ fun x1 =>
 Cl Pg 76 #[vP l, vi x1, .func (.func 78) #[] #[vp ⟨b2, 0, none⟩, vp ⟨b1, 0, none⟩, vp ⟨b3, 0, none⟩, vp ⟨b4, 0, none⟩, vp ⟨b5, 0, none⟩, vp ⟨b6, 0, none⟩]] w8 (fun v w9 => ∃ r1, v = vi r1 ∧ Ifb (r1 != 0)
 (Q 0 0 r1 w9)
 (Dr w9 fun w10 =>
 LdI .i64 w10 ⟨b5, 0, none⟩ fun x2 =>
 LdI .i64 w10 ⟨b6, 0, none⟩ fun x3 =>
 Q x2 x3 0 w10)))
theorem drawers_Ledger_Convert.ok {Q : Int → Int → Int → World → Prop} {l : Option Addr} {day : Int} {lot : Int} {to_ : ByteArray} {n : Int} {w : World} (h : drawers_Ledger_Convert.R Q l day lot to_ n w) : Cl Pg 24 #[vP l, vi day, vi lot, vs to_, vi n] w (fun v w' => ∃ r0 r1 r2, v = .tuple #[vi r0, vi r1, vi r2] ∧ Q r0 r1 r2 w') := by
 refine calls_args (args := [vP l, vi day, vi lot, vs to_, vi n]) Tryz.func24 ?_
 unfold drawers_Ledger_Convert.R at h
 refine W_regseq <| alp h ?_
 intro b1 w1 _ _ _ h
 refine alp h ?_
 intro b2 w2 _ _ _ h
 refine alp h ?_
 intro b3 w3 _ _ _ h
 refine alp h ?_
 intro b4 w4 _ _ _ h
 refine ps 3 [(10, vi 0), (11, vi 0), (12, vi 0)] <| WO_nil <| W_regseq <| alp h ?_
 intro b5 w5 _ _ _ h
 refine alp h ?_
 intro b6 w6 _ _ _ h
 refine st tk3 h ?_
 rintro w7 h
 refine st tk3 h ?_
 rintro w8 h
 refine WO_nil <| W_regseq <| ps 1 [(16, vP l)] ?_
 obtain ⟨x1, hx1, h⟩ := h
 refine ld1 tk3 hx1 <| ps 1 [(18, .func (.func 78) #[] #[vp ⟨b2, 0, none⟩, vp ⟨b1, 0, none⟩, vp ⟨b3, 0, none⟩, vp ⟨b4, 0, none⟩, vp ⟨b5, 0, none⟩, vp ⟨b6, 0, none⟩])] <| cl h ?_
 rintro _ w9 ⟨r1, rfl, h⟩
 refine ps 1 [(15, vi r1)] <| WO_nil <| W_seq <| W_regseq <| ps 2 [(20, vi r1), (21, vb (r1 != 0))] <| WO_nil <| ci h (fun h => ?_) fun h => ?_
 exact W_regseq <| ps 4 [(22, vi r1), (10, vi 0), (11, vi 0), (12, vi r1)] <| WO_nil <| W_ret <| seqK_ret <| ret3 (v := vi 0) (v' := vi 0) (v'' := vi r1) (t := 10) (u := 11) (s := 12) rfl rfl rfl rfl ⟨_, _, _, rfl, h⟩
 refine W_skip <| drs folM [[], [], [0], [0, 1], [0, 1]] [.l 0, .l 1, .p 2, .p 3, .p 4] h ?_
 intro w10 _ h
 obtain ⟨x2, hx2, h⟩ := h
 refine ld1C tk3 hx2 ?_
 obtain ⟨x3, hx3, h⟩ := h
 exact ld1C tk3 hx3 <| psC 3 [(10, vi x2), (11, vi x3), (12, vi 0)] <| WC_nil <| W_ret <| ret3 (v := vi x2) (v' := vi x3) (v'' := vi 0) (t := 10) (u := 11) (s := 12) rfl rfl rfl rfl ⟨_, _, _, rfl, h⟩
end Go.Proofs.YtcbijkakoepglaaGreat
