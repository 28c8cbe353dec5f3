/- The law holds: part 112. Conditions: none. -/
import Derived.Test.YtpndfdfipkadkaaGreatDoorKQ10
set_option linter.all false
set_option maxRecDepth 100000
namespace Go.Proofs.YtpndfdfipkadkaaGreatDoor
open Go Go.Wx Go.Ax
theorem strEq_iff {x y : ByteArray} : strEq x y = true ↔ x = y := by
  unfold strEq
  rw [beq_iff_eq, ByteArray.toList_eq, ByteArray.toList_eq]
  constructor
  · intro h
    cases x; cases y
    simp only at h
    congr 1
    exact Array.ext' h
  · rintro rfl; rfl
theorem strEq_eq (x y : ByteArray) : strEq x y = decide (x = y) := by
  rw [Bool.eq_iff_iff, strEq_iff]; simp
theorem list_ne {α : Type} {a b : List α} {i : Nat} (hi : i < a.length) (hb : i < b.length) (h : a[i] ≠ b[i]) : a ≠ b := fun e => by subst e; exact h rfl
theorem list_eq {α : Type} {a b : List α} (hl : a.length = b.length) (h : ∀ j, j < a.length → ∀ (h1 : j < a.length) (h2 : j < b.length), a[j] = b[j]) : a = b := List.ext_getElem hl fun j h1 h2 => h j h1 h1 h2
def pl39 : Plan := [(6, [.p 0, .p 1, .p 2, .l 3, .p 4, .p 5, .p 6, .l 7, .p 8])]
theorem sameInts_c (a b : List Int) : Pur Pg 39 [rows ienc a, rows ienc b] (db (decide (a = b))) := by
  refine Pur_len 0 rfl fun hl => fn Tryz.func39 [] pl39 (.cons (pd_rows pdI a) (.cons (pd_rows pdI b) .nil)) ?_
  rw [List.length_map] at hl
  refine if_ (fun h0 => ?_) fun h0 => ?_
  · exact frzb (by simp at h0; rw [eq_comm, decide_eq_false_iff_not]; exact fun e => h0 (by rw [e]))
  have hlen : a.length = b.length := by simp at h0; omega
  refine AW_idx a.length (fun i st => (∀ j, j < i → ∀ (h1 : j < a.length) (h2 : j < b.length), a[j] = b[j]) ∧ Has [(0, rows ienc a), (1, rows ienc b), (5, di i)] [] st) ⟨fun j hj => absurd hj (by omega), has ⟨rfl, rfl, rfl, trivial⟩ rfl⟩ ?_
  rintro i _ _ ⟨h3, e, rfl⟩
  refine go [] pl39 (if_ (fun hlt => ?_) (fun hlt => ?_))
  · simp at hlt
    have hlb : i < b.length := by omega
    refine row_at hlt (row_at hlb (if_ (fun h4 => ?_) fun h4 => ?_))
    · exact frzb (by rw [eq_comm, decide_eq_false_iff_not]; exact list_ne hlt hlb (by simpa using h4))
    · refine ⟨hlt, fun j hj h1 h2 => ?_, has ⟨rfl, rfl, inc hlt hl, trivial⟩ rfl⟩
      rcases Nat.lt_or_eq_of_le (Nat.le_of_lt_succ hj) with h | rfl
      · exact h3 j h h1 h2
      · simpa using h4
  · simp at hlt
    exact frzb (by rw [eq_comm, decide_eq_true_iff]; exact list_eq hlen fun j hj => h3 j (by omega))
def pl49 : Plan := [(6, [.p 0, .p 1, .p 2, .l 3, .p 4, .p 5, .p 6, .l 7, .p 8])]
theorem sameStrings_c (a b : List ByteArray) : Pur Pg 49 [rows senc a, rows senc b] (db (decide (a = b))) := by
  refine Pur_len 0 rfl fun hl => fn Tryz.func49 [] pl49 (.cons (pd_rows pdS a) (.cons (pd_rows pdS b) .nil)) ?_
  rw [List.length_map] at hl
  refine if_ (fun h0 => ?_) fun h0 => ?_
  · exact frzb (by simp at h0; rw [eq_comm, decide_eq_false_iff_not]; exact fun e => h0 (by rw [e]))
  have hlen : a.length = b.length := by simp at h0; omega
  refine AW_idx a.length (fun i st => (∀ j, j < i → ∀ (h1 : j < a.length) (h2 : j < b.length), a[j] = b[j]) ∧ Has [(0, rows senc a), (1, rows senc b), (5, di i)] [] st) ⟨fun j hj => absurd hj (by omega), has ⟨rfl, rfl, rfl, trivial⟩ rfl⟩ ?_
  rintro i _ _ ⟨h3, e, rfl⟩
  refine go [] pl49 (if_ (fun hlt => ?_) (fun hlt => ?_))
  · simp at hlt
    have hlb : i < b.length := by omega
    refine row_at hlt (row_at hlb (if_ (fun h4 => ?_) fun h4 => ?_))
    · exact frzb (by rw [eq_comm, decide_eq_false_iff_not]; exact list_ne hlt hlb (by rw [strEq_eq] at h4; simpa using h4))
    · refine ⟨hlt, fun j hj h1 h2 => ?_, has ⟨rfl, rfl, inc hlt hl, trivial⟩ rfl⟩
      rcases Nat.lt_or_eq_of_le (Nat.le_of_lt_succ hj) with h | rfl
      · exact h3 j h h1 h2
      · rw [strEq_eq] at h4; simpa using h4
  · simp at hlt
    exact frzb (by rw [eq_comm, decide_eq_true_iff]; exact list_eq hlen fun j hj => h3 j (by omega))
def foundedL (s : List Pl) (e : Ev) : Int :=
  if e.kind == 1 && (get s e.place).isSome then 6
  else if e.kind != 1 && (get s e.place).isNone then 5
  else if e.kind != 1 && !hereB s e.place then 22
  else if e.other != 0 && (get s e.other).isNone then 5
  else if e.other != 0 && !hereB s e.other then 22 else 0
end Go.Proofs.YtpndfdfipkadkaaGreatDoor
