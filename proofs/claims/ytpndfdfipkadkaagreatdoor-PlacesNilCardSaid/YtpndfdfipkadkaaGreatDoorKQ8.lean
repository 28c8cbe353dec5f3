/- The law holds: part 109. Conditions: none. -/
import Derived.Test.YtpndfdfipkadkaaGreatDoorKQ7
set_option linter.all false
set_option maxRecDepth 100000
namespace Go.Proofs.YtpndfdfipkadkaaGreatDoor
open Go Go.Wx Go.Ax
structure Ev where
  day : Int
  kind : Int
  place : Int
  other : Int
  name : ByteArray
def Ev.enc (e : Ev) : List D := [di e.day, du e.kind, di e.place, di e.other, ds' e.name]
theorem pdEv : ∀ u : Ev, PdL u.enc := fun _ => .cons (.v _) (.cons (.v _) (.cons (.v _) (.cons (.v _) (.cons (.v _) .nil))))
def modP (s : List Pl) (p : Int) (f : Pl → Pl) : List Pl := match s with
  | [] => []
  | x :: r => if x.id == p then f x :: r else x :: modP r p f
def foundP (e : Ev) : Pl := ⟨e.place, e.other, 0, true, [newT e.name e.day]⟩
def afterL (s : List Pl) (e : Ev) : List Pl :=
  if e.kind == 1 then s ++ [foundP e]
  else if e.kind == 2 then modP s e.place fun x => { x with uses := renL x.uses e.name e.day }
  else if e.kind == 3 then modP s e.place fun x => { x with parent := e.other }
  else if e.kind == 4 then
    (modP (modP s e.other fun y => { y with uses := mergedL y.uses ((get s e.place).elim [] (·.uses)) e.day }) e.place fun x => { x with uses := capT e.day x.uses, ex := false, into := e.other }).map
      fun n => if n.parent == e.place then { n with parent := e.other } else n
  else if e.kind == 5 then modP s e.place fun x => { x with uses := x.uses ++ [newA e.name e.day] }
  else s
theorem modP_idx' {p : Int} (f : Pl → Pl) : ∀ {s : List Pl} {i : Nat} (hi : i < s.length), s.findIdx? (fun x => x.id == p) = some i → modP s p f = s.set i (f s[i])
  | [], _, hi, _ => absurd hi (by simp)
  | x :: r, i, hi, hf => by
    rw [List.findIdx?_cons] at hf
    by_cases hx : x.id == p
    · rw [if_pos hx] at hf
      cases hf
      simp [modP, hx]
    · rw [if_neg hx] at hf
      cases hr : r.findIdx? (fun x => x.id == p) with
      | none => rw [hr] at hf; cases hf
      | some k =>
        rw [hr] at hf
        cases hf
        have hk : k < r.length := by simpa using hi
        simp only [modP, if_neg hx]
        rw [modP_idx' f hk hr]
        simp
theorem modP_idx {s : List Pl} {p : Int} {i : Nat} (h : idx (fun x => x.id == p) s = i) (hi : i < s.length) (f : Pl → Pl) : modP s p f = s.set i (f s[i]) := by
  unfold idx at h
  cases hf : s.findIdx? (fun x => x.id == p) with
  | none => rw [hf] at h; simp at h
  | some j =>
    rw [hf] at h
    have hj : (j : Int) = i := h
    obtain rfl : j = i := by omega
    exact modP_idx' f hi hf
def reParent (e : Ev) (n : Pl) : Pl := if n.parent == e.place then ⟨n.id, e.other, n.into, n.ex, n.uses⟩ else n
def evOk (s : List Pl) (e : Ev) : Prop := 0 ≤ e.day ∧ e.day ≤ 100000 ∧ s.length ≤ 1000 ∧ (∀ x ∈ s, x.uses.length ≤ 1000) ∧
  (e.kind = 2 ∨ e.kind = 3 ∨ e.kind = 4 ∨ e.kind = 5 → get s e.place ≠ none) ∧ (e.kind = 4 → get s e.other ≠ none ∧ e.other ≠ e.place)
end Go.Proofs.YtpndfdfipkadkaaGreatDoor
