/- The law holds: part 111. Conditions: none. -/
import Derived.Test.YtpndfdfipkadkaaGreatDoorKQ9
set_option linter.all false
set_option maxRecDepth 100000
namespace Go.Proofs.YtpndfdfipkadkaaGreatDoor
open Go Go.Wx Go.Ax
def idB (n : Int) : Bool := decide (n ≥ 1) && decide (n ≤ 1000000)
def namedB (k : Int) : Bool := k == 1 || (k == 2 || k == 5)
def otherB (e : Ev) : Bool := if e.kind == 1 || e.kind == 3 then e.other == 0 || idB e.other else if e.kind == 4 then idB e.other && e.other != e.place else if e.kind == 2 || e.kind == 5 then e.other == 0 else false
def okEv (e : Ev) : Bool := decide (e.day ≥ 0) && (decide (e.day ≤ 100000) && (idB e.place && (otherB e && (namedB e.kind || strEq e.name ⟨#[]⟩))))
def wrongL (e : Ev) : Int := if okEv e then (if namedB e.kind && !nameB e.name then 4 else 0) else 1
theorem wrong_c (e : Ev) : Pur Pg 71 [.agg e.enc] (di (wrongL e)) := by
  obtain ⟨day, kind, place, other, name⟩ := e
  refine fn Tryz.func71 [] [] (.cons (.agg (pdEv _)) .nil) ?_
  by_cases k1 : kind = 1
  · subst k1
    repeat' first
      | refine if_ (fun _ => ?_) (fun _ => ?_)
      | refine (isId_c _).call ?_
      | refine (isName_c _).call ?_
    all_goals exact frzi (by simp_all [wrongL, okEv, otherB, namedB, idB] <;> omega)
  by_cases k2 : kind = 2
  · subst k2
    repeat' first
      | refine if_ (fun _ => ?_) (fun _ => ?_)
      | refine (isId_c _).call ?_
      | refine (isName_c _).call ?_
    all_goals exact frzi (by simp_all [wrongL, okEv, otherB, namedB, idB] <;> omega)
  by_cases k3 : kind = 3
  · subst k3
    repeat' first
      | refine if_ (fun _ => ?_) (fun _ => ?_)
      | refine (isId_c _).call ?_
      | refine (isName_c _).call ?_
    all_goals exact frzi (by simp_all [wrongL, okEv, otherB, namedB, idB] <;> omega)
  by_cases k4 : kind = 4
  · subst k4
    repeat' first
      | refine if_ (fun _ => ?_) (fun _ => ?_)
      | refine (isId_c _).call ?_
      | refine (isName_c _).call ?_
    all_goals exact frzi (by simp_all [wrongL, okEv, otherB, namedB, idB] <;> omega)
  by_cases k5 : kind = 5
  · subst k5
    repeat' first
      | refine if_ (fun _ => ?_) (fun _ => ?_)
      | refine (isId_c _).call ?_
      | refine (isName_c _).call ?_
    all_goals exact frzi (by simp_all [wrongL, okEv, otherB, namedB, idB] <;> omega)
  have n1 : (kind == 1) = false := by simpa using k1
  have n2 : (kind == 2) = false := by simpa using k2
  have n3 : (kind == 3) = false := by simpa using k3
  have n4 : (kind == 4) = false := by simpa using k4
  have n5 : (kind == 5) = false := by simpa using k5
  refine iff_ n1 (iff_ n2 ?_)
  repeat' first
    | refine iff_ n1 ?_
    | refine iff_ n2 ?_
    | refine iff_ n3 ?_
    | refine iff_ n4 ?_
    | refine iff_ n5 ?_
    | refine if_ (fun _ => ?_) (fun _ => ?_)
    | refine (isId_c _).call ?_
  all_goals exact frzi (by simp_all [wrongL, okEv, otherB, namedB, idB])
end Go.Proofs.YtpndfdfipkadkaaGreatDoor
