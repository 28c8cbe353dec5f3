/- The law holds: part 110. Conditions: none. -/
import Derived.Test.YtpndfdfipkadkaaGreatDoorKQ8
set_option linter.all false
set_option maxRecDepth 100000
namespace Go.Proofs.YtpndfdfipkadkaaGreatDoor
open Go Go.Wx Go.Ax
def upToL (l : List Ev) (day : Int) : List Pl := l.foldl (fun s e => if e.day ≤ day then afterL s e else s) []
def RunOk (l : List Ev) (day : Int) : Prop := l.length ≤ 1000 ∧ ∀ (i : Nat) (h : i < l.length), l[i].day ≤ day → evOk (upToL (l.take i) day) l[i]
def onL (l : List Ev) (day : Int) : List Pl := if decide (day < 0) || decide (day > 100000) then [] else upToL l day
def refG (l : List Ev) : D := .fp [rows Ev.enc l]
theorem pd_refG (l : List Ev) : Pd (refG l) := .fp fun d hd => by rw [List.mem_singleton] at hd; subst hd; exact pd_rows pdEv l
def nameL (s : List Pl) (p : Int) : ByteArray := match get s p with
  | some x => if x.ex then (match x.uses[(lastT x.uses).toNat]? with | some u => u.name | none => ⟨#[]⟩) else ⟨#[]⟩
  | none => ⟨#[]⟩
def namesL (s : List Pl) (p day : Int) : List ByteArray := match get s p with
  | some x => if x.ex then usingL x.uses day else []
  | none => []
theorem lastT_lt (l : List Use) : lastT l < l.length := by
  induction l with
  | nil => simp [lastT]
  | cons u r ih => rw [lastT]; simp only [List.length_cons]; split <;> (try split) <;> omega
def allL (s : List Pl) : List Int := s.foldl (fun out x => if x.ex then addI out x.id else out) []
end Go.Proofs.YtpndfdfipkadkaaGreatDoor
set_option maxRecDepth 100000
namespace Go.Proofs.YtpndfdfipkadkaaGreatDoor
open Go Go.Wx Go.Ax
def pthN (s : List Pl) : Nat → Int → List Int
  | 0, _ => []
  | n + 1, p => if parI s p == 0 then [] else parI s p :: pthN s n (parI s p)
def pth (s : List Pl) (p : Int) : List Int := pthN s (s.length + 1) p
def cont (s : List Pl) (a b : Int) : Bool := contB s a b (pth s b)
def insideL (s : List Pl) (p : Int) : List Int := s.foldl (fun out x => if cont s p x.id then addI out x.id else out) []
def goN (s : List Pl) : Nat → Int → Int
  | 0, _ => 0
  | n + 1, p => match get s p with
    | none => 0
    | some x => if x.ex then p else goN s n x.into
end Go.Proofs.YtpndfdfipkadkaaGreatDoor
