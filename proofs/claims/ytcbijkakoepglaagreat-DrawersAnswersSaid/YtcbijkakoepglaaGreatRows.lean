/-
  No cell of these rows narrows 'for every input' (looked for: loops, veiled, ifaces, maps, wideKeys, modest, calm, conditions, laid).
  DERIVED. THE GIVEN ROWS OF THIS SEAT. 15 by the template 'for every input the law returns true; each argument reads behind the call as it read before'; 0 by the template 'total and deterministic' (their statements: YtcbijkakoepglaaGreatTotals.lean).
  GIVEN WITH THE SEED: the statements are not yours to turn. If you find one false, say at which input.
  Laid BY PROGRAM, IN A SANDBOX (cutbox-rows.mjs): the forced cells as the released guide's own fill.sh prints them over the translation 33e0976a63cb1325… (all of the seat's roots in one cut). By AI agents, Wed Nov 11 2026. No macro, syntax, notation, axiom, sorry.
-/
import Derived.Test.YtcbijkakoepglaaGreatChecked
import GoSem.Claim
import GoSem.ClaimJoined
import GoSem.ClaimMapViews
import Derived.JoinedTies
import Derived.KernelRfl
namespace Go.Proofs.YtcbijkakoepglaaGreat
/- THE CELL 'sum', in the pinned program and in every row, IS THE sha256 OF THE DUMP (.gsa) THAT YtcbijkakoepglaaGreatProg.lean LOADS. Nothing in Lean hashes anything: it is a label: what it is worth is what the hold of that sum in a sandbox is worth. -/
noncomputable def Tryz.pinned : Pinned := { name := "ytcbijkakoepglaagreat", sum := "33e0976a63cb132579b1431cb309e5fbd02bbfea2683ef1da5c1d481685f60b4", checked := Tryz.checked }
namespace Rows
def none {H : Type} : Left H := { results := [], args := [] }

/-- 'restantelaw06.DrawersAudits': WHATEVER THE INPUT: true; the input reads as it did. -/
def drawersAuditsSpec : ChangeSpec := { name := "drawersAudits", fn := fun _ => fun
  | [d] => { results := [.lit (.bool true)], args := [d] }
  | _ => none }
def drawersAuditsRow : OpenClaim := { program := "ytcbijkakoepglaagreat", sum := "33e0976a63cb132579b1431cb309e5fbd02bbfea2683ef1da5c1d481685f60b4", func := "restante/restantelaw06.DrawersAudits", spec := "drawersAudits", unfollowed := true, recurses := true, plainKeys := false, apart := false }
def DrawersAuditsSaid : Prop := drawersAuditsRow.holds Tryz.pinned (OpenSpec.ofChange drawersAuditsSpec)

/-- ITS FALSE NEIGHBOUR: 'it returns false'. Refute it at one input. -/
def drawersAuditsWrong : ChangeSpec := { name := "drawersAudits", fn := fun _ => fun
  | [d] => { results := [.lit (.bool false)], args := [d] }
  | _ => none }
def DrawersAuditsWrongFalsely : Prop := drawersAuditsRow.holds Tryz.pinned (OpenSpec.ofChange drawersAuditsWrong)

/-- 'restantelaw06.DrawersConverts': WHATEVER THE INPUT: true; the input reads as it did. -/
def drawersConvertsSpec : ChangeSpec := { name := "drawersConverts", fn := fun _ => fun
  | [d1, d2, d3, d4, d5] => { results := [.lit (.bool true)], args := [d1, d2, d3, d4, d5] }
  | _ => none }
def drawersConvertsRow : OpenClaim := { program := "ytcbijkakoepglaagreat", sum := "33e0976a63cb132579b1431cb309e5fbd02bbfea2683ef1da5c1d481685f60b4", func := "restante/restantelaw06.DrawersConverts", spec := "drawersConverts", unfollowed := true, recurses := true, plainKeys := false, apart := false }
def DrawersConvertsSaid : Prop := drawersConvertsRow.holds Tryz.pinned (OpenSpec.ofChange drawersConvertsSpec)

/-- ITS FALSE NEIGHBOUR: 'it returns false'. Refute it at one input. -/
def drawersConvertsWrong : ChangeSpec := { name := "drawersConverts", fn := fun _ => fun
  | [d1, d2, d3, d4, d5] => { results := [.lit (.bool false)], args := [d1, d2, d3, d4, d5] }
  | _ => none }
def DrawersConvertsWrongFalsely : Prop := drawersConvertsRow.holds Tryz.pinned (OpenSpec.ofChange drawersConvertsWrong)

/-- 'restantelaw06.DrawersAudited': WHATEVER THE INPUT: true; the input reads as it did. -/
def drawersAuditedSpec : ChangeSpec := { name := "drawersAudited", fn := fun _ => fun
  | [d1, d2] => { results := [.lit (.bool true)], args := [d1, d2] }
  | _ => none }
def drawersAuditedRow : OpenClaim := { program := "ytcbijkakoepglaagreat", sum := "33e0976a63cb132579b1431cb309e5fbd02bbfea2683ef1da5c1d481685f60b4", func := "restante/restantelaw06.DrawersAudited", spec := "drawersAudited", unfollowed := true, recurses := true, plainKeys := false, apart := false }
def DrawersAuditedSaid : Prop := drawersAuditedRow.holds Tryz.pinned (OpenSpec.ofChange drawersAuditedSpec)

/-- ITS FALSE NEIGHBOUR: 'it returns false'. Refute it at one input. -/
def drawersAuditedWrong : ChangeSpec := { name := "drawersAudited", fn := fun _ => fun
  | [d1, d2] => { results := [.lit (.bool false)], args := [d1, d2] }
  | _ => none }
def DrawersAuditedWrongFalsely : Prop := drawersAuditedRow.holds Tryz.pinned (OpenSpec.ofChange drawersAuditedWrong)

/-- 'restantelaw06.DrawersClaims': WHATEVER THE INPUT: true; the input reads as it did. -/
def drawersClaimsSpec : ChangeSpec := { name := "drawersClaims", fn := fun _ => fun
  | [d1, d2, d3, d4] => { results := [.lit (.bool true)], args := [d1, d2, d3, d4] }
  | _ => none }
def drawersClaimsRow : OpenClaim := { program := "ytcbijkakoepglaagreat", sum := "33e0976a63cb132579b1431cb309e5fbd02bbfea2683ef1da5c1d481685f60b4", func := "restante/restantelaw06.DrawersClaims", spec := "drawersClaims", unfollowed := true, recurses := true, plainKeys := false, apart := false }
def DrawersClaimsSaid : Prop := drawersClaimsRow.holds Tryz.pinned (OpenSpec.ofChange drawersClaimsSpec)

/-- ITS FALSE NEIGHBOUR: 'it returns false'. Refute it at one input. -/
def drawersClaimsWrong : ChangeSpec := { name := "drawersClaims", fn := fun _ => fun
  | [d1, d2, d3, d4] => { results := [.lit (.bool false)], args := [d1, d2, d3, d4] }
  | _ => none }
def DrawersClaimsWrongFalsely : Prop := drawersClaimsRow.holds Tryz.pinned (OpenSpec.ofChange drawersClaimsWrong)

/-- 'restantelaw06.DrawersPass': WHATEVER THE INPUT: true; the input reads as it did. -/
def drawersPassSpec : ChangeSpec := { name := "drawersPass", fn := fun _ => fun
  | [d1, d2, d3, d4, d5] => { results := [.lit (.bool true)], args := [d1, d2, d3, d4, d5] }
  | _ => none }
def drawersPassRow : OpenClaim := { program := "ytcbijkakoepglaagreat", sum := "33e0976a63cb132579b1431cb309e5fbd02bbfea2683ef1da5c1d481685f60b4", func := "restante/restantelaw06.DrawersPass", spec := "drawersPass", unfollowed := true, recurses := true, plainKeys := false, apart := false }
def DrawersPassSaid : Prop := drawersPassRow.holds Tryz.pinned (OpenSpec.ofChange drawersPassSpec)

/-- ITS FALSE NEIGHBOUR: 'it returns false'. Refute it at one input. -/
def drawersPassWrong : ChangeSpec := { name := "drawersPass", fn := fun _ => fun
  | [d1, d2, d3, d4, d5] => { results := [.lit (.bool false)], args := [d1, d2, d3, d4, d5] }
  | _ => none }
def DrawersPassWrongFalsely : Prop := drawersPassRow.holds Tryz.pinned (OpenSpec.ofChange drawersPassWrong)

/-- 'restantelaw06.DrawersMemory': WHATEVER THE INPUT: true; the input reads as it did. -/
def drawersMemorySpec : ChangeSpec := { name := "drawersMemory", fn := fun _ => fun
  | [d1, d2, d3] => { results := [.lit (.bool true)], args := [d1, d2, d3] }
  | _ => none }
def drawersMemoryRow : OpenClaim := { program := "ytcbijkakoepglaagreat", sum := "33e0976a63cb132579b1431cb309e5fbd02bbfea2683ef1da5c1d481685f60b4", func := "restante/restantelaw06.DrawersMemory", spec := "drawersMemory", unfollowed := true, recurses := true, plainKeys := false, apart := false }
def DrawersMemorySaid : Prop := drawersMemoryRow.holds Tryz.pinned (OpenSpec.ofChange drawersMemorySpec)

/-- ITS FALSE NEIGHBOUR: 'it returns false'. Refute it at one input. -/
def drawersMemoryWrong : ChangeSpec := { name := "drawersMemory", fn := fun _ => fun
  | [d1, d2, d3] => { results := [.lit (.bool false)], args := [d1, d2, d3] }
  | _ => none }
def DrawersMemoryWrongFalsely : Prop := drawersMemoryRow.holds Tryz.pinned (OpenSpec.ofChange drawersMemoryWrong)

/-- 'restantelaw06.DrawersRuns': WHATEVER THE INPUT: true; the input reads as it did. -/
def drawersRunsSpec : ChangeSpec := { name := "drawersRuns", fn := fun _ => fun
  | [d] => { results := [.lit (.bool true)], args := [d] }
  | _ => none }
def drawersRunsRow : OpenClaim := { program := "ytcbijkakoepglaagreat", sum := "33e0976a63cb132579b1431cb309e5fbd02bbfea2683ef1da5c1d481685f60b4", func := "restante/restantelaw06.DrawersRuns", spec := "drawersRuns", unfollowed := true, recurses := true, plainKeys := false, apart := false }
def DrawersRunsSaid : Prop := drawersRunsRow.holds Tryz.pinned (OpenSpec.ofChange drawersRunsSpec)

/-- ITS FALSE NEIGHBOUR: 'it returns false'. Refute it at one input. -/
def drawersRunsWrong : ChangeSpec := { name := "drawersRuns", fn := fun _ => fun
  | [d] => { results := [.lit (.bool false)], args := [d] }
  | _ => none }
def DrawersRunsWrongFalsely : Prop := drawersRunsRow.holds Tryz.pinned (OpenSpec.ofChange drawersRunsWrong)

/-- 'restantelaw06.DrawersBalanced': WHATEVER THE INPUT: true; the input reads as it did. -/
def drawersBalancedSpec : ChangeSpec := { name := "drawersBalanced", fn := fun _ => fun
  | [d1, d2] => { results := [.lit (.bool true)], args := [d1, d2] }
  | _ => none }
def drawersBalancedRow : OpenClaim := { program := "ytcbijkakoepglaagreat", sum := "33e0976a63cb132579b1431cb309e5fbd02bbfea2683ef1da5c1d481685f60b4", func := "restante/restantelaw06.DrawersBalanced", spec := "drawersBalanced", unfollowed := true, recurses := true, plainKeys := false, apart := false }
def DrawersBalancedSaid : Prop := drawersBalancedRow.holds Tryz.pinned (OpenSpec.ofChange drawersBalancedSpec)

/-- ITS FALSE NEIGHBOUR: 'it returns false'. Refute it at one input. -/
def drawersBalancedWrong : ChangeSpec := { name := "drawersBalanced", fn := fun _ => fun
  | [d1, d2] => { results := [.lit (.bool false)], args := [d1, d2] }
  | _ => none }
def DrawersBalancedWrongFalsely : Prop := drawersBalancedRow.holds Tryz.pinned (OpenSpec.ofChange drawersBalancedWrong)

/-- 'restantelaw06.DrawersRefused': WHATEVER THE INPUT: true; the input reads as it did. -/
def drawersRefusedSpec : ChangeSpec := { name := "drawersRefused", fn := fun _ => fun
  | [d] => { results := [.lit (.bool true)], args := [d] }
  | _ => none }
def drawersRefusedRow : OpenClaim := { program := "ytcbijkakoepglaagreat", sum := "33e0976a63cb132579b1431cb309e5fbd02bbfea2683ef1da5c1d481685f60b4", func := "restante/restantelaw06.DrawersRefused", spec := "drawersRefused", unfollowed := true, recurses := true, plainKeys := false, apart := false }
def DrawersRefusedSaid : Prop := drawersRefusedRow.holds Tryz.pinned (OpenSpec.ofChange drawersRefusedSpec)

/-- ITS FALSE NEIGHBOUR: 'it returns false'. Refute it at one input. -/
def drawersRefusedWrong : ChangeSpec := { name := "drawersRefused", fn := fun _ => fun
  | [d] => { results := [.lit (.bool false)], args := [d] }
  | _ => none }
def DrawersRefusedWrongFalsely : Prop := drawersRefusedRow.holds Tryz.pinned (OpenSpec.ofChange drawersRefusedWrong)

/-- 'restantelaw06.DrawersLimits': WHATEVER THE INPUT: true; the input reads as it did. -/
def drawersLimitsSpec : ChangeSpec := { name := "drawersLimits", fn := fun _ => fun
  | [d] => { results := [.lit (.bool true)], args := [d] }
  | _ => none }
def drawersLimitsRow : OpenClaim := { program := "ytcbijkakoepglaagreat", sum := "33e0976a63cb132579b1431cb309e5fbd02bbfea2683ef1da5c1d481685f60b4", func := "restante/restantelaw06.DrawersLimits", spec := "drawersLimits", unfollowed := true, recurses := true, plainKeys := false, apart := false }
def DrawersLimitsSaid : Prop := drawersLimitsRow.holds Tryz.pinned (OpenSpec.ofChange drawersLimitsSpec)

/-- ITS FALSE NEIGHBOUR: 'it returns false'. Refute it at one input. -/
def drawersLimitsWrong : ChangeSpec := { name := "drawersLimits", fn := fun _ => fun
  | [d] => { results := [.lit (.bool false)], args := [d] }
  | _ => none }
def DrawersLimitsWrongFalsely : Prop := drawersLimitsRow.holds Tryz.pinned (OpenSpec.ofChange drawersLimitsWrong)

/-- 'restantelaw06.DrawersTerms': WHATEVER THE INPUT: true; the input reads as it did. -/
def drawersTermsSpec : ChangeSpec := { name := "drawersTerms", fn := fun _ => fun
  | [d1, d2, d3] => { results := [.lit (.bool true)], args := [d1, d2, d3] }
  | _ => none }
def drawersTermsRow : OpenClaim := { program := "ytcbijkakoepglaagreat", sum := "33e0976a63cb132579b1431cb309e5fbd02bbfea2683ef1da5c1d481685f60b4", func := "restante/restantelaw06.DrawersTerms", spec := "drawersTerms", unfollowed := true, recurses := true, plainKeys := false, apart := false }
def DrawersTermsSaid : Prop := drawersTermsRow.holds Tryz.pinned (OpenSpec.ofChange drawersTermsSpec)

/-- ITS FALSE NEIGHBOUR: 'it returns false'. Refute it at one input. -/
def drawersTermsWrong : ChangeSpec := { name := "drawersTerms", fn := fun _ => fun
  | [d1, d2, d3] => { results := [.lit (.bool false)], args := [d1, d2, d3] }
  | _ => none }
def DrawersTermsWrongFalsely : Prop := drawersTermsRow.holds Tryz.pinned (OpenSpec.ofChange drawersTermsWrong)

/-- 'restantelaw06.DrawersPast': WHATEVER THE INPUT: true; the input reads as it did. -/
def drawersPastSpec : ChangeSpec := { name := "drawersPast", fn := fun _ => fun
  | [d1, d2, d3, d4, d5] => { results := [.lit (.bool true)], args := [d1, d2, d3, d4, d5] }
  | _ => none }
def drawersPastRow : OpenClaim := { program := "ytcbijkakoepglaagreat", sum := "33e0976a63cb132579b1431cb309e5fbd02bbfea2683ef1da5c1d481685f60b4", func := "restante/restantelaw06.DrawersPast", spec := "drawersPast", unfollowed := true, recurses := true, plainKeys := false, apart := false }
def DrawersPastSaid : Prop := drawersPastRow.holds Tryz.pinned (OpenSpec.ofChange drawersPastSpec)

/-- ITS FALSE NEIGHBOUR: 'it returns false'. Refute it at one input. -/
def drawersPastWrong : ChangeSpec := { name := "drawersPast", fn := fun _ => fun
  | [d1, d2, d3, d4, d5] => { results := [.lit (.bool false)], args := [d1, d2, d3, d4, d5] }
  | _ => none }
def DrawersPastWrongFalsely : Prop := drawersPastRow.holds Tryz.pinned (OpenSpec.ofChange drawersPastWrong)

/-- 'restantelaw06.DrawersStatements': WHATEVER THE INPUT: true; the input reads as it did. -/
def drawersStatementsSpec : ChangeSpec := { name := "drawersStatements", fn := fun _ => fun
  | [d1, d2, d3, d4, d5] => { results := [.lit (.bool true)], args := [d1, d2, d3, d4, d5] }
  | _ => none }
def drawersStatementsRow : OpenClaim := { program := "ytcbijkakoepglaagreat", sum := "33e0976a63cb132579b1431cb309e5fbd02bbfea2683ef1da5c1d481685f60b4", func := "restante/restantelaw06.DrawersStatements", spec := "drawersStatements", unfollowed := true, recurses := true, plainKeys := false, apart := false }
def DrawersStatementsSaid : Prop := drawersStatementsRow.holds Tryz.pinned (OpenSpec.ofChange drawersStatementsSpec)

/-- ITS FALSE NEIGHBOUR: 'it returns false'. Refute it at one input. -/
def drawersStatementsWrong : ChangeSpec := { name := "drawersStatements", fn := fun _ => fun
  | [d1, d2, d3, d4, d5] => { results := [.lit (.bool false)], args := [d1, d2, d3, d4, d5] }
  | _ => none }
def DrawersStatementsWrongFalsely : Prop := drawersStatementsRow.holds Tryz.pinned (OpenSpec.ofChange drawersStatementsWrong)

/-- 'restantelaw06.DrawersAnswers': WHATEVER THE INPUT: true; the input reads as it did. -/
def drawersAnswersSpec : ChangeSpec := { name := "drawersAnswers", fn := fun _ => fun
  | [d1, d2, d3, d4, d5, d6] => { results := [.lit (.bool true)], args := [d1, d2, d3, d4, d5, d6] }
  | _ => none }
def drawersAnswersRow : OpenClaim := { program := "ytcbijkakoepglaagreat", sum := "33e0976a63cb132579b1431cb309e5fbd02bbfea2683ef1da5c1d481685f60b4", func := "restante/restantelaw06.DrawersAnswers", spec := "drawersAnswers", unfollowed := true, recurses := true, plainKeys := false, apart := false }
def DrawersAnswersSaid : Prop := drawersAnswersRow.holds Tryz.pinned (OpenSpec.ofChange drawersAnswersSpec)

/-- ITS FALSE NEIGHBOUR: 'it returns false'. Refute it at one input. -/
def drawersAnswersWrong : ChangeSpec := { name := "drawersAnswers", fn := fun _ => fun
  | [d1, d2, d3, d4, d5, d6] => { results := [.lit (.bool false)], args := [d1, d2, d3, d4, d5, d6] }
  | _ => none }
def DrawersAnswersWrongFalsely : Prop := drawersAnswersRow.holds Tryz.pinned (OpenSpec.ofChange drawersAnswersWrong)

/-- 'restantelaw06.DrawersNil': WHATEVER THE INPUT: true; the input reads as it did. -/
def drawersNilSpec : ChangeSpec := { name := "drawersNil", fn := fun _ => fun
  | [d1, d2, d3, d4] => { results := [.lit (.bool true)], args := [d1, d2, d3, d4] }
  | _ => none }
def drawersNilRow : OpenClaim := { program := "ytcbijkakoepglaagreat", sum := "33e0976a63cb132579b1431cb309e5fbd02bbfea2683ef1da5c1d481685f60b4", func := "restante/restantelaw06.DrawersNil", spec := "drawersNil", unfollowed := true, recurses := true, plainKeys := false, apart := false }
def DrawersNilSaid : Prop := drawersNilRow.holds Tryz.pinned (OpenSpec.ofChange drawersNilSpec)

/-- ITS FALSE NEIGHBOUR: 'it returns false'. Refute it at one input. -/
def drawersNilWrong : ChangeSpec := { name := "drawersNil", fn := fun _ => fun
  | [d1, d2, d3, d4] => { results := [.lit (.bool false)], args := [d1, d2, d3, d4] }
  | _ => none }
def DrawersNilWrongFalsely : Prop := drawersNilRow.holds Tryz.pinned (OpenSpec.ofChange drawersNilWrong)

/- THE SECOND FORM. 'bulk': how many values and letters a reading holds, each counted each time it is reached (what is shared counts as often as it is met; a slice's spare places count too). A statement '..UptoSaid' is the law's where the arguments, and the package variables that the reading takes, are together of bulk at most 1048576: NARROWER than '..Said'. Prove '..Said' where nothing that the law and all that it calls make is longer than what came in: it says more and counts as full. Else prove '..UptoSaid'. A law counts once. -/
mutual
def uptoBulk {H : Type} : DataW H → Nat
  | .lit (.string bytes) => bytes.length + 1
  | .lit _ => 1
  | .nil => 1
  | .ptr d => uptoBulk d + 1
  | .slice elems spare => uptoBulkAll elems + uptoBulkAll spare + 1
  | .agg parts => uptoBulkAll parts + 1
  | .iface _ d => uptoBulk d + 1
  | .map entries => uptoBulkEntries entries + 1
  | .held _ => 1
def uptoBulkAll {H : Type} : List (DataW H) → Nat
  | [] => 0
  | d :: r => uptoBulk d + uptoBulkAll r
def uptoBulkEntries {H : Type} : List (Lit × DataW H) → Nat
  | [] => 0
  | x :: r => uptoBulkEntry x + uptoBulkEntries r
def uptoBulkEntry {H : Type} : Lit × DataW H → Nat
  | (.string bytes, d) => bytes.length + uptoBulk d + 1
  | (_, d) => uptoBulk d + 1
 end
def uptoSmall : (H : Type) → List (DataW H) → Bool := fun _ ds => decide (uptoBulkAll ds ≤ 1048576)
def OpenSpec.upto (s : _root_.Go.ChangeSpec) : _root_.Go.OpenSpec := { _root_.Go.OpenSpec.ofChange s with cond := some uptoSmall }

/-- 'restantelaw06.DrawersAudits', WHERE WHAT IT READS IS OF BULK AT MOST 1048576: true; the input reads as it did. -/
def drawersAuditsUptoRow : OpenClaim := { program := "ytcbijkakoepglaagreat", sum := "33e0976a63cb132579b1431cb309e5fbd02bbfea2683ef1da5c1d481685f60b4", func := "restante/restantelaw06.DrawersAudits", spec := "drawersAudits", unfollowed := true, recurses := true, plainKeys := false, apart := false, narrowed := true }
def DrawersAuditsUptoSaid : Prop := drawersAuditsUptoRow.holds Tryz.pinned (OpenSpec.upto drawersAuditsSpec)

/-- 'restantelaw06.DrawersConverts', WHERE WHAT IT READS IS OF BULK AT MOST 1048576: true; the input reads as it did. -/
def drawersConvertsUptoRow : OpenClaim := { program := "ytcbijkakoepglaagreat", sum := "33e0976a63cb132579b1431cb309e5fbd02bbfea2683ef1da5c1d481685f60b4", func := "restante/restantelaw06.DrawersConverts", spec := "drawersConverts", unfollowed := true, recurses := true, plainKeys := false, apart := false, narrowed := true }
def DrawersConvertsUptoSaid : Prop := drawersConvertsUptoRow.holds Tryz.pinned (OpenSpec.upto drawersConvertsSpec)

/-- 'restantelaw06.DrawersAudited', WHERE WHAT IT READS IS OF BULK AT MOST 1048576: true; the input reads as it did. -/
def drawersAuditedUptoRow : OpenClaim := { program := "ytcbijkakoepglaagreat", sum := "33e0976a63cb132579b1431cb309e5fbd02bbfea2683ef1da5c1d481685f60b4", func := "restante/restantelaw06.DrawersAudited", spec := "drawersAudited", unfollowed := true, recurses := true, plainKeys := false, apart := false, narrowed := true }
def DrawersAuditedUptoSaid : Prop := drawersAuditedUptoRow.holds Tryz.pinned (OpenSpec.upto drawersAuditedSpec)

/-- 'restantelaw06.DrawersClaims', WHERE WHAT IT READS IS OF BULK AT MOST 1048576: true; the input reads as it did. -/
def drawersClaimsUptoRow : OpenClaim := { program := "ytcbijkakoepglaagreat", sum := "33e0976a63cb132579b1431cb309e5fbd02bbfea2683ef1da5c1d481685f60b4", func := "restante/restantelaw06.DrawersClaims", spec := "drawersClaims", unfollowed := true, recurses := true, plainKeys := false, apart := false, narrowed := true }
def DrawersClaimsUptoSaid : Prop := drawersClaimsUptoRow.holds Tryz.pinned (OpenSpec.upto drawersClaimsSpec)

/-- 'restantelaw06.DrawersPass', WHERE WHAT IT READS IS OF BULK AT MOST 1048576: true; the input reads as it did. -/
def drawersPassUptoRow : OpenClaim := { program := "ytcbijkakoepglaagreat", sum := "33e0976a63cb132579b1431cb309e5fbd02bbfea2683ef1da5c1d481685f60b4", func := "restante/restantelaw06.DrawersPass", spec := "drawersPass", unfollowed := true, recurses := true, plainKeys := false, apart := false, narrowed := true }
def DrawersPassUptoSaid : Prop := drawersPassUptoRow.holds Tryz.pinned (OpenSpec.upto drawersPassSpec)

/-- 'restantelaw06.DrawersMemory', WHERE WHAT IT READS IS OF BULK AT MOST 1048576: true; the input reads as it did. -/
def drawersMemoryUptoRow : OpenClaim := { program := "ytcbijkakoepglaagreat", sum := "33e0976a63cb132579b1431cb309e5fbd02bbfea2683ef1da5c1d481685f60b4", func := "restante/restantelaw06.DrawersMemory", spec := "drawersMemory", unfollowed := true, recurses := true, plainKeys := false, apart := false, narrowed := true }
def DrawersMemoryUptoSaid : Prop := drawersMemoryUptoRow.holds Tryz.pinned (OpenSpec.upto drawersMemorySpec)

/-- 'restantelaw06.DrawersRuns', WHERE WHAT IT READS IS OF BULK AT MOST 1048576: true; the input reads as it did. -/
def drawersRunsUptoRow : OpenClaim := { program := "ytcbijkakoepglaagreat", sum := "33e0976a63cb132579b1431cb309e5fbd02bbfea2683ef1da5c1d481685f60b4", func := "restante/restantelaw06.DrawersRuns", spec := "drawersRuns", unfollowed := true, recurses := true, plainKeys := false, apart := false, narrowed := true }
def DrawersRunsUptoSaid : Prop := drawersRunsUptoRow.holds Tryz.pinned (OpenSpec.upto drawersRunsSpec)

/-- 'restantelaw06.DrawersBalanced', WHERE WHAT IT READS IS OF BULK AT MOST 1048576: true; the input reads as it did. -/
def drawersBalancedUptoRow : OpenClaim := { program := "ytcbijkakoepglaagreat", sum := "33e0976a63cb132579b1431cb309e5fbd02bbfea2683ef1da5c1d481685f60b4", func := "restante/restantelaw06.DrawersBalanced", spec := "drawersBalanced", unfollowed := true, recurses := true, plainKeys := false, apart := false, narrowed := true }
def DrawersBalancedUptoSaid : Prop := drawersBalancedUptoRow.holds Tryz.pinned (OpenSpec.upto drawersBalancedSpec)

/-- 'restantelaw06.DrawersRefused', WHERE WHAT IT READS IS OF BULK AT MOST 1048576: true; the input reads as it did. -/
def drawersRefusedUptoRow : OpenClaim := { program := "ytcbijkakoepglaagreat", sum := "33e0976a63cb132579b1431cb309e5fbd02bbfea2683ef1da5c1d481685f60b4", func := "restante/restantelaw06.DrawersRefused", spec := "drawersRefused", unfollowed := true, recurses := true, plainKeys := false, apart := false, narrowed := true }
def DrawersRefusedUptoSaid : Prop := drawersRefusedUptoRow.holds Tryz.pinned (OpenSpec.upto drawersRefusedSpec)

/-- 'restantelaw06.DrawersLimits', WHERE WHAT IT READS IS OF BULK AT MOST 1048576: true; the input reads as it did. -/
def drawersLimitsUptoRow : OpenClaim := { program := "ytcbijkakoepglaagreat", sum := "33e0976a63cb132579b1431cb309e5fbd02bbfea2683ef1da5c1d481685f60b4", func := "restante/restantelaw06.DrawersLimits", spec := "drawersLimits", unfollowed := true, recurses := true, plainKeys := false, apart := false, narrowed := true }
def DrawersLimitsUptoSaid : Prop := drawersLimitsUptoRow.holds Tryz.pinned (OpenSpec.upto drawersLimitsSpec)

/-- 'restantelaw06.DrawersTerms', WHERE WHAT IT READS IS OF BULK AT MOST 1048576: true; the input reads as it did. -/
def drawersTermsUptoRow : OpenClaim := { program := "ytcbijkakoepglaagreat", sum := "33e0976a63cb132579b1431cb309e5fbd02bbfea2683ef1da5c1d481685f60b4", func := "restante/restantelaw06.DrawersTerms", spec := "drawersTerms", unfollowed := true, recurses := true, plainKeys := false, apart := false, narrowed := true }
def DrawersTermsUptoSaid : Prop := drawersTermsUptoRow.holds Tryz.pinned (OpenSpec.upto drawersTermsSpec)

/-- 'restantelaw06.DrawersPast', WHERE WHAT IT READS IS OF BULK AT MOST 1048576: true; the input reads as it did. -/
def drawersPastUptoRow : OpenClaim := { program := "ytcbijkakoepglaagreat", sum := "33e0976a63cb132579b1431cb309e5fbd02bbfea2683ef1da5c1d481685f60b4", func := "restante/restantelaw06.DrawersPast", spec := "drawersPast", unfollowed := true, recurses := true, plainKeys := false, apart := false, narrowed := true }
def DrawersPastUptoSaid : Prop := drawersPastUptoRow.holds Tryz.pinned (OpenSpec.upto drawersPastSpec)

/-- 'restantelaw06.DrawersStatements', WHERE WHAT IT READS IS OF BULK AT MOST 1048576: true; the input reads as it did. -/
def drawersStatementsUptoRow : OpenClaim := { program := "ytcbijkakoepglaagreat", sum := "33e0976a63cb132579b1431cb309e5fbd02bbfea2683ef1da5c1d481685f60b4", func := "restante/restantelaw06.DrawersStatements", spec := "drawersStatements", unfollowed := true, recurses := true, plainKeys := false, apart := false, narrowed := true }
def DrawersStatementsUptoSaid : Prop := drawersStatementsUptoRow.holds Tryz.pinned (OpenSpec.upto drawersStatementsSpec)

/-- 'restantelaw06.DrawersAnswers', WHERE WHAT IT READS IS OF BULK AT MOST 1048576: true; the input reads as it did. -/
def drawersAnswersUptoRow : OpenClaim := { program := "ytcbijkakoepglaagreat", sum := "33e0976a63cb132579b1431cb309e5fbd02bbfea2683ef1da5c1d481685f60b4", func := "restante/restantelaw06.DrawersAnswers", spec := "drawersAnswers", unfollowed := true, recurses := true, plainKeys := false, apart := false, narrowed := true }
def DrawersAnswersUptoSaid : Prop := drawersAnswersUptoRow.holds Tryz.pinned (OpenSpec.upto drawersAnswersSpec)

/-- 'restantelaw06.DrawersNil', WHERE WHAT IT READS IS OF BULK AT MOST 1048576: true; the input reads as it did. -/
def drawersNilUptoRow : OpenClaim := { program := "ytcbijkakoepglaagreat", sum := "33e0976a63cb132579b1431cb309e5fbd02bbfea2683ef1da5c1d481685f60b4", func := "restante/restantelaw06.DrawersNil", spec := "drawersNil", unfollowed := true, recurses := true, plainKeys := false, apart := false, narrowed := true }
def DrawersNilUptoSaid : Prop := drawersNilUptoRow.holds Tryz.pinned (OpenSpec.upto drawersNilSpec)

end Rows
end Go.Proofs.YtcbijkakoepglaaGreat
