/-
  NARROWER THAN 'FOR EVERY INPUT', by the rows' own cells (each row's printed sentence says how): ExecFilters: loops · PlanAnswers: loops · PlanChooses: loops · PlanCheapest: loops.
  DERIVED. THE GIVEN ROWS OF THIS SEAT. 10 by the template 'for every input the law returns true; each argument reads behind the call as it read before'; 0 by the template 'total and deterministic' (their statements: YtlphpbcafplnbaaGreatTotals.lean).
  GIVEN WITH THE SEED: the statements are not yours to turn. If you find one false, say at which input.
  Laid BY PROGRAM, IN A SANDBOX (cutbox-rows.mjs): the forced cells as the released guide's own fill.sh prints them over the translation b87fdb94a706adf3… (all of the seat's roots in one cut). By AI agents, Wed Nov 11 2026. No macro, syntax, notation, axiom, sorry.
-/
import Derived.Test.YtlphpbcafplnbaaGreatChecked
import GoSem.Claim
import GoSem.ClaimJoined
import GoSem.ClaimMapViews
import Derived.JoinedTies
import Derived.KernelRfl
namespace Go.Proofs.YtlphpbcafplnbaaGreat
/- THE CELL 'sum', in the pinned program and in every row, IS THE sha256 OF THE DUMP (.gsa) THAT YtlphpbcafplnbaaGreatProg.lean LOADS. Nothing in Lean hashes anything: it is a label: what it is worth is what the hold of that sum in a sandbox is worth. -/
noncomputable def Tryz.pinned : Pinned := { name := "ytlphpbcafplnbaagreat", sum := "b87fdb94a706adf33c14fb056f88079280bfcfdb36d9c33eeec637355db491c6", checked := Tryz.checked }
namespace Rows
def none {H : Type} : Left H := { results := [], args := [] }

/-- 'annalslaw18.ExecJoins': WHATEVER THE INPUT: true; the input reads as it did. -/
def execJoinsSpec : ChangeSpec := { name := "execJoins", fn := fun _ => fun
  | [d1, d2, d3] => { results := [.lit (.bool true)], args := [d1, d2, d3] }
  | _ => none }
def execJoinsRow : OpenClaim := { program := "ytlphpbcafplnbaagreat", sum := "b87fdb94a706adf33c14fb056f88079280bfcfdb36d9c33eeec637355db491c6", func := "annals/annalslaw18.ExecJoins", spec := "execJoins", inPlace := ["internal/bytealg.abigen_runtime_cmpstring"], unfollowed := true, recurses := true, apart := false }
def ExecJoinsSaid : Prop := execJoinsRow.holds Tryz.pinned (OpenSpec.ofChange execJoinsSpec)

/-- ITS FALSE NEIGHBOUR: 'it returns false'. Refute it at one input. -/
def execJoinsWrong : ChangeSpec := { name := "execJoins", fn := fun _ => fun
  | [d1, d2, d3] => { results := [.lit (.bool false)], args := [d1, d2, d3] }
  | _ => none }
def ExecJoinsWrongFalsely : Prop := execJoinsRow.holds Tryz.pinned (OpenSpec.ofChange execJoinsWrong)

/-- 'annalslaw18.ExecTurns': WHATEVER THE INPUT: true; the input reads as it did. -/
def execTurnsSpec : ChangeSpec := { name := "execTurns", fn := fun _ => fun
  | [d1, d2, d3] => { results := [.lit (.bool true)], args := [d1, d2, d3] }
  | _ => none }
def execTurnsRow : OpenClaim := { program := "ytlphpbcafplnbaagreat", sum := "b87fdb94a706adf33c14fb056f88079280bfcfdb36d9c33eeec637355db491c6", func := "annals/annalslaw18.ExecTurns", spec := "execTurns", inPlace := ["internal/bytealg.abigen_runtime_cmpstring"], unfollowed := true, recurses := true, apart := false }
def ExecTurnsSaid : Prop := execTurnsRow.holds Tryz.pinned (OpenSpec.ofChange execTurnsSpec)

/-- ITS FALSE NEIGHBOUR: 'it returns false'. Refute it at one input. -/
def execTurnsWrong : ChangeSpec := { name := "execTurns", fn := fun _ => fun
  | [d1, d2, d3] => { results := [.lit (.bool false)], args := [d1, d2, d3] }
  | _ => none }
def ExecTurnsWrongFalsely : Prop := execTurnsRow.holds Tryz.pinned (OpenSpec.ofChange execTurnsWrong)

/-- 'annalslaw18.ExecTrees': WHATEVER THE INPUT: true; the input reads as it did. -/
def execTreesSpec : ChangeSpec := { name := "execTrees", fn := fun _ => fun
  | [d] => { results := [.lit (.bool true)], args := [d] }
  | _ => none }
def execTreesRow : OpenClaim := { program := "ytlphpbcafplnbaagreat", sum := "b87fdb94a706adf33c14fb056f88079280bfcfdb36d9c33eeec637355db491c6", func := "annals/annalslaw18.ExecTrees", spec := "execTrees", inPlace := ["internal/bytealg.abigen_runtime_cmpstring"], unfollowed := true, recurses := true, apart := false }
def ExecTreesSaid : Prop := execTreesRow.holds Tryz.pinned (OpenSpec.ofChange execTreesSpec)

/-- ITS FALSE NEIGHBOUR: 'it returns false'. Refute it at one input. -/
def execTreesWrong : ChangeSpec := { name := "execTrees", fn := fun _ => fun
  | [d] => { results := [.lit (.bool false)], args := [d] }
  | _ => none }
def ExecTreesWrongFalsely : Prop := execTreesRow.holds Tryz.pinned (OpenSpec.ofChange execTreesWrong)

/-- 'annalslaw18.ExecSorts': WHATEVER THE INPUT: true; the input reads as it did. -/
def execSortsSpec : ChangeSpec := { name := "execSorts", fn := fun _ => fun
  | [d1, d2] => { results := [.lit (.bool true)], args := [d1, d2] }
  | _ => none }
def execSortsRow : OpenClaim := { program := "ytlphpbcafplnbaagreat", sum := "b87fdb94a706adf33c14fb056f88079280bfcfdb36d9c33eeec637355db491c6", func := "annals/annalslaw18.ExecSorts", spec := "execSorts", inPlace := ["internal/bytealg.abigen_runtime_cmpstring"], unfollowed := true, recurses := true, apart := false }
def ExecSortsSaid : Prop := execSortsRow.holds Tryz.pinned (OpenSpec.ofChange execSortsSpec)

/-- ITS FALSE NEIGHBOUR: 'it returns false'. Refute it at one input. -/
def execSortsWrong : ChangeSpec := { name := "execSorts", fn := fun _ => fun
  | [d1, d2] => { results := [.lit (.bool false)], args := [d1, d2] }
  | _ => none }
def ExecSortsWrongFalsely : Prop := execSortsRow.holds Tryz.pinned (OpenSpec.ofChange execSortsWrong)

/-- 'annalslaw18.ExecKeeps': WHATEVER THE INPUT: true; the input reads as it did. -/
def execKeepsSpec : ChangeSpec := { name := "execKeeps", fn := fun _ => fun
  | [d1, d2] => { results := [.lit (.bool true)], args := [d1, d2] }
  | _ => none }
def execKeepsRow : OpenClaim := { program := "ytlphpbcafplnbaagreat", sum := "b87fdb94a706adf33c14fb056f88079280bfcfdb36d9c33eeec637355db491c6", func := "annals/annalslaw18.ExecKeeps", spec := "execKeeps", inPlace := ["internal/bytealg.abigen_runtime_cmpstring"], unfollowed := true, recurses := true, apart := false }
def ExecKeepsSaid : Prop := execKeepsRow.holds Tryz.pinned (OpenSpec.ofChange execKeepsSpec)

/-- ITS FALSE NEIGHBOUR: 'it returns false'. Refute it at one input. -/
def execKeepsWrong : ChangeSpec := { name := "execKeeps", fn := fun _ => fun
  | [d1, d2] => { results := [.lit (.bool false)], args := [d1, d2] }
  | _ => none }
def ExecKeepsWrongFalsely : Prop := execKeepsRow.holds Tryz.pinned (OpenSpec.ofChange execKeepsWrong)

/-- 'annalslaw18.ExecFilters': WHATEVER THE INPUT: true; the input reads as it did. -/
def execFiltersSpec : ChangeSpec := { name := "execFilters", fn := fun _ => fun
  | [d1, d2, d3] => { results := [.lit (.bool true)], args := [d1, d2, d3] }
  | _ => none }
def execFiltersRow : OpenClaim := { program := "ytlphpbcafplnbaagreat", sum := "b87fdb94a706adf33c14fb056f88079280bfcfdb36d9c33eeec637355db491c6", func := "annals/annalslaw18.ExecFilters", spec := "execFilters", inPlace := ["internal/bytealg.abigen_runtime_cmpstring"], unfollowed := true, recurses := true, loops := true, apart := false }
def ExecFiltersSaid : Prop := execFiltersRow.holds Tryz.pinned (OpenSpec.ofChange execFiltersSpec)

/-- ITS FALSE NEIGHBOUR: 'it returns false'. Refute it at one input. -/
def execFiltersWrong : ChangeSpec := { name := "execFilters", fn := fun _ => fun
  | [d1, d2, d3] => { results := [.lit (.bool false)], args := [d1, d2, d3] }
  | _ => none }
def ExecFiltersWrongFalsely : Prop := execFiltersRow.holds Tryz.pinned (OpenSpec.ofChange execFiltersWrong)

/-- 'annalslaw19.PlanAnswers': WHATEVER THE INPUT: true; the input reads as it did. -/
def planAnswersSpec : ChangeSpec := { name := "planAnswers", fn := fun _ => fun
  | [d1, d2] => { results := [.lit (.bool true)], args := [d1, d2] }
  | _ => none }
def planAnswersRow : OpenClaim := { program := "ytlphpbcafplnbaagreat", sum := "b87fdb94a706adf33c14fb056f88079280bfcfdb36d9c33eeec637355db491c6", func := "annals/annalslaw19.PlanAnswers", spec := "planAnswers", inPlace := ["internal/bytealg.abigen_runtime_cmpstring"], unfollowed := true, recurses := true, loops := true, apart := false }
def PlanAnswersSaid : Prop := planAnswersRow.holds Tryz.pinned (OpenSpec.ofChange planAnswersSpec)

/-- ITS FALSE NEIGHBOUR: 'it returns false'. Refute it at one input. -/
def planAnswersWrong : ChangeSpec := { name := "planAnswers", fn := fun _ => fun
  | [d1, d2] => { results := [.lit (.bool false)], args := [d1, d2] }
  | _ => none }
def PlanAnswersWrongFalsely : Prop := planAnswersRow.holds Tryz.pinned (OpenSpec.ofChange planAnswersWrong)

/-- 'annalslaw19.PlanChooses': WHATEVER THE INPUT: true; the input reads as it did. -/
def planChoosesSpec : ChangeSpec := { name := "planChooses", fn := fun _ => fun
  | [d1, d2, d3] => { results := [.lit (.bool true)], args := [d1, d2, d3] }
  | _ => none }
def planChoosesRow : OpenClaim := { program := "ytlphpbcafplnbaagreat", sum := "b87fdb94a706adf33c14fb056f88079280bfcfdb36d9c33eeec637355db491c6", func := "annals/annalslaw19.PlanChooses", spec := "planChooses", inPlace := ["internal/bytealg.abigen_runtime_cmpstring"], unfollowed := true, recurses := true, loops := true, apart := false }
def PlanChoosesSaid : Prop := planChoosesRow.holds Tryz.pinned (OpenSpec.ofChange planChoosesSpec)

/-- ITS FALSE NEIGHBOUR: 'it returns false'. Refute it at one input. -/
def planChoosesWrong : ChangeSpec := { name := "planChooses", fn := fun _ => fun
  | [d1, d2, d3] => { results := [.lit (.bool false)], args := [d1, d2, d3] }
  | _ => none }
def PlanChoosesWrongFalsely : Prop := planChoosesRow.holds Tryz.pinned (OpenSpec.ofChange planChoosesWrong)

/-- 'annalslaw19.PlanCheapest': WHATEVER THE INPUT: true; the input reads as it did. -/
def planCheapestSpec : ChangeSpec := { name := "planCheapest", fn := fun _ => fun
  | [d1, d2] => { results := [.lit (.bool true)], args := [d1, d2] }
  | _ => none }
def planCheapestRow : OpenClaim := { program := "ytlphpbcafplnbaagreat", sum := "b87fdb94a706adf33c14fb056f88079280bfcfdb36d9c33eeec637355db491c6", func := "annals/annalslaw19.PlanCheapest", spec := "planCheapest", inPlace := ["internal/bytealg.abigen_runtime_cmpstring"], unfollowed := true, recurses := true, loops := true, apart := false }
def PlanCheapestSaid : Prop := planCheapestRow.holds Tryz.pinned (OpenSpec.ofChange planCheapestSpec)

/-- ITS FALSE NEIGHBOUR: 'it returns false'. Refute it at one input. -/
def planCheapestWrong : ChangeSpec := { name := "planCheapest", fn := fun _ => fun
  | [d1, d2] => { results := [.lit (.bool false)], args := [d1, d2] }
  | _ => none }
def PlanCheapestWrongFalsely : Prop := planCheapestRow.holds Tryz.pinned (OpenSpec.ofChange planCheapestWrong)

/-- 'annalslaw19.PlanOne': WHATEVER THE INPUT: true; the input reads as it did. -/
def planOneSpec : ChangeSpec := { name := "planOne", fn := fun _ => fun
  | [d1, d2, d3] => { results := [.lit (.bool true)], args := [d1, d2, d3] }
  | _ => none }
def planOneRow : OpenClaim := { program := "ytlphpbcafplnbaagreat", sum := "b87fdb94a706adf33c14fb056f88079280bfcfdb36d9c33eeec637355db491c6", func := "annals/annalslaw19.PlanOne", spec := "planOne", inPlace := ["internal/bytealg.abigen_runtime_cmpstring"], unfollowed := true, recurses := true, apart := false }
def PlanOneSaid : Prop := planOneRow.holds Tryz.pinned (OpenSpec.ofChange planOneSpec)

/-- ITS FALSE NEIGHBOUR: 'it returns false'. Refute it at one input. -/
def planOneWrong : ChangeSpec := { name := "planOne", fn := fun _ => fun
  | [d1, d2, d3] => { results := [.lit (.bool false)], args := [d1, d2, d3] }
  | _ => none }
def PlanOneWrongFalsely : Prop := planOneRow.holds Tryz.pinned (OpenSpec.ofChange planOneWrong)

/- THE SECOND FORM. 'bulk': how many values and letters a reading holds, each counted each time it is reached (what is shared counts as often as it is met; a slice's spare places count too). A statement '..UptoSaid' is the law's where the arguments, and the package variables that the reading takes, are together of bulk at most 1048576: NARROWER than '..Said'. Prove '..Said' where nothing that the law and all that it calls make is longer than what came in: it says more and counts as full. Else prove '..UptoSaid'. A law counts once. -/
mutual
def uptoBulk {H : Type} : DataW H → Nat
  | .lit (.string bytes) => bytes.length + 1
  | .lit _ => 1
  | .nil => 1
  | .ptr d => uptoBulk d + 1
  | .slice elems spare => uptoBulkAll elems + uptoBulkAll spare + 1
  | .agg parts => uptoBulkAll parts + 1
  | .iface _ d => uptoBulk d + 1
  | .map entries => uptoBulkEntries entries + 1
  | .held _ => 1
def uptoBulkAll {H : Type} : List (DataW H) → Nat
  | [] => 0
  | d :: r => uptoBulk d + uptoBulkAll r
def uptoBulkEntries {H : Type} : List (Lit × DataW H) → Nat
  | [] => 0
  | x :: r => uptoBulkEntry x + uptoBulkEntries r
def uptoBulkEntry {H : Type} : Lit × DataW H → Nat
  | (.string bytes, d) => bytes.length + uptoBulk d + 1
  | (_, d) => uptoBulk d + 1
 end
def uptoSmall : (H : Type) → List (DataW H) → Bool := fun _ ds => decide (uptoBulkAll ds ≤ 1048576)
def OpenSpec.upto (s : _root_.Go.ChangeSpec) : _root_.Go.OpenSpec := { _root_.Go.OpenSpec.ofChange s with cond := some uptoSmall }

/-- 'annalslaw18.ExecJoins', WHERE WHAT IT READS IS OF BULK AT MOST 1048576: true; the input reads as it did. -/
def execJoinsUptoRow : OpenClaim := { program := "ytlphpbcafplnbaagreat", sum := "b87fdb94a706adf33c14fb056f88079280bfcfdb36d9c33eeec637355db491c6", func := "annals/annalslaw18.ExecJoins", spec := "execJoins", inPlace := ["internal/bytealg.abigen_runtime_cmpstring"], unfollowed := true, recurses := true, apart := false, narrowed := true }
def ExecJoinsUptoSaid : Prop := execJoinsUptoRow.holds Tryz.pinned (OpenSpec.upto execJoinsSpec)

/-- 'annalslaw18.ExecTurns', WHERE WHAT IT READS IS OF BULK AT MOST 1048576: true; the input reads as it did. -/
def execTurnsUptoRow : OpenClaim := { program := "ytlphpbcafplnbaagreat", sum := "b87fdb94a706adf33c14fb056f88079280bfcfdb36d9c33eeec637355db491c6", func := "annals/annalslaw18.ExecTurns", spec := "execTurns", inPlace := ["internal/bytealg.abigen_runtime_cmpstring"], unfollowed := true, recurses := true, apart := false, narrowed := true }
def ExecTurnsUptoSaid : Prop := execTurnsUptoRow.holds Tryz.pinned (OpenSpec.upto execTurnsSpec)

/-- 'annalslaw18.ExecTrees', WHERE WHAT IT READS IS OF BULK AT MOST 1048576: true; the input reads as it did. -/
def execTreesUptoRow : OpenClaim := { program := "ytlphpbcafplnbaagreat", sum := "b87fdb94a706adf33c14fb056f88079280bfcfdb36d9c33eeec637355db491c6", func := "annals/annalslaw18.ExecTrees", spec := "execTrees", inPlace := ["internal/bytealg.abigen_runtime_cmpstring"], unfollowed := true, recurses := true, apart := false, narrowed := true }
def ExecTreesUptoSaid : Prop := execTreesUptoRow.holds Tryz.pinned (OpenSpec.upto execTreesSpec)

/-- 'annalslaw18.ExecSorts', WHERE WHAT IT READS IS OF BULK AT MOST 1048576: true; the input reads as it did. -/
def execSortsUptoRow : OpenClaim := { program := "ytlphpbcafplnbaagreat", sum := "b87fdb94a706adf33c14fb056f88079280bfcfdb36d9c33eeec637355db491c6", func := "annals/annalslaw18.ExecSorts", spec := "execSorts", inPlace := ["internal/bytealg.abigen_runtime_cmpstring"], unfollowed := true, recurses := true, apart := false, narrowed := true }
def ExecSortsUptoSaid : Prop := execSortsUptoRow.holds Tryz.pinned (OpenSpec.upto execSortsSpec)

/-- 'annalslaw18.ExecKeeps', WHERE WHAT IT READS IS OF BULK AT MOST 1048576: true; the input reads as it did. -/
def execKeepsUptoRow : OpenClaim := { program := "ytlphpbcafplnbaagreat", sum := "b87fdb94a706adf33c14fb056f88079280bfcfdb36d9c33eeec637355db491c6", func := "annals/annalslaw18.ExecKeeps", spec := "execKeeps", inPlace := ["internal/bytealg.abigen_runtime_cmpstring"], unfollowed := true, recurses := true, apart := false, narrowed := true }
def ExecKeepsUptoSaid : Prop := execKeepsUptoRow.holds Tryz.pinned (OpenSpec.upto execKeepsSpec)

/-- 'annalslaw18.ExecFilters', WHERE WHAT IT READS IS OF BULK AT MOST 1048576: true; the input reads as it did. -/
def execFiltersUptoRow : OpenClaim := { program := "ytlphpbcafplnbaagreat", sum := "b87fdb94a706adf33c14fb056f88079280bfcfdb36d9c33eeec637355db491c6", func := "annals/annalslaw18.ExecFilters", spec := "execFilters", inPlace := ["internal/bytealg.abigen_runtime_cmpstring"], unfollowed := true, recurses := true, loops := true, apart := false, narrowed := true }
def ExecFiltersUptoSaid : Prop := execFiltersUptoRow.holds Tryz.pinned (OpenSpec.upto execFiltersSpec)

/-- 'annalslaw19.PlanAnswers', WHERE WHAT IT READS IS OF BULK AT MOST 1048576: true; the input reads as it did. -/
def planAnswersUptoRow : OpenClaim := { program := "ytlphpbcafplnbaagreat", sum := "b87fdb94a706adf33c14fb056f88079280bfcfdb36d9c33eeec637355db491c6", func := "annals/annalslaw19.PlanAnswers", spec := "planAnswers", inPlace := ["internal/bytealg.abigen_runtime_cmpstring"], unfollowed := true, recurses := true, loops := true, apart := false, narrowed := true }
def PlanAnswersUptoSaid : Prop := planAnswersUptoRow.holds Tryz.pinned (OpenSpec.upto planAnswersSpec)

/-- 'annalslaw19.PlanChooses', WHERE WHAT IT READS IS OF BULK AT MOST 1048576: true; the input reads as it did. -/
def planChoosesUptoRow : OpenClaim := { program := "ytlphpbcafplnbaagreat", sum := "b87fdb94a706adf33c14fb056f88079280bfcfdb36d9c33eeec637355db491c6", func := "annals/annalslaw19.PlanChooses", spec := "planChooses", inPlace := ["internal/bytealg.abigen_runtime_cmpstring"], unfollowed := true, recurses := true, loops := true, apart := false, narrowed := true }
def PlanChoosesUptoSaid : Prop := planChoosesUptoRow.holds Tryz.pinned (OpenSpec.upto planChoosesSpec)

/-- 'annalslaw19.PlanCheapest', WHERE WHAT IT READS IS OF BULK AT MOST 1048576: true; the input reads as it did. -/
def planCheapestUptoRow : OpenClaim := { program := "ytlphpbcafplnbaagreat", sum := "b87fdb94a706adf33c14fb056f88079280bfcfdb36d9c33eeec637355db491c6", func := "annals/annalslaw19.PlanCheapest", spec := "planCheapest", inPlace := ["internal/bytealg.abigen_runtime_cmpstring"], unfollowed := true, recurses := true, loops := true, apart := false, narrowed := true }
def PlanCheapestUptoSaid : Prop := planCheapestUptoRow.holds Tryz.pinned (OpenSpec.upto planCheapestSpec)

/-- 'annalslaw19.PlanOne', WHERE WHAT IT READS IS OF BULK AT MOST 1048576: true; the input reads as it did. -/
def planOneUptoRow : OpenClaim := { program := "ytlphpbcafplnbaagreat", sum := "b87fdb94a706adf33c14fb056f88079280bfcfdb36d9c33eeec637355db491c6", func := "annals/annalslaw19.PlanOne", spec := "planOne", inPlace := ["internal/bytealg.abigen_runtime_cmpstring"], unfollowed := true, recurses := true, apart := false, narrowed := true }
def PlanOneUptoSaid : Prop := planOneUptoRow.holds Tryz.pinned (OpenSpec.upto planOneSpec)

end Rows
end Go.Proofs.YtlphpbcafplnbaaGreat
