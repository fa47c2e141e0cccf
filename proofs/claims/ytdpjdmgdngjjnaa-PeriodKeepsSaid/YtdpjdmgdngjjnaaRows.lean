/-
  No cell of these rows narrows 'for every input' (looked for: loops, veiled, ifaces, maps, wideKeys, modest, calm, conditions, laid).
  DERIVED. THE GIVEN ROWS OF THIS SEAT. 8 by the template 'for every input the law returns true; each argument reads behind the call as it read before'; 0 by the template 'total and deterministic' (their statements: YtdpjdmgdngjjnaaTotals.lean).
  GIVEN WITH THE SEED: the statements are not yours to turn. If you find one false, say at which input.
  Laid BY PROGRAM, IN A SANDBOX (cutbox-rows.mjs): the forced cells as the released guide's own fill.sh prints them over the translation fee19e5706166390… (all of the seat's roots in one cut). By AI agents, Wed Nov 11 2026. No macro, syntax, notation, axiom, sorry.
-/
import Derived.Test.YtdpjdmgdngjjnaaChecked
import GoSem.Claim
import GoSem.ClaimJoined
import GoSem.ClaimMapViews
import Derived.JoinedTies
import Derived.KernelRfl
namespace Go.Proofs.Ytdpjdmgdngjjnaa
/- THE CELL 'sum', in the pinned program and in every row, IS THE sha256 OF THE DUMP (.gsa) THAT YtdpjdmgdngjjnaaProg.lean LOADS. Nothing in Lean hashes anything: it is a label: what it is worth is what the hold of that sum in a sandbox is worth. -/
noncomputable def Try.pinned : Pinned := { name := "ytdpjdmgdngjjnaa", sum := "fee19e570616639090690ff15569f23a9233f14d0a6a165c084fbd9eac32fdcc", checked := Try.checked }
namespace Rows
def none {H : Type} : Left H := { results := [], args := [] }

/-- 'annalslaw04.PeriodSteps': WHATEVER THE INPUT: true; the input reads as it did. -/
def periodStepsSpec : ChangeSpec := { name := "periodSteps", fn := fun _ => fun
  | [d1, d2] => { results := [.lit (.bool true)], args := [d1, d2] }
  | _ => none }
def periodStepsRow : OpenClaim := { program := "ytdpjdmgdngjjnaa", sum := "fee19e570616639090690ff15569f23a9233f14d0a6a165c084fbd9eac32fdcc", func := "annals/annalslaw04.PeriodSteps", spec := "periodSteps", unfollowed := true, recurses := true, apart := false }
def PeriodStepsSaid : Prop := periodStepsRow.holds Try.pinned (OpenSpec.ofChange periodStepsSpec)

/-- ITS FALSE NEIGHBOUR: 'it returns false'. Refute it at one input. -/
def periodStepsWrong : ChangeSpec := { name := "periodSteps", fn := fun _ => fun
  | [d1, d2] => { results := [.lit (.bool false)], args := [d1, d2] }
  | _ => none }
def PeriodStepsWrongFalsely : Prop := periodStepsRow.holds Try.pinned (OpenSpec.ofChange periodStepsWrong)

/-- 'annalslaw04.PeriodInstants': WHATEVER THE INPUT: true; the input reads as it did. -/
def periodInstantsSpec : ChangeSpec := { name := "periodInstants", fn := fun _ => fun
  | [d1, d2, d3] => { results := [.lit (.bool true)], args := [d1, d2, d3] }
  | _ => none }
def periodInstantsRow : OpenClaim := { program := "ytdpjdmgdngjjnaa", sum := "fee19e570616639090690ff15569f23a9233f14d0a6a165c084fbd9eac32fdcc", func := "annals/annalslaw04.PeriodInstants", spec := "periodInstants", unfollowed := true, recurses := true, apart := false }
def PeriodInstantsSaid : Prop := periodInstantsRow.holds Try.pinned (OpenSpec.ofChange periodInstantsSpec)

/-- ITS FALSE NEIGHBOUR: 'it returns false'. Refute it at one input. -/
def periodInstantsWrong : ChangeSpec := { name := "periodInstants", fn := fun _ => fun
  | [d1, d2, d3] => { results := [.lit (.bool false)], args := [d1, d2, d3] }
  | _ => none }
def PeriodInstantsWrongFalsely : Prop := periodInstantsRow.holds Try.pinned (OpenSpec.ofChange periodInstantsWrong)

/-- 'annalslaw04.PeriodBack': WHATEVER THE INPUT: true; the input reads as it did. -/
def periodBackSpec : ChangeSpec := { name := "periodBack", fn := fun _ => fun
  | [d1, d2] => { results := [.lit (.bool true)], args := [d1, d2] }
  | _ => none }
def periodBackRow : OpenClaim := { program := "ytdpjdmgdngjjnaa", sum := "fee19e570616639090690ff15569f23a9233f14d0a6a165c084fbd9eac32fdcc", func := "annals/annalslaw04.PeriodBack", spec := "periodBack", unfollowed := true, recurses := true, apart := false }
def PeriodBackSaid : Prop := periodBackRow.holds Try.pinned (OpenSpec.ofChange periodBackSpec)

/-- ITS FALSE NEIGHBOUR: 'it returns false'. Refute it at one input. -/
def periodBackWrong : ChangeSpec := { name := "periodBack", fn := fun _ => fun
  | [d1, d2] => { results := [.lit (.bool false)], args := [d1, d2] }
  | _ => none }
def PeriodBackWrongFalsely : Prop := periodBackRow.holds Try.pinned (OpenSpec.ofChange periodBackWrong)

/-- 'annalslaw04.PeriodTurns': WHATEVER THE INPUT: true; the input reads as it did. -/
def periodTurnsSpec : ChangeSpec := { name := "periodTurns", fn := fun _ => fun
  | [d1, d2, d3] => { results := [.lit (.bool true)], args := [d1, d2, d3] }
  | _ => none }
def periodTurnsRow : OpenClaim := { program := "ytdpjdmgdngjjnaa", sum := "fee19e570616639090690ff15569f23a9233f14d0a6a165c084fbd9eac32fdcc", func := "annals/annalslaw04.PeriodTurns", spec := "periodTurns", unfollowed := true, recurses := true, apart := false }
def PeriodTurnsSaid : Prop := periodTurnsRow.holds Try.pinned (OpenSpec.ofChange periodTurnsSpec)

/-- ITS FALSE NEIGHBOUR: 'it returns false'. Refute it at one input. -/
def periodTurnsWrong : ChangeSpec := { name := "periodTurns", fn := fun _ => fun
  | [d1, d2, d3] => { results := [.lit (.bool false)], args := [d1, d2, d3] }
  | _ => none }
def PeriodTurnsWrongFalsely : Prop := periodTurnsRow.holds Try.pinned (OpenSpec.ofChange periodTurnsWrong)

/-- 'annalslaw04.PeriodMoves': WHATEVER THE INPUT: true; the input reads as it did. -/
def periodMovesSpec : ChangeSpec := { name := "periodMoves", fn := fun _ => fun
  | [d1, d2, d3] => { results := [.lit (.bool true)], args := [d1, d2, d3] }
  | _ => none }
def periodMovesRow : OpenClaim := { program := "ytdpjdmgdngjjnaa", sum := "fee19e570616639090690ff15569f23a9233f14d0a6a165c084fbd9eac32fdcc", func := "annals/annalslaw04.PeriodMoves", spec := "periodMoves", unfollowed := true, recurses := true, apart := false }
def PeriodMovesSaid : Prop := periodMovesRow.holds Try.pinned (OpenSpec.ofChange periodMovesSpec)

/-- ITS FALSE NEIGHBOUR: 'it returns false'. Refute it at one input. -/
def periodMovesWrong : ChangeSpec := { name := "periodMoves", fn := fun _ => fun
  | [d1, d2, d3] => { results := [.lit (.bool false)], args := [d1, d2, d3] }
  | _ => none }
def PeriodMovesWrongFalsely : Prop := periodMovesRow.holds Try.pinned (OpenSpec.ofChange periodMovesWrong)

/-- 'annalslaw04.PeriodRelates': WHATEVER THE INPUT: true; the input reads as it did. -/
def periodRelatesSpec : ChangeSpec := { name := "periodRelates", fn := fun _ => fun
  | [d1, d2, d3] => { results := [.lit (.bool true)], args := [d1, d2, d3] }
  | _ => none }
def periodRelatesRow : OpenClaim := { program := "ytdpjdmgdngjjnaa", sum := "fee19e570616639090690ff15569f23a9233f14d0a6a165c084fbd9eac32fdcc", func := "annals/annalslaw04.PeriodRelates", spec := "periodRelates", unfollowed := true, recurses := true, apart := false }
def PeriodRelatesSaid : Prop := periodRelatesRow.holds Try.pinned (OpenSpec.ofChange periodRelatesSpec)

/-- ITS FALSE NEIGHBOUR: 'it returns false'. Refute it at one input. -/
def periodRelatesWrong : ChangeSpec := { name := "periodRelates", fn := fun _ => fun
  | [d1, d2, d3] => { results := [.lit (.bool false)], args := [d1, d2, d3] }
  | _ => none }
def PeriodRelatesWrongFalsely : Prop := periodRelatesRow.holds Try.pinned (OpenSpec.ofChange periodRelatesWrong)

/-- 'annalslaw04.PeriodSets': WHATEVER THE INPUT: true; the input reads as it did. -/
def periodSetsSpec : ChangeSpec := { name := "periodSets", fn := fun _ => fun
  | [d1, d2] => { results := [.lit (.bool true)], args := [d1, d2] }
  | _ => none }
def periodSetsRow : OpenClaim := { program := "ytdpjdmgdngjjnaa", sum := "fee19e570616639090690ff15569f23a9233f14d0a6a165c084fbd9eac32fdcc", func := "annals/annalslaw04.PeriodSets", spec := "periodSets", unfollowed := true, recurses := true, apart := false }
def PeriodSetsSaid : Prop := periodSetsRow.holds Try.pinned (OpenSpec.ofChange periodSetsSpec)

/-- ITS FALSE NEIGHBOUR: 'it returns false'. Refute it at one input. -/
def periodSetsWrong : ChangeSpec := { name := "periodSets", fn := fun _ => fun
  | [d1, d2] => { results := [.lit (.bool false)], args := [d1, d2] }
  | _ => none }
def PeriodSetsWrongFalsely : Prop := periodSetsRow.holds Try.pinned (OpenSpec.ofChange periodSetsWrong)

/-- 'annalslaw04.PeriodKeeps': WHATEVER THE INPUT: true; the input reads as it did. -/
def periodKeepsSpec : ChangeSpec := { name := "periodKeeps", fn := fun _ => fun
  | [d1, d2] => { results := [.lit (.bool true)], args := [d1, d2] }
  | _ => none }
def periodKeepsRow : OpenClaim := { program := "ytdpjdmgdngjjnaa", sum := "fee19e570616639090690ff15569f23a9233f14d0a6a165c084fbd9eac32fdcc", func := "annals/annalslaw04.PeriodKeeps", spec := "periodKeeps", unfollowed := true, recurses := true, apart := false }
def PeriodKeepsSaid : Prop := periodKeepsRow.holds Try.pinned (OpenSpec.ofChange periodKeepsSpec)

/-- ITS FALSE NEIGHBOUR: 'it returns false'. Refute it at one input. -/
def periodKeepsWrong : ChangeSpec := { name := "periodKeeps", fn := fun _ => fun
  | [d1, d2] => { results := [.lit (.bool false)], args := [d1, d2] }
  | _ => none }
def PeriodKeepsWrongFalsely : Prop := periodKeepsRow.holds Try.pinned (OpenSpec.ofChange periodKeepsWrong)

/- THE SECOND FORM. 'bulk': how many values and letters a reading holds, each counted each time it is reached (what is shared counts as often as it is met; a slice's spare places count too). A statement '..UptoSaid' is the law's where the arguments, and the package variables that the reading takes, are together of bulk at most 1048576: NARROWER than '..Said'. Prove '..Said' where nothing that the law and all that it calls make is longer than what came in: it says more and counts as full. Else prove '..UptoSaid'. A law counts once. -/
mutual
def uptoBulk {H : Type} : DataW H → Nat
  | .lit (.string bytes) => bytes.length + 1
  | .lit _ => 1
  | .nil => 1
  | .ptr d => uptoBulk d + 1
  | .slice elems spare => uptoBulkAll elems + uptoBulkAll spare + 1
  | .agg parts => uptoBulkAll parts + 1
  | .iface _ d => uptoBulk d + 1
  | .map entries => uptoBulkEntries entries + 1
  | .held _ => 1
def uptoBulkAll {H : Type} : List (DataW H) → Nat
  | [] => 0
  | d :: r => uptoBulk d + uptoBulkAll r
def uptoBulkEntries {H : Type} : List (Lit × DataW H) → Nat
  | [] => 0
  | x :: r => uptoBulkEntry x + uptoBulkEntries r
def uptoBulkEntry {H : Type} : Lit × DataW H → Nat
  | (.string bytes, d) => bytes.length + uptoBulk d + 1
  | (_, d) => uptoBulk d + 1
 end
def uptoSmall : (H : Type) → List (DataW H) → Bool := fun _ ds => decide (uptoBulkAll ds ≤ 1048576)
def OpenSpec.upto (s : _root_.Go.ChangeSpec) : _root_.Go.OpenSpec := { _root_.Go.OpenSpec.ofChange s with cond := some uptoSmall }

/-- 'annalslaw04.PeriodSteps', WHERE WHAT IT READS IS OF BULK AT MOST 1048576: true; the input reads as it did. -/
def periodStepsUptoRow : OpenClaim := { program := "ytdpjdmgdngjjnaa", sum := "fee19e570616639090690ff15569f23a9233f14d0a6a165c084fbd9eac32fdcc", func := "annals/annalslaw04.PeriodSteps", spec := "periodSteps", unfollowed := true, recurses := true, apart := false, narrowed := true }
def PeriodStepsUptoSaid : Prop := periodStepsUptoRow.holds Try.pinned (OpenSpec.upto periodStepsSpec)

/-- 'annalslaw04.PeriodInstants', WHERE WHAT IT READS IS OF BULK AT MOST 1048576: true; the input reads as it did. -/
def periodInstantsUptoRow : OpenClaim := { program := "ytdpjdmgdngjjnaa", sum := "fee19e570616639090690ff15569f23a9233f14d0a6a165c084fbd9eac32fdcc", func := "annals/annalslaw04.PeriodInstants", spec := "periodInstants", unfollowed := true, recurses := true, apart := false, narrowed := true }
def PeriodInstantsUptoSaid : Prop := periodInstantsUptoRow.holds Try.pinned (OpenSpec.upto periodInstantsSpec)

/-- 'annalslaw04.PeriodBack', WHERE WHAT IT READS IS OF BULK AT MOST 1048576: true; the input reads as it did. -/
def periodBackUptoRow : OpenClaim := { program := "ytdpjdmgdngjjnaa", sum := "fee19e570616639090690ff15569f23a9233f14d0a6a165c084fbd9eac32fdcc", func := "annals/annalslaw04.PeriodBack", spec := "periodBack", unfollowed := true, recurses := true, apart := false, narrowed := true }
def PeriodBackUptoSaid : Prop := periodBackUptoRow.holds Try.pinned (OpenSpec.upto periodBackSpec)

/-- 'annalslaw04.PeriodTurns', WHERE WHAT IT READS IS OF BULK AT MOST 1048576: true; the input reads as it did. -/
def periodTurnsUptoRow : OpenClaim := { program := "ytdpjdmgdngjjnaa", sum := "fee19e570616639090690ff15569f23a9233f14d0a6a165c084fbd9eac32fdcc", func := "annals/annalslaw04.PeriodTurns", spec := "periodTurns", unfollowed := true, recurses := true, apart := false, narrowed := true }
def PeriodTurnsUptoSaid : Prop := periodTurnsUptoRow.holds Try.pinned (OpenSpec.upto periodTurnsSpec)

/-- 'annalslaw04.PeriodMoves', WHERE WHAT IT READS IS OF BULK AT MOST 1048576: true; the input reads as it did. -/
def periodMovesUptoRow : OpenClaim := { program := "ytdpjdmgdngjjnaa", sum := "fee19e570616639090690ff15569f23a9233f14d0a6a165c084fbd9eac32fdcc", func := "annals/annalslaw04.PeriodMoves", spec := "periodMoves", unfollowed := true, recurses := true, apart := false, narrowed := true }
def PeriodMovesUptoSaid : Prop := periodMovesUptoRow.holds Try.pinned (OpenSpec.upto periodMovesSpec)

/-- 'annalslaw04.PeriodRelates', WHERE WHAT IT READS IS OF BULK AT MOST 1048576: true; the input reads as it did. -/
def periodRelatesUptoRow : OpenClaim := { program := "ytdpjdmgdngjjnaa", sum := "fee19e570616639090690ff15569f23a9233f14d0a6a165c084fbd9eac32fdcc", func := "annals/annalslaw04.PeriodRelates", spec := "periodRelates", unfollowed := true, recurses := true, apart := false, narrowed := true }
def PeriodRelatesUptoSaid : Prop := periodRelatesUptoRow.holds Try.pinned (OpenSpec.upto periodRelatesSpec)

/-- 'annalslaw04.PeriodSets', WHERE WHAT IT READS IS OF BULK AT MOST 1048576: true; the input reads as it did. -/
def periodSetsUptoRow : OpenClaim := { program := "ytdpjdmgdngjjnaa", sum := "fee19e570616639090690ff15569f23a9233f14d0a6a165c084fbd9eac32fdcc", func := "annals/annalslaw04.PeriodSets", spec := "periodSets", unfollowed := true, recurses := true, apart := false, narrowed := true }
def PeriodSetsUptoSaid : Prop := periodSetsUptoRow.holds Try.pinned (OpenSpec.upto periodSetsSpec)

/-- 'annalslaw04.PeriodKeeps', WHERE WHAT IT READS IS OF BULK AT MOST 1048576: true; the input reads as it did. -/
def periodKeepsUptoRow : OpenClaim := { program := "ytdpjdmgdngjjnaa", sum := "fee19e570616639090690ff15569f23a9233f14d0a6a165c084fbd9eac32fdcc", func := "annals/annalslaw04.PeriodKeeps", spec := "periodKeeps", unfollowed := true, recurses := true, apart := false, narrowed := true }
def PeriodKeepsUptoSaid : Prop := periodKeepsUptoRow.holds Try.pinned (OpenSpec.upto periodKeepsSpec)

end Rows
end Go.Proofs.Ytdpjdmgdngjjnaa
