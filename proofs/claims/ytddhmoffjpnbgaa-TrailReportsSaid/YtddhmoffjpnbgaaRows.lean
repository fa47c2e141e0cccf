/-
  No cell of these rows narrows 'for every input' (looked for: loops, veiled, ifaces, maps, wideKeys, modest, calm, conditions, laid).
  DERIVED. THE GIVEN ROWS OF THIS SEAT. 3 by the template 'for every input the law returns true; each argument reads behind the call as it read before'; 0 by the template 'total and deterministic' (their statements: YtddhmoffjpnbgaaTotals.lean).
  GIVEN WITH THE SEED: the statements are not yours to turn. If you find one false, say at which input.
  Laid BY PROGRAM, IN A SANDBOX (cutbox-rows.mjs): the forced cells as the released guide's own fill.sh prints them over the translation 5d9a3c1dbf047e6e… (all of the seat's roots in one cut). By AI agents, Wed Nov 11 2026. No macro, syntax, notation, axiom, sorry.
-/
import Derived.Test.YtddhmoffjpnbgaaChecked
import GoSem.Claim
import GoSem.ClaimJoined
import GoSem.ClaimMapViews
import Derived.JoinedTies
import Derived.KernelRfl
namespace Go.Proofs.Ytddhmoffjpnbgaa
/- THE CELL 'sum', in the pinned program and in every row, IS THE sha256 OF THE DUMP (.gsa) THAT YtddhmoffjpnbgaaProg.lean LOADS. Nothing in Lean hashes anything: it is a label: what it is worth is what the hold of that sum in a sandbox is worth. -/
noncomputable def Try.pinned : Pinned := { name := "ytddhmoffjpnbgaa", sum := "5d9a3c1dbf047e6e6b64cb0c312310cc31f6e9ae39f83f620c16ada3db36daeb", checked := Try.checked }
namespace Rows
def none {H : Type} : Left H := { results := [], args := [] }

/-- 'annalslaw07.TrailReports': WHATEVER THE INPUT: true; the input reads as it did. -/
def trailReportsSpec : ChangeSpec := { name := "trailReports", fn := fun _ => fun
  | [d1, d2] => { results := [.lit (.bool true)], args := [d1, d2] }
  | _ => none }
def trailReportsRow : OpenClaim := { program := "ytddhmoffjpnbgaa", sum := "5d9a3c1dbf047e6e6b64cb0c312310cc31f6e9ae39f83f620c16ada3db36daeb", func := "annals/annalslaw07.TrailReports", spec := "trailReports", unfollowed := true, recurses := true, apart := false }
def TrailReportsSaid : Prop := trailReportsRow.holds Try.pinned (OpenSpec.ofChange trailReportsSpec)

/-- ITS FALSE NEIGHBOUR: 'it returns false'. Refute it at one input. -/
def trailReportsWrong : ChangeSpec := { name := "trailReports", fn := fun _ => fun
  | [d1, d2] => { results := [.lit (.bool false)], args := [d1, d2] }
  | _ => none }
def TrailReportsWrongFalsely : Prop := trailReportsRow.holds Try.pinned (OpenSpec.ofChange trailReportsWrong)

/-- 'annalslaw07.TrailSplits': WHATEVER THE INPUT: true; the input reads as it did. -/
def trailSplitsSpec : ChangeSpec := { name := "trailSplits", fn := fun _ => fun
  | [d1, d2] => { results := [.lit (.bool true)], args := [d1, d2] }
  | _ => none }
def trailSplitsRow : OpenClaim := { program := "ytddhmoffjpnbgaa", sum := "5d9a3c1dbf047e6e6b64cb0c312310cc31f6e9ae39f83f620c16ada3db36daeb", func := "annals/annalslaw07.TrailSplits", spec := "trailSplits", unfollowed := true, recurses := true, apart := false }
def TrailSplitsSaid : Prop := trailSplitsRow.holds Try.pinned (OpenSpec.ofChange trailSplitsSpec)

/-- ITS FALSE NEIGHBOUR: 'it returns false'. Refute it at one input. -/
def trailSplitsWrong : ChangeSpec := { name := "trailSplits", fn := fun _ => fun
  | [d1, d2] => { results := [.lit (.bool false)], args := [d1, d2] }
  | _ => none }
def TrailSplitsWrongFalsely : Prop := trailSplitsRow.holds Try.pinned (OpenSpec.ofChange trailSplitsWrong)

/-- 'annalslaw07.TrailGrows': WHATEVER THE INPUT: true; the input reads as it did. -/
def trailGrowsSpec : ChangeSpec := { name := "trailGrows", fn := fun _ => fun
  | [d1, d2] => { results := [.lit (.bool true)], args := [d1, d2] }
  | _ => none }
def trailGrowsRow : OpenClaim := { program := "ytddhmoffjpnbgaa", sum := "5d9a3c1dbf047e6e6b64cb0c312310cc31f6e9ae39f83f620c16ada3db36daeb", func := "annals/annalslaw07.TrailGrows", spec := "trailGrows", unfollowed := true, recurses := true, apart := false }
def TrailGrowsSaid : Prop := trailGrowsRow.holds Try.pinned (OpenSpec.ofChange trailGrowsSpec)

/-- ITS FALSE NEIGHBOUR: 'it returns false'. Refute it at one input. -/
def trailGrowsWrong : ChangeSpec := { name := "trailGrows", fn := fun _ => fun
  | [d1, d2] => { results := [.lit (.bool false)], args := [d1, d2] }
  | _ => none }
def TrailGrowsWrongFalsely : Prop := trailGrowsRow.holds Try.pinned (OpenSpec.ofChange trailGrowsWrong)

/- THE SECOND FORM. 'bulk': how many values and letters a reading holds, each counted each time it is reached (what is shared counts as often as it is met; a slice's spare places count too). A statement '..UptoSaid' is the law's where the arguments, and the package variables that the reading takes, are together of bulk at most 1048576: NARROWER than '..Said'. Prove '..Said' where nothing that the law and all that it calls make is longer than what came in: it says more and counts as full. Else prove '..UptoSaid'. A law counts once. -/
mutual
def uptoBulk {H : Type} : DataW H → Nat
  | .lit (.string bytes) => bytes.length + 1
  | .lit _ => 1
  | .nil => 1
  | .ptr d => uptoBulk d + 1
  | .slice elems spare => uptoBulkAll elems + uptoBulkAll spare + 1
  | .agg parts => uptoBulkAll parts + 1
  | .iface _ d => uptoBulk d + 1
  | .map entries => uptoBulkEntries entries + 1
  | .held _ => 1
def uptoBulkAll {H : Type} : List (DataW H) → Nat
  | [] => 0
  | d :: r => uptoBulk d + uptoBulkAll r
def uptoBulkEntries {H : Type} : List (Lit × DataW H) → Nat
  | [] => 0
  | x :: r => uptoBulkEntry x + uptoBulkEntries r
def uptoBulkEntry {H : Type} : Lit × DataW H → Nat
  | (.string bytes, d) => bytes.length + uptoBulk d + 1
  | (_, d) => uptoBulk d + 1
 end
def uptoSmall : (H : Type) → List (DataW H) → Bool := fun _ ds => decide (uptoBulkAll ds ≤ 1048576)
def OpenSpec.upto (s : _root_.Go.ChangeSpec) : _root_.Go.OpenSpec := { _root_.Go.OpenSpec.ofChange s with cond := some uptoSmall }

/-- 'annalslaw07.TrailReports', WHERE WHAT IT READS IS OF BULK AT MOST 1048576: true; the input reads as it did. -/
def trailReportsUptoRow : OpenClaim := { program := "ytddhmoffjpnbgaa", sum := "5d9a3c1dbf047e6e6b64cb0c312310cc31f6e9ae39f83f620c16ada3db36daeb", func := "annals/annalslaw07.TrailReports", spec := "trailReports", unfollowed := true, recurses := true, apart := false, narrowed := true }
def TrailReportsUptoSaid : Prop := trailReportsUptoRow.holds Try.pinned (OpenSpec.upto trailReportsSpec)

/-- 'annalslaw07.TrailSplits', WHERE WHAT IT READS IS OF BULK AT MOST 1048576: true; the input reads as it did. -/
def trailSplitsUptoRow : OpenClaim := { program := "ytddhmoffjpnbgaa", sum := "5d9a3c1dbf047e6e6b64cb0c312310cc31f6e9ae39f83f620c16ada3db36daeb", func := "annals/annalslaw07.TrailSplits", spec := "trailSplits", unfollowed := true, recurses := true, apart := false, narrowed := true }
def TrailSplitsUptoSaid : Prop := trailSplitsUptoRow.holds Try.pinned (OpenSpec.upto trailSplitsSpec)

/-- 'annalslaw07.TrailGrows', WHERE WHAT IT READS IS OF BULK AT MOST 1048576: true; the input reads as it did. -/
def trailGrowsUptoRow : OpenClaim := { program := "ytddhmoffjpnbgaa", sum := "5d9a3c1dbf047e6e6b64cb0c312310cc31f6e9ae39f83f620c16ada3db36daeb", func := "annals/annalslaw07.TrailGrows", spec := "trailGrows", unfollowed := true, recurses := true, apart := false, narrowed := true }
def TrailGrowsUptoSaid : Prop := trailGrowsUptoRow.holds Try.pinned (OpenSpec.upto trailGrowsSpec)

end Rows
end Go.Proofs.Ytddhmoffjpnbgaa
