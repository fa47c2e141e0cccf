/-
  NARROWER THAN 'FOR EVERY INPUT', by the rows' own cells (each row's printed sentence says how): DmlChanges: loops · DmlOutside: loops.
  DERIVED. THE GIVEN ROWS OF THIS SEAT. 4 by the template 'for every input the law returns true; each argument reads behind the call as it read before'; 0 by the template 'total and deterministic' (their statements: YtkfiiomdkljjnaaTotals.lean).
  GIVEN WITH THE SEED: the statements are not yours to turn. If you find one false, say at which input.
  Laid BY PROGRAM, IN A SANDBOX (cutbox-rows.mjs): the forced cells as the released guide's own fill.sh prints them over the translation b2693f5855ff0159… (all of the seat's roots in one cut). By AI agents, Wed Nov 11 2026. No macro, syntax, notation, axiom, sorry.
-/
import Derived.Test.YtkfiiomdkljjnaaChecked
import GoSem.Claim
import GoSem.ClaimJoined
import GoSem.ClaimMapViews
import Derived.JoinedTies
import Derived.KernelRfl
namespace Go.Proofs.Ytkfiiomdkljjnaa
/- THE CELL 'sum', in the pinned program and in every row, IS THE sha256 OF THE DUMP (.gsa) THAT YtkfiiomdkljjnaaProg.lean LOADS. Nothing in Lean hashes anything: it is a label: what it is worth is what the hold of that sum in a sandbox is worth. -/
noncomputable def Try.pinned : Pinned := { name := "ytkfiiomdkljjnaa", sum := "b2693f5855ff0159e835687d36bcb6ae2b26f7ea957a16327381c5e43cabdf9f", checked := Try.checked }
namespace Rows
def none {H : Type} : Left H := { results := [], args := [] }

/-- 'annalslaw20.DmlApplies': WHATEVER THE INPUT: true; the input reads as it did. -/
def dmlAppliesSpec : ChangeSpec := { name := "dmlApplies", fn := fun _ => fun
  | [d1, d2, d3] => { results := [.lit (.bool true)], args := [d1, d2, d3] }
  | _ => none }
def dmlAppliesRow : OpenClaim := { program := "ytkfiiomdkljjnaa", sum := "b2693f5855ff0159e835687d36bcb6ae2b26f7ea957a16327381c5e43cabdf9f", func := "annals/annalslaw20.DmlApplies", spec := "dmlApplies", unfollowed := true, recurses := true, apart := false }
def DmlAppliesSaid : Prop := dmlAppliesRow.holds Try.pinned (OpenSpec.ofChange dmlAppliesSpec)

/-- ITS FALSE NEIGHBOUR: 'it returns false'. Refute it at one input. -/
def dmlAppliesWrong : ChangeSpec := { name := "dmlApplies", fn := fun _ => fun
  | [d1, d2, d3] => { results := [.lit (.bool false)], args := [d1, d2, d3] }
  | _ => none }
def DmlAppliesWrongFalsely : Prop := dmlAppliesRow.holds Try.pinned (OpenSpec.ofChange dmlAppliesWrong)

/-- 'annalslaw20.DmlClashes': WHATEVER THE INPUT: true; the input reads as it did. -/
def dmlClashesSpec : ChangeSpec := { name := "dmlClashes", fn := fun _ => fun
  | [d1, d2, d3] => { results := [.lit (.bool true)], args := [d1, d2, d3] }
  | _ => none }
def dmlClashesRow : OpenClaim := { program := "ytkfiiomdkljjnaa", sum := "b2693f5855ff0159e835687d36bcb6ae2b26f7ea957a16327381c5e43cabdf9f", func := "annals/annalslaw20.DmlClashes", spec := "dmlClashes", unfollowed := true, recurses := true, apart := false }
def DmlClashesSaid : Prop := dmlClashesRow.holds Try.pinned (OpenSpec.ofChange dmlClashesSpec)

/-- ITS FALSE NEIGHBOUR: 'it returns false'. Refute it at one input. -/
def dmlClashesWrong : ChangeSpec := { name := "dmlClashes", fn := fun _ => fun
  | [d1, d2, d3] => { results := [.lit (.bool false)], args := [d1, d2, d3] }
  | _ => none }
def DmlClashesWrongFalsely : Prop := dmlClashesRow.holds Try.pinned (OpenSpec.ofChange dmlClashesWrong)

/-- 'annalslaw20.DmlChanges': WHATEVER THE INPUT: true; the input reads as it did. -/
def dmlChangesSpec : ChangeSpec := { name := "dmlChanges", fn := fun _ => fun
  | [d1, d2] => { results := [.lit (.bool true)], args := [d1, d2] }
  | _ => none }
def dmlChangesRow : OpenClaim := { program := "ytkfiiomdkljjnaa", sum := "b2693f5855ff0159e835687d36bcb6ae2b26f7ea957a16327381c5e43cabdf9f", func := "annals/annalslaw20.DmlChanges", spec := "dmlChanges", unfollowed := true, recurses := true, loops := true, apart := false }
def DmlChangesSaid : Prop := dmlChangesRow.holds Try.pinned (OpenSpec.ofChange dmlChangesSpec)

/-- ITS FALSE NEIGHBOUR: 'it returns false'. Refute it at one input. -/
def dmlChangesWrong : ChangeSpec := { name := "dmlChanges", fn := fun _ => fun
  | [d1, d2] => { results := [.lit (.bool false)], args := [d1, d2] }
  | _ => none }
def DmlChangesWrongFalsely : Prop := dmlChangesRow.holds Try.pinned (OpenSpec.ofChange dmlChangesWrong)

/-- 'annalslaw20.DmlOutside': WHATEVER THE INPUT: true; the input reads as it did. -/
def dmlOutsideSpec : ChangeSpec := { name := "dmlOutside", fn := fun _ => fun
  | [d1, d2, d3] => { results := [.lit (.bool true)], args := [d1, d2, d3] }
  | _ => none }
def dmlOutsideRow : OpenClaim := { program := "ytkfiiomdkljjnaa", sum := "b2693f5855ff0159e835687d36bcb6ae2b26f7ea957a16327381c5e43cabdf9f", func := "annals/annalslaw20.DmlOutside", spec := "dmlOutside", inPlace := ["internal/bytealg.abigen_runtime_cmpstring"], unfollowed := true, recurses := true, loops := true, apart := false }
def DmlOutsideSaid : Prop := dmlOutsideRow.holds Try.pinned (OpenSpec.ofChange dmlOutsideSpec)

/-- ITS FALSE NEIGHBOUR: 'it returns false'. Refute it at one input. -/
def dmlOutsideWrong : ChangeSpec := { name := "dmlOutside", fn := fun _ => fun
  | [d1, d2, d3] => { results := [.lit (.bool false)], args := [d1, d2, d3] }
  | _ => none }
def DmlOutsideWrongFalsely : Prop := dmlOutsideRow.holds Try.pinned (OpenSpec.ofChange dmlOutsideWrong)

/- THE SECOND FORM. 'bulk': how many values and letters a reading holds, each counted each time it is reached (what is shared counts as often as it is met; a slice's spare places count too). A statement '..UptoSaid' is the law's where the arguments, and the package variables that the reading takes, are together of bulk at most 1048576: NARROWER than '..Said'. Prove '..Said' where nothing that the law and all that it calls make is longer than what came in: it says more and counts as full. Else prove '..UptoSaid'. A law counts once. -/
mutual
def uptoBulk {H : Type} : DataW H → Nat
  | .lit (.string bytes) => bytes.length + 1
  | .lit _ => 1
  | .nil => 1
  | .ptr d => uptoBulk d + 1
  | .slice elems spare => uptoBulkAll elems + uptoBulkAll spare + 1
  | .agg parts => uptoBulkAll parts + 1
  | .iface _ d => uptoBulk d + 1
  | .map entries => uptoBulkEntries entries + 1
  | .held _ => 1
def uptoBulkAll {H : Type} : List (DataW H) → Nat
  | [] => 0
  | d :: r => uptoBulk d + uptoBulkAll r
def uptoBulkEntries {H : Type} : List (Lit × DataW H) → Nat
  | [] => 0
  | x :: r => uptoBulkEntry x + uptoBulkEntries r
def uptoBulkEntry {H : Type} : Lit × DataW H → Nat
  | (.string bytes, d) => bytes.length + uptoBulk d + 1
  | (_, d) => uptoBulk d + 1
 end
def uptoSmall : (H : Type) → List (DataW H) → Bool := fun _ ds => decide (uptoBulkAll ds ≤ 1048576)
def OpenSpec.upto (s : _root_.Go.ChangeSpec) : _root_.Go.OpenSpec := { _root_.Go.OpenSpec.ofChange s with cond := some uptoSmall }

/-- 'annalslaw20.DmlApplies', WHERE WHAT IT READS IS OF BULK AT MOST 1048576: true; the input reads as it did. -/
def dmlAppliesUptoRow : OpenClaim := { program := "ytkfiiomdkljjnaa", sum := "b2693f5855ff0159e835687d36bcb6ae2b26f7ea957a16327381c5e43cabdf9f", func := "annals/annalslaw20.DmlApplies", spec := "dmlApplies", unfollowed := true, recurses := true, apart := false, narrowed := true }
def DmlAppliesUptoSaid : Prop := dmlAppliesUptoRow.holds Try.pinned (OpenSpec.upto dmlAppliesSpec)

/-- 'annalslaw20.DmlClashes', WHERE WHAT IT READS IS OF BULK AT MOST 1048576: true; the input reads as it did. -/
def dmlClashesUptoRow : OpenClaim := { program := "ytkfiiomdkljjnaa", sum := "b2693f5855ff0159e835687d36bcb6ae2b26f7ea957a16327381c5e43cabdf9f", func := "annals/annalslaw20.DmlClashes", spec := "dmlClashes", unfollowed := true, recurses := true, apart := false, narrowed := true }
def DmlClashesUptoSaid : Prop := dmlClashesUptoRow.holds Try.pinned (OpenSpec.upto dmlClashesSpec)

/-- 'annalslaw20.DmlChanges', WHERE WHAT IT READS IS OF BULK AT MOST 1048576: true; the input reads as it did. -/
def dmlChangesUptoRow : OpenClaim := { program := "ytkfiiomdkljjnaa", sum := "b2693f5855ff0159e835687d36bcb6ae2b26f7ea957a16327381c5e43cabdf9f", func := "annals/annalslaw20.DmlChanges", spec := "dmlChanges", unfollowed := true, recurses := true, loops := true, apart := false, narrowed := true }
def DmlChangesUptoSaid : Prop := dmlChangesUptoRow.holds Try.pinned (OpenSpec.upto dmlChangesSpec)

/-- 'annalslaw20.DmlOutside', WHERE WHAT IT READS IS OF BULK AT MOST 1048576: true; the input reads as it did. -/
def dmlOutsideUptoRow : OpenClaim := { program := "ytkfiiomdkljjnaa", sum := "b2693f5855ff0159e835687d36bcb6ae2b26f7ea957a16327381c5e43cabdf9f", func := "annals/annalslaw20.DmlOutside", spec := "dmlOutside", inPlace := ["internal/bytealg.abigen_runtime_cmpstring"], unfollowed := true, recurses := true, loops := true, apart := false, narrowed := true }
def DmlOutsideUptoSaid : Prop := dmlOutsideUptoRow.holds Try.pinned (OpenSpec.upto dmlOutsideSpec)

end Rows
end Go.Proofs.Ytkfiiomdkljjnaa
