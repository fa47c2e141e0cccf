/-
  No cell of these rows narrows 'for every input' (looked for: loops, veiled, ifaces, maps, wideKeys, modest, calm, conditions, laid).
  DERIVED. THE GIVEN ROWS OF THIS SEAT. 6 by the template 'for every input the law returns true; each argument reads behind the call as it read before'; 0 by the template 'total and deterministic' (their statements: YtgodbpamppcfnaaTotals.lean).
  GIVEN WITH THE SEED: the statements are not yours to turn. If you find one false, say at which input.
  Laid BY PROGRAM, IN A SANDBOX (cutbox-rows.mjs): the forced cells as the released guide's own fill.sh prints them over the translation b33963e5c5f404dc… (all of the seat's roots in one cut). By AI agents, Wed Nov 11 2026. No macro, syntax, notation, axiom, sorry.
-/
import Derived.Test.YtgodbpamppcfnaaChecked
import GoSem.Claim
import GoSem.ClaimJoined
import GoSem.ClaimMapViews
import Derived.JoinedTies
import Derived.KernelRfl
namespace Go.Proofs.Ytgodbpamppcfnaa
/- THE CELL 'sum', in the pinned program and in every row, IS THE sha256 OF THE DUMP (.gsa) THAT YtgodbpamppcfnaaProg.lean LOADS. Nothing in Lean hashes anything: it is a label: what it is worth is what the hold of that sum in a sandbox is worth. -/
noncomputable def Try.pinned : Pinned := { name := "ytgodbpamppcfnaa", sum := "b33963e5c5f404dc8c86bdaec41fea797438acf663e0f279ecef587874fa0691", checked := Try.checked }
namespace Rows
def none {H : Type} : Left H := { results := [], args := [] }

/-- 'annalslaw16.CatalogBack': WHATEVER THE INPUT: true; the input reads as it did. -/
def catalogBackSpec : ChangeSpec := { name := "catalogBack", fn := fun _ => fun
  | [d] => { results := [.lit (.bool true)], args := [d] }
  | _ => none }
def catalogBackRow : OpenClaim := { program := "ytgodbpamppcfnaa", sum := "b33963e5c5f404dc8c86bdaec41fea797438acf663e0f279ecef587874fa0691", func := "annals/annalslaw16.CatalogBack", spec := "catalogBack", unfollowed := true, recurses := true, apart := false }
def CatalogBackSaid : Prop := catalogBackRow.holds Try.pinned (OpenSpec.ofChange catalogBackSpec)

/-- ITS FALSE NEIGHBOUR: 'it returns false'. Refute it at one input. -/
def catalogBackWrong : ChangeSpec := { name := "catalogBack", fn := fun _ => fun
  | [d] => { results := [.lit (.bool false)], args := [d] }
  | _ => none }
def CatalogBackWrongFalsely : Prop := catalogBackRow.holds Try.pinned (OpenSpec.ofChange catalogBackWrong)

/-- 'annalslaw16.CatalogRows': WHATEVER THE INPUT: true; the input reads as it did. -/
def catalogRowsSpec : ChangeSpec := { name := "catalogRows", fn := fun _ => fun
  | [d1, d2, d3] => { results := [.lit (.bool true)], args := [d1, d2, d3] }
  | _ => none }
def catalogRowsRow : OpenClaim := { program := "ytgodbpamppcfnaa", sum := "b33963e5c5f404dc8c86bdaec41fea797438acf663e0f279ecef587874fa0691", func := "annals/annalslaw16.CatalogRows", spec := "catalogRows", unfollowed := true, recurses := true, apart := false }
def CatalogRowsSaid : Prop := catalogRowsRow.holds Try.pinned (OpenSpec.ofChange catalogRowsSpec)

/-- ITS FALSE NEIGHBOUR: 'it returns false'. Refute it at one input. -/
def catalogRowsWrong : ChangeSpec := { name := "catalogRows", fn := fun _ => fun
  | [d1, d2, d3] => { results := [.lit (.bool false)], args := [d1, d2, d3] }
  | _ => none }
def CatalogRowsWrongFalsely : Prop := catalogRowsRow.holds Try.pinned (OpenSpec.ofChange catalogRowsWrong)

/-- 'annalslaw16.CatalogKeeps': WHATEVER THE INPUT: true; the input reads as it did. -/
def catalogKeepsSpec : ChangeSpec := { name := "catalogKeeps", fn := fun _ => fun
  | [d] => { results := [.lit (.bool true)], args := [d] }
  | _ => none }
def catalogKeepsRow : OpenClaim := { program := "ytgodbpamppcfnaa", sum := "b33963e5c5f404dc8c86bdaec41fea797438acf663e0f279ecef587874fa0691", func := "annals/annalslaw16.CatalogKeeps", spec := "catalogKeeps", unfollowed := true, recurses := true, apart := false }
def CatalogKeepsSaid : Prop := catalogKeepsRow.holds Try.pinned (OpenSpec.ofChange catalogKeepsSpec)

/-- ITS FALSE NEIGHBOUR: 'it returns false'. Refute it at one input. -/
def catalogKeepsWrong : ChangeSpec := { name := "catalogKeeps", fn := fun _ => fun
  | [d] => { results := [.lit (.bool false)], args := [d] }
  | _ => none }
def CatalogKeepsWrongFalsely : Prop := catalogKeepsRow.holds Try.pinned (OpenSpec.ofChange catalogKeepsWrong)

/-- 'annalslaw16.CatalogFull': WHATEVER THE INPUT: true; the input reads as it did. -/
def catalogFullSpec : ChangeSpec := { name := "catalogFull", fn := fun _ => fun
  | [d] => { results := [.lit (.bool true)], args := [d] }
  | _ => none }
def catalogFullRow : OpenClaim := { program := "ytgodbpamppcfnaa", sum := "b33963e5c5f404dc8c86bdaec41fea797438acf663e0f279ecef587874fa0691", func := "annals/annalslaw16.CatalogFull", spec := "catalogFull", unfollowed := true, recurses := true, apart := false }
def CatalogFullSaid : Prop := catalogFullRow.holds Try.pinned (OpenSpec.ofChange catalogFullSpec)

/-- ITS FALSE NEIGHBOUR: 'it returns false'. Refute it at one input. -/
def catalogFullWrong : ChangeSpec := { name := "catalogFull", fn := fun _ => fun
  | [d] => { results := [.lit (.bool false)], args := [d] }
  | _ => none }
def CatalogFullWrongFalsely : Prop := catalogFullRow.holds Try.pinned (OpenSpec.ofChange catalogFullWrong)

/-- 'annalslaw16.CatalogPlays': WHATEVER THE INPUT: true; the input reads as it did. -/
def catalogPlaysSpec : ChangeSpec := { name := "catalogPlays", fn := fun _ => fun
  | [d] => { results := [.lit (.bool true)], args := [d] }
  | _ => none }
def catalogPlaysRow : OpenClaim := { program := "ytgodbpamppcfnaa", sum := "b33963e5c5f404dc8c86bdaec41fea797438acf663e0f279ecef587874fa0691", func := "annals/annalslaw16.CatalogPlays", spec := "catalogPlays", unfollowed := true, recurses := true, apart := false }
def CatalogPlaysSaid : Prop := catalogPlaysRow.holds Try.pinned (OpenSpec.ofChange catalogPlaysSpec)

/-- ITS FALSE NEIGHBOUR: 'it returns false'. Refute it at one input. -/
def catalogPlaysWrong : ChangeSpec := { name := "catalogPlays", fn := fun _ => fun
  | [d] => { results := [.lit (.bool false)], args := [d] }
  | _ => none }
def CatalogPlaysWrongFalsely : Prop := catalogPlaysRow.holds Try.pinned (OpenSpec.ofChange catalogPlaysWrong)

/-- 'annalslaw16.CatalogIndexes': WHATEVER THE INPUT: true; the input reads as it did. -/
def catalogIndexesSpec : ChangeSpec := { name := "catalogIndexes", fn := fun _ => fun
  | [d] => { results := [.lit (.bool true)], args := [d] }
  | _ => none }
def catalogIndexesRow : OpenClaim := { program := "ytgodbpamppcfnaa", sum := "b33963e5c5f404dc8c86bdaec41fea797438acf663e0f279ecef587874fa0691", func := "annals/annalslaw16.CatalogIndexes", spec := "catalogIndexes", unfollowed := true, recurses := true, apart := false }
def CatalogIndexesSaid : Prop := catalogIndexesRow.holds Try.pinned (OpenSpec.ofChange catalogIndexesSpec)

/-- ITS FALSE NEIGHBOUR: 'it returns false'. Refute it at one input. -/
def catalogIndexesWrong : ChangeSpec := { name := "catalogIndexes", fn := fun _ => fun
  | [d] => { results := [.lit (.bool false)], args := [d] }
  | _ => none }
def CatalogIndexesWrongFalsely : Prop := catalogIndexesRow.holds Try.pinned (OpenSpec.ofChange catalogIndexesWrong)

/- THE SECOND FORM. 'bulk': how many values and letters a reading holds, each counted each time it is reached (what is shared counts as often as it is met; a slice's spare places count too). A statement '..UptoSaid' is the law's where the arguments, and the package variables that the reading takes, are together of bulk at most 1048576: NARROWER than '..Said'. Prove '..Said' where nothing that the law and all that it calls make is longer than what came in: it says more and counts as full. Else prove '..UptoSaid'. A law counts once. -/
mutual
def uptoBulk {H : Type} : DataW H → Nat
  | .lit (.string bytes) => bytes.length + 1
  | .lit _ => 1
  | .nil => 1
  | .ptr d => uptoBulk d + 1
  | .slice elems spare => uptoBulkAll elems + uptoBulkAll spare + 1
  | .agg parts => uptoBulkAll parts + 1
  | .iface _ d => uptoBulk d + 1
  | .map entries => uptoBulkEntries entries + 1
  | .held _ => 1
def uptoBulkAll {H : Type} : List (DataW H) → Nat
  | [] => 0
  | d :: r => uptoBulk d + uptoBulkAll r
def uptoBulkEntries {H : Type} : List (Lit × DataW H) → Nat
  | [] => 0
  | x :: r => uptoBulkEntry x + uptoBulkEntries r
def uptoBulkEntry {H : Type} : Lit × DataW H → Nat
  | (.string bytes, d) => bytes.length + uptoBulk d + 1
  | (_, d) => uptoBulk d + 1
 end
def uptoSmall : (H : Type) → List (DataW H) → Bool := fun _ ds => decide (uptoBulkAll ds ≤ 1048576)
def OpenSpec.upto (s : _root_.Go.ChangeSpec) : _root_.Go.OpenSpec := { _root_.Go.OpenSpec.ofChange s with cond := some uptoSmall }

/-- 'annalslaw16.CatalogBack', WHERE WHAT IT READS IS OF BULK AT MOST 1048576: true; the input reads as it did. -/
def catalogBackUptoRow : OpenClaim := { program := "ytgodbpamppcfnaa", sum := "b33963e5c5f404dc8c86bdaec41fea797438acf663e0f279ecef587874fa0691", func := "annals/annalslaw16.CatalogBack", spec := "catalogBack", unfollowed := true, recurses := true, apart := false, narrowed := true }
def CatalogBackUptoSaid : Prop := catalogBackUptoRow.holds Try.pinned (OpenSpec.upto catalogBackSpec)

/-- 'annalslaw16.CatalogRows', WHERE WHAT IT READS IS OF BULK AT MOST 1048576: true; the input reads as it did. -/
def catalogRowsUptoRow : OpenClaim := { program := "ytgodbpamppcfnaa", sum := "b33963e5c5f404dc8c86bdaec41fea797438acf663e0f279ecef587874fa0691", func := "annals/annalslaw16.CatalogRows", spec := "catalogRows", unfollowed := true, recurses := true, apart := false, narrowed := true }
def CatalogRowsUptoSaid : Prop := catalogRowsUptoRow.holds Try.pinned (OpenSpec.upto catalogRowsSpec)

/-- 'annalslaw16.CatalogKeeps', WHERE WHAT IT READS IS OF BULK AT MOST 1048576: true; the input reads as it did. -/
def catalogKeepsUptoRow : OpenClaim := { program := "ytgodbpamppcfnaa", sum := "b33963e5c5f404dc8c86bdaec41fea797438acf663e0f279ecef587874fa0691", func := "annals/annalslaw16.CatalogKeeps", spec := "catalogKeeps", unfollowed := true, recurses := true, apart := false, narrowed := true }
def CatalogKeepsUptoSaid : Prop := catalogKeepsUptoRow.holds Try.pinned (OpenSpec.upto catalogKeepsSpec)

/-- 'annalslaw16.CatalogFull', WHERE WHAT IT READS IS OF BULK AT MOST 1048576: true; the input reads as it did. -/
def catalogFullUptoRow : OpenClaim := { program := "ytgodbpamppcfnaa", sum := "b33963e5c5f404dc8c86bdaec41fea797438acf663e0f279ecef587874fa0691", func := "annals/annalslaw16.CatalogFull", spec := "catalogFull", unfollowed := true, recurses := true, apart := false, narrowed := true }
def CatalogFullUptoSaid : Prop := catalogFullUptoRow.holds Try.pinned (OpenSpec.upto catalogFullSpec)

/-- 'annalslaw16.CatalogPlays', WHERE WHAT IT READS IS OF BULK AT MOST 1048576: true; the input reads as it did. -/
def catalogPlaysUptoRow : OpenClaim := { program := "ytgodbpamppcfnaa", sum := "b33963e5c5f404dc8c86bdaec41fea797438acf663e0f279ecef587874fa0691", func := "annals/annalslaw16.CatalogPlays", spec := "catalogPlays", unfollowed := true, recurses := true, apart := false, narrowed := true }
def CatalogPlaysUptoSaid : Prop := catalogPlaysUptoRow.holds Try.pinned (OpenSpec.upto catalogPlaysSpec)

/-- 'annalslaw16.CatalogIndexes', WHERE WHAT IT READS IS OF BULK AT MOST 1048576: true; the input reads as it did. -/
def catalogIndexesUptoRow : OpenClaim := { program := "ytgodbpamppcfnaa", sum := "b33963e5c5f404dc8c86bdaec41fea797438acf663e0f279ecef587874fa0691", func := "annals/annalslaw16.CatalogIndexes", spec := "catalogIndexes", unfollowed := true, recurses := true, apart := false, narrowed := true }
def CatalogIndexesUptoSaid : Prop := catalogIndexesUptoRow.holds Try.pinned (OpenSpec.upto catalogIndexesSpec)

end Rows
end Go.Proofs.Ytgodbpamppcfnaa
