/-
  No cell of these rows narrows 'for every input' (looked for: loops, veiled, ifaces, maps, wideKeys, modest, calm, conditions, laid).
  DERIVED. THE GIVEN ROWS OF THIS SEAT. 7 by the template 'for every input the law returns true; each argument reads behind the call as it read before'; 0 by the template 'total and deterministic' (their statements: YtmkbclnhopoiiaaTotals.lean).
  GIVEN WITH THE SEED: the statements are not yours to turn. If you find one false, say at which input.
  Laid BY PROGRAM, IN A SANDBOX (cutbox-rows.mjs): the forced cells as the released guide's own fill.sh prints them over the translation 3c8b537c3e284f6d… (all of the seat's roots in one cut). By AI agents, Wed Nov 11 2026. No macro, syntax, notation, axiom, sorry.
-/
import Derived.Test.YtmkbclnhopoiiaaChecked
import GoSem.Claim
import GoSem.ClaimJoined
import GoSem.ClaimMapViews
import Derived.JoinedTies
import Derived.KernelRfl
namespace Go.Proofs.Ytmkbclnhopoiiaa
/- THE CELL 'sum', in the pinned program and in every row, IS THE sha256 OF THE DUMP (.gsa) THAT YtmkbclnhopoiiaaProg.lean LOADS. Nothing in Lean hashes anything: it is a label: what it is worth is what the hold of that sum in a sandbox is worth. -/
noncomputable def Try.pinned : Pinned := { name := "ytmkbclnhopoiiaa", sum := "3c8b537c3e284f6d8847ee82bca99696a087e27ce3a0adb5c2283ebc798c920a", checked := Try.checked }
namespace Rows
def none {H : Type} : Left H := { results := [], args := [] }

/-- 'annalslaw13.BagNormal': WHATEVER THE INPUT: true; the input reads as it did. -/
def bagNormalSpec : ChangeSpec := { name := "bagNormal", fn := fun _ => fun
  | [d1, d2, d3] => { results := [.lit (.bool true)], args := [d1, d2, d3] }
  | _ => none }
def bagNormalRow : OpenClaim := { program := "ytmkbclnhopoiiaa", sum := "3c8b537c3e284f6d8847ee82bca99696a087e27ce3a0adb5c2283ebc798c920a", func := "annals/annalslaw13.BagNormal", spec := "bagNormal", inPlace := ["internal/bytealg.abigen_runtime_cmpstring"], unfollowed := true, recurses := true, apart := false }
def BagNormalSaid : Prop := bagNormalRow.holds Try.pinned (OpenSpec.ofChange bagNormalSpec)

/-- ITS FALSE NEIGHBOUR: 'it returns false'. Refute it at one input. -/
def bagNormalWrong : ChangeSpec := { name := "bagNormal", fn := fun _ => fun
  | [d1, d2, d3] => { results := [.lit (.bool false)], args := [d1, d2, d3] }
  | _ => none }
def BagNormalWrongFalsely : Prop := bagNormalRow.holds Try.pinned (OpenSpec.ofChange bagNormalWrong)

/-- 'annalslaw13.BagCoalesces': WHATEVER THE INPUT: true; the input reads as it did. -/
def bagCoalescesSpec : ChangeSpec := { name := "bagCoalesces", fn := fun _ => fun
  | [d1, d2] => { results := [.lit (.bool true)], args := [d1, d2] }
  | _ => none }
def bagCoalescesRow : OpenClaim := { program := "ytmkbclnhopoiiaa", sum := "3c8b537c3e284f6d8847ee82bca99696a087e27ce3a0adb5c2283ebc798c920a", func := "annals/annalslaw13.BagCoalesces", spec := "bagCoalesces", inPlace := ["internal/bytealg.abigen_runtime_cmpstring"], unfollowed := true, recurses := true, apart := false }
def BagCoalescesSaid : Prop := bagCoalescesRow.holds Try.pinned (OpenSpec.ofChange bagCoalescesSpec)

/-- ITS FALSE NEIGHBOUR: 'it returns false'. Refute it at one input. -/
def bagCoalescesWrong : ChangeSpec := { name := "bagCoalesces", fn := fun _ => fun
  | [d1, d2] => { results := [.lit (.bool false)], args := [d1, d2] }
  | _ => none }
def BagCoalescesWrongFalsely : Prop := bagCoalescesRow.holds Try.pinned (OpenSpec.ofChange bagCoalescesWrong)

/-- 'annalslaw13.BagClips': WHATEVER THE INPUT: true; the input reads as it did. -/
def bagClipsSpec : ChangeSpec := { name := "bagClips", fn := fun _ => fun
  | [d1, d2, d3] => { results := [.lit (.bool true)], args := [d1, d2, d3] }
  | _ => none }
def bagClipsRow : OpenClaim := { program := "ytmkbclnhopoiiaa", sum := "3c8b537c3e284f6d8847ee82bca99696a087e27ce3a0adb5c2283ebc798c920a", func := "annals/annalslaw13.BagClips", spec := "bagClips", inPlace := ["internal/bytealg.abigen_runtime_cmpstring"], unfollowed := true, recurses := true, apart := false }
def BagClipsSaid : Prop := bagClipsRow.holds Try.pinned (OpenSpec.ofChange bagClipsSpec)

/-- ITS FALSE NEIGHBOUR: 'it returns false'. Refute it at one input. -/
def bagClipsWrong : ChangeSpec := { name := "bagClips", fn := fun _ => fun
  | [d1, d2, d3] => { results := [.lit (.bool false)], args := [d1, d2, d3] }
  | _ => none }
def BagClipsWrongFalsely : Prop := bagClipsRow.holds Try.pinned (OpenSpec.ofChange bagClipsWrong)

/-- 'annalslaw13.BagLaws': WHATEVER THE INPUT: true; the input reads as it did. -/
def bagLawsSpec : ChangeSpec := { name := "bagLaws", fn := fun _ => fun
  | [d1, d2] => { results := [.lit (.bool true)], args := [d1, d2] }
  | _ => none }
def bagLawsRow : OpenClaim := { program := "ytmkbclnhopoiiaa", sum := "3c8b537c3e284f6d8847ee82bca99696a087e27ce3a0adb5c2283ebc798c920a", func := "annals/annalslaw13.BagLaws", spec := "bagLaws", inPlace := ["internal/bytealg.abigen_runtime_cmpstring"], unfollowed := true, recurses := true, apart := false }
def BagLawsSaid : Prop := bagLawsRow.holds Try.pinned (OpenSpec.ofChange bagLawsSpec)

/-- ITS FALSE NEIGHBOUR: 'it returns false'. Refute it at one input. -/
def bagLawsWrong : ChangeSpec := { name := "bagLaws", fn := fun _ => fun
  | [d1, d2] => { results := [.lit (.bool false)], args := [d1, d2] }
  | _ => none }
def BagLawsWrongFalsely : Prop := bagLawsRow.holds Try.pinned (OpenSpec.ofChange bagLawsWrong)

/-- 'annalslaw13.BagJoins': WHATEVER THE INPUT: true; the input reads as it did. -/
def bagJoinsSpec : ChangeSpec := { name := "bagJoins", fn := fun _ => fun
  | [d1, d2, d3] => { results := [.lit (.bool true)], args := [d1, d2, d3] }
  | _ => none }
def bagJoinsRow : OpenClaim := { program := "ytmkbclnhopoiiaa", sum := "3c8b537c3e284f6d8847ee82bca99696a087e27ce3a0adb5c2283ebc798c920a", func := "annals/annalslaw13.BagJoins", spec := "bagJoins", inPlace := ["internal/bytealg.abigen_runtime_cmpstring"], unfollowed := true, recurses := true, apart := false }
def BagJoinsSaid : Prop := bagJoinsRow.holds Try.pinned (OpenSpec.ofChange bagJoinsSpec)

/-- ITS FALSE NEIGHBOUR: 'it returns false'. Refute it at one input. -/
def bagJoinsWrong : ChangeSpec := { name := "bagJoins", fn := fun _ => fun
  | [d1, d2, d3] => { results := [.lit (.bool false)], args := [d1, d2, d3] }
  | _ => none }
def BagJoinsWrongFalsely : Prop := bagJoinsRow.holds Try.pinned (OpenSpec.ofChange bagJoinsWrong)

/-- 'annalslaw13.BagSlices': WHATEVER THE INPUT: true; the input reads as it did. -/
def bagSlicesSpec : ChangeSpec := { name := "bagSlices", fn := fun _ => fun
  | [d1, d2, d3] => { results := [.lit (.bool true)], args := [d1, d2, d3] }
  | _ => none }
def bagSlicesRow : OpenClaim := { program := "ytmkbclnhopoiiaa", sum := "3c8b537c3e284f6d8847ee82bca99696a087e27ce3a0adb5c2283ebc798c920a", func := "annals/annalslaw13.BagSlices", spec := "bagSlices", inPlace := ["internal/bytealg.abigen_runtime_cmpstring"], unfollowed := true, recurses := true, apart := false }
def BagSlicesSaid : Prop := bagSlicesRow.holds Try.pinned (OpenSpec.ofChange bagSlicesSpec)

/-- ITS FALSE NEIGHBOUR: 'it returns false'. Refute it at one input. -/
def bagSlicesWrong : ChangeSpec := { name := "bagSlices", fn := fun _ => fun
  | [d1, d2, d3] => { results := [.lit (.bool false)], args := [d1, d2, d3] }
  | _ => none }
def BagSlicesWrongFalsely : Prop := bagSlicesRow.holds Try.pinned (OpenSpec.ofChange bagSlicesWrong)

/-- 'annalslaw13.BagCounts': WHATEVER THE INPUT: true; the input reads as it did. -/
def bagCountsSpec : ChangeSpec := { name := "bagCounts", fn := fun _ => fun
  | [d1, d2, d3] => { results := [.lit (.bool true)], args := [d1, d2, d3] }
  | _ => none }
def bagCountsRow : OpenClaim := { program := "ytmkbclnhopoiiaa", sum := "3c8b537c3e284f6d8847ee82bca99696a087e27ce3a0adb5c2283ebc798c920a", func := "annals/annalslaw13.BagCounts", spec := "bagCounts", inPlace := ["internal/bytealg.abigen_runtime_cmpstring", "math/bits.Add64"], unfollowed := true, recurses := true, apart := false }
def BagCountsSaid : Prop := bagCountsRow.holds Try.pinned (OpenSpec.ofChange bagCountsSpec)

/-- ITS FALSE NEIGHBOUR: 'it returns false'. Refute it at one input. -/
def bagCountsWrong : ChangeSpec := { name := "bagCounts", fn := fun _ => fun
  | [d1, d2, d3] => { results := [.lit (.bool false)], args := [d1, d2, d3] }
  | _ => none }
def BagCountsWrongFalsely : Prop := bagCountsRow.holds Try.pinned (OpenSpec.ofChange bagCountsWrong)

/- THE SECOND FORM. 'bulk': how many values and letters a reading holds, each counted each time it is reached (what is shared counts as often as it is met; a slice's spare places count too). A statement '..UptoSaid' is the law's where the arguments, and the package variables that the reading takes, are together of bulk at most 1048576: NARROWER than '..Said'. Prove '..Said' where nothing that the law and all that it calls make is longer than what came in: it says more and counts as full. Else prove '..UptoSaid'. A law counts once. -/
mutual
def uptoBulk {H : Type} : DataW H → Nat
  | .lit (.string bytes) => bytes.length + 1
  | .lit _ => 1
  | .nil => 1
  | .ptr d => uptoBulk d + 1
  | .slice elems spare => uptoBulkAll elems + uptoBulkAll spare + 1
  | .agg parts => uptoBulkAll parts + 1
  | .iface _ d => uptoBulk d + 1
  | .map entries => uptoBulkEntries entries + 1
  | .held _ => 1
def uptoBulkAll {H : Type} : List (DataW H) → Nat
  | [] => 0
  | d :: r => uptoBulk d + uptoBulkAll r
def uptoBulkEntries {H : Type} : List (Lit × DataW H) → Nat
  | [] => 0
  | x :: r => uptoBulkEntry x + uptoBulkEntries r
def uptoBulkEntry {H : Type} : Lit × DataW H → Nat
  | (.string bytes, d) => bytes.length + uptoBulk d + 1
  | (_, d) => uptoBulk d + 1
 end
def uptoSmall : (H : Type) → List (DataW H) → Bool := fun _ ds => decide (uptoBulkAll ds ≤ 1048576)
def OpenSpec.upto (s : _root_.Go.ChangeSpec) : _root_.Go.OpenSpec := { _root_.Go.OpenSpec.ofChange s with cond := some uptoSmall }

/-- 'annalslaw13.BagNormal', WHERE WHAT IT READS IS OF BULK AT MOST 1048576: true; the input reads as it did. -/
def bagNormalUptoRow : OpenClaim := { program := "ytmkbclnhopoiiaa", sum := "3c8b537c3e284f6d8847ee82bca99696a087e27ce3a0adb5c2283ebc798c920a", func := "annals/annalslaw13.BagNormal", spec := "bagNormal", inPlace := ["internal/bytealg.abigen_runtime_cmpstring"], unfollowed := true, recurses := true, apart := false, narrowed := true }
def BagNormalUptoSaid : Prop := bagNormalUptoRow.holds Try.pinned (OpenSpec.upto bagNormalSpec)

/-- 'annalslaw13.BagCoalesces', WHERE WHAT IT READS IS OF BULK AT MOST 1048576: true; the input reads as it did. -/
def bagCoalescesUptoRow : OpenClaim := { program := "ytmkbclnhopoiiaa", sum := "3c8b537c3e284f6d8847ee82bca99696a087e27ce3a0adb5c2283ebc798c920a", func := "annals/annalslaw13.BagCoalesces", spec := "bagCoalesces", inPlace := ["internal/bytealg.abigen_runtime_cmpstring"], unfollowed := true, recurses := true, apart := false, narrowed := true }
def BagCoalescesUptoSaid : Prop := bagCoalescesUptoRow.holds Try.pinned (OpenSpec.upto bagCoalescesSpec)

/-- 'annalslaw13.BagClips', WHERE WHAT IT READS IS OF BULK AT MOST 1048576: true; the input reads as it did. -/
def bagClipsUptoRow : OpenClaim := { program := "ytmkbclnhopoiiaa", sum := "3c8b537c3e284f6d8847ee82bca99696a087e27ce3a0adb5c2283ebc798c920a", func := "annals/annalslaw13.BagClips", spec := "bagClips", inPlace := ["internal/bytealg.abigen_runtime_cmpstring"], unfollowed := true, recurses := true, apart := false, narrowed := true }
def BagClipsUptoSaid : Prop := bagClipsUptoRow.holds Try.pinned (OpenSpec.upto bagClipsSpec)

/-- 'annalslaw13.BagLaws', WHERE WHAT IT READS IS OF BULK AT MOST 1048576: true; the input reads as it did. -/
def bagLawsUptoRow : OpenClaim := { program := "ytmkbclnhopoiiaa", sum := "3c8b537c3e284f6d8847ee82bca99696a087e27ce3a0adb5c2283ebc798c920a", func := "annals/annalslaw13.BagLaws", spec := "bagLaws", inPlace := ["internal/bytealg.abigen_runtime_cmpstring"], unfollowed := true, recurses := true, apart := false, narrowed := true }
def BagLawsUptoSaid : Prop := bagLawsUptoRow.holds Try.pinned (OpenSpec.upto bagLawsSpec)

/-- 'annalslaw13.BagJoins', WHERE WHAT IT READS IS OF BULK AT MOST 1048576: true; the input reads as it did. -/
def bagJoinsUptoRow : OpenClaim := { program := "ytmkbclnhopoiiaa", sum := "3c8b537c3e284f6d8847ee82bca99696a087e27ce3a0adb5c2283ebc798c920a", func := "annals/annalslaw13.BagJoins", spec := "bagJoins", inPlace := ["internal/bytealg.abigen_runtime_cmpstring"], unfollowed := true, recurses := true, apart := false, narrowed := true }
def BagJoinsUptoSaid : Prop := bagJoinsUptoRow.holds Try.pinned (OpenSpec.upto bagJoinsSpec)

/-- 'annalslaw13.BagSlices', WHERE WHAT IT READS IS OF BULK AT MOST 1048576: true; the input reads as it did. -/
def bagSlicesUptoRow : OpenClaim := { program := "ytmkbclnhopoiiaa", sum := "3c8b537c3e284f6d8847ee82bca99696a087e27ce3a0adb5c2283ebc798c920a", func := "annals/annalslaw13.BagSlices", spec := "bagSlices", inPlace := ["internal/bytealg.abigen_runtime_cmpstring"], unfollowed := true, recurses := true, apart := false, narrowed := true }
def BagSlicesUptoSaid : Prop := bagSlicesUptoRow.holds Try.pinned (OpenSpec.upto bagSlicesSpec)

/-- 'annalslaw13.BagCounts', WHERE WHAT IT READS IS OF BULK AT MOST 1048576: true; the input reads as it did. -/
def bagCountsUptoRow : OpenClaim := { program := "ytmkbclnhopoiiaa", sum := "3c8b537c3e284f6d8847ee82bca99696a087e27ce3a0adb5c2283ebc798c920a", func := "annals/annalslaw13.BagCounts", spec := "bagCounts", inPlace := ["internal/bytealg.abigen_runtime_cmpstring", "math/bits.Add64"], unfollowed := true, recurses := true, apart := false, narrowed := true }
def BagCountsUptoSaid : Prop := bagCountsUptoRow.holds Try.pinned (OpenSpec.upto bagCountsSpec)

end Rows
end Go.Proofs.Ytmkbclnhopoiiaa
