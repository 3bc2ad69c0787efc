/-
  No cell of these rows narrows 'for every input' (looked for: loops, veiled, ifaces, maps, wideKeys, modest, calm, conditions, laid).
  DERIVED. THE GIVEN ROWS OF THIS SEAT. 8 by the template 'for every input the law returns true; each argument reads behind the call as it read before'; 0 by the template 'total and deterministic' (their statements: YtaonicdpeflbbaaTotals.lean).
  GIVEN WITH THE SEED: the statements are not yours to turn. If you find one false, say at which input.
  Laid BY PROGRAM, IN A SANDBOX (cutbox-rows.mjs): the forced cells as the released guide's own fill.sh prints them over the translation 4dcd890e7b940d17… (all of the seat's roots in one cut). By AI agents, Wed Nov 11 2026. No macro, syntax, notation, axiom, sorry.
-/
import Derived.Test.YtaonicdpeflbbaaChecked
import GoSem.Claim
import GoSem.ClaimJoined
import GoSem.ClaimMapViews
import Derived.JoinedTies
import Derived.KernelRfl
namespace Go.Proofs.Ytaonicdpeflbbaa
/- THE CELL 'sum', in the pinned program and in every row, IS THE sha256 OF THE DUMP (.gsa) THAT YtaonicdpeflbbaaProg.lean LOADS. Nothing in Lean hashes anything: it is a label: what it is worth is what the hold of that sum in a sandbox is worth. -/
noncomputable def Try.pinned : Pinned := { name := "ytaonicdpeflbbaa", sum := "4dcd890e7b940d17e4e9c08b1556194a74959f474427dc8e3f7b4d358824e2d3", checked := Try.checked }
namespace Rows
def none {H : Type} : Left H := { results := [], args := [] }

/-- 'wagonpoollaw23.DiffMatchesReference': WHATEVER THE INPUT: true; the input reads as it did. -/
def diffMatchesReferenceSpec : ChangeSpec := { name := "diffMatchesReference", fn := fun _ => fun
  | [d1, d2] => { results := [.lit (.bool true)], args := [d1, d2] }
  | _ => none }
def diffMatchesReferenceRow : OpenClaim := { program := "ytaonicdpeflbbaa", sum := "4dcd890e7b940d17e4e9c08b1556194a74959f474427dc8e3f7b4d358824e2d3", func := "wagonpool/wagonpoollaw23.DiffMatchesReference", spec := "diffMatchesReference", unfollowed := true, recurses := true, apart := false }
def DiffMatchesReferenceSaid : Prop := diffMatchesReferenceRow.holds Try.pinned (OpenSpec.ofChange diffMatchesReferenceSpec)

/-- ITS FALSE NEIGHBOUR: 'it returns false'. Refute it at one input. -/
def diffMatchesReferenceWrong : ChangeSpec := { name := "diffMatchesReference", fn := fun _ => fun
  | [d1, d2] => { results := [.lit (.bool false)], args := [d1, d2] }
  | _ => none }
def DiffMatchesReferenceWrongFalsely : Prop := diffMatchesReferenceRow.holds Try.pinned (OpenSpec.ofChange diffMatchesReferenceWrong)

/-- 'wagonpoollaw23.DiffTightMatchesReference': WHATEVER THE INPUT: true; the input reads as it did. -/
def diffTightMatchesReferenceSpec : ChangeSpec := { name := "diffTightMatchesReference", fn := fun _ => fun
  | [d1, d2, d3, d4] => { results := [.lit (.bool true)], args := [d1, d2, d3, d4] }
  | _ => none }
def diffTightMatchesReferenceRow : OpenClaim := { program := "ytaonicdpeflbbaa", sum := "4dcd890e7b940d17e4e9c08b1556194a74959f474427dc8e3f7b4d358824e2d3", func := "wagonpool/wagonpoollaw23.DiffTightMatchesReference", spec := "diffTightMatchesReference", unfollowed := true, recurses := true, apart := false }
def DiffTightMatchesReferenceSaid : Prop := diffTightMatchesReferenceRow.holds Try.pinned (OpenSpec.ofChange diffTightMatchesReferenceSpec)

/-- ITS FALSE NEIGHBOUR: 'it returns false'. Refute it at one input. -/
def diffTightMatchesReferenceWrong : ChangeSpec := { name := "diffTightMatchesReference", fn := fun _ => fun
  | [d1, d2, d3, d4] => { results := [.lit (.bool false)], args := [d1, d2, d3, d4] }
  | _ => none }
def DiffTightMatchesReferenceWrongFalsely : Prop := diffTightMatchesReferenceRow.holds Try.pinned (OpenSpec.ofChange diffTightMatchesReferenceWrong)

/-- 'wagonpoollaw23.DiffDichotomy': WHATEVER THE INPUT: true; the input reads as it did. -/
def diffDichotomySpec : ChangeSpec := { name := "diffDichotomy", fn := fun _ => fun
  | [d1, d2] => { results := [.lit (.bool true)], args := [d1, d2] }
  | _ => none }
def diffDichotomyRow : OpenClaim := { program := "ytaonicdpeflbbaa", sum := "4dcd890e7b940d17e4e9c08b1556194a74959f474427dc8e3f7b4d358824e2d3", func := "wagonpool/wagonpoollaw23.DiffDichotomy", spec := "diffDichotomy", unfollowed := true, recurses := true, apart := false }
def DiffDichotomySaid : Prop := diffDichotomyRow.holds Try.pinned (OpenSpec.ofChange diffDichotomySpec)

/-- ITS FALSE NEIGHBOUR: 'it returns false'. Refute it at one input. -/
def diffDichotomyWrong : ChangeSpec := { name := "diffDichotomy", fn := fun _ => fun
  | [d1, d2] => { results := [.lit (.bool false)], args := [d1, d2] }
  | _ => none }
def DiffDichotomyWrongFalsely : Prop := diffDichotomyRow.holds Try.pinned (OpenSpec.ofChange diffDichotomyWrong)

/-- 'wagonpoollaw23.DiffGreatest': WHATEVER THE INPUT: true; the input reads as it did. -/
def diffGreatestSpec : ChangeSpec := { name := "diffGreatest", fn := fun _ => fun
  | [d1, d2, d3] => { results := [.lit (.bool true)], args := [d1, d2, d3] }
  | _ => none }
def diffGreatestRow : OpenClaim := { program := "ytaonicdpeflbbaa", sum := "4dcd890e7b940d17e4e9c08b1556194a74959f474427dc8e3f7b4d358824e2d3", func := "wagonpool/wagonpoollaw23.DiffGreatest", spec := "diffGreatest", unfollowed := true, recurses := true, apart := false }
def DiffGreatestSaid : Prop := diffGreatestRow.holds Try.pinned (OpenSpec.ofChange diffGreatestSpec)

/-- ITS FALSE NEIGHBOUR: 'it returns false'. Refute it at one input. -/
def diffGreatestWrong : ChangeSpec := { name := "diffGreatest", fn := fun _ => fun
  | [d1, d2, d3] => { results := [.lit (.bool false)], args := [d1, d2, d3] }
  | _ => none }
def DiffGreatestWrongFalsely : Prop := diffGreatestRow.holds Try.pinned (OpenSpec.ofChange diffGreatestWrong)

/-- 'wagonpoollaw23.DiffTightHolds': WHATEVER THE INPUT: true; the input reads as it did. -/
def diffTightHoldsSpec : ChangeSpec := { name := "diffTightHolds", fn := fun _ => fun
  | [d1, d2, d3, d4, d5] => { results := [.lit (.bool true)], args := [d1, d2, d3, d4, d5] }
  | _ => none }
def diffTightHoldsRow : OpenClaim := { program := "ytaonicdpeflbbaa", sum := "4dcd890e7b940d17e4e9c08b1556194a74959f474427dc8e3f7b4d358824e2d3", func := "wagonpool/wagonpoollaw23.DiffTightHolds", spec := "diffTightHolds", unfollowed := true, recurses := true, apart := false }
def DiffTightHoldsSaid : Prop := diffTightHoldsRow.holds Try.pinned (OpenSpec.ofChange diffTightHoldsSpec)

/-- ITS FALSE NEIGHBOUR: 'it returns false'. Refute it at one input. -/
def diffTightHoldsWrong : ChangeSpec := { name := "diffTightHolds", fn := fun _ => fun
  | [d1, d2, d3, d4, d5] => { results := [.lit (.bool false)], args := [d1, d2, d3, d4, d5] }
  | _ => none }
def DiffTightHoldsWrongFalsely : Prop := diffTightHoldsRow.holds Try.pinned (OpenSpec.ofChange diffTightHoldsWrong)

/-- 'wagonpoollaw23.DiffTightIsAttained': WHATEVER THE INPUT: true; the input reads as it did. -/
def diffTightIsAttainedSpec : ChangeSpec := { name := "diffTightIsAttained", fn := fun _ => fun
  | [d1, d2, d3, d4, d5] => { results := [.lit (.bool true)], args := [d1, d2, d3, d4, d5] }
  | _ => none }
def diffTightIsAttainedRow : OpenClaim := { program := "ytaonicdpeflbbaa", sum := "4dcd890e7b940d17e4e9c08b1556194a74959f474427dc8e3f7b4d358824e2d3", func := "wagonpool/wagonpoollaw23.DiffTightIsAttained", spec := "diffTightIsAttained", unfollowed := true, recurses := true, apart := false }
def DiffTightIsAttainedSaid : Prop := diffTightIsAttainedRow.holds Try.pinned (OpenSpec.ofChange diffTightIsAttainedSpec)

/-- ITS FALSE NEIGHBOUR: 'it returns false'. Refute it at one input. -/
def diffTightIsAttainedWrong : ChangeSpec := { name := "diffTightIsAttained", fn := fun _ => fun
  | [d1, d2, d3, d4, d5] => { results := [.lit (.bool false)], args := [d1, d2, d3, d4, d5] }
  | _ => none }
def DiffTightIsAttainedWrongFalsely : Prop := diffTightIsAttainedRow.holds Try.pinned (OpenSpec.ofChange diffTightIsAttainedWrong)

/-- 'wagonpoollaw23.DiffOrder': WHATEVER THE INPUT: true; the input reads as it did. -/
def diffOrderSpec : ChangeSpec := { name := "diffOrder", fn := fun _ => fun
  | [d1, d2, d3, d4] => { results := [.lit (.bool true)], args := [d1, d2, d3, d4] }
  | _ => none }
def diffOrderRow : OpenClaim := { program := "ytaonicdpeflbbaa", sum := "4dcd890e7b940d17e4e9c08b1556194a74959f474427dc8e3f7b4d358824e2d3", func := "wagonpool/wagonpoollaw23.DiffOrder", spec := "diffOrder", unfollowed := true, recurses := true, apart := false }
def DiffOrderSaid : Prop := diffOrderRow.holds Try.pinned (OpenSpec.ofChange diffOrderSpec)

/-- ITS FALSE NEIGHBOUR: 'it returns false'. Refute it at one input. -/
def diffOrderWrong : ChangeSpec := { name := "diffOrder", fn := fun _ => fun
  | [d1, d2, d3, d4] => { results := [.lit (.bool false)], args := [d1, d2, d3, d4] }
  | _ => none }
def DiffOrderWrongFalsely : Prop := diffOrderRow.holds Try.pinned (OpenSpec.ofChange diffOrderWrong)

/-- 'wagonpoollaw23.DiffFurtherBound': WHATEVER THE INPUT: true; the input reads as it did. -/
def diffFurtherBoundSpec : ChangeSpec := { name := "diffFurtherBound", fn := fun _ => fun
  | [d1, d2, d3, d4, d5] => { results := [.lit (.bool true)], args := [d1, d2, d3, d4, d5] }
  | _ => none }
def diffFurtherBoundRow : OpenClaim := { program := "ytaonicdpeflbbaa", sum := "4dcd890e7b940d17e4e9c08b1556194a74959f474427dc8e3f7b4d358824e2d3", func := "wagonpool/wagonpoollaw23.DiffFurtherBound", spec := "diffFurtherBound", unfollowed := true, recurses := true, apart := false }
def DiffFurtherBoundSaid : Prop := diffFurtherBoundRow.holds Try.pinned (OpenSpec.ofChange diffFurtherBoundSpec)

/-- ITS FALSE NEIGHBOUR: 'it returns false'. Refute it at one input. -/
def diffFurtherBoundWrong : ChangeSpec := { name := "diffFurtherBound", fn := fun _ => fun
  | [d1, d2, d3, d4, d5] => { results := [.lit (.bool false)], args := [d1, d2, d3, d4, d5] }
  | _ => none }
def DiffFurtherBoundWrongFalsely : Prop := diffFurtherBoundRow.holds Try.pinned (OpenSpec.ofChange diffFurtherBoundWrong)

/- THE SECOND FORM. 'bulk': how many values and letters a reading holds, each counted each time it is reached (what is shared counts as often as it is met; a slice's spare places count too). A statement '..UptoSaid' is the law's where the arguments, and the package variables that the reading takes, are together of bulk at most 1048576: NARROWER than '..Said'. Prove '..Said' where nothing that the law and all that it calls make is longer than what came in: it says more and counts as full. Else prove '..UptoSaid'. A law counts once. -/
mutual
def uptoBulk {H : Type} : DataW H → Nat
  | .lit (.string bytes) => bytes.length + 1
  | .lit _ => 1
  | .nil => 1
  | .ptr d => uptoBulk d + 1
  | .slice elems spare => uptoBulkAll elems + uptoBulkAll spare + 1
  | .agg parts => uptoBulkAll parts + 1
  | .iface _ d => uptoBulk d + 1
  | .map entries => uptoBulkEntries entries + 1
  | .held _ => 1
def uptoBulkAll {H : Type} : List (DataW H) → Nat
  | [] => 0
  | d :: r => uptoBulk d + uptoBulkAll r
def uptoBulkEntries {H : Type} : List (Lit × DataW H) → Nat
  | [] => 0
  | x :: r => uptoBulkEntry x + uptoBulkEntries r
def uptoBulkEntry {H : Type} : Lit × DataW H → Nat
  | (.string bytes, d) => bytes.length + uptoBulk d + 1
  | (_, d) => uptoBulk d + 1
 end
def uptoSmall : (H : Type) → List (DataW H) → Bool := fun _ ds => decide (uptoBulkAll ds ≤ 1048576)
def OpenSpec.upto (s : _root_.Go.ChangeSpec) : _root_.Go.OpenSpec := { _root_.Go.OpenSpec.ofChange s with cond := some uptoSmall }

/-- 'wagonpoollaw23.DiffMatchesReference', WHERE WHAT IT READS IS OF BULK AT MOST 1048576: true; the input reads as it did. -/
def diffMatchesReferenceUptoRow : OpenClaim := { program := "ytaonicdpeflbbaa", sum := "4dcd890e7b940d17e4e9c08b1556194a74959f474427dc8e3f7b4d358824e2d3", func := "wagonpool/wagonpoollaw23.DiffMatchesReference", spec := "diffMatchesReference", unfollowed := true, recurses := true, apart := false, narrowed := true }
def DiffMatchesReferenceUptoSaid : Prop := diffMatchesReferenceUptoRow.holds Try.pinned (OpenSpec.upto diffMatchesReferenceSpec)

/-- 'wagonpoollaw23.DiffTightMatchesReference', WHERE WHAT IT READS IS OF BULK AT MOST 1048576: true; the input reads as it did. -/
def diffTightMatchesReferenceUptoRow : OpenClaim := { program := "ytaonicdpeflbbaa", sum := "4dcd890e7b940d17e4e9c08b1556194a74959f474427dc8e3f7b4d358824e2d3", func := "wagonpool/wagonpoollaw23.DiffTightMatchesReference", spec := "diffTightMatchesReference", unfollowed := true, recurses := true, apart := false, narrowed := true }
def DiffTightMatchesReferenceUptoSaid : Prop := diffTightMatchesReferenceUptoRow.holds Try.pinned (OpenSpec.upto diffTightMatchesReferenceSpec)

/-- 'wagonpoollaw23.DiffDichotomy', WHERE WHAT IT READS IS OF BULK AT MOST 1048576: true; the input reads as it did. -/
def diffDichotomyUptoRow : OpenClaim := { program := "ytaonicdpeflbbaa", sum := "4dcd890e7b940d17e4e9c08b1556194a74959f474427dc8e3f7b4d358824e2d3", func := "wagonpool/wagonpoollaw23.DiffDichotomy", spec := "diffDichotomy", unfollowed := true, recurses := true, apart := false, narrowed := true }
def DiffDichotomyUptoSaid : Prop := diffDichotomyUptoRow.holds Try.pinned (OpenSpec.upto diffDichotomySpec)

/-- 'wagonpoollaw23.DiffGreatest', WHERE WHAT IT READS IS OF BULK AT MOST 1048576: true; the input reads as it did. -/
def diffGreatestUptoRow : OpenClaim := { program := "ytaonicdpeflbbaa", sum := "4dcd890e7b940d17e4e9c08b1556194a74959f474427dc8e3f7b4d358824e2d3", func := "wagonpool/wagonpoollaw23.DiffGreatest", spec := "diffGreatest", unfollowed := true, recurses := true, apart := false, narrowed := true }
def DiffGreatestUptoSaid : Prop := diffGreatestUptoRow.holds Try.pinned (OpenSpec.upto diffGreatestSpec)

/-- 'wagonpoollaw23.DiffTightHolds', WHERE WHAT IT READS IS OF BULK AT MOST 1048576: true; the input reads as it did. -/
def diffTightHoldsUptoRow : OpenClaim := { program := "ytaonicdpeflbbaa", sum := "4dcd890e7b940d17e4e9c08b1556194a74959f474427dc8e3f7b4d358824e2d3", func := "wagonpool/wagonpoollaw23.DiffTightHolds", spec := "diffTightHolds", unfollowed := true, recurses := true, apart := false, narrowed := true }
def DiffTightHoldsUptoSaid : Prop := diffTightHoldsUptoRow.holds Try.pinned (OpenSpec.upto diffTightHoldsSpec)

/-- 'wagonpoollaw23.DiffTightIsAttained', WHERE WHAT IT READS IS OF BULK AT MOST 1048576: true; the input reads as it did. -/
def diffTightIsAttainedUptoRow : OpenClaim := { program := "ytaonicdpeflbbaa", sum := "4dcd890e7b940d17e4e9c08b1556194a74959f474427dc8e3f7b4d358824e2d3", func := "wagonpool/wagonpoollaw23.DiffTightIsAttained", spec := "diffTightIsAttained", unfollowed := true, recurses := true, apart := false, narrowed := true }
def DiffTightIsAttainedUptoSaid : Prop := diffTightIsAttainedUptoRow.holds Try.pinned (OpenSpec.upto diffTightIsAttainedSpec)

/-- 'wagonpoollaw23.DiffOrder', WHERE WHAT IT READS IS OF BULK AT MOST 1048576: true; the input reads as it did. -/
def diffOrderUptoRow : OpenClaim := { program := "ytaonicdpeflbbaa", sum := "4dcd890e7b940d17e4e9c08b1556194a74959f474427dc8e3f7b4d358824e2d3", func := "wagonpool/wagonpoollaw23.DiffOrder", spec := "diffOrder", unfollowed := true, recurses := true, apart := false, narrowed := true }
def DiffOrderUptoSaid : Prop := diffOrderUptoRow.holds Try.pinned (OpenSpec.upto diffOrderSpec)

/-- 'wagonpoollaw23.DiffFurtherBound', WHERE WHAT IT READS IS OF BULK AT MOST 1048576: true; the input reads as it did. -/
def diffFurtherBoundUptoRow : OpenClaim := { program := "ytaonicdpeflbbaa", sum := "4dcd890e7b940d17e4e9c08b1556194a74959f474427dc8e3f7b4d358824e2d3", func := "wagonpool/wagonpoollaw23.DiffFurtherBound", spec := "diffFurtherBound", unfollowed := true, recurses := true, apart := false, narrowed := true }
def DiffFurtherBoundUptoSaid : Prop := diffFurtherBoundUptoRow.holds Try.pinned (OpenSpec.upto diffFurtherBoundSpec)

end Rows
end Go.Proofs.Ytaonicdpeflbbaa
