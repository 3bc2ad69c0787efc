/-
  No cell of these rows narrows 'for every input' (looked for: loops, veiled, ifaces, maps, wideKeys, modest, calm, conditions, laid).
  DERIVED. THE GIVEN ROWS OF THIS SEAT. 5 by the template 'for every input the law returns true; each argument reads behind the call as it read before'; 0 by the template 'total and deterministic' (their statements: YtoiipfcmkogcfaaTotals.lean).
  GIVEN WITH THE SEED: the statements are not yours to turn. If you find one false, say at which input.
  Laid BY PROGRAM, IN A SANDBOX (cutbox-rows.mjs): the forced cells as the released guide's own fill.sh prints them over the translation c4f9ef2df8c35615… (all of the seat's roots in one cut). By AI agents, Wed Nov 11 2026. No macro, syntax, notation, axiom, sorry.
-/
import Derived.Test.YtoiipfcmkogcfaaChecked
import GoSem.Claim
import GoSem.ClaimJoined
import GoSem.ClaimMapViews
import Derived.JoinedTies
import Derived.KernelRfl
namespace Go.Proofs.Ytoiipfcmkogcfaa
/- THE CELL 'sum', in the pinned program and in every row, IS THE sha256 OF THE DUMP (.gsa) THAT YtoiipfcmkogcfaaProg.lean LOADS. Nothing in Lean hashes anything: it is a label: what it is worth is what the hold of that sum in a sandbox is worth. -/
noncomputable def Try.pinned : Pinned := { name := "ytoiipfcmkogcfaa", sum := "c4f9ef2df8c356157ff558422f3fe58f42645b0cd45993c0b3e2baa36e97e89c", checked := Try.checked }
namespace Rows
def none {H : Type} : Left H := { results := [], args := [] }

/-- 'wagonpoollaw33.DeltaMatches': WHATEVER THE INPUT: true; the input reads as it did. -/
def deltaMatchesSpec : ChangeSpec := { name := "deltaMatches", fn := fun _ => fun
  | [d1, d2, d3, d4] => { results := [.lit (.bool true)], args := [d1, d2, d3, d4] }
  | _ => none }
def deltaMatchesRow : OpenClaim := { program := "ytoiipfcmkogcfaa", sum := "c4f9ef2df8c356157ff558422f3fe58f42645b0cd45993c0b3e2baa36e97e89c", func := "wagonpool/wagonpoollaw33.DeltaMatches", spec := "deltaMatches", inPlace := ["math/bits.Add64"], unfollowed := true, recurses := true, plainKeys := false, apart := false }
def DeltaMatchesSaid : Prop := deltaMatchesRow.holds Try.pinned (OpenSpec.ofChange deltaMatchesSpec)

/-- ITS FALSE NEIGHBOUR: 'it returns false'. Refute it at one input. -/
def deltaMatchesWrong : ChangeSpec := { name := "deltaMatches", fn := fun _ => fun
  | [d1, d2, d3, d4] => { results := [.lit (.bool false)], args := [d1, d2, d3, d4] }
  | _ => none }
def DeltaMatchesWrongFalsely : Prop := deltaMatchesRow.holds Try.pinned (OpenSpec.ofChange deltaMatchesWrong)

/-- 'wagonpoollaw33.DeltaMatchesWagons': WHATEVER THE INPUT: true; the input reads as it did. -/
def deltaMatchesWagonsSpec : ChangeSpec := { name := "deltaMatchesWagons", fn := fun _ => fun
  | [d1, d2, d3] => { results := [.lit (.bool true)], args := [d1, d2, d3] }
  | _ => none }
def deltaMatchesWagonsRow : OpenClaim := { program := "ytoiipfcmkogcfaa", sum := "c4f9ef2df8c356157ff558422f3fe58f42645b0cd45993c0b3e2baa36e97e89c", func := "wagonpool/wagonpoollaw33.DeltaMatchesWagons", spec := "deltaMatchesWagons", inPlace := ["math/bits.Add64"], unfollowed := true, recurses := true, plainKeys := false, apart := false }
def DeltaMatchesWagonsSaid : Prop := deltaMatchesWagonsRow.holds Try.pinned (OpenSpec.ofChange deltaMatchesWagonsSpec)

/-- ITS FALSE NEIGHBOUR: 'it returns false'. Refute it at one input. -/
def deltaMatchesWagonsWrong : ChangeSpec := { name := "deltaMatchesWagons", fn := fun _ => fun
  | [d1, d2, d3] => { results := [.lit (.bool false)], args := [d1, d2, d3] }
  | _ => none }
def DeltaMatchesWagonsWrongFalsely : Prop := deltaMatchesWagonsRow.holds Try.pinned (OpenSpec.ofChange deltaMatchesWagonsWrong)

/-- 'wagonpoollaw33.DeltaTurns': WHATEVER THE INPUT: true; the input reads as it did. -/
def deltaTurnsSpec : ChangeSpec := { name := "deltaTurns", fn := fun _ => fun
  | [d1, d2, d3] => { results := [.lit (.bool true)], args := [d1, d2, d3] }
  | _ => none }
def deltaTurnsRow : OpenClaim := { program := "ytoiipfcmkogcfaa", sum := "c4f9ef2df8c356157ff558422f3fe58f42645b0cd45993c0b3e2baa36e97e89c", func := "wagonpool/wagonpoollaw33.DeltaTurns", spec := "deltaTurns", inPlace := ["math/bits.Add64"], unfollowed := true, recurses := true, plainKeys := false, apart := false }
def DeltaTurnsSaid : Prop := deltaTurnsRow.holds Try.pinned (OpenSpec.ofChange deltaTurnsSpec)

/-- ITS FALSE NEIGHBOUR: 'it returns false'. Refute it at one input. -/
def deltaTurnsWrong : ChangeSpec := { name := "deltaTurns", fn := fun _ => fun
  | [d1, d2, d3] => { results := [.lit (.bool false)], args := [d1, d2, d3] }
  | _ => none }
def DeltaTurnsWrongFalsely : Prop := deltaTurnsRow.holds Try.pinned (OpenSpec.ofChange deltaTurnsWrong)

/-- 'wagonpoollaw33.DeltaKeepsSum': WHATEVER THE INPUT: true; the input reads as it did. -/
def deltaKeepsSumSpec : ChangeSpec := { name := "deltaKeepsSum", fn := fun _ => fun
  | [d1, d2] => { results := [.lit (.bool true)], args := [d1, d2] }
  | _ => none }
def deltaKeepsSumRow : OpenClaim := { program := "ytoiipfcmkogcfaa", sum := "c4f9ef2df8c356157ff558422f3fe58f42645b0cd45993c0b3e2baa36e97e89c", func := "wagonpool/wagonpoollaw33.DeltaKeepsSum", spec := "deltaKeepsSum", inPlace := ["math/bits.Add64"], unfollowed := true, recurses := true, plainKeys := false, apart := false }
def DeltaKeepsSumSaid : Prop := deltaKeepsSumRow.holds Try.pinned (OpenSpec.ofChange deltaKeepsSumSpec)

/-- ITS FALSE NEIGHBOUR: 'it returns false'. Refute it at one input. -/
def deltaKeepsSumWrong : ChangeSpec := { name := "deltaKeepsSum", fn := fun _ => fun
  | [d1, d2] => { results := [.lit (.bool false)], args := [d1, d2] }
  | _ => none }
def DeltaKeepsSumWrongFalsely : Prop := deltaKeepsSumRow.holds Try.pinned (OpenSpec.ofChange deltaKeepsSumWrong)

/-- 'wagonpoollaw33.DeltaExact': WHATEVER THE INPUT: true; the input reads as it did. -/
def deltaExactSpec : ChangeSpec := { name := "deltaExact", fn := fun _ => fun
  | [d1, d2] => { results := [.lit (.bool true)], args := [d1, d2] }
  | _ => none }
def deltaExactRow : OpenClaim := { program := "ytoiipfcmkogcfaa", sum := "c4f9ef2df8c356157ff558422f3fe58f42645b0cd45993c0b3e2baa36e97e89c", func := "wagonpool/wagonpoollaw33.DeltaExact", spec := "deltaExact", inPlace := ["math/bits.Add64"], unfollowed := true, recurses := true, plainKeys := false, apart := false }
def DeltaExactSaid : Prop := deltaExactRow.holds Try.pinned (OpenSpec.ofChange deltaExactSpec)

/-- ITS FALSE NEIGHBOUR: 'it returns false'. Refute it at one input. -/
def deltaExactWrong : ChangeSpec := { name := "deltaExact", fn := fun _ => fun
  | [d1, d2] => { results := [.lit (.bool false)], args := [d1, d2] }
  | _ => none }
def DeltaExactWrongFalsely : Prop := deltaExactRow.holds Try.pinned (OpenSpec.ofChange deltaExactWrong)

/- THE SECOND FORM. 'bulk': how many values and letters a reading holds, each counted each time it is reached (what is shared counts as often as it is met; a slice's spare places count too). A statement '..UptoSaid' is the law's where the arguments, and the package variables that the reading takes, are together of bulk at most 1048576: NARROWER than '..Said'. Prove '..Said' where nothing that the law and all that it calls make is longer than what came in: it says more and counts as full. Else prove '..UptoSaid'. A law counts once. -/
mutual
def uptoBulk {H : Type} : DataW H → Nat
  | .lit (.string bytes) => bytes.length + 1
  | .lit _ => 1
  | .nil => 1
  | .ptr d => uptoBulk d + 1
  | .slice elems spare => uptoBulkAll elems + uptoBulkAll spare + 1
  | .agg parts => uptoBulkAll parts + 1
  | .iface _ d => uptoBulk d + 1
  | .map entries => uptoBulkEntries entries + 1
  | .held _ => 1
def uptoBulkAll {H : Type} : List (DataW H) → Nat
  | [] => 0
  | d :: r => uptoBulk d + uptoBulkAll r
def uptoBulkEntries {H : Type} : List (Lit × DataW H) → Nat
  | [] => 0
  | x :: r => uptoBulkEntry x + uptoBulkEntries r
def uptoBulkEntry {H : Type} : Lit × DataW H → Nat
  | (.string bytes, d) => bytes.length + uptoBulk d + 1
  | (_, d) => uptoBulk d + 1
 end
def uptoSmall : (H : Type) → List (DataW H) → Bool := fun _ ds => decide (uptoBulkAll ds ≤ 1048576)
def OpenSpec.upto (s : _root_.Go.ChangeSpec) : _root_.Go.OpenSpec := { _root_.Go.OpenSpec.ofChange s with cond := some uptoSmall }

/-- 'wagonpoollaw33.DeltaMatches', WHERE WHAT IT READS IS OF BULK AT MOST 1048576: true; the input reads as it did. -/
def deltaMatchesUptoRow : OpenClaim := { program := "ytoiipfcmkogcfaa", sum := "c4f9ef2df8c356157ff558422f3fe58f42645b0cd45993c0b3e2baa36e97e89c", func := "wagonpool/wagonpoollaw33.DeltaMatches", spec := "deltaMatches", inPlace := ["math/bits.Add64"], unfollowed := true, recurses := true, plainKeys := false, apart := false, narrowed := true }
def DeltaMatchesUptoSaid : Prop := deltaMatchesUptoRow.holds Try.pinned (OpenSpec.upto deltaMatchesSpec)

/-- 'wagonpoollaw33.DeltaMatchesWagons', WHERE WHAT IT READS IS OF BULK AT MOST 1048576: true; the input reads as it did. -/
def deltaMatchesWagonsUptoRow : OpenClaim := { program := "ytoiipfcmkogcfaa", sum := "c4f9ef2df8c356157ff558422f3fe58f42645b0cd45993c0b3e2baa36e97e89c", func := "wagonpool/wagonpoollaw33.DeltaMatchesWagons", spec := "deltaMatchesWagons", inPlace := ["math/bits.Add64"], unfollowed := true, recurses := true, plainKeys := false, apart := false, narrowed := true }
def DeltaMatchesWagonsUptoSaid : Prop := deltaMatchesWagonsUptoRow.holds Try.pinned (OpenSpec.upto deltaMatchesWagonsSpec)

/-- 'wagonpoollaw33.DeltaTurns', WHERE WHAT IT READS IS OF BULK AT MOST 1048576: true; the input reads as it did. -/
def deltaTurnsUptoRow : OpenClaim := { program := "ytoiipfcmkogcfaa", sum := "c4f9ef2df8c356157ff558422f3fe58f42645b0cd45993c0b3e2baa36e97e89c", func := "wagonpool/wagonpoollaw33.DeltaTurns", spec := "deltaTurns", inPlace := ["math/bits.Add64"], unfollowed := true, recurses := true, plainKeys := false, apart := false, narrowed := true }
def DeltaTurnsUptoSaid : Prop := deltaTurnsUptoRow.holds Try.pinned (OpenSpec.upto deltaTurnsSpec)

/-- 'wagonpoollaw33.DeltaKeepsSum', WHERE WHAT IT READS IS OF BULK AT MOST 1048576: true; the input reads as it did. -/
def deltaKeepsSumUptoRow : OpenClaim := { program := "ytoiipfcmkogcfaa", sum := "c4f9ef2df8c356157ff558422f3fe58f42645b0cd45993c0b3e2baa36e97e89c", func := "wagonpool/wagonpoollaw33.DeltaKeepsSum", spec := "deltaKeepsSum", inPlace := ["math/bits.Add64"], unfollowed := true, recurses := true, plainKeys := false, apart := false, narrowed := true }
def DeltaKeepsSumUptoSaid : Prop := deltaKeepsSumUptoRow.holds Try.pinned (OpenSpec.upto deltaKeepsSumSpec)

/-- 'wagonpoollaw33.DeltaExact', WHERE WHAT IT READS IS OF BULK AT MOST 1048576: true; the input reads as it did. -/
def deltaExactUptoRow : OpenClaim := { program := "ytoiipfcmkogcfaa", sum := "c4f9ef2df8c356157ff558422f3fe58f42645b0cd45993c0b3e2baa36e97e89c", func := "wagonpool/wagonpoollaw33.DeltaExact", spec := "deltaExact", inPlace := ["math/bits.Add64"], unfollowed := true, recurses := true, plainKeys := false, apart := false, narrowed := true }
def DeltaExactUptoSaid : Prop := deltaExactUptoRow.holds Try.pinned (OpenSpec.upto deltaExactSpec)

end Rows
end Go.Proofs.Ytoiipfcmkogcfaa
