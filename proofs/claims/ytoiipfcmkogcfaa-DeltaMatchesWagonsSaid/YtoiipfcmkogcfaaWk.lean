/-
  Diff's closure adds a list of lines into the map of slots.
  Conditions: as each theorem states them.
-/
import Derived.Test.YtoiipfcmkogcfaaWj
import Derived.Test.YtoiipfcmkogcfaaTypes
import Derived.StillTailTactics
namespace Go.Proofs.Ytoiipfcmkogcfaa
open Go.RowKit

/-- A line of a bill: its change, and the cells behind it. -/
structure Ln where
  d : Dl
  rest : List Value
def Ln.cells (x : Ln) : List Value := x.d.cells ++ x.rest
def Ln.ok (x : Ln) : Prop := x.rest.length = 35 ∧ (∀ v ∈ x.rest, v.oneCell' = true) ∧ ∀ n ∈ x.d.nums, (Lit.int .i64 n).wf = true

theorem Try.size68 : (Try.prog.info? 68).map (·.size) = some 44 := by kernel_rfl

end Go.Proofs.Ytoiipfcmkogcfaa
