/-
  A ledger line: its slot and amount, and the cells behind them.
-/
import Derived.Test.YtcdfjnnkocmeeaaGreatDoorProg
import Derived.Test.YtcdfjnnkocmeeaaGreatDoorTypes
import Derived.StillTailTactics
namespace Go.Proofs.YtcdfjnnkocmeeaaGreatDoor
open Go.RowKit

/-- A line of a bill: its change, and the cells behind it. -/
structure Ln where
  d : Dl
  rest : List Value
def Ln.cells (x : Ln) : List Value := x.d.cells ++ x.rest
def Ln.ok (x : Ln) : Prop := x.rest.length = 35 ∧ (∀ v ∈ x.rest, v.oneCell' = true) ∧ ∀ n ∈ x.d.nums, (Lit.int .i64 n).wf = true

theorem Tryz.size44 : (Tryz.prog.info? 44).map (·.size) = some 44 := by kernel_rfl

end Go.Proofs.YtcdfjnnkocmeeaaGreatDoor
