/-
  The reference's change that adds a line.
  Conditions: as each theorem states them.
-/
import Derived.Test.YtoiipfcmkogcfaaWk
import Derived.Test.YtoiipfcmkogcfaaFresh
import Derived.Test.YtoiipfcmkogcfaaEq
namespace Go.Proofs.Ytoiipfcmkogcfaa
open Go.RowKit Go.Lib

def Dl.with (d : Dl) (n : Int) : Dl := { d with amount := n }

set_option maxRecDepth 100000 in
set_option maxHeartbeats 1000000 in
theorem change_any (x : Ln) (n : Int) (w : World) : Calls Try.prog 30 #[.agg x.cells.toArray, .int .i64 n] w fun e w' => e = .returned (.agg (x.d.with n).cells.toArray) ∧ Below w.heap.size w w' := by
  have e0 : x.cells[0]? = some (.int .i64 x.d.kind) := rfl
  have e1 : x.cells[1]? = some (.int .i64 x.d.wagon) := rfl
  have e2 : x.cells[2]? = some (.int .i64 x.d.rr) := rfl
  have e3 : x.cells[3]? = some (.int .i64 x.d.rn) := rfl
  have e4 : x.cells[4]? = some (.int .i64 x.d.part) := rfl
  have e5 : x.cells[5]? = some (.int .i64 x.d.payer) := rfl
  have e6 : x.cells[6]? = some (.int .i64 x.d.payee) := rfl
  have e7 : x.cells[7]? = some (.int .i64 x.d.month) := rfl
  go_enter Try.func30, Try.ntmps30
  go_wp2
  refine bodyPost_ret (results_cell_row rfl _ _ (w.heap.size + 1) 70 (x.d.with n).cells.toArray (0, 0) _ rfl (by
    have := Row.new1 w (Obj.cells x.cells.toArray 68) 70 (x.d.with n).cells.toArray
    exact this) Try.underlying70 rfl Try.size70) rfl ⟨rfl, ?_⟩
  exact ((Below.refl _ _).alloc (Nat.le_refl _) _).alloc (by simp) _

end Go.Proofs.Ytoiipfcmkogcfaa
