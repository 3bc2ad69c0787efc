/-
  Two changes compared in the model: the nine numbers, one by one.
  Conditions: none.
-/
import Derived.Test.YtoiipfcmkogcfaaProg
import Derived.Test.YtoiipfcmkogcfaaTypes
namespace Go.Proofs.Ytoiipfcmkogcfaa
open Go.RowKit

theorem Try.size70 : (Try.prog.info? 70).map (·.size) = some 9 := by kernel_rfl

theorem eq70 (x y : Dl) (w : World) : (Op.equalIn 10000 70 (.agg #[.int .i64 x.kind, .int .i64 x.wagon, .int .i64 x.rr, .int .i64 x.rn, .int .i64 x.part, .int .i64 x.payer, .int .i64 x.payee, .int .i64 x.month, .int .i64 x.amount]) (.agg #[.int .i64 y.kind, .int .i64 y.wagon, .int .i64 y.rr, .int .i64 y.rn, .int .i64 y.part, .int .i64 y.payer, .int .i64 y.payee, .int .i64 y.month, .int .i64 y.amount])).run Try.prog w = .ok (decide (x = y)) w := by
  have hxy : (x = y) ↔ (x.kind = y.kind ∧ x.wagon = y.wagon ∧ x.rr = y.rr ∧ x.rn = y.rn ∧ x.part = y.part ∧ x.payer = y.payer ∧ x.payee = y.payee ∧ x.month = y.month ∧ x.amount = y.amount) := ⟨by rintro rfl; simp, fun h => Dl.nums_inj (by simp [Dl.nums, h])⟩
  simp only [hxy]
  clear hxy
  have e70 := fun xs ys => run_equalIn_struct (P := Try.prog) w 9999 70 xs ys (by kernel_rfl) (by kernel_rfl)
  simp only [Program.fieldsOf, Try.underlying70, Op.eqFields, Nat.reduceAdd] at e70
  rw [e70]
  have s62 : Try.t62.size = 5 := by kernel_rfl
  have s53 : Try.t53.size = 2 := by kernel_rfl
  simp [go_sem, part, sizeOf, isAgg, s62, s53]
  clear e70 s62 s53
  repeat' split
  all_goals simp_all

end Go.Proofs.Ytoiipfcmkogcfaa
