/-
  The sort's closure over changes compares their slots; the sort of a row of changes.
  Conditions: as each theorem states them.
-/
import Derived.Test.YtoiipfcmkogcfaaWg
namespace Go.Proofs.Ytoiipfcmkogcfaa
open Go.RowKit Go.Lib Go.Sort Go.Shelf

theorem drewN_grow (w : World) (n : Nat) (os : Array Obj) : (grow w os).drewN n = grow (w.drewN n) os := rfl

theorem cells_agg (x : Dl) : Value.agg x.cells.toArray = .agg #[.int .i64 x.kind, .int .i64 x.wagon, .int .i64 x.rr, .int .i64 x.rn, .int .i64 x.part, .int .i64 x.payer, .int .i64 x.payee, .int .i64 x.month, .int .i64 x.amount] := rfl

set_option maxHeartbeats 1000000 in
theorem closure_any (x y : Dl) (w : World) :
    Calls Try.prog 27 (#[.agg x.cells.toArray, .agg y.cells.toArray] ++ #[]) w
      fun e w' => e = .returned (.int .i64 (cmpD x y)) ∧ ∃ q os', w' = grow (w.drewN q) os' := by
  change Calls Try.prog 27 #[.agg #[.int .i64 x.kind, .int .i64 x.wagon, .int .i64 x.rr, .int .i64 x.rn, .int .i64 x.part, .int .i64 x.payer, .int .i64 x.payee, .int .i64 x.month, .int .i64 x.amount], .agg #[.int .i64 y.kind, .int .i64 y.wagon, .int .i64 y.rr, .int .i64 y.rn, .int .i64 y.part, .int .i64 y.payer, .int .i64 y.payee, .int .i64 y.month, .int .i64 y.amount]] w _
  obtain ⟨r, hr⟩ : ∃ r, r = cmpD x y := ⟨_, rfl⟩
  have hcon := fun w' => compare_any x y w'
  change ∀ w', Calls Try.prog 28 _ w' fun e w'' => e = .returned (.int .i64 (cmpD x y)) ∧ _ at hcon
  rw [← hr] at hcon ⊢
  clear hr
  go_enter Try.func27, Try.ntmps27
  go_wp2_with fail
  refine (hcon _).mono ?_
  rintro e w1 ⟨rfl, q, os, rfl⟩
  go_wp2
  go_ret
  exact ⟨rfl, q, _, by rw [alloc_eq_grow, alloc_eq_grow, grow_grow, drewN_grow, grow_grow]⟩

theorem cmpLays27 (blk off size : Nat) (w : World) : CmpLays Try.prog 27 #[] Dl.cells 9 cmpD blk off size w :=
  fun _ _ _ _ x y => closure_any x y _

end Go.Proofs.Ytoiipfcmkogcfaa
