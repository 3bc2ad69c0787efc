/-
  Applying the changes between two bills to the balances of the first one yields exactly the balances of the second one.
  Conditions: none.
-/
import Derived.Test.YtoiipfcmkogcfaaEx
import Derived.Test.YtoiipfcmkogcfaaRows
import Derived.Test.YtoiipfcmkogcfaaArg
import Derived.Test.YtoiipfcmkogcfaaAsz
import Derived.WalkKit
import Derived.ProofKit
import Derived.OpenShut
import Derived.ShutString
import Derived.ChangeOld
import Derived.Below
import Derived.Lib.SmallJoins
namespace Go.Proofs.Ytoiipfcmkogcfaa
open Go.ChangeShapes Go.WideShapes Go.ChangeAt Go.RowKit Go.Joins

theorem deltaExact_own : ownKnob Try.prog.godebug = none := by kernel_rfl
theorem deltaExact_laidOut : laidOutB Try.prog = true := by kernel_rfl

set_option maxRecDepth 100000 in
theorem deltaExact_lifted (os : Os) (started : os.Started) (H : Type) (enc : TypeId × Value → H) :
    ReturnsInHanded {} Try.checked os 7 .any (Rows.deltaExactSpec.pre6 enc Try.prog Try.f7 Rows.deltaExactRow.domain false) (Rows.deltaExactSpec.post enc Try.prog Try.f7 false true false false) := by
  refine returnsInHanded_of_change_sized (C := Try.checked) deltaExact_own started (by kernel_rfl) Try.func7
    (ChangeSpec.witness6 (enc := enc) (C := Try.checked) false ⟨#[], #[.slice none 0 0, .slice none 0 0], []⟩ 8 (by kernel_rfl) (by kernel_rfl) (by kernel_rfl) (by kernel_rfl)) ?_
  intro W base args ds gs before hval0 hW _ hsz0 _
  have hsz : (DataW.weightsEach Try.prog (Try.f7.params.toList ++ Rows.deltaExactSpec.plain.varTypes Try.prog) (ds ++ gs)).all (· ≤ reachBytes) = true := hsz0
  clear hsz0
  have hval : ∀ (j : Nat) t v, Try.f7.params[j]? = some t → args[j]? = some v → Value.okWide Try.prog W .any base t v := hval0
  have hW' := hW
  obtain ⟨p, q, hA0, hV, rfl, _, _⟩ := hW
  have hA : DataW.TrodAll enc Try.prog W 0 (fun _ => true) true Try.f7.params.toList args.toList ds p := hA0
  rw [Try.params7] at hA hval hsz
  obtain ⟨v0, vs0, d0, ds0, p0, q0, hargs, rfl, rfl, h0, r0⟩ := trodAll_cons hA
  obtain ⟨v1, vs1, d1, ds1, p1, q1, rfl, rfl, rfl, h1, r1⟩ := trodAll_cons r0
  obtain ⟨rfl, rfl, rfl⟩ := trodAll_nil r1
  obtain rfl : args = #[v0, v1] := by cases args; simp_all
  obtain ⟨rfl, rfl⟩ := trodVars_none hV
  obtain ⟨a0, len0, cap0, rfl⟩ := okWide_slice Try.underlying22 (hval 0 22 v0 rfl rfl)
  have k0 := h0
  have lt0 : ∀ x ∈ p0, x.block < W.heap.size := by obtain ⟨m, hm⟩ := k0; exact DataW.trod_lt m _ _ _ hm
  have reach0 : len0 * 128 ≤ 140737488351232 := by
    obtain ⟨fuel, hf⟩ := k0
    exact reach_of hsz (j := 0) rfl rfl Try.underlying22 (by kernel_rfl) (by simpa [Value.cells] using hf)
  obtain ⟨z0, rfl, m0, e0, ok0⟩ : ∃ l, l.length = len0 ∧ len0 ≤ maxLen ∧ RdE Ln.cells 44 W W.heap.size a0 l ∧ ∀ x ∈ l, x.ok := by
    obtain ⟨fuel, hf⟩ := h0
    exact open_lines (by simpa [Value.cells] using hf)
  obtain ⟨a1, len1, cap1, rfl⟩ := okWide_slice Try.underlying22 (hval 1 22 v1 rfl rfl)
  have k1 := h1
  have lt1 : ∀ x ∈ p1, x.block < W.heap.size := by obtain ⟨m, hm⟩ := k1; exact DataW.trod_lt m _ _ _ hm
  have reach1 : len1 * 128 ≤ 140737488351232 := by
    obtain ⟨fuel, hf⟩ := k1
    exact reach_of hsz (j := 1) rfl rfl Try.underlying22 (by kernel_rfl) (by simpa [Value.cells] using hf)
  obtain ⟨z1, rfl, m1, e1, ok1⟩ : ∃ l, l.length = len1 ∧ len1 ≤ maxLen ∧ RdE Ln.cells 44 W W.heap.size a1 l ∧ ∀ x ∈ l, x.ok := by
    obtain ⟨fuel, hf⟩ := h1
    exact open_lines (by simpa [Value.cells] using hf)
  clear hA0 hval0
  refine (exact_any z0 z1 a0 a1 cap0 cap1 W e0 e1 ok0 ok1).mono fun e W' ⟨he, bel⟩ => ?_
  subst he
  exact ⟨_, rfl, _, _, _, [], _, [], hW', trodAll_mk1 (shut_bool Try.underlying4 _), (trodAll_cons_mk (Below.trod deltaExact_laidOut (by kernel_rfl) (of_decide_eq_true (by kernel_rfl)) k0 bel lt0) (trodAll_cons_mk (Below.trod deltaExact_laidOut (by kernel_rfl) (of_decide_eq_true (by kernel_rfl)) k1 bel lt1) trodAll_mk0)), rfl, bel.frame _, fun h => by cases h⟩

theorem deltaExact_holds : Rows.DeltaExactSaid :=
  OpenClaim.holds_of_wide 7 Try.f7 rfl rfl rfl rfl rfl rfl rfl ⟨rfl, rfl, rfl, rfl, rfl⟩ rfl rfl rfl rfl rfl (by kernel_rfl) Try.func7 (by kernel_rfl)
    (of_decide_eq_true (by kernel_rfl)) (by unfold Func.isWrapper; rw [if_neg (of_decide_eq_false (by kernel_rfl))]; exact ⟨rfl, rfl⟩)
    (fun os started H enc _ => deltaExact_lifted os started H enc)

#print axioms deltaExact_holds
end Go.Proofs.Ytoiipfcmkogcfaa
