/-
  For all pools and lists of reports, Wagons returns what the specification says; the order of both lists does not matter, and exchanging both changes nothing.
  Conditions: none.
-/
import Derived.Test.YtoiipfcmkogcfaaMw
import Derived.Test.YtoiipfcmkogcfaaRows
import Derived.Test.YtoiipfcmkogcfaaArq
import Derived.Test.YtoiipfcmkogcfaaChecked
import Derived.WalkKit
import Derived.ProofKit
import Derived.OpenShut
import Derived.ShutString
import Derived.ChangeOld
import Derived.Below
import Derived.Lib.SmallJoins
namespace Go.Proofs.Ytoiipfcmkogcfaa
open Go.ChangeShapes Go.WideShapes Go.ChangeAt Go.RowKit Go.Joins Go.Deep

theorem deltaMatchesWagons_own : ownKnob Try.prog.godebug = none := by kernel_rfl
theorem deltaMatchesWagons_laidOut : laidOutB Try.prog = true := by kernel_rfl

theorem open_nilR {H : Type} {enc : TypeId × Value → H} {w : World} {base : Nat} {spare : Nat → Bool} {held : Bool} {fuel : Nat} {t e : TypeId} (hu : Try.prog.underlying t = some (.slice e)) {a : Option Addr} {len cap : Nat} {x : DataW H × List MemPlace}
    (h : DataW.trod enc Try.prog w base spare held fuel t [.slice a len cap] = some x) : a = none → len = 0 ∧ cap = 0 := by
  rcases open_slice hu h with ⟨hcs, _⟩ | ⟨ad, len', cap', m, n, D, Pl, hcs, _, _, _, _, _, _⟩
  · simp at hcs
    exact fun _ => ⟨hcs.2.1, hcs.2.2⟩
  · simp at hcs
    intro h1
    rw [hcs.1] at h1
    cases h1

set_option maxRecDepth 100000 in
theorem deltaMatchesWagons_lifted (os : Os) (started : os.Started) (H : Type) (enc : TypeId × Value → H) :
    ReturnsInHanded {} Try.checked os 4 .any (Rows.deltaMatchesWagonsSpec.pre6 enc Try.prog Try.f4 Rows.deltaMatchesWagonsRow.domain false) (Rows.deltaMatchesWagonsSpec.post enc Try.prog Try.f4 false true false false) := by
  refine returnsInHanded_of_change_sized (C := Try.checked) deltaMatchesWagons_own started (by kernel_rfl) Try.func4
    (ChangeSpec.witness6 (enc := enc) (C := Try.checked) false ⟨#[], #[.agg #[.slice none 0 0, .slice none 0 0, .slice none 0 0, .slice none 0 0, .slice none 0 0, .slice none 0 0, .slice none 0 0, .slice none 0 0, .slice none 0 0], .slice none 0 0, .slice none 0 0], []⟩ 8 (by kernel_rfl) (by kernel_rfl) (by kernel_rfl) (by kernel_rfl)) ?_
  intro W base args ds gs before hval0 hW _ hsz0 _
  have hsz : (DataW.weightsEach Try.prog (Try.f4.params.toList ++ Rows.deltaMatchesWagonsSpec.plain.varTypes Try.prog) (ds ++ gs)).all (· ≤ reachBytes) = true := hsz0
  clear hsz0
  have hval : ∀ (j : Nat) t v, Try.f4.params[j]? = some t → args[j]? = some v → Value.okWide Try.prog W .any base t v := hval0
  have hW' := hW
  obtain ⟨p, q, hA0, hV, rfl, _, _⟩ := hW
  have hA : DataW.TrodAll enc Try.prog W 0 (fun _ => true) true Try.f4.params.toList args.toList ds p := hA0
  rw [Try.params4] at hA hval hsz
  obtain ⟨v0, vs0, d0, ds0, p0, q0, hargs, rfl, rfl, h0, r0⟩ := trodAll_cons hA
  obtain ⟨v1, vs1, d1, ds1, p1, q1, rfl, rfl, rfl, h1, r1⟩ := trodAll_cons r0
  obtain ⟨v2, vs2, d2, ds2, p2, q2, rfl, rfl, rfl, h2, r2⟩ := trodAll_cons r1
  obtain ⟨rfl, rfl, rfl⟩ := trodAll_nil r2
  obtain rfl : args = #[v0, v1, v2] := by cases args; simp_all
  obtain ⟨rfl, rfl⟩ := trodVars_none hV
  obtain ⟨cs0, rfl, hcs0⟩ := okWide_struct Try.underlying47 (hval 0 47 v0 rfl rfl)
  have k0 := h0
  have lt0 : ∀ x ∈ p0, x.block < W.heap.size := by obtain ⟨m, hm⟩ := k0; exact DataW.trod_lt m _ _ _ hm
  obtain ⟨WA, nw, wc, hpc, hnw⟩ : ∃ WA nw wc, cs0.toList[3]? = some (.slice WA nw wc) ∧ nw ≤ 3518437208780 := by
    obtain ⟨fuel, hf⟩ := h0
    exact open_pool (by simpa [Value.cells] using hf) hsz rfl rfl
  have hpl : cs0.toList.length = 9 := by
    rw [Array.length_toList, hcs0]
    kernel_rfl
  obtain ⟨a1, len1, cap1, rfl⟩ := okWide_slice Try.underlying48 (hval 1 48 v1 rfl rfl)
  have k1 := h1
  have lt1 : ∀ x ∈ p1, x.block < W.heap.size := by obtain ⟨m, hm⟩ := k1; exact DataW.trod_lt m _ _ _ hm
  have nil1 : a1 = none → len1 = 0 ∧ cap1 = 0 := by
    obtain ⟨fuel, hf⟩ := h1
    exact open_nilR Try.underlying48 (by simpa [Value.cells] using hf)
  obtain ⟨z1, rfl, m1, e1, ok1⟩ : ∃ l, l.length = len1 ∧ len1 ≤ maxLen ∧ RdE Rp.cells 21 W W.heap.size a1 l ∧ ∀ r ∈ l, r.ok ∧ RdP W W.heap.size r := by
    obtain ⟨fuel, hf⟩ := h1
    exact open_reports (by simpa [Value.cells] using hf)
  obtain ⟨a2, len2, cap2, rfl⟩ := okWide_slice Try.underlying48 (hval 2 48 v2 rfl rfl)
  have k2 := h2
  have lt2 : ∀ x ∈ p2, x.block < W.heap.size := by obtain ⟨m, hm⟩ := k2; exact DataW.trod_lt m _ _ _ hm
  have nil2 : a2 = none → len2 = 0 ∧ cap2 = 0 := by
    obtain ⟨fuel, hf⟩ := h2
    exact open_nilR Try.underlying48 (by simpa [Value.cells] using hf)
  obtain ⟨z2, rfl, m2, e2, ok2⟩ : ∃ l, l.length = len2 ∧ len2 ≤ maxLen ∧ RdE Rp.cells 21 W W.heap.size a2 l ∧ ∀ r ∈ l, r.ok ∧ RdP W W.heap.size r := by
    obtain ⟨fuel, hf⟩ := h2
    exact open_reports (by simpa [Value.cells] using hf)
  clear hA0 hval0
  have hcall := matchesWagons_any cs0.toList WA nw wc z1 z2 a1 a2 cap1 cap2 W hpl hpc ⟨e1, ok1⟩ ⟨e2, ok2⟩ (fun h => ⟨List.length_eq_zero_iff.1 (nil1 h).1, (nil1 h).2⟩) (fun h => ⟨List.length_eq_zero_iff.1 (nil2 h).1, (nil2 h).2⟩) hnw
  rw [Array.toArray_toList] at hcall
  refine hcall.mono fun e W' ⟨he, bel⟩ => ?_
  subst he
  exact ⟨_, rfl, _, _, _, [], _, [], hW', trodAll_mk1 (shut_bool Try.underlying4 _), (trodAll_cons_mk (Below.trod deltaMatchesWagons_laidOut (by kernel_rfl) (of_decide_eq_true (by kernel_rfl)) k0 bel lt0) (trodAll_cons_mk (Below.trod deltaMatchesWagons_laidOut (by kernel_rfl) (of_decide_eq_true (by kernel_rfl)) k1 bel lt1) (trodAll_cons_mk (Below.trod deltaMatchesWagons_laidOut (by kernel_rfl) (of_decide_eq_true (by kernel_rfl)) k2 bel lt2) trodAll_mk0))), rfl, bel.frame _, fun h => by cases h⟩

theorem deltaMatchesWagons_holds : Rows.DeltaMatchesWagonsSaid :=
  OpenClaim.holds_of_wide 4 Try.f4 rfl rfl rfl rfl rfl rfl rfl ⟨rfl, rfl, rfl, rfl, rfl⟩ rfl rfl rfl rfl rfl (by kernel_rfl) Try.func4 (by kernel_rfl)
    (of_decide_eq_true (by kernel_rfl)) (by unfold Func.isWrapper; rw [if_neg (of_decide_eq_false (by kernel_rfl))]; exact ⟨rfl, rfl⟩)
    (fun os started H enc _ => deltaMatchesWagons_lifted os started H enc)

#print axioms deltaMatchesWagons_holds
end Go.Proofs.Ytoiipfcmkogcfaa
