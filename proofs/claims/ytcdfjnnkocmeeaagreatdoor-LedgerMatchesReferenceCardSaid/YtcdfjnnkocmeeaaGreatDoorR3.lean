/-
  For all lists of at most 200 lines, accounts and months, Bill, Balances and Monthly return what the reference implementation returns.
  Conditions: none beyond the row's own (calendar.before and digest.k hold what the program's text lays).
-/
import Derived.Test.YtcdfjnnkocmeeaaGreatDoorMat
import Derived.Test.YtcdfjnnkocmeeaaGreatDoorLaid
import Derived.Test.YtcdfjnnkocmeeaaGreatDoorOpn
import Derived.Test.YtcdfjnnkocmeeaaGreatDoorRows
import Derived.Test.YtcdfjnnkocmeeaaGreatDoorCards
import Derived.Test.YtcdfjnnkocmeeaaGreatDoorTie
import Derived.Test.YtcdfjnnkocmeeaaGreatDoorChecked
import Derived.Clock
import Derived.OpenVars
import Derived.Lay
import Derived.SevenTiedAt
namespace Go.Proofs.YtcdfjnnkocmeeaaGreatDoor
open Go.ChangeShapes Go.WideShapes Go.ChangeAt Go.RowKit Go.Clock

theorem ledgerMatchesReference_own : ownKnob Tryz.prog.godebug = none := by kernel_rfl
theorem ledgerMatchesReference_laidOut : laidOutB Tryz.prog = true := by kernel_rfl

set_option maxRecDepth 100000 in
theorem ledgerMatchesReference_lifted (os : Os) (started : os.Started) (H : Type) (enc : TypeId × Value → H) (F : Stop.Interp) :
    ReturnsInHanded { calm := true } Tryz.checked os 3 .any (fun w args => (Rows.ledgerMatchesReferenceSpec.pre enc Tryz.prog Tryz.f3 [] false w args ∧ laidMetH Tryz.prog laid4 w) ∧ sizedMet enc Tryz.prog Tryz.f3 (OpenSpec.ofChange Rows.ledgerMatchesReferenceSpec) false w args)
      ((OpenSpec.ofChange Rows.ledgerMatchesReferenceSpec).postWith enc Tryz.prog Tryz.f3 F (outsideKept [.timePasses]) false true false) := by
  refine returns_of_change (C := Tryz.checked) (X := fun w _ => laidMetH Tryz.prog laid4 w) (fun _ _ _ hh h => h.of_heap hh) ledgerMatchesReference_own started (by kernel_rfl) Tryz.func3
    (witness_at (enc := enc) (C := Tryz.checked) (X := fun w _ => laidMetH Tryz.prog laid4 w) (World.laidAll Tryz.prog os laid4) #[.slice none 0 0, .int .i64 0, .int .i64 0] 8 (World.laidAll_os _ _ _) (World.shaped_of_ZipB (by kernel_rfl) (by kernel_rfl)) (by kernel_rfl) (by kernel_rfl) (by kernel_rfl)
      (by rw [MakeChecks.laidMetH_plain _ _ _ (by kernel_rfl)]; exact laidMet_laidAll _ (by kernel_rfl) (by kernel_rfl))) ?_
  intro W base args ds gs before hval0 hW _ _ hL _
  have hval : ∀ (j : Nat) t v, Tryz.f3.params[j]? = some t → args[j]? = some v → Value.okWide Tryz.prog W .any base t v := hval0
  have hW' := hW
  obtain ⟨p, q, hA0, hV, rfl, _, _⟩ := hW
  have hA : DataW.TrodAll enc Tryz.prog W 0 (fun _ => true) true Tryz.f3.params.toList args.toList ds p := hA0
  rw [Tryz.params3] at hA hval
  obtain ⟨v0, vs0, d0, ds0, p0, q0, hargs, rfl, rfl, h0, r0⟩ := trodAll_cons hA
  obtain ⟨v1, vs1, d1, ds1, p1, q1, rfl, rfl, rfl, h1, r1⟩ := trodAll_cons r0
  obtain ⟨v2, vs2, d2, ds2, p2, q2, rfl, rfl, rfl, h2, r2⟩ := trodAll_cons r1
  obtain ⟨rfl, rfl, rfl⟩ := trodAll_nil r2
  obtain rfl : args = #[v0, v1, v2] := by cases args; simp_all
  obtain ⟨rfl, rfl⟩ := trodVars_none hV
  obtain ⟨a0, len0, cap0, rfl⟩ := okWide_slice Tryz.underlying22 (hval 0 22 v0 rfl rfl)
  have k0 := h0
  have lt0 : ∀ x ∈ p0, x.block < W.heap.size := by obtain ⟨m, hm⟩ := k0; exact DataW.trod_lt m _ _ _ hm
  obtain ⟨z0, rfl, m0, e0, ok0⟩ : ∃ l, l.length = len0 ∧ len0 ≤ maxLen ∧ RdE Ln.cells 44 W W.heap.size a0 l ∧ ∀ x ∈ l, x.ok ∧ x.tp := by
    obtain ⟨fuel, hf⟩ := h0
    exact open_lines (by simpa [Value.cells] using hf)
  obtain ⟨n1, rfl, rfl, rfl, w1⟩ := open_int Tryz.underlying3 (hval 1 3 v1 rfl rfl) h1
  obtain ⟨n2, rfl, rfl, rfl, w2⟩ := open_int Tryz.underlying3 (hval 2 3 v2 rfl rfl) h2
  obtain ⟨hK, hC⟩ := laid_ct hL
  clear hA0 hval0
  refine (matches_any z0 a0 cap0 n1 n2 W hK hC e0 (fun x hx => (ok0 x hx).1) (fun x hx => (ok0 x hx).2)).mono fun e W' ⟨he, bel⟩ => ?_
  subst he
  have since := Since.of_below bel
  exact ⟨_, rfl, ⟨_, _, _, [], _, [], hW', trodAll_mk1 (shut_bool Tryz.underlying4 _), (trodAll_cons_mk (Below.trod ledgerMatchesReference_laidOut (by kernel_rfl) (of_decide_eq_true (by kernel_rfl)) k0 since.2 lt0) (trodAll_cons_mk (shut_int Tryz.underlying3 w1) (trodAll_cons_mk (shut_int Tryz.underlying3 w2) trodAll_mk0))), rfl, since.2.frame _, fun h => by cases h⟩, since.1⟩

theorem ledgerMatchesReference_named : Tryz.pinned.checked.prog.funcNamed Rows.ledgerMatchesReferenceRow.func = some 3 := by kernel_rfl
theorem ledgerMatchesReference_closed : joinedFacts Tryz.pinned.checked.prog 3 Tryz.f3 Rows.ledgerMatchesReferenceSpec Rows.ledgerMatchesReferenceRow = true := by kernel_rfl
theorem ledgerMatchesReference_inst : Tryz.f3.isInstance Tryz.pinned.checked.prog Rows.ledgerMatchesReferenceRow.origin Rows.ledgerMatchesReferenceRow.targs := of_decide_eq_true (by kernel_rfl)
theorem ledgerMatchesReference_wrap : Tryz.f3.isWrapper Tryz.pinned.checked.prog Rows.ledgerMatchesReferenceRow.wrapper Rows.ledgerMatchesReferenceRow.mainSum := by unfold Func.isWrapper; rw [if_neg (of_decide_eq_false (by kernel_rfl))]; exact ⟨rfl, rfl⟩
theorem ledgerMatchesReference_row : Rows.LedgerMatchesReferenceSaid :=
  holds_of_wide_time 3 Tryz.f3 rfl rfl rfl rfl rfl rfl rfl ⟨rfl, rfl, rfl, rfl, rfl⟩ rfl rfl rfl rfl rfl ledgerMatchesReference_named Tryz.func3 ledgerMatchesReference_closed
    ledgerMatchesReference_inst ledgerMatchesReference_wrap
    (fun os started H enc _ F => ledgerMatchesReference_lifted os started H enc F)

theorem ledgerMatchesReference_holds : Rows.LedgerMatchesReferenceCardSaid :=
  Claim7.holds_tied_plain_at .later [] [.data, .data, .data, .data] true (true, "c5ae1993df0d2decc64736e1dee3a6b2f23da6ab4862483b6b3aa6f22d82153b") true
    ledgerMatchesReference_row (fun _ h => by cases h) (by kernel_rfl) (fun _ h => by cases h) ledgerMatchesReference_row_tie rfl ⟨rfl, rfl⟩ (by kernel_rfl) rfl
    (fun f fn hf hfn => by
      obtain rfl : f = 3 := Option.some.inj (ledgerMatchesReference_named.symm.trans hf) |>.symm
      obtain rfl : fn = Tryz.f3 := (Option.some.inj (Tryz.func3.symm.trans hfn)).symm
      exact ⟨by kernel_rfl, fun j t ht => by
        rw [Tryz.params3] at ht
        have hm : t ∈ [22, 3, 3] := by simpa using Array.mem_of_getElem? ht
        have hall : ([22, 3, 3].all fun u => !Tryz.prog.wantsStandIn u) = true := by kernel_rfl
        exact (show Tryz.prog.wantsStandIn t = false by simpa using List.all_eq_true.1 hall t hm)⟩)
    (by kernel_rfl)

#print axioms ledgerMatchesReference_holds
end Go.Proofs.YtcdfjnnkocmeeaaGreatDoor
