/-
  For all lists of at most 200 lines, accounts and months, the bill contains exactly the lines of the month that the account pays or receives, in order, and the monthly balance of the account is what it receives minus what it pays according to its bill.
  Conditions: none beyond the row's own (calendar.before and digest.k hold what the program's text lays).
-/
import Derived.Test.YtcdfjnnkocmeeaaGreatDoorBil
import Derived.Test.YtcdfjnnkocmeeaaGreatDoorLaid
import Derived.Test.YtcdfjnnkocmeeaaGreatDoorOpn
import Derived.Test.YtcdfjnnkocmeeaaGreatDoorRows
import Derived.Test.YtcdfjnnkocmeeaaGreatDoorCards
import Derived.Test.YtcdfjnnkocmeeaaGreatDoorTie
import Derived.Test.YtcdfjnnkocmeeaaGreatDoorChecked
import Derived.Clock
import Derived.OpenVars
import Derived.Lay
import Derived.SevenTiedAt
namespace Go.Proofs.YtcdfjnnkocmeeaaGreatDoor
open Go.ChangeShapes Go.WideShapes Go.ChangeAt Go.RowKit Go.Clock

theorem ledgerBills_own : ownKnob Tryz.prog.godebug = none := by kernel_rfl
theorem ledgerBills_laidOut : laidOutB Tryz.prog = true := by kernel_rfl

set_option maxRecDepth 100000 in
theorem ledgerBills_lifted (os : Os) (started : os.Started) (H : Type) (enc : TypeId × Value → H) :
    ReturnsInHanded {} Tryz.checked os 7 .any (fun w args => (Rows.ledgerBillsSpec.pre enc Tryz.prog Tryz.f7 [] false w args ∧ laidMetH Tryz.prog laid4 w) ∧ sizedMet enc Tryz.prog Tryz.f7 (OpenSpec.ofChange Rows.ledgerBillsSpec) false w args)
      (Rows.ledgerBillsSpec.post enc Tryz.prog Tryz.f7 false true false false) := by
  refine returnsInHanded_of_change_and (C := Tryz.checked) (X := fun w _ => laidMetH Tryz.prog laid4 w) (fun _ _ _ hh h => h.of_heap hh) ledgerBills_own started (by kernel_rfl) Tryz.func7
    (ChangeSpec.witness_shaped (enc := enc) (C := Tryz.checked) (os := os) (X := fun w _ => laidMetH Tryz.prog laid4 w) false (World.laidAll Tryz.prog os laid4) #[.slice none 0 0, .int .i64 0, .int .i64 0] 8 (World.laidAll_os _ _ _) (World.shaped_of_ZipB (by kernel_rfl) (by kernel_rfl)) (by kernel_rfl) (by kernel_rfl) (by kernel_rfl)
      (by rw [MakeChecks.laidMetH_plain _ _ _ (by kernel_rfl)]; exact laidMet_laidAll _ (by kernel_rfl) (by kernel_rfl))) ?_
  intro W base args ds gs before hval0 hW _ _ hL _
  have hval : ∀ (j : Nat) t v, Tryz.f7.params[j]? = some t → args[j]? = some v → Value.okWide Tryz.prog W .any base t v := hval0
  have hW' := hW
  obtain ⟨p, q, hA0, hV, rfl, _, _⟩ := hW
  have hA : DataW.TrodAll enc Tryz.prog W 0 (fun _ => true) true Tryz.f7.params.toList args.toList ds p := hA0
  rw [Tryz.params7] at hA hval
  obtain ⟨v0, vs0, d0, ds0, p0, q0, hargs, rfl, rfl, h0, r0⟩ := trodAll_cons hA
  obtain ⟨v1, vs1, d1, ds1, p1, q1, rfl, rfl, rfl, h1, r1⟩ := trodAll_cons r0
  obtain ⟨v2, vs2, d2, ds2, p2, q2, rfl, rfl, rfl, h2, r2⟩ := trodAll_cons r1
  obtain ⟨rfl, rfl, rfl⟩ := trodAll_nil r2
  obtain rfl : args = #[v0, v1, v2] := by cases args; simp_all
  obtain ⟨rfl, rfl⟩ := trodVars_none hV
  obtain ⟨a0, len0, cap0, rfl⟩ := okWide_slice Tryz.underlying22 (hval 0 22 v0 rfl rfl)
  have k0 := h0
  have lt0 : ∀ x ∈ p0, x.block < W.heap.size := by obtain ⟨m, hm⟩ := k0; exact DataW.trod_lt m _ _ _ hm
  obtain ⟨z0, rfl, m0, e0, ok0⟩ : ∃ l, l.length = len0 ∧ len0 ≤ maxLen ∧ RdE Ln.cells 44 W W.heap.size a0 l ∧ ∀ x ∈ l, x.ok ∧ x.tp := by
    obtain ⟨fuel, hf⟩ := h0
    exact open_lines (by simpa [Value.cells] using hf)
  obtain ⟨n1, rfl, rfl, rfl, w1⟩ := open_int Tryz.underlying3 (hval 1 3 v1 rfl rfl) h1
  obtain ⟨n2, rfl, rfl, rfl, w2⟩ := open_int Tryz.underlying3 (hval 2 3 v2 rfl rfl) h2
  obtain ⟨hK, hC⟩ := laid_ct hL
  clear hA0 hval0
  refine (bills_any z0 a0 cap0 n1 n2 W hK hC e0 (fun x hx => (ok0 x hx).1) (fun x hx => (ok0 x hx).2)).mono fun e W' ⟨he, bel⟩ => ?_
  subst he
  exact ⟨_, rfl, _, _, _, [], _, [], hW', trodAll_mk1 (shut_bool Tryz.underlying4 _), (trodAll_cons_mk (Below.trod ledgerBills_laidOut (by kernel_rfl) (of_decide_eq_true (by kernel_rfl)) k0 bel lt0) (trodAll_cons_mk (shut_int Tryz.underlying3 w1) (trodAll_cons_mk (shut_int Tryz.underlying3 w2) trodAll_mk0))), rfl, bel.frame _, fun h => by cases h⟩

theorem ledgerBills_named : Tryz.pinned.checked.prog.funcNamed Rows.ledgerBillsRow.func = some 7 := by kernel_rfl
theorem ledgerBills_closed : joinedFacts Tryz.pinned.checked.prog 7 Tryz.f7 Rows.ledgerBillsSpec Rows.ledgerBillsRow = true := by kernel_rfl
theorem ledgerBills_inst : Tryz.f7.isInstance Tryz.pinned.checked.prog Rows.ledgerBillsRow.origin Rows.ledgerBillsRow.targs := of_decide_eq_true (by kernel_rfl)
theorem ledgerBills_wrap : Tryz.f7.isWrapper Tryz.pinned.checked.prog Rows.ledgerBillsRow.wrapper Rows.ledgerBillsRow.mainSum := by unfold Func.isWrapper; rw [if_neg (of_decide_eq_false (by kernel_rfl))]; exact ⟨rfl, rfl⟩
theorem ledgerBills_row : Rows.LedgerBillsSaid :=
  OpenClaim.holds_of_wide 7 Tryz.f7 rfl rfl rfl rfl rfl rfl rfl ⟨rfl, rfl, rfl, rfl, rfl⟩ rfl rfl rfl rfl rfl ledgerBills_named Tryz.func7 ledgerBills_closed
    ledgerBills_inst ledgerBills_wrap
    (fun os started H enc _ => ledgerBills_lifted os started H enc)

theorem ledgerBills_holds : Rows.LedgerBillsCardSaid :=
  Claim7.holds_tied_plain_at .later [] [.data, .data, .data, .data] true (true, "c5ae1993df0d2decc64736e1dee3a6b2f23da6ab4862483b6b3aa6f22d82153b") true
    ledgerBills_row (fun _ h => by cases h) (by kernel_rfl) (fun _ h => by cases h) ledgerBills_row_tie rfl ⟨rfl, rfl⟩ (by kernel_rfl) rfl
    (fun f fn hf hfn => by
      obtain rfl : f = 7 := Option.some.inj (ledgerBills_named.symm.trans hf) |>.symm
      obtain rfl : fn = Tryz.f7 := (Option.some.inj (Tryz.func7.symm.trans hfn)).symm
      exact ⟨by kernel_rfl, fun j t ht => by
        rw [Tryz.params7] at ht
        have hm : t ∈ [22, 3, 3] := by simpa using Array.mem_of_getElem? ht
        have hall : ([22, 3, 3].all fun u => !Tryz.prog.wantsStandIn u) = true := by kernel_rfl
        exact (show Tryz.prog.wantsStandIn t = false by simpa using List.all_eq_true.1 hall t hm)⟩)
    (by kernel_rfl)

#print axioms ledgerBills_holds
end Go.Proofs.YtcdfjnnkocmeeaaGreatDoor
