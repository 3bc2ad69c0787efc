/-
  DiffTightMatchesReference and DiffDichotomy return true, walked.
  Conditions: as each theorem states them.
-/
import Derived.Test.YtaonicdpeflbbaaWq
namespace Go.Proofs.Ytaonicdpeflbbaa
open Go.RowKit

set_option maxHeartbeats 800000 in
theorem law2_any (n : Int) (A : Option Addr) (l : List Bd) (cap : Nat) (i j : Int) (w : World) (h : RdB w w.heap.size A l) :
    Calls Try.prog 4 #[.int .i64 n, .slice A l.length cap, .int .i64 i, .int .i64 j] w fun e w' => e = .returned (.bool true) ∧ Below w.heap.size w w' := by
  have H := Lib.hid h
  clear h
  go_enter Try.func4, Try.ntmps4
  go_wp2_with fail
  refine (sane_any w).mono ?_
  rintro e w1 ⟨rfl, hb⟩
  have H1 := Lib.hid ((H.out.below hb).more hb.size)
  have B1 := Lib.hid hb
  clear H hb
  go_wp2_with fail
  refine (few_any n A l.length cap w1).mono ?_
  rintro e w' ⟨rfl, rfl⟩
  cases hf : fewB n l.length with
  | false =>
    have Hf := Lib.hid hf
    clear hf
    go_wp2
    go_ret
    exact ⟨rfl, B1.out⟩
  | true =>
    have Hf := Lib.hid hf
    clear hf
    obtain ⟨t1, t2, t3, ht⟩ : ∃ t1 t2 t3, tightR n l i j = (t1, t2, t3) := ⟨_, _, _, rfl⟩
    have Ht := Lib.hid ht
    clear ht
    go_wp2_with fail
    refine (tight_any n A l cap i j w1 H1.out).mono ?_
    rintro e w2 ⟨he, hb⟩
    rw [TightRes, Ht.out] at he
    subst he
    have H2 := Lib.hid ((H1.out.below hb).more hb.size)
    have B2 := Lib.hid (B1.out.trans (hb.mono B1.out.size))
    clear H1 B1 hb
    go_wp2_with fail
    refine (reftight_any n A l cap i j w2 H2.out).mono ?_
    rintro e w3 ⟨he, hb⟩
    rw [TightRes, Ht.out] at he
    subst he
    have B3 := Lib.hid (B2.out.trans (hb.mono B2.out.size))
    clear H2 B2 hb
    go_wp2
    all_goals go_ret
    all_goals exact ⟨by simp, B3.out⟩

theorem validB_un {n : Int} {l : List Bd} (h : validB n l = true) : ∃ m : Nat, n = m ∧ m ≤ 24 ∧ l.length ≤ 80 ∧ Val m l := by
  obtain ⟨h1, h2, h3⟩ : n ≤ 24 ∧ l.length ≤ 80 ∧ checkF n l = 0 := by simpa [validB] using h
  obtain ⟨m, rfl, hV⟩ := val_of h3
  exact ⟨m, rfl, by omega, h2, hV⟩

set_option maxHeartbeats 1600000 in
theorem law3_any (n : Int) (A : Option Addr) (l : List Bd) (cap : Nat) (w : World) (h : RdB w w.heap.size A l) :
    Calls Try.prog 5 #[.int .i64 n, .slice A l.length cap] w fun e w' => e = .returned (.bool true) ∧ Below w.heap.size w w' := by
  have H := Lib.hid h
  clear h
  go_enter Try.func5, Try.ntmps5
  go_wp2_with fail
  refine (sane_any w).mono ?_
  rintro e w1 ⟨rfl, hb⟩
  have H1 := Lib.hid ((H.out.below hb).more hb.size)
  have B1 := Lib.hid hb
  clear H hb
  go_wp2_with fail
  refine (valid_any n A l cap w1 H1.out).mono ?_
  rintro e w2 ⟨rfl, hb⟩
  have H2 := Lib.hid ((H1.out.below hb).more hb.size)
  have B2 := Lib.hid (B1.out.trans (hb.mono B1.out.size))
  clear H1 B1 hb
  cases hf : validB n l with
  | false =>
    have Hf := Lib.hid hf
    clear hf
    go_wp2
    go_ret
    exact ⟨rfl, B2.out⟩
  | true =>
    obtain ⟨m, rfl, hm, hlen, hV⟩ := validB_un hf
    have HV := Lib.hid hV
    have Hc := Lib.hid (val_check hV)
    clear hf hV
    go_wp2_with fail
    refine (solve_any m A l cap w2 H2.out).mono ?_
    rintro e w3 ⟨v, er, rfl, hs, hb⟩
    rw [SolveRes, if_pos Hc.out] at hs
    have Hs := Lib.hid hs
    have H3 := Lib.hid ((H2.out.below hb).more hb.size)
    have B3 := Lib.hid (B2.out.trans (hb.mono B2.out.size))
    clear H2 B2 hb hs
    go_wp2_with fail
    refine (cycle_any m A l cap w3 H3.out).mono ?_
    rintro e w4 ⟨cv, ce, rfl, hc, hb⟩
    rw [CycleRes, if_pos Hc.out] at hc
    have H4 := Lib.hid ((H3.out.below hb).more hb.size)
    have B4 := Lib.hid (B3.out.trans (hb.mono B3.out.size))
    have Hb := Lib.hid hb
    clear H3 B3 hb
    by_cases hl : (low m l).2 < 0
    · rw [if_pos (by exact hl)] at hc
      obtain ⟨rfl, rfl⟩ := hc
      have hs := Hs.out
      rw [if_pos (by exact hl)] at hs
      obtain ⟨rfl, g, rfl, _, hrow⟩ := hs
      have hrow4 : Row w4 g 3 (ints (low m l).1.1) := hrow.below Hb.out hrow.lt
      obtain ⟨s1, s2, s3⟩ := low_sol HV.out hl
      have R4 := Lib.hid hrow4
      have S1 := Lib.hid s1
      have S2 := Lib.hid s2
      have S3 := Lib.hid s3
      clear Hs hrow hrow4 s1 s2 s3 Hb hl
      go_wp2
      go_loop [9] (fun i => ∃ k : Nat, k ≤ m ∧ i = .int .i64 k) (fun i => m - (intOf i).toNat)
      case atStart => exact ⟨0, Nat.zero_le _, rfl⟩
      case round =>
        obtain ⟨k, hk, rfl⟩ := hrel
        by_cases hlt : k < m
        · obtain ⟨xv, hxv⟩ : ∃ xv, xv = (low m l).1.1.getD k 0 := ⟨_, rfl⟩
          have cx : w4.cell? ⟨g, k, none⟩ = some (.int .i64 xv) := by rw [R4.out.cell, hxv]; exact ints_at (by rw [S1.out]; exact hlt)
          obtain ⟨b1, b2⟩ := S3.out k hlt
          rw [← hxv] at b1 b2
          have b3 : (m : Int) * 1099511627776 ≤ 24 * 1099511627776 := Int.mul_le_mul_of_nonneg_right (by omega) (by omega)
          have b4 : -26388279066624 ≤ xv := by omega
          clear hxv b2 b3
          go_wp2
          go_round
          case rel => exact ⟨k + 1, by omega, by go_num⟩
          case measure => simp [intOf]; omega
        · go_wp2
          go_loopw [10] (fun i wr => ∃ j : Nat, j ≤ l.length ∧ i = .int .i64 j ∧ Below w4.heap.size w4 wr) (fun i _ => l.length - (intOf i).toNat)
          case atStart => exact ⟨0, Nat.zero_le _, rfl, Below.refl _ _⟩
          case round =>
            obtain ⟨j, hj, rfl, hbw⟩ := hrel
            by_cases hjl : j < l.length
            · obtain ⟨x, hx⟩ : ∃ x, l[j]? = some x := ⟨_, List.getElem?_eq_getElem hjl⟩
              obtain ⟨o1, o2, o3, o4, o5, o6⟩ := okB_un (HV.out.ok x (List.mem_of_getElem? hx))
              obtain ⟨lb, lo, rfl, _, c0, c1, c2⟩ := H4.out.below hbw j x hx
              obtain ⟨xi, hxi⟩ : ∃ xi, xi = (low m l).1.1.getD x.i.toNat 0 := ⟨_, rfl⟩
              obtain ⟨xj, hxj⟩ : ∃ xj, xj = (low m l).1.1.getD x.j.toNat 0 := ⟨_, rfl⟩
              have R := R4.out.below hbw R4.out.lt
              have ci : wr.cell? ⟨g, x.i.toNat, none⟩ = some (.int .i64 xi) := by rw [R.cell, hxi]; exact ints_at (by rw [S1.out]; omega)
              have cj : wr.cell? ⟨g, x.j.toNat, none⟩ = some (.int .i64 xj) := by rw [R.cell, hxj]; exact ints_at (by rw [S1.out]; omega)
              have hsat : xj - xi ≤ x.w := by rw [hxi, hxj]; exact S2.out x (List.mem_of_getElem? hx)
              have b3 : (m : Int) * 1099511627776 ≤ 24 * 1099511627776 := Int.mul_le_mul_of_nonneg_right (by omega) (by omega)
              obtain ⟨p1, p2⟩ := S3.out x.i.toNat (by omega)
              obtain ⟨p3, p4⟩ := S3.out x.j.toNat (by omega)
              rw [← hxi] at p1 p2
              rw [← hxj] at p3 p4
              have ew : IntKind.i64.wrap (xj - xi) = xj - xi := IntWalk.i64_in _ (by omega)
              have hng : ¬ (x.w < xj - xi) := by omega
              have q3 : (j : Int) < (l.length : Int) := by omega
              clear hx hxi hxj R b3 p2 p4
              go_wp2
              go_quiet (fail)
              go_wp2
              go_roundw
              case rel => exact ⟨j + 1, by omega, by go_num, Below.drewsN hbw _⟩
              case measure => simp [intOf]; omega
            · go_wp2
              go_ret
              exact ⟨rfl, B4.out.trans (hbw.mono B4.out.size)⟩
    · rw [if_neg (by exact hl)] at hc
      obtain ⟨rfl, ch, ix, bd, p, g, c, hD, rfl, _, hR⟩ := hc
      have hs := Hs.out
      rw [if_neg (by exact hl)] at hs
      obtain ⟨rfl, rfl⟩ := hs
      have HD := Lib.hid hD
      have HR := Lib.hid hR
      clear Hs hl hD hR Hb
      go_wp2_with fail
      refine (contra_any m _ _ l cap c w4 HV.out _ _ ch ix bd p HD.out H4.out HR.out).mono ?_
      rintro e w5 ⟨rfl, hb⟩
      have B5 := Lib.hid (B4.out.trans (hb.mono B4.out.size))
      clear hb
      go_wp2
      go_ret
      exact ⟨rfl, B5.out⟩

end Go.Proofs.Ytaonicdpeflbbaa
