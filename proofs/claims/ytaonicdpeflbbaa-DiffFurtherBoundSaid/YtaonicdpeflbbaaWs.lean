/-
  DiffGreatest and DiffTightHolds return true, walked.
  Conditions: as each theorem states them.
-/
import Derived.Test.YtaonicdpeflbbaaWr
namespace Go.Proofs.Ytaonicdpeflbbaa
open Go.RowKit

theorem SolveRes.sol {m : Nat} {l : List Bd} {B : Nat} {w' : World} {v : Value} {er : Int} (h : SolveRes m l B w' v er) (hV : Val m l) (hl : (low m l).2 < 0) :
    er = 0 ∧ ∃ g, v = .slice (some ⟨g, 0, none⟩) m m ∧ Row w' g 3 (ints (low m l).1.1) := by
  rw [SolveRes, if_pos (val_check hV), if_pos (by exact hl)] at h
  obtain ⟨h1, g, h2, _, h3⟩ := h
  exact ⟨h1, g, h2, h3⟩
theorem SolveRes.cyc {m : Nat} {l : List Bd} {B : Nat} {w' : World} {v : Value} {er : Int} (h : SolveRes m l B w' v er) (hV : Val m l) (hl : ¬ (low m l).2 < 0) : er = 230 ∧ v = .slice none 0 0 := by
  rw [SolveRes, if_pos (val_check hV), if_neg (by exact hl)] at h
  exact h

set_option maxHeartbeats 1600000 in
theorem law4_any (n : Int) (A Y : Option Addr) (l : List Bd) (y : List Int) (cap cap' : Nat) (w : World) (h : RdB w w.heap.size A l) (hy : RdI w w.heap.size Y y) (hlen : y.length ≤ 9223372036854775807) :
    Calls Try.prog 6 #[.int .i64 n, .slice A l.length cap, .slice Y y.length cap'] w fun e w' => e = .returned (.bool true) ∧ Below w.heap.size w w' := by
  have H := Lib.hid h
  have HY := Lib.hid hy
  clear h hy
  go_enter Try.func6, Try.ntmps6
  go_wp2_with fail
  refine (sane_any w).mono ?_
  rintro e w1 ⟨rfl, hb⟩
  have H1 := Lib.hid ((H.out.below hb).more hb.size)
  have Y1 := Lib.hid ((HY.out.below hb).more hb.size)
  have B1 := Lib.hid hb
  clear H hb HY
  go_wp2_with fail
  refine (valid_any n A l cap w1 H1.out).mono ?_
  rintro e w2 ⟨rfl, hb⟩
  have H2 := Lib.hid ((H1.out.below hb).more hb.size)
  have Y2 := Lib.hid ((Y1.out.below hb).more hb.size)
  have B2 := Lib.hid (B1.out.trans (hb.mono B1.out.size))
  clear H1 B1 hb Y1
  cases hf : validB n l with
  | false =>
    have Hf := Lib.hid hf
    clear hf
    go_wp2
    go_ret
    exact ⟨rfl, B2.out⟩
  | true =>
    obtain ⟨m, rfl, hm, hlen2, hV⟩ := validB_un hf
    have HV := Lib.hid hV
    have Hc := Lib.hid (val_check hV)
    clear hf hV
    go_wp2_with fail
    refine (holds_any m A Y l y cap cap' w2 HV.out H2.out Y2.out hlen).mono ?_
    rintro e w3 ⟨rfl, hb⟩
    have H3 := Lib.hid ((H2.out.below hb).more hb.size)
    have Y3 := Lib.hid ((Y2.out.below hb).more hb.size)
    have B3 := Lib.hid (B2.out.trans (hb.mono B2.out.size))
    clear H2 B2 hb Y2
    cases hh : holdsB m l y with
    | false =>
      have Hh := Lib.hid hh
      clear hh
      go_wp2
      go_ret
      exact ⟨rfl, B3.out⟩
    | true =>
      obtain ⟨hyn, hyb, hys⟩ := holds_un hh
      have hl : (low m l).2 < 0 := by
        rcases Int.lt_or_le (low m l).2 0 with h0 | h0
        · exact h0
        · exact (low_none HV.out h0 _ hys).elim
      have Hl := Lib.hid hl
      have Hyn := Lib.hid hyn
      have Hys := Lib.hid hys
      clear hh hl hyn hys hyb
      go_wp2_with fail
      refine (solve_any m A l cap w3 H3.out).mono ?_
      rintro e w4 ⟨v, er, rfl, hs, hb⟩
      obtain ⟨rfl, g, rfl, hrow⟩ := hs.sol HV.out Hl.out
      have H4 := Lib.hid ((H3.out.below hb).more hb.size)
      have Y4 := Lib.hid ((Y3.out.below hb).more hb.size)
      have B4 := Lib.hid (B3.out.trans (hb.mono B3.out.size))
      have R4 := Lib.hid hrow
      clear H3 B3 hb Y3 hs hrow
      go_wp2_with fail
      refine (cycle_any m A l cap w4 H4.out).mono ?_
      rintro e w5 ⟨cv, ce, rfl, hc, hb⟩
      rw [CycleRes, if_pos Hc.out, if_pos (show (low (Int.toNat (m : Int)) l).2 < 0 from Hl.out)] at hc
      obtain ⟨rfl, rfl⟩ := hc
      have Y5 := Lib.hid ((Y4.out.below hb).more hb.size)
      have B5 := Lib.hid (B4.out.trans (hb.mono B4.out.size))
      have R5 := Lib.hid (R4.out.below hb R4.out.lt)
      have S1 := Lib.hid (low_sol HV.out Hl.out).1
      clear H4 B4 hb Y4 R4
      go_wp2
      go_loop [11] (fun i => ∃ k : Nat, k ≤ m ∧ i = .int .i64 k ∧ Hid (∀ v, v < k → y.getD v 0 ≤ 0)) (fun i => m - (intOf i).toNat)
      case atStart => exact ⟨0, Nat.zero_le _, rfl, fun v hv => absurd hv (by omega)⟩
      case round =>
        obtain ⟨k, hk, rfl, hneg⟩ := hrel
        by_cases hlt : k < m
        · have hyk : y[k]? = some (y.getD k 0) := by simp [List.getD, List.getElem?_eq_getElem (show k < y.length by rw [Hyn.out]; exact hlt)]
          obtain ⟨yb, yo, rfl, _, cy⟩ := Y5.out k _ hyk
          obtain ⟨yv, hyv⟩ : ∃ yv, yv = y.getD k 0 := ⟨_, rfl⟩
          rw [← hyv] at cy
          have Hyv := Lib.hid hyv
          have q1 : (k : Int) < (y.length : Int) := by rw [Hyn.out]; omega
          clear hyk hyv
          by_cases hpos : 0 < yv
          · go_wp2
            go_ret
            exact ⟨rfl, B5.out⟩
          · go_wp2
            go_round
            case rel => exact ⟨k + 1, by omega, by go_num, fun v hv => by
              rcases Nat.lt_succ_iff_lt_or_eq.1 hv with h1 | rfl
              · exact hneg.out v h1
              · rw [← Hyv.out]; omega⟩
            case measure => simp [intOf]; omega
        · have hkm : k = m := by omega
          subst hkm
          go_wp2
          go_loopw [12] (fun i wr => ∃ j : Nat, j ≤ k ∧ i = .int .i64 j ∧ Below w5.heap.size w5 wr) (fun i _ => k - (intOf i).toNat)
          case atStart => exact ⟨0, Nat.zero_le _, rfl, Below.refl _ _⟩
          case round =>
            obtain ⟨j, hj, rfl, hbw⟩ := hrel
            by_cases hjk : j < k
            · have hyk : y[j]? = some (y.getD j 0) := by simp [List.getD, List.getElem?_eq_getElem (show j < y.length by rw [Hyn.out]; exact hjk)]
              obtain ⟨yb, yo, rfl, _, cy⟩ := Y5.out.below hbw j _ hyk
              obtain ⟨yv, hyv⟩ : ∃ yv, yv = y.getD j 0 := ⟨_, rfl⟩
              rw [← hyv] at cy
              obtain ⟨xv, hxv⟩ : ∃ xv, xv = (low k l).1.1.getD j 0 := ⟨_, rfl⟩
              have cx : wr.cell? ⟨g, j, none⟩ = some (.int .i64 xv) := by rw [(R5.out.below hbw R5.out.lt).cell, hxv]; exact ints_at (by rw [S1.out]; exact hjk)
              have hge : ¬ xv < yv := by
                have := low_great HV.out _ Hys.out hneg.out j hjk
                rw [hxv, hyv]
                omega
              have q1 : (j : Int) < (y.length : Int) := by rw [Hyn.out]; omega
              have q2 : (j : Int) < (k : Int) := by omega
              clear hyk hyv hxv
              go_wp2
              go_quiet (fail)
              go_wp2
              go_roundw
              case rel => exact ⟨j + 1, by omega, by go_num, Below.drewsN hbw _⟩
              case measure => simp [intOf]; omega
            · go_wp2
              go_ret
              exact ⟨rfl, B5.out.trans (hbw.mono B5.out.size)⟩

theorem tight_val {m : Nat} {l : List Bd} {a b : Nat} (hV : Val m l) (ha : a < m) (hb : b < m) (hl : (low m l).2 < 0) :
    tightR m l a b = (match tb m l a b with | some w => (w, true, (0 : Int)) | none => (0, false, (0 : Int))) := by
  rw [tightR, if_pos (val_check hV), if_pos ⟨by omega, by omega, by omega, by omega⟩]
  exact if_pos hl

set_option maxHeartbeats 1600000 in
theorem law5_any (n : Int) (A Y : Option Addr) (l : List Bd) (y : List Int) (cap cap' : Nat) (i j : Int) (w : World) (h : RdB w w.heap.size A l) (hy : RdI w w.heap.size Y y) (hlen : y.length ≤ 9223372036854775807) :
    Calls Try.prog 7 #[.int .i64 n, .slice A l.length cap, .slice Y y.length cap', .int .i64 i, .int .i64 j] w fun e w' => e = .returned (.bool true) ∧ Below w.heap.size w w' := by
  have H := Lib.hid h
  have HY := Lib.hid hy
  clear h hy
  go_enter Try.func7, Try.ntmps7
  go_wp2_with fail
  refine (sane_any w).mono ?_
  rintro e w1 ⟨rfl, hb⟩
  have H1 := Lib.hid ((H.out.below hb).more hb.size)
  have Y1 := Lib.hid ((HY.out.below hb).more hb.size)
  have B1 := Lib.hid hb
  clear H hb HY
  go_wp2_with fail
  refine (valid_any n A l cap w1 H1.out).mono ?_
  rintro e w2 ⟨rfl, hb⟩
  have H2 := Lib.hid ((H1.out.below hb).more hb.size)
  have Y2 := Lib.hid ((Y1.out.below hb).more hb.size)
  have B2 := Lib.hid (B1.out.trans (hb.mono B1.out.size))
  clear H1 B1 hb Y1
  cases hf : validB n l with
  | false =>
    have Hf := Lib.hid hf
    clear hf
    go_wp2
    go_ret
    exact ⟨rfl, B2.out⟩
  | true =>
    obtain ⟨m, rfl, hm, hlen2, hV⟩ := validB_un hf
    have HV := Lib.hid hV
    have Hc := Lib.hid (val_check hV)
    clear hf hV
    by_cases x1 : i < 0
    · go_wp2
      go_ret
      exact ⟨rfl, B2.out⟩
    by_cases x2 : (m : Int) ≤ i
    · go_wp2
      go_ret
      exact ⟨rfl, B2.out⟩
    by_cases x3 : j < 0
    · go_wp2
      go_ret
      exact ⟨rfl, B2.out⟩
    by_cases x4 : (m : Int) ≤ j
    · go_wp2
      go_ret
      exact ⟨rfl, B2.out⟩
    go_wp2_with fail
    refine (holds_any m A Y l y cap cap' w2 HV.out H2.out Y2.out hlen).mono ?_
    rintro e w3 ⟨rfl, hb⟩
    have H3 := Lib.hid ((H2.out.below hb).more hb.size)
    have Y3 := Lib.hid ((Y2.out.below hb).more hb.size)
    have B3 := Lib.hid (B2.out.trans (hb.mono B2.out.size))
    clear H2 B2 hb Y2
    cases hh : holdsB m l y with
    | false =>
      have Hh := Lib.hid hh
      clear hh
      go_wp2
      go_ret
      exact ⟨rfl, B3.out⟩
    | true =>
      obtain ⟨a, rfl⟩ := Int.eq_ofNat_of_zero_le (show 0 ≤ i by omega)
      obtain ⟨b, rfl⟩ := Int.eq_ofNat_of_zero_le (show 0 ≤ j by omega)
      obtain ⟨hyn, hyb, hys⟩ := holds_un hh
      have hl : (low m l).2 < 0 := by
        rcases Int.lt_or_le (low m l).2 0 with h0 | h0
        · exact h0
        · exact (low_none HV.out h0 _ hys).elim
      have ham : a < m := by omega
      have hbm : b < m := by omega
      have ht := tight_val HV.out ham hbm hl
      obtain ⟨ya, hya⟩ : ∃ ya, ya = y.getD a 0 := ⟨_, rfl⟩
      obtain ⟨yb, hyb'⟩ : ∃ yb, yb = y.getD b 0 := ⟨_, rfl⟩
      have bya := hyb a ham
      have byb := hyb b hbm
      rw [← hya] at bya
      rw [← hyb'] at byb
      obtain ⟨bya1, bya2⟩ := bya
      obtain ⟨byb1, byb2⟩ := byb
      have Hya := Lib.hid hya
      have Hyb := Lib.hid hyb'
      have Ht := Lib.hid ht
      have Hyn := Lib.hid hyn
      have Hys := Lib.hid hys
      clear hh hl hyn hys hyb hya hyb' ht
      go_wp2_with fail
      refine (tight_any m A l cap a b w3 H3.out).mono ?_
      rintro e w4 ⟨he, hb⟩
      have Y4 := Lib.hid ((Y3.out.below hb).more hb.size)
      have B4 := Lib.hid (B3.out.trans (hb.mono B3.out.size))
      clear H3 B3 hb Y3
      rw [TightRes, Ht.out] at he
      cases htb : tb m l a b with
      | none =>
        rw [htb] at he
        subst he
        have Htb := Lib.hid htb
        clear htb
        go_wp2
        go_quiet (fail)
        go_wp2
        go_ret
        exact ⟨rfl, Below.drewsN B4.out _⟩
      | some wv =>
        rw [htb] at he
        subst he
        have hle : yb - ya ≤ wv := by
          have := tb_holds HV.out ham hbm htb _ Hys.out
          rw [Hya.out, Hyb.out]
          exact this
        have hyka : y[a]? = some ya := by rw [Hya.out]; simp [List.getD, List.getElem?_eq_getElem (show a < y.length by rw [Hyn.out]; exact ham)]
        have hykb : y[b]? = some yb := by rw [Hyb.out]; simp [List.getD, List.getElem?_eq_getElem (show b < y.length by rw [Hyn.out]; exact hbm)]
        obtain ⟨b1, o1, rfl, _, ca⟩ := Y4.out a _ hyka
        obtain ⟨b2, o2, e, _, cb⟩ := Y4.out b _ hykb
        injection e with e
        injection e with e1 e2
        subst e1
        subst e2
        have ew : IntKind.i64.wrap (yb - ya) = yb - ya := IntWalk.i64_in _ (by omega)
        have q1 : (a : Int) < (y.length : Int) := by rw [Hyn.out]; omega
        have q2 : (b : Int) < (y.length : Int) := by rw [Hyn.out]; omega
        have Htb := Lib.hid htb
        clear htb hyka hykb
        go_wp2
        go_quiet (fail)
        go_wp2
        go_ret
        exact ⟨by simp, Below.drewsN B4.out _⟩

end Go.Proofs.Ytaonicdpeflbbaa
