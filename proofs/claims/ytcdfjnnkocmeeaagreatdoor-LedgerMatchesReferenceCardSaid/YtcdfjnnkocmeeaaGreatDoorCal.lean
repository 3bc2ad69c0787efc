/-
  calendar.Month at minute 44640.
  Conditions: as each theorem states them.
-/
import Derived.Test.YtcdfjnnkocmeeaaGreatDoorMk
import Derived.Deep.RegionWith
import Derived.Deep.RegionHeld3
namespace Go.Proofs.YtcdfjnnkocmeeaaGreatDoor
open Go.RowKit Go.Lib

def bT : List Int := [0, 31, 59, 90, 120, 151, 181, 212, 243, 273, 304, 334]
/-- The variable calendar.before reads as the days before the months. -/
def CB (w : World) : Prop := 0 < w.heap.size ∧ ∀ i, i < 12 → w.cell? ⟨0, i, none⟩ = some (.int .i64 (bT.getD i 0))
theorem CB.below {w w' : World} {B : Nat} (h : CB w) (hb : Below B w w') (hB : 0 < B) : CB w' :=
  ⟨Nat.lt_of_lt_of_le h.1 hb.size, fun i hi => (hb.cell (p := ⟨0, i, none⟩) hB).trans (h.2 i hi)⟩

def start1 (y : Int) : Int := 365 * (y - 2000) + (y - 1) / 4 - (y - 1) / 100 + (y - 1) / 400 - 484
theorem start1_any (y : Int) (w : World) (h1 : 2000 ≤ y) (h2 : y ≤ 6000) (hc : CB w) : Calls Tryz.prog 55 #[.int .i64 y, .int .i64 1] w fun e w' => e = .returned (.int .i64 (start1 y)) ∧ w' = w := by
  have c0 : w.cell? ⟨0, 0, none⟩ = some (.int .i64 0) := hc.2 0 (by decide)
  have hs : 365 * (y - 2000) + (y - 1) / 4 - (y - 1) / 100 + (y - 1) / 400 - 484 + 0 = start1 y := by unfold start1; omega
  have Hs := Lib.hid hs
  clear hs hc
  go_enter Tryz.func55, Tryz.ntmps55
  go_wp2
  go_ret
  exact ⟨ret_int (by rw [← Hs.out]; simp), rfl⟩

def start2 (m : Nat) : Int := bT.getD (m - 1) 0 + if 2 < m then 1 else 0
theorem start2_any (m : Nat) (w : World) (h1 : 2 ≤ m) (h2 : m ≤ 12) (hc : CB w) : Calls Tryz.prog 55 #[.int .i64 2000, .int .i64 m] w fun e w' => e = .returned (.int .i64 (start2 m)) ∧ w' = w := by
  have c0 : w.cell? ⟨0, m - 1, none⟩ = some (.int .i64 (bT.getD (m - 1) 0)) := hc.2 (m - 1) (by omega)
  have hbd : 0 ≤ bT.getD (m - 1) 0 ∧ bT.getD (m - 1) 0 ≤ 334 := by
    have : ∀ i, i < 12 → 0 ≤ bT.getD i 0 ∧ bT.getD i 0 ≤ 334 := by decide
    exact this (m - 1) (by omega)
  obtain ⟨b0, b1⟩ := hbd
  have hs : start2 m = bT.getD (m - 1) 0 + if 2 < m then 1 else 0 := rfl
  generalize bT.getD (m - 1) 0 = bm at c0 b0 b1 hs
  have Hs := Lib.hid hs
  clear hs hc
  have i1 : (2 : Int) ≤ (m : Int) := by omega
  have i2 : (m : Int) ≤ 12 := by omega
  have t1 : ((m : Int) - 1).toNat = m - 1 := by omega
  by_cases h : 2 < m
  · have i3 : (2 : Int) < (m : Int) := by omega
    go_enter Tryz.func55, Tryz.ntmps55
    go_wp2_with go_in
    go_ret
    exact ⟨ret_int (by rw [Hs.out, if_pos h]), rfl⟩
  · obtain rfl : m = 2 := by omega
    go_enter Tryz.func55, Tryz.ntmps55
    go_wp2_with go_in
    go_ret
    exact ⟨ret_int (by rw [Hs.out]; simp), rfl⟩

theorem CB.drewN {w : World} (h : CB w) (n : Nat) : CB (w.drewN n) := h
theorem clo54_any (k : Nat) (b : Nat) (w : World) (hk : k < 3000) (hb : w.cell? ⟨b, 0, none⟩ = some (.int .i64 31)) (hc : CB w) : Calls Tryz.prog 54 #[.int .i64 k, .pointer (some ⟨b, 0, none⟩)] w fun e w' => e = .returned (.bool true) ∧ ∃ n, w' = w.drewN n := by
  have i0 : (0 : Int) ≤ (k : Int) := by omega
  have i1 : (k : Int) < 3000 := by omega
  have Hc := Lib.hid hc
  clear hc
  have w1 : IntKind.i64.wrap (2000 + (k : Int)) = 2000 + (k : Int) := by rw [IntWalk.i64_left]; unfold wrap64; omega
  have w2 : IntKind.i64.wrap (2000 + (k : Int) + 1) = 2000 + (k : Int) + 1 := by rw [IntWalk.i64_left]; unfold wrap64; omega
  have hgt : decide (31 < start1 (2000 + (k : Int) + 1)) = true := by rw [decide_eq_true_eq]; unfold start1; omega
  go_enter Tryz.func54, Tryz.ntmps54
  go_wp2
  go_quiet ((go_at_call 55; exact Calls.quiet_of_same (start1_any _ _ (by omega) (by omega) (Hc.out.drewN _))))
  go_wp2
  go_ret
  exact ⟨rfl, _, rfl⟩
theorem clo56_any (k : Nat) (b b4 : Nat) (w : World) (hk : k < 11) (hb : w.cell? ⟨b, 0, none⟩ = some (.int .i64 31)) (hb4 : w.cell? ⟨b4, 0, none⟩ = some (.int .i64 2000)) (hc : CB w) : Calls Tryz.prog 56 #[.int .i64 k, .pointer (some ⟨b4, 0, none⟩), .pointer (some ⟨b, 0, none⟩)] w fun e w' => e = .returned (.bool (decide (1 ≤ k))) ∧ ∃ n, w' = w.drewN n := by
  have Hc := Lib.hid hc
  clear hc
  have w1 : IntKind.i64.wrap ((k : Int) + 2) = ((k + 2 : Nat) : Int) := by rw [IntWalk.i64_left]; unfold wrap64; omega
  have hgt : decide (31 < start2 (k + 2)) = decide (1 ≤ k) := by
    have : ∀ k, k < 11 → decide (31 < start2 (k + 2)) = decide (1 ≤ k) := by decide
    exact this k hk
  have Hgt := Lib.hid hgt
  clear hgt
  go_enter Tryz.func56, Tryz.ntmps56
  go_wp2
  go_quiet ((go_at_call 55; exact Calls.quiet_of_same (start2_any (k + 2) _ (by omega) (by omega) (Hc.out.drewN _))))
  go_wp2
  go_ret
  exact ⟨ret_bool Hgt.out, _, rfl⟩

theorem search54_any (b : Nat) (w : World) (hb : w.cell? ⟨b, 0, none⟩ = some (.int .i64 31)) (hc : CB w) : Calls Tryz.prog 53 #[.int .i64 3000, .func (.func 54) #[] #[.pointer (some ⟨b, 0, none⟩)]] w fun e w' => e = .returned (.int .i64 0) ∧ ∃ n, w' = w.drewN n := by
  have Hc := Lib.hid hc
  have Hb := Lib.hid hb
  clear hc hb
  go_enter Tryz.func53, Tryz.ntmps53
  go_wp2
  go_loopw [5, 6] (fun i j wr => ∃ q n : Nat, q ≤ 3000 ∧ i = .int .i64 0 ∧ j = .int .i64 q ∧ wr = w.drewN n) (fun _ j _ => (intOf j).toNat)
  case atStart => exact ⟨3000, 0, Nat.le_refl _, rfl, rfl, rfl⟩
  case round =>
    obtain ⟨q, n, hq, rfl, rfl, rfl⟩ := hrel
    by_cases hlt : 0 < q
    · have i0 : (0 : Int) < (q : Int) := by omega
      have i1 : (q : Int) ≤ 3000 := by omega
      go_wp2_with fail
      rw [show (q : Int) / 2 = ((q / 2 : Nat) : Int) from by omega]
      refine (clo54_any (q / 2) b (w.drewN n) (by omega) Hb.out (Hc.out.drewN n)).mono ?_
      rintro e w' ⟨rfl, m, rfl⟩
      rw [World.drewN_drewN]
      go_wp2
      go_roundw
      case rel => exact ⟨q / 2, n + m, by omega, rfl, rfl, rfl⟩
      case measure => simp [intOf]; omega
    · obtain rfl : q = 0 := by omega
      go_wp2
      go_ret
      exact ⟨rfl, _, rfl⟩

theorem search56_any (b b4 : Nat) (w : World) (hb : w.cell? ⟨b, 0, none⟩ = some (.int .i64 31)) (hb4 : w.cell? ⟨b4, 0, none⟩ = some (.int .i64 2000)) (hc : CB w) : Calls Tryz.prog 53 #[.int .i64 11, .func (.func 56) #[] #[.pointer (some ⟨b4, 0, none⟩), .pointer (some ⟨b, 0, none⟩)]] w fun e w' => e = .returned (.int .i64 1) ∧ ∃ n, w' = w.drewN n := by
  have Hc := Lib.hid hc
  have Hb := Lib.hid hb
  have Hb4 := Lib.hid hb4
  clear hc hb hb4
  go_enter Tryz.func53, Tryz.ntmps53
  go_wp2
  go_loopw [5, 6] (fun i j wr => ∃ p q n : Nat, p ≤ 1 ∧ 1 ≤ q ∧ q ≤ 11 ∧ i = .int .i64 p ∧ j = .int .i64 q ∧ wr = w.drewN n) (fun i j _ => (intOf j).toNat - (intOf i).toNat)
  case atStart => exact ⟨0, 11, 0, by decide, by decide, Nat.le_refl _, rfl, rfl, rfl⟩
  case round =>
    obtain ⟨p, q, n, hp, hq, hq2, rfl, rfl, rfl⟩ := hrel
    by_cases hlt : p < q
    · have i0 : (0 : Int) ≤ (p : Int) := by omega
      have i1 : (q : Int) ≤ 11 := by omega
      have i2 : (p : Int) ≤ 1 := by omega
      have i3 : (p : Int) < (q : Int) := by omega
      have i4 : (1 : Int) ≤ (q : Int) := by omega
      go_wp2_with fail
      rw [show ((p : Int) + (q : Int)) / 2 = (((p + q) / 2 : Nat) : Int) from by omega]
      refine (clo56_any ((p + q) / 2) b b4 (w.drewN n) (by omega) Hb.out Hb4.out (Hc.out.drewN n)).mono ?_
      rintro e w' ⟨rfl, m, rfl⟩
      rw [World.drewN_drewN]
      by_cases h : 1 ≤ (p + q) / 2
      · rw [decide_eq_true h]
        go_wp2
        go_roundw
        case rel => exact ⟨p, (p + q) / 2, n + m, hp, h, by omega, rfl, rfl, rfl⟩
        case measure => simp [intOf]; omega
      · rw [decide_eq_false h]
        go_wp2
        go_roundw
        case rel => exact ⟨(p + q) / 2 + 1, q, n + m, by omega, hq, hq2, by go_num, rfl, rfl⟩
        case measure => simp [intOf]; omega
    · obtain rfl : p = 1 := by omega
      obtain rfl : q = 1 := by omega
      go_wp2
      go_ret
      exact ⟨rfl, _, rfl⟩

set_option maxHeartbeats 1000000 in
theorem dateOf_any (w : World) (hc : CB w) : Calls Tryz.prog 44 #[.int .i64 31] w fun e w' => e = .returned (.tuple #[.agg #[.int .i64 2000, .int .i64 2, .int .i64 1], .int .i64 0]) ∧ Below w.heap.size w w' := by
  have Hc := Lib.hid hc
  clear hc
  go_enter Tryz.func44, Tryz.ntmps44
  go_wp2_with fail
  obtain ⟨W, hW⟩ : ∃ W, W = (w.alloc (.cells #[.int .i64 31] 3)).alloc (.cells #[.int .i64 0, .int .i64 0, .int .i64 0] 95) := ⟨_, rfl⟩
  have r0 : Row W w.heap.size 3 #[.int .i64 31] := by rw [hW]; exact (Row.new _ _ _).alloc _
  have r1 : Row W (w.heap.size + 1) 95 #[.int .i64 0, .int .i64 0, .int .i64 0] := by rw [hW]; exact Row.new1 _ _ _ _
  have hb : Below w.heap.size w W := by rw [hW]; exact ((Below.refl _ _).alloc (Nat.le_refl _) _).alloc (by simp) _
  have hcW : CB W := Hc.out.below hb Hc.out.1
  rw [← hW]
  have R0 := Lib.hid r0
  have R1 := Lib.hid r1
  have Hb := Lib.hid hb
  have HcW := Lib.hid hcW
  clear hW r0 r1 hb hcW
  refine (search54_any w.heap.size W (R0.out.cell 0) HcW.out).mono ?_
  rintro e w' ⟨rfl, n, rfl⟩
  obtain ⟨V0, hV0⟩ : ∃ V0, V0 = W.drewN n := ⟨_, rfl⟩
  have R0 : Hid (Row V0 w.heap.size 3 #[.int .i64 31]) := by rw [hV0]; exact R0
  have R1 : Hid (Row V0 (w.heap.size + 1) 95 #[.int .i64 0, .int .i64 0, .int .i64 0]) := by rw [hV0]; exact R1
  have Hb : Hid (Below w.heap.size w V0) := by rw [hV0]; exact Lib.hid (Below.drewsN Hb.out n)
  rw [← hV0]
  clear hV0 HcW
  go_wp2_with fail
  obtain ⟨V, hV⟩ : ∃ V, V = V0.alloc (.cells #[.int .i64 2000] 3) := ⟨_, rfl⟩
  obtain ⟨yb, hyb⟩ : ∃ yb, yb = V0.heap.size := ⟨_, rfl⟩
  have r0 : Row V w.heap.size 3 #[.int .i64 31] := by rw [hV]; exact R0.out.alloc _
  have r1 : Row V (w.heap.size + 1) 95 #[.int .i64 0, .int .i64 0, .int .i64 0] := by rw [hV]; exact R1.out.alloc _
  have r2 : Row V yb 3 #[.int .i64 2000] := by rw [hV, hyb]; exact Row.new V0 3 _
  have hb : Below w.heap.size w V := by rw [hV]; exact Hb.out.alloc Hb.out.size _
  have hcV : CB V := Hc.out.below hb Hc.out.1
  rw [← hV, ← hyb]
  have R0 := Lib.hid r0
  have R1 := Lib.hid r1
  have R2 := Lib.hid r2
  have Hb := Lib.hid hb
  have HcV := Lib.hid hcV
  clear hV hyb r0 r1 r2 hb hcV
  refine (search56_any w.heap.size yb V (R0.out.cell 0) (R2.out.cell 0) HcV.out).mono ?_
  rintro e w' ⟨rfl, n2, rfl⟩
  obtain ⟨U0, hU⟩ : ∃ U0, U0 = V.drewN n2 := ⟨_, rfl⟩
  have r0 : Row U0 w.heap.size 3 #[.int .i64 31] := by rw [hU]; exact R0.out
  have r1 : Row U0 (w.heap.size + 1) 95 #[.int .i64 0, .int .i64 0, .int .i64 0] := by rw [hU]; exact R1.out
  have r2 : Row U0 yb 3 #[.int .i64 2000] := by rw [hU]; exact R2.out
  have hb : Below w.heap.size w U0 := by rw [hU]; exact Below.drewsN Hb.out n2
  have hcU : CB U0 := by rw [hU]; exact HcV.out
  rw [← hU]
  have S0 : U0.cell? ⟨w.heap.size, 0, none⟩ = some (.int .i64 31) ∧ U0.cell? ⟨yb, 0, none⟩ = some (.int .i64 2000) := ⟨r0.cell 0, r2.cell 0⟩
  have hyr : yb ≠ w.heap.size + 1 := fun e => by
    have h1 := r1
    have h2 := r2
    rw [e] at h2
    have h3 := h1.symm.trans h2
    injection h3 with h3
    injection h3 with h4 h5
    exact absurd h5 (by decide)
  have S2 : ∀ a b c : Value, (((U0.setCell ⟨w.heap.size + 1, 0, none⟩ a).setCell ⟨w.heap.size + 1, 1, none⟩ b).setCell ⟨w.heap.size + 1, 2, none⟩ c).drew.cell? ⟨w.heap.size, 0, none⟩ = some (.int .i64 31) ∧ (((U0.setCell ⟨w.heap.size + 1, 0, none⟩ a).setCell ⟨w.heap.size + 1, 1, none⟩ b).setCell ⟨w.heap.size + 1, 2, none⟩ c).drew.cell? ⟨yb, 0, none⟩ = some (.int .i64 2000) := fun a b c =>
    ⟨(((r0.far (p := ⟨w.heap.size + 1, 0, none⟩) (by simp) a).far (p := ⟨w.heap.size + 1, 1, none⟩) (by simp) b).far (p := ⟨w.heap.size + 1, 2, none⟩) (by simp) c).cell 0, (((r2.far (p := ⟨w.heap.size + 1, 0, none⟩) hyr a).far (p := ⟨w.heap.size + 1, 1, none⟩) hyr b).far (p := ⟨w.heap.size + 1, 2, none⟩) hyr c).cell 0⟩
  have S1 : U0.drew.cell? ⟨w.heap.size, 0, none⟩ = some (.int .i64 31) ∧ U0.drew.cell? ⟨yb, 0, none⟩ = some (.int .i64 2000) := S0
  have u0 : U0.cell? ⟨w.heap.size + 1, 0, none⟩ = some (.int .i64 0) := r1.cell 0
  have u1 : U0.cell? ⟨w.heap.size + 1, 1, none⟩ = some (.int .i64 0) := r1.cell 1
  have u2 : U0.cell? ⟨w.heap.size + 1, 2, none⟩ = some (.int .i64 0) := r1.cell 2
  have v0 : U0.frozen? ⟨w.heap.size + 1, 0, none⟩ = false := r1.frozen 0
  have v1 : U0.frozen? ⟨w.heap.size + 1, 1, none⟩ = false := r1.frozen 1
  have v2 : U0.frozen? ⟨w.heap.size + 1, 2, none⟩ = false := r1.frozen 2
  have x0 : U0.drew.cell? ⟨w.heap.size + 1, 0, none⟩ = some (.int .i64 0) := r1.cell 0
  have x1 : U0.drew.cell? ⟨w.heap.size + 1, 1, none⟩ = some (.int .i64 0) := r1.cell 1
  have x2 : U0.drew.cell? ⟨w.heap.size + 1, 2, none⟩ = some (.int .i64 0) := r1.cell 2
  have y0 : U0.drew.frozen? ⟨w.heap.size + 1, 0, none⟩ = false := r1.frozen 0
  have y1 : U0.drew.frozen? ⟨w.heap.size + 1, 1, none⟩ = false := r1.frozen 1
  have y2 : U0.drew.frozen? ⟨w.heap.size + 1, 2, none⟩ = false := r1.frozen 2
  have R1 := Lib.hid r1
  have Hb := Lib.hid hb
  have HcU := Lib.hid hcU
  have hs2 : ∀ U1, CB U1 → Calls Tryz.prog 55 #[.int .i64 2000, .int .i64 2] U1 fun e w' => e = .returned (.int .i64 31) ∧ w' = U1 := fun U1 h1 => start2_any 2 U1 (by decide) (by decide) h1
  have Hs2 := Lib.hid (hs2 U0.drew hcU)
  clear hU r0 r1 r2 hb hcU hs2
  go_upto_region 5 with fail
  go_region_held3 (fun U => U.cell? ⟨w.heap.size, 0, none⟩ = some (.int .i64 31) ∧ U.cell? ⟨yb, 0, none⟩ = some (.int .i64 2000))
    (first | exact S0 | exact S1 | exact S2 _ _ _)
    ((go_at_call 55; refine Hs2.out.mono ?_; rintro e w1 ⟨rfl, rfl⟩))
  all_goals
    go_wp2_with fail
    have hr0 := ((R1.out.set 0 (.int .i64 2000)).set 1 (.int .i64 2)).set 2 (.int .i64 (IntKind.i64.wrap (IntKind.i64.wrap 0 + 1)))
    have hr : Row (((U0.setCell ⟨w.heap.size + 1, 0, none⟩ (.int .i64 2000)).setCell ⟨w.heap.size + 1, 1, none⟩ (.int .i64 2)).setCell ⟨w.heap.size + 1, 2, none⟩ (.int .i64 (IntKind.i64.wrap (IntKind.i64.wrap 0 + 1)))).drew (w.heap.size + 1) 95 [Value.int .i64 2000, .int .i64 2, .int .i64 1].toArray := hr0
    have hB := (((Hb.out.setCell (p := ⟨w.heap.size + 1, 0, none⟩) (by simp) (.int .i64 2000)).setCell (p := ⟨w.heap.size + 1, 1, none⟩) (by simp) (.int .i64 2)).setCell (p := ⟨w.heap.size + 1, 2, none⟩) (by simp) (.int .i64 (IntKind.i64.wrap (IntKind.i64.wrap 0 + 1)))).drew
    exact bodyPost_ret (results_row_tmp (ty := 95) rfl _ _ (w.heap.size + 1) 95 [Value.int .i64 2000, .int .i64 2, .int .i64 1] _ rfl hr Tryz.underlying95 rfl (by kernel_rfl)) rfl ⟨rfl, hB⟩

end Go.Proofs.YtcdfjnnkocmeeaaGreatDoor
