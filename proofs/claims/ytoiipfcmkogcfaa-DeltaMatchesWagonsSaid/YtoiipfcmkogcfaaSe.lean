/-
  The reference's Field, Common and FewReports.
  Conditions: as each theorem states them.
-/
import Derived.Test.YtoiipfcmkogcfaaProg
import Derived.Test.YtoiipfcmkogcfaaRq
import Derived.Test.YtoiipfcmkogcfaaFresh
import Derived.Test.YtoiipfcmkogcfaaBs
import Derived.Deep.QuietTactic
import Derived.StillTailTactics
import Derived.Deep.DeepCutAuto
namespace Go.Proofs.Ytoiipfcmkogcfaa
open Go.RowKit Go.Lib

/-- An item's cells. -/
def itemC (r : Rp) : List Value := r.cells.drop 5
/-- The number fields, in the order of the letters. -/
def fldsR (r : Rp) : List Int := [r.wg, r.pl, r.ot, r.nu, r.fr, r.tt, r.co, r.de, r.cl, r.we, r.am]
def lettersB : List Int := [119, 112, 111, 110, 102, 116, 99, 100, 107, 103, 97]

theorem field0 (r : Rp) (w : World) : Calls Try.prog 80 #[.agg (itemC r).toArray, .int .u8 119] w fun e w' => e = .returned (.int .i64 r.wg) ∧ Below w.heap.size w w' := by
  go_enter Try.func80, Try.ntmps80
  have ci : (w.alloc (.cells (itemC r).toArray 56)).cell? ⟨w.heap.size, 3, none⟩ = some (.int .i64 r.wg) := by rw [(Row.new w 56 (itemC r).toArray).cell]; rfl
  have hb0 : Below w.heap.size w (w.alloc (.cells (itemC r).toArray 56)) := (Below.refl _ _).alloc (Nat.le_refl _) _
  have Ci := Lib.hid ci
  have Hb0 := Lib.hid hb0
  clear ci hb0
  go_upto_region 1 with fail
  refine (?_ : ∀ w1 : World, w1.cell? ⟨w.heap.size, 3, none⟩ = some (.int .i64 r.wg) ∧ Below w.heap.size w w1 → Code.wp _ _ _ _ w1) _ ⟨Ci.out, Hb0.out⟩
  rintro w1 ⟨ci, hb⟩
  have Hb := Lib.hid hb
  clear hb Ci Hb0
  go_wp2
  go_ret
  exact ⟨rfl, Hb.out⟩
theorem field1 (r : Rp) (w : World) : Calls Try.prog 80 #[.agg (itemC r).toArray, .int .u8 112] w fun e w' => e = .returned (.int .i64 r.pl) ∧ Below w.heap.size w w' := by
  go_enter Try.func80, Try.ntmps80
  have ci : (w.alloc (.cells (itemC r).toArray 56)).cell? ⟨w.heap.size, 4, none⟩ = some (.int .i64 r.pl) := by rw [(Row.new w 56 (itemC r).toArray).cell]; rfl
  have hb0 : Below w.heap.size w (w.alloc (.cells (itemC r).toArray 56)) := (Below.refl _ _).alloc (Nat.le_refl _) _
  have Ci := Lib.hid ci
  have Hb0 := Lib.hid hb0
  clear ci hb0
  go_upto_region 1 with fail
  refine (?_ : ∀ w1 : World, w1.cell? ⟨w.heap.size, 4, none⟩ = some (.int .i64 r.pl) ∧ Below w.heap.size w w1 → Code.wp _ _ _ _ w1) _ ⟨Ci.out, Hb0.out⟩
  rintro w1 ⟨ci, hb⟩
  have Hb := Lib.hid hb
  clear hb Ci Hb0
  go_wp2
  go_ret
  exact ⟨rfl, Hb.out⟩
theorem field2 (r : Rp) (w : World) : Calls Try.prog 80 #[.agg (itemC r).toArray, .int .u8 111] w fun e w' => e = .returned (.int .i64 r.ot) ∧ Below w.heap.size w w' := by
  go_enter Try.func80, Try.ntmps80
  have ci : (w.alloc (.cells (itemC r).toArray 56)).cell? ⟨w.heap.size, 5, none⟩ = some (.int .i64 r.ot) := by rw [(Row.new w 56 (itemC r).toArray).cell]; rfl
  have hb0 : Below w.heap.size w (w.alloc (.cells (itemC r).toArray 56)) := (Below.refl _ _).alloc (Nat.le_refl _) _
  have Ci := Lib.hid ci
  have Hb0 := Lib.hid hb0
  clear ci hb0
  go_upto_region 1 with fail
  refine (?_ : ∀ w1 : World, w1.cell? ⟨w.heap.size, 5, none⟩ = some (.int .i64 r.ot) ∧ Below w.heap.size w w1 → Code.wp _ _ _ _ w1) _ ⟨Ci.out, Hb0.out⟩
  rintro w1 ⟨ci, hb⟩
  have Hb := Lib.hid hb
  clear hb Ci Hb0
  go_wp2
  go_ret
  exact ⟨rfl, Hb.out⟩
theorem field3 (r : Rp) (w : World) : Calls Try.prog 80 #[.agg (itemC r).toArray, .int .u8 110] w fun e w' => e = .returned (.int .i64 r.nu) ∧ Below w.heap.size w w' := by
  go_enter Try.func80, Try.ntmps80
  have ci : (w.alloc (.cells (itemC r).toArray 56)).cell? ⟨w.heap.size, 6, none⟩ = some (.int .i64 r.nu) := by rw [(Row.new w 56 (itemC r).toArray).cell]; rfl
  have hb0 : Below w.heap.size w (w.alloc (.cells (itemC r).toArray 56)) := (Below.refl _ _).alloc (Nat.le_refl _) _
  have Ci := Lib.hid ci
  have Hb0 := Lib.hid hb0
  clear ci hb0
  go_upto_region 1 with fail
  refine (?_ : ∀ w1 : World, w1.cell? ⟨w.heap.size, 6, none⟩ = some (.int .i64 r.nu) ∧ Below w.heap.size w w1 → Code.wp _ _ _ _ w1) _ ⟨Ci.out, Hb0.out⟩
  rintro w1 ⟨ci, hb⟩
  have Hb := Lib.hid hb
  clear hb Ci Hb0
  go_wp2
  go_ret
  exact ⟨rfl, Hb.out⟩
theorem field4 (r : Rp) (w : World) : Calls Try.prog 80 #[.agg (itemC r).toArray, .int .u8 102] w fun e w' => e = .returned (.int .i64 r.fr) ∧ Below w.heap.size w w' := by
  go_enter Try.func80, Try.ntmps80
  have ci : (w.alloc (.cells (itemC r).toArray 56)).cell? ⟨w.heap.size, 7, none⟩ = some (.int .i64 r.fr) := by rw [(Row.new w 56 (itemC r).toArray).cell]; rfl
  have hb0 : Below w.heap.size w (w.alloc (.cells (itemC r).toArray 56)) := (Below.refl _ _).alloc (Nat.le_refl _) _
  have Ci := Lib.hid ci
  have Hb0 := Lib.hid hb0
  clear ci hb0
  go_upto_region 1 with fail
  refine (?_ : ∀ w1 : World, w1.cell? ⟨w.heap.size, 7, none⟩ = some (.int .i64 r.fr) ∧ Below w.heap.size w w1 → Code.wp _ _ _ _ w1) _ ⟨Ci.out, Hb0.out⟩
  rintro w1 ⟨ci, hb⟩
  have Hb := Lib.hid hb
  clear hb Ci Hb0
  go_wp2
  go_ret
  exact ⟨rfl, Hb.out⟩
theorem field5 (r : Rp) (w : World) : Calls Try.prog 80 #[.agg (itemC r).toArray, .int .u8 116] w fun e w' => e = .returned (.int .i64 r.tt) ∧ Below w.heap.size w w' := by
  go_enter Try.func80, Try.ntmps80
  have ci : (w.alloc (.cells (itemC r).toArray 56)).cell? ⟨w.heap.size, 8, none⟩ = some (.int .i64 r.tt) := by rw [(Row.new w 56 (itemC r).toArray).cell]; rfl
  have hb0 : Below w.heap.size w (w.alloc (.cells (itemC r).toArray 56)) := (Below.refl _ _).alloc (Nat.le_refl _) _
  have Ci := Lib.hid ci
  have Hb0 := Lib.hid hb0
  clear ci hb0
  go_upto_region 1 with fail
  refine (?_ : ∀ w1 : World, w1.cell? ⟨w.heap.size, 8, none⟩ = some (.int .i64 r.tt) ∧ Below w.heap.size w w1 → Code.wp _ _ _ _ w1) _ ⟨Ci.out, Hb0.out⟩
  rintro w1 ⟨ci, hb⟩
  have Hb := Lib.hid hb
  clear hb Ci Hb0
  go_wp2
  go_ret
  exact ⟨rfl, Hb.out⟩
theorem field6 (r : Rp) (w : World) : Calls Try.prog 80 #[.agg (itemC r).toArray, .int .u8 99] w fun e w' => e = .returned (.int .i64 r.co) ∧ Below w.heap.size w w' := by
  go_enter Try.func80, Try.ntmps80
  have ci : (w.alloc (.cells (itemC r).toArray 56)).cell? ⟨w.heap.size, 9, none⟩ = some (.int .i64 r.co) := by rw [(Row.new w 56 (itemC r).toArray).cell]; rfl
  have hb0 : Below w.heap.size w (w.alloc (.cells (itemC r).toArray 56)) := (Below.refl _ _).alloc (Nat.le_refl _) _
  have Ci := Lib.hid ci
  have Hb0 := Lib.hid hb0
  clear ci hb0
  go_upto_region 1 with fail
  refine (?_ : ∀ w1 : World, w1.cell? ⟨w.heap.size, 9, none⟩ = some (.int .i64 r.co) ∧ Below w.heap.size w w1 → Code.wp _ _ _ _ w1) _ ⟨Ci.out, Hb0.out⟩
  rintro w1 ⟨ci, hb⟩
  have Hb := Lib.hid hb
  clear hb Ci Hb0
  go_wp2
  go_ret
  exact ⟨rfl, Hb.out⟩
theorem field7 (r : Rp) (w : World) : Calls Try.prog 80 #[.agg (itemC r).toArray, .int .u8 100] w fun e w' => e = .returned (.int .i64 r.de) ∧ Below w.heap.size w w' := by
  go_enter Try.func80, Try.ntmps80
  have ci : (w.alloc (.cells (itemC r).toArray 56)).cell? ⟨w.heap.size, 10, none⟩ = some (.int .i64 r.de) := by rw [(Row.new w 56 (itemC r).toArray).cell]; rfl
  have hb0 : Below w.heap.size w (w.alloc (.cells (itemC r).toArray 56)) := (Below.refl _ _).alloc (Nat.le_refl _) _
  have Ci := Lib.hid ci
  have Hb0 := Lib.hid hb0
  clear ci hb0
  go_upto_region 1 with fail
  refine (?_ : ∀ w1 : World, w1.cell? ⟨w.heap.size, 10, none⟩ = some (.int .i64 r.de) ∧ Below w.heap.size w w1 → Code.wp _ _ _ _ w1) _ ⟨Ci.out, Hb0.out⟩
  rintro w1 ⟨ci, hb⟩
  have Hb := Lib.hid hb
  clear hb Ci Hb0
  go_wp2
  go_ret
  exact ⟨rfl, Hb.out⟩
theorem field8 (r : Rp) (w : World) : Calls Try.prog 80 #[.agg (itemC r).toArray, .int .u8 107] w fun e w' => e = .returned (.int .i64 r.cl) ∧ Below w.heap.size w w' := by
  go_enter Try.func80, Try.ntmps80
  have ci : (w.alloc (.cells (itemC r).toArray 56)).cell? ⟨w.heap.size, 11, none⟩ = some (.int .i64 r.cl) := by rw [(Row.new w 56 (itemC r).toArray).cell]; rfl
  have hb0 : Below w.heap.size w (w.alloc (.cells (itemC r).toArray 56)) := (Below.refl _ _).alloc (Nat.le_refl _) _
  have Ci := Lib.hid ci
  have Hb0 := Lib.hid hb0
  clear ci hb0
  go_upto_region 1 with fail
  refine (?_ : ∀ w1 : World, w1.cell? ⟨w.heap.size, 11, none⟩ = some (.int .i64 r.cl) ∧ Below w.heap.size w w1 → Code.wp _ _ _ _ w1) _ ⟨Ci.out, Hb0.out⟩
  rintro w1 ⟨ci, hb⟩
  have Hb := Lib.hid hb
  clear hb Ci Hb0
  go_wp2
  go_ret
  exact ⟨rfl, Hb.out⟩
theorem field9 (r : Rp) (w : World) : Calls Try.prog 80 #[.agg (itemC r).toArray, .int .u8 103] w fun e w' => e = .returned (.int .i64 r.we) ∧ Below w.heap.size w w' := by
  go_enter Try.func80, Try.ntmps80
  have ci : (w.alloc (.cells (itemC r).toArray 56)).cell? ⟨w.heap.size, 12, none⟩ = some (.int .i64 r.we) := by rw [(Row.new w 56 (itemC r).toArray).cell]; rfl
  have hb0 : Below w.heap.size w (w.alloc (.cells (itemC r).toArray 56)) := (Below.refl _ _).alloc (Nat.le_refl _) _
  have Ci := Lib.hid ci
  have Hb0 := Lib.hid hb0
  clear ci hb0
  go_upto_region 1 with fail
  refine (?_ : ∀ w1 : World, w1.cell? ⟨w.heap.size, 12, none⟩ = some (.int .i64 r.we) ∧ Below w.heap.size w w1 → Code.wp _ _ _ _ w1) _ ⟨Ci.out, Hb0.out⟩
  rintro w1 ⟨ci, hb⟩
  have Hb := Lib.hid hb
  clear hb Ci Hb0
  go_wp2
  go_ret
  exact ⟨rfl, Hb.out⟩
theorem field10 (r : Rp) (w : World) : Calls Try.prog 80 #[.agg (itemC r).toArray, .int .u8 97] w fun e w' => e = .returned (.int .i64 r.am) ∧ Below w.heap.size w w' := by
  go_enter Try.func80, Try.ntmps80
  have ci : (w.alloc (.cells (itemC r).toArray 56)).cell? ⟨w.heap.size, 13, none⟩ = some (.int .i64 r.am) := by rw [(Row.new w 56 (itemC r).toArray).cell]; rfl
  have hb0 : Below w.heap.size w (w.alloc (.cells (itemC r).toArray 56)) := (Below.refl _ _).alloc (Nat.le_refl _) _
  have Ci := Lib.hid ci
  have Hb0 := Lib.hid hb0
  clear ci hb0
  go_upto_region 1 with fail
  refine (?_ : ∀ w1 : World, w1.cell? ⟨w.heap.size, 13, none⟩ = some (.int .i64 r.am) ∧ Below w.heap.size w w1 → Code.wp _ _ _ _ w1) _ ⟨Ci.out, Hb0.out⟩
  rintro w1 ⟨ci, hb⟩
  have Hb := Lib.hid hb
  clear hb Ci Hb0
  go_wp2
  go_ret
  exact ⟨rfl, Hb.out⟩
theorem field_any (r : Rp) {i : Nat} (hi : i < 11) {c x : Int} (hc : lettersB[i]? = some c) (hx : (fldsR r)[i]? = some x) (w : World) : Calls Try.prog 80 #[.agg (itemC r).toArray, .int .u8 c] w fun e w' => e = .returned (.int .i64 x) ∧ Below w.heap.size w w' := by
  rcases (show i = 0 ∨ i = 1 ∨ i = 2 ∨ i = 3 ∨ i = 4 ∨ i = 5 ∨ i = 6 ∨ i = 7 ∨ i = 8 ∨ i = 9 ∨ i = 10 by omega) with rfl | rfl | rfl | rfl | rfl | rfl | rfl | rfl | rfl | rfl | rfl
  · obtain rfl : (119 : Int) = c := Option.some.inj hc
    obtain rfl : r.wg = x := Option.some.inj hx
    exact field0 r w
  · obtain rfl : (112 : Int) = c := Option.some.inj hc
    obtain rfl : r.pl = x := Option.some.inj hx
    exact field1 r w
  · obtain rfl : (111 : Int) = c := Option.some.inj hc
    obtain rfl : r.ot = x := Option.some.inj hx
    exact field2 r w
  · obtain rfl : (110 : Int) = c := Option.some.inj hc
    obtain rfl : r.nu = x := Option.some.inj hx
    exact field3 r w
  · obtain rfl : (102 : Int) = c := Option.some.inj hc
    obtain rfl : r.fr = x := Option.some.inj hx
    exact field4 r w
  · obtain rfl : (116 : Int) = c := Option.some.inj hc
    obtain rfl : r.tt = x := Option.some.inj hx
    exact field5 r w
  · obtain rfl : (99 : Int) = c := Option.some.inj hc
    obtain rfl : r.co = x := Option.some.inj hx
    exact field6 r w
  · obtain rfl : (100 : Int) = c := Option.some.inj hc
    obtain rfl : r.de = x := Option.some.inj hx
    exact field7 r w
  · obtain rfl : (107 : Int) = c := Option.some.inj hc
    obtain rfl : r.cl = x := Option.some.inj hx
    exact field8 r w
  · obtain rfl : (103 : Int) = c := Option.some.inj hc
    obtain rfl : r.we = x := Option.some.inj hx
    exact field9 r w
  · obtain rfl : (97 : Int) = c := Option.some.inj hc
    obtain rfl : r.am = x := Option.some.inj hx
    exact field10 r w

set_option maxRecDepth 100000 in
theorem few_any (l : List Rp) (A : Option Addr) (c : Nat) (w : World) (hl : RdE Rp.cells 21 w w.heap.size A l) :
    Calls Try.prog 15 #[.slice A l.length c, .int .i64 40] w fun e w' => e = .returned (.bool (decide (l.length ≤ 40) && l.all fun r => decide (r.pts.length ≤ 40) && decide (r.tx.size ≤ 2000))) ∧ w' = w := by
  have Hl := Lib.hid hl
  clear hl
  by_cases h40 : 40 < l.length
  · have e : (decide (l.length ≤ 40) && l.all fun r => decide (r.pts.length ≤ 40) && decide (r.tx.size ≤ 2000)) = false := by rw [decide_eq_false (by omega)]; rfl
    have E := Lib.hid e
    clear e
    go_enter Try.func15, Try.ntmps15
    go_wp2
    go_ret
    exact ⟨by rw [E.out]; rfl, rfl⟩
  · have h41 : (l.length : Int) ≤ 40 := by omega
    have e : (decide (l.length ≤ 40) && l.all fun r => decide (r.pts.length ≤ 40) && decide (r.tx.size ≤ 2000)) = (l.all fun r => decide (r.pts.length ≤ 40) && decide (r.tx.size ≤ 2000)) := by rw [decide_eq_true (by omega)]; rfl
    rw [e]
    clear e
    go_enter Try.func15, Try.ntmps15
    go_wp2_with fail
    go_loopw [5] (fun i wr => ∃ k : Nat, k ≤ l.length ∧ i = .int .i64 k ∧ wr = w ∧ Hid (∀ j, j < k → ∀ r, l[j]? = some r → (decide (r.pts.length ≤ 40) && decide (r.tx.size ≤ 2000)) = true))
      (fun i _ => l.length - (intOf i).toNat)
    case atStart => exact ⟨0, Nat.zero_le _, rfl, rfl, Lib.hid (fun j hj => absurd hj (by omega))⟩
    case round =>
      obtain ⟨k, hk, rfl, rfl, hin⟩ := hrel
      by_cases hlt : k < l.length
      · obtain ⟨r, hr⟩ : ∃ r, l[k]? = some r := ⟨_, List.getElem?_eq_getElem hlt⟩
        obtain ⟨b, off, rfl, hbw, cx⟩ := Hl.out k r hr
        have p20 : wr.cell? ⟨b, off + k * 21 + 20, none⟩ = some (.slice r.A r.pts.length r.cap) := cx 20 _ rfl
        have p19 : wr.cell? ⟨b, off + k * 21 + 19, none⟩ = some (.string r.tx) := cx 19 _ rfl
        have i0 : (0 : Int) ≤ (k : Int) := by omega
        have i2 : (k : Int) < (l.length : Int) := by omega
        have Hr := Lib.hid hr
        clear hr cx
        by_cases c1 : 40 < r.pts.length
        · have hf : (l.all fun r => decide (r.pts.length ≤ 40) && decide (r.tx.size ≤ 2000)) = false := by
            rw [List.all_eq_false]
            exact ⟨r, List.mem_of_getElem? Hr.out, by simp; omega⟩
          have Hf := Lib.hid hf
          clear hf
          go_wp2
          go_ret
          exact ⟨by rw [Hf.out]; rfl, rfl⟩
        · have c1' : (r.pts.length : Int) ≤ 40 := by omega
          by_cases c2 : 2000 < r.tx.size
          · have hf : (l.all fun r => decide (r.pts.length ≤ 40) && decide (r.tx.size ≤ 2000)) = false := by
              rw [List.all_eq_false]
              exact ⟨r, List.mem_of_getElem? Hr.out, by simp; omega⟩
            have Hf := Lib.hid hf
            clear hf
            go_wp2
            go_ret
            exact ⟨by rw [Hf.out]; rfl, rfl⟩
          · have c2' : (r.tx.size : Int) ≤ 2000 := by omega
            have hg : (decide (r.pts.length ≤ 40) && decide (r.tx.size ≤ 2000)) = true := by simp; omega
            have Hg := Lib.hid hg
            clear hg
            go_wp2
            go_roundw
            case rel =>
              refine ⟨k + 1, by omega, by go_num, trivial, Lib.hid ?_⟩
              intro j hj r' hr'
              rcases Nat.lt_succ_iff_lt_or_eq.1 hj with h | rfl
              · exact hin.out j h r' hr'
              · rw [Hr.out] at hr'
                injection hr' with hr'
                rw [← hr']
                exact Hg.out
            case measure => simp [intOf]; omega
      · obtain rfl : k = l.length := by omega
        have hf : (l.all fun r => decide (r.pts.length ≤ 40) && decide (r.tx.size ≤ 2000)) = true := by
          rw [List.all_eq_true]
          intro r hr
          obtain ⟨j, hj, e⟩ := List.getElem_of_mem hr
          exact hin.out j hj r (by rw [List.getElem?_eq_getElem hj, e])
        have Hf := Lib.hid hf
        clear hf
        go_wp2
        go_ret
        exact ⟨by rw [Hf.out]; rfl, rfl⟩
end Go.Proofs.Ytoiipfcmkogcfaa
