/-
  delta.compare compares two slots, number by number; the sort's closure does so for two changes.
  Conditions: as each theorem states them.
-/
import Derived.Test.YtoiipfcmkogcfaaWf
import Derived.Test.YtoiipfcmkogcfaaOrd
import Derived.StillTailTactics
namespace Go.Proofs.Ytoiipfcmkogcfaa
open Go.RowKit Go.Lib Go.Sort Go.Shelf

def slotAgg (d : Dl) : Value := .agg #[.int .i64 d.kind, .int .i64 d.wagon, .int .i64 d.rr, .int .i64 d.rn, .int .i64 d.part, .int .i64 d.payer, .int .i64 d.payee, .int .i64 d.month]

theorem orF_cmp1 (a b : Int) (l : List Int) (r : Int) (h : orF l = r) : orF (compareInt a b :: l) = if a < b then -1 else if b < a then 1 else r := by
  rw [orF, h]
  unfold compareInt
  by_cases h1 : a < b
  · simp [h1]
  · by_cases h2 : b < a <;> simp [h1, h2]
theorem orF_cmp (x y : Dl) : orF [compareInt x.kind y.kind, compareInt x.wagon y.wagon, compareInt x.rr y.rr, compareInt x.rn y.rn, compareInt x.part y.part, compareInt x.payer y.payer, compareInt x.payee y.payee, compareInt x.month y.month] = cmpL x.slot y.slot := by
  simp only [Dl.slot, cmpL]
  refine orF_cmp1 _ _ _ _ (orF_cmp1 _ _ _ _ (orF_cmp1 _ _ _ _ (orF_cmp1 _ _ _ _ (orF_cmp1 _ _ _ _ (orF_cmp1 _ _ _ _ (orF_cmp1 _ _ _ _ (orF_cmp1 _ _ _ _ rfl)))))))
theorem drew_grow (w : World) (os : Array Obj) : (grow w os).drew = grow w.drew os := rfl
theorem RdI.lit {w : World} {t : TypeId} {l : List Int} : RdI (w.alloc (.cells (ints l) t)) (w.alloc (.cells (ints l) t)).heap.size (some ⟨w.heap.size, 0, none⟩) l := by
  intro k x hx
  refine ⟨_, _, rfl, by simp, ?_⟩
  rw [(Row.new w t (ints l)).cell]
  simp [ints, hx]

set_option maxRecDepth 100000 in
set_option maxHeartbeats 1000000 in
theorem compare_any (x y : Dl) (w : World) :
    Calls Try.prog 28 #[.agg #[.int .i64 x.kind, .int .i64 x.wagon, .int .i64 x.rr, .int .i64 x.rn, .int .i64 x.part, .int .i64 x.payer, .int .i64 x.payee, .int .i64 x.month], .agg #[.int .i64 y.kind, .int .i64 y.wagon, .int .i64 y.rr, .int .i64 y.rn, .int .i64 y.part, .int .i64 y.payer, .int .i64 y.payee, .int .i64 y.month]] w
      fun e w' => e = .returned (.int .i64 (cmpL x.slot y.slot)) ∧ ∃ q os', w' = grow (w.drewN q) os' := by
  obtain ⟨cf, hcf⟩ : ∃ cf : Int → Int → Int, ∀ a b, cf a b = compareInt a b := ⟨_, fun _ _ => rfl⟩
  have hcon : ∀ a b (w' : World), Calls Try.prog 47 #[.int .i64 a, .int .i64 b] w' fun e w'' => e = .returned (.int .i64 (cf a b)) ∧ w'' = w' := fun a b w' => by rw [hcf]; exact Try.cmp_Compare_int a b w'
  have Hcf := Lib.hid hcf
  clear hcf
  obtain ⟨W, hW⟩ : ∃ W, W = (w.alloc (.cells #[.int .i64 x.kind, .int .i64 x.wagon, .int .i64 x.rr, .int .i64 x.rn, .int .i64 x.part, .int .i64 x.payer, .int .i64 x.payee, .int .i64 x.month] 83)).alloc (.cells #[.int .i64 y.kind, .int .i64 y.wagon, .int .i64 y.rr, .int .i64 y.rn, .int .i64 y.part, .int .i64 y.payer, .int .i64 y.payee, .int .i64 y.month] 83) := ⟨_, rfl⟩
  have cx0 : W.drew.cell? ⟨w.heap.size, 0, none⟩ = some (.int .i64 x.kind) := by rw [hW]; simp
  have cx1 : W.drew.cell? ⟨w.heap.size, 1, none⟩ = some (.int .i64 x.wagon) := by rw [hW]; simp
  have cx2 : W.drew.cell? ⟨w.heap.size, 2, none⟩ = some (.int .i64 x.rr) := by rw [hW]; simp
  have cx3 : W.drew.cell? ⟨w.heap.size, 3, none⟩ = some (.int .i64 x.rn) := by rw [hW]; simp
  have cx4 : W.drew.cell? ⟨w.heap.size, 4, none⟩ = some (.int .i64 x.part) := by rw [hW]; simp
  have cx5 : W.drew.cell? ⟨w.heap.size, 5, none⟩ = some (.int .i64 x.payer) := by rw [hW]; simp
  have cx6 : W.drew.cell? ⟨w.heap.size, 6, none⟩ = some (.int .i64 x.payee) := by rw [hW]; simp
  have cx7 : W.drew.cell? ⟨w.heap.size, 7, none⟩ = some (.int .i64 x.month) := by rw [hW]; simp
  have cy0 : W.drew.cell? ⟨w.heap.size + 1, 0, none⟩ = some (.int .i64 y.kind) := by rw [hW]; simp
  have cy1 : W.drew.cell? ⟨w.heap.size + 1, 1, none⟩ = some (.int .i64 y.wagon) := by rw [hW]; simp
  have cy2 : W.drew.cell? ⟨w.heap.size + 1, 2, none⟩ = some (.int .i64 y.rr) := by rw [hW]; simp
  have cy3 : W.drew.cell? ⟨w.heap.size + 1, 3, none⟩ = some (.int .i64 y.rn) := by rw [hW]; simp
  have cy4 : W.drew.cell? ⟨w.heap.size + 1, 4, none⟩ = some (.int .i64 y.part) := by rw [hW]; simp
  have cy5 : W.drew.cell? ⟨w.heap.size + 1, 5, none⟩ = some (.int .i64 y.payer) := by rw [hW]; simp
  have cy6 : W.drew.cell? ⟨w.heap.size + 1, 6, none⟩ = some (.int .i64 y.payee) := by rw [hW]; simp
  have cy7 : W.drew.cell? ⟨w.heap.size + 1, 7, none⟩ = some (.int .i64 y.month) := by rw [hW]; simp
  go_enter Try.func28, Try.ntmps28
  go_wp2
  rw [← hW]
  refine wp_region_still_tail 54 (by kernel_rfl) (by kernel_rfl) ?_
  change wpStill _ _ W.drew _ _ _
  obtain ⟨V, hV⟩ : ∃ V, V = W.drew := ⟨_, rfl⟩
  rw [← hV]
  simp only [← hV] at cx0 cx1 cx2 cx3 cx4 cx5 cx6 cx7 cy0 cy1 cy2 cy3 cy4 cy5 cy6 cy7
  simp only [List.take_succ_cons, List.take_zero, List.drop_succ_cons, List.drop_zero]
  have HW := Lib.hid hW
  have HV := Lib.hid hV
  clear hW hV
  repeat still_step
  still_call (hcon _ _ _)
  repeat still_step
  still_call (hcon _ _ _)
  repeat still_step
  still_call (hcon _ _ _)
  repeat still_step
  still_call (hcon _ _ _)
  repeat still_step
  still_call (hcon _ _ _)
  repeat still_step
  still_call (hcon _ _ _)
  repeat still_step
  still_call (hcon _ _ _)
  repeat still_step
  still_call (hcon _ _ _)
  repeat still_step
  refine wpStill_nil ?_
  clear cx0 cx1 cx2 cx3 cx4 cx5 cx6 cx7 cy0 cy1 cy2 cy3 cy4 cy5 cy6 cy7
  go_wp2_with fail
  have hor := or_any (some ⟨W.heap.size, 0, none⟩) [cf x.kind y.kind, cf x.wagon y.wagon, cf x.rr y.rr, cf x.rn y.rn, cf x.part y.part, cf x.payer y.payer, cf x.payee y.payee, cf x.month y.month] 8 (W.alloc (.cells (ints [cf x.kind y.kind, cf x.wagon y.wagon, cf x.rr y.rr, cf x.rn y.rn, cf x.part y.part, cf x.payer y.payer, cf x.payee y.payee, cf x.month y.month]) 3)).drew (RdI.lit (w := W) (t := 3) (l := [cf x.kind y.kind, cf x.wagon y.wagon, cf x.rr y.rr, cf x.rn y.rn, cf x.part y.part, cf x.payer y.payer, cf x.payee y.payee, cf x.month y.month])) (by simp)
  change Calls Try.prog 46 #[.slice (some ⟨W.heap.size, 0, none⟩) 8 8] ((W.alloc (.cells #[.int .i64 (cf x.kind y.kind), .int .i64 (cf x.wagon y.wagon), .int .i64 (cf x.rr y.rr), .int .i64 (cf x.rn y.rn), .int .i64 (cf x.part y.part), .int .i64 (cf x.payer y.payer), .int .i64 (cf x.payee y.payee), .int .i64 (cf x.month y.month)] 3)).drew) _ at hor
  refine hor.mono ?_
  rintro e w1 ⟨rfl, rfl⟩
  go_wp2
  go_ret
  refine ⟨ret_int ?_, ?_⟩
  · rw [← orF_cmp]; simp only [Hcf.out]
  · rw [HW.out]
    exact ⟨1, _, by rw [alloc_eq_grow, alloc_eq_grow, alloc_eq_grow, grow_grow, grow_grow]; rfl⟩

end Go.Proofs.Ytoiipfcmkogcfaa
