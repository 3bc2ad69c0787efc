/-
  The reference's add inserts a change into a sorted list.
  Conditions: as each theorem states them.
-/
import Derived.Test.YtoiipfcmkogcfaaWp
import Derived.Test.YtoiipfcmkogcfaaWq
import Derived.Test.YtoiipfcmkogcfaaRf
import Derived.StillTailTactics
import Derived.Deep.RegionHeld3
import Derived.Deep.DeepCutAuto
import Derived.Deep.AppendLies
import Derived.Deep.QuietTactic
import Derived.BigQuiet
namespace Go.Proofs.Ytoiipfcmkogcfaa
open Go.RowKit Go.Lib

theorem le_maxLen {n : Nat} (h : n ≤ 140737488355328) : n ≤ maxLen := by
  have : maxLen = 9223372036854775807 := rfl
  omega
theorem ins_bounds {n k : Nat} (hk : k ≤ n) (hn : (n + 1) * 72 ≤ 140737488355328) : 0 + k ≤ maxLen ∧ (0 + k) * 72 ≤ 140737488355328 ∧ 0 + k + 1 ≤ maxLen ∧ (0 + k + 1) * 72 ≤ 140737488355328 ∧ 0 + k + 1 + (n - k) ≤ maxLen ∧ (0 + k + 1 + (n - k)) * 72 ≤ 140737488355328 := by
  have e : 0 + k + 1 + (n - k) = n + 1 := by omega
  have h1 : 0 + k ≤ n + 1 := by omega
  have h2 : 0 + k + 1 ≤ n + 1 := by omega
  have h3 : n + 1 ≤ 140737488355328 := Nat.le_trans (Nat.le_mul_of_pos_right _ (by decide)) hn
  rw [e]
  exact ⟨le_maxLen (Nat.le_trans h1 h3), Nat.le_trans (Nat.mul_le_mul_right _ h1) hn, le_maxLen (Nat.le_trans h2 h3), Nat.le_trans (Nat.mul_le_mul_right _ h2) hn, le_maxLen h3, hn⟩
theorem ins_len {l : List Dl} {k : Nat} {d : Dl} (hk : k ≤ l.length) : (l.take k ++ d :: l.drop k).length = 0 + k + 1 + (l.length - k) := by
  simp [Nat.min_eq_left hk]
  omega
theorem flat_set : ∀ {l : List Dl} {k : Nat} {x : Dl} (n : Int), l[k]? = some x → (flat Dl.cells l).set (k * 9 + 8) (.int .i64 n) = flat Dl.cells (l.set k (x.with n))
  | [], k, x, n, h => by simp at h
  | y :: r, 0, x, n, h => by
    simp at h
    subst h
    simp [flat, Dl.cells, Dl.with]
  | y :: r, k + 1, x, n, h => by
    simp only [List.getElem?_cons_succ] at h
    have ih := flat_set n h
    simp only [flat, List.set_cons_succ]
    have e : (k + 1) * 9 + 8 = (Dl.cells y).length + (k * 9 + 8) := by rw [Dl.cells_len]; omega
    rw [e, List.set_append_right _ _ (by omega), Nat.add_sub_cancel_left, ih]
theorem own_set {w : World} {base g c : Nat} {l : List Dl} {k : Nat} {x : Dl} (n : Int) (ho : w.ownsRow base 70 9 (.slice (some ⟨g, 0, none⟩) l.length c) l.length (flat Dl.cells l)) (hx : l[k]? = some x) :
    (w.setCell ⟨g, k * 9 + 8, none⟩ (.int .i64 n)).ownsRow base 70 9 (.slice (some ⟨g, 0, none⟩) l.length c) (l.set k (x.with n)).length (flat Dl.cells (l.set k (x.with n))) := by
  refine ⟨flat_length Dl.cells_len _, ?_⟩
  rcases ho.2 with ⟨h, _⟩ | ⟨g', c', cur, e, h1, h2, h3, h4, h5, h6⟩
  · cases h
  · injection e with e1 e2 e3
    injection e1 with e1
    injection e1 with e1
    subst e1 e3
    have hr : Row w g 70 cur := h2
    refine Or.inr ⟨g, c, cur.setIfInBounds (k * 9 + 8) (.int .i64 n), by simp, h1, hr.set _ _, by simpa using h3, h4, by simpa using h5, ?_⟩
    rw [Array.toList_setIfInBounds, List.take_set, List.length_set, h6, flat_set n hx]
theorem own_weaken {w : World} {base base' n : Nat} {v : Value} {xs : List Value} (h : w.ownsRow base' 70 9 v n xs) (hb : base ≤ base') : w.ownsRow base 70 9 v n xs := by
  refine ⟨h.1, ?_⟩
  rcases h.2 with h1 | ⟨g, c, cur, e, h1, h2⟩
  · exact Or.inl h1
  · exact Or.inr ⟨g, c, cur, e, Nat.le_trans hb h1, h2⟩

set_option maxRecDepth 100000 in
set_option maxHeartbeats 1000000 in
theorem add29_nil (d : Dl) (w : World) :
    Calls Try.prog 29 #[.slice none 0 0, .agg d.cells.toArray] w fun e w' => ∃ v', e = .returned v' ∧ w'.ownsRow w.heap.size 70 9 v' 1 (Dl.cells d) ∧ Below w.heap.size w w' := by
  simp only [Dl.cells]
  obtain ⟨W, hW⟩ : ∃ W, W = w.alloc (.cells (ints d.nums) 70) := ⟨_, rfl⟩
  have hrow : Row W w.heap.size 70 (ints d.nums) := by rw [hW]; exact Row.new _ _ _
  have hB : Below w.heap.size w W := by rw [hW]; exact (Below.refl _ _).alloc (Nat.le_refl _) _
  have hd9 : ∀ U : World, Below W.heap.size W U → Nine U w.heap.size 0 d := fun U hU => Nine.of (w := U) (fun j v hv => by rw [Nat.zero_add, (hrow.below hU hrow.lt).cell]; simpa [ints, Dl.nums, Dl.cells] using hv)
  have hwW : w.heap.size < W.heap.size := hrow.lt
  simp only [ints, Dl.nums, List.map_cons, List.map_nil] at hW
  have Hd9 := Lib.hid hd9
  have Hrow := Lib.hid hrow
  have HB := Lib.hid hB
  clear hrow hB hd9
  go_enter Try.func29, Try.ntmps29
  go_wp2_with fail
  rw [← hW]
  have HW := Lib.hid hW
  clear hW
  go_loopw [5] (fun i wr => i = .int .i64 0 ∧ Below W.heap.size W wr)
    (fun i _ => 0)
  case atStart => exact ⟨rfl, Below.refl _ _⟩
  case round =>
    obtain ⟨rfl, hb⟩ := hrel
    have Hb := Lib.hid hb
    clear hb
    obtain ⟨ii, z0, hi, hz, hsz, hby, hzs⟩ := info70
    have Hi := Lib.hid hi
    have Hz := Lib.hid hz
    have Hsz := Lib.hid hsz
    have Hby := Lib.hid hby
    have Hzs := Lib.hid hzs
    clear hi hz hsz hby hzs
    go_wp2
    go_quiet (fail)
    go_wp2
    go_quiet (fail)
    obtain ⟨q0, q1, q2, q3, q4, q5, q6, q7, q8⟩ := Hd9.out wr Hb.out
    have HbD := Lib.hid (fun n : Nat => Below.drewsN Hb.out n)
    go_wp2_with (first
      | (at_builtin; refine wpList_append_lies _ rfl _ _ 24 rfl W.heap.size 70 ii z0 9 72 Try.underlying24 Hi.out Hz.out Hsz.out Hby.out Hzs.out (by decide) (.slice none 0 0) 0 [] rfl (World.ownsRow_nil _ _ _ _) ⟨wr.heap.size, 0, none⟩ 1 1 (Dl.cells d) rfl rfl (World.news_of_block (heap_alloc_new (wr.drewN _) _)) (Dl.cells_one _) (by decide) (le_maxLen (by decide)) (by decide) (Nat.le_trans Hb.out.size (Nat.le_of_lt (by simp))) _ rfl ?_
         intro g cap w5 hown5 hgrow5 hat5 hlt5
         have hb5 : Below W.heap.size W w5 := ((HbD.out _).alloc Hb.out.size _).grown hgrow5 (Nat.le_trans Hb.out.size (Nat.le_of_lt (by simp))) (fun _ h => by cases h)
         have Hb5 := Lib.hid hb5
         have Hown5 := Lib.hid hown5
         have hcap : 1 ≤ cap := by
          rcases hown5.2 with ⟨h, _⟩ | ⟨g', c', cur, e, h1, h2, h3, _⟩
          · cases h
          · injection e with _ _ e3
            omega
         clear hown5 hgrow5 hat5 hb5 hlt5 q0 q1 q2 q3 q4 q5 q6 q7 q8)
      | go_in)
    go_ret
    have h6 : w5.ownsRow w.heap.size 70 9 _ _ _ := own_weaken Hown5.out (base := w.heap.size) (Nat.le_of_lt hwW)
    exact ⟨_, rfl, h6, HB.out.trans (Hb5.out.mono HB.out.size)⟩

set_option maxRecDepth 100000 in
set_option maxHeartbeats 1000000 in
theorem add29_any (l : List Dl) (v : Value) (d : Dl) (base : Nat) (w : World) (ho : w.ownsRow base 70 9 v l.length (flat Dl.cells l)) (hb : base ≤ w.heap.size) (hn : (l.length + 1) * 72 ≤ 140737488355328) :
    Calls Try.prog 29 #[v, .agg d.cells.toArray] w fun e w' => ∃ v', e = .returned v' ∧ w'.ownsRow base 70 9 v' (addR l d).length (flat Dl.cells (addR l d)) ∧ Below base w w' := by
  have Hb0 := Lib.hid hb
  clear hb
  rcases ho.2 with ⟨rfl, hl0⟩ | ⟨g0, c, cur, rfl, hg0, hh0, hlc, hcm, hsz0, htake0⟩
  · obtain rfl : l = [] := List.eq_nil_of_length_eq_zero hl0
    refine (add29_nil d w).mono ?_
    rintro e w' ⟨v', rfl, h1, h2⟩
    exact ⟨v', rfl, by simpa [addR, flat] using own_weaken h1 Hb0.out, h2.mono Hb0.out⟩
  · have hC : ∀ U : World, Below w.heap.size w U → ∀ (j : Nat) (u : Value), (flat Dl.cells l)[j]? = some u → U.cell? ⟨g0, j, none⟩ = some u := by
      intro U hU j u hu
      have hrow0 : Row w g0 70 cur := hh0
      rw [hU.cell (p := ⟨g0, j, none⟩) hrow0.lt, hrow0.cell]
      rw [← htake0] at hu
      have hj := (List.getElem?_eq_some_iff.1 hu).1
      simp only [List.length_take] at hj
      rw [List.getElem?_take_of_lt (by omega)] at hu
      simpa using hu
    have hx9 : ∀ U : World, Below w.heap.size w U → ∀ (k : Nat) (x : Dl), l[k]? = some x → Nine U g0 (k * 9) x := fun U hU k x hx => Nine.of (fun j v hv => hC U hU _ _ (flat_at Dl.cells_len l k x hx j v hv))
    have hF : ∀ U : World, Below w.heap.size w U → ∀ j : Nat, U.frozen? ⟨g0, j, none⟩ = false := fun U hU j => by
      have hrow0 : Row w g0 70 cur := hh0
      rw [hU.frozen (p := ⟨g0, j, none⟩) hrow0.lt]
      exact hrow0.frozen j
    have hnA : ∀ (k : Nat) (U : World), Below w.heap.size w U → ∀ (j : Nat) (u : Value), (flat Dl.cells (l.take k))[j]? = some u → U.cell? ((⟨g0, 0, none⟩ : Addr).add j) = some u := by
      intro k U hU j u hu
      rw [show (⟨g0, 0, none⟩ : Addr).add j = ⟨g0, j, none⟩ from by unfold Addr.add; split <;> simp_all]
      refine hC U hU j u ?_
      rw [← List.take_append_drop k l, flat_append, List.getElem?_append_left (List.getElem?_eq_some_iff.1 hu).1]
      exact hu
    have hnB : ∀ (k : Nat) (U : World), Below w.heap.size w U → k ≤ l.length → ∀ (j : Nat) (u : Value), (flat Dl.cells (l.drop k))[j]? = some u → U.cell? ((⟨g0, k * 9, none⟩ : Addr).add j) = some u := by
      intro k U hU hk j u hu
      rw [show (⟨g0, k * 9, none⟩ : Addr).add j = ⟨g0, k * 9 + j, none⟩ from by unfold Addr.add; split <;> simp_all]
      refine hC U hU _ u ?_
      have e : (flat Dl.cells (l.take k)).length = k * 9 := by rw [flat_length Dl.cells_len, List.length_take, Nat.min_eq_left hk]
      rw [← List.take_append_drop k l, flat_append, List.getElem?_append_right (by omega), e, Nat.add_sub_cancel_left]
      simpa using hu
    have HF := Lib.hid hF
    have HnA := Lib.hid hnA
    have HnB := Lib.hid hnB
    have HC := Lib.hid hC
    have Hx9 := Lib.hid hx9
    have Ho := Lib.hid ho
    have hglt : g0 < w.heap.size := (Array.getElem?_eq_some_iff.1 hh0).1
    clear hC hx9 hF hnA hnB hh0 htake0 ho
    simp only [Dl.cells]
    obtain ⟨W, hW⟩ : ∃ W, W = w.alloc (.cells (ints d.nums) 70) := ⟨_, rfl⟩
    have hrow : Row W w.heap.size 70 (ints d.nums) := by rw [hW]; exact Row.new _ _ _
    have hB : Below w.heap.size w W := by rw [hW]; exact (Below.refl _ _).alloc (Nat.le_refl _) _
    have hd9 : ∀ U : World, Below W.heap.size W U → Nine U w.heap.size 0 d := fun U hU => Nine.of (w := U) (fun j v hv => by rw [Nat.zero_add, (hrow.below hU hrow.lt).cell]; simpa [ints, Dl.nums, Dl.cells] using hv)
    have hwW : w.heap.size < W.heap.size := hrow.lt
    simp only [ints, Dl.nums, List.map_cons, List.map_nil] at hW
    have Hd9 := Lib.hid hd9
    have Hrow := Lib.hid hrow
    have HB := Lib.hid hB
    clear hrow hB hd9
    go_enter Try.func29, Try.ntmps29
    go_wp2_with fail
    rw [← hW]
    have HW := Lib.hid hW
    clear hW
    go_loopw [5] (fun i wr => ∃ k : Nat, k ≤ l.length ∧ i = .int .i64 k ∧ Hid (∀ j x, j < k → l[j]? = some x → cmpD x d < 0) ∧ Below W.heap.size W wr)
      (fun i _ => l.length - (intOf i).toNat)
    case atStart => exact ⟨0, Nat.zero_le _, rfl, Lib.hid (fun j x hj => absurd hj (by omega)), Below.refl _ _⟩
    case round =>
      obtain ⟨k, hk, rfl, hok, hb⟩ := hrel
      have i0 : (0 : Int) ≤ (k : Int) := by omega
      have i2 : (k : Int) ≤ (c : Int) := by omega
      have Hb := Lib.hid hb
      clear hb
      by_cases hlt : k < l.length
      · obtain ⟨x, hx⟩ : ∃ x, l[k]? = some x := ⟨_, List.getElem?_eq_getElem hlt⟩
        have i1 : (k : Int) < (l.length : Int) := by omega
        have Hx := Lib.hid hx
        clear hx
        go_wp2_with fail
        refine wp_region_still_tail 10 (by kernel_rfl) (by kernel_rfl) ?_
        change wpStill _ _ wr.drew _ _ _
        obtain ⟨V, hV⟩ : ∃ V, V = wr.drew := ⟨_, rfl⟩
        have HV := Lib.hid hV
        rw [← hV]
        obtain ⟨p0, p1, p2, p3, p4, p5, p6, p7, p8⟩ : Nine V g0 (k * 9) x := by rw [hV]; exact Hx9.out wr (HB.out.trans (Hb.out.mono HB.out.size)) k x Hx.out
        obtain ⟨q0, q1, q2, q3, q4, q5, q6, q7, q8⟩ : Nine V w.heap.size 0 d := by rw [hV]; exact Hd9.out wr Hb.out
        clear hV
        simp only [List.take_succ_cons, List.take_zero, List.drop_succ_cons, List.drop_zero]
        repeat still_step
        refine wpStill_nil ?_
        change wpList _ _ _ _ _ wr.drew
        clear p0 p1 p2 p3 p4 p5 p6 p7 p8 q0 q1 q2 q3 q4 q5 q6 q7 q8
        go_wp2_with fail
        refine (order_any x d wr.drew).mono ?_
        rintro e w1 ⟨rfl, hb1⟩
        have hbW : Below W.heap.size W w1 := (Hb.out.drew).trans (hb1.mono Hb.out.size)
        have HbW := Lib.hid hbW
        clear hbW hb1
        obtain ⟨o, hoo⟩ : ∃ o, o = cmpD x d := ⟨_, rfl⟩
        rw [← hoo]
        have Hoo := Lib.hid hoo
        clear hoo
        by_cases h1 : o < 0
        · go_wp2
          go_roundw
          case rel =>
            refine ⟨k + 1, by omega, by go_num, Lib.hid (fun j y hj hy => ?_), HbW.out⟩
            rcases Nat.lt_succ_iff_lt_or_eq.1 hj with h | rfl
            · exact hok.out j y h hy
            · rw [Hx.out] at hy
              injection hy with hy
              rw [← hy, ← Hoo.out]
              exact h1
          case measure => simp [intOf]; omega
        · go_wp2_with fail
          refine wp_region_still_tail 10 (by kernel_rfl) (by kernel_rfl) ?_
          change wpStill _ _ w1.drew _ _ _
          obtain ⟨V, hV⟩ : ∃ V, V = w1.drew := ⟨_, rfl⟩
          have HV := Lib.hid hV
          rw [← hV]
          obtain ⟨p0, p1, p2, p3, p4, p5, p6, p7, p8⟩ : Nine V g0 (k * 9) x := by rw [hV]; exact Hx9.out w1 (HB.out.trans (HbW.out.mono HB.out.size)) k x Hx.out
          obtain ⟨q0, q1, q2, q3, q4, q5, q6, q7, q8⟩ : Nine V w.heap.size 0 d := by rw [hV]; exact Hd9.out w1 HbW.out
          clear hV
          simp only [List.take_succ_cons, List.take_zero, List.drop_succ_cons, List.drop_zero]
          repeat still_step
          refine wpStill_nil ?_
          change wpList _ _ _ _ _ w1.drew
          clear p0 p1 p2 p3 p4 p5 p6 p7 p8 q0 q1 q2 q3 q4 q5 q6 q7 q8
          go_wp2_with fail
          refine (order_any x d w1.drew).mono ?_
          rintro e w2 ⟨rfl, hb2⟩
          have hbX : Below W.heap.size W w2 := (HbW.out.drew).trans (hb2.mono HbW.out.size)
          have HbX := Lib.hid hbX
          clear hbX hb2
          rw [← Hoo.out]
          by_cases h2 : o = 0
          · subst h2
            go_wp2_with fail
            refine wp_region_still_tail 10 (by kernel_rfl) (by kernel_rfl) ?_
            change wpStill _ _ w2.drew _ _ _
            obtain ⟨V, hV⟩ : ∃ V, V = w2.drew := ⟨_, rfl⟩
            have HV := Lib.hid hV
            rw [← hV]
            obtain ⟨p0, p1, p2, p3, p4, p5, p6, p7, p8⟩ : Nine V g0 (k * 9) x := by rw [hV]; exact Hx9.out w2 (HB.out.trans (HbX.out.mono HB.out.size)) k x Hx.out
            obtain ⟨q0, q1, q2, q3, q4, q5, q6, q7, q8⟩ : Nine V w.heap.size 0 d := by rw [hV]; exact Hd9.out w2 HbX.out
            clear hV
            simp only [List.take_succ_cons, List.take_zero, List.drop_succ_cons, List.drop_zero]
            repeat still_step
            refine wpStill_nil ?_
            change wpList _ _ _ _ _ w2.drew
            clear p0 p1 p2 p3 p4 p5 p6 p7 p8 q0 q1 q2 q3 q4 q5 q6 q7 q8
            have HBX := Lib.hid (HB.out.trans (HbX.out.mono HB.out.size))
            have c8 : w2.cell? ⟨g0, k * 9 + 8, none⟩ = some (.int .i64 x.amount) := (Hx9.out w2 (HB.out.trans (HbX.out.mono HB.out.size)) k x Hx.out).2.2.2.2.2.2.2.2
            have f8 : w2.frozen? ⟨g0, k * 9 + 8, none⟩ = false := HF.out w2 (HB.out.trans (HbX.out.mono HB.out.size)) _
            go_wp2
            go_ret
            have hown2 : w2.ownsRow base 70 9 (.slice (some ⟨g0, 0, none⟩) l.length c) l.length (flat Dl.cells l) := Ho.out.kept (row := none) ⟨HBX.out.os, HBX.out.tape, HBX.out.output, HBX.out.size, fun i hi _ => HBX.out.block i hi⟩ (Or.inr (by simp [Value.ownBlock]))
            have hown3 := own_set (wrap64 (x.amount + d.amount)) hown2 Hx.out
            have hbel3 : Below base w (w2.setCell ⟨g0, k * 9 + 8, none⟩ (.int .i64 (wrap64 (x.amount + d.amount)))) := (HBX.out.mono Hb0.out).setCell (p := ⟨g0, k * 9 + 8, none⟩) hg0 _
            refine ⟨.slice (some ⟨g0, 0, none⟩) l.length c, rfl, ?_, hbel3.drew⟩
            rw [addR_eq hok.out Hx.out Hoo.out.symm]
            exact hown3
          · have h3 : (o == 0) = false := by simp [h2]
            have HbD := Lib.hid HbX.out
            have Hpos := Lib.hid (show 0 < o by omega)
            obtain ⟨l1, l2, l3, l4, l5, l6⟩ := ins_bounds hk hn
            have Hl1 := Lib.hid l1
            have Hl2 := Lib.hid l2
            have Hl3 := Lib.hid l3
            have Hl4 := Lib.hid l4
            have Hl5 := Lib.hid l5
            have Hl6 := Lib.hid l6
            clear l1 l2 l3 l4 l5 l6
            have Hkl := Lib.hid hk
            obtain ⟨ii, z0, hi, hz, hsz, hby, hzs⟩ := info70
            have Hi := Lib.hid hi
            have Hz := Lib.hid hz
            have Hsz := Lib.hid hsz
            have Hby := Lib.hid hby
            have Hzs := Lib.hid hzs
            have HnC := Lib.hid (HnA.out k _ (HB.out.trans (HbD.out.mono HB.out.size)))
            clear hi hz hsz hby hzs
            go_wp2_with (first
              | (at_builtin; refine wpList_append_own _ rfl _ _ 24 rfl W.heap.size 70 ii z0 9 72 Try.underlying24 Hi.out Hz.out Hsz.out Hby.out Hzs.out (by decide) (.slice none 0 0) 0 [] rfl (World.ownsRow_nil _ _ _ _) ⟨g0, 0, none⟩ k c (flat Dl.cells (l.take k)) rfl (by rw [flat_length Dl.cells_len, List.length_take, Nat.min_eq_left Hkl.out]) HnC.out (flat_one Dl.cells_one _) Hl1.out Hl2.out HbD.out.size ?_
                 intro v1 w4 hown4 hgrow4 hiff4
                 have hb4 : Below W.heap.size W w4 := HbD.out.grown hgrow4 HbD.out.size (fun _ h => by cases h)
                 obtain ⟨q0, q1, q2, q3, q4, q5, q6, q7, q8⟩ := Hd9.out w4 hb4
                 have Hb4 := Lib.hid hb4
                 have Hown4 := Lib.hid hown4
                 clear hown4 hgrow4 hiff4 hb4)
              | (at_builtin; refine wpList_append_own _ rfl _ _ 24 rfl W.heap.size 70 ii z0 9 72 Try.underlying24 Hi.out Hz.out Hsz.out Hby.out Hzs.out (by decide) v1 (0 + k) _ rfl (Hown4.out.alloc _) ⟨w4.heap.size, 0, none⟩ 1 1 (Dl.cells d) rfl rfl (World.news_of_block (heap_alloc_new w4 _)) (Dl.cells_one _) Hl3.out Hl4.out (Nat.le_trans Hb4.out.size (Nat.le_of_lt (by simp))) ?_
                 intro v2 w5 hown5 hgrow5 hiff5
                 have hb5 : Below W.heap.size W w5 := (Hb4.out.alloc Hb4.out.size _).grown hgrow5 (Nat.le_trans Hb4.out.size (Nat.le_of_lt (by simp))) (fun _ h => (Hown4.out.lt _ h).1)
                 have Hb5 := Lib.hid hb5
                 have Hown5 := Lib.hid hown5
                 clear hown5 hgrow5 hiff5 hb5 q0 q1 q2 q3 q4 q5 q6 q7 q8)
              | (at_builtin; refine wpList_append_own _ rfl _ _ 24 rfl W.heap.size 70 ii z0 9 72 Try.underlying24 Hi.out Hz.out Hsz.out Hby.out Hzs.out (by decide) v2 (0 + k + 1) _ rfl Hown5.out ⟨g0, k * 9, none⟩ (l.length - k) (c - k) (flat Dl.cells (l.drop k)) (by first | rfl | (simp; done)) (by rw [flat_length Dl.cells_len, List.length_drop]) (HnB.out _ _ (HB.out.trans (Hb5.out.mono HB.out.size)) Hkl.out) (flat_one Dl.cells_one _) Hl5.out Hl6.out Hb5.out.size ?_
                 intro v3 w6 hown6 hgrow6 hiff6
                 have hb6 : Below W.heap.size W w6 := Hb5.out.grown hgrow6 Hb5.out.size (fun _ h => (Hown5.out.lt _ h).1)
                 have Hb6 := Lib.hid hb6
                 have Hown6 := Lib.hid hown6
                 clear hown6 hgrow6 hiff6 hb6)
              | go_in)
            go_ret
            refine ⟨_, rfl, ?_, (HB.out.trans (Hb6.out.mono HB.out.size)).mono Hb0.out⟩
            have e : addR l d = l.take k ++ d :: l.drop k := addR_new hok.out (fun y hy => by rw [Hx.out] at hy; injection hy with hy; rw [← hy, ← Hoo.out]; exact Hpos.out)
            rw [e]
            have h6 := own_weaken Hown6.out (base := base) (Nat.le_trans Hb0.out (Nat.le_of_lt hwW))
            have e1 : (l.take k ++ d :: l.drop k).length = 0 + k + 1 + (l.length - k) := ins_len Hkl.out
            have e2 : flat Dl.cells (l.take k ++ d :: l.drop k) = [] ++ flat Dl.cells (l.take k) ++ Dl.cells d ++ flat Dl.cells (l.drop k) := by simp [flat_append, flat]
            rw [e1, e2]
            exact h6
      · have Hlk0 := Lib.hid (show l.length - k = 0 by omega)
        have Hlk1 := Lib.hid (show l.length ≤ k by omega)
        have hkc : k < c ∨ c = k := by omega
        rcases hkc with hkc | rfl
        · have i3 : (k : Int) < (c : Int) := by omega
          go_wp2
          go_quiet (fail)
          go_wp2
          go_quiet (fail)
          have HbD := Lib.hid (fun n : Nat => Below.drewsN Hb.out n)
          obtain ⟨l1, l2, l3, l4, l5, l6⟩ := ins_bounds hk hn
          have Hl1 := Lib.hid l1
          have Hl2 := Lib.hid l2
          have Hl3 := Lib.hid l3
          have Hl4 := Lib.hid l4
          have Hl5 := Lib.hid l5
          have Hl6 := Lib.hid l6
          clear l1 l2 l3 l4 l5 l6
          have Hkl := Lib.hid hk
          obtain ⟨ii, z0, hi, hz, hsz, hby, hzs⟩ := info70
          have Hi := Lib.hid hi
          have Hz := Lib.hid hz
          have Hsz := Lib.hid hsz
          have Hby := Lib.hid hby
          have Hzs := Lib.hid hzs
          clear hi hz hsz hby hzs
          go_wp2_with (first
            | (at_builtin; refine wpList_append_own _ rfl _ _ 24 rfl W.heap.size 70 ii z0 9 72 Try.underlying24 Hi.out Hz.out Hsz.out Hby.out Hzs.out (by decide) (.slice none 0 0) 0 [] rfl (World.ownsRow_nil _ _ _ _) ⟨g0, 0, none⟩ k c (flat Dl.cells (l.take k)) rfl (by rw [flat_length Dl.cells_len, List.length_take, Nat.min_eq_left Hkl.out]) (HnA.out k _ (HB.out.trans ((HbD.out _).mono HB.out.size))) (flat_one Dl.cells_one _) Hl1.out Hl2.out (HbD.out _).size ?_
               intro v1 w4 hown4 hgrow4 hiff4
               have hb4 : Below W.heap.size W w4 := (HbD.out _).grown hgrow4 (HbD.out _).size (fun _ h => by cases h)
               obtain ⟨q0, q1, q2, q3, q4, q5, q6, q7, q8⟩ := Hd9.out w4 hb4
               have Hb4 := Lib.hid hb4
               have Hown4 := Lib.hid hown4
               clear hown4 hgrow4 hiff4 hb4)
            | (at_builtin; refine wpList_append_own _ rfl _ _ 24 rfl W.heap.size 70 ii z0 9 72 Try.underlying24 Hi.out Hz.out Hsz.out Hby.out Hzs.out (by decide) v1 (0 + k) _ rfl (Hown4.out.alloc _) ⟨w4.heap.size, 0, none⟩ 1 1 (Dl.cells d) rfl rfl (World.news_of_block (heap_alloc_new w4 _)) (Dl.cells_one _) Hl3.out Hl4.out (Nat.le_trans Hb4.out.size (Nat.le_of_lt (by simp))) ?_
               intro v2 w5 hown5 hgrow5 hiff5
               have hb5 : Below W.heap.size W w5 := (Hb4.out.alloc Hb4.out.size _).grown hgrow5 (Nat.le_trans Hb4.out.size (Nat.le_of_lt (by simp))) (fun _ h => (Hown4.out.lt _ h).1)
               have Hb5 := Lib.hid hb5
               have Hown5 := Lib.hid hown5
               clear hown5 hgrow5 hiff5 hb5 q0 q1 q2 q3 q4 q5 q6 q7 q8)
            | (at_builtin; refine wpList_append_own _ rfl _ _ 24 rfl W.heap.size 70 ii z0 9 72 Try.underlying24 Hi.out Hz.out Hsz.out Hby.out Hzs.out (by decide) v2 (0 + k + 1) _ rfl Hown5.out _ (l.length - k) _ (flat Dl.cells (l.drop k)) (by first | rfl | (rw [Hlk0.out]; rfl)) (by rw [flat_length Dl.cells_len, List.length_drop]) (fun jj u hu => by rw [List.drop_of_length_le Hlk1.out] at hu; simp [flat] at hu) (flat_one Dl.cells_one _) Hl5.out Hl6.out Hb5.out.size ?_
               intro v3 w6 hown6 hgrow6 hiff6
               have hb6 : Below W.heap.size W w6 := Hb5.out.grown hgrow6 Hb5.out.size (fun _ h => (Hown5.out.lt _ h).1)
               have Hb6 := Lib.hid hb6
               have Hown6 := Lib.hid hown6
               clear hown6 hgrow6 hiff6 hb6)
            | go_in)
          go_ret
          refine ⟨_, rfl, ?_, (HB.out.trans (Hb6.out.mono HB.out.size)).mono Hb0.out⟩
          have e : addR l d = l.take k ++ d :: l.drop k := addR_new hok.out (fun y hy => by rw [List.getElem?_eq_none (Nat.le_of_not_lt hlt)] at hy; cases hy)
          rw [e]
          have h6 := own_weaken Hown6.out (base := base) (Nat.le_trans Hb0.out (Nat.le_of_lt hwW))
          have e1 : (l.take k ++ d :: l.drop k).length = 0 + k + 1 + (l.length - k) := ins_len Hkl.out
          have e2 : flat Dl.cells (l.take k ++ d :: l.drop k) = [] ++ flat Dl.cells (l.take k) ++ Dl.cells d ++ flat Dl.cells (l.drop k) := by simp [flat_append, flat]
          rw [e1, e2]
          exact h6
        · go_wp2
          go_quiet (fail)
          go_wp2
          go_quiet (fail)
          have HbD := Lib.hid (fun n : Nat => Below.drewsN Hb.out n)
          obtain ⟨l1, l2, l3, l4, l5, l6⟩ := ins_bounds hk hn
          have Hl1 := Lib.hid l1
          have Hl2 := Lib.hid l2
          have Hl3 := Lib.hid l3
          have Hl4 := Lib.hid l4
          have Hl5 := Lib.hid l5
          have Hl6 := Lib.hid l6
          clear l1 l2 l3 l4 l5 l6
          have Hkl := Lib.hid hk
          obtain ⟨ii, z0, hi, hz, hsz, hby, hzs⟩ := info70
          have Hi := Lib.hid hi
          have Hz := Lib.hid hz
          have Hsz := Lib.hid hsz
          have Hby := Lib.hid hby
          have Hzs := Lib.hid hzs
          clear hi hz hsz hby hzs
          go_wp2_with (first
            | (at_builtin; refine wpList_append_own _ rfl _ _ 24 rfl W.heap.size 70 ii z0 9 72 Try.underlying24 Hi.out Hz.out Hsz.out Hby.out Hzs.out (by decide) (.slice none 0 0) 0 [] rfl (World.ownsRow_nil _ _ _ _) ⟨g0, 0, none⟩ c c (flat Dl.cells (l.take c)) rfl (by rw [flat_length Dl.cells_len, List.length_take, Nat.min_eq_left Hkl.out]) (HnA.out c _ (HB.out.trans ((HbD.out _).mono HB.out.size))) (flat_one Dl.cells_one _) Hl1.out Hl2.out (HbD.out _).size ?_
               intro v1 w4 hown4 hgrow4 hiff4
               have hb4 : Below W.heap.size W w4 := (HbD.out _).grown hgrow4 (HbD.out _).size (fun _ h => by cases h)
               obtain ⟨q0, q1, q2, q3, q4, q5, q6, q7, q8⟩ := Hd9.out w4 hb4
               have Hb4 := Lib.hid hb4
               have Hown4 := Lib.hid hown4
               clear hown4 hgrow4 hiff4 hb4)
            | (at_builtin; refine wpList_append_own _ rfl _ _ 24 rfl W.heap.size 70 ii z0 9 72 Try.underlying24 Hi.out Hz.out Hsz.out Hby.out Hzs.out (by decide) v1 (0 + c) _ rfl (Hown4.out.alloc _) ⟨w4.heap.size, 0, none⟩ 1 1 (Dl.cells d) rfl rfl (World.news_of_block (heap_alloc_new w4 _)) (Dl.cells_one _) Hl3.out Hl4.out (Nat.le_trans Hb4.out.size (Nat.le_of_lt (by simp))) ?_
               intro v2 w5 hown5 hgrow5 hiff5
               have hb5 : Below W.heap.size W w5 := (Hb4.out.alloc Hb4.out.size _).grown hgrow5 (Nat.le_trans Hb4.out.size (Nat.le_of_lt (by simp))) (fun _ h => (Hown4.out.lt _ h).1)
               have Hb5 := Lib.hid hb5
               have Hown5 := Lib.hid hown5
               clear hown5 hgrow5 hiff5 hb5 q0 q1 q2 q3 q4 q5 q6 q7 q8)
            | (at_builtin; refine wpList_append_own _ rfl _ _ 24 rfl W.heap.size 70 ii z0 9 72 Try.underlying24 Hi.out Hz.out Hsz.out Hby.out Hzs.out (by decide) v2 (0 + c + 1) _ rfl Hown5.out _ (l.length - c) _ (flat Dl.cells (l.drop c)) (by first | rfl | (rw [Hlk0.out]; rfl)) (by rw [flat_length Dl.cells_len, List.length_drop]) (fun jj u hu => by rw [List.drop_of_length_le Hlk1.out] at hu; simp [flat] at hu) (flat_one Dl.cells_one _) Hl5.out Hl6.out Hb5.out.size ?_
               intro v3 w6 hown6 hgrow6 hiff6
               have hb6 : Below W.heap.size W w6 := Hb5.out.grown hgrow6 Hb5.out.size (fun _ h => (Hown5.out.lt _ h).1)
               have Hb6 := Lib.hid hb6
               have Hown6 := Lib.hid hown6
               clear hown6 hgrow6 hiff6 hb6)
            | go_in)
          go_ret
          refine ⟨_, rfl, ?_, (HB.out.trans (Hb6.out.mono HB.out.size)).mono Hb0.out⟩
          have e : addR l d = l.take c ++ d :: l.drop c := addR_new hok.out (fun y hy => by rw [List.getElem?_eq_none (Nat.le_of_not_lt hlt)] at hy; cases hy)
          rw [e]
          have h6 := own_weaken Hown6.out (base := base) (Nat.le_trans Hb0.out (Nat.le_of_lt hwW))
          have e1 : (l.take c ++ d :: l.drop c).length = 0 + c + 1 + (l.length - c) := ins_len Hkl.out
          have e2 : flat Dl.cells (l.take c ++ d :: l.drop c) = [] ++ flat Dl.cells (l.take c) ++ Dl.cells d ++ flat Dl.cells (l.drop c) := by simp [flat_append, flat]
          rw [e1, e2]
          exact h6

end Go.Proofs.Ytoiipfcmkogcfaa
