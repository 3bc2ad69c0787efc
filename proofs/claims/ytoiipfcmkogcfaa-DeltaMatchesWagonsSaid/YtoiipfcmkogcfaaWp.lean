/-
  The reference's order of two changes, and the change that adds a line.
  Conditions: as each theorem states them.
-/
import Derived.Test.YtoiipfcmkogcfaaWi
import Derived.Test.YtoiipfcmkogcfaaWk
import Derived.Test.YtoiipfcmkogcfaaWa
import Derived.Test.YtoiipfcmkogcfaaFresh
import Derived.Deep.QuietTactic
import Derived.BigQuiet
namespace Go.Proofs.Ytoiipfcmkogcfaa
open Go.RowKit Go.Lib

theorem cmpL_lt : ∀ {a b : List Int} {k : Nat} {x y : Int}, (∀ j, j < k → a[j]? = b[j]?) → a[k]? = some x → b[k]? = some y → x < y → cmpL a b = -1
  | [], _, k, x, y, _, h, _, _ => by simp at h
  | _ :: _, [], k, x, y, _, _, h, _ => by simp at h
  | p :: a, q :: b, 0, x, y, _, h1, h2, h => by
    simp at h1 h2
    subst h1 h2
    simp [cmpL, h]
  | p :: a, q :: b, k + 1, x, y, hp, h1, h2, h => by
    have h0 := hp 0 (by omega)
    simp at h0
    subst h0
    simp only [List.getElem?_cons_succ] at h1 h2
    have := cmpL_lt (fun j hj => by have := hp (j + 1) (by omega); simpa using this) h1 h2 h
    simp [cmpL, this]
theorem cmpL_gt {a b : List Int} {k : Nat} {x y : Int} (hp : ∀ j, j < k → a[j]? = b[j]?) (h1 : a[k]? = some x) (h2 : b[k]? = some y) (h : y < x) : cmpL a b = 1 := by
  have e := cmpL_lt (fun j hj => (hp j hj).symm) h2 h1 h
  have := cmpL_neg a b
  omega

set_option maxRecDepth 100000 in
set_option maxHeartbeats 1000000 in
theorem order_any (x y : Dl) (w : World) : Calls Try.prog 48 #[.agg x.cells.toArray, .agg y.cells.toArray] w fun e w' => e = .returned (.int .i64 (cmpD x y)) ∧ Below w.heap.size w w' := by
  simp only [Dl.cells]
  go_enter Try.func48, Try.ntmps48
  go_wp2_with fail
  obtain ⟨W, hW⟩ : ∃ W, W = (((w.alloc (.cells (ints x.nums) 70)).alloc (.cells (ints y.nums) 70)).alloc (.cells (ints x.slot) 3)).alloc (.cells (ints y.slot) 3) := ⟨_, rfl⟩
  have hB : Below w.heap.size w W := by rw [hW]; exact ((((Below.refl _ _).alloc (Nat.le_refl _) _).alloc (by simp) _).alloc (by simp; omega) _).alloc (by simp; omega) _
  have hrx : Row W (w.heap.size + 1 + 1) 3 (ints x.slot) := by rw [hW]; exact (Row.newAt (by simp) _ _).alloc _
  have hry : Row W (w.heap.size + 1 + 1 + 1) 3 (ints y.slot) := by rw [hW]; exact Row.newAt (by simp) _ _
  have hWe := hW
  simp only [ints, Dl.nums, Dl.slot, List.map_cons, List.map_nil] at hWe
  rw [← hWe]
  have Hrx := Lib.hid hrx
  have Hry := Lib.hid hry
  have HB := Lib.hid hB
  clear hW hWe hB hrx hry
  go_loopw [7] (fun i wr => ∃ k : Nat, k ≤ 8 ∧ i = .int .i64 k ∧ Hid (∀ j, j < k → x.slot[j]? = y.slot[j]?) ∧ Below W.heap.size W wr)
    (fun i _ => 8 - (intOf i).toNat)
  case atStart => exact ⟨0, by omega, rfl, Lib.hid (fun j hj => absurd hj (by omega)), Below.refl _ _⟩
  case round =>
    obtain ⟨k, hk, rfl, hok, hb⟩ := hrel
    by_cases hlt : k < 8
    · obtain ⟨p, hp⟩ : ∃ p, x.slot[k]? = some p := ⟨_, List.getElem?_eq_getElem (by simp [Dl.slot]; omega)⟩
      obtain ⟨q, hq⟩ : ∃ q, y.slot[k]? = some q := ⟨_, List.getElem?_eq_getElem (by simp [Dl.slot]; omega)⟩
      have d0 : wr.cell? ⟨w.heap.size + 1 + 1, k, none⟩ = some (.int .i64 p) := by rw [(Hrx.out.below hb Hrx.out.lt).cell]; simp [ints, hp]
      have d1 : wr.cell? ⟨w.heap.size + 1 + 1 + 1, k, none⟩ = some (.int .i64 q) := by rw [(Hry.out.below hb Hry.out.lt).cell]; simp [ints, hq]
      have Hp := Lib.hid hp
      have Hq := Lib.hid hq
      have i0 : (0 : Int) ≤ (k : Int) := by omega
      have i1 : (k : Int) < 8 := by omega
      clear hp hq
      by_cases h1 : p < q
      · go_wp2
        go_quiet (fail)
        go_wp2
        go_ret
        exact ⟨ret_int (cmpL_lt hok.out Hp.out Hq.out h1).symm, HB.out.trans ((Below.drewsN hb _).mono HB.out.size)⟩
      · by_cases h2 : q < p
        · go_wp2
          go_quiet (fail)
          go_wp2
          go_quiet (fail)
          go_wp2
          go_ret
          exact ⟨ret_int (cmpL_gt hok.out Hp.out Hq.out h2).symm, HB.out.trans ((Below.drewsN (Below.drewsN hb _) _).mono HB.out.size)⟩
        · have hpq : p = q := by omega
          subst hpq
          go_wp2
          go_quiet (fail)
          go_wp2
          go_quiet (fail)
          go_wp2
          go_roundw
          case rel => exact ⟨k + 1, by omega, by go_num, Lib.hid (all_more hok.out (by rw [Hp.out, Hq.out])), Below.drewsN hb _⟩
          case measure => simp [intOf]; omega
    · obtain rfl : k = 8 := by omega
      have e : x.slot = y.slot := by
        apply List.ext_getElem?
        intro j
        by_cases hj : j < 8
        · exact hok.out j hj
        · rw [List.getElem?_eq_none (by simp [Dl.slot]; omega), List.getElem?_eq_none (by simp [Dl.slot]; omega)]
      have He := Lib.hid e
      clear e
      go_wp2
      go_ret
      exact ⟨ret_int (by rw [cmpD, He.out, cmpL_self]), HB.out.trans (hb.mono HB.out.size)⟩

end Go.Proofs.Ytoiipfcmkogcfaa
