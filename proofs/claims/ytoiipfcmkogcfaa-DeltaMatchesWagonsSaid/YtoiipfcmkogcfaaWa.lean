/-
  What wagonpoolref33.SameInts and Same return: whether two lists are equal.
  Conditions: as each theorem states them.
-/
import Derived.Test.YtoiipfcmkogcfaaProg
import Derived.Test.YtoiipfcmkogcfaaTypes
import Derived.Deep.QuietTactic
import Derived.BigQuiet
namespace Go.Proofs.Ytoiipfcmkogcfaa
open Go.RowKit

theorem eq_ne_len {α : Type} [DecidableEq α] {l l' : List α} (h : l.length ≠ l'.length) : false = decide (l = l') := by
  rw [decide_eq_false (fun e => h (by rw [e]))]
theorem eq_ne_at {α : Type} [DecidableEq α] {l l' : List α} {k : Nat} {x y : α} (hx : l[k]? = some x) (hy : l'[k]? = some y) (h : x ≠ y) : false = decide (l = l') := by
  rw [decide_eq_false (fun e => h (by rw [e, hy] at hx; injection hx with hx; exact hx.symm))]
theorem eq_all {α : Type} [DecidableEq α] {l l' : List α} (hl : l.length = l'.length) (h : ∀ j : Nat, j < l.length → l[j]? = l'[j]?) : true = decide (l = l') := by
  rw [decide_eq_true]
  apply List.ext_getElem? 
  intro j
  by_cases hj : j < l.length
  · exact h j hj
  · rw [List.getElem?_eq_none (by omega), List.getElem?_eq_none (by omega)]
theorem all_more {α : Type} {l l' : List α} {k : Nat} (h : ∀ j : Nat, j < k → l[j]? = l'[j]?) (hk : l[k]? = l'[k]?) : ∀ j : Nat, j < k + 1 → l[j]? = l'[j]? := by
  intro j hj
  rcases Nat.lt_succ_iff_lt_or_eq.1 hj with h1 | rfl
  · exact h j h1
  · exact hk

set_option maxHeartbeats 400000 in
theorem sameInts_any (A A' : Option Addr) (l l' : List Int) (c c' : Nat) (w : World) (h : RdI w w.heap.size A l) (h' : RdI w w.heap.size A' l') (hm : l.length ≤ 4611686018427387904) :
    Calls Try.prog 14 #[.slice A l.length c, .slice A' l'.length c'] w fun e w' => e = .returned (.bool (decide (l = l'))) ∧ Below w.heap.size w w' := by
  by_cases hl : l.length = l'.length
  · go_enter Try.func14, Try.ntmps14
    go_wp2
    go_loopw [5] (fun i wr => ∃ k : Nat, k ≤ l.length ∧ i = .int .i64 k ∧ Hid (∀ j, j < k → l[j]? = l'[j]?) ∧ Below w.heap.size w wr)
      (fun i _ => l.length - (intOf i).toNat)
    case atStart => exact ⟨0, Nat.zero_le _, rfl, Lib.hid (fun j hj => absurd hj (by omega)), Below.refl _ _⟩
    case round =>
      obtain ⟨k, hk, rfl, hok, hb⟩ := hrel
      by_cases hlt : k < l.length
      · obtain ⟨x, hx⟩ : ∃ x, l[k]? = some x := ⟨_, List.getElem?_eq_getElem hlt⟩
        obtain ⟨y, hy⟩ : ∃ y, l'[k]? = some y := ⟨_, List.getElem?_eq_getElem (by omega)⟩
        obtain ⟨b, off, rfl, hbw, c0⟩ := h k x hx
        obtain ⟨b', off', rfl, hbw', c0'⟩ := h' k y hy
        have d0 := (hb.cell (p := ⟨b, off + k, none⟩) hbw).trans c0
        have d1 := (hb.cell (p := ⟨b', off' + k, none⟩) hbw').trans c0'
        clear c0 c0'
        have Hx := Lib.hid hx
        have Hy := Lib.hid hy
        have Hl := Lib.hid hl
        have i0 : (0 : Int) ≤ (k : Int) := by omega
        have i1 : (k : Int) < (l.length : Int) := by omega
        have i2 : (k : Int) < (l'.length : Int) := by omega
        clear hx hy hl
        by_cases hxy : x = y
        · go_wp2
          go_quiet (fail)
          go_wp2
          go_roundw
          case rel => exact ⟨k + 1, by omega, by go_num, Lib.hid (all_more hok.out (by rw [Hx.out, Hy.out, hxy])), Below.drewsN hb _⟩
          case measure => simp [intOf]; omega
        · go_wp2
          go_quiet (fail)
          go_wp2
          go_ret
          exact ⟨ret_bool (eq_ne_at Hx.out Hy.out hxy), Below.drewsN hb _⟩
      · have hkl : k = l.length := by omega
        subst hkl
        go_wp2
        go_ret
        exact ⟨ret_bool (eq_all hl hok.out), hb⟩
  · go_enter Try.func14, Try.ntmps14
    go_wp2
    go_ret
    exact ⟨ret_bool (eq_ne_len hl), Below.refl _ _⟩

end Go.Proofs.Ytoiipfcmkogcfaa
