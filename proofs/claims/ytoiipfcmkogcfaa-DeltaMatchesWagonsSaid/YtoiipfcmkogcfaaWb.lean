/-
  What wagonpoolref33.Same returns: whether two lists of changes are equal.
  Conditions: as each theorem states them.
-/
import Derived.Test.YtoiipfcmkogcfaaWa
import Derived.Test.YtoiipfcmkogcfaaEq
namespace Go.Proofs.Ytoiipfcmkogcfaa
open Go.RowKit

set_option maxHeartbeats 400000 in
theorem same_any (A A' : Option Addr) (l l' : List Dl) (c c' : Nat) (w : World) (h : RdD w w.heap.size A l) (h' : RdD w w.heap.size A' l') (hm : l.length ≤ 4611686018427387904) :
    Calls Try.prog 11 #[.slice A l.length c, .slice A' l'.length c'] w fun e w' => e = .returned (.bool (decide (l = l'))) ∧ Below w.heap.size w w' := by
  by_cases hl : l.length = l'.length
  · go_enter Try.func11, Try.ntmps11
    go_wp2
    go_loopw [5] (fun i wr => ∃ k : Nat, k ≤ l.length ∧ i = .int .i64 k ∧ Hid (∀ j, j < k → l[j]? = l'[j]?) ∧ Below w.heap.size w wr)
      (fun i _ => l.length - (intOf i).toNat)
    case atStart => exact ⟨0, Nat.zero_le _, rfl, Lib.hid (fun j hj => absurd hj (by omega)), Below.refl _ _⟩
    case round =>
      obtain ⟨k, hk, rfl, hok, hb⟩ := hrel
      by_cases hlt : k < l.length
      · obtain ⟨x, hx⟩ : ∃ x, l[k]? = some x := ⟨_, List.getElem?_eq_getElem hlt⟩
        obtain ⟨y, hy⟩ : ∃ y, l'[k]? = some y := ⟨_, List.getElem?_eq_getElem (by omega)⟩
        obtain ⟨b, off, rfl, hbw, c0⟩ := h k x hx
        obtain ⟨b', off', rfl, hbw', c0'⟩ := h' k y hy
        obtain ⟨p0, p1, p2, p3, p4, p5, p6, p7, p8⟩ := Nine.of (fun j v hv => (hb.cell (p := ⟨b, _, none⟩) hbw).trans (c0 j v hv))
        obtain ⟨q0, q1, q2, q3, q4, q5, q6, q7, q8⟩ := Nine.of (fun j v hv => (hb.cell (p := ⟨b', _, none⟩) hbw').trans (c0' j v hv))
        clear c0 c0'
        have Hx := Lib.hid hx
        have Hy := Lib.hid hy
        have Hl := Lib.hid hl
        have i0 : (0 : Int) ≤ (k : Int) := by omega
        have i1 : (k : Int) < (l.length : Int) := by omega
        have i2 : (k : Int) < (l'.length : Int) := by omega
        clear hx hy hl
        by_cases hxy : x = y
        · go_wp2
          go_quiet (fail)
          go_wp2
          go_roundw
          case rel => exact ⟨k + 1, by omega, by go_num, Lib.hid (all_more hok.out (by rw [Hx.out, Hy.out, hxy])), Below.drewsN hb _⟩
          case measure => simp [intOf]; omega
        · have hne : ∀ w' : World, (Op.equalIn 10000 70 (.agg #[.int .i64 x.kind, .int .i64 x.wagon, .int .i64 x.rr, .int .i64 x.rn, .int .i64 x.part, .int .i64 x.payer, .int .i64 x.payee, .int .i64 x.month, .int .i64 x.amount]) (.agg #[.int .i64 y.kind, .int .i64 y.wagon, .int .i64 y.rr, .int .i64 y.rn, .int .i64 y.part, .int .i64 y.payer, .int .i64 y.payee, .int .i64 y.month, .int .i64 y.amount])).run Try.prog w' = .ok false w' := fun w' => by rw [eq70, decide_eq_false hxy]
          go_wp2
          go_quiet (fail)
          go_wp2
          go_ret
          exact ⟨ret_bool (eq_ne_at Hx.out Hy.out hxy), Below.drewsN hb _⟩
      · have hkl : k = l.length := by omega
        subst hkl
        go_wp2
        go_ret
        exact ⟨ret_bool (eq_all hl hok.out), hb⟩
  · go_enter Try.func11, Try.ntmps11
    go_wp2
    go_ret
    exact ⟨ret_bool (eq_ne_len hl), Below.refl _ _⟩

end Go.Proofs.Ytoiipfcmkogcfaa
