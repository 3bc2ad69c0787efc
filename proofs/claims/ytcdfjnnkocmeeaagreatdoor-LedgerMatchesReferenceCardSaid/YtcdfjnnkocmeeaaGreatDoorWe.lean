/-
  wagonpoolref07.Sum, in two parts: it returns the sum, or ErrOverflow.
  Conditions: as each theorem states them.
-/
import Derived.Test.YtcdfjnnkocmeeaaGreatDoorWd
namespace Go.Proofs.YtcdfjnnkocmeeaaGreatDoor
open Go.RowKit

theorem tdiv_pos {a : Int} (b : Int) (h : 0 ≤ a) : a.tdiv b = a / b := Int.tdiv_eq_ediv_of_nonneg h
theorem tdiv_neg {a : Int} (b : Int) (h : a < 0) : a.tdiv b = -((-a) / b) := by
  have e : a = -(-a) := by omega
  rw [e, Int.neg_tdiv, Int.tdiv_eq_ediv_of_nonneg (by omega), Int.neg_neg]

/-- Floor at the divisor 2^53. -/
theorem floor_any (a : Int) (w : World) (h : -9223372036854775808 ≤ a ∧ a ≤ 9223372036854775807) :
    Calls Tryz.prog 41 #[.int .i64 a, .int .i64 9007199254740992] w fun e w' => e = .returned (.int .i64 (a / 9007199254740992)) ∧ w' = w := by
  by_cases ha : 0 ≤ a
  · have e0 := tdiv_pos 9007199254740992 ha
    go_enter Tryz.func41, Tryz.ntmps41
    go_wp2
    all_goals (go_ret; refine ⟨ret_int ?_, rfl⟩; omega)
  · have e0 := tdiv_neg (a := a) 9007199254740992 (by omega)
    go_enter Tryz.func41, Tryz.ntmps41
    go_wp2
    all_goals (go_ret; refine ⟨ret_int ?_, rfl⟩; omega)

set_option maxHeartbeats 400000 in
theorem refSum_any (A : Option Addr) (l : List Int) (c : Nat) (w : World) (h : RdI w w.heap.size A l) (hm : l.length ≤ 4611686018427387904) :
    Calls Tryz.prog 27 #[.slice A l.length c] w fun e w' => e = .returned (.tuple (okPair (sumOk l) l.sum)) ∧ Below w.heap.size w w' := by
  go_enter Tryz.func27, Tryz.ntmps27
  go_wp2
  go_loopw [4, 5, 6] (fun hi lo i wr => ∃ k : Nat, k ≤ l.length ∧ i = .int .i64 k ∧ hi = .int .i64 ((l.take k).sum / 9007199254740992) ∧ lo = .int .i64 ((l.take k).sum % 9007199254740992) ∧ Hid (∀ j, j < k → ∀ x, l[j]? = some x → inR x = true) ∧ Below w.heap.size w wr)
    (fun _ _ i _ => l.length - (intOf i).toNat)
  case atStart => exact ⟨0, Nat.zero_le _, rfl, rfl, rfl, Lib.hid (fun j hj => absurd hj (by omega)), Below.refl _ _⟩
  case round =>
    obtain ⟨k, hk, rfl, rfl, rfl, hok, hb⟩ := hrel
    by_cases hlt : k < l.length
    · obtain ⟨x, hx⟩ : ∃ x, l[k]? = some x := ⟨_, List.getElem?_eq_getElem hlt⟩
      obtain ⟨b, off, rfl, hbw, c0⟩ := h k x hx
      have d0 := (hb.cell (p := ⟨b, off + k, none⟩) hbw).trans c0
      clear c0
      have hbd := sum_bound (l.take k) k (by simp; omega) (fun y hy => by
        obtain ⟨j, hj, e⟩ := List.getElem_of_mem hy
        simp at hj e
        exact hok.out j (by omega) y (by rw [List.getElem?_eq_getElem (by omega), e]))
      have Hx := Lib.hid hx
      clear hx
      generalize hS : (l.take k).sum = S at hbd ⊢
      have HS := Lib.hid hS
      clear hS
      by_cases hi : inR x = true
      · have hi' := inR_un hi
        go_wp2_with fail
        refine (in07_any x _).mono ?_
        rintro e w1 ⟨rfl, rfl⟩
        rw [hi]
        have Hi := Lib.hid hi
        clear hi
        go_wp2_with fail
        refine (floor_any _ _ (by omega)).mono ?_
        rintro e w2 ⟨rfl, rfl⟩
        have f1 : S / 9007199254740992 + (S % 9007199254740992 + x) / 9007199254740992 = (S + x) / 9007199254740992 := by omega
        have f2 : (S % 9007199254740992 + x) - (S % 9007199254740992 + x) / 9007199254740992 * 9007199254740992 = (S + x) % 9007199254740992 := by omega
        have F1 := Lib.hid f1
        have F2 := Lib.hid f2
        clear f1 f2
        go_wp2
        go_roundw
        case rel =>
          refine ⟨k + 1, by omega, by go_num, ?_, ?_, Lib.hid (all_in_more hok.out Hx.out Hi.out), hb⟩
          · rw [take_sum Hx.out, HS.out, ← F1.out]
          · rw [take_sum Hx.out, HS.out, ← F2.out]
        case measure => simp [intOf]; omega
      · go_wp2_with fail
        refine (in07_any x _).mono ?_
        rintro e w1 ⟨rfl, rfl⟩
        have hf : inR x = false := by simpa using hi
        rw [hf]
        have Hi := Lib.hid hi
        clear hi hf
        go_wp2
        go_ret2
        exact ⟨by rw [okPair_no (sumOk_bad Hx.out Hi.out)]; rfl, hb⟩
    · have hkl : k = l.length := by omega
      subst hkl
      have hall : l.all inR = true := by
        rw [List.all_eq_true]
        intro x hx
        obtain ⟨j, hj, e⟩ := List.getElem_of_mem hx
        exact hok.out j hj x (by rw [List.getElem?_eq_getElem hj, e])
      have hbd := sum_bound l _ (Nat.le_refl _) (fun x hx => List.all_eq_true.1 hall x hx)
      have Hs := Lib.hid (show okPair (sumOk l) l.sum = okPair (inR l.sum) l.sum by rw [sumOk, hall]; rfl)
      clear hall h
      simp only [List.take_length]
      obtain ⟨q, hq⟩ : ∃ q, q = l.sum / 9007199254740992 := ⟨_, rfl⟩
      obtain ⟨r, hr⟩ : ∃ r, r = l.sum % 9007199254740992 := ⟨_, rfl⟩
      rw [← hq, ← hr]
      have hS : l.sum = q * 9007199254740992 + r ∧ 0 ≤ r ∧ r < 9007199254740992 := by omega
      have HS := Lib.hid hS.1
      have r0 := hS.2.1
      have r1 := hS.2.2
      clear hq hr hS hbd
      by_cases hbad : q < -1 ∨ 1 < q ∨ (q = 1 ∧ 0 < r)
      · have Hr := Lib.hid (okPair_no (a := l.sum) (b := inR l.sum) (fun e => by have := inR_un e; have := HS.out; omega))
        rcases hbad with c1 | c1 | ⟨rfl, c1⟩
        all_goals
          go_wp2
          go_ret2
          exact ⟨by rw [Hs.out, Hr.out]; rfl, hb⟩
      · have Hr := Lib.hid (okPair_yes (a := l.sum) (b := inR l.sum) (inR_yes (by have := HS.out; omega)))
        by_cases c3 : q = 1
        · subst c3
          obtain rfl : r = 0 := by omega
          go_wp2
          go_ret2
          exact ⟨by (rw [Hs.out, Hr.out, HS.out]) <;> first | rfl | go_num | simp, hb⟩
        · have c1 : -1 ≤ q := by omega
          have c2 : q ≤ 1 := by omega
          have c4 : q = -1 ∨ q = 0 := by omega
          rcases c4 with rfl | rfl
          all_goals
            go_wp2
            go_ret2
            exact ⟨by (rw [Hs.out, Hr.out, HS.out]) <;> first | rfl | go_num | simp, hb⟩

end Go.Proofs.YtcdfjnnkocmeeaaGreatDoor
