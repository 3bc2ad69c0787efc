/-
  What few, valid, and the reference functions Check and SameInts return.
  Conditions: as each theorem states them.
-/
import Derived.Test.YtaonicdpeflbbaaProg
import Derived.Test.YtaonicdpeflbbaaPlain
import Derived.Deep.QuietTactic
import Derived.BigQuiet
namespace Go.Proofs.Ytaonicdpeflbbaa
open Go.RowKit

def fewB (n : Int) (len : Nat) : Bool := decide ((n ≤ 24 ∨ 512 < n) ∧ (len ≤ 80 ∨ 4096 < len))

set_option maxHeartbeats 400000 in
theorem few_any (n : Int) (a : Option Addr) (len cap : Nat) (w : World) :
    Calls Try.prog 12 #[.int .i64 n, .slice a len cap] w fun e w' => e = .returned (.bool (fewB n len)) ∧ w = w' := by
  go_enter Try.func12, Try.ntmps12
  go_wp2
  all_goals
    go_ret
    refine ⟨ret_bool ?_, rfl⟩
    rw [Bool.eq_iff_iff]
    simp [fewB]
    omega

set_option maxHeartbeats 400000 in
theorem refcheck_any (n : Int) (A : Option Addr) (l : List Bd) (cap : Nat) (w : World) (h : RdB w w.heap.size A l) :
    Calls Try.prog 17 #[.int .i64 n, .slice A l.length cap] w fun e w' => e = .returned (.int .i64 (checkF n l)) ∧ Below w.heap.size w w' := by
  by_cases h1 : n < 1
  · go_enter Try.func17, Try.ntmps17
    go_wp2
    go_ret
    exact ⟨ret_int (checkF_neg (by omega)), Below.refl _ _⟩
  by_cases h2 : 512 < n
  · go_enter Try.func17, Try.ntmps17
    go_wp2
    go_ret
    exact ⟨ret_int (checkF_big (by omega) (.inl (by omega))), Below.refl _ _⟩
  by_cases h3 : 4096 < l.length
  · go_enter Try.func17, Try.ntmps17
    go_wp2
    go_ret
    exact ⟨ret_int (checkF_big (by omega) (.inr (by omega))), Below.refl _ _⟩
  go_enter Try.func17, Try.ntmps17
  go_wp2
  go_loopw [5] (fun i wr => ∃ k : Nat, k ≤ l.length ∧ i = .int .i64 k ∧ (∀ j, j < k → ∀ x, l[j]? = some x → okB n x = true) ∧ Below w.heap.size w wr)
    (fun i _ => l.length - (intOf i).toNat)
  case atStart => exact ⟨0, Nat.zero_le _, rfl, fun j hj => absurd hj (by omega), Below.refl _ _⟩
  case round =>
    obtain ⟨k, hk, rfl, hok, hb⟩ := hrel
    by_cases hlt : k < l.length
    · obtain ⟨x, hx⟩ : ∃ x, l[k]? = some x := ⟨_, List.getElem?_eq_getElem hlt⟩
      obtain ⟨b, off, rfl, hbw, c0, c1, c2⟩ := h k x hx
      have d0 := (hb.cell (p := ⟨b, off + k * 3, none⟩) hbw).trans c0
      have d1 := (hb.cell (p := ⟨b, off + k * 3 + 1, none⟩) hbw).trans c1
      have d2 := (hb.cell (p := ⟨b, off + k * 3 + 2, none⟩) hbw).trans c2
      clear c0 c1 c2
      have Hx := Lib.hid hx
      have Hok := Lib.hid hok
      clear hx hok
      go_wp2
      all_goals first
        | (go_ret; exact ⟨ret_int (checkF_bad (by omega) (by omega) (by omega) Hx.out (okB_no (by omega))), hb.alloc hb.size _⟩)
        | (go_roundw
           case rel => exact ⟨k + 1, by omega, by go_num, ok_more Hok.out Hx.out (okB_mk (by omega)), hb.alloc hb.size _⟩
           case measure => simp [intOf]; omega)
    · have hkl : k = l.length := by omega
      subst hkl
      have Hok := Lib.hid hok
      clear hok
      go_wp2
      go_ret
      exact ⟨ret_int (checkF_ok (by omega) (by omega) (by omega) Hok.out), hb⟩

def validB (n : Int) (l : List Bd) : Bool := decide (n ≤ 24 ∧ l.length ≤ 80 ∧ checkF n l = 0)

set_option maxHeartbeats 400000 in
theorem valid_any (n : Int) (A : Option Addr) (l : List Bd) (cap : Nat) (w : World) (h : RdB w w.heap.size A l) :
    Calls Try.prog 21 #[.int .i64 n, .slice A l.length cap] w fun e w' => e = .returned (.bool (validB n l)) ∧ Below w.heap.size w w' := by
  have H := Lib.hid h
  clear h
  go_enter Try.func21, Try.ntmps21
  go_wp2_with (go_at_call 17; refine (refcheck_any n A l cap _ H.out).mono ?_; rintro e w1 ⟨rfl, hb⟩)
  all_goals go_ret
  all_goals refine ⟨ret_bool ?_, by first | assumption | exact Below.refl _ _⟩
  all_goals rw [Bool.eq_iff_iff]
  all_goals simp [validB]
  all_goals omega

theorem eq_more {a b : List Int} {k : Nat} (h : a.take k = b.take k) {x y : Int} (hx : a[k]? = some x) (hy : b[k]? = some y) (e : x = y) : a.take (k + 1) = b.take (k + 1) := by
  rw [List.take_add_one, List.take_add_one, h, hx, hy, e]

set_option maxHeartbeats 400000 in
theorem sameInts_any (A A' : Option Addr) (a b : List Int) (cap cap' : Nat) (w : World) (ha : RdI w w.heap.size A a) (hb : RdI w w.heap.size A' b) (hl : a.length ≤ 9223372036854775807) :
    Calls Try.prog 18 #[.slice A a.length cap, .slice A' b.length cap'] w fun e w' => e = .returned (.bool (decide (a = b))) ∧ Below w.heap.size w w' := by
  by_cases hlen : a.length = b.length
  · have h1 : ((a.length : Int) != (b.length : Int)) = false := by simp [hlen]
    have Hl := Lib.hid hlen
    have Ha := Lib.hid ha
    have Hb := Lib.hid hb
    clear hlen ha hb
    go_enter Try.func18, Try.ntmps18
    go_wp2
    go_loopw [5] (fun i wr => ∃ k : Nat, k ≤ a.length ∧ i = .int .i64 k ∧ Hid (a.take k = b.take k) ∧ Below w.heap.size w wr) (fun i _ => a.length - (intOf i).toNat)
    case atStart => exact ⟨0, Nat.zero_le _, rfl, rfl, Below.refl _ _⟩
    case round =>
      obtain ⟨k, hk, rfl, heq, hbl⟩ := hrel
      by_cases hlt : k < a.length
      · have hlt' : k < b.length := by rw [← Hl.out]; exact hlt
        obtain ⟨x, hx⟩ : ∃ x, a[k]? = some x := ⟨_, List.getElem?_eq_getElem hlt⟩
        obtain ⟨y, hy⟩ : ∃ y, b[k]? = some y := ⟨_, List.getElem?_eq_getElem hlt'⟩
        obtain ⟨b1, o1, rfl, _, c1⟩ := Ha.out.below hbl k x hx
        obtain ⟨b2, o2, rfl, _, c2⟩ := Hb.out.below hbl k y hy
        have Hx := Lib.hid hx
        have Hy := Lib.hid hy
        clear hx hy
        have hk1 : (k : Int) < (a.length : Int) := by omega
        have hk2 : (k : Int) < (b.length : Int) := by omega
        by_cases hxy : x = y
        · subst hxy
          go_wp2
          go_quiet (fail)
          go_wp2
          go_roundw
          case rel => exact ⟨k + 1, by omega, by go_num, eq_more heq.out Hx.out Hy.out rfl, Below.drewsN hbl _⟩
          case measure => simp [intOf]; omega
        · have hne : (x != y) = true := by simpa using hxy
          have Hne := Lib.hid hxy
          clear hxy
          go_wp2
          go_quiet (fail)
          go_wp2
          go_ret
          refine ⟨ret_bool ?_, Below.drewsN hbl _⟩
          symm
          rw [decide_eq_false_iff_not]
          intro e
          have h2 := Hx.out
          rw [e, Hy.out] at h2
          injection h2 with h2
          exact Hne.out h2.symm
      · go_wp2
        go_ret
        refine ⟨ret_bool ?_, hbl⟩
        symm
        rw [decide_eq_true_iff]
        have h2 := heq.out
        rw [List.take_of_length_le (by omega), List.take_of_length_le (by have := Hl.out; omega)] at h2
        exact h2
  · have h1 : ((a.length : Int) != (b.length : Int)) = true := by simp; omega
    go_enter Try.func18, Try.ntmps18
    go_wp2
    go_ret
    refine ⟨ret_bool ?_, Below.refl _ _⟩
    symm
    rw [decide_eq_false_iff_not]
    intro e
    exact hlen (by rw [e])

end Go.Proofs.Ytaonicdpeflbbaa
