/-
  The checked sums: money.Sum on 128 bits, wagonpoolref07.Sum in two parts; both return the sum, or ErrOverflow.
  Conditions: as each theorem states them.
-/
import Derived.Test.YtoiipfcmkogcfaaWc
import Derived.Laws.Externs
namespace Go.Proofs.Ytoiipfcmkogcfaa
open Go.RowKit

theorem add64 (x y : Int) (hx : 0 ≤ x) (hy : 0 ≤ y) (w : World) : (callFunc 40 #[.int .u64 x, .int .u64 y, .int .u64 0]).run Try.prog w =
    .ok (.value (.tuple #[.int .u64 ((x + y) % 18446744073709551616), .int .u64 ((x + y) / 18446744073709551616)])) w := by
  rw [run_callFunc_extern Try.func40 (by kernel_rfl) (by kernel_rfl) (by kernel_rfl) (e := add64Entry) (by kernel_rfl), run_add64 (P := Try.prog) x y 0 hx hy (by omega) (by omega) w]
  simp only [Result.andThen, Int.add_zero]

theorem RdI.one {w : World} {o : Obj} {a : Int} {t : TypeId} : RdI ((w.alloc o).alloc (.cells #[.int .i64 a] t)) ((w.alloc o).alloc (.cells #[.int .i64 a] t)).heap.size (some ⟨(w.alloc o).heap.size, 0, none⟩) [a] := by
  intro k x hx
  cases k with
  | zero =>
    simp at hx
    subst hx
    exact ⟨_, _, rfl, by simp, by simp⟩
  | succ k => simp at hx
theorem RdI.sole {w : World} {a : Int} {t : TypeId} : RdI (w.alloc (.cells #[.int .i64 a] t)) (w.alloc (.cells #[.int .i64 a] t)).heap.size (some ⟨w.heap.size, 0, none⟩) [a] := by
  intro k x hx
  cases k with
  | zero =>
    simp at hx
    subst hx
    exact ⟨_, _, rfl, by simp, by simp⟩
  | succ k => simp at hx

/-- The pair (value, error) of a checked number. -/
def okPair (b : Bool) (a : Int) : Array Value := if b = true then #[.int .i64 a, .int .i64 0] else #[.int .i64 0, .int .i64 3]
theorem okPair_yes {b : Bool} {a : Int} (h : b = true) : okPair b a = #[.int .i64 a, .int .i64 0] := by rw [h]; rfl
theorem okPair_no {b : Bool} {a : Int} (h : ¬ b = true) : okPair b a = #[.int .i64 0, .int .i64 3] := by unfold okPair; rw [if_neg h]

theorem ranged_any (a : Int) (w : World) :
    Calls Try.prog 41 #[.int .i64 a] w fun e w' => e = .returned (.tuple (okPair (inR a) a)) ∧ Below w.heap.size w w' := by
  by_cases ha : inR a = true
  · rw [okPair_yes ha]
    have Ha := Lib.hid ha
    clear ha
    go_enter Try.func41, Try.ntmps41
    go_wp2_with fail
    refine (in1_any a _ _ _ RdI.sole).mono ?_
    rintro e w1 ⟨rfl, hb⟩
    have ha := Ha.out
    rw [ha]
    clear ha
    go_wp2
    go_ret2
    exact ⟨rfl, (Below.refl _ _).alloc (Nat.le_refl _) _ |>.trans (hb.mono (by simp))⟩
  · rw [okPair_no ha]
    have Ha := Lib.hid ha
    clear ha
    go_enter Try.func41, Try.ntmps41
    go_wp2_with fail
    refine (in1_any a _ _ _ RdI.sole).mono ?_
    rintro e w1 ⟨rfl, hb⟩
    have ha : inR a = false := by simpa using Ha.out
    rw [ha]
    clear ha
    go_wp2
    go_ret2
    exact ⟨rfl, (Below.refl _ _).alloc (Nat.le_refl _) _ |>.trans (hb.mono (by simp))⟩

/-- The whole list is in range, and its sum. -/
def sumOk (l : List Int) : Bool := l.all inR && inR l.sum
theorem sumOk_bad {l : List Int} {k : Nat} {x : Int} (hx : l[k]? = some x) (h : ¬ inR x = true) : ¬ sumOk l = true := by
  intro e
  simp only [sumOk, Bool.and_eq_true, List.all_eq_true] at e
  exact h (e.1 x (List.mem_of_getElem? hx))
theorem take_sum {l : List Int} {k : Nat} {x : Int} (hx : l[k]? = some x) : (l.take (k + 1)).sum = (l.take k).sum + x := by
  obtain ⟨hk, rfl⟩ := List.getElem?_eq_some_iff.1 hx
  rw [List.take_add_one, List.getElem?_eq_getElem hk, List.sum_append]
  simp

def loS (S : Int) : Int := S % 18446744073709551616
def hiS (S : Int) : Int := (S / 18446744073709551616) % 18446744073709551616

theorem u64wrap (x : Int) : IntKind.u64.wrap x = x % 18446744073709551616 := by
  simp [IntKind.wrap, IntKind.bits, IntKind.signed]
theorem i64wrap_of (S : Int) : IntKind.i64.wrap (loS S) = wrap64 S := by
  simp [IntKind.wrap, IntKind.bits, IntKind.signed, wrap64, loS]
  split <;> omega
theorem hi_step {S x : Int} (h : inR x = true) : IntKind.u64.wrap (hiS S + IntKind.u64.wrap ((loS S + IntKind.u64.wrap x) / 18446744073709551616 + IntKind.u64.wrap (x / 9223372036854775808))) = hiS (S + x) := by
  have := inR_un h
  simp only [u64wrap, hiS, loS]
  have e1 : (S + x) / 18446744073709551616 = S / 18446744073709551616 + (S % 18446744073709551616 + x % 18446744073709551616) / 18446744073709551616 + x / 9223372036854775808 := by
    by_cases hx : 0 ≤ x
    · rw [Int.emod_eq_of_lt hx (by omega), Int.ediv_eq_zero_of_lt hx (by omega)]; omega
    · have : x / 9223372036854775808 = -1 := by omega
      have : x % 18446744073709551616 = x + 18446744073709551616 := by omega
      omega
  rw [e1]
  generalize S / 18446744073709551616 = q
  generalize (S % 18446744073709551616 + x % 18446744073709551616) / 18446744073709551616 = c
  generalize x / 9223372036854775808 = g
  omega
theorem lo_step {S x : Int} : (loS S + IntKind.u64.wrap x) % 18446744073709551616 = loS (S + x) := by
  simp only [u64wrap, loS]
  omega
theorem all_in_more {l : List Int} {k : Nat} {x : Int} (h : ∀ j, j < k → ∀ x, l[j]? = some x → inR x = true) (hx : l[k]? = some x) (hk : inR x = true) : ∀ j, j < k + 1 → ∀ x, l[j]? = some x → inR x = true := by
  intro j hj y hy
  rcases Nat.lt_succ_iff_lt_or_eq.1 hj with h1 | rfl
  · exact h j h1 y hy
  · rw [hx] at hy; injection hy with hy; subst hy; exact hk
theorem sum_bound : ∀ (l : List Int) (n : Nat), l.length ≤ n → (∀ x ∈ l, inR x = true) → -(9007199254740992 * n) ≤ l.sum ∧ l.sum ≤ 9007199254740992 * n
  | [], n, _, _ => by simp; omega
  | x :: r, n, hn, h => by
    have h1 := inR_un (h x (by simp))
    obtain ⟨m, rfl⟩ : ∃ m, n = m + 1 := ⟨n - 1, by simp at hn; omega⟩
    have h2 := sum_bound r m (by simpa using hn) (fun y hy => h y (by simp [hy]))
    simp only [List.sum_cons]
    omega

set_option maxHeartbeats 400000 in
theorem moneySum_any (A : Option Addr) (l : List Int) (c : Nat) (w : World) (h : RdI w w.heap.size A l) (hm : l.length ≤ 4611686018427387904) :
    Calls Try.prog 22 #[.slice A l.length c] w fun e w' => e = .returned (.tuple (okPair (sumOk l) l.sum)) ∧ Below w.heap.size w w' := by
  go_enter Try.func22, Try.ntmps22
  go_wp2
  go_loopw [4, 5, 12] (fun hi lo i wr => ∃ k : Nat, k ≤ l.length ∧ i = .int .i64 k ∧ hi = .int .u64 (hiS (l.take k).sum) ∧ lo = .int .u64 (loS (l.take k).sum) ∧ Hid (∀ j, j < k → ∀ x, l[j]? = some x → inR x = true) ∧ Below w.heap.size w wr)
    (fun _ _ i _ => l.length - (intOf i).toNat)
  case atStart => exact ⟨0, Nat.zero_le _, rfl, rfl, rfl, Lib.hid (fun j hj => absurd hj (by omega)), Below.refl _ _⟩
  case round =>
    obtain ⟨k, hk, rfl, rfl, rfl, hok, hb⟩ := hrel
    by_cases hlt : k < l.length
    · obtain ⟨x, hx⟩ : ∃ x, l[k]? = some x := ⟨_, List.getElem?_eq_getElem hlt⟩
      obtain ⟨b, off, rfl, hbw, c0⟩ := h k x hx
      have d0 := (hb.cell (p := ⟨b, off + k, none⟩) hbw).trans c0
      clear c0
      have Hx := Lib.hid hx
      clear hx
      generalize hS : (l.take k).sum = S
      have HS := Lib.hid hS
      clear hS
      by_cases hi : inR x = true
      · go_wp2_with fail
        refine (in1_any x _ _ _ RdI.sole).mono ?_
        rintro e w1 ⟨rfl, hb1⟩
        rw [hi]
        have Hi := Lib.hid hi
        clear hi
        have l0 : 0 ≤ loS S := by unfold loS; omega
        have x0 : 0 ≤ IntKind.u64.wrap x := by rw [u64wrap]; omega
        go_wp2_with (simp only [add64 _ _ l0 x0])
        go_roundw
        case rel =>
          refine ⟨k + 1, by omega, by go_num, ?_, ?_, Lib.hid (all_in_more hok.out Hx.out Hi.out), (hb.alloc hb.size _).trans (hb1.mono (by have := hb.size; simp; omega))⟩
          · rw [take_sum Hx.out, HS.out, ← hi_step Hi.out]
          · rw [take_sum Hx.out, HS.out, lo_step]
        case measure => simp [intOf]; omega
      · go_wp2_with fail
        refine (in1_any x _ _ _ RdI.sole).mono ?_
        rintro e w1 ⟨rfl, hb1⟩
        have hf : inR x = false := by simpa using hi
        rw [hf]
        have Hi := Lib.hid hi
        clear hi hf
        go_wp2
        go_ret2
        exact ⟨by rw [okPair_no (sumOk_bad Hx.out Hi.out)]; rfl, (hb.alloc hb.size _).trans (hb1.mono (by have := hb.size; simp; omega))⟩
    · have hkl : k = l.length := by omega
      subst hkl
      have hall : l.all inR = true := by
        rw [List.all_eq_true]
        intro x hx
        obtain ⟨j, hj, e⟩ := List.getElem_of_mem hx
        exact hok.out j hj x (by rw [List.getElem?_eq_getElem hj, e])
      have hbd := sum_bound l _ (Nat.le_refl _) (fun x hx => List.all_eq_true.1 hall x hx)
      simp only [List.take_length]
      clear h
      by_cases hin : -9223372036854775808 ≤ l.sum ∧ l.sum ≤ 9223372036854775807
      · have e1 : IntKind.i64.wrap (loS l.sum) = l.sum := by rw [i64wrap_of]; unfold wrap64; omega
        have e2 : IntKind.u64.wrap (l.sum / 9223372036854775808) = hiS l.sum := by rw [u64wrap]; unfold hiS; omega
        have Hs := Lib.hid (show okPair (sumOk l) l.sum = okPair (inR l.sum) l.sum by rw [sumOk, hall]; rfl)
        clear hall
        go_wp2_with fail
        refine (ranged_any l.sum _).mono ?_
        rintro e w1 ⟨rfl, hb1⟩
        by_cases hR : inR l.sum = true
        · have Hr := Lib.hid (okPair_yes (a := l.sum) hR)
          clear hR
          rw [Hr.out]
          go_wp2
          go_ret2
          exact ⟨by rw [Hs.out, Hr.out]; rfl, hb.trans (hb1.mono hb.size)⟩
        · have Hr := Lib.hid (okPair_no (a := l.sum) hR)
          clear hR
          rw [Hr.out]
          go_wp2
          go_ret2
          exact ⟨by rw [Hs.out, Hr.out]; rfl, hb.trans (hb1.mono hb.size)⟩
      · have e1 : IntKind.i64.wrap (loS l.sum) = wrap64 l.sum := i64wrap_of _
        have e2 : ¬ hiS l.sum = IntKind.u64.wrap (wrap64 l.sum / 9223372036854775808) := by rw [u64wrap]; unfold hiS wrap64; omega
        have hs : okPair (sumOk l) l.sum = #[.int .i64 0, .int .i64 3] := okPair_no (fun e => by
          simp only [sumOk, Bool.and_eq_true] at e
          have := inR_un e.2
          omega)
        have Hs := Lib.hid hs
        clear hs hall
        generalize wrap64 l.sum = T at e1 e2
        go_wp2
        go_ret2
        exact ⟨by rw [Hs.out]; rfl, hb⟩

end Go.Proofs.Ytoiipfcmkogcfaa
