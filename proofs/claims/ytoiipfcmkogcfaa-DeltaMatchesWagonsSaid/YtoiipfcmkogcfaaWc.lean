/-
  The small functions on numbers: which are in range, which are accounts, division rounded down, 128-bit and two-part sums. Plain functions and walks.
  Conditions: as each theorem states them.
-/
import Derived.Test.YtoiipfcmkogcfaaProg
import Derived.Test.YtoiipfcmkogcfaaBase
import Derived.Deep.QuietTactic
import Derived.BigQuiet
namespace Go.Proofs.Ytoiipfcmkogcfaa
open Go.RowKit

def inR (a : Int) : Bool := decide (-9007199254740992 ≤ a ∧ a ≤ 9007199254740992)
theorem inR_no {a : Int} (h : ¬ (-9007199254740992 ≤ a ∧ a ≤ 9007199254740992)) : inR a = false := by simp [inR]; omega
theorem inR_yes {a : Int} (h : -9007199254740992 ≤ a ∧ a ≤ 9007199254740992) : inR a = true := by simp [inR]; omega
theorem inR_un {a : Int} (h : inR a = true) : -9007199254740992 ≤ a ∧ a ≤ 9007199254740992 := by simpa [inR] using h
theorem inR_not {a : Int} (h : ¬ inR a = true) : ¬ (-9007199254740992 ≤ a ∧ a ≤ 9007199254740992) := by simpa [inR] using h

def acct (a : Int) : Bool := decide (0 ≤ a ∧ a < 336)

theorem account_any (a : Int) (w : World) : Calls Try.prog 21 #[.int .i64 a] w fun e w' => e = .returned (.bool (acct a)) ∧ w' = w := by
  go_enter Try.func21, Try.ntmps21
  go_wp2
  all_goals (go_ret; refine ⟨ret_bool ?_, rfl⟩; simp [acct]; omega)
theorem account33_any (a : Int) (w : World) : Calls Try.prog 23 #[.int .i64 a] w fun e w' => e = .returned (.bool (acct a)) ∧ w' = w := by
  go_enter Try.func23, Try.ntmps23
  go_wp2
  all_goals (go_ret; refine ⟨ret_bool ?_, rfl⟩; simp [acct]; omega)
theorem in07_any (a : Int) (w : World) : Calls Try.prog 42 #[.int .i64 a] w fun e w' => e = .returned (.bool (inR a)) ∧ w' = w := by
  go_enter Try.func42, Try.ntmps42
  go_wp2
  all_goals (go_ret; refine ⟨ret_bool ?_, rfl⟩; simp [inR]; omega)

/-- money.in of one number. -/
theorem in1_any (a : Int) (A : Option Addr) (c : Nat) (w : World) (h : RdI w w.heap.size A [a]) :
    Calls Try.prog 39 #[.slice A 1 c] w fun e w' => e = .returned (.bool (inR a)) ∧ Below w.heap.size w w' := by
  obtain ⟨b, off, rfl, hbw, c0⟩ := h 0 a rfl
  simp only [Nat.add_zero] at c0
  by_cases ha : inR a = true
  · have hi := inR_un ha
    rw [ha]
    go_enter Try.func39, Try.ntmps39
    go_wp2
    go_loopw [7] (fun i wr => (i = .int .i64 0 ∨ i = .int .i64 1) ∧ wr = w)
      (fun i _ => 1 - (intOf i).toNat)
    case atStart => exact ⟨.inl rfl, rfl⟩
    case round =>
      obtain ⟨rfl | rfl, rfl⟩ := hrel
      · go_wp2
        go_roundw
        case rel => simp
        case measure => simp [intOf]
      · go_wp2
        go_ret
        exact ⟨rfl, Below.refl _ _⟩
  · have hi := inR_not ha
    have hf : inR a = false := by simpa using ha
    rw [hf]
    go_enter Try.func39, Try.ntmps39
    go_wp2
    go_loopw [7] (fun i wr => i = .int .i64 0 ∧ wr = w)
      (fun _ _ => 0)
    case atStart => exact ⟨rfl, rfl⟩
    case round =>
      obtain ⟨rfl, rfl⟩ := hrel
      go_wp2
      all_goals (go_ret; exact ⟨rfl, Below.refl _ _⟩)

end Go.Proofs.Ytoiipfcmkogcfaa
