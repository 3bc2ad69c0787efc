/-
  bits.RotateLeft32 as a function of numbers.
  Conditions: as each theorem states them.
-/
import Derived.Test.YtcdfjnnkocmeeaaGreatDoorProg
import Derived.Test.YtcdfjnnkocmeeaaGreatDoorBase
namespace Go.Proofs.YtcdfjnnkocmeeaaGreatDoor
open Go.RowKit

/-- A rotation to the left by s. -/
def rotF (x : Int) (s : Nat) : Int := bits .or .u32 (x * 2 ^ s % 4294967296) (x / 2 ^ (32 - s))

set_option maxHeartbeats 400000 in
theorem rot_any (x k : Int) (s : Nat) (w : World) (hk : bits .and .u64 (IntKind.u64.wrap k) 31 = (s : Int)) (h1 : 1 ≤ s) (h2 : s ≤ 31) :
    Calls Tryz.prog 88 #[.int .u32 x, .int .i64 k] w fun e w' => e = .returned (.int .u32 (rotF x s)) ∧ w = w' := by
  have i1 : (1 : Int) ≤ (s : Int) := by omega
  have i2 : (s : Int) ≤ 31 := by omega
  have e1 : ∀ w : World, (Op.shift .shl .u32 x .u64 (s : Int)).run Tryz.prog w = .ok (.int .u32 (IntKind.u32.wrap (x * 2 ^ s))) w := by
    intro w
    unfold Op.shift
    rw [if_neg (by omega)]
    have : min (s : Int).toNat IntKind.u32.bits = s := by simp [IntKind.bits]; omega
    simp only [this]
    rfl
  have e2 : ∀ w : World, (Op.shift .shr .u32 x .u64 (32 - (s : Int))).run Tryz.prog w = .ok (.int .u32 (x.fdiv (2 ^ (32 - s)))) w := by
    intro w
    unfold Op.shift
    rw [if_neg (by omega)]
    have : min (32 - (s : Int)).toNat IntKind.u32.bits = 32 - s := by simp [IntKind.bits]
    simp only [this]
    rfl
  have e3 : IntKind.u64.wrap (32 - (s : Int)) = 32 - (s : Int) := by rw [show IntKind.u64.wrap (32 - (s : Int)) = (32 - (s : Int)) % 18446744073709551616 from by simp [IntKind.wrap, IntKind.bits, IntKind.signed]]; omega
  go_enter Tryz.func88, Tryz.ntmps88
  go_wp2
  go_ret
  exact ⟨rfl, rfl⟩
theorem rot7 (x : Int) (w : World) : Calls Tryz.prog 88 #[.int .u32 x, .int .i64 (-7)] w fun e w' => e = .returned (.int .u32 (rotF x 25)) ∧ w = w' := rot_any x (-7) 25 w (by kernel_rfl) (by decide) (by decide)
theorem rot18 (x : Int) (w : World) : Calls Tryz.prog 88 #[.int .u32 x, .int .i64 (-18)] w fun e w' => e = .returned (.int .u32 (rotF x 14)) ∧ w = w' := rot_any x (-18) 14 w (by kernel_rfl) (by decide) (by decide)
theorem rot17 (x : Int) (w : World) : Calls Tryz.prog 88 #[.int .u32 x, .int .i64 (-17)] w fun e w' => e = .returned (.int .u32 (rotF x 15)) ∧ w = w' := rot_any x (-17) 15 w (by kernel_rfl) (by decide) (by decide)
theorem rot19 (x : Int) (w : World) : Calls Tryz.prog 88 #[.int .u32 x, .int .i64 (-19)] w fun e w' => e = .returned (.int .u32 (rotF x 13)) ∧ w = w' := rot_any x (-19) 13 w (by kernel_rfl) (by decide) (by decide)
theorem rot6 (x : Int) (w : World) : Calls Tryz.prog 88 #[.int .u32 x, .int .i64 (-6)] w fun e w' => e = .returned (.int .u32 (rotF x 26)) ∧ w = w' := rot_any x (-6) 26 w (by kernel_rfl) (by decide) (by decide)
theorem rot11 (x : Int) (w : World) : Calls Tryz.prog 88 #[.int .u32 x, .int .i64 (-11)] w fun e w' => e = .returned (.int .u32 (rotF x 21)) ∧ w = w' := rot_any x (-11) 21 w (by kernel_rfl) (by decide) (by decide)
theorem rot25 (x : Int) (w : World) : Calls Tryz.prog 88 #[.int .u32 x, .int .i64 (-25)] w fun e w' => e = .returned (.int .u32 (rotF x 7)) ∧ w = w' := rot_any x (-25) 7 w (by kernel_rfl) (by decide) (by decide)
theorem rot2 (x : Int) (w : World) : Calls Tryz.prog 88 #[.int .u32 x, .int .i64 (-2)] w fun e w' => e = .returned (.int .u32 (rotF x 30)) ∧ w = w' := rot_any x (-2) 30 w (by kernel_rfl) (by decide) (by decide)
theorem rot13 (x : Int) (w : World) : Calls Tryz.prog 88 #[.int .u32 x, .int .i64 (-13)] w fun e w' => e = .returned (.int .u32 (rotF x 19)) ∧ w = w' := rot_any x (-13) 19 w (by kernel_rfl) (by decide) (by decide)
theorem rot22 (x : Int) (w : World) : Calls Tryz.prog 88 #[.int .u32 x, .int .i64 (-22)] w fun e w' => e = .returned (.int .u32 (rotF x 10)) ∧ w = w' := rot_any x (-22) 10 w (by kernel_rfl) (by decide) (by decide)
/-- By how much a rotation by k turns to the left. -/
def shK (k : Int) : Nat := (bits .and .u64 (IntKind.u64.wrap k) 31).toNat
def okK (k : Int) : Bool := decide (bits .and .u64 (IntKind.u64.wrap k) 31 = (shK k : Int)) && decide (1 ≤ shK k) && decide (shK k ≤ 31)
def rotG (x k : Int) : Int := rotF x (shK k)
theorem rot_gen (x k : Int) (w : World) (h : okK k = true) : Calls Tryz.prog 88 #[.int .u32 x, .int .i64 k] w fun e w' => e = .returned (.int .u32 (rotG x k)) ∧ w' = w := by
  simp only [okK, Bool.and_eq_true, decide_eq_true_eq] at h
  exact (rot_any x k (shK k) w h.1.1 h.1.2 h.2).mono fun e w' hq => ⟨hq.1, hq.2.symm⟩
end Go.Proofs.YtcdfjnnkocmeeaaGreatDoor
