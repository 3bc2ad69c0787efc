/-
  The law's helper that compares balances with three numbers.
  Conditions: as each theorem states them.
-/
import Derived.Test.YtcdfjnnkocmeeaaGreatDoorSl
namespace Go.Proofs.YtcdfjnnkocmeeaaGreatDoor
open Go.RowKit Go.Lib

/-- The balances that are nought but at accounts 0, 1 and 16. -/
def balAt (a b d : Int) (i : Nat) : Int := if i = 0 then a else if i = 1 then b else if i = 16 then d else 0
def balL (a b d : Int) : List Int := (List.range 336).map (balAt a b d)
theorem balL_len (a b d : Int) : (balL a b d).length = 336 := by simp [balL]
theorem balL_at (a b d : Int) {k : Nat} (h : k < 336) : (balL a b d)[k]? = some (balAt a b d k) := by
  simp [balL, h]

set_option maxRecDepth 100000 in
set_option maxHeartbeats 1000000 in
theorem bal22_any (A : Option Addr) (a b d : Int) (c : Nat) (w : World) (h : RdI w w.heap.size A (balL a b d)) :
    Calls Tryz.prog 22 #[.slice A 336 c, .int .i64 0, .int .i64 a, .int .i64 b, .int .i64 d] w fun e w' => e = .returned (.bool true) ∧ w' = w := by
  have H := Lib.hid h
  clear h
  go_enter Tryz.func22, Tryz.ntmps22
  go_wp2
  go_loopw [11] (fun i wr => ∃ k : Nat, k ≤ 336 ∧ i = .int .i64 k ∧ wr = w)
    (fun i _ => 336 - (intOf i).toNat)
  case atStart => exact ⟨0, by omega, rfl, rfl⟩
  case round =>
    obtain ⟨k, hk, rfl, rfl⟩ := hrel
    by_cases hlt : k < 336
    · obtain ⟨bl, off, rfl, hbw, c0⟩ := H.out k _ (balL_at a b d hlt)
      have i0 : (0 : Int) ≤ (k : Int) := by omega
      have i1 : (k : Int) < 336 := by omega
      by_cases h0 : k = 0
      · subst h0
        have c0' : wr.cell? ⟨bl, off, none⟩ = some (.int .i64 a) := by simpa [balAt] using c0
        clear c0
        go_wp2
        go_roundw
        case rel => exact ⟨1, by omega, rfl, trivial⟩
        case measure => simp [intOf]
      · by_cases h1 : k = 1
        · subst h1
          have c0' : wr.cell? ⟨bl, off + 1, none⟩ = some (.int .i64 b) := c0
          clear c0
          go_wp2
          go_roundw
          case rel => exact ⟨2, by omega, rfl, trivial⟩
          case measure => simp [intOf]
        · by_cases h2 : k = 16
          · subst h2
            have c0' : wr.cell? ⟨bl, off + 16, none⟩ = some (.int .i64 d) := c0
            clear c0
            go_wp2
            go_roundw
            case rel => exact ⟨17, by omega, rfl, trivial⟩
            case measure => simp [intOf]
          · have c0' : wr.cell? ⟨bl, off + k, none⟩ = some (.int .i64 0) := by rw [c0, balAt, if_neg h0, if_neg h1, if_neg h2]
            have j0 : ¬ (k : Int) = 0 := by omega
            have j1 : ¬ (k : Int) = 1 := by omega
            have j2 : ¬ (k : Int) = 16 := by omega
            clear c0 h0 h1 h2
            go_wp2
            go_roundw
            case rel => exact ⟨k + 1, by omega, by go_num, trivial⟩
            case measure => simp [intOf]; omega
    · obtain rfl : k = 336 := by omega
      go_wp2
      go_ret
      exact ⟨rfl, rfl⟩
end Go.Proofs.YtcdfjnnkocmeeaaGreatDoor
