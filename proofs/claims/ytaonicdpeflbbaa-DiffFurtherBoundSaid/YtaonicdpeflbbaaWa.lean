/-
  What diff.Check returns for every system: the plain checkF.
  Conditions: as each theorem states them.
-/
import Derived.Test.YtaonicdpeflbbaaProg
import Derived.Test.YtaonicdpeflbbaaBase
namespace Go.Proofs.Ytaonicdpeflbbaa
open Go.RowKit

set_option maxHeartbeats 400000 in
theorem check_any (n : Int) (A : Option Addr) (l : List Bd) (cap : Nat) (w : World) (h : RdB w w.heap.size A l) :
    Calls Try.prog 13 #[.int .i64 n, .slice A l.length cap] w fun e w' => e = .returned (.int .i64 (checkF n l)) ∧ Below w.heap.size w w' := by
  by_cases h1 : n < 1
  · go_enter Try.func13, Try.ntmps13
    go_wp2
    go_ret
    exact ⟨ret_int (checkF_neg (by omega)), Below.refl _ _⟩
  by_cases h2 : 512 < n
  · go_enter Try.func13, Try.ntmps13
    go_wp2
    go_ret
    exact ⟨ret_int (checkF_big (by omega) (.inl (by omega))), Below.refl _ _⟩
  by_cases h3 : 4096 < l.length
  · go_enter Try.func13, Try.ntmps13
    go_wp2
    go_ret
    exact ⟨ret_int (checkF_big (by omega) (.inr (by omega))), Below.refl _ _⟩
  go_enter Try.func13, Try.ntmps13
  go_wp2
  go_loopw [18] (fun i wr => ∃ k : Nat, k ≤ l.length ∧ i = .int .i64 k ∧ (∀ j, j < k → ∀ x, l[j]? = some x → okB n x = true) ∧ Below w.heap.size w wr)
    (fun i _ => l.length - (intOf i).toNat)
  case atStart => exact ⟨0, Nat.zero_le _, rfl, fun j hj => absurd hj (by omega), Below.refl _ _⟩
  case round =>
    obtain ⟨k, hk, rfl, hok, hb⟩ := hrel
    by_cases hlt : k < l.length
    · obtain ⟨x, hx⟩ : ∃ x, l[k]? = some x := ⟨_, List.getElem?_eq_getElem hlt⟩
      obtain ⟨b, off, rfl, hbw, c0, c1, c2⟩ := h k x hx
      have d0 := (hb.cell (p := ⟨b, off + k * 3, none⟩) hbw).trans c0
      have d1 := (hb.cell (p := ⟨b, off + k * 3 + 1, none⟩) hbw).trans c1
      have d2 := (hb.cell (p := ⟨b, off + k * 3 + 2, none⟩) hbw).trans c2
      clear c0 c1 c2
      have Hx := Lib.hid hx
      have Hok := Lib.hid hok
      clear hx hok
      go_wp2
      all_goals first
        | (go_ret; exact ⟨ret_int (checkF_bad (by omega) (by omega) (by omega) Hx.out (okB_no (by omega))), hb.alloc hb.size _⟩)
        | (go_roundw
           case rel => exact ⟨k + 1, by omega, by go_num, ok_more Hok.out Hx.out (okB_mk (by omega)), hb.alloc hb.size _⟩
           case measure => simp [intOf]; omega)
    · have hkl : k = l.length := by omega
      subst hkl
      have Hok := Lib.hid hok
      clear hok
      go_wp2
      go_ret
      exact ⟨ret_int (checkF_ok (by omega) (by omega) (by omega) Hok.out), hb⟩

end Go.Proofs.Ytaonicdpeflbbaa
