/-
  cmp.Or returns the first number that is not 0.
  Conditions: as each theorem states them.
-/
import Derived.Test.YtoiipfcmkogcfaaShelf
import Derived.Test.YtoiipfcmkogcfaaTypes
import Derived.Deep.QuietTactic
import Derived.BigQuiet
namespace Go.Proofs.Ytoiipfcmkogcfaa
open Go.RowKit

def orF : List Int → Int
  | [] => 0
  | x :: r => if x = 0 then orF r else x
theorem orF_zero {l : List Int} {k : Nat} (hx : l[k]? = some 0) : orF (l.drop k) = orF (l.drop (k + 1)) := by
  obtain ⟨hk, e⟩ := List.getElem?_eq_some_iff.1 hx
  rw [List.drop_eq_getElem_cons hk, e, orF, if_pos rfl]
theorem orF_hit {l : List Int} {k : Nat} {x : Int} (hx : l[k]? = some x) (h : x ≠ 0) : orF (l.drop k) = x := by
  obtain ⟨hk, e⟩ := List.getElem?_eq_some_iff.1 hx
  rw [List.drop_eq_getElem_cons hk, e, orF, if_neg h]

set_option maxHeartbeats 400000 in
theorem or_any (A : Option Addr) (l : List Int) (c : Nat) (w : World) (h : RdI w w.heap.size A l) (hm : l.length ≤ 4611686018427387904) :
    Calls Try.prog 46 #[.slice A l.length c] w fun e w' => e = .returned (.int .i64 (orF l)) ∧ w' = w := by
  go_enter Try.func46, Try.ntmps46
  go_wp2
  go_loopw [8] (fun i wr => ∃ k : Nat, k ≤ l.length ∧ i = .int .i64 k ∧ Hid (orF (l.drop k) = orF l) ∧ wr = w)
    (fun i _ => l.length - (intOf i).toNat)
  case atStart => exact ⟨0, Nat.zero_le _, rfl, Lib.hid rfl, rfl⟩
  case round =>
    obtain ⟨k, hk, rfl, hok, rfl⟩ := hrel
    by_cases hlt : k < l.length
    · obtain ⟨x, hx⟩ : ∃ x, l[k]? = some x := ⟨_, List.getElem?_eq_getElem hlt⟩
      obtain ⟨b, off, rfl, hbw, c0⟩ := h k x hx
      by_cases h0 : x = 0
      · subst h0
        have Hx := Lib.hid hx
        clear hx
        go_wp2
        go_roundw
        case rel => exact ⟨k + 1, by omega, by go_num, Lib.hid (by rw [← hok.out, orF_zero Hx.out]), trivial⟩
        case measure => simp [intOf]; omega
      · have Hx := Lib.hid hx
        have H0 := Lib.hid h0
        clear hx
        go_wp2
        go_ret
        exact ⟨ret_int (by rw [← hok.out, orF_hit Hx.out H0.out]), rfl⟩
    · have hkl : k = l.length := by omega
      subst hkl
      go_wp2
      go_ret
      exact ⟨ret_int (by rw [← hok.out]; simp [orF]), rfl⟩

end Go.Proofs.Ytoiipfcmkogcfaa
