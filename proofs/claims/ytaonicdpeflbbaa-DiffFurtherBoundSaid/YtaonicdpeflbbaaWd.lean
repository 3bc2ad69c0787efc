/-
  What slices.Repeat returns for a slice of one number -1.
  Conditions: as each theorem states them.
-/
import Derived.Test.YtaonicdpeflbbaaProg
import Derived.Test.YtaonicdpeflbbaaRuns
import Derived.Test.YtaonicdpeflbbaaShelf
import Derived.Deep.QuietTactic
import Derived.BigQuiet
import Derived.Deep.OwnRows
import Derived.Laws.CopyOwn
import Derived.Deep.DrawnRows
namespace Go.Proofs.Ytaonicdpeflbbaa
open Go.RowKit
attribute [local go_sem ↓] Go.wp_at_zero Go.wp_at_succ

theorem info3' : (Try.prog.info? 3).map (fun i => (i.zero, i.size, i.bytes)) = some (some (.int .i64 0), 1, 8) := by kernel_rfl

theorem info3s : (Try.prog.info? 3).map (·.size) = some 1 := by kernel_rfl

def negs (m : Nat) : List Value := List.replicate m (.int .i64 (-1))
theorem negs_len (m : Nat) : (negs m).length = m := by simp [negs]

/-- A row whose first k numbers are -1. -/
def filled (n k : Nat) : List Value := List.replicate k (.int .i64 (-1)) ++ List.replicate (n - k) (.int .i64 0)
theorem filled_len {n k : Nat} (h : k ≤ n) : (filled n k).length = n := by simp [filled]; omega
theorem made_filled (n : Nat) : madeCells #[.int .i64 0] n = (filled n 0).toArray := by
  apply Array.ext'
  simp [madeCells, filled]
  apply List.ext_getElem
  · simp
  · intro i h1 h2
    simp [Nat.mod_one]
theorem splice_filled {n k m : Nat} : splice (filled n k) k (negs m) = filled n (k + m) := by
  unfold splice filled negs
  rw [List.take_append_of_le_length (by simp), List.take_of_length_le (by simp), ← List.append_assoc, List.drop_append]
  rw [List.drop_eq_nil_of_le (by simp), List.replicate_append_replicate]
  simp
  omega

theorem repeat_src {wr : World} {g n k m : Nat} (HR : Row wr g 3 (filled n k).toArray) (hmk : m ≤ k) :
    0 < (negs m).length → some (⟨g, k, none⟩ : Addr) = some ⟨g, k, none⟩ ∧ ∃ ad, some (⟨g, 0, none⟩ : Addr) = some ad ∧ ∀ j v, (negs m)[j]? = some v → wr.drew.cell? (ad.add j) = some v := by
  intro _
  refine ⟨rfl, _, rfl, ?_⟩
  intro j v hj
  have hjm : j < m := by
    have := (List.getElem?_eq_some_iff.1 hj).1
    rwa [negs_len] at this
  have e : (⟨g, 0, none⟩ : Addr).add j = ⟨g, j, none⟩ := by unfold Addr.add; split <;> simp_all
  rw [e]
  refine (HR.cell j).trans ?_
  rw [← hj]
  simp only [filled, negs, List.getElem?_toArray]
  rw [List.getElem?_append_left (by simp; omega), List.getElem?_replicate, List.getElem?_replicate, if_pos (by omega), if_pos hjm]

set_option maxHeartbeats 400000 in
theorem repeat_any (ad : Addr) (n : Nat) (w : World) (h1 : 1 ≤ n) (h2 : n ≤ 512) (hc : w.cell? ad = some (.int .i64 (-1))) :
    Calls Try.prog 30 #[.slice (some ad) 1 1, .int .i64 n] w fun e w' => ∃ g, e = .returned (.slice (some ⟨g, 0, none⟩) n n) ∧ w.heap.size ≤ g ∧ Row w' g 3 (ints (List.replicate n (-1))) ∧ Below w.heap.size w w' := by
  have hmk := run_make_row' (P := Try.prog) 27 3 (.int .i64 0) 8 Try.underlying27 info3' rfl .i64 .i64 n (by omega) (by omega)
  go_enter Try.func30, Try.ntmps30
  go_wp2_with fail
  refine (Try.bits_Mul 1 n (by omega) (by omega) _).mono ?_
  rintro e w' ⟨rfl, hw⟩
  obtain rfl := hw.symm
  rw [show 1 * n / 18446744073709551616 = 0 from by omega, show 1 * n % 18446744073709551616 = n from by omega]
  go_wp2_with (refine wpList_copy_splice (o := ⟨some 33, _, _, _, _, _⟩) rfl (.tmp 31) (.tmp 32) 27 27 rfl 3 Try.underlying27 info3s _ _ _ _ _ _ (by rfl) (by rfl) w.heap.size 0 (filled n 0) 3 ?c1 (negs 1) ?c2 ?c3 ?c4 ?c5 w.heap.size w ?c6 ?c7 ?_)
  case c1 => rw [← made_filled]; exact heap_alloc_new w _
  case c2 => rw [negs_len]; show 1 = min 1 n; omega
  case c3 =>
    intro _ j v hj
    match j, hj with
    | 0, hj =>
      obtain rfl : Value.int .i64 (-1) = v := by simpa [negs] using hj
      have e0 : ad.add 0 = ad := by simp [Addr.add]
      rw [e0, World.cell?_alloc_lt w _ ad (World.block_lt_of_cell? w ad hc)]
      exact hc
  case c4 => rw [filled_len (by omega), negs_len]; omega
  case c5 => intro v hv; rw [List.eq_of_mem_replicate hv]; rfl
  case c6 => exact (Below.refl _ _).alloc (Nat.le_refl _) _
  case c7 => exact Nat.le_refl _
  intro w2 HG2 hB2
  have HR : Row w2 w.heap.size 3 (filled n 1).toArray := by
    have h := HG2.out
    rw [show splice (filled n 0) 0 (negs 1) = filled n 1 from splice_filled (k := 0) (m := 1)] at h
    exact h
  clear HG2 hmk
  have HRr := Lib.hid HR
  clear HR
  go_wp2
  go_loopw [8] (fun v wr => ∃ k : Nat, 1 ≤ k ∧ k ≤ n ∧ v = .int .i64 k ∧ Hid (Row wr w.heap.size 3 (filled n k).toArray) ∧ Below w.heap.size w wr) (fun v _ => n - (intOf v).toNat)
  case atStart => exact ⟨1, by omega, by omega, rfl, HRr, hB2⟩
  case round =>
    obtain ⟨k, hk1, hk2, rfl, HR, hb⟩ := hrel
    clear HRr hB2
    by_cases hlt : k < n
    · go_wp2
      obtain ⟨m, hm⟩ : ∃ m, m = min k (n - k) := ⟨_, rfl⟩
      have hm1 : m ≤ k := by omega
      have hm2 : k + m ≤ n := by omega
      have hm3 : 1 ≤ m := by omega
      have Hm := Lib.hid (show (negs m).length = Nat.min k (n - k) by rw [negs_len]; exact hm)
      clear hm
      have Hp := Lib.hid (repeat_src HR.out hm1)
      have Hf := Lib.hid (show k + (negs m).length ≤ (filled n k).length by rw [negs_len, filled_len (by omega)]; omega)
      have Ho := Lib.hid (show ∀ v ∈ negs m, v.oneCell' = true from fun v hv => by rw [List.eq_of_mem_replicate hv]; rfl)
      have Hs := Lib.hid (show splice (filled n k) k (negs m) = filled n (k + m) from splice_filled)
      have hne : ¬ (n = k) := by omega
      have ew : IntKind.i64.wrap ((k : Int) + ((negs m).length : Int)) = ((k + m : Nat) : Int) := by rw [negs_len, IntWalk.i64_in _ (by omega)]; omega
      go_region_law (refine step_copy_splice rfl (.tmp 41) (.tmp 44) 27 27 rfl 3 Try.underlying27 info3s (some ⟨w.heap.size, k, none⟩) (some ⟨w.heap.size, 0, none⟩) (n - k) (n - k) k n (by go_simp) (by go_simp) w.heap.size k (filled n k) 3 (by exact HR.out) (negs m) (by exact Hm.out) (by exact Hp.out) (by exact Hf.out) (by exact Ho.out) w.heap.size w (by exact hb.drew) (Nat.le_refl _) (fun w2 HG2 hB2 => ?_))
      go_wp2
      go_roundw
      case rel =>
        refine ⟨k + m, by omega, by omega, by omega, ?_⟩
        have h := HG2.out
        rw [Hs.out] at h
        exact h
      case measure => simp [intOf]; omega
    · go_wp2
      obtain rfl : n = k := by omega
      go_ret
      refine ⟨_, rfl, Nat.le_refl _, ?_, hb⟩
      have h := HR.out
      rw [show (filled n n).toArray = ints (List.replicate n (-1)) from by simp [filled, ints]] at h
      exact h
end Go.Proofs.Ytaonicdpeflbbaa
