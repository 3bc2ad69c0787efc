/-
  The law's helpers line and small.
  Conditions: as each theorem states them.
-/
import Derived.Test.YtoiipfcmkogcfaaSa
namespace Go.Proofs.Ytoiipfcmkogcfaa
open Go.RowKit Go.Lib

def lineRest : List Value := List.replicate 3 (.int .i64 0) ++ List.replicate 32 (.int .u8 0)
def lineL (p n : Int) : Ln := ⟨⟨1, 0, 0, 1, 0, p, 0, 0, n⟩, lineRest⟩
theorem build_line (p n : Int) (w : World) : (Instr.build 68 #[(0, .agg #[.int .i64 1, .int .i64 0, .int .i64 0, .int .i64 1, .int .i64 0]), (1, .int .i64 p), (4, .int .i64 n)]).run Try.prog w = .ok (.agg (lineL p n).cells.toArray) w := by kernel_rfl
theorem lineL_one (p n : Int) : ∀ v ∈ (lineL p n).cells, v.oneCell' = true := by
  intro v hv
  rcases List.mem_append.1 hv with h | h
  · exact Dl.cells_one _ v h
  · simp only [lineL, lineRest, List.mem_append, List.mem_replicate] at h
    rcases h with ⟨_, rfl⟩ | ⟨_, rfl⟩ <;> rfl
theorem lineL_size (p n : Int) : (Try.prog.info? 68).map (·.size) = some (lineL p n).cells.length := Try.size68

set_option maxRecDepth 100000 in
theorem line_any (p n : Int) (w : World) : Calls Try.prog 20 #[.int .i64 p, .int .i64 n] w fun e w' => e = .returned (.agg (lineL p n).cells.toArray) ∧ Below w.heap.size w w' := by
  go_enter Try.func20, Try.ntmps20
  go_wp2_with (first
    | (show wpList _ _ _ (⟨some 9, Op.build 68 _, _, _, _, _⟩ :: _) _ _; refine wpList_build rfl 68 _ rfl _ rfl (build_line p n _) ?_)
    | (show wpList _ _ _ (⟨none, Op.store 68 _ _, _, _, _, _⟩ :: _) _ _; refine wpList_store_fresh rfl 68 _ _ rfl (lineL p n).cells rfl rfl rfl (lineL_size p n) (lineL_one p n) ?_))
  refine bodyPost_ret (results_cell_row rfl _ _ w.heap.size 68 (lineL p n).cells.toArray (0, 0) _ rfl (Row.new w 68 _) Try.underlying68 rfl (lineL_size p n)) rfl ⟨rfl, ?_⟩
  exact (Below.refl _ _).alloc (Nat.le_refl _) _

set_option maxRecDepth 100000 in
theorem small_any (l : List Ln) (A : Option Addr) (c : Nat) (m : Int) (w : World) (hl : RdE Ln.cells 44 w w.heap.size A l) (hm : 0 ≤ m ∧ m ≤ 1152921504606846976) (hn : l.length ≤ 4611686018427387904) :
    Calls Try.prog 18 #[.slice A l.length c, .int .i64 m] w fun e w' => e = .returned (.bool (l.all fun x => decide (-m ≤ x.d.amount ∧ x.d.amount ≤ m))) ∧ w' = w := by
  have Hl := Lib.hid hl
  clear hl
  obtain ⟨hm1, hm2⟩ := hm
  go_enter Try.func18, Try.ntmps18
  go_wp2
  go_loopw [5] (fun i wr => ∃ k : Nat, k ≤ l.length ∧ i = .int .i64 k ∧ Hid (∀ j, j < k → ∀ x, l[j]? = some x → decide (-m ≤ x.d.amount ∧ x.d.amount ≤ m) = true) ∧ wr = w)
    (fun i _ => l.length - (intOf i).toNat)
  case atStart => exact ⟨0, Nat.zero_le _, rfl, Lib.hid (fun j hj => absurd hj (by omega)), rfl⟩
  case round =>
    obtain ⟨k, hk, rfl, hok, rfl⟩ := hrel
    by_cases hlt : k < l.length
    · obtain ⟨x, hx⟩ : ∃ x, l[k]? = some x := ⟨_, List.getElem?_eq_getElem hlt⟩
      obtain ⟨b, off, rfl, hbw, c0⟩ := Hl.out k x hx
      have d0 : wr.cell? ⟨b, off + k * 44 + 8, none⟩ = some (.int .i64 x.d.amount) := c0 8 _ rfl
      have i0 : (0 : Int) ≤ (k : Int) := by omega
      have i1 : (k : Int) < (l.length : Int) := by omega
      have Hx := Lib.hid hx
      clear hx c0
      obtain ⟨n, hnn⟩ : ∃ n, n = x.d.amount := ⟨_, rfl⟩
      rw [← hnn] at d0
      have Hnn := Lib.hid hnn
      clear hnn
      by_cases h1 : n < -m
      · go_wp2
        go_ret
        exact ⟨ret_bool (all_false_at Hx.out (by rw [← Hnn.out]; simp; omega)).symm, rfl⟩
      · by_cases h2 : m < n
        · go_wp2
          go_ret
          exact ⟨ret_bool (all_false_at Hx.out (by rw [← Hnn.out]; simp; omega)).symm, rfl⟩
        · go_wp2
          go_roundw
          case rel => exact ⟨k + 1, by omega, by go_num, Lib.hid (all_step hok.out Hx.out (by rw [← Hnn.out]; simp; omega)), by first | rfl | trivial⟩
          case measure => simp [intOf]; omega
    · have hkl : k = l.length := by omega
      subst hkl
      go_wp2
      go_ret
      exact ⟨ret_bool (all_true_of hok.out).symm, rfl⟩

end Go.Proofs.Ytoiipfcmkogcfaa
