/-
  Compacting a sorted list: strictly sorted, the same members. No program is in sight here.
-/
import Derived.Lib.SlicesCompact
namespace Go.Proofs.Ytoiipfcmkogcfaa
open Go.Lib

theorem compact_upto {d : Array Int} (hs : ∀ i j, i ≤ j → j < d.size → d[i]! ≤ d[j]!) : ∀ m, m ≤ d.size → (∀ x, x ∈ compactUpTo d m ↔ ∃ j, j < m ∧ d[j]! = x) ∧ (compactUpTo d m).Pairwise (· < ·)
  | 0, _ => by simp [compactUpTo]
  | m + 1, hm => by
    obtain ⟨h1, h2⟩ := compact_upto hs m (by omega)
    rw [compactUpTo_succ]
    by_cases hk : keeps d m = true
    · rw [if_pos hk]
      refine ⟨fun x => ?_, List.pairwise_append.2 ⟨h2, List.pairwise_singleton _ _, fun y hy z hz => ?_⟩⟩
      · rw [List.mem_append, h1, List.mem_singleton]
        constructor
        · rintro (⟨j, hj, e⟩ | rfl)
          · exact ⟨j, by omega, e⟩
          · exact ⟨m, by omega, rfl⟩
        · rintro ⟨j, hj, e⟩
          rcases Nat.lt_succ_iff_lt_or_eq.1 hj with h | rfl
          · exact Or.inl ⟨j, h, e⟩
          · exact Or.inr e.symm
      · rw [List.mem_singleton] at hz
        subst hz
        obtain ⟨j, hj, rfl⟩ := (h1 y).1 hy
        have hm0 : m ≠ 0 := by omega
        have hne : d[m]! ≠ d[m - 1]! := by
          have := hk
          simp only [keeps, decide_eq_true_eq] at this
          rcases this with h | h
          · exact absurd h hm0
          · exact h
        have h3 := hs j (m - 1) (by omega) (by omega)
        have h4 := hs (m - 1) m (by omega) (by omega)
        omega
    · rw [if_neg hk, List.append_nil]
      refine ⟨fun x => ?_, h2⟩
      rw [h1]
      have hm0 : m ≠ 0 ∧ d[m]! = d[m - 1]! := by
        simp only [keeps, decide_eq_true_eq, not_or, ne_eq, Classical.not_not] at hk
        exact hk
      constructor
      · rintro ⟨j, hj, e⟩
        exact ⟨j, by omega, e⟩
      · rintro ⟨j, hj, e⟩
        rcases Nat.lt_succ_iff_lt_or_eq.1 hj with h | rfl
        · exact ⟨j, h, e⟩
        · exact ⟨j - 1, by omega, by rw [← hm0.2]; exact e⟩

theorem compact_sorted (zs : List Int) : (∀ x, x ∈ Lib.compact (zs.mergeSort fun x y => decide (x ≤ y)) ↔ x ∈ zs) ∧ (Lib.compact (zs.mergeSort fun x y => decide (x ≤ y))).Pairwise (· < ·) := by
  have hp := List.mergeSort_perm zs (fun x y => decide (x ≤ y))
  have hs : (zs.mergeSort fun x y => decide (x ≤ y)).Pairwise fun a b => a ≤ b := by
    have := List.pairwise_mergeSort (le := fun x y : Int => decide (x ≤ y)) (fun a b c h1 h2 => by simp at *; omega) (fun a b => by simp; omega) zs
    exact this.imp (fun h => by simpa using h)
  generalize (zs.mergeSort fun x y => decide (x ≤ y)) = ys at hp hs
  have hd : ∀ i j, i ≤ j → j < ys.toArray.size → ys.toArray[i]! ≤ ys.toArray[j]! := by
    intro i j hij hj
    have hj' : j < ys.length := by simpa using hj
    rw [getElem!_pos ys.toArray i (by simp; omega), getElem!_pos ys.toArray j hj]
    rcases Nat.lt_or_eq_of_le hij with h | rfl
    · have := List.pairwise_iff_getElem.1 hs i j (by omega) hj' h
      simpa using this
    · exact Int.le_refl _
  obtain ⟨h1, h2⟩ := compact_upto hd ys.length (by simp)
  refine ⟨fun x => ?_, h2⟩
  rw [← hp.mem_iff]
  unfold Lib.compact
  rw [h1, List.mem_iff_getElem]
  constructor
  · rintro ⟨j, hj, e⟩
    refine ⟨j, hj, ?_⟩
    rw [← e, getElem!_pos ys.toArray j (by simpa using hj)]
    simp
  · rintro ⟨j, hj, e⟩
    refine ⟨j, hj, ?_⟩
    rw [getElem!_pos ys.toArray j (by simpa using hj), ← e]
    simp

end Go.Proofs.Ytoiipfcmkogcfaa
