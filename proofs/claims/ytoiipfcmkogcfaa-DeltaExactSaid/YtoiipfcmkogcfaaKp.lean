/-
  What Apply keeps: the sum of all balances, and the balances of accounts that no change names. No program is in sight here.
-/
import Derived.Test.YtoiipfcmkogcfaaAp
namespace Go.Proofs.Ytoiipfcmkogcfaa
open Go.RowKit

def sumTo (f : Nat → Int) (n : Nat) : Int := ((List.range n).map f).sum
theorem sumTo_succ (f : Nat → Int) (n : Nat) : sumTo f (n + 1) = sumTo f n + f n := by
  unfold sumTo
  rw [List.range_succ, List.map_append, List.sum_append]
  simp
theorem sumTo_put (f : Nat → Int) (i : Nat) (c : Int) : ∀ n, sumTo (fun j => if j = i then f j + c else f j) n = sumTo f n + if i < n then c else 0
  | 0 => by simp [sumTo]
  | n + 1 => by
    rw [sumTo_succ, sumTo_succ, sumTo_put f i c n]
    rcases Nat.lt_trichotomy i n with h | h | h
    · rw [if_pos h, if_neg (by omega), if_pos (by omega)]
      omega
    · subst h
      rw [if_neg (by omega), if_pos rfl, if_pos (by omega)]
      omega
    · rw [if_neg (by omega), if_neg (by omega), if_neg (by omega)]
      omega
theorem sumTo_congr {f g : Nat → Int} {n : Nat} (h : ∀ i, i < n → f i = g i) : sumTo f n = sumTo g n := by
  unfold sumTo
  congr 1
  exact List.map_congr_left fun i hi => h i (List.mem_range.1 hi)

theorem sum_putL (ls : Nat → List Int) {i : Nat} (hi : i < 336) (news : List Int) : sumTo (fun j => (putL ls i news j).sum) 336 = sumTo (fun j => (ls j).sum) 336 + news.sum := by
  have h := sumTo_put (fun j => (ls j).sum) i news.sum 336
  rw [if_pos hi] at h
  rw [← h]
  refine sumTo_congr fun j _ => ?_
  unfold putL
  split
  · rename_i e; subst e; rw [List.sum_append]
  · rfl
theorem sum_stepP (ls : Nat → List Int) {x : Dl} (hx : acctD x = true) : sumTo (fun j => (stepP ls x j).sum) 336 = sumTo (fun j => (ls j).sum) 336 := by
  simp only [acctD, acct, Bool.and_eq_true, decide_eq_true_eq] at hx
  unfold stepP
  rw [sum_putL _ (by omega), sum_putL _ (by omega)]
  simp only [List.sum_cons, List.sum_nil]
  omega
theorem sum_foldP : ∀ (d : List Dl) (ls : Nat → List Int), d.all acctD = true → sumTo (fun j => (d.foldl stepP ls j).sum) 336 = sumTo (fun j => (ls j).sum) 336
  | [], _, _ => rfl
  | x :: r, ls, h => by
    simp only [List.all_cons, Bool.and_eq_true] at h
    rw [List.foldl_cons, sum_foldP r _ h.2, sum_stepP _ h.1]
theorem sum_partsP (b : List Int) {d : List Dl} (h : d.all acctD = true) : sumTo (fun j => (partsP b d j).sum) 336 = sumTo (fun j => b.getD j 0) 336 := by
  rw [partsP, sum_foldP d _ h]
  refine sumTo_congr fun j hj => ?_
  unfold initP
  rw [if_pos hj]
  simp

theorem stepP_other (ls : Nat → List Int) {x : Dl} {i : Nat} (h1 : x.payer ≠ (i : Int)) (h2 : x.payee ≠ (i : Int)) (hx : acctD x = true) : stepP ls x i = ls i := by
  simp only [acctD, acct, Bool.and_eq_true, decide_eq_true_eq] at hx
  unfold stepP putL
  rw [if_neg (by omega), if_neg (by omega)]
theorem foldP_other {i : Nat} : ∀ (d : List Dl) (ls : Nat → List Int), d.all acctD = true → (∀ x ∈ d, x.payer ≠ (i : Int) ∧ x.payee ≠ (i : Int)) → d.foldl stepP ls i = ls i
  | [], _, _, _ => rfl
  | x :: r, ls, h, hn => by
    simp only [List.all_cons, Bool.and_eq_true] at h
    rw [List.foldl_cons, foldP_other r _ h.2 (fun y hy => hn y (List.mem_cons_of_mem _ hy)), stepP_other _ (hn x (List.mem_cons_self ..)).1 (hn x (List.mem_cons_self ..)).2 h.1]
theorem partsP_other {b : List Int} {d : List Dl} {i : Nat} (hi : i < 336) (h : d.all acctD = true) (hn : ∀ x ∈ d, x.payer ≠ (i : Int) ∧ x.payee ≠ (i : Int)) : (partsP b d i).sum = b.getD i 0 := by
  rw [partsP, foldP_other d _ h hn]
  unfold initP
  rw [if_pos hi]
  simp

/-- What is known where Apply finds no fault. -/
theorem applyF_zero {b : List Int} {d : List Dl} (h : (applyF b d).2 = 0) : b.length = 336 ∧ d.all acctD = true ∧ (∀ i, i < 336 → sumOk (partsP b d i) = true) ∧ (applyF b d).1 = (List.range 336).map fun i => (partsP b d i).sum := by
  unfold applyF at h ⊢
  by_cases h1 : b.length ≠ 336
  · rw [if_pos h1] at h; exact absurd h (by decide)
  · rw [if_neg h1] at h ⊢
    by_cases h2 : d.all acctD = false
    · rw [if_pos h2] at h; exact absurd h (by decide)
    · rw [if_neg h2] at h ⊢
      by_cases h3 : d.all inD = false
      · rw [if_pos h3] at h; exact absurd h (by decide)
      · rw [if_neg h3] at h ⊢
        by_cases h4 : (List.range 336).all (fun i => sumOk (partsP b d i)) = false
        · rw [if_pos h4] at h; exact absurd h (by decide)
        · rw [if_neg h4]
          refine ⟨by omega, by simpa using h2, fun i hi => ?_, rfl⟩
          rw [Bool.not_eq_false, List.all_eq_true] at h4
          exact h4 i (List.mem_range.2 hi)
theorem applyF_not {b : List Int} {d : List Dl} (h : (applyF b d).2 ≠ 0) : (applyF b d).1 = [] := by
  unfold applyF at h ⊢
  split
  · rfl
  · rename_i h1
    rw [if_neg h1] at h
    split
    · rfl
    · rename_i h2
      rw [if_neg h2] at h
      split
      · rfl
      · rename_i h3
        rw [if_neg h3] at h
        split
        · rfl
        · rename_i h4
          rw [if_neg h4] at h
          exact absurd rfl h

end Go.Proofs.Ytoiipfcmkogcfaa
