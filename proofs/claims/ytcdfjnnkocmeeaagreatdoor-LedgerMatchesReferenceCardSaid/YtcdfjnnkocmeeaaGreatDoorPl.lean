/-
  The plain law of the ledger statements: what Balances computes for reversed, joined and monthly lists. No program is in sight here.
-/
import Derived.Test.YtcdfjnnkocmeeaaGreatDoorMo
namespace Go.Proofs.YtcdfjnnkocmeeaaGreatDoor
open Go.RowKit

theorem faultB_all : ∀ {l : List Dl}, l.all acctD = true → l.all (fun x => inR x.amount) = true → faultB l = 0
  | [], _, _ => rfl
  | x :: r, h1, h2 => by
    simp only [List.all_cons, Bool.and_eq_true] at h1 h2
    rw [faultB, if_pos h1.1, if_pos h2.1]
    exact faultB_all h1.2 h2.2
theorem faultB_iff {l : List Dl} : faultB l = 0 ↔ ∀ x ∈ l, acctD x = true ∧ inR x.amount = true := by
  constructor
  · intro h x hx
    obtain ⟨h1, h2⟩ := faultB_zero h
    exact ⟨List.all_eq_true.1 h1 x hx, List.all_eq_true.1 h2 x hx⟩
  · intro h
    exact faultB_all (List.all_eq_true.2 fun x hx => (h x hx).1) (List.all_eq_true.2 fun x hx => (h x hx).2)
theorem faultB_cases : ∀ l : List Dl, faultB l = 0 ∨ faultB l = 3 ∨ faultB l = 310
  | [] => .inl rfl
  | x :: r => by
    rw [faultB]
    split
    · split
      · exact faultB_cases r
      · exact .inr (.inl rfl)
    · exact .inr (.inr rfl)
theorem flowAt_append (i : Nat) (l m : List Dl) : flowAt i (l ++ m) = flowAt i l + flowAt i m := by
  simp [flowAt]
theorem flowAt_reverse (i : Nat) (l : List Dl) : flowAt i l.reverse = flowAt i l := by
  induction l with
  | nil => rfl
  | cons x r ih =>
    rw [List.reverse_cons, flowAt_append, ih]
    simp [flowAt]
    omega
theorem sumsB_at {l : List Dl} (h : l.all acctD = true) {i : Nat} (hi : i < 336) : (sumsB l)[i]? = some (flowAt i l) := by
  rw [getD_some (by rw [sumsB_len]; exact hi), sumsB_get h]
theorem sumsB_eq {l m : List Dl} (hl : l.all acctD = true) (hm : m.all acctD = true) (h : ∀ i, i < 336 → flowAt i l = flowAt i m) : sumsB l = sumsB m := by
  apply List.ext_getElem?
  intro i
  by_cases hi : i < 336
  · rw [sumsB_at hl hi, sumsB_at hm hi, h i hi]
  · rw [List.getElem?_eq_none (by rw [sumsB_len]; omega), List.getElem?_eq_none (by rw [sumsB_len]; omega)]
theorem balF_len {l : List Dl} (h : (balF l).2 = 0) : (balF l).1.length = 336 := by rw [(balF_zero h).2.2, sumsB_len]
theorem balF_bad {l : List Dl} (h : (balF l).2 ≠ 0) : (balF l).1 = [] := by
  unfold balF at h ⊢
  split
  · rfl
  · split
    · rfl
    · rename_i h1 h2
      rw [if_neg h1, if_neg h2] at h
      exact absurd rfl h
theorem balF_acct {l : List Dl} (h : (balF l).2 = 0) : l.all acctD = true := (faultB_zero (balF_zero h).1).1
theorem balF_at {l : List Dl} (h : (balF l).2 = 0) {i : Nat} (hi : i < 336) : (balF l).1[i]? = some (flowAt i l) := by
  rw [(balF_zero h).2.2, sumsB_at (balF_acct h) hi]
theorem balF_inR {l : List Dl} (h : (balF l).2 = 0) {i : Nat} (hi : i < 336) : inR (flowAt i l) = true := by
  have h1 := balF_at h hi
  rw [(balF_zero h).2.2] at h1
  exact (balF_zero h).2.1 _ (List.mem_of_getElem? h1)
theorem balF_ok_iff {l : List Dl} : (balF l).2 = 0 ↔ faultB l = 0 ∧ ∀ i, i < 336 → inR (flowAt i l) = true := by
  constructor
  · intro h
    exact ⟨(balF_zero h).1, fun i hi => balF_inR h hi⟩
  · rintro ⟨h1, h2⟩
    rw [balF_ok h1 fun j hj x hx => ?_]
    rw [sumsB_at (faultB_zero h1).1 hj] at hx
    injection hx with hx
    rw [← hx]
    exact h2 j hj
/-- No fault, and yet no balances: too great. -/
theorem balF_three {l : List Dl} (h1 : faultB l = 0) (h : (balF l).2 ≠ 0) : balF l = ([], 3) := by
  unfold balF at h ⊢
  rw [if_neg (by omega)] at h ⊢
  split
  · rfl
  · rename_i h2
    rw [if_neg h2] at h
    exact absurd rfl h
theorem balF_reverse {l : List Dl} : (balF l.reverse).2 = 0 ↔ (balF l).2 = 0 := by
  rw [balF_ok_iff, balF_ok_iff, faultB_iff, faultB_iff]
  simp only [List.mem_reverse, flowAt_reverse]
theorem balF_rev1 {l : List Dl} (h : (balF l).2 = 0) : (balF l.reverse).1 = (balF l).1 := by
  have h' := balF_reverse.2 h
  rw [(balF_zero h).2.2, (balF_zero h').2.2]
  exact sumsB_eq (balF_acct h') (balF_acct h) fun i _ => flowAt_reverse i l

theorem set_sum : ∀ (S : List Int) (i : Nat) (n : Int), i < S.length → (S.set i (S.getD i 0 + n)).sum = S.sum + n
  | [], i, n, h => by simp at h
  | x :: r, 0, n, _ => by simp; omega
  | x :: r, i + 1, n, h => by
    have := set_sum r i n (by simpa using h)
    simp only [List.set_cons_succ, List.sum_cons, List.getD_cons_succ] at *
    omega
theorem foldB_sum : ∀ (l : List Dl) (S : List Int), S.length = 336 → l.all acctD = true → (l.foldl stepB S).sum = S.sum
  | [], S, _, _ => rfl
  | x :: r, S, hS, h => by
    simp only [List.all_cons, Bool.and_eq_true] at h
    rw [List.foldl_cons, foldB_sum r _ (by rw [stepB_len, hS]) h.2]
    have hx := h.1
    simp only [acctD, acct, Bool.and_eq_true, decide_eq_true_eq] at hx
    unfold stepB
    have e1 : (addAt (addAt S x.payee.toNat x.amount) x.payer.toNat (-x.amount)).sum = (addAt S x.payee.toNat x.amount).sum + (-x.amount) := set_sum _ _ _ (by rw [addAt_len]; omega)
    have e2 : (addAt S x.payee.toNat x.amount).sum = S.sum + x.amount := set_sum _ _ _ (by omega)
    rw [e1, e2]
    omega
theorem sumsB_sum {l : List Dl} (h : l.all acctD = true) : (sumsB l).sum = 0 := by
  have hz : ∀ n : Nat, (List.replicate n (0 : Int)).sum = 0 := by
    intro n
    induction n with
    | zero => rfl
    | succ n ih => rw [List.replicate_succ, List.sum_cons, ih]; rfl
  rw [sumsB, foldB_sum l _ List.length_replicate h, hz]
theorem balF_sum {l : List Dl} (h : (balF l).2 = 0) : (balF l).1.sum = 0 := by rw [(balF_zero h).2.2, sumsB_sum (balF_acct h)]
theorem balF_sumOk {l : List Dl} (h : (balF l).2 = 0) : sumOk (balF l).1 = true := by
  have h1 := balF_sum h
  rw [(balF_zero h).2.2] at h1 ⊢
  simp only [sumOk, Bool.and_eq_true, List.all_eq_true]
  exact ⟨(balF_zero h).2.1, by rw [h1]; rfl⟩

/-- Both lists have balances: those of both together are the sums, or there are none. -/
theorem balF_both {l m : List Dl} (hl : (balF l).2 = 0) (hm : (balF m).2 = 0) : faultB (l ++ m) = 0 := by
  rw [faultB_iff]
  intro x hx
  rcases List.mem_append.1 hx with h | h
  · exact faultB_iff.1 (balF_zero hl).1 x h
  · exact faultB_iff.1 (balF_zero hm).1 x h
theorem balF_both_at {l m : List Dl} (h : (balF (l ++ m)).2 = 0) {i : Nat} (hi : i < 336) : (balF (l ++ m)).1[i]? = some (flowAt i l + flowAt i m) := by
  rw [balF_at h hi, flowAt_append]
theorem balF_both_no {l m : List Dl} (hl : (balF l).2 = 0) (hm : (balF m).2 = 0) {i : Nat} (hi : i < 336) (h : inR (flowAt i l + flowAt i m) ≠ true) : balF (l ++ m) = ([], 3) := by
  refine balF_three (balF_both hl hm) fun e => h ?_
  rw [← flowAt_append]
  exact balF_inR e hi
theorem balF_both_yes {l m : List Dl} (hl : (balF l).2 = 0) (hm : (balF m).2 = 0) (h : ∀ i, i < 336 → inR (flowAt i l + flowAt i m) = true) : (balF (l ++ m)).2 = 0 := by
  rw [balF_ok_iff]
  exact ⟨balF_both hl hm, fun i hi => by rw [flowAt_append]; exact h i hi⟩

end Go.Proofs.YtcdfjnnkocmeeaaGreatDoor
