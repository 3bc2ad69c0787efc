/-
  What Balances computes, in plain Lean. No program is in sight here.
-/
import Derived.Test.YtcdfjnnkocmeeaaGreatDoorWd
import Derived.Test.YtcdfjnnkocmeeaaGreatDoorTypes
namespace Go.Proofs.YtcdfjnnkocmeeaaGreatDoor
open Go.RowKit

/-- Both accounts of a change are accounts. -/
def acctD (x : Dl) : Bool := acct x.payer && acct x.payee
theorem all_false_at {α : Type} {p : α → Bool} {l : List α} {k : Nat} {x : α} (hx : l[k]? = some x) (h : p x = false) : l.all p = false := by
  rw [List.all_eq_false]
  exact ⟨x, List.mem_of_getElem? hx, by rw [h]; simp⟩
theorem all_true_of {α : Type} {p : α → Bool} {l : List α} (h : ∀ j, j < l.length → ∀ x, l[j]? = some x → p x = true) : l.all p = true := by
  rw [List.all_eq_true]
  intro x hx
  obtain ⟨j, hj, e⟩ := List.getElem_of_mem hx
  exact h j hj x (by rw [List.getElem?_eq_getElem hj, e])
theorem all_step {α : Type} {p : α → Bool} {l : List α} {k : Nat} {x : α} (h : ∀ j, j < k → ∀ x, l[j]? = some x → p x = true) (hx : l[k]? = some x) (hk : p x = true) : ∀ j, j < k + 1 → ∀ x, l[j]? = some x → p x = true := by
  intro j hj y hy
  rcases Nat.lt_succ_iff_lt_or_eq.1 hj with h1 | rfl
  · exact h j h1 y hy
  · rw [hx] at hy; injection hy with hy; rw [← hy]; exact hk
theorem ownsRow_ne {w : World} {base size X n : Nat} {e t : TypeId} {v : Value} {xs : List Value} {cs : Array Value} (h : w.ownsRow base e size v n xs) (hr : Row w X t cs) (hne : e ≠ t) : v.ownBlock ≠ some X := by
  rcases h.2 with ⟨rfl, _⟩ | ⟨g, cap, cur, rfl, _, hh, _⟩
  · simp [Value.ownBlock]
  · intro e1
    simp [Value.ownBlock] at e1
    subst e1
    have hr' : w.heap[g]? = _ := hr
    rw [hh] at hr'
    injection hr' with hr'
    injection hr' with _ h2
    exact hne h2
theorem one_ints (l : List Int) : ∀ u ∈ l.map (Value.int .i64), u.oneCell' = true := by
  intro u hu
  obtain ⟨x, _, rfl⟩ := List.mem_map.1 hu
  rfl
theorem row_reads {w : World} {g : Nat} {l : List Int} (h : Row w g 3 (ints l)) : RdI w w.heap.size (some ⟨g, 0, none⟩) l := by
  intro k x hx
  refine ⟨g, 0, rfl, h.lt, ?_⟩
  rw [Nat.zero_add, h.cell]
  simp [ints, hx]

/-- A sum of 128 bits as its two cells: high, low. -/
def sumV (s : Int) : List Value := [.int .u64 (hiS s), .int .u64 (loS s)]
theorem sumV_len (s : Int) : (sumV s).length = 2 := rfl
theorem flat_set2 : ∀ (l : List Int) (i : Nat) (x : Int), ((flat sumV l).set (i * 2 + 1) (.int .u64 (loS x))).set (i * 2) (.int .u64 (hiS x)) = if i < l.length then flat sumV (l.set i x) else flat sumV l
  | [], i, x => by simp [flat]
  | y :: r, 0, x => by simp [flat, sumV]
  | y :: r, i + 1, x => by
    have ih := flat_set2 r i x
    have e : (i + 1) * 2 = i * 2 + 2 := by omega
    rw [e]
    simp only [flat, sumV, List.cons_append, List.nil_append, List.set_cons_succ, List.length_cons, Nat.add_lt_add_iff_right]
    rw [ih]
    split <;> simp
def sumArr (S : List Int) : Array Value := (flat sumV S).toArray
theorem sumArr_size (S : List Int) : (sumArr S).size = S.length * 2 := by
  rw [sumArr, List.size_toArray, flat_length sumV_len]
theorem sumArr_hi {S : List Int} {i : Nat} {x : Int} (h : S[i]? = some x) : (sumArr S)[i * 2]? = some (.int .u64 (hiS x)) := by
  simpa [sumArr] using flat_at sumV_len S i x h 0 (.int .u64 (hiS x)) rfl
theorem sumArr_lo {S : List Int} {i : Nat} {x : Int} (h : S[i]? = some x) : (sumArr S)[i * 2 + 1]? = some (.int .u64 (loS x)) := by
  simpa [sumArr] using flat_at sumV_len S i x h 1 (.int .u64 (loS x)) rfl
theorem sumArr_set {S : List Int} {i : Nat} (h : i < S.length) (x : Int) : ((sumArr S).setIfInBounds (i * 2 + 1) (.int .u64 (loS x))).setIfInBounds (i * 2) (.int .u64 (hiS x)) = sumArr (S.set i x) := by
  have e := flat_set2 S i x
  rw [if_pos h] at e
  rw [sumArr, sumArr, ← e]
  simp
theorem sumArr_zero : Array.replicate 672 (Value.int .u64 0) = sumArr (List.replicate 336 0) := by
  have : ∀ n : Nat, flat sumV (List.replicate n 0) = List.replicate (n * 2) (Value.int .u64 0) := by
    intro n
    induction n with
    | zero => rfl
    | succ n ih =>
      rw [List.replicate_succ, flat, ih, Nat.add_mul]
      simp [sumV, hiS, loS, List.replicate_succ]
  rw [sumArr, this 336, List.toArray_replicate]
theorem sumArr_one (S : List Int) : ∀ v ∈ flat sumV S, v.oneCell' = true := flat_one (fun x v hv => by simp [sumV] at hv; rcases hv with rfl | rfl <;> rfl) S

/-- A line's amount goes into the sums. -/
def addAt (S : List Int) (i : Nat) (n : Int) : List Int := S.set i (S.getD i 0 + n)
def stepB (S : List Int) (x : Dl) : List Int := addAt (addAt S x.payee.toNat x.amount) x.payer.toNat (-x.amount)
theorem addAt_len (S : List Int) (i : Nat) (n : Int) : (addAt S i n).length = S.length := by simp [addAt]
theorem stepB_len (S : List Int) (x : Dl) : (stepB S x).length = S.length := by simp [stepB, addAt_len]
def sumsB (l : List Dl) : List Int := l.foldl stepB (List.replicate 336 0)
theorem foldB_len : ∀ (l : List Dl) (S : List Int), (l.foldl stepB S).length = S.length
  | [], S => rfl
  | x :: r, S => by rw [List.foldl_cons, foldB_len r, stepB_len]
theorem sumsB_len (l : List Dl) : (sumsB l).length = 336 := by rw [sumsB, foldB_len, List.length_replicate]
theorem addAt_get {S : List Int} {i j : Nat} (hi : i < S.length) (n : Int) : (addAt S i n).getD j 0 = if j = i then S.getD i 0 + n else S.getD j 0 := by
  unfold addAt
  rw [List.getD_eq_getElem?_getD, List.getElem?_set]
  by_cases h : i = j
  · subst h
    simp [hi]
  · rw [if_neg h, if_neg (fun e => h e.symm), List.getD_eq_getElem?_getD]
theorem getD_some {S : List Int} {i : Nat} (h : i < S.length) : S[i]? = some (S.getD i 0) := by
  rw [List.getD_eq_getElem?_getD, List.getElem?_eq_getElem h]; rfl

/-- What an account gets and pays in one line. -/
def lineAt (i : Nat) (x : Dl) : Int := (if x.payee = (i : Int) then x.amount else 0) - (if x.payer = (i : Int) then x.amount else 0)
def flowAt (i : Nat) (l : List Dl) : Int := (l.map (lineAt i)).sum
theorem stepB_get {S : List Int} (hS : S.length = 336) {x : Dl} (hx : acctD x = true) (i : Nat) : (stepB S x).getD i 0 = S.getD i 0 + lineAt i x := by
  simp only [acctD, acct, Bool.and_eq_true, decide_eq_true_eq] at hx
  unfold stepB lineAt
  rw [addAt_get (by rw [addAt_len]; omega), addAt_get (by omega), addAt_get (by omega)]
  by_cases h1 : x.payee = (i : Int)
  · by_cases h2 : x.payer = (i : Int)
    · rw [if_pos (by omega), if_pos (by omega), if_pos h1, if_pos h2]
      rw [show x.payee.toNat = i from by omega]
      omega
    · rw [if_neg (by omega), if_pos (by omega), if_pos h1, if_neg h2, show x.payee.toNat = i from by omega]
      omega
  · by_cases h2 : x.payer = (i : Int)
    · rw [if_pos (by omega), if_neg (by omega), if_neg h1, if_pos h2, show x.payer.toNat = i from by omega]
      omega
    · rw [if_neg (by omega), if_neg (by omega), if_neg h1, if_neg h2]
      omega
theorem foldB_get : ∀ (l : List Dl) (S : List Int), S.length = 336 → l.all acctD = true → ∀ i, (l.foldl stepB S).getD i 0 = S.getD i 0 + flowAt i l
  | [], S, _, _, i => by simp [flowAt]
  | x :: r, S, hS, h, i => by
    simp only [List.all_cons, Bool.and_eq_true] at h
    rw [List.foldl_cons, foldB_get r _ (by rw [stepB_len, hS]) h.2, stepB_get hS h.1]
    simp only [flowAt, List.map_cons, List.sum_cons]
    omega
theorem sumsB_get {l : List Dl} (h : l.all acctD = true) (i : Nat) : (sumsB l).getD i 0 = flowAt i l := by
  rw [sumsB, foldB_get l _ List.length_replicate h]
  have : (List.replicate 336 (0 : Int)).getD i 0 = 0 := by
    rw [List.getD_eq_getElem?_getD, List.getElem?_replicate]
    split <;> rfl
  omega

/-- The first fault of the lines. -/
def faultB : List Dl → Int
  | [] => 0
  | x :: r => if acctD x = true then (if inR x.amount = true then faultB r else 3) else 310
theorem faultB_ok {l : List Dl} (h : ∀ j, j < l.length → ∀ x, l[j]? = some x → acctD x = true ∧ inR x.amount = true) : faultB l = 0 := by
  induction l with
  | nil => rfl
  | cons x r ih =>
    have h0 := h 0 (by simp) x rfl
    rw [faultB, if_pos h0.1, if_pos h0.2]
    exact ih fun j hj y hy => h (j + 1) (by simpa using hj) y (by simpa using hy)
theorem faultB_at : ∀ {l : List Dl} {k : Nat} {x : Dl}, (∀ j, j < k → ∀ x, l[j]? = some x → acctD x = true ∧ inR x.amount = true) → l[k]? = some x →
    (acctD x = false → faultB l = 310) ∧ (acctD x = true → inR x.amount = false → faultB l = 3)
  | [], k, x, _, hx => by simp at hx
  | y :: r, 0, x, _, hx => by
    simp at hx
    subst hx
    refine ⟨fun h => ?_, fun h h' => ?_⟩
    · rw [faultB, if_neg (by simp [h])]
    · rw [faultB, if_pos h, if_neg (by simp [h'])]
  | y :: r, k + 1, x, h, hx => by
    have h0 := h 0 (by omega) y rfl
    have ih := faultB_at (l := r) (k := k) (x := x) (fun j hj z hz => h (j + 1) (by omega) z (by simpa using hz)) (by simpa using hx)
    rw [faultB, if_pos h0.1, if_pos h0.2]
    exact ih
theorem faultB_zero : ∀ {l : List Dl}, faultB l = 0 → l.all acctD = true ∧ l.all (fun x => inR x.amount) = true
  | [], _ => ⟨rfl, rfl⟩
  | x :: r, h => by
    rw [faultB] at h
    split at h
    · rename_i h1
      split at h
      · rename_i h2
        have := faultB_zero h
        simp [h1, h2, this.1, this.2]
      · exact absurd h (by decide)
    · exact absurd h (by decide)

/-- Balances: the balances, and the error. -/
def balF (l : List Dl) : List Int × Int :=
  if faultB l ≠ 0 then ([], faultB l)
  else if (sumsB l).all inR = false then ([], 3)
  else (sumsB l, 0)
theorem balF_fault {l : List Dl} {n : Int} (h : faultB l = n) (h0 : n ≠ 0) : balF l = ([], n) := by rw [balF, if_pos (by rw [h]; exact h0), h]
theorem balF_over {l : List Dl} (h : faultB l = 0) {i : Nat} {x : Int} (hx : (sumsB l)[i]? = some x) (h1 : inR x = false) : balF l = ([], 3) := by
  rw [balF, if_neg (by omega), if_pos]
  rw [List.all_eq_false]
  exact ⟨x, List.mem_of_getElem? hx, by simp [h1]⟩
theorem balF_ok {l : List Dl} (h : faultB l = 0) (h1 : ∀ j, j < 336 → ∀ x, (sumsB l)[j]? = some x → inR x = true) : balF l = (sumsB l, 0) := by
  rw [balF, if_neg (by omega), if_neg]
  rw [Bool.not_eq_false, List.all_eq_true]
  intro x hx
  obtain ⟨j, hj, e⟩ := List.getElem_of_mem hx
  exact h1 j (by rw [sumsB_len] at hj; exact hj) x (by rw [List.getElem?_eq_getElem hj, e])
theorem balF_zero {l : List Dl} (h : (balF l).2 = 0) : faultB l = 0 ∧ (∀ x ∈ sumsB l, inR x = true) ∧ (balF l).1 = sumsB l := by
  unfold balF at h ⊢
  by_cases h1 : faultB l ≠ 0
  · rw [if_pos h1] at h; exact absurd h h1
  · rw [if_neg h1] at h ⊢
    by_cases h2 : (sumsB l).all inR = false
    · rw [if_pos h2] at h; exact absurd h (by decide)
    · rw [if_neg h2]
      rw [Bool.not_eq_false, List.all_eq_true] at h2
      exact ⟨by omega, h2, rfl⟩

/-- The sums stay far below 128 bits. -/
theorem lineAt_le {i : Nat} {x : Dl} (h : inR x.amount = true) : -(18014398509481984 : Int) ≤ lineAt i x ∧ lineAt i x ≤ 18014398509481984 := by
  have := inR_un h
  unfold lineAt
  split <;> split <;> omega
theorem flowAt_le (i : Nat) : ∀ l : List Dl, l.all (fun x => inR x.amount) = true → -(18014398509481984 * (l.length : Int)) ≤ flowAt i l ∧ flowAt i l ≤ 18014398509481984 * (l.length : Int)
  | [], _ => by simp [flowAt]
  | x :: r, h => by
    simp only [List.all_cons, Bool.and_eq_true] at h
    have h1 := lineAt_le (i := i) h.1
    have h2 := flowAt_le i r h.2
    simp only [flowAt, List.map_cons, List.sum_cons, List.length_cons] at *
    omega

/-- What is known where Balances' result is read. -/
def BalRes (w : World) (l : List Dl) (e : Ending) (w' : World) : Prop :=
  ∃ (A' : Option Addr) (c' : Nat), e = .returned (.tuple #[.slice A' (balF l).1.length c', .int .i64 (balF l).2]) ∧ Below w.heap.size w w' ∧ RdI w' w'.heap.size A' (balF l).1
theorem BalRes.nil {w : World} {l : List Dl} {w' : World} {n : Int} (h : balF l = ([], n)) (hb : Below w.heap.size w w') : BalRes w l (.returned (.tuple #[.slice none 0 0, .int .i64 n])) w' :=
  ⟨Option.none, 0, by rw [h]; rfl, hb, by rw [h]; intro k x hx; simp at hx⟩

end Go.Proofs.YtcdfjnnkocmeeaaGreatDoor
