/-
  What Apply computes, in plain Lean. No program is in sight here.
-/
import Derived.Test.YtoiipfcmkogcfaaPt
import Derived.Test.YtoiipfcmkogcfaaWd
namespace Go.Proofs.Ytoiipfcmkogcfaa
open Go.RowKit

/-- Both accounts of a change are accounts. -/
def acctD (x : Dl) : Bool := acct x.payer && acct x.payee
/-- The amount is in the range of two amounts. -/
def inD (x : Dl) : Bool := decide (-18014398509481984 ≤ x.amount ∧ x.amount ≤ 18014398509481984)
def halfD (x : Dl) : Int := x.amount.tdiv 2
theorem halfD_in {x : Dl} (h : inD x = true) : -9007199254740992 ≤ halfD x ∧ halfD x ≤ 9007199254740992 := by
  simp only [inD, decide_eq_true_eq] at h
  unfold halfD
  rcases Int.lt_or_le x.amount 0 with h0 | h0
  · have e : x.amount.tdiv 2 = -((-x.amount) / 2) := by
      have e1 : x.amount = -(-x.amount) := by omega
      rw [e1, Int.neg_tdiv, Int.tdiv_eq_ediv_of_nonneg (by omega), Int.neg_neg]
    omega
  · have e : x.amount.tdiv 2 = x.amount / 2 := Int.tdiv_eq_ediv_of_nonneg h0
    omega

def putL (ls : Nat → List Int) (i : Nat) (news : List Int) : Nat → List Int := fun j => if j = i then ls i ++ news else ls j
/-- One change. -/
def stepP (ls : Nat → List Int) (x : Dl) : Nat → List Int :=
  putL (putL ls x.payer.toNat [-(halfD x), halfD x - x.amount]) x.payee.toNat [halfD x, x.amount - halfD x]
def initP (b : List Int) (k : Nat) : Nat → List Int := fun j => if j < k then [b.getD j 0] else []
def partsP (b : List Int) (d : List Dl) : Nat → List Int := d.foldl stepP (initP b 336)

/-- Apply: the balances, and the error. -/
def applyF (b : List Int) (d : List Dl) : List Int × Int :=
  if b.length ≠ 336 then ([], 1)
  else if d.all acctD = false then ([], 310)
  else if d.all inD = false then ([], 3)
  else if (List.range 336).all (fun i => sumOk (partsP b d i)) = false then ([], 3)
  else ((List.range 336).map fun i => (partsP b d i).sum, 0)

theorem putL_len (ls : Nat → List Int) (i : Nat) (a b : Int) (j : Nat) : (putL ls i [a, b] j).length ≤ (ls j).length + 2 := by
  unfold putL
  split
  · subst_vars; simp
  · omega
theorem stepP_len (ls : Nat → List Int) (x : Dl) (j : Nat) : (stepP ls x j).length ≤ (ls j).length + 4 := by
  unfold stepP
  refine Nat.le_trans (putL_len _ _ _ _ j) ?_
  have := putL_len ls x.payer.toNat (-(halfD x)) (halfD x - x.amount) j
  omega
theorem foldP_len : ∀ (d : List Dl) (ls : Nat → List Int) (j n : Nat), (ls j).length ≤ n → (d.foldl stepP ls j).length ≤ n + 4 * d.length
  | [], ls, j, n, h => by simpa using h
  | x :: r, ls, j, n, h => by
    have := foldP_len r (stepP ls x) j (n + 4) (Nat.le_trans (stepP_len ls x j) (by omega))
    simp only [List.foldl_cons, List.length_cons]
    omega
theorem initP_len (b : List Int) (k j : Nat) : (initP b k j).length ≤ 1 := by
  unfold initP
  split <;> simp
theorem partsP_len (b : List Int) (d : List Dl) (j : Nat) : (partsP b d j).length ≤ 1 + 4 * d.length := foldP_len d _ j 1 (initP_len b 336 j)
theorem initP_succ (b : List Int) (k : Nat) {x : Int} (hx : b[k]? = some x) : (fun j => if j = k then [x] else initP b k j) = initP b (k + 1) := by
  funext j
  unfold initP
  by_cases h : j = k
  · subst h
    rw [if_pos rfl, if_pos (by omega)]
    simp [List.getD, hx]
  · rw [if_neg h]
    by_cases h2 : j < k
    · rw [if_pos h2, if_pos (by omega)]
    · rw [if_neg h2, if_neg (by omega)]

theorem all_false_at {α : Type} {p : α → Bool} {l : List α} {k : Nat} {x : α} (hx : l[k]? = some x) (h : p x = false) : l.all p = false := by
  rw [List.all_eq_false]
  exact ⟨x, List.mem_of_getElem? hx, by rw [h]; simp⟩
theorem all_true_of {α : Type} {p : α → Bool} {l : List α} (h : ∀ j, j < l.length → ∀ x, l[j]? = some x → p x = true) : l.all p = true := by
  rw [List.all_eq_true]
  intro x hx
  obtain ⟨j, hj, e⟩ := List.getElem_of_mem hx
  exact h j hj x (by rw [List.getElem?_eq_getElem hj, e])
theorem all_step {α : Type} {p : α → Bool} {l : List α} {k : Nat} {x : α} (h : ∀ j, j < k → ∀ x, l[j]? = some x → p x = true) (hx : l[k]? = some x) (hk : p x = true) : ∀ j, j < k + 1 → ∀ x, l[j]? = some x → p x = true := by
  intro j hj y hy
  rcases Nat.lt_succ_iff_lt_or_eq.1 hj with h1 | rfl
  · exact h j h1 y hy
  · rw [hx] at hy; injection hy with hy; rw [← hy]; exact hk

theorem applyF_len {b : List Int} (d : List Dl) (h : b.length ≠ 336) : applyF b d = ([], 1) := by unfold applyF; rw [if_pos h]
theorem applyF_acct {b : List Int} {d : List Dl} (h : b.length = 336) (h1 : d.all acctD = false) : applyF b d = ([], 310) := by unfold applyF; rw [if_neg (by omega), if_pos h1]
theorem applyF_in {b : List Int} {d : List Dl} (h : b.length = 336) (h1 : d.all acctD = true) (h2 : d.all inD = false) : applyF b d = ([], 3) := by unfold applyF; rw [if_neg (by omega), if_neg (by simp [h1]), if_pos h2]
theorem applyF_bad {b : List Int} {d : List Dl} (h : b.length = 336) (h1 : d.all acctD = true) (h2 : d.all inD = true) {i : Nat} (hi : i < 336) (h3 : ¬ sumOk (partsP b d i) = true) : applyF b d = ([], 3) := by
  unfold applyF
  rw [if_neg (by omega), if_neg (by simp [h1]), if_neg (by simp [h2]), if_pos]
  rw [List.all_eq_false]
  exact ⟨i, by simpa using hi, h3⟩
theorem applyF_ok {b : List Int} {d : List Dl} (h : b.length = 336) (h1 : d.all acctD = true) (h2 : d.all inD = true) (h3 : ∀ i, i < 336 → sumOk (partsP b d i) = true) : applyF b d = ((List.range 336).map fun i => (partsP b d i).sum, 0) := by
  unfold applyF
  rw [if_neg (by omega), if_neg (by simp [h1]), if_neg (by simp [h2]), if_neg]
  rw [Bool.not_eq_false, List.all_eq_true]
  intro i hi
  exact h3 i (by simpa using hi)

theorem ownsRow_ne {w : World} {base size X n : Nat} {e t : TypeId} {v : Value} {xs : List Value} {cs : Array Value} (h : w.ownsRow base e size v n xs) (hr : Row w X t cs) (hne : e ≠ t) : v.ownBlock ≠ some X := by
  rcases h.2 with ⟨rfl, _⟩ | ⟨g, cap, cur, rfl, _, hh, _⟩
  · simp [Value.ownBlock]
  · intro e1
    simp [Value.ownBlock] at e1
    subst e1
    have hr' : w.heap[g]? = _ := hr
    rw [hh] at hr'
    injection hr' with hr'
    injection hr' with _ h2
    exact hne h2
theorem one_ints (l : List Int) : ∀ u ∈ l.map (Value.int .i64), u.oneCell' = true := by
  intro u hu
  obtain ⟨x, _, rfl⟩ := List.mem_map.1 hu
  rfl
theorem putL_set (ls : Nat → List Int) (i : Nat) (news : List Int) : (fun j => if j = i then ls i ++ news else ls j) = putL ls i news := rfl
theorem stepP_eq (ls : Nat → List Int) (x : Dl) {i j : Nat} {hh n : Int} (hi : x.payer = i) (hj : x.payee = j) (h1 : hh = halfD x) (h2 : n = x.amount) : putL (putL ls i [-hh, hh - n]) j [hh, n - hh] = stepP ls x := by
  rw [stepP, hi, hj, Int.toNat_natCast, Int.toNat_natCast, h1, h2]

/-- The sums, as far as they are there. -/
def outs (ls : Nat → List Int) (k : Nat) : List Int := (List.range 336).map fun i => if i < k then (ls i).sum else 0
theorem outs_len (ls : Nat → List Int) (k : Nat) : (outs ls k).length = 336 := by simp [outs]
theorem outs_zero (ls : Nat → List Int) : Array.replicate 336 (Value.int .i64 0) = ints (outs ls 0) := by
  apply Array.ext
  · simp [ints, outs]
  · intro i h1 h2
    simp [ints, outs]
theorem outs_set (ls : Nat → List Int) {k : Nat} (_hk : k < 336) : (outs ls k).set k (ls k).sum = outs ls (k + 1) := by
  apply List.ext_getElem
  · simp [outs]
  · intro i h1 h2
    simp only [outs, List.getElem_set, List.getElem_map, List.getElem_range]
    by_cases h : k = i
    · subst h
      simp
    · simp only [if_neg h]
      by_cases h3 : i < k
      · rw [if_pos h3, if_pos (by omega)]
      · rw [if_neg h3, if_neg (by omega)]
theorem outs_all (ls : Nat → List Int) : outs ls 336 = (List.range 336).map fun i => (ls i).sum := by
  apply List.map_congr_left
  intro i hi
  rw [if_pos (by simpa using hi)]
theorem row_reads {w : World} {g : Nat} {l : List Int} (h : Row w g 3 (ints l)) : RdI w w.heap.size (some ⟨g, 0, none⟩) l := by
  intro k x hx
  refine ⟨g, 0, rfl, h.lt, ?_⟩
  rw [Nat.zero_add, h.cell]
  simp [ints, hx]

/-- What is known where Apply's result is read. -/
def ApplyRes (w : World) (b : List Int) (d : List Dl) (e : Ending) (w' : World) : Prop :=
  ∃ (A' : Option Addr) (c' : Nat), e = .returned (.tuple #[.slice A' (applyF b d).1.length c', .int .i64 (applyF b d).2]) ∧ Below w.heap.size w w' ∧ RdI w' w'.heap.size A' (applyF b d).1
theorem ApplyRes.nil {w : World} {b : List Int} {d : List Dl} {w' : World} {n : Int} (h : applyF b d = ([], n)) (hb : Below w.heap.size w w') : ApplyRes w b d (.returned (.tuple #[.slice none 0 0, .int .i64 n])) w' :=
  ⟨Option.none, 0, by rw [h]; rfl, hb, by rw [h]; intro k x hx; simp at hx⟩

end Go.Proofs.Ytoiipfcmkogcfaa
