/-
  The bounds noted, followed backward: they lead onto a cycle, whose bounds sum to a negative number; no solution satisfies them. No program is in sight here.
-/
import Derived.Test.YtaonicdpeflbbaaMath
namespace Go.Proofs.Ytaonicdpeflbbaa

theorem pigeon : ∀ (n : Nat) (f : Nat → Nat), (∀ k, k ≤ n → f k < n) → ∃ a b, a < b ∧ b ≤ n ∧ f a = f b := by
  intro n
  induction n with
  | zero => intro f h; exact absurd (h 0 (Nat.le_refl _)) (by omega)
  | succ n ih =>
    intro f h
    by_cases he : ∃ a, a ≤ n ∧ f a = f (n + 1)
    · obtain ⟨a, ha, e⟩ := he
      exact ⟨a, n + 1, by omega, Nat.le_refl _, e⟩
    · have hne : ∀ a, a ≤ n → f a ≠ f (n + 1) := fun a ha e => he ⟨a, ha, e⟩
      obtain ⟨a, b, hab, hb, e⟩ := ih (fun k => if f k = n then f (n + 1) else f k) (fun k hk => by
        have h1 := h k (by omega)
        have h2 := h (n + 1) (Nat.le_refl _)
        have h3 := hne k hk
        show (if f k = n then f (n + 1) else f k) < n
        split <;> omega)
      refine ⟨a, b, hab, by omega, ?_⟩
      have h1 := hne a (by omega)
      have h2 := hne b hb
      have e : (if f a = n then f (n + 1) else f a) = (if f b = n then f (n + 1) else f b) := e
      split at e <;> split at e <;> omega

theorem least (P : Nat → Prop) : ∀ k, P k → ∃ m, m ≤ k ∧ P m ∧ ∀ j, j < m → ¬ P j := by
  intro k
  induction k using Nat.strongRecOn with
  | _ k ih =>
    intro h
    by_cases he : ∃ j, j < k ∧ P j
    · obtain ⟨j, hj, hp⟩ := he
      obtain ⟨m, h1, h2, h3⟩ := ih j hj hp
      exact ⟨m, by omega, h2, h3⟩
    · exact ⟨k, Nat.le_refl _, h, fun j hj hp => he ⟨j, hj, hp⟩⟩

def par (l : List Bd) (p : Nat → Option Nat) (v : Nat) : Nat := match p v with
  | some i => (l.getD i default).i.toNat
  | none => v
def chain (l : List Bd) (p : Nat → Option Nat) (v : Nat) : Nat → Nat
  | 0 => v
  | k + 1 => par l p (chain l p v k)
def wt (l : List Bd) (p : Nat → Option Nat) (v : Nat) : Int := match p v with
  | some i => (l.getD i default).w
  | none => 0
/-- The sum of q numbers from place s on. -/
def csum (f : Nat → Int) (s : Nat) : Nat → Int
  | 0 => 0
  | q + 1 => csum f s q + f (s + q)

theorem getD_of {l : List Bd} {i : Nat} {b : Bd} (h : l[i]? = some b) : l.getD i default = b := by simp [List.getD, h]

/-- What is known of each noted bound. -/
def Par (l : List Bd) (g : G) (T : Nat → Nat) : Prop :=
  ∀ v i, g.p v = some i → ∃ b a c, l[i]? = some b ∧ b.j.toNat = v ∧ g.d b.i.toNat = some a ∧ g.d v = some c ∧ a + b.w ≤ c ∧ (T v ≤ T b.i.toNat → a + b.w < c)

theorem Inv.par' {l : List Bd} {g : G} {r k : Nat} {last : Int} {R T : Nat → Nat} {t : Nat} (h : Inv l g r k last R T t) : Par l g T := fun v i hp => by
  obtain ⟨b, a, c, h1, h2, h3, h4, h5, h6, _⟩ := h.par v i hp
  exact ⟨b, a, c, h1, h2, h3, h4, h5, h6⟩

def OkL (n : Nat) (l : List Bd) : Prop := ∀ b ∈ l, b.i.toNat < n ∧ b.j.toNat < n

section
variable {l : List Bd} {g : G} {T : Nat → Nat} {n v0 : Nat}

theorem chain_step (h : Par l g T) {v : Nat} (hv : g.p v ≠ none) : ∃ i b a c, g.p v = some i ∧ l[i]? = some b ∧ b.j.toNat = v ∧ b.i.toNat = par l g.p v ∧ wt l g.p v = b.w ∧
    g.d (par l g.p v) = some a ∧ g.d v = some c ∧ a + wt l g.p v ≤ c ∧ (T v ≤ T (par l g.p v) → a + wt l g.p v < c) := by
  obtain ⟨i, hi⟩ := Option.ne_none_iff_exists'.1 hv
  obtain ⟨b, a, c, h1, h2, h3, h4, h5, h6⟩ := h v i hi
  have e1 : par l g.p v = b.i.toNat := by simp only [par, hi, getD_of h1]
  have e2 : wt l g.p v = b.w := by simp only [wt, hi, getD_of h1]
  exact ⟨i, b, a, c, hi, h1, h2, e1.symm, e2, by rw [e1]; exact h3, h4, by rw [e2]; exact h5, by rw [e1, e2]; exact h6⟩

theorem chain_lt (h : Par l g T) (hl : OkL n l) (h0 : v0 < n) : ∀ k, chain l g.p v0 k < n := by
  intro k
  induction k with
  | zero => exact h0
  | succ k ih =>
    rw [chain]
    by_cases hp : g.p (chain l g.p v0 k) = none
    · rw [par, hp]; exact ih
    · obtain ⟨i, b, _, _, _, h1, _, h3, _⟩ := chain_step h hp
      rw [← h3]
      exact (hl b (List.mem_of_getElem? h1)).1

theorem chain_add {a b : Nat} (e : chain l g.p v0 a = chain l g.p v0 b) : ∀ m, chain l g.p v0 (a + m) = chain l g.p v0 (b + m) := by
  intro m
  induction m with
  | zero => exact e
  | succ m ih => rw [← Nat.add_assoc, ← Nat.add_assoc, chain, chain, ih]

/-- A chain that is known for n steps never ends, and is on a cycle from its n-th place on. -/
theorem chain_cycle (h : Par l g T) (hl : OkL n l) (h0 : v0 < n) (hp : ∀ k, k < n → g.p (chain l g.p v0 k) ≠ none) :
    (∀ k, g.p (chain l g.p v0 k) ≠ none) ∧ ∃ p, 1 ≤ p ∧ p ≤ n ∧ chain l g.p v0 (n + p) = chain l g.p v0 n ∧ (∀ q, 1 ≤ q → q < p → chain l g.p v0 (n + q) ≠ chain l g.p v0 n) ∧
      csum (fun k => wt l g.p (chain l g.p v0 k)) n p < 0 := by
  obtain ⟨a, b, hab, hb, e⟩ := pigeon n (chain l g.p v0) (fun k _ => chain_lt h hl h0 k)
  have hall : ∀ k, g.p (chain l g.p v0 k) ≠ none := by
    intro k
    induction k using Nat.strongRecOn with
    | _ k ih =>
      by_cases hk : k < n
      · exact hp k hk
      · have := chain_add e (k - b)
        rw [show b + (k - b) = k from by omega] at this
        rw [← this]
        exact ih _ (by omega)
  refine ⟨hall, ?_⟩
  have hper : chain l g.p v0 (n + (b - a)) = chain l g.p v0 n := by
    have := chain_add e (n - a)
    rw [show a + (n - a) = n from by omega, show b + (n - a) = n + (b - a) from by omega] at this
    exact this.symm
  obtain ⟨p, hp1, ⟨hp2, hp3⟩, hp4⟩ := least (fun p => 1 ≤ p ∧ chain l g.p v0 (n + p) = chain l g.p v0 n) (b - a) ⟨by omega, hper⟩
  refine ⟨p, hp2, by omega, hp3, fun q h1 h2 h3 => hp4 q h2 ⟨h1, h3⟩, ?_⟩
  have key : ∀ q, ∃ x y, g.d (chain l g.p v0 (n + q)) = some x ∧ g.d (chain l g.p v0 n) = some y ∧
      (csum (fun k => wt l g.p (chain l g.p v0 k)) n q + x < y ∨ (csum (fun k => wt l g.p (chain l g.p v0 k)) n q + x ≤ y ∧ (q = 0 ∨ T (chain l g.p v0 (n + q)) < T (chain l g.p v0 n)))) := by
    intro q
    induction q with
    | zero =>
      obtain ⟨i, b, a, c, _, _, _, _, _, _, h2, _⟩ := chain_step h (hall n)
      exact ⟨c, c, h2, h2, .inr ⟨by simp [csum], .inl rfl⟩⟩
    | succ q ih =>
      obtain ⟨x, y, hx, hy, hq⟩ := ih
      obtain ⟨i, b, a, c, _, _, _, _, _, h1, h2, h3, h4⟩ := chain_step h (hall (n + q))
      rw [hx] at h2
      injection h2 with h2
      subst h2
      refine ⟨a, y, by rw [← Nat.add_assoc, chain]; exact h1, hy, ?_⟩
      rw [csum, ← Nat.add_assoc, chain]
      by_cases ht : T (chain l g.p v0 (n + q)) ≤ T (par l g.p (chain l g.p v0 (n + q)))
      · left
        have := h4 ht
        rcases hq with hq | ⟨hq, _⟩ <;> omega
      · rcases hq with hq | ⟨hq, h5⟩
        · left; omega
        · right
          refine ⟨by omega, .inr ?_⟩
          rcases h5 with rfl | h5
          · simp only [Nat.add_zero] at ht ⊢; omega
          · omega
  obtain ⟨x, y, hx, hy, hq⟩ := key p
  rw [hp3] at hx hq
  rw [hx] at hy
  injection hy with hy
  subst hy
  rcases hq with hq | ⟨_, h5⟩ <;> omega

/-- No solution satisfies the bounds of a chain that returns with a negative sum. -/
theorem chain_no (h : Par l g T) (hall : ∀ k, g.p (chain l g.p v0 k) ≠ none) (y : Nat → Int) (hy : ∀ b ∈ l, y b.j.toNat - y b.i.toNat ≤ b.w) (s : Nat) :
    ∀ q, y (chain l g.p v0 s) - y (chain l g.p v0 (s + q)) ≤ csum (fun k => wt l g.p (chain l g.p v0 k)) s q := by
  intro q
  induction q with
  | zero => simp [csum]
  | succ q ih =>
    obtain ⟨i, b, a, c, _, h1, h2, h3, h4, _⟩ := chain_step h (hall (s + q))
    have := hy b (List.mem_of_getElem? h1)
    rw [csum, ← Nat.add_assoc, chain]
    rw [h4, ← h3]
    rw [h2] at this
    omega

theorem no_cycle (h : Par l g T) (hl : OkL n l) (h0 : v0 < n) (y : Nat → Int) (hy : ∀ b ∈ l, y b.j.toNat - y b.i.toNat ≤ b.w) : ∃ k, k < n ∧ g.p (chain l g.p v0 k) = none := by
  by_cases hp : ∃ k, k < n ∧ g.p (chain l g.p v0 k) = none
  · exact hp
  · obtain ⟨hall, p, _, _, h3, _, h5⟩ := chain_cycle h hl h0 (fun k hk e => hp ⟨k, hk, e⟩)
    have := chain_no h hall y hy n p
    rw [h3] at this
    omega

/-- An improvement in round n is the end of a chain of n bounds. -/
theorem chain_long {R : Nat → Nat} {t : Nat} {k : Nat} {last : Int} (h : Inv l g n k last R T t) (hR : R v0 = n) : ∀ k, k < n → g.p (chain l g.p v0 k) ≠ none := by
  have key : ∀ k, k ≤ n → n ≤ R (chain l g.p v0 k) + k := by
    intro k
    induction k with
    | zero => intro _; rw [chain, hR]; omega
    | succ k ih =>
      intro hk
      have h1 := ih (by omega)
      cases hpv : g.p (chain l g.p v0 k) with
      | none => have := h.nop _ hpv; omega
      | some i =>
        obtain ⟨b, _, _, hb, _, _, _, _, _, h7⟩ := h.par _ i hpv
        rw [chain, par, hpv]
        simp only [getD_of hb]
        omega
  intro k hk e
  have h1 := key k (by omega)
  have h2 := h.nop _ e
  omega
end

end Go.Proofs.Ytaonicdpeflbbaa
