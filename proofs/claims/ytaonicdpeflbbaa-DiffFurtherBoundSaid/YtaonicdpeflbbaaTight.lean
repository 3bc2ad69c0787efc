/-
  The tight bound of a difference: what the plain function answers holds in every solution, and some solution attains it. No program is in sight here.
-/
import Derived.Test.YtaonicdpeflbbaaPlain
namespace Go.Proofs.Ytaonicdpeflbbaa
open Go.RowKit

section
variable {n : Nat} {l : List Bd}

def g0t (i : Nat) : G := ⟨fun v => if v = i then some 0 else none, fun _ => none⟩

structure RelT (n : Nat) (c : Nat) (s : List Int × List Bool) (g : G) : Prop where
  l1 : s.1.length = n
  l2 : s.2.length = n
  val : ∀ v, v < n → g.d v = (if s.2.getD v false = true then some (s.1.getD v 0) else none) ∧ -(c * 1099511627776 : Int) ≤ s.1.getD v 0 ∧ s.1.getD v 0 ≤ c * 1099511627776

theorem relT_step (c k : Nat) (b : Bd) (s : List Int × List Bool) (g : G) (hb : okB n b = true) (hc : c < 2097152) (h : RelT n c s g) :
    (tStp k b s).2 = (gStp k b g).2 ∧ RelT n (c + 1) (tStp k b s).1 (gStp k b g).1 := by
  obtain ⟨b1, b2, b3, b4, b5, b6⟩ := okB_un hb
  obtain ⟨i1, i2, i3⟩ := h.val b.i.toNat (by omega)
  obtain ⟨j1, j2, j3⟩ := h.val b.j.toNat (by omega)
  have hw : wrap64 (s.1.getD b.i.toNat 0 + b.w) = s.1.getD b.i.toNat 0 + b.w := wrap64_id (by omega)
  have hg : gval g b = if s.2.getD b.i.toNat false = true ∧ (s.2.getD b.j.toNat false = false ∨ s.1.getD b.i.toNat 0 + b.w < s.1.getD b.j.toNat 0) then some (s.1.getD b.i.toNat 0 + b.w) else none := by
    simp only [gval, i1, j1]
    cases hki : s.2.getD b.i.toNat false <;> cases hkj : s.2.getD b.j.toNat false <;> simp
  have hmono : ∀ x : Int, x ≤ c * 1099511627776 → x ≤ ((c + 1 : Nat) : Int) * 1099511627776 := fun x hx => by
    rw [show ((c + 1 : Nat) : Int) = (c : Int) + 1 from by omega, Int.add_mul]; omega
  have hmono' : ∀ x : Int, -(c * 1099511627776 : Int) ≤ x → -(((c + 1 : Nat) : Int) * 1099511627776) ≤ x := fun x hx => by
    rw [show ((c + 1 : Nat) : Int) = (c : Int) + 1 from by omega, Int.add_mul]; omega
  unfold tStp
  rw [hw]
  by_cases hlt : s.2.getD b.i.toNat false = true ∧ (s.2.getD b.j.toNat false = false ∨ s.1.getD b.i.toNat 0 + b.w < s.1.getD b.j.toNat 0)
  · rw [if_pos hlt] at hg ⊢
    rw [gStp_some hg]
    refine ⟨rfl, by simpa using h.l1, by simpa using h.l2, ?_⟩
    intro v hv
    by_cases e : b.j.toNat = v
    · subst e
      simp only [upN_same]
      rw [getD_set_same (by rw [h.l2]; omega), getD_set_same (by rw [h.l1]; omega)]
      refine ⟨by simp, ?_, ?_⟩
      · rw [show ((c + 1 : Nat) : Int) = (c : Int) + 1 from by omega, Int.add_mul]; omega
      · rw [show ((c + 1 : Nat) : Int) = (c : Int) + 1 from by omega, Int.add_mul]; omega
    · simp only [upN_other _ _ (Ne.symm e)]
      rw [getD_set_other e, getD_set_other e]
      obtain ⟨v1, v2, v3⟩ := h.val v hv
      exact ⟨v1, hmono' _ v2, hmono _ v3⟩
  · rw [if_neg hlt] at hg ⊢
    rw [gStp_none hg]
    refine ⟨rfl, h.l1, h.l2, ?_⟩
    intro v hv
    obtain ⟨v1, v2, v3⟩ := h.val v hv
    exact ⟨v1, hmono' _ v2, hmono _ v3⟩

theorem relT_start {i : Nat} (hi : i < n) : RelT n 0 (t0 n i) (g0t i) where
  l1 := by simp [t0]
  l2 := by simp [t0]
  val := fun v hv => by
    have e1 : (t0 n i).1.getD v 0 = 0 := by simp [t0, List.getD, hv]
    have e2 : (t0 n i).2.getD v false = decide (i = v) := by
      by_cases e : i = v
      · subst e
        show ((List.replicate n false).set i true).getD i false = _
        rw [getD_set_same (by simpa using hi)]
        simp
      · show ((List.replicate n false).set i true).getD v false = _
        rw [getD_set_other e]
        simp [List.getD, hv, e]
    rw [e1, e2]
    refine ⟨?_, by omega, by omega⟩
    by_cases e : i = v
    · subst e; simp [g0t]
    · simp [g0t, e, Ne.symm e]

theorem tig_rel (h : Val n l) {i : Nat} (hi : i < n) : (tig n l i).2 = (runs gStp l n (g0t i) (-1)).2 ∧ ∃ c, c ≤ 2097152 ∧ RelT n c (tig n l i).1 (runs gStp l n (g0t i) (-1)).1 :=
  runs_sim (fun c k b s g hb hc hr => relT_step c k b s g (h.ok b hb) hc hr) n 0 _ _ (-1) (runs_bound h) (relT_start hi)

theorem tig_inv (h : Val n l) {i : Nat} (hi : i < n) : ∃ r R T t, Inv l (runs gStp l n (g0t i) (-1)).1 r l.length (tig n l i).2 R T t ∧ ((tig n l i).2 < 0 → ∀ b ∈ l, Sat (runs gStp l n (g0t i) (-1)).1 b) ∧ (0 ≤ (tig n l i).2 → r = n) := by
  obtain ⟨r, R, T, t, h1, h2, h3⟩ := runs_inv (l := l) n 1 (g0t i) (-1) _ _ 0 h.n1 (Nat.le_refl _) (Inv.start l (fun _ => rfl))
  rw [← (tig_rel h hi).1] at h1 h2 h3
  exact ⟨r, R, T, t, h1, h2, fun h0 => by have := h3 h0; omega⟩

/-- Where there is a solution, the sweeps come to rest. -/
theorem tig_rest (h : Val n l) {i : Nat} (hi : i < n) (y : Nat → Int) (hy : Sol l y) : (tig n l i).2 < 0 := by
  rcases Int.lt_or_le (tig n l i).2 0 with h0 | h0
  · exact h0
  · obtain ⟨r, R, T, t, hI, _, hr⟩ := tig_inv h hi
    obtain ⟨b0, hb0, hR⟩ := hI.last h0
    obtain rfl := hr h0
    have hlong := chain_long (v0 := b0.j.toNat) hI hR
    obtain ⟨k, hk, e⟩ := no_cycle hI.par' h.okL (h.okL b0 (List.mem_of_getElem? hb0)).2 y hy
    exact absurd e (hlong k hk)

/-- The tight bound, where there is one. -/
def tb (n : Nat) (l : List Bd) (i j : Nat) : Option Int := if (tig n l i).1.2.getD j false = true then some ((tig n l i).1.1.getD j 0) else none

theorem tb_d (h : Val n l) {i j : Nat} (hi : i < n) (hj : j < n) : (runs gStp l n (g0t i) (-1)).1.d j = tb n l i j := by
  obtain ⟨_, c, _, hr⟩ := tig_rel h hi
  exact (hr.val j hj).1

/-- In every solution the difference is at most the tight bound. -/
theorem tb_holds (h : Val n l) {i j : Nat} (hi : i < n) (hj : j < n) {w : Int} (hw : tb n l i j = some w) (y : Nat → Int) (hy : Sol l y) : y j - y i ≤ w := by
  rw [← tb_d h hi hj] at hw
  have := runs_above (g0 := g0t i) h.okL (fun v => y v - y i) (fun b hb => by have := hy b hb; simp only []; omega)
    (fun v _ a ha => by
      simp only [g0t] at ha
      by_cases e : v = i
      · subst e; simp at ha; omega
      · simp [e] at ha) n (-1) j hj w hw
  exact this

theorem tb_self (h : Val n l) {i : Nat} (hi : i < n) (y : Nat → Int) (hy : Sol l y) : tb n l i i = some 0 := by
  have h1 : ∃ c, (runs gStp l n (g0t i) (-1)).1.d i = some c ∧ c ≤ 0 := by
    refine runs_keep (fun g : G => ∃ c, g.d i = some c ∧ c ≤ 0) ?_ n (g0t i) (-1) ⟨0, by simp [g0t], Int.le_refl _⟩
    intro k b g _ hg
    obtain ⟨c, hc, hc0⟩ := hg
    cases hgv : gval g b with
    | none => rw [gStp_none hgv]; exact ⟨c, hc, hc0⟩
    | some x =>
      rw [gStp_some hgv]
      by_cases e : i = b.j.toNat
      · subst e
        obtain ⟨a, _, _, hl⟩ := gval_some hgv
        exact ⟨x, by simp [upN_same], by have := hl c hc; omega⟩
      · exact ⟨c, by simp only [upN_other _ _ e]; exact hc, hc0⟩
  obtain ⟨c, hc, hc0⟩ := h1
  rw [tb_d h hi hi] at hc
  have := tb_holds h hi hi hc y hy
  rw [hc]
  congr 1
  omega

/-- A solution beyond every number, or with the tight bounds as they are. -/
theorem tb_solution (h : Val n l) {i : Nat} (hi : i < n) (y : Nat → Int) (hy : Sol l y) (big : Int) :
    ∃ z : Nat → Int, Sol l z ∧ z i = 0 ∧ ∀ j, j < n → match tb n l i j with
      | some w => z j = w
      | none => big ≤ z j := by
  have hsat := (tig_inv h hi).choose_spec.choose_spec.choose_spec.choose_spec.2.1 (tig_rest h hi y hy)
  obtain ⟨_, c, hcM, hr⟩ := tig_rel h hi
  -- a number above all that is asked of the unknown ones
  have hM : ∃ M : Int, (∀ v, v < n → -M ≤ y v) ∧ 0 ≤ M := by
    have : ∀ m, ∃ M : Int, (∀ v, v < m → -M ≤ y v) ∧ 0 ≤ M := by
      intro m
      induction m with
      | zero => exact ⟨0, fun v hv => absurd hv (by omega), Int.le_refl _⟩
      | succ m ih =>
        obtain ⟨M, h1, h2⟩ := ih
        refine ⟨M + (if y m < 0 then - y m else 0), fun v hv => ?_, by split <;> omega⟩
        by_cases e : v = m
        · subst e; split <;> omega
        · have := h1 v (by omega)
          split <;> omega
    exact this n
  obtain ⟨M, hM1, hM0⟩ := hM
  obtain ⟨S, hS⟩ : ∃ S : Int, S = M + 2305844108725321728 + (if 0 ≤ big then big else 0) := ⟨_, rfl⟩
  have hS1 : M + 2305844108725321728 ≤ S := by rw [hS]; split <;> omega
  have hS2 : M + big ≤ S := by rw [hS]; split <;> omega
  refine ⟨fun v => match tb n l i v with | some w => w | none => y v + S, ?_, ?_, ?_⟩
  · intro b hb
    obtain ⟨o1, o2⟩ := h.okL b hb
    have hw := okB_un (h.ok b hb)
    have hs := hsat b hb
    simp only [Sat, tb_d h hi o1, tb_d h hi o2] at hs
    simp only []
    cases ei : tb n l i b.i.toNat with
    | some a =>
      obtain ⟨x, hx, hx2⟩ := hs a ei
      rw [hx]
      simp only []
      omega
    | none =>
      cases ej : tb n l i b.j.toNat with
      | none =>
        have := hy b hb
        simp only []
        omega
      | some x =>
        obtain ⟨j1, j2, j3⟩ := hr.val b.j.toNat o2
        rw [tb_d h hi o2, ej] at j1
        have hx : x = (tig n l i).1.1.getD b.j.toNat 0 := by
          by_cases hk : (tig n l i).1.2.getD b.j.toNat false = true
          · rw [if_pos hk] at j1; injection j1
          · rw [if_neg hk] at j1; cases j1
        have := hM1 b.i.toNat o1
        have : (c : Int) * 1099511627776 ≤ 2097152 * 1099511627776 := Int.mul_le_mul_of_nonneg_right (by omega) (by omega)
        simp only []
        omega
  · simp only [tb_self h hi y hy]
  · intro j hj
    simp only []
    cases ej : tb n l i j with
    | some x => rfl
    | none =>
      have := hM1 j hj
      simp only []
      omega

end
end Go.Proofs.Ytaonicdpeflbbaa
