/-
  What the plain functions answer: the greatest solution, or a contradicting cycle; the tight bound of a difference. No program is in sight here.
-/
import Derived.Test.YtaonicdpeflbbaaChain
namespace Go.Proofs.Ytaonicdpeflbbaa
open Go.RowKit

theorem wrap64_id {n : Int} (h : -9223372036854775808 ≤ n ∧ n ≤ 9223372036854775807) : wrap64 n = n := by unfold wrap64; omega

def low0 (n : Nat) : List Int × List Int := (List.replicate n 0, List.replicate n (-1))
/-- The state and the last bound of at most n sweeps from nothing. -/
def low (n : Nat) (l : List Bd) : (List Int × List Int) × Int := runs lowStp l n (low0 n) (-1)

/-- One bound of the system lowers a difference that is known, or makes it known (differences, whether known). -/
def tStp (_ : Nat) (b : Bd) (s : List Int × List Bool) : (List Int × List Bool) × Bool :=
  if s.2.getD b.i.toNat false = true ∧ (s.2.getD b.j.toNat false = false ∨ wrap64 (s.1.getD b.i.toNat 0 + b.w) < s.1.getD b.j.toNat 0) then
    ((s.1.set b.j.toNat (wrap64 (s.1.getD b.i.toNat 0 + b.w)), s.2.set b.j.toNat true), true)
  else (s, false)
def t0 (n i : Nat) : List Int × List Bool := (List.replicate n 0, (List.replicate n false).set i true)
def tig (n : Nat) (l : List Bd) (i : Nat) : (List Int × List Bool) × Int := runs tStp l n (t0 n i) (-1)

/-- A valid system. -/
structure Val (n : Nat) (l : List Bd) : Prop where
  n1 : 1 ≤ n
  n2 : n ≤ 512
  len : l.length ≤ 4096
  ok : ∀ x ∈ l, okB n x = true

def Sol (l : List Bd) (y : Nat → Int) : Prop := ∀ b ∈ l, y b.j.toNat - y b.i.toNat ≤ b.w

theorem checkF_zero {n : Int} {l : List Bd} (h : checkF n l = 0) : 1 ≤ n ∧ n ≤ 512 ∧ l.length ≤ 4096 ∧ ∀ x ∈ l, okB n x = true := by
  unfold checkF at h
  by_cases h1 : n < 1
  · simp [h1] at h
  by_cases h2 : 512 < n ∨ 4096 < l.length
  · simp [h1, h2] at h
  by_cases h3 : l.all (okB n) = true
  · exact ⟨by omega, by omega, by omega, List.all_eq_true.1 h3⟩
  · simp [h1, h2, h3] at h
theorem val_of {n : Int} {l : List Bd} (h : checkF n l = 0) : ∃ m : Nat, n = m ∧ Val m l := by
  obtain ⟨h1, h2, h3, h4⟩ := checkF_zero h
  obtain ⟨m, rfl⟩ := Int.eq_ofNat_of_zero_le (show 0 ≤ n by omega)
  exact ⟨m, rfl, by omega, by omega, h3, h4⟩
theorem val_check {n : Nat} {l : List Bd} (h : Val n l) : checkF n l = 0 := by
  have h1 := h.n1
  have h2 := h.n2
  have h3 := h.len
  rw [checkF, if_neg (by omega), if_neg (by omega), List.all_eq_true.2 h.ok]
  rfl

section
variable {n : Nat} {l : List Bd}

theorem Val.okL (h : Val n l) : OkL n l := fun b hb => by
  have := okB_un (h.ok b hb)
  omega

def g0l : G := ⟨fun _ => some 0, fun _ => none⟩

structure RelL (n : Nat) (c : Nat) (s : List Int × List Int) (g : G) : Prop where
  l1 : s.1.length = n
  l2 : s.2.length = n
  val : ∀ v, v < n → g.d v = some (s.1.getD v 0) ∧ -(c * 1099511627776 : Int) ≤ s.1.getD v 0 ∧ s.1.getD v 0 ≤ 0
  par : ∀ v, v < n → (s.2.getD v 0 = -1 ∧ g.p v = none) ∨ ∃ i : Nat, s.2.getD v 0 = i ∧ g.p v = some i

theorem getD_set_same {α : Type} {l : List α} {i : Nat} {a d : α} (h : i < l.length) : (l.set i a).getD i d = a := by simp [List.getD, h]
theorem getD_set_other {α : Type} {l : List α} {i j : Nat} {a d : α} (h : i ≠ j) : (l.set i a).getD j d = l.getD j d := by simp [List.getD, h]

theorem relL_step (c k : Nat) (b : Bd) (s : List Int × List Int) (g : G) (hb : okB n b = true) (hc : c < 2097152) (h : RelL n c s g) :
    (lowStp k b s).2 = (gStp k b g).2 ∧ RelL n (c + 1) (lowStp k b s).1 (gStp k b g).1 := by
  obtain ⟨b1, b2, b3, b4, b5, b6⟩ := okB_un hb
  obtain ⟨i1, i2, i3⟩ := h.val b.i.toNat (by omega)
  obtain ⟨j1, j2, j3⟩ := h.val b.j.toNat (by omega)
  have hw : wrap64 (s.1.getD b.i.toNat 0 + b.w) = s.1.getD b.i.toNat 0 + b.w := wrap64_id (by omega)
  have hg : gval g b = if s.1.getD b.i.toNat 0 + b.w < s.1.getD b.j.toNat 0 then some (s.1.getD b.i.toNat 0 + b.w) else none := by
    simp only [gval, i1, j1]
  unfold lowStp
  rw [hw]
  by_cases hlt : s.1.getD b.i.toNat 0 + b.w < s.1.getD b.j.toNat 0
  · rw [if_pos hlt] at hg ⊢
    rw [gStp_some hg]
    refine ⟨rfl, by simpa using h.l1, by simpa using h.l2, ?_, ?_⟩
    · intro v hv
      by_cases e : b.j.toNat = v
      · subst e
        simp only [upN_same]
        rw [getD_set_same (by rw [h.l1]; omega)]
        refine ⟨rfl, ?_, by omega⟩
        rw [show ((c + 1 : Nat) : Int) = (c : Int) + 1 from by omega, Int.add_mul]
        omega
      · simp only [upN_other _ _ (Ne.symm e)]
        rw [getD_set_other e]
        obtain ⟨v1, v2, v3⟩ := h.val v hv
        refine ⟨v1, ?_, v3⟩
        rw [show ((c + 1 : Nat) : Int) = (c : Int) + 1 from by omega, Int.add_mul]
        omega
    · intro v hv
      by_cases e : b.j.toNat = v
      · subst e
        right
        simp only [upN_same]
        rw [getD_set_same (by rw [h.l2]; omega)]
        exact ⟨k, rfl, rfl⟩
      · simp only [upN_other _ _ (Ne.symm e)]
        rw [getD_set_other e]
        exact h.par v hv
  · rw [if_neg hlt] at hg ⊢
    rw [gStp_none hg]
    refine ⟨rfl, h.l1, h.l2, ?_, h.par⟩
    intro v hv
    obtain ⟨v1, v2, v3⟩ := h.val v hv
    refine ⟨v1, ?_, v3⟩
    show -(((c + 1 : Nat) : Int) * 1099511627776) ≤ s.1.getD v 0
    rw [show ((c + 1 : Nat) : Int) = (c : Int) + 1 from by omega, Int.add_mul]
    omega

theorem relL_start (n : Nat) : RelL n 0 (low0 n) g0l where
  l1 := by simp [low0]
  l2 := by simp [low0]
  val := fun v hv => by simp [low0, g0l, List.getD, hv]
  par := fun v hv => .inl (by simp [low0, g0l, List.getD, hv])

theorem runs_bound (h : Val n l) : 0 + n * l.length ≤ 2097152 := by
  have h1 := h.n2
  have h2 := h.len
  have := Nat.mul_le_mul h1 h2
  omega

theorem low_rel (h : Val n l) : (low n l).2 = (runs gStp l n g0l (-1)).2 ∧ ∃ c, c ≤ 2097152 ∧ RelL n c (low n l).1 (runs gStp l n g0l (-1)).1 :=
  runs_sim (fun c k b s g hb hc hr => relL_step c k b s g (h.ok b hb) hc hr) n 0 _ _ (-1) (runs_bound h) (relL_start n)

theorem low_inv (h : Val n l) : ∃ r R T t, Inv l (runs gStp l n g0l (-1)).1 r l.length (low n l).2 R T t ∧ ((low n l).2 < 0 → ∀ b ∈ l, Sat (runs gStp l n g0l (-1)).1 b) ∧ (0 ≤ (low n l).2 → r = n) := by
  obtain ⟨r, R, T, t, h1, h2, h3⟩ := runs_inv (l := l) n 1 g0l (-1) _ _ 0 h.n1 (Nat.le_refl _) (Inv.start l (fun _ => rfl))
  rw [← (low_rel h).1] at h1 h2 h3
  exact ⟨r, R, T, t, h1, h2, fun h0 => by have := h3 h0; omega⟩

/-- Where nothing was improved last: a solution, no component positive. -/
theorem low_sol (h : Val n l) (hl : (low n l).2 < 0) : (low n l).1.1.length = n ∧ Sol l (fun v => (low n l).1.1.getD v 0) ∧ ∀ v, v < n → (low n l).1.1.getD v 0 ≤ 0 ∧ -((n : Int) * 1099511627776) ≤ (low n l).1.1.getD v 0 := by
  obtain ⟨_, c, hc, hr⟩ := low_rel h
  obtain ⟨r, R, T, t, hi, hs, _⟩ := low_inv h
  have hsol : Sol l (fun v => (low n l).1.1.getD v 0) := by
    intro b hb
    have ho := h.okL b hb
    obtain ⟨i1, _, _⟩ := hr.val b.i.toNat ho.1
    obtain ⟨j1, _, _⟩ := hr.val b.j.toNat ho.2
    obtain ⟨x, h1, h2⟩ := hs hl b hb _ i1
    rw [j1] at h1
    injection h1 with h1
    simp only []
    omega
  refine ⟨hr.l1, hsol, fun v hv => ⟨(hr.val v hv).2.2, ?_⟩⟩
  have hz : ∀ v, (runs gStp l n g0l (-1)).1.p v = none → (runs gStp l n g0l (-1)).1.d v = some 0 := by
    refine runs_keep (fun g : G => ∀ v, g.p v = none → g.d v = some 0) ?_ n g0l (-1) (fun v _ => rfl)
    intro k b g _ hg v hv
    cases hgv : gval g b with
    | none => rw [gStp_none hgv] at hv ⊢; exact hg v hv
    | some x =>
      rw [gStp_some hgv] at hv ⊢
      by_cases e : v = b.j.toNat
      · subst e; simp [upN_same] at hv
      · simp only [upN_other _ _ e] at hv ⊢; exact hg v hv
  obtain ⟨k, hk, hkp⟩ := no_cycle hi.par' h.okL hv (fun v => (low n l).1.1.getD v 0) hsol
  obtain ⟨m, hm, hmp, hmin⟩ := least (fun k => (runs gStp l n g0l (-1)).1.p (chain l (runs gStp l n g0l (-1)).1.p v k) = none) k hkp
  have key : ∀ q, q ≤ m → ∃ x, (runs gStp l n g0l (-1)).1.d (chain l (runs gStp l n g0l (-1)).1.p v q) = some x ∧ x - (q : Int) * 1099511627776 ≤ (low n l).1.1.getD v 0 := by
    intro q
    induction q with
    | zero => intro _; exact ⟨_, (hr.val v hv).1, by omega⟩
    | succ q ih =>
      intro hq
      obtain ⟨x, hx, hxl⟩ := ih (by omega)
      obtain ⟨i, b, a, c, _, hb, _, _, hw, h1, h2, h3, _⟩ := chain_step hi.par' (hmin q (by omega))
      rw [hx] at h2
      injection h2 with h2
      subst h2
      refine ⟨a, by rw [chain]; exact h1, ?_⟩
      have := okB_un (h.ok b (List.mem_of_getElem? hb))
      rw [hw] at h3
      rw [show ((q + 1 : Nat) : Int) = (q : Int) + 1 from by omega, Int.add_mul]
      omega
  obtain ⟨x, hx, hxl⟩ := key m (Nat.le_refl _)
  rw [hz _ hmp] at hx
  injection hx with hx
  have : (m : Int) * 1099511627776 ≤ (n : Int) * 1099511627776 := Int.mul_le_mul_of_nonneg_right (by omega) (by omega)
  omega

/-- What holds of every known value as long as a solution is below it. -/
theorem runs_above {g0 : G} (ho : OkL n l) (y : Nat → Int) (hy : Sol l y) (h0 : ∀ v, v < n → ∀ a, g0.d v = some a → y v ≤ a) (m : Nat) (last : Int) : ∀ v, v < n → ∀ a, (runs gStp l m g0 last).1.d v = some a → y v ≤ a := by
  refine runs_keep (fun g : G => ∀ v, v < n → ∀ a, g.d v = some a → y v ≤ a) ?_ m g0 last h0
  intro k b g hb hg v hv a ha
  cases hgv : gval g b with
  | none => rw [gStp_none hgv] at ha; exact hg v hv a ha
  | some x =>
    rw [gStp_some hgv] at ha
    by_cases e : v = b.j.toNat
    · subst e
      simp only [upN_same, Option.some.injEq] at ha
      obtain ⟨u, hu, hx, _⟩ := gval_some hgv
      have h1 := hg _ (ho b hb).1 u hu
      have h2 := hy b hb
      omega
    · simp only [upN_other _ _ e] at ha; exact hg v hv a ha

theorem low_great (h : Val n l) (y : Nat → Int) (hy : Sol l y) (h0 : ∀ v, v < n → y v ≤ 0) : ∀ v, v < n → y v ≤ (low n l).1.1.getD v 0 := by
  intro v hv
  obtain ⟨_, c, hc, hr⟩ := low_rel h
  exact runs_above h.okL y hy (fun v hv a ha => by injection ha with ha; have := h0 v hv; omega) n (-1) v hv _ (hr.val v hv).1

/-- Where something was improved last: the bounds noted lead onto a contradicting cycle. -/
theorem low_cyc (h : Val n l) (hl : 0 ≤ (low n l).2) : ∃ T b0, l[(low n l).2.toNat]? = some b0 ∧
    (∀ k, (runs gStp l n g0l (-1)).1.p (chain l (runs gStp l n g0l (-1)).1.p b0.j.toNat k) ≠ none) ∧ Par l (runs gStp l n g0l (-1)).1 T ∧
    ∃ p, 1 ≤ p ∧ p ≤ n ∧ chain l (runs gStp l n g0l (-1)).1.p b0.j.toNat (n + p) = chain l (runs gStp l n g0l (-1)).1.p b0.j.toNat n ∧
      (∀ q, 1 ≤ q → q < p → chain l (runs gStp l n g0l (-1)).1.p b0.j.toNat (n + q) ≠ chain l (runs gStp l n g0l (-1)).1.p b0.j.toNat n) ∧
      csum (fun k => wt l (runs gStp l n g0l (-1)).1.p (chain l (runs gStp l n g0l (-1)).1.p b0.j.toNat k)) n p < 0 := by
  obtain ⟨r, R, T, t, hi, _, hr⟩ := low_inv h
  obtain ⟨b0, hb0, hR⟩ := hi.last hl
  have hv := (h.okL b0 (List.mem_of_getElem? hb0)).2
  obtain rfl := hr hl
  have hlong := chain_long (v0 := b0.j.toNat) hi hR
  obtain ⟨h1, h2⟩ := chain_cycle hi.par' h.okL hv hlong
  exact ⟨T, b0, hb0, h1, hi.par', h2⟩

theorem low_none (h : Val n l) (hl : 0 ≤ (low n l).2) (y : Nat → Int) (hy : Sol l y) : False := by
  obtain ⟨T, b0, _, hall, hp, p, _, _, h3, _, h5⟩ := low_cyc h hl
  have := chain_no hp hall y hy n p
  rw [h3] at this
  omega

end
end Go.Proofs.Ytaonicdpeflbbaa
