/-
  The plain law of difference constraints: sweeps of improvement with what is known of each value, the bound that lowered it last, and, as ghosts, the round and the time in which that happened. If the last of n sweeps still improved something, the bounds noted form a contradicting cycle; else every bound is satisfied. No program is in sight here.
-/
import Derived.Test.YtaonicdpeflbbaaRuns
namespace Go.Proofs.Ytaonicdpeflbbaa

/-- The value of each variable, where one is known, and the index of the bound that lowered it last. -/
structure G where
  d : Nat → Option Int
  p : Nat → Option Nat

def upN {α : Type} (f : Nat → α) (v : Nat) (a : α) : Nat → α := fun x => if x = v then a else f x
theorem upN_same {α : Type} (f : Nat → α) (v : Nat) (a : α) : upN f v a v = a := by simp [upN]
theorem upN_other {α : Type} (f : Nat → α) {v x : Nat} (a : α) (h : x ≠ v) : upN f v a x = f x := by simp [upN, h]

/-- The value that a bound gives to its J, if that improves something. -/
def gval (g : G) (b : Bd) : Option Int :=
  match g.d b.i.toNat with
  | none => none
  | some a => match g.d b.j.toNat with
    | none => some (a + b.w)
    | some c => if a + b.w < c then some (a + b.w) else none

def gStp (k : Nat) (b : Bd) (g : G) : G × Bool :=
  match gval g b with
  | none => (g, false)
  | some v => (⟨upN g.d b.j.toNat (some v), upN g.p b.j.toNat (some k)⟩, true)

/-- The bound is satisfied as far as its I is known. -/
def Sat (g : G) (b : Bd) : Prop := ∀ a, g.d b.i.toNat = some a → ∃ c, g.d b.j.toNat = some c ∧ c ≤ a + b.w

theorem gval_none {g : G} {b : Bd} (h : gval g b = none) : Sat g b := by
  intro a ha
  unfold gval at h
  rw [ha] at h
  cases hc : g.d b.j.toNat with
  | none => simp [hc] at h
  | some c =>
    refine ⟨c, rfl, ?_⟩
    simp only [hc] at h
    by_cases hl : a + b.w < c
    · simp [hl] at h
    · omega
theorem gval_some {g : G} {b : Bd} {v : Int} (h : gval g b = some v) : ∃ a, g.d b.i.toNat = some a ∧ v = a + b.w ∧ (∀ c, g.d b.j.toNat = some c → v < c) := by
  unfold gval at h
  cases ha : g.d b.i.toNat with
  | none => simp [ha] at h
  | some a =>
    refine ⟨a, rfl, ?_⟩
    cases hc : g.d b.j.toNat with
    | none =>
      simp only [ha, hc, Option.some.injEq] at h
      exact ⟨h.symm, fun c hc' => by cases hc'⟩
    | some c =>
      simp only [ha, hc] at h
      by_cases hl : a + b.w < c
      · rw [if_pos hl] at h
        injection h with h
        exact ⟨h.symm, fun c' hc' => by injection hc' with e; omega⟩
      · rw [if_neg hl] at h; cases h

theorem gStp_none {g : G} {k : Nat} {b : Bd} (h : gval g b = none) : gStp k b g = (g, false) := by simp [gStp, h]
theorem gStp_some {g : G} {k : Nat} {b : Bd} {v : Int} (h : gval g b = some v) : gStp k b g = (⟨upN g.d b.j.toNat (some v), upN g.p b.j.toNat (some k)⟩, true) := by simp [gStp, h]

/-- In round r, the bounds before k having been tried: R the round, T the time of each variable's last improvement, t the time now. -/
structure Inv (l : List Bd) (g : G) (r k : Nat) (last : Int) (R T : Nat → Nat) (t : Nat) : Prop where
  time : ∀ v, T v ≤ t
  par : ∀ v i, g.p v = some i → ∃ b a c, l[i]? = some b ∧ b.j.toNat = v ∧ g.d b.i.toNat = some a ∧ g.d v = some c ∧ a + b.w ≤ c ∧ (T v ≤ T b.i.toNat → a + b.w < c) ∧ R v ≤ R b.i.toNat + 1
  nop : ∀ v, g.p v = Option.none → R v = 0
  upto : ∀ v, R v ≤ r
  done : ∀ i b, l[i]? = some b → i < k → r ≤ R b.i.toNat ∨ Sat g b
  todo : ∀ i b, l[i]? = some b → k ≤ i → 2 ≤ r → r - 1 ≤ R b.i.toNat ∨ Sat g b
  last : 0 ≤ last → ∃ b, l[last.toNat]? = some b ∧ R b.j.toNat = r

theorem Inv.keep {l : List Bd} {g : G} {r k : Nat} {last : Int} {R T : Nat → Nat} {t : Nat} (h : Inv l g r k last R T t) {b : Bd} (hb : l[k]? = some b) (hg : gval g b = none) : Inv l g r (k + 1) last R T t :=
  ⟨h.time, h.par, h.nop, h.upto,
   fun i x hx hi => by
    rcases Nat.lt_succ_iff_lt_or_eq.1 hi with h1 | rfl
    · exact h.done i x hx h1
    · rw [hb] at hx; injection hx with hx; subst hx; exact .inr (gval_none hg),
   fun i x hx hi h2 => h.todo i x hx (by omega) h2, h.last⟩

/-- A value that goes down breaks a bound's satisfaction only where it is the bound's own I. -/
theorem Sat.lower {g : G} {x : Bd} {v : Nat} {c : Int} {p : Nat → Option Nat} (h : Sat g x) (hv : x.i.toNat ≠ v) (hc : ∀ c', g.d v = some c' → c < c') : Sat ⟨upN g.d v (some c), p⟩ x := by
  intro a ha
  simp only [upN_other _ _ hv] at ha
  obtain ⟨c', h1, h2⟩ := h a ha
  by_cases e : x.j.toNat = v
  · subst e
    exact ⟨c, by simp [upN_same], by have := hc c' h1; omega⟩
  · exact ⟨c', by simp only [upN_other _ _ e]; exact h1, h2⟩

theorem Inv.step {l : List Bd} {g : G} {r k : Nat} {last : Int} {R T : Nat → Nat} {t : Nat} (hr : 1 ≤ r) (h : Inv l g r k last R T t) {b : Bd} (hb : l[k]? = some b) {v : Int} (hg : gval g b = some v) :
    Inv l ⟨upN g.d b.j.toNat (some v), upN g.p b.j.toNat (some k)⟩ r (k + 1) k (upN R b.j.toNat r) (upN T b.j.toNat (t + 1)) (t + 1) := by
  obtain ⟨a, ha, hv, hlow⟩ := gval_some hg
  have hns : ¬ Sat g b := by
    intro hs
    obtain ⟨c, h1, h2⟩ := hs a ha
    have := hlow c h1
    omega
  have hR : r ≤ R b.i.toNat + 1 := by
    by_cases h2 : 2 ≤ r
    · rcases h.todo k b hb (Nat.le_refl _) h2 with h3 | h3
      · omega
      · exact absurd h3 hns
    · omega
  refine ⟨?_, ?_, ?_, ?_, ?_, ?_, ?_⟩
  · intro x
    by_cases e : x = b.j.toNat
    · subst e; simp [upN_same]
    · rw [upN_other _ _ e]; have := h.time x; omega
  · intro x i hx
    by_cases e : x = b.j.toNat
    · subst e
      simp only [upN_same, Option.some.injEq] at hx
      subst hx
      by_cases e2 : b.i.toNat = b.j.toNat
      · refine ⟨b, v, v, hb, rfl, ?_, by simp [upN_same], ?_, ?_, ?_⟩
        · rw [e2]; simp [upN_same]
        · have := hlow a (by rw [← e2]; exact ha); omega
        · intro _; have := hlow a (by rw [← e2]; exact ha); omega
        · rw [e2]; omega
      · refine ⟨b, a, v, hb, rfl, ?_, by simp [upN_same], by omega, ?_, ?_⟩
        · simp only [upN_other _ _ e2]; exact ha
        · simp only [upN_same, upN_other _ _ e2]
          intro h3
          have := h.time b.i.toNat
          omega
        · simp only [upN_same, upN_other _ _ e2]
          omega
    · simp only [upN_other _ _ e] at hx
      obtain ⟨y, ya, yc, h1, h2, h3, h4, h5, h6, h7⟩ := h.par x i hx
      by_cases e2 : y.i.toNat = b.j.toNat
      · have hlt := hlow ya (by rw [← e2]; exact h3)
        refine ⟨y, v, yc, h1, h2, ?_, ?_, by omega, fun _ => by omega, ?_⟩
        · rw [e2]; simp [upN_same]
        · simp only [upN_other _ _ e]; exact h4
        · rw [e2, upN_same, upN_other _ _ e]
          have := h.upto x
          omega
      · refine ⟨y, ya, yc, h1, h2, ?_, ?_, h5, ?_, ?_⟩
        · simp only [upN_other _ _ e2]; exact h3
        · simp only [upN_other _ _ e]; exact h4
        · rw [upN_other _ _ e, upN_other _ _ e2]; exact h6
        · rw [upN_other _ _ e, upN_other _ _ e2]; exact h7
  · intro x hx
    by_cases e : x = b.j.toNat
    · subst e; simp [upN_same] at hx
    · simp only [upN_other _ _ e] at hx
      rw [upN_other _ _ e]; exact h.nop x hx
  · intro x
    by_cases e : x = b.j.toNat
    · subst e; simp [upN_same]
    · rw [upN_other _ _ e]; exact h.upto x
  · intro i x hx hi
    by_cases e : x.i.toNat = b.j.toNat
    · left; rw [e, upN_same]; exact Nat.le_refl _
    · rw [upN_other _ _ e]
      rcases Nat.lt_succ_iff_lt_or_eq.1 hi with h1 | rfl
      · rcases h.done i x hx h1 with h2 | h2
        · exact .inl h2
        · exact .inr (h2.lower e hlow)
      · rw [hb] at hx; injection hx with hx; subst hx
        right
        intro a' ha'
        simp only [upN_other _ _ e] at ha'
        rw [ha] at ha'; injection ha' with ha'; subst ha'
        exact ⟨v, by simp [upN_same], by omega⟩
  · intro i x hx hi h2
    by_cases e : x.i.toNat = b.j.toNat
    · left; rw [e, upN_same]; omega
    · rw [upN_other _ _ e]
      rcases h.todo i x hx (by omega) h2 with h3 | h3
      · exact .inl h3
      · exact .inr (h3.lower e hlow)
  · intro _
    exact ⟨b, by simpa using hb, by simp [upN_same]⟩

theorem Inv.round {l : List Bd} {g : G} {r : Nat} {last : Int} {R T : Nat → Nat} {t : Nat} (h : Inv l g r l.length last R T t) : Inv l g (r + 1) 0 (-1) R T t :=
  ⟨h.time, h.par, h.nop, fun v => Nat.le_succ_of_le (h.upto v), fun i b _ hi => absurd hi (by omega),
   fun i b hb _ _ => by
    have hi : i < l.length := (List.getElem?_eq_some_iff.1 hb).1
    simpa using h.done i b hb hi,
   fun h => absurd h (by omega)⟩

theorem Inv.start (l : List Bd) {g : G} (hp : ∀ v, g.p v = .none) : Inv l g 1 0 (-1) (fun _ => 0) (fun _ => 0) 0 :=
  ⟨fun _ => Nat.le_refl _, fun v i h => (by rw [hp v] at h; cases h), fun _ _ => rfl, fun _ => Nat.zero_le _, fun i b _ hi => absurd hi (by omega), fun i b _ _ h => absurd h (by omega), fun h => absurd h (by omega)⟩

theorem sweep_inv {l : List Bd} {r : Nat} (hr : 1 ≤ r) : ∀ (m : List Bd) (k : Nat) (g : G) (last : Int) (R T : Nat → Nat) (t : Nat), m = l.drop k → k ≤ l.length → Inv l g r k last R T t →
    ∃ R' T' t', Inv l (sweep gStp m k g last).1 r l.length (sweep gStp m k g last).2 R' T' t' := by
  intro m
  induction m with
  | nil =>
    intro k g last R T t hm hk h
    have : l.length ≤ k := by simpa using hm.symm
    obtain rfl : k = l.length := by omega
    exact ⟨R, T, t, h⟩
  | cons x m ih =>
    intro k g last R T t hm hk h
    have hkl : k < l.length := by
      rcases Nat.lt_or_ge k l.length with h1 | h1
      · exact h1
      · rw [List.drop_of_length_le h1] at hm; cases hm
    rw [List.drop_eq_getElem_cons hkl] at hm
    injection hm with hx hm
    have hb : l[k]? = some x := by rw [List.getElem?_eq_getElem hkl, hx]
    cases hg : gval g x with
    | none =>
      rw [sweep, gStp_none hg]
      exact ih (k + 1) g last R T t hm (by omega) (h.keep hb hg)
    | some v =>
      rw [sweep, gStp_some hg]
      exact ih (k + 1) _ _ _ _ _ hm (by omega) (h.step hr hb hg)

/-- A sweep whose last index is negative has turned nothing, and every bound is satisfied. -/
theorem sweep_still : ∀ (m : List Bd) (k : Nat) (g : G) (last : Int), (sweep gStp m k g last).2 < 0 → (sweep gStp m k g last).1 = g ∧ last < 0 ∧ ∀ b ∈ m, Sat g b := by
  intro m
  induction m with
  | nil => intro k g last h; exact ⟨rfl, h, fun b hb => by cases hb⟩
  | cons x m ih =>
    intro k g last h
    cases hg : gval g x with
    | none =>
      rw [sweep, gStp_none hg] at h ⊢
      obtain ⟨h1, h2, h3⟩ := ih _ _ _ h
      refine ⟨h1, by simpa using h2, fun b hb => ?_⟩
      rcases List.mem_cons.1 hb with rfl | hb
      · exact gval_none hg
      · exact h3 b hb
    | some v =>
      rw [sweep, gStp_some hg] at h
      obtain ⟨_, h2, _⟩ := ih _ _ _ h
      simp at h2
      omega

theorem runs_inv {l : List Bd} : ∀ (m r : Nat) (g : G) (last : Int) (R T : Nat → Nat) (t : Nat), 1 ≤ m → 1 ≤ r → Inv l g r 0 (-1) R T t →
    ∃ r' R' T' t', Inv l (runs gStp l m g last).1 r' l.length (runs gStp l m g last).2 R' T' t' ∧
      ((runs gStp l m g last).2 < 0 → ∀ b ∈ l, Sat (runs gStp l m g last).1 b) ∧ (0 ≤ (runs gStp l m g last).2 → r' = r + m - 1) := by
  intro m
  induction m with
  | zero => intro r g last R T t h; omega
  | succ m ih =>
    intro r g last R T t _ hr h
    obtain ⟨R', T', t', hi⟩ := sweep_inv hr l 0 g (-1) R T t rfl (Nat.zero_le _) h
    obtain ⟨s', last', hs⟩ : ∃ s' last', sweep gStp l 0 g (-1) = (s', last') := ⟨_, _, rfl⟩
    rw [hs] at hi
    by_cases hl : last' < 0
    · rw [runs_stop gStp hs hl]
      refine ⟨r, R', T', t', hi, fun _ => ?_, fun h0 => absurd h0 (by simp only []; omega)⟩
      have := sweep_still l 0 g (-1) (by rw [hs]; exact hl)
      rw [hs] at this
      obtain ⟨h1, _, h3⟩ := this
      simp only [] at h1
      rw [h1]; exact h3
    · rw [runs_on gStp hs hl]
      rcases Nat.eq_zero_or_pos m with rfl | hm
      · rw [runs]
        exact ⟨r, R', T', t', hi, fun h0 => absurd h0 hl, fun _ => by omega⟩
      · obtain ⟨r', R2, T2, t2, h1, h2, h3⟩ := ih (r + 1) s' last' R' T' t' hm (by omega) hi.round
        exact ⟨r', R2, T2, t2, h1, h2, fun h0 => by have := h3 h0; omega⟩

/-- What each improvement keeps holds at the end. -/
theorem sweep_keep {St : Type} {f : Nat → Bd → St → St × Bool} (P : St → Prop) : ∀ (m : List Bd) (k : Nat) (s : St) (last : Int), (∀ k b s, b ∈ m → P s → P (f k b s).1) → P s → P (sweep f m k s last).1 := by
  intro m
  induction m with
  | nil => intro k s last _ h; exact h
  | cons x m ih =>
    intro k s last hs h
    rw [sweep]
    exact ih _ _ _ (fun k b s hb => hs k b s (List.mem_cons_of_mem _ hb)) (hs k x s (List.mem_cons_self ..) h)
theorem runs_keep {St : Type} {f : Nat → Bd → St → St × Bool} (P : St → Prop) {l : List Bd} (hs : ∀ k b s, b ∈ l → P s → P (f k b s).1) : ∀ (m : Nat) (s : St) (last : Int), P s → P (runs f l m s last).1 := by
  intro m
  induction m with
  | zero => intro s last h; exact h
  | succ m ih =>
    intro s last h
    have h1 := sweep_keep P l 0 s (-1) hs h
    rw [runs]
    split
    · exact h1
    · exact ih _ _ h1

/-- Two kinds of state whose improvements go alike, as long as a count stays below M. -/
theorem sweep_sim {S S' : Type} {f : Nat → Bd → S → S × Bool} {g : Nat → Bd → S' → S' × Bool} {Rel : Nat → S → S' → Prop} {M : Nat} :
    ∀ (m : List Bd) (k c : Nat) (s : S) (s' : S') (last : Int), (∀ c k b s s', b ∈ m → c < M → Rel c s s' → (f k b s).2 = (g k b s').2 ∧ Rel (c + 1) (f k b s).1 (g k b s').1) → c + m.length ≤ M → Rel c s s' →
      (sweep f m k s last).2 = (sweep g m k s' last).2 ∧ Rel (c + m.length) (sweep f m k s last).1 (sweep g m k s' last).1 := by
  intro m
  induction m with
  | nil => intro k c s s' last _ _ h; exact ⟨rfl, h⟩
  | cons x m ih =>
    intro k c s s' last hs hM h
    simp only [List.length_cons] at hM ⊢
    obtain ⟨h1, h2⟩ := hs c k x s s' (List.mem_cons_self ..) (by omega) h
    rw [sweep, sweep, ← h1]
    have := ih (k + 1) (c + 1) _ _ (if (f k x s).2 then (k : Int) else last) (fun c k b s s' hb => hs c k b s s' (List.mem_cons_of_mem _ hb)) (by omega) h2
    rw [show c + (m.length + 1) = c + 1 + m.length from by omega]
    exact this
theorem runs_sim {S S' : Type} {f : Nat → Bd → S → S × Bool} {g : Nat → Bd → S' → S' × Bool} {Rel : Nat → S → S' → Prop} {M : Nat} {l : List Bd}
    (hs : ∀ c k b s s', b ∈ l → c < M → Rel c s s' → (f k b s).2 = (g k b s').2 ∧ Rel (c + 1) (f k b s).1 (g k b s').1) :
    ∀ (m c : Nat) (s : S) (s' : S') (last : Int), c + m * l.length ≤ M → Rel c s s' →
      (runs f l m s last).2 = (runs g l m s' last).2 ∧ ∃ c', c' ≤ M ∧ Rel c' (runs f l m s last).1 (runs g l m s' last).1 := by
  intro m
  induction m with
  | zero => intro c s s' last hM h; exact ⟨rfl, c, by omega, h⟩
  | succ m ih =>
    intro c s s' last hM h
    rw [Nat.succ_mul] at hM
    obtain ⟨h1, h2⟩ := sweep_sim l 0 c s s' (-1) hs (by omega) h
    rw [runs, runs, ← h1]
    split
    · exact ⟨h1, _, by omega, h2⟩
    · have := ih (c + l.length) _ _ (sweep f l 0 s (-1)).2 (by omega) h2
      rw [← h1] at *
      exact this

end Go.Proofs.Ytaonicdpeflbbaa
