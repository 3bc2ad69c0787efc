/-
  336 lists of numbers in rows of their own, apart from each other, their slices in one row. No program is in sight here.
-/
import Derived.Test.YtoiipfcmkogcfaaTypes
import Derived.Deep.AppendLies
import Derived.Maps.AppendAt
namespace Go.Proofs.Ytoiipfcmkogcfaa
open Go.RowKit

/-- Block pb holds the slices; list i is ls i; each in a row of its own, at base or above. -/
def Parts (w : World) (base pb : Nat) (ls : Nat → List Int) : Prop :=
  ∃ vs : Array Value, Row w pb 23 vs ∧ vs.size = 336 ∧ pb < base ∧
    (∀ (i : Nat) (v : Value), vs[i]? = some v → w.ownsRow base 3 1 v (ls i).length ((ls i).map (.int .i64))) ∧
    (∀ (i j : Nat) (v v' : Value) (g : Nat), vs[i]? = some v → vs[j]? = some v' → i ≠ j → v.ownBlock = some g → v'.ownBlock ≠ some g)

theorem grownBy_drew {w w' : World} {row : Option Nat} (h : w.grownBy w' row) : w.grownBy w'.drew row := ⟨h.os, h.tape, h.output, h.size, h.block⟩
theorem grownBy_setCell (w : World) (a : Addr) (v : Value) : w.grownBy (w.setCell a v) (some a.block) :=
  ⟨rfl, rfl, rfl, by simp [World.setCell], fun k _ hk => Below.heap_setCell w a v k (fun e => hk (by rw [e]))⟩

section
variable {w w' w1 : World} {base pb : Nat} {ls : Nat → List Int}

theorem Parts.kept (h : Parts w base pb ls) (hg : w.grownBy w' none) : Parts w' base pb ls := by
  obtain ⟨vs, hr, hs, hp, ho, hd⟩ := h
  exact ⟨vs, hr.grown hg (by simp), hs, hp, fun i v hv => (ho i v hv).kept hg (by
    cases hb : v.ownBlock with
    | none => exact Or.inl rfl
    | some g => exact Or.inr (by simp)), hd⟩
theorem Parts.drew (h : Parts w base pb ls) : Parts w.drew base pb ls := h
theorem Parts.lt (h : Parts w base pb ls) : pb < w.heap.size := by
  obtain ⟨vs, hr, _⟩ := h
  exact hr.lt

theorem Parts.at (h : Parts w base pb ls) {i : Nat} (hi : i < 336) : ∃ v, w.cell? ⟨pb, i, none⟩ = some v ∧ w.frozen? ⟨pb, i, none⟩ = false ∧ w.ownsRow base 3 1 v (ls i).length ((ls i).map (.int .i64)) ∧ v.ownBlock ≠ some pb := by
  obtain ⟨vs, hr, hs, hp, ho, hd⟩ := h
  have hv : vs[i]? = some vs[i] := Array.getElem?_eq_getElem (by omega)
  refine ⟨vs[i], (hr.cell i).trans hv, hr.frozen i, ho i _ hv, fun e => ?_⟩
  have := (ho i _ hv).lt _ e
  omega

/-- A list's slice is turned. -/
theorem Parts.set (h : Parts w base pb ls) {i : Nat} (hi : i < 336) {v v' : Value} {row : Option Nat} {L : List Int} (hv : w.cell? ⟨pb, i, none⟩ = some v) (hg : w.grownBy w1 row) (hrow : ∀ k, row = some k → v.ownBlock = some k)
    (hown : w1.ownsRow base 3 1 v' L.length (L.map (.int .i64))) (hnew : ∀ g, v'.ownBlock = some g → v.ownBlock = some g ∨ w.heap.size ≤ g) :
    Parts (w1.setCell ⟨pb, i, none⟩ v') base pb (fun j => if j = i then L else ls j) := by
  obtain ⟨vs, hr, hs, hp, ho, hd⟩ := h
  have hvi : vs[i]? = some v := (hr.cell i).symm.trans hv
  have hpr : some pb ≠ row := fun e => by
    have := (ho i v hvi).lt pb (hrow pb e.symm)
    omega
  have hr1 : Row w1 pb 23 vs := hr.grown hg hpr
  have hset := grownBy_setCell w1 ⟨pb, i, none⟩ v'
  have hapart : ∀ {u : Value} {n : Nat} {xs : List Value}, w1.ownsRow base 3 1 u n xs → (w1.setCell ⟨pb, i, none⟩ v').ownsRow base 3 1 u n xs := fun {u n xs} hu =>
    hu.kept hset (by
      cases hb : u.ownBlock with
      | none => exact Or.inl rfl
      | some g =>
        right
        intro e
        have := hu.lt g hb
        injection e with e
        simp at e
        omega)
  have hat : ∀ (j : Nat) (u : Value), (vs.setIfInBounds i v')[j]? = some u → (j = i ∧ u = v') ∨ (j ≠ i ∧ vs[j]? = some u) := by
    intro j u hu
    rw [Array.getElem?_setIfInBounds] at hu
    by_cases hji : i = j
    · subst hji
      rw [if_pos rfl, if_pos (by omega)] at hu
      injection hu with hu
      exact Or.inl ⟨rfl, hu.symm⟩
    · rw [if_neg hji] at hu
      exact Or.inr ⟨fun e => hji e.symm, hu⟩
  refine ⟨vs.setIfInBounds i v', hr1.set i v', by simp [hs], hp, fun j u hu => ?_, fun j k u u' g hu hu' hjk hb hb' => ?_⟩
  · rcases hat j u hu with ⟨rfl, rfl⟩ | ⟨hne, hu⟩
    · simp only [if_true]
      exact hapart hown
    · simp only [if_neg hne]
      refine hapart ((ho j u hu).kept hg ?_)
      cases hb : u.ownBlock with
      | none => exact Or.inl rfl
      | some g =>
        right
        intro e
        exact hd j i u v g hu hvi hne hb (hrow g e.symm)
  · have key : ∀ (j : Nat) (u : Value), vs[j]? = some u → j ≠ i → u.ownBlock = some g → v'.ownBlock = some g → False := by
      intro j u hu hne h1 h2
      rcases hnew g h2 with h3 | h3
      · exact hd j i u v g hu hvi hne h1 h3
      · have := (ho j u hu).lt g h1
        omega
    rcases hat j u hu with ⟨e1, e2⟩ | ⟨hne, hu2⟩
    · rcases hat k u' hu' with ⟨e3, e4⟩ | ⟨hne', hu2'⟩
      · exact hjk (e1.trans e3.symm)
      · exact key k u' hu2' hne' hb' (e2 ▸ hb)
    · rcases hat k u' hu' with ⟨e3, e4⟩ | ⟨hne', hu2'⟩
      · exact key j u hu2 hne hb (e4 ▸ hb')
      · exact hd j k u u' g hu2 hu2' hjk hb hb'

/-- All nil at first. -/
theorem Parts.made (w : World) : Parts (w.alloc (.cells (Array.replicate 336 (Value.slice none 0 0)) 23)) (w.heap.size + 1) w.heap.size (fun _ => []) := by
  refine ⟨_, Row.new w 23 _, by simp, by omega, fun i v hv => ?_, fun i j v v' g hv hv' _ hb => ?_⟩
  · have : v = .slice none 0 0 := by
      obtain ⟨_, e⟩ := Array.getElem?_eq_some_iff.1 hv
      simpa using e.symm
    subst this
    exact World.ownsRow_nil _ _ _ _
  · have : v = .slice none 0 0 := by
      obtain ⟨_, e⟩ := Array.getElem?_eq_some_iff.1 hv
      simpa using e.symm
    subst this
    simp [Value.ownBlock] at hb

/-- A list is read. -/
theorem own_ints {w : World} {base : Nat} {t : TypeId} {v : Value} {l : List Int} (h : w.ownsRow base t 1 v l.length (l.map (.int .i64))) : ∃ A c, v = .slice A l.length c ∧ RdI w w.heap.size A l := by
  rcases h.2 with ⟨rfl, e⟩ | ⟨g, cap, cur, rfl, _, hh, hnc, _, hsz, htake⟩
  · have : l = [] := List.eq_nil_of_length_eq_zero e
    subst this
    exact ⟨none, 0, rfl, fun k x hx => by simp at hx⟩
  · refine ⟨_, cap, rfl, fun k x hx => ⟨g, 0, rfl, (Array.getElem?_eq_some_iff.1 hh).1, ?_⟩⟩
    have hr : Row w g t cur := hh
    rw [Nat.zero_add, hr.cell]
    have hk := (List.getElem?_eq_some_iff.1 hx).1
    have h1 : (l.map (Value.int .i64))[k]? = some (.int .i64 x) := by simp [hx]
    rw [← htake, List.getElem?_take_of_lt (by omega)] at h1
    simpa using h1

end
end Go.Proofs.Ytoiipfcmkogcfaa
