/-
  The contradicting cycle as Cycle reads it off the bounds noted, and that it is one. No program is in sight here.
-/
import Derived.Test.YtaonicdpeflbbaaTight
namespace Go.Proofs.Ytaonicdpeflbbaa
open Go.RowKit

/-- The way back along the bounds noted: the variables, the bounds, and the place where it returns. -/
structure CycD (n : Nat) (l : List Bd) (last : Int) (bys : List Int) (ch ix : Nat → Nat) (bd : Nat → Bd) (p : Nat) : Prop where
  start : ∃ b, l[last.toNat]? = some b ∧ b.j = (ch 0 : Int)
  lt : ∀ k, ch k < n
  by_ : ∀ k, bys.getD (ch k) 0 = (ix k : Int)
  at_ : ∀ k, l[ix k]? = some (bd k)
  i_ : ∀ k, (bd k).i = (ch (k + 1) : Int)
  j_ : ∀ k, (bd k).j = (ch k : Int)
  fun_ : ∀ a b, ch a = ch b → ch (a + 1) = ch (b + 1)
  p1 : 1 ≤ p
  p2 : p ≤ n
  back : ch (n + p) = ch n
  first : ∀ q, 1 ≤ q → q < p → ch (n + q) ≠ ch n
  neg : csum (fun k => (bd k).w) n p < 0

theorem cyc_data {n : Nat} {l : List Bd} (h : Val n l) (hl : 0 ≤ (low n l).2) : ∃ ch ix bd p, CycD n l (low n l).2 (low n l).1.2 ch ix bd p := by
  obtain ⟨T, b0, hb0, hall, hpar, p, hp1, hp2, hp3, hp4, hp5⟩ := low_cyc h hl
  obtain ⟨_, c, _, hr⟩ := low_rel h
  have ho := h.okL
  have hlt := chain_lt hpar ho (ho b0 (List.mem_of_getElem? hb0)).2
  refine ⟨chain l (runs gStp l n g0l (-1)).1.p b0.j.toNat, fun k => ((runs gStp l n g0l (-1)).1.p (chain l (runs gStp l n g0l (-1)).1.p b0.j.toNat k)).getD 0,
    fun k => l.getD (((runs gStp l n g0l (-1)).1.p (chain l (runs gStp l n g0l (-1)).1.p b0.j.toNat k)).getD 0) default, p, ?_⟩
  have key : ∀ k, ∃ i b, (runs gStp l n g0l (-1)).1.p (chain l (runs gStp l n g0l (-1)).1.p b0.j.toNat k) = some i ∧ l[i]? = some b ∧ b.j.toNat = chain l (runs gStp l n g0l (-1)).1.p b0.j.toNat k ∧
      b.i.toNat = chain l (runs gStp l n g0l (-1)).1.p b0.j.toNat (k + 1) ∧ wt l (runs gStp l n g0l (-1)).1.p (chain l (runs gStp l n g0l (-1)).1.p b0.j.toNat k) = b.w := by
    intro k
    obtain ⟨i, b, _, _, h1, h2, h3, h4, h5, _⟩ := chain_step hpar (hall k)
    exact ⟨i, b, h1, h2, h3, h4, h5⟩
  constructor
  · refine ⟨b0, hb0, ?_⟩
    have := okB_un (h.ok b0 (List.mem_of_getElem? hb0))
    rw [chain]
    omega
  · exact hlt
  · intro k
    obtain ⟨i, b, h1, _⟩ := key k
    rcases hr.par _ (hlt k) with ⟨_, e⟩ | ⟨i', e1, e2⟩
    · rw [h1] at e; cases e
    · rw [e2]; exact e1
  · intro k
    obtain ⟨i, b, h1, h2, _⟩ := key k
    simp only [h1, Option.getD_some, getD_of h2]
    exact h2
  · intro k
    obtain ⟨i, b, h1, h2, _, h4, _⟩ := key k
    simp only [h1, Option.getD_some, getD_of h2]
    have := okB_un (h.ok b (List.mem_of_getElem? h2))
    rw [← h4]
    omega
  · intro k
    obtain ⟨i, b, h1, h2, h3, _, _⟩ := key k
    simp only [h1, Option.getD_some, getD_of h2]
    have := okB_un (h.ok b (List.mem_of_getElem? h2))
    rw [← h3]
    omega
  · intro a b e
    rw [chain, chain, e]
  · exact hp1
  · exact hp2
  · exact hp3
  · exact hp4
  · have e : (fun k => (l.getD (((runs gStp l n g0l (-1)).1.p (chain l (runs gStp l n g0l (-1)).1.p b0.j.toNat k)).getD 0) default).w) = fun k => wt l (runs gStp l n g0l (-1)).1.p (chain l (runs gStp l n g0l (-1)).1.p b0.j.toNat k) := by
      funext k
      obtain ⟨i, b, h1, h2, _, _, h5⟩ := key k
      rw [h5]
      simp only [h1, Option.getD_some, getD_of h2]
    rw [e]
    exact hp5

/-- The bounds collected after q steps around. -/
def coll (ix : Nat → Nat) (n q : Nat) : List Int := (List.range q).map fun t => (ix (n + t) : Int)
theorem coll_len (ix : Nat → Nat) (n q : Nat) : (coll ix n q).length = q := by simp [coll]
theorem coll_succ (ix : Nat → Nat) (n q : Nat) : (coll ix n q).map (Value.int .i64) ++ [Value.int .i64 (ix (n + q))] = (coll ix n (q + 1)).map (Value.int .i64) := by
  simp [coll, List.range_succ]

/-- What Cycle answers. -/
def CycleRes (n : Int) (l : List Bd) (B : Nat) (w' : World) (v : Value) (er : Int) : Prop :=
  if checkF n l = 0 then
    if (low n.toNat l).2 < 0 then er = 0 ∧ v = .slice none 0 0
    else er = 0 ∧ ∃ ch ix bd p g cap, CycD n.toNat l (low n.toNat l).2 (low n.toNat l).1.2 ch ix bd p ∧ v = .slice (some ⟨g, 0, none⟩) p cap ∧ B ≤ g ∧ RdI w' w'.heap.size (some ⟨g, 0, none⟩) (coll ix n.toNat p).reverse
  else er = checkF n l ∧ v = .slice none 0 0

theorem Below.cells {B b : Nat} (hb : B ≤ b) : ∀ (vs : List Value) (o : Nat) {a w : World}, Below B a w → Below B a (w.setCells b o vs)
  | [], _, _, _, h => h
  | v :: r, o, _, _, h => Below.cells hb r (o + 1) (h.setCell (p := ⟨b, o, none⟩) hb v)

end Go.Proofs.Ytaonicdpeflbbaa
