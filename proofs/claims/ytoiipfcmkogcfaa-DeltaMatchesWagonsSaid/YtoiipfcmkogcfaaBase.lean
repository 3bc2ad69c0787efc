/-
  Plain words and lemmas for the walks of the Delta statements: how slices of numbers and of structs read, rows of cells. No program is in sight here.
-/
import Derived.WalkKit
import Derived.WalkSpells
import Derived.WalkLawsBesides
import Derived.Lib.Hide
import Derived.Deep.MidRow
namespace Go.Proofs.Ytoiipfcmkogcfaa
open Go.RowKit

theorem ret_int {k : IntKind} {a b : Int} (h : a = b) : Ending.returned (.int k a) = .returned (.int k b) := by rw [h]
theorem ret_bool {a b : Bool} (h : a = b) : Ending.returned (.bool a) = .returned (.bool b) := by rw [h]

/-- The slice (A, l.length, cap) reads as the list l of numbers, all of it below block B. -/
def RdI (w : World) (B : Nat) (A : Option Addr) (l : List Int) : Prop :=
  ∀ k x, l[k]? = some x → ∃ b off, A = some ⟨b, off, none⟩ ∧ b < B ∧ w.cell? ⟨b, off + k, none⟩ = some (.int .i64 x)

theorem RdI.below {w w' : World} {B : Nat} {A : Option Addr} {l : List Int} (h : RdI w B A l) (hb : Below B w w') : RdI w' B A l := by
  intro k x hx
  obtain ⟨b, off, e, hbB, c0⟩ := h k x hx
  exact ⟨b, off, e, hbB, (hb.cell (p := ⟨b, _, none⟩) hbB).trans c0⟩
theorem RdI.more {w : World} {B B' : Nat} {A : Option Addr} {l : List Int} (h : RdI w B A l) (hB : B ≤ B') : RdI w B' A l := by
  intro k x hx
  obtain ⟨b, off, e, hbB, c⟩ := h k x hx
  exact ⟨b, off, e, by omega, c⟩

/-- Block g is just the row cs of elements of type t, none frozen. -/
def Row (w : World) (g : Nat) (t : TypeId) (cs : Array Value) : Prop := w.heap[g]? = some (.cells cs t (0, 0))

section
variable {w w' : World} {g : Nat} {t : TypeId} {cs : Array Value}
theorem Row.lt (h : Row w g t cs) : g < w.heap.size := (Array.getElem?_eq_some_iff.1 h).1
theorem Row.cell (h : Row w g t cs) (i : Nat) : w.cell? ⟨g, i, none⟩ = cs[i]? := cell_of_row w g i cs t (0, 0) h
theorem Row.frozen (h : Row w g t cs) (i : Nat) : w.frozen? ⟨g, i, none⟩ = false := by simp [World.frozen?, show w.heap[g]? = _ from h]
theorem Row.drewN (h : Row w g t cs) (n : Nat) : Row (w.drewN n) g t cs := h
theorem Row.drew (h : Row w g t cs) : Row w.drew g t cs := h
theorem Row.alloc (h : Row w g t cs) (o : Obj) : Row (w.alloc o) g t cs := (Below.heap_alloc w o g h.lt).trans h
theorem Row.set (h : Row w g t cs) (i : Nat) (u : Value) : Row (w.setCell ⟨g, i, none⟩ u) g t (cs.setIfInBounds i u) := by
  unfold Row at h ⊢
  simp [World.setCell, Array.getElem?_modify, h]
theorem Row.far (h : Row w g t cs) {p : Addr} (hp : g ≠ p.block) (u : Value) : Row (w.setCell p u) g t cs := (Below.heap_setCell w p u g hp).trans h
theorem Row.below {B : Nat} (h : Row w g t cs) (hb : Below B w w') (hg : g < B) : Row w' g t cs := (hb.block g hg).trans h
theorem Row.grown {row : Option Nat} (h : Row w g t cs) (hb : w.grownBy w' row) (hg : some g ≠ row) : Row w' g t cs := (hb.block g h.lt hg).trans h
theorem Row.new (w : World) (t : TypeId) (cs : Array Value) : Row (w.alloc (.cells cs t)) w.heap.size t cs := heap_alloc_new w _
end

theorem Below.drewsN {B : Nat} {a w : World} (h : Below B a w) (n : Nat) : Below B a (w.drewN n) := ⟨h.os, h.tape, h.output, h.size, h.block⟩

theorem old_cells {W w1 : World} (hb : Below W.heap.size W w1) : (∀ b o, b < W.heap.size → w1.cell? ⟨b, o, none⟩ = W.cell? ⟨b, o, none⟩) ∧ (∀ b o, b < W.heap.size → w1.frozen? ⟨b, o, none⟩ = W.frozen? ⟨b, o, none⟩) :=
  ⟨fun b o h => hb.cell (p := ⟨b, o, none⟩) h, fun b o h => hb.frozen (p := ⟨b, o, none⟩) h⟩

theorem Row.new1 (w : World) (o : Obj) (t : TypeId) (cs : Array Value) : Row ((w.alloc o).alloc (.cells cs t)) (w.heap.size + 1) t cs := by
  have h := Row.new (w.alloc o) t cs
  rwa [show (w.alloc o).heap.size = w.heap.size + 1 from by simp] at h
theorem Row.newAt {w : World} {k : Nat} (h : w.heap.size = k) (t : TypeId) (cs : Array Value) : Row (w.alloc (.cells cs t)) k t cs := h ▸ Row.new w t cs
theorem Row.one {W w1 : World} {b : Nat} {t : TypeId} {v : Value} (hr : Row W b t #[v]) (hb : Below W.heap.size W w1) : w1.cell? ⟨b, 0, none⟩ = some v ∧ w1.frozen? ⟨b, 0, none⟩ = false ∧ Row w1 b t #[v] :=
  have h := hr.below hb hr.lt
  ⟨h.cell 0, h.frozen 0, h⟩

/-- A row of numbers. -/
def ints (l : List Int) : Array Value := (l.map (Value.int .i64)).toArray
theorem ints_at {l : List Int} {i : Nat} (h : i < l.length) : (ints l)[i]? = some (.int .i64 (l.getD i 0)) := by
  simp [ints, List.getD, List.getElem?_eq_getElem h]
theorem ints_set (l : List Int) (i : Nat) (v : Int) : (ints l).setIfInBounds i (.int .i64 v) = ints (l.set i v) := by
  simp [ints, List.map_set]
theorem ints_size (l : List Int) : (ints l).size = l.length := by simp [ints]


section
variable {α : Type}
/-- The slice (A, l.length, cap) reads, element by element, as 'enc' of the list l, each of k cells, all of it below block B. -/
def RdE (enc : α → List Value) (k : Nat) (w : World) (B : Nat) (A : Option Addr) (l : List α) : Prop :=
  ∀ i x, l[i]? = some x → ∃ b off, A = some ⟨b, off, none⟩ ∧ b < B ∧ w.rangeAt b (off + i * k) (enc x)

variable {enc : α → List Value} {k : Nat} {w w' : World} {B B' : Nat} {A : Option Addr} {l : List α}
theorem RdE.below (h : RdE enc k w B A l) (hb : Below B w w') : RdE enc k w' B A l := by
  intro i x hx
  obtain ⟨b, off, e, hbB, c⟩ := h i x hx
  exact ⟨b, off, e, hbB, fun j v hv => (hb.cell (p := ⟨b, _, none⟩) hbB).trans (c j v hv)⟩
theorem RdE.more (h : RdE enc k w B A l) (hB : B ≤ B') : RdE enc k w B' A l := by
  intro i x hx
  obtain ⟨b, off, e, hbB, c⟩ := h i x hx
  exact ⟨b, off, e, by omega, c⟩
theorem RdE.nil : RdE enc k w B A [] := fun i x hx => by simp at hx

/-- The cells of a list, one element behind the other. -/
def flat (enc : α → List Value) : List α → List Value
  | [] => []
  | x :: r => enc x ++ flat enc r
theorem flat_length (hk : ∀ x, (enc x).length = k) : ∀ l : List α, (flat enc l).length = l.length * k
  | [] => by simp [flat]
  | x :: r => by simp [flat, flat_length hk r, hk, Nat.add_mul]; omega
theorem flat_append : ∀ l l' : List α, flat enc (l ++ l') = flat enc l ++ flat enc l'
  | [], _ => rfl
  | x :: r, l' => by simp [flat, flat_append r l']
theorem flat_one (h1 : ∀ x, ∀ v ∈ enc x, v.oneCell' = true) : ∀ l : List α, ∀ v ∈ flat enc l, v.oneCell' = true
  | [], v, h => by simp [flat] at h
  | x :: r, v, h => by
    rcases List.mem_append.1 h with h | h
    · exact h1 x v h
    · exact flat_one h1 r v h
theorem flat_at (hk : ∀ x, (enc x).length = k) : ∀ (l : List α) (i : Nat) (x : α), l[i]? = some x → ∀ j v, (enc x)[j]? = some v → (flat enc l)[i * k + j]? = some v
  | [], i, x, h, _, _, _ => by simp at h
  | y :: r, 0, x, h, j, v, hv => by
    simp at h
    subst h
    have := (List.getElem?_eq_some_iff.1 hv).1
    simp only [flat, Nat.zero_mul, Nat.zero_add]
    rw [List.getElem?_append_left this]
    exact hv
  | y :: r, i + 1, x, h, j, v, hv => by
    simp only [List.getElem?_cons_succ] at h
    have h2 := flat_at hk r i x h j v hv
    simp only [flat]
    have e : (i + 1) * k + j = (enc y).length + (i * k + j) := by rw [hk, Nat.add_mul]; omega
    rw [e, List.getElem?_append_right (by omega), Nat.add_sub_cancel_left]
    exact h2

theorem RdE.of_cells {b off : Nat} (hk : ∀ x, (enc x).length = k) (hb : b < B) (h : ∀ j v, (flat enc l)[j]? = some v → w.cell? ⟨b, off + j, none⟩ = some v) : RdE enc k w B (some ⟨b, off, none⟩) l := by
  intro i x hx
  refine ⟨b, off, rfl, hb, fun j v hv => ?_⟩
  have := h _ v (flat_at hk l i x hx j v hv)
  rw [Nat.add_assoc]
  exact this
theorem RdE.of_row {g : Nat} {t : TypeId} {cs : List Value} (hk : ∀ x, (enc x).length = k) (hg : g < B) (h : Row w g t cs.toArray) (hc : ∀ (j : Nat) (v : Value), (flat enc l)[j]? = some v → cs[j]? = some v) : RdE enc k w B (some ⟨g, 0, none⟩) l := by
  refine RdE.of_cells hk hg (fun j v hv => ?_)
  rw [Nat.zero_add, h.cell]
  simpa using hc j v hv

/-- A slice that the call owns reads as its list. -/
theorem RdE.of_own {base : Nat} {t : TypeId} {v : Value} (hk : ∀ x, (enc x).length = k) (h : w.ownsRow base t k v l.length (flat enc l)) : ∃ A c, v = .slice A l.length c ∧ RdE enc k w w.heap.size A l := by
  rcases h.2 with ⟨rfl, e⟩ | ⟨g, cap, cur, rfl, _, hh, hnc, _, hsz, htake⟩
  · have : l = [] := List.eq_nil_of_length_eq_zero e
    subst this
    exact ⟨none, 0, rfl, RdE.nil⟩
  · refine ⟨_, cap, rfl, RdE.of_row (cs := cur.toList) hk (Array.getElem?_eq_some_iff.1 hh).1 (by show w.heap[g]? = _; simpa using hh) ?_⟩
    intro j u hu
    rw [← htake] at hu
    have hj : j < l.length * k := by
      have := (List.getElem?_eq_some_iff.1 hu).1
      simp at this
      omega
    rwa [List.getElem?_take_of_lt hj] at hu
end

end Go.Proofs.Ytoiipfcmkogcfaa
