/-
  Plain words and lemmas for the walks of the Diff statements: what a list of bounds is, what Check answers, how a slice of bounds or of numbers reads. No program is in sight here.
-/
import Derived.WalkKit
import Derived.WalkSpells
import Derived.WalkLawsBesides
import Derived.Lib.Hide
namespace Go.Proofs.Ytaonicdpeflbbaa
open Go.RowKit

structure Bd where
  i : Int
  j : Int
  w : Int

instance : Inhabited Bd := ⟨⟨0, 0, 0⟩⟩

def okB (n : Int) (b : Bd) : Bool := decide (0 ≤ b.i ∧ 0 ≤ b.j ∧ b.i < n ∧ b.j < n ∧ -1099511627776 ≤ b.w ∧ b.w ≤ 1099511627776)

def checkF (n : Int) (l : List Bd) : Int :=
  if n < 1 then 1 else if 512 < n ∨ 4096 < l.length then 2 else if l.all (okB n) then 0 else 1

theorem checkF_neg {n : Int} {l : List Bd} (h : n < 1) : 1 = checkF n l := by simp [checkF, h]
theorem checkF_big {n : Int} {l : List Bd} (h1 : 1 ≤ n) (h : 512 < n ∨ 4096 < l.length) : 2 = checkF n l := by rw [checkF, if_neg (by omega), if_pos h]
theorem checkF_bad {n : Int} {l : List Bd} {k : Nat} {x : Bd} (h1 : 1 ≤ n) (h2 : n ≤ 512) (h3 : l.length ≤ 4096) (hx : l[k]? = some x) (hb : ¬ okB n x = true) : 1 = checkF n l := by
  have hm : x ∈ l := List.mem_of_getElem? hx
  have : l.all (okB n) = false := by
    rw [Bool.eq_false_iff]
    intro h
    exact hb (List.all_eq_true.1 h x hm)
  rw [checkF, if_neg (by omega), if_neg (by omega), this]; rfl
theorem checkF_ok {n : Int} {l : List Bd} (h1 : 1 ≤ n) (h2 : n ≤ 512) (h3 : l.length ≤ 4096) (h : ∀ j, j < l.length → ∀ x, l[j]? = some x → okB n x = true) : 0 = checkF n l := by
  have : l.all (okB n) = true := by
    rw [List.all_eq_true]
    intro x hx
    obtain ⟨j, hj, e⟩ := List.getElem_of_mem hx
    exact h j hj x (by rw [List.getElem?_eq_getElem hj, e])
  rw [checkF, if_neg (by omega), if_neg (by omega), this]; rfl
theorem ok_more {n : Int} {l : List Bd} {k : Nat} {x : Bd} (h : ∀ j, j < k → ∀ x, l[j]? = some x → okB n x = true) (hx : l[k]? = some x) (hk : okB n x = true) : ∀ j, j < k + 1 → ∀ x, l[j]? = some x → okB n x = true := by
  intro j hj y hy
  rcases Nat.lt_succ_iff_lt_or_eq.1 hj with h1 | rfl
  · exact h j h1 y hy
  · rw [hx] at hy; injection hy with hy; subst hy; exact hk
theorem okB_mk {n : Int} {x : Bd} (h : 0 ≤ x.i ∧ 0 ≤ x.j ∧ x.i < n ∧ x.j < n ∧ -1099511627776 ≤ x.w ∧ x.w ≤ 1099511627776) : okB n x = true := by simpa [okB] using h
theorem okB_no {n : Int} {x : Bd} (h : ¬ (0 ≤ x.i ∧ 0 ≤ x.j ∧ x.i < n ∧ x.j < n ∧ -1099511627776 ≤ x.w ∧ x.w ≤ 1099511627776)) : ¬ okB n x = true := by simpa [okB] using h
theorem okB_un {n : Int} {x : Bd} (h : okB n x = true) : 0 ≤ x.i ∧ 0 ≤ x.j ∧ x.i < n ∧ x.j < n ∧ -1099511627776 ≤ x.w ∧ x.w ≤ 1099511627776 := by simpa [okB] using h

theorem ret_int {k : IntKind} {a b : Int} (h : a = b) : Ending.returned (.int k a) = .returned (.int k b) := by rw [h]
theorem ret_bool {a b : Bool} (h : a = b) : Ending.returned (.bool a) = .returned (.bool b) := by rw [h]

/-- The slice (A, l.length, cap) reads as the list l of bounds, all of it below block B. -/
def RdB (w : World) (B : Nat) (A : Option Addr) (l : List Bd) : Prop :=
  ∀ k x, l[k]? = some x → ∃ b off, A = some ⟨b, off, none⟩ ∧ b < B ∧ w.cell? ⟨b, off + k * 3, none⟩ = some (.int .i64 x.i) ∧ w.cell? ⟨b, off + k * 3 + 1, none⟩ = some (.int .i64 x.j) ∧ w.cell? ⟨b, off + k * 3 + 2, none⟩ = some (.int .i64 x.w)

/-- The slice (A, l.length, cap) reads as the list l of numbers, all of it below block B. -/
def RdI (w : World) (B : Nat) (A : Option Addr) (l : List Int) : Prop :=
  ∀ k x, l[k]? = some x → ∃ b off, A = some ⟨b, off, none⟩ ∧ b < B ∧ w.cell? ⟨b, off + k, none⟩ = some (.int .i64 x)

theorem RdB.below {w w' : World} {B : Nat} {A : Option Addr} {l : List Bd} (h : RdB w B A l) (hb : Below B w w') : RdB w' B A l := by
  intro k x hx
  obtain ⟨b, off, e, hbB, c0, c1, c2⟩ := h k x hx
  exact ⟨b, off, e, hbB, (hb.cell (p := ⟨b, _, none⟩) hbB).trans c0, (hb.cell (p := ⟨b, _, none⟩) hbB).trans c1, (hb.cell (p := ⟨b, _, none⟩) hbB).trans c2⟩
theorem RdB.more {w : World} {B B' : Nat} {A : Option Addr} {l : List Bd} (h : RdB w B A l) (hB : B ≤ B') : RdB w B' A l := by
  intro k x hx
  obtain ⟨b, off, e, hbB, c⟩ := h k x hx
  exact ⟨b, off, e, by omega, c⟩
theorem RdI.below {w w' : World} {B : Nat} {A : Option Addr} {l : List Int} (h : RdI w B A l) (hb : Below B w w') : RdI w' B A l := by
  intro k x hx
  obtain ⟨b, off, e, hbB, c0⟩ := h k x hx
  exact ⟨b, off, e, hbB, (hb.cell (p := ⟨b, _, none⟩) hbB).trans c0⟩
theorem RdI.more {w : World} {B B' : Nat} {A : Option Addr} {l : List Int} (h : RdI w B A l) (hB : B ≤ B') : RdI w B' A l := by
  intro k x hx
  obtain ⟨b, off, e, hbB, c⟩ := h k x hx
  exact ⟨b, off, e, by omega, c⟩

/-- Block g is just the row cs of elements of type t, none frozen. -/
def Row (w : World) (g : Nat) (t : TypeId) (cs : Array Value) : Prop := w.heap[g]? = some (.cells cs t (0, 0))

section
variable {w w' : World} {g : Nat} {t : TypeId} {cs : Array Value}
theorem Row.lt (h : Row w g t cs) : g < w.heap.size := (Array.getElem?_eq_some_iff.1 h).1
theorem Row.cell (h : Row w g t cs) (i : Nat) : w.cell? ⟨g, i, none⟩ = cs[i]? := cell_of_row w g i cs t (0, 0) h
theorem Row.frozen (h : Row w g t cs) (i : Nat) : w.frozen? ⟨g, i, none⟩ = false := by simp [World.frozen?, show w.heap[g]? = _ from h]
theorem Row.drewN (h : Row w g t cs) (n : Nat) : Row (w.drewN n) g t cs := h
theorem Row.drew (h : Row w g t cs) : Row w.drew g t cs := h
theorem Row.alloc (h : Row w g t cs) (o : Obj) : Row (w.alloc o) g t cs := (Below.heap_alloc w o g h.lt).trans h
theorem Row.set (h : Row w g t cs) (i : Nat) (u : Value) : Row (w.setCell ⟨g, i, none⟩ u) g t (cs.setIfInBounds i u) := by
  unfold Row at h ⊢
  simp [World.setCell, Array.getElem?_modify, h]
theorem Row.far (h : Row w g t cs) {p : Addr} (hp : g ≠ p.block) (u : Value) : Row (w.setCell p u) g t cs := (Below.heap_setCell w p u g hp).trans h
theorem Row.below {B : Nat} (h : Row w g t cs) (hb : Below B w w') (hg : g < B) : Row w' g t cs := (hb.block g hg).trans h
theorem Row.grown {row : Option Nat} (h : Row w g t cs) (hb : w.grownBy w' row) (hg : some g ≠ row) : Row w' g t cs := (hb.block g h.lt hg).trans h
theorem Row.new (w : World) (t : TypeId) (cs : Array Value) : Row (w.alloc (.cells cs t)) w.heap.size t cs := heap_alloc_new w _
end

theorem Below.drewsN {B : Nat} {a w : World} (h : Below B a w) (n : Nat) : Below B a (w.drewN n) := ⟨h.os, h.tape, h.output, h.size, h.block⟩

theorem old_cells {W w1 : World} (hb : Below W.heap.size W w1) : (∀ b o, b < W.heap.size → w1.cell? ⟨b, o, none⟩ = W.cell? ⟨b, o, none⟩) ∧ (∀ b o, b < W.heap.size → w1.frozen? ⟨b, o, none⟩ = W.frozen? ⟨b, o, none⟩) :=
  ⟨fun b o h => hb.cell (p := ⟨b, o, none⟩) h, fun b o h => hb.frozen (p := ⟨b, o, none⟩) h⟩

theorem Row.new1 (w : World) (o : Obj) (t : TypeId) (cs : Array Value) : Row ((w.alloc o).alloc (.cells cs t)) (w.heap.size + 1) t cs := by
  have h := Row.new (w.alloc o) t cs
  rwa [show (w.alloc o).heap.size = w.heap.size + 1 from by simp] at h
theorem Row.newAt {w : World} {k : Nat} (h : w.heap.size = k) (t : TypeId) (cs : Array Value) : Row (w.alloc (.cells cs t)) k t cs := h ▸ Row.new w t cs
theorem Row.one {W w1 : World} {b : Nat} {t : TypeId} {v : Value} (hr : Row W b t #[v]) (hb : Below W.heap.size W w1) : w1.cell? ⟨b, 0, none⟩ = some v ∧ w1.frozen? ⟨b, 0, none⟩ = false ∧ Row w1 b t #[v] :=
  have h := hr.below hb hr.lt
  ⟨h.cell 0, h.frozen 0, h⟩

/-- A row of numbers. -/
def ints (l : List Int) : Array Value := (l.map (Value.int .i64)).toArray
theorem ints_at {l : List Int} {i : Nat} (h : i < l.length) : (ints l)[i]? = some (.int .i64 (l.getD i 0)) := by
  simp [ints, List.getD, List.getElem?_eq_getElem h]
theorem ints_set (l : List Int) (i : Nat) (v : Int) : (ints l).setIfInBounds i (.int .i64 v) = ints (l.set i v) := by
  simp [ints, List.map_set]
theorem ints_size (l : List Int) : (ints l).size = l.length := by simp [ints]

end Go.Proofs.Ytaonicdpeflbbaa
