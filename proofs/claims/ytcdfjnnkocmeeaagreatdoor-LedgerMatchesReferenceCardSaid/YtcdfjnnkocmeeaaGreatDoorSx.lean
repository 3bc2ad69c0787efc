/-
  The examples of the law's helper sane: lines, slices of lines, and what Balances says of them.
  Conditions: as each theorem states them.
-/
import Derived.Test.YtcdfjnnkocmeeaaGreatDoorQc
namespace Go.Proofs.YtcdfjnnkocmeeaaGreatDoor
open Go.RowKit Go.Lib

def sx1 : List Ln := [lineL 0 0 16 5, lineL 1 16 1 2, lineL 0 1 0 4]
def sx2 : List Ln := [lineL 0 0 16 5, lineL 0 16 0 2]
def sx3 : List Ln := [lineL 0 0 336 5]
def sx4 : List Ln := [lineL 0 0 16 5]
theorem lineL_ok {m p q a : Int} (h : ∀ n ∈ (lineL m p q a).d.nums, (Lit.int .i64 n).wf = true) : (lineL m p q a).ok :=
  ⟨rfl, fun v hv => lineL_one m p q a v (List.mem_append_right _ hv), h⟩
theorem lineL_tp {m p q a : Int} (h : ∀ n ∈ (lineL m p q a).d.nums, (Lit.int .i64 n).wf = true) : (lineL m p q a).tp :=
  ⟨h, 0, 0, 0, List.replicate 32 0, rfl, rfl, by decide, by decide, by decide, by decide⟩
theorem sx1_ok : ∀ x ∈ sx1, x.ok := by
  intro x hx
  simp only [sx1, List.mem_cons, List.not_mem_nil, or_false] at hx
  rcases hx with rfl | rfl | rfl <;> exact lineL_ok (by decide)
theorem sx2_ok : ∀ x ∈ sx2, x.ok := by
  intro x hx
  simp only [sx2, List.mem_cons, List.not_mem_nil, or_false] at hx
  rcases hx with rfl | rfl <;> exact lineL_ok (by decide)
theorem sx3_ok : ∀ x ∈ sx3, x.ok := by
  intro x hx
  simp only [sx3, List.mem_cons, List.not_mem_nil, or_false] at hx
  rcases hx with rfl; exact lineL_ok (by decide)
theorem sx4_ok : ∀ x ∈ sx4, x.ok := by
  intro x hx
  simp only [sx4, List.mem_cons, List.not_mem_nil, or_false] at hx
  rcases hx with rfl; exact lineL_ok (by decide)
theorem sx4_tp : ∀ x ∈ sx4, x.tp := by
  intro x hx
  simp only [sx4, List.mem_cons, List.not_mem_nil, or_false] at hx
  rcases hx with rfl; exact lineL_tp (by decide)
theorem rde_new {l : List Ln} (ok : ∀ x ∈ l, x.ok) (w : World) : RdE Ln.cells 44 (w.alloc (.cells (flat Ln.cells l).toArray 44)) (w.alloc (.cells (flat Ln.cells l).toArray 44)).heap.size (some ⟨w.heap.size, 0, none⟩) l :=
  rde_c44 (RdE.of_row Ln.c44_len (by simp) (Row.new w 44 _) (fun j v hv => by rwa [flat_c44 ok] at hv)) ok
theorem slice_sx1 (w : World) : (Instr.buildSlice 22 3 #[(0, .agg (lineL 0 0 16 5).cells.toArray), (1, .agg (lineL 1 16 1 2).cells.toArray), (2, .agg (lineL 0 1 0 4).cells.toArray)]).run Tryz.prog w = .ok (.slice (some ⟨w.heap.size, 0, none⟩) 3 3) (w.alloc (.cells (flat Ln.cells sx1).toArray 44)) := by kernel_rfl
theorem slice_sx2 (w : World) : (Instr.buildSlice 22 2 #[(0, .agg (lineL 0 0 16 5).cells.toArray), (1, .agg (lineL 0 16 0 2).cells.toArray)]).run Tryz.prog w = .ok (.slice (some ⟨w.heap.size, 0, none⟩) 2 2) (w.alloc (.cells (flat Ln.cells sx2).toArray 44)) := by kernel_rfl
theorem slice_sx3 (w : World) : (Instr.buildSlice 22 1 #[(0, .agg (lineL 0 0 336 5).cells.toArray)]).run Tryz.prog w = .ok (.slice (some ⟨w.heap.size, 0, none⟩) 1 1) (w.alloc (.cells (flat Ln.cells sx3).toArray 44)) := by kernel_rfl
theorem wpList_buildSlice3 {P : Program} {ops : Array Oper} {rest : List Oper} {op : Oper} {a : Act} {w w1 : World} {Q : Exit → Act → World → Prop} (hgd : op.guard = none) (t : TypeId) (n : Nat) (j0 j1 j2 : Nat) (x0 x1 x2 : Operand) (ho : op.op = .buildSlice t n #[(j0, x0), (j1, x1), (j2, x2)])
    (v0 v1 v2 : Value) (h0 : a.eval x0 = v0) (h1 : a.eval x1 = v1) (h2 : a.eval x2 = v2) {v : Value} (hr : (Instr.buildSlice t n #[(j0, v0), (j1, v1), (j2, v2)]).run P w = .ok v w1) (h : wpList P ops Q rest (a.put op.dst v) w1) : wpList P ops Q (op :: rest) a w :=
  wpList_buildSlice hgd t n #[(j0, x0), (j1, x1), (j2, x2)] ho #[(j0, v0), (j1, v1), (j2, v2)] (by simp [h0, h1, h2]) hr h
theorem sx2_bal : balF (sx2.map Ln.d) = (balL (-3) 0 3, 0) := by decide +kernel
theorem sx0_bal : balF (([] : List Ln).map Ln.d) = (balL 0 0 0, 0) := by decide +kernel
theorem sx1_bal : balF ((sx1.filter (monP 0)).map Ln.d) = (balL (-1) (-4) 5, 0) := by decide +kernel
theorem sx3_bal : balF (sx3.map Ln.d) = ([], 310) := by decide +kernel
theorem sx1_bill : sx1.filter (billP 16 0) = sx4 := rfl
theorem RdE.take {α : Type} {enc : α → List Value} {k : Nat} {w : World} {B : Nat} {A : Option Addr} {l : List α} (h : RdE enc k w B A l) (n : Nat) : RdE enc k w B A (l.take n) := by
  intro i x hx
  refine h i x ?_
  rw [List.getElem?_take] at hx
  split at hx
  · exact hx
  · cases hx
end Go.Proofs.YtcdfjnnkocmeeaaGreatDoor
