/-
  The examples of the chapter: the reports, and laws at the operations that build aggregates of them.
  Conditions: as each theorem states them.
-/
import Derived.Test.YtoiipfcmkogcfaaWu
import Derived.Test.YtoiipfcmkogcfaaWm
import Derived.Test.YtoiipfcmkogcfaaWn
import Derived.Test.YtoiipfcmkogcfaaWb
namespace Go.Proofs.Ytoiipfcmkogcfaa
open Go.RowKit Go.Lib

theorem wpList_buildSlice {P : Program} {ops : Array Oper} {rest : List Oper} {op : Oper} {a : Act} {w w1 : World} {Q : Exit → Act → World → Prop} (hgd : op.guard = none) (t : TypeId) (n : Nat) (parts : Array (Nat × Operand)) (ho : op.op = .buildSlice t n parts)
    (vals : Array (Nat × Value)) (hv : parts.map (fun p => (p.1, a.eval p.2)) = vals) {v : Value} (hr : (Instr.buildSlice t n vals).run P w = .ok v w1) (h : wpList P ops Q rest (a.put op.dst v) w1) : wpList P ops Q (op :: rest) a w := by
  refine wpList_plain hgd fun K' hK' => ?_
  subst hv
  unfold Oper.wp
  simp [execOp, ho, hr, Result.andThen]
  exact hK' _ _ h
theorem wpList_build {P : Program} {ops : Array Oper} {rest : List Oper} {op : Oper} {a : Act} {w w1 : World} {Q : Exit → Act → World → Prop} (hgd : op.guard = none) (t : TypeId) (parts : Array (Nat × Operand)) (ho : op.op = .build t parts)
    (vals : Array (Nat × Value)) (hv : parts.map (fun p => (p.1, a.eval p.2)) = vals) {v : Value} (hr : (Instr.build t vals).run P w = .ok v w1) (h : wpList P ops Q rest (a.put op.dst v) w1) : wpList P ops Q (op :: rest) a w := by
  refine wpList_plain hgd fun K' hK' => ?_
  subst hv
  unfold Oper.wp
  simp [execOp, ho, hr, Result.andThen]
  exact hK' _ _ h

theorem wpList_build1 {P : Program} {ops : Array Oper} {rest : List Oper} {op : Oper} {a : Act} {w w1 : World} {Q : Exit → Act → World → Prop} (hgd : op.guard = none) (t : TypeId) (j0 : Nat) (x0 : Operand) (ho : op.op = .build t #[(j0, x0)])
    (v0 : Value) (h0 : a.eval x0 = v0) {v : Value} (hr : (Instr.build t #[(j0, v0)]).run P w = .ok v w1) (h : wpList P ops Q rest (a.put op.dst v) w1) : wpList P ops Q (op :: rest) a w :=
  wpList_build hgd t #[(j0, x0)] ho #[(j0, v0)] (by simp [h0]) hr h
theorem wpList_build2 {P : Program} {ops : Array Oper} {rest : List Oper} {op : Oper} {a : Act} {w w1 : World} {Q : Exit → Act → World → Prop} (hgd : op.guard = none) (t : TypeId) (j0 j1 : Nat) (x0 x1 : Operand) (ho : op.op = .build t #[(j0, x0), (j1, x1)])
    (v0 v1 : Value) (h0 : a.eval x0 = v0) (h1 : a.eval x1 = v1) {v : Value} (hr : (Instr.build t #[(j0, v0), (j1, v1)]).run P w = .ok v w1) (h : wpList P ops Q rest (a.put op.dst v) w1) : wpList P ops Q (op :: rest) a w :=
  wpList_build hgd t #[(j0, x0), (j1, x1)] ho #[(j0, v0), (j1, v1)] (by simp [h0, h1]) hr h
theorem wpList_build3 {P : Program} {ops : Array Oper} {rest : List Oper} {op : Oper} {a : Act} {w w1 : World} {Q : Exit → Act → World → Prop} (hgd : op.guard = none) (t : TypeId) (j0 j1 j2 : Nat) (x0 x1 x2 : Operand) (ho : op.op = .build t #[(j0, x0), (j1, x1), (j2, x2)])
    (v0 v1 v2 : Value) (h0 : a.eval x0 = v0) (h1 : a.eval x1 = v1) (h2 : a.eval x2 = v2) {v : Value} (hr : (Instr.build t #[(j0, v0), (j1, v1), (j2, v2)]).run P w = .ok v w1) (h : wpList P ops Q rest (a.put op.dst v) w1) : wpList P ops Q (op :: rest) a w :=
  wpList_build hgd t #[(j0, x0), (j1, x1), (j2, x2)] ho #[(j0, v0), (j1, v1), (j2, v2)] (by simp [h0, h1, h2]) hr h
theorem wpList_build4 {P : Program} {ops : Array Oper} {rest : List Oper} {op : Oper} {a : Act} {w w1 : World} {Q : Exit → Act → World → Prop} (hgd : op.guard = none) (t : TypeId) (j0 j1 j2 j3 : Nat) (x0 x1 x2 x3 : Operand) (ho : op.op = .build t #[(j0, x0), (j1, x1), (j2, x2), (j3, x3)])
    (v0 v1 v2 v3 : Value) (h0 : a.eval x0 = v0) (h1 : a.eval x1 = v1) (h2 : a.eval x2 = v2) (h3 : a.eval x3 = v3) {v : Value} (hr : (Instr.build t #[(j0, v0), (j1, v1), (j2, v2), (j3, v3)]).run P w = .ok v w1) (h : wpList P ops Q rest (a.put op.dst v) w1) : wpList P ops Q (op :: rest) a w :=
  wpList_build hgd t #[(j0, x0), (j1, x1), (j2, x2), (j3, x3)] ho #[(j0, v0), (j1, v1), (j2, v2), (j3, v3)] (by simp [h0, h1, h2, h3]) hr h
theorem wpList_buildSlice1 {P : Program} {ops : Array Oper} {rest : List Oper} {op : Oper} {a : Act} {w w1 : World} {Q : Exit → Act → World → Prop} (hgd : op.guard = none) (t : TypeId) (n : Nat) (j0 : Nat) (x0 : Operand) (ho : op.op = .buildSlice t n #[(j0, x0)])
    (v0 : Value) (h0 : a.eval x0 = v0) {v : Value} (hr : (Instr.buildSlice t n #[(j0, v0)]).run P w = .ok v w1) (h : wpList P ops Q rest (a.put op.dst v) w1) : wpList P ops Q (op :: rest) a w :=
  wpList_buildSlice hgd t n #[(j0, x0)] ho #[(j0, v0)] (by simp [h0]) hr h
theorem wpList_buildSlice2 {P : Program} {ops : Array Oper} {rest : List Oper} {op : Oper} {a : Act} {w w1 : World} {Q : Exit → Act → World → Prop} (hgd : op.guard = none) (t : TypeId) (n : Nat) (j0 j1 : Nat) (x0 x1 : Operand) (ho : op.op = .buildSlice t n #[(j0, x0), (j1, x1)])
    (v0 v1 : Value) (h0 : a.eval x0 = v0) (h1 : a.eval x1 = v1) {v : Value} (hr : (Instr.buildSlice t n #[(j0, v0), (j1, v1)]).run P w = .ok v w1) (h : wpList P ops Q rest (a.put op.dst v) w1) : wpList P ops Q (op :: rest) a w :=
  wpList_buildSlice hgd t n #[(j0, x0), (j1, x1)] ho #[(j0, v0), (j1, v1)] (by simp [h0, h1]) hr h

theorem wpList_store_freshK {P : Program} {ops : Array Oper} {rest : List Oper} {op : Oper} {a : Act} {w0 : World} {Q : Exit → Act → World → Prop} {zs : Array Value} {t : TypeId} (hgd : op.guard = none) (ty : TypeId) (x y : Operand) (ho : op.op = .store ty x y)
    (cells : List Value) (k : Nat) (hx : a.eval x = .pointer (some ⟨k, 0, none⟩)) (hk : w0.heap.size = k) (hy : a.eval y = .agg cells.toArray) (hz : zs.size = cells.length) (hi : (P.info? ty).map (·.size) = some cells.length) (h1 : ∀ v ∈ cells, v.oneCell' = true)
    (h : wpList P ops Q rest (a.put op.dst undef) (w0.alloc (.cells cells.toArray t))) : wpList P ops Q (op :: rest) a (w0.alloc (.cells zs t)) := by
  subst hk
  exact wpList_store_fresh hgd ty x y ho cells hx hy hz hi h1 h

def stayR : Rp := ⟨0, 1, 0, 0, 0, 2, 0, 0, 3, 0, 0, 0, 0, 0, 0, 0, 0, 0, 0, .empty, none, 0, []⟩
def earlyR : Rp := ⟨0, 2, 0, 0, 0, 8, 0, 0, 1, 0, 0, 0, 5, 0, 1, 0, 0, 0, 0, .empty, none, 0, []⟩
def lateR : Rp := ⟨0, 2, 0, 0, 0, 8, 0, 0, 1, 0, 0, 0, 6, 0, 1, 0, 0, 0, 0, .empty, none, 0, []⟩
def tariffR : Rp := ⟨0, 3, 0, 0, 0, 11, 0, 0, 0, 0, 0, 1, 0, 0, 0, 0, 0, 0, 0, ⟨#[120]⟩, none, 0, []⟩

theorem build_stay (w : World) : (Instr.build 58 #[(0, .agg #[.int .i64 0, .int .i64 1]), (3, .agg (stayR.cells.drop 5).toArray)]).run Try.prog w = .ok (.agg stayR.cells.toArray) w := by kernel_rfl
theorem build_stay56 (w : World) : (Instr.build 56 #[(0, .int .i64 2), (2, .int .i64 3)]).run Try.prog w = .ok (.agg (stayR.cells.drop 5).toArray) w := by kernel_rfl
theorem build_early (w : World) : (Instr.build 58 #[(0, .agg #[.int .i64 0, .int .i64 2]), (3, .agg (earlyR.cells.drop 5).toArray)]).run Try.prog w = .ok (.agg earlyR.cells.toArray) w := by kernel_rfl
theorem build_early56 (w : World) : (Instr.build 56 #[(0, .int .i64 8), (2, .int .i64 1), (6, .int .i64 5), (8, .int .i64 1)]).run Try.prog w = .ok (.agg (earlyR.cells.drop 5).toArray) w := by kernel_rfl
theorem build_late (w : World) : (Instr.build 58 #[(0, .agg #[.int .i64 0, .int .i64 2]), (3, .agg (lateR.cells.drop 5).toArray)]).run Try.prog w = .ok (.agg lateR.cells.toArray) w := by kernel_rfl
theorem build_late56 (w : World) : (Instr.build 56 #[(0, .int .i64 8), (2, .int .i64 1), (6, .int .i64 6), (8, .int .i64 1)]).run Try.prog w = .ok (.agg (lateR.cells.drop 5).toArray) w := by kernel_rfl
theorem build_tariff (w : World) : (Instr.build 58 #[(0, .agg #[.int .i64 0, .int .i64 3]), (3, .agg (tariffR.cells.drop 5).toArray)]).run Try.prog w = .ok (.agg tariffR.cells.toArray) w := by kernel_rfl
theorem build_tariff56 (w : World) : (Instr.build 56 #[(0, .int .i64 11), (5, .int .i64 1), (13, .string ⟨#[120]⟩)]).run Try.prog w = .ok (.agg (tariffR.cells.drop 5).toArray) w := by kernel_rfl
theorem slice_one (r : Rp) (w : World) : (Instr.buildSlice 48 1 #[(0, .agg r.cells.toArray)]).run Try.prog w = .ok (.slice (some ⟨w.heap.size, 0, none⟩) 1 1) (w.alloc (.cells r.cells.toArray 58)) := by kernel_rfl
theorem slice_two (r s : Rp) (w : World) : (Instr.buildSlice 48 2 #[(0, .agg r.cells.toArray), (1, .agg s.cells.toArray)]).run Try.prog w = .ok (.slice (some ⟨w.heap.size, 0, none⟩) 2 2) (w.alloc (.cells (r.cells ++ s.cells).toArray 58)) := by kernel_rfl

end Go.Proofs.Ytoiipfcmkogcfaa
