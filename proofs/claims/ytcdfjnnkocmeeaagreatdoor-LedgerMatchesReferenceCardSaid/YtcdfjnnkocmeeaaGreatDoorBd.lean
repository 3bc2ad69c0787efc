/-
  Laws for the operations that build structs and slices, by the operation's own run. No program is in sight here.
-/
import Derived.Test.YtcdfjnnkocmeeaaGreatDoorBase
namespace Go.Proofs.YtcdfjnnkocmeeaaGreatDoor
open Go.RowKit Go.Lib

theorem wpList_buildSlice {P : Program} {ops : Array Oper} {rest : List Oper} {op : Oper} {a : Act} {w w1 : World} {Q : Exit → Act → World → Prop} (hgd : op.guard = none) (t : TypeId) (n : Nat) (parts : Array (Nat × Operand)) (ho : op.op = .buildSlice t n parts)
    (vals : Array (Nat × Value)) (hv : parts.map (fun p => (p.1, a.eval p.2)) = vals) {v : Value} (hr : (Instr.buildSlice t n vals).run P w = .ok v w1) (h : wpList P ops Q rest (a.put op.dst v) w1) : wpList P ops Q (op :: rest) a w := by
  refine wpList_plain hgd fun K' hK' => ?_
  subst hv
  unfold Oper.wp
  simp [execOp, ho, hr, Result.andThen]
  exact hK' _ _ h
theorem wpList_build {P : Program} {ops : Array Oper} {rest : List Oper} {op : Oper} {a : Act} {w w1 : World} {Q : Exit → Act → World → Prop} (hgd : op.guard = none) (t : TypeId) (parts : Array (Nat × Operand)) (ho : op.op = .build t parts)
    (vals : Array (Nat × Value)) (hv : parts.map (fun p => (p.1, a.eval p.2)) = vals) {v : Value} (hr : (Instr.build t vals).run P w = .ok v w1) (h : wpList P ops Q rest (a.put op.dst v) w1) : wpList P ops Q (op :: rest) a w := by
  refine wpList_plain hgd fun K' hK' => ?_
  subst hv
  unfold Oper.wp
  simp [execOp, ho, hr, Result.andThen]
  exact hK' _ _ h
theorem wpList_build1 {P : Program} {ops : Array Oper} {rest : List Oper} {op : Oper} {a : Act} {w w1 : World} {Q : Exit → Act → World → Prop} (hgd : op.guard = none) (t : TypeId) (j0 : Nat) (x0 : Operand) (ho : op.op = .build t #[(j0, x0)])
    (v0 : Value) (h0 : a.eval x0 = v0) {v : Value} (hr : (Instr.build t #[(j0, v0)]).run P w = .ok v w1) (h : wpList P ops Q rest (a.put op.dst v) w1) : wpList P ops Q (op :: rest) a w :=
  wpList_build hgd t #[(j0, x0)] ho #[(j0, v0)] (by simp [h0]) hr h
theorem wpList_build2 {P : Program} {ops : Array Oper} {rest : List Oper} {op : Oper} {a : Act} {w w1 : World} {Q : Exit → Act → World → Prop} (hgd : op.guard = none) (t : TypeId) (j0 j1 : Nat) (x0 x1 : Operand) (ho : op.op = .build t #[(j0, x0), (j1, x1)])
    (v0 v1 : Value) (h0 : a.eval x0 = v0) (h1 : a.eval x1 = v1) {v : Value} (hr : (Instr.build t #[(j0, v0), (j1, v1)]).run P w = .ok v w1) (h : wpList P ops Q rest (a.put op.dst v) w1) : wpList P ops Q (op :: rest) a w :=
  wpList_build hgd t #[(j0, x0), (j1, x1)] ho #[(j0, v0), (j1, v1)] (by simp [h0, h1]) hr h
theorem wpList_build3 {P : Program} {ops : Array Oper} {rest : List Oper} {op : Oper} {a : Act} {w w1 : World} {Q : Exit → Act → World → Prop} (hgd : op.guard = none) (t : TypeId) (j0 j1 j2 : Nat) (x0 x1 x2 : Operand) (ho : op.op = .build t #[(j0, x0), (j1, x1), (j2, x2)])
    (v0 v1 v2 : Value) (h0 : a.eval x0 = v0) (h1 : a.eval x1 = v1) (h2 : a.eval x2 = v2) {v : Value} (hr : (Instr.build t #[(j0, v0), (j1, v1), (j2, v2)]).run P w = .ok v w1) (h : wpList P ops Q rest (a.put op.dst v) w1) : wpList P ops Q (op :: rest) a w :=
  wpList_build hgd t #[(j0, x0), (j1, x1), (j2, x2)] ho #[(j0, v0), (j1, v1), (j2, v2)] (by simp [h0, h1, h2]) hr h
theorem wpList_build4 {P : Program} {ops : Array Oper} {rest : List Oper} {op : Oper} {a : Act} {w w1 : World} {Q : Exit → Act → World → Prop} (hgd : op.guard = none) (t : TypeId) (j0 j1 j2 j3 : Nat) (x0 x1 x2 x3 : Operand) (ho : op.op = .build t #[(j0, x0), (j1, x1), (j2, x2), (j3, x3)])
    (v0 v1 v2 v3 : Value) (h0 : a.eval x0 = v0) (h1 : a.eval x1 = v1) (h2 : a.eval x2 = v2) (h3 : a.eval x3 = v3) {v : Value} (hr : (Instr.build t #[(j0, v0), (j1, v1), (j2, v2), (j3, v3)]).run P w = .ok v w1) (h : wpList P ops Q rest (a.put op.dst v) w1) : wpList P ops Q (op :: rest) a w :=
  wpList_build hgd t #[(j0, x0), (j1, x1), (j2, x2), (j3, x3)] ho #[(j0, v0), (j1, v1), (j2, v2), (j3, v3)] (by simp [h0, h1, h2, h3]) hr h
theorem wpList_buildSlice1 {P : Program} {ops : Array Oper} {rest : List Oper} {op : Oper} {a : Act} {w w1 : World} {Q : Exit → Act → World → Prop} (hgd : op.guard = none) (t : TypeId) (n : Nat) (j0 : Nat) (x0 : Operand) (ho : op.op = .buildSlice t n #[(j0, x0)])
    (v0 : Value) (h0 : a.eval x0 = v0) {v : Value} (hr : (Instr.buildSlice t n #[(j0, v0)]).run P w = .ok v w1) (h : wpList P ops Q rest (a.put op.dst v) w1) : wpList P ops Q (op :: rest) a w :=
  wpList_buildSlice hgd t n #[(j0, x0)] ho #[(j0, v0)] (by simp [h0]) hr h
theorem wpList_buildSlice2 {P : Program} {ops : Array Oper} {rest : List Oper} {op : Oper} {a : Act} {w w1 : World} {Q : Exit → Act → World → Prop} (hgd : op.guard = none) (t : TypeId) (n : Nat) (j0 j1 : Nat) (x0 x1 : Operand) (ho : op.op = .buildSlice t n #[(j0, x0), (j1, x1)])
    (v0 v1 : Value) (h0 : a.eval x0 = v0) (h1 : a.eval x1 = v1) {v : Value} (hr : (Instr.buildSlice t n #[(j0, v0), (j1, v1)]).run P w = .ok v w1) (h : wpList P ops Q rest (a.put op.dst v) w1) : wpList P ops Q (op :: rest) a w :=
  wpList_buildSlice hgd t n #[(j0, x0), (j1, x1)] ho #[(j0, v0), (j1, v1)] (by simp [h0, h1]) hr h
end Go.Proofs.YtcdfjnnkocmeeaaGreatDoor
