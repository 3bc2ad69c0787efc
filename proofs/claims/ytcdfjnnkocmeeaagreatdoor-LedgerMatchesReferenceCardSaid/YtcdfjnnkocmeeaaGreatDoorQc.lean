/-
  A region that draws its order, walked under a class of worlds: loads of wide structs, values, calls that make memory.
  Conditions: as each theorem states them.
-/
import Derived.Test.YtcdfjnnkocmeeaaGreatDoorBe
import Derived.Test.YtcdfjnnkocmeeaaGreatDoorLg
namespace Go.Proofs.YtcdfjnnkocmeeaaGreatDoor
open Go.RowKit Go.Lib

theorem wpQuiet_valC {P : Program} {C : World → Prop} {ops : Array Oper} {rest : List Oper} {op : Oper} {a : Act} {Q : Act → Prop} (hw : Region.wanted op (yielded ops a.tmps) = true) (v : Value)
    (hr : ∀ U, C U → (execOp a.eval op).run P U = .ok (.value v) U) (h : wpQuiet P ops C Q rest (a.put op.dst v)) : wpQuiet P ops C Q (op :: rest) a := by
  show if Region.wanted op (yielded ops a.tmps) then op.quiet P a _ (wpQuiet P ops _ Q rest) else _
  rw [if_pos hw]
  refine ⟨v, fun U hU => ?_, h⟩
  unfold Oper.quietAt
  rw [hr U hU]
  exact ⟨rfl, rfl⟩
theorem run_load_mid {P : Program} {op : Oper} {a : Act} {U : World} (ty : TypeId) (x : Operand) (ho : op.op = .load ty x)
    (b o : Nat) (hx : a.eval x = .pointer (some ⟨b, o, none⟩)) (cs : List Value) (d : TypeDesc) (hc : U.rangeAt b o cs)
    (hu : P.underlying ty = some d) (hd : d.isRow = true) (hi : (P.info? ty).map (·.size) = some cs.length) : (execOp a.eval op).run P U = .ok (.value (.agg cs.toArray)) U := by
  unfold execOp
  simp only [ho, hx, Instr.loadAt, Instr.sureAddr, Sem.run_bind, Sem.run_pure, Result.andThen_ok, run_loadVar_mid _ b o ty cs d hc hu hd hi]
theorem run_build_op {P : Program} {op : Oper} {a : Act} {U : World} (t : TypeId) (parts : Array (Nat × Operand)) (ho : op.op = .build t parts)
    (vals : Array (Nat × Value)) (hv : parts.map (fun p => (p.1, a.eval p.2)) = vals) {v : Value} (hr : (Instr.build t vals).run P U = .ok v U) : (execOp a.eval op).run P U = .ok (.value v) U := by
  subst hv
  simp [execOp, ho, hr, Result.andThen]
theorem wpQuiet_callC {P : Program} {C : World → Prop} {ops : Array Oper} {rest : List Oper} {op : Oper} {a : Act} {Q : Act → Prop} (hw : Region.wanted op (yielded ops a.tmps) = true) (f : FuncId) (args : Array Value) (v : Value)
    (hr : ∀ U, C U → (execOp a.eval op).run P U = .ok (.enter f args) U) (hc : ∀ U, C U → Calls P f args U fun e U' => e = .returned v ∧ C U') (h : wpQuiet P ops C Q rest (a.put op.dst v)) : wpQuiet P ops C Q (op :: rest) a := by
  show if Region.wanted op (yielded ops a.tmps) then op.quiet P a _ (wpQuiet P ops _ Q rest) else _
  rw [if_pos hw]
  refine ⟨v, fun U hU => ?_, h⟩
  unfold Oper.quietAt
  rw [hr U hU]
  exact ⟨rfl, hc U hU⟩
theorem wpQuiet_valK {P : Program} {C : World → Prop} {ops : Array Oper} {rest : List Oper} {op : Oper} {a : Act} {Q : Act → Prop} (hw : Region.wanted op (yielded ops a.tmps) = true) (v : Value)
    (hr : ∀ U, C U → (execOp a.eval op).run P U = .ok (.value v) U) (h : ∀ K : Act → Prop, (∀ a, wpQuiet P ops C Q rest a → K a) → K (a.put op.dst v)) : wpQuiet P ops C Q (op :: rest) a :=
  wpQuiet_valC hw v hr (h _ fun _ h => h)
theorem wpQuiet_callK {P : Program} {C : World → Prop} {ops : Array Oper} {rest : List Oper} {op : Oper} {a : Act} {Q : Act → Prop} (hw : Region.wanted op (yielded ops a.tmps) = true) (f : FuncId) (args : Array Value) (v : Value)
    (hr : ∀ U, C U → (execOp a.eval op).run P U = .ok (.enter f args) U) (hc : ∀ U, C U → Calls P f args U fun e U' => e = .returned v ∧ C U') (h : ∀ K : Act → Prop, (∀ a, wpQuiet P ops C Q rest a → K a) → K (a.put op.dst v)) : wpQuiet P ops C Q (op :: rest) a :=
  wpQuiet_callC hw f args v hr hc (h _ fun _ h => h)
theorem wp_region_quietC {P : Program} {id : Nat} {Q : Exit → Act → World → Prop} {a : Act} {w : World} {l : List Oper} (C : World → Prop) (hm : P.follows .mixedOrders = true) (hB : Region.lexB .any l.toArray = true) (hC : C { w with drawn := w.drawn + 1 })
    (h : wpQuiet P l.toArray C (fun a' => ∀ w', C w' → Q .normal a' w') l a) : (Code.region id l.toArray true).wp P Q a w :=
  wp_region_quiet (C := C) hm hB hC (by simpa using h)

theorem digB_wf (z : H8) (k : Nat) : (Lit.int .u8 (digB z k)).wf = true := by
  have h : ∀ n : Int, (Lit.int .u8 (n % 256)).wf = true := by
    intro n
    have h1 : 0 ≤ n % 256 := Int.emod_nonneg _ (by decide)
    have h2 : n % 256 < 256 := Int.emod_lt_of_pos _ (by decide)
    have e1 : IntKind.u8.min = 0 := by decide
    have e2 : IntKind.u8.max = 255 := by decide
    simp only [Lit.wf, e1, e2, Bool.and_eq_true, decide_eq_true_eq]
    omega
  exact h _
theorem shaF_wf (m : List Int) : ∀ b ∈ shaF m, (Lit.int .u8 b).wf = true := by
  intro b hb
  simp only [shaF, digN, List.mem_map] at hb
  obtain ⟨i, hi, rfl⟩ := hb
  rw [if_pos (List.mem_range.1 hi)]
  exact digB_wf _ _
/-- The line of the sane charge. -/
def lnS (pd : List Int) : Ln := ⟨⟨1, 0, 0, 0, 0, 1, 2, 1, 0⟩, .int .i64 0 :: .int .i64 220 :: .int .i64 0 :: y8 pd⟩
theorem lnS_cells (pd : List Int) : (lnS pd).cells = ln0 (rootOf pd) := rfl
theorem lnS_tp {pd : List Int} (hl : pd.length = 32) (h : ∀ b ∈ pd, (Lit.int .u8 b).wf = true) : (lnS pd).tp :=
  ⟨(by decide : ∀ n ∈ ([1, 0, 0, 0, 0, 1, 2, 1, 0] : List Int), (Lit.int .i64 n).wf = true), 0, 220, 0, pd, rfl, hl, by decide, by decide, by decide, h⟩
end Go.Proofs.YtcdfjnnkocmeeaaGreatDoor
