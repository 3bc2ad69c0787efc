/-
  A region that draws its order, walked under a class of worlds: loads of wide structs, values, calls that make memory.
  Conditions: as each theorem states them.
-/
import Derived.Test.YtoiipfcmkogcfaaSe
import Derived.Deep.MidRow
import Derived.Deep.RegionHeld3
import Derived.DeepKeys
namespace Go.Proofs.Ytoiipfcmkogcfaa
open Go.RowKit Go.Lib

theorem wpQuiet_valC {P : Program} {C : World → Prop} {ops : Array Oper} {rest : List Oper} {op : Oper} {a : Act} {Q : Act → Prop} (hw : Region.wanted op (yielded ops a.tmps) = true) (v : Value)
    (hr : ∀ U, C U → (execOp a.eval op).run P U = .ok (.value v) U) (h : wpQuiet P ops C Q rest (a.put op.dst v)) : wpQuiet P ops C Q (op :: rest) a := by
  show if Region.wanted op (yielded ops a.tmps) then op.quiet P a _ (wpQuiet P ops _ Q rest) else _
  rw [if_pos hw]
  refine ⟨v, fun U hU => ?_, h⟩
  unfold Oper.quietAt
  rw [hr U hU]
  exact ⟨rfl, rfl⟩
theorem run_load_mid {P : Program} {op : Oper} {a : Act} {U : World} (ty : TypeId) (x : Operand) (ho : op.op = .load ty x)
    (b o : Nat) (hx : a.eval x = .pointer (some ⟨b, o, none⟩)) (cs : List Value) (d : TypeDesc) (hc : U.rangeAt b o cs)
    (hu : P.underlying ty = some d) (hd : d.isRow = true) (hi : (P.info? ty).map (·.size) = some cs.length) : (execOp a.eval op).run P U = .ok (.value (.agg cs.toArray)) U := by
  unfold execOp
  simp only [ho, hx, Instr.loadAt, Instr.sureAddr, Sem.run_bind, Sem.run_pure, Result.andThen_ok, run_loadVar_mid _ b o ty cs d hc hu hd hi]
theorem run_build_op {P : Program} {op : Oper} {a : Act} {U : World} (t : TypeId) (parts : Array (Nat × Operand)) (ho : op.op = .build t parts)
    (vals : Array (Nat × Value)) (hv : parts.map (fun p => (p.1, a.eval p.2)) = vals) {v : Value} (hr : (Instr.build t vals).run P U = .ok v U) : (execOp a.eval op).run P U = .ok (.value v) U := by
  subst hv
  simp [execOp, ho, hr, Result.andThen]
theorem wpQuiet_callC {P : Program} {C : World → Prop} {ops : Array Oper} {rest : List Oper} {op : Oper} {a : Act} {Q : Act → Prop} (hw : Region.wanted op (yielded ops a.tmps) = true) (f : FuncId) (args : Array Value) (v : Value)
    (hr : ∀ U, C U → (execOp a.eval op).run P U = .ok (.enter f args) U) (hc : ∀ U, C U → Calls P f args U fun e U' => e = .returned v ∧ C U') (h : wpQuiet P ops C Q rest (a.put op.dst v)) : wpQuiet P ops C Q (op :: rest) a := by
  show if Region.wanted op (yielded ops a.tmps) then op.quiet P a _ (wpQuiet P ops _ Q rest) else _
  rw [if_pos hw]
  refine ⟨v, fun U hU => ?_, h⟩
  unfold Oper.quietAt
  rw [hr U hU]
  exact ⟨rfl, hc U hU⟩
theorem wpQuiet_valK {P : Program} {C : World → Prop} {ops : Array Oper} {rest : List Oper} {op : Oper} {a : Act} {Q : Act → Prop} (hw : Region.wanted op (yielded ops a.tmps) = true) (v : Value)
    (hr : ∀ U, C U → (execOp a.eval op).run P U = .ok (.value v) U) (h : ∀ K : Act → Prop, (∀ a, wpQuiet P ops C Q rest a → K a) → K (a.put op.dst v)) : wpQuiet P ops C Q (op :: rest) a :=
  wpQuiet_valC hw v hr (h _ fun _ h => h)
theorem wpQuiet_callK {P : Program} {C : World → Prop} {ops : Array Oper} {rest : List Oper} {op : Oper} {a : Act} {Q : Act → Prop} (hw : Region.wanted op (yielded ops a.tmps) = true) (f : FuncId) (args : Array Value) (v : Value)
    (hr : ∀ U, C U → (execOp a.eval op).run P U = .ok (.enter f args) U) (hc : ∀ U, C U → Calls P f args U fun e U' => e = .returned v ∧ C U') (h : ∀ K : Act → Prop, (∀ a, wpQuiet P ops C Q rest a → K a) → K (a.put op.dst v)) : wpQuiet P ops C Q (op :: rest) a :=
  wpQuiet_callC hw f args v hr hc (h _ fun _ h => h)
theorem wp_region_quietC {P : Program} {id : Nat} {Q : Exit → Act → World → Prop} {a : Act} {w : World} {l : List Oper} (C : World → Prop) (hm : P.follows .mixedOrders = true) (hB : Region.lexB .any l.toArray = true) (hC : C { w with drawn := w.drawn + 1 })
    (h : wpQuiet P l.toArray C (fun a' => ∀ w', C w' → Q .normal a' w') l a) : (Code.region id l.toArray true).wp P Q a w :=
  wp_region_quiet (C := C) hm hB hC (by simpa using h)


theorem run_index_op {P : Program} {op : Oper} {a : Act} {U : World} (t : TypeId) (x i : Operand) (ho : op.op = .index t x i) (vx vi : Value) (hx : a.eval x = vx) (hi : a.eval i = vi) {v : Value} (hr : (Instr.index t vx vi).run P U = .ok v U) : (execOp a.eval op).run P U = .ok (.value v) U := by
  subst hx hi
  simp [execOp, ho, hr, Result.andThen]
theorem letters_at {i : Nat} (hi : i < 11) (U : World) : ∃ c, lettersB[i]? = some c ∧ (Instr.index 9 (.string ⟨#[119, 112, 111, 110, 102, 116, 99, 100, 107, 103, 97]⟩) (.int .i64 (i : Int))).run Try.prog U = .ok (.int .u8 c) U := by
  rcases (show i = 0 ∨ i = 1 ∨ i = 2 ∨ i = 3 ∨ i = 4 ∨ i = 5 ∨ i = 6 ∨ i = 7 ∨ i = 8 ∨ i = 9 ∨ i = 10 by omega) with rfl | rfl | rfl | rfl | rfl | rfl | rfl | rfl | rfl | rfl | rfl
  all_goals exact ⟨_, rfl, by kernel_rfl⟩
theorem row_rangeQ {w : World} {g : Nat} {t : TypeId} {cs : List Value} (h : Row w g t cs.toArray) : w.rangeAt g 0 cs := by
  intro j v hv
  rw [Nat.zero_add, h.cell, List.getElem?_toArray]
  exact hv
theorem below_onF {B : Nat} {w w1 w2 : World} (h : Below B w w1) (h2 : Below w1.heap.size w1 w2) (hB : B ≤ w1.heap.size) : Below B w w2 := h.trans (h2.mono hB)

theorem wpQuiet_load_mid {P : Program} {ops : Array Oper} {rest : List Oper} {op : Oper} {a : Act} {w : World} {Q : Act → Prop} (hw : Region.wanted op (yielded ops a.tmps) = true) (ty : TypeId) (x : Operand) (ho : op.op = .load ty x)
    (b o : Nat) (hx : a.eval x = .pointer (some ⟨b, o, none⟩)) (cs : List Value) (d : TypeDesc) (hc : w.rangeAt b o cs)
    (hu : P.underlying ty = some d) (hd : d.isRow = true) (hi : (P.info? ty).map (·.size) = some cs.length)
    (h : wpQuiet P ops (fun w' => ∃ n, w' = w.drewN n) Q rest (a.put op.dst (.agg cs.toArray))) : wpQuiet P ops (fun w' => ∃ n, w' = w.drewN n) Q (op :: rest) a := by
  show if Region.wanted op (yielded ops a.tmps) then op.quiet P a _ (wpQuiet P ops _ Q rest) else _
  rw [if_pos hw]
  refine ⟨.agg cs.toArray, ?_, h⟩
  rintro w1 ⟨n, rfl⟩
  have hc' : (w.drewN n).rangeAt b o cs := hc
  unfold Oper.quietAt execOp
  simp only [ho, hx, Instr.loadAt, Instr.sureAddr, Sem.run_bind, Sem.run_pure, Result.andThen_ok, run_loadVar_mid _ b o ty cs d hc' hu hd hi]
  exact ⟨rfl, rfl⟩


/-- Two components are compared. -/
theorem eq114 (p q : Pt) (w : World) : (Op.equalIn 10000 114 (.agg p.cells.toArray) (.agg q.cells.toArray)).run Try.prog w = .ok (decide ((p.kind, p.serial, p.fitted) = (q.kind, q.serial, q.fitted))) w := by
  simp only [Prod.mk.injEq, Pt.cells]
  have e114 := fun xs ys => run_equalIn_struct (P := Try.prog) w 9999 114 xs ys (by kernel_rfl) (by kernel_rfl)
  simp only [Program.fieldsOf, Try.underlying114, Op.eqFields, Nat.reduceAdd] at e114
  rw [e114]
  simp [go_sem, part, sizeOf, isAgg]
  clear e114
  repeat' split
  all_goals simp_all
/-- Two references are compared. -/
theorem eq53 (a b c d : Int) (w : World) : (Op.equalIn 10000 53 (.agg #[.int .i64 a, .int .i64 b]) (.agg #[.int .i64 c, .int .i64 d])).run Try.prog w = .ok (decide (a = c) && decide (b = d)) w := by
  have e53 := fun xs ys => run_equalIn_struct (P := Try.prog) w 9999 53 xs ys (by kernel_rfl) (by kernel_rfl)
  simp only [Program.fieldsOf, Try.underlying53, Op.eqFields, Nat.reduceAdd] at e53
  rw [e53]
  simp [go_sem, part, sizeOf, isAgg]
  clear e53
  repeat' split
  all_goals simp_all
theorem Try.size114 : (Try.prog.info? 114).map (·.size) = some 3 := by kernel_rfl
theorem run_loadC {P : Program} {op : Oper} {a : Act} {U : World} (ty : TypeId) (x : Operand) (ho : op.op = .load ty x) (b o : Nat) (hx : a.eval x = .pointer (some ⟨b, o, none⟩)) (cs : List Value) (d : TypeDesc) (hc : U.rangeAt b o cs)
    (hu : P.underlying ty = some d) (hd : d.isRow = true) (hi : (P.info? ty).map (·.size) = some cs.length) : (execOp a.eval op).run P U = .ok (.value (.agg cs.toArray)) U := run_load_mid ty x ho b o hx cs d hc hu hd hi

set_option maxRecDepth 100000 in
set_option maxHeartbeats 1000000 in
theorem sameParts_any (l m : List Pt) (A B : Option Addr) (c d : Nat) (w : World) (hl : RdE Pt.cells 3 w w.heap.size A l) (hm : RdE Pt.cells 3 w w.heap.size B m) (hn : l.length ≤ 1000) :
    Calls Try.prog 81 #[.slice A l.length c, .slice B m.length d] w fun e w' => e = .returned (.bool (decide (l.map (fun p => (p.kind, p.serial, p.fitted)) = m.map (fun p => (p.kind, p.serial, p.fitted))))) ∧ ∃ n, w' = w.drewN n := by
  have Hl := Lib.hid hl
  have Hm := Lib.hid hm
  clear hl hm
  by_cases hlen : l.length = m.length
  · go_enter Try.func81, Try.ntmps81
    have hlz : (l.length : Int) = (m.length : Int) := by omega
    go_wp2_with fail
    rw [← hlen]
    have Hlen := Lib.hid hlen
    clear hlz hlen
    go_loopw [5] (fun i wr => ∃ k n : Nat, k ≤ l.length ∧ i = .int .i64 k ∧ wr = w.drewN n ∧ Hid ((l.take k).map (fun p => (p.kind, p.serial, p.fitted)) = (m.take k).map (fun p => (p.kind, p.serial, p.fitted))))
      (fun i _ => l.length - (intOf i).toNat)
    case atStart => exact ⟨0, 0, Nat.zero_le _, rfl, rfl, Lib.hid rfl⟩
    case round =>
      obtain ⟨k, n, hk, rfl, rfl, hin⟩ := hrel
      by_cases hlt : k < l.length
      · obtain ⟨p, hp⟩ : ∃ p, l[k]? = some p := ⟨_, List.getElem?_eq_getElem hlt⟩
        obtain ⟨q, hq⟩ : ∃ q, m[k]? = some q := ⟨_, List.getElem?_eq_getElem (by have := Hlen.out; omega)⟩
        obtain ⟨b, off, rfl, hbw, c0⟩ := Hl.out k p hp
        obtain ⟨b', off', rfl, hbw', c0'⟩ := Hm.out k q hq
        have hrg : (w.drewN n).rangeAt b (off + k * 3) p.cells := c0
        have hrg' : (w.drewN n).rangeAt b' (off' + k * 3) q.cells := c0'
        have heq : ∀ w' : World, (Op.equalIn 10000 114 (.agg p.cells.toArray) (.agg q.cells.toArray)).run Try.prog w' = .ok (decide ((p.kind, p.serial, p.fitted) = (q.kind, q.serial, q.fitted))) w' := fun w' => eq114 p q w'
        have i0 : (0 : Int) ≤ (k : Int) := by omega
        have i1 : (k : Int) < (l.length : Int) := by omega
        have Hp := Lib.hid hp
        have Hq := Lib.hid hq
        have Hrg := Lib.hid hrg
        have Hrg' := Lib.hid hrg'
        have Hs : Hid ((Try.prog.info? 114).map (·.size) = some p.cells.length) := Lib.hid Try.size114
        have Hs' : Hid ((Try.prog.info? 114).map (·.size) = some q.cells.length) := Lib.hid Try.size114
        have Hst : Hid ((l.take (k + 1)).map (fun p => (p.kind, p.serial, p.fitted)) = (l.take k).map (fun p => (p.kind, p.serial, p.fitted)) ++ [(p.kind, p.serial, p.fitted)]) := Lib.hid (by rw [List.take_add_one, hp, List.map_append]; rfl)
        have Hst' : Hid ((m.take (k + 1)).map (fun p => (p.kind, p.serial, p.fitted)) = (m.take k).map (fun p => (p.kind, p.serial, p.fitted)) ++ [(q.kind, q.serial, q.fitted)]) := Lib.hid (by rw [List.take_add_one, hq, List.map_append]; rfl)
        clear hp hq hrg hrg' c0 c0'
        obtain ⟨pc, hpc⟩ : ∃ pc, pc = p.cells := ⟨_, rfl⟩
        obtain ⟨qc, hqc⟩ : ∃ qc, qc = q.cells := ⟨_, rfl⟩
        rw [← hpc, ← hqc] at heq
        rw [← hpc] at Hrg Hs
        rw [← hqc] at Hrg' Hs'
        clear hpc hqc
        by_cases ht : (p.kind, p.serial, p.fitted) = (q.kind, q.serial, q.fitted)
        · rw [decide_eq_true ht] at heq
          have Ht := Lib.hid ht
          clear ht
          go_wp2
          refine wp_region_quiet_lit (by kernel_rfl) (by kernel_rfl) ?_
          repeat (first
            | (refine wpQuiet_load_mid (by rfl) 114 _ rfl b (off + k * 3) rfl pc _ Hrg.out Try.underlying114 rfl Hs.out ?_)
            | (refine wpQuiet_load_mid (by rfl) 114 _ rfl b' (off' + k * 3) rfl qc _ Hrg'.out Try.underlying114 rfl Hs'.out ?_)
            | quiet_step (fail))
          refine wpQuiet_nil ?_
          rintro _ ⟨nq, rfl⟩
          rw [World.drewN_drewN]
          go_wp2
          go_roundw
          case rel => exact ⟨k + 1, n + nq, by omega, by go_num, rfl, Lib.hid (by rw [Hst.out, Hst'.out, hin.out, Ht.out])⟩
          case measure => simp [intOf]; omega
        · rw [decide_eq_false ht] at heq
          have hf : decide (l.map (fun p => (p.kind, p.serial, p.fitted)) = m.map (fun p => (p.kind, p.serial, p.fitted))) = false := decide_eq_false (fun h => ht (by
            have h1 := congrArg (fun z : List (Int × Int × Bool) => z[k]?) h
            simpa [Hp.out, Hq.out] using h1))
          have Hf := Lib.hid hf
          clear ht hf
          go_wp2
          refine wp_region_quiet_lit (by kernel_rfl) (by kernel_rfl) ?_
          repeat (first
            | (refine wpQuiet_load_mid (by rfl) 114 _ rfl b (off + k * 3) rfl pc _ Hrg.out Try.underlying114 rfl Hs.out ?_)
            | (refine wpQuiet_load_mid (by rfl) 114 _ rfl b' (off' + k * 3) rfl qc _ Hrg'.out Try.underlying114 rfl Hs'.out ?_)
            | quiet_step (fail))
          refine wpQuiet_nil ?_
          rintro _ ⟨nq, rfl⟩
          rw [World.drewN_drewN]
          go_wp2
          go_ret
          exact ⟨by rw [Hf.out]; rfl, n + nq, rfl⟩
      · obtain rfl : k = l.length := by omega
        have hf : decide (l.map (fun p => (p.kind, p.serial, p.fitted)) = m.map (fun p => (p.kind, p.serial, p.fitted))) = true := decide_eq_true (by have h := hin.out; rwa [List.take_length, Hlen.out, List.take_length] at h)
        have Hf := Lib.hid hf
        clear hf
        go_wp2
        go_ret
        exact ⟨by rw [Hf.out]; rfl, n, rfl⟩
  · have e : decide (l.map (fun p => (p.kind, p.serial, p.fitted)) = m.map (fun p => (p.kind, p.serial, p.fitted))) = false := decide_eq_false (fun h => hlen (by have := congrArg List.length h; simpa using this))
    rw [e]
    clear e
    have hlz : ¬ (l.length : Int) = (m.length : Int) := by omega
    go_enter Try.func81, Try.ntmps81
    go_wp2
    go_ret
    exact ⟨rfl, 0, rfl⟩
end Go.Proofs.Ytoiipfcmkogcfaa
