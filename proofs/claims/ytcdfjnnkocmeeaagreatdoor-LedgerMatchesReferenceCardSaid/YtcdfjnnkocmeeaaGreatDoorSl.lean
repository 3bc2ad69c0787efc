/-
  ref31.Same of two equal lists of lines.
  Conditions: as each theorem states them.
-/
import Derived.Test.YtcdfjnnkocmeeaaGreatDoorEq
namespace Go.Proofs.YtcdfjnnkocmeeaaGreatDoor
open Go.RowKit Go.Lib

theorem wpQuiet_load_mid {P : Program} {ops : Array Oper} {rest : List Oper} {op : Oper} {a : Act} {w : World} {Q : Act → Prop} (hw : Region.wanted op (yielded ops a.tmps) = true) (ty : TypeId) (x : Operand) (ho : op.op = .load ty x)
    (b o : Nat) (hx : a.eval x = .pointer (some ⟨b, o, none⟩)) (cs : List Value) (d : TypeDesc) (hc : w.rangeAt b o cs)
    (hu : P.underlying ty = some d) (hd : d.isRow = true) (hi : (P.info? ty).map (·.size) = some cs.length)
    (h : wpQuiet P ops (fun w' => ∃ n, w' = w.drewN n) Q rest (a.put op.dst (.agg cs.toArray))) : wpQuiet P ops (fun w' => ∃ n, w' = w.drewN n) Q (op :: rest) a := by
  show if Region.wanted op (yielded ops a.tmps) then op.quiet P a _ (wpQuiet P ops _ Q rest) else _
  rw [if_pos hw]
  refine ⟨.agg cs.toArray, ?_, h⟩
  rintro w1 ⟨n, rfl⟩
  have hc' : (w.drewN n).rangeAt b o cs := hc
  unfold Oper.quietAt execOp
  simp only [ho, hx, Instr.loadAt, Instr.sureAddr, Sem.run_bind, Sem.run_pure, Result.andThen_ok, run_loadVar_mid _ b o ty cs d hc' hu hd hi]
  exact ⟨rfl, rfl⟩

set_option maxRecDepth 100000 in
set_option maxHeartbeats 1000000 in
theorem same14_any (A A' : Option Addr) (l : List Ln) (c c' : Nat) (w : World) (h : RdE Ln.cells 44 w w.heap.size A l) (h' : RdE Ln.cells 44 w w.heap.size A' l) (hok : ∀ x ∈ l, x.ok) (htp : ∀ x ∈ l, x.tp) (hm : l.length ≤ 4611686018427387904) :
    Calls Tryz.prog 14 #[.slice A l.length c, .slice A' l.length c'] w fun e w' => e = .returned (.bool true) ∧ ∃ n, w' = w.drewN n := by
  have H := Lib.hid h
  have H' := Lib.hid h'
  have Hok := Lib.hid hok
  have Htp := Lib.hid htp
  clear h h' hok htp
  go_enter Tryz.func14, Tryz.ntmps14
  go_wp2
  go_loopw [5] (fun i wr => ∃ k : Nat, k ≤ l.length ∧ i = .int .i64 k ∧ ∃ n, wr = w.drewN n)
    (fun i _ => l.length - (intOf i).toNat)
  case atStart => exact ⟨0, Nat.zero_le _, rfl, 0, rfl⟩
  case round =>
    obtain ⟨k, hk, rfl, n, rfl⟩ := hrel
    by_cases hlt : k < l.length
    · obtain ⟨x, hx⟩ : ∃ x, l[k]? = some x := ⟨_, List.getElem?_eq_getElem hlt⟩
      obtain ⟨b, off, rfl, hbw, c0⟩ := H.out k x hx
      obtain ⟨b', off', rfl, hbw', c0'⟩ := H'.out k x hx
      have hxo := Hok.out x (List.mem_of_getElem? hx)
      have hxt := Htp.out x (List.mem_of_getElem? hx)
      have hs : (Tryz.prog.info? 44).map (·.size) = some x.cells.length := by rw [Tryz.size44, Ln.len44 hxo]
      have hrg : (w.drewN n).rangeAt b (off + k * 44) x.cells := c0
      have hrg' : (w.drewN n).rangeAt b' (off' + k * 44) x.cells := c0'
      have heq : ∀ w' : World, (Op.equalIn 10000 44 (.agg x.cells.toArray) (.agg x.cells.toArray)).run Tryz.prog w' = .ok true w' := fun w' => eq44_refl hxt w'
      have i0 : (0 : Int) ≤ (k : Int) := by omega
      have i1 : (k : Int) < (l.length : Int) := by omega
      have Hs := Lib.hid hs
      have Hrg := Lib.hid hrg
      have Hrg' := Lib.hid hrg'
      clear hx hxo hxt hs hrg hrg' c0 c0'
      go_wp2
      refine wp_region_quiet_lit (by kernel_rfl) (by kernel_rfl) ?_
      repeat (first
        | (refine wpQuiet_load_mid (by rfl) 44 _ rfl b (off + k * 44) rfl x.cells _ Hrg.out Tryz.underlying44 rfl Hs.out ?_)
        | (refine wpQuiet_load_mid (by rfl) 44 _ rfl b' (off' + k * 44) rfl x.cells _ Hrg'.out Tryz.underlying44 rfl Hs.out ?_)
        | quiet_step (fail))
      refine wpQuiet_nil ?_
      rintro _ ⟨nq, rfl⟩
      rw [World.drewN_drewN]
      go_wp2
      go_roundw
      case rel => exact ⟨k + 1, by omega, by go_num, n + nq, rfl⟩
      case measure => simp [intOf]; omega
    · obtain rfl : k = l.length := by omega
      go_wp2
      go_ret
      exact ⟨rfl, n, rfl⟩
end Go.Proofs.YtcdfjnnkocmeeaaGreatDoor
