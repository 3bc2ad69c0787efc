/-
  derive.Charge and ledger.Line of no reports.
  Conditions: as each theorem states them.
-/
import Derived.Test.YtcdfjnnkocmeeaaGreatDoorLf
namespace Go.Proofs.YtcdfjnnkocmeeaaGreatDoor
open Go.RowKit Go.Lib

def ch0 : List Value := [.int .i64 1, .int .i64 0, .int .i64 0, .int .i64 0, .int .i64 0, .int .i64 1, .int .i64 2, .int .i64 0, .int .i64 44640, .int .i64 0, .int .i64 0, .int .i64 0, .int .i64 0, .int .i64 0, .int .i64 0, .int .i64 0, .int .i64 0, .int .i64 0, .int .i64 0, .int .i64 0, .int .i64 0, .int .i64 0, .int .i64 0, .int .i64 0, .int .i64 0, .int .i64 0, .slice none 0 0]
def env0 : List Value := List.replicate 17 (.int .i64 0)
def der0 : List Value := .slice none 0 0 :: (env0 ++ [.int .i64 0, .int .i64 220, .slice none 0 0])
def der00 : List Value := .slice none 0 0 :: (List.replicate 19 (.int .i64 0) ++ [.slice none 0 0])
theorem build79 (w : World) : (Instr.build 79 #[(1, .agg env0.toArray), (3, .int .i64 220)]).run Tryz.prog w = .ok (.agg der0.toArray) w := by kernel_rfl
set_option maxRecDepth 100000 in
theorem charge_nil (w : World) : Calls Tryz.prog 36 #[.slice none 0 0, .agg ch0.toArray] w fun e w' => e = .returned (.tuple #[.agg der0.toArray, .int .i64 0]) ∧ Below w.heap.size w w' := by
  rw [show ch0.toArray = #[.int .i64 1, .int .i64 0, .int .i64 0, .int .i64 0, .int .i64 0, .int .i64 1, .int .i64 2, .int .i64 0, .int .i64 44640, .int .i64 0, .int .i64 0, .int .i64 0, .int .i64 0, .int .i64 0, .int .i64 0, .int .i64 0, .int .i64 0, .int .i64 0, .int .i64 0, .int .i64 0, .int .i64 0, .int .i64 0, .int .i64 0, .int .i64 0, .int .i64 0, .int .i64 0, .slice none 0 0] from rfl]
  go_enter Tryz.func36, Tryz.ntmps36
  go_wp2_with fail
  refine (program_nil 0 1 44640 _ (by decide) (by decide) (by decide) (by decide) (by decide) (by decide)).mono ?_
  rintro e w1 ⟨rfl, hb⟩
  have r0 : Row w1 w.heap.size 54 ch0.toArray := ((Row.new w 54 _).alloc _).below hb (by simp only [World.size_alloc]; omega)
  have r1 : Row w1 (w.heap.size + 1) 79 der00.toArray := (Row.new1 w _ 79 _).below hb (by simp only [World.size_alloc]; omega)
  have hb' : Below w.heap.size w w1 := ((((Below.refl _ _).alloc (Nat.le_refl _) _).alloc (by simp) _)).trans (hb.mono (by simp only [World.size_alloc]; omega))
  have hrg : w1.rangeAt w.heap.size 9 env0 := by
    intro j v hv
    rw [r0.cell]
    have hj : j < 17 := (List.getElem?_eq_some_iff.1 hv).1
    have h : ∀ j, j < 17 → ch0.toArray[9 + j]? = some (.int .i64 0) ∧ env0[j]? = some (.int .i64 0) := by
      intro j hj
      rcases j with _ | _ | _ | _ | _ | _ | _ | _ | _ | _ | _ | _ | _ | _ | _ | _ | _ | j <;> first | exact ⟨rfl, rfl⟩ | omega
    rw [(h j hj).2] at hv
    rw [(h j hj).1, hv]
  have Hrg := Lib.hid hrg
  have Hth := Lib.hid (row_there r1 (n := der0.toArray.size) (by decide))
  have Hr := Lib.hid (row_put r1 (vs := der0) (by decide))
  have Hb := Lib.hid hb'
  have Hone : Hid (der0.toArray.all (·.oneCell') = true) := Lib.hid (by kernel_rfl)
  clear r0 r1 hb hb' hrg
  have Hsz : Hid ((Tryz.prog.info? 51).map (·.size) = some env0.length) := Lib.hid (by kernel_rfl)
  have Hsz2 : Hid ((Tryz.prog.info? 79).map (·.size) = some der0.toArray.size) := Lib.hid (by kernel_rfl)
  go_wp2_with (first
    | (show wpList _ _ _ (⟨some 32, Op.load 51 _, _, _, _, _⟩ :: _) _ _; refine wpList_load_mid rfl 51 _ rfl w.heap.size 9 rfl env0 _ Hrg.out Tryz.underlying51 rfl Hsz.out ?_)
    | (show wpList _ _ _ (⟨some 34, Op.build 79 _, _, _, _, _⟩ :: _) _ _; refine wpList_build2 rfl 79 1 3 _ _ rfl (.agg env0.toArray) (.int .i64 220) rfl rfl (build79 _) ?_)
    | (show wpList _ _ _ (⟨none, Op.store 79 _ _, _, _, _, _⟩ :: _) _ _; refine wpList_store_mid rfl 79 _ _ rfl (w.heap.size + 1) 0 der0.toArray rfl rfl Hth.out Hsz2.out Hone.out ?_))
  exact bodyPost_ret (results_row_tmp (ty := 79) rfl _ _ (w.heap.size + 1) 79 der0 _ rfl Hr.out Tryz.underlying79 rfl (by kernel_rfl)) rfl ⟨rfl, below_cells _ _ Hb.out (Nat.le_succ _)⟩

theorem rootL_len : rootL.length = 33 := rootOf_len padD_len
theorem rootL_one : rootL.toArray.all (·.oneCell') = true := rootOf_one padD
set_option maxRecDepth 100000 in
theorem commit_nil (w : World) (hk : KT w) : Calls Tryz.prog 38 #[.agg der0.toArray] w fun e w' => e = .returned (.tuple #[.agg rootL.toArray, .int .i64 0]) ∧ Below w.heap.size w w' := by
  rw [show der0.toArray = #[.slice none 0 0, .int .i64 0, .int .i64 0, .int .i64 0, .int .i64 0, .int .i64 0, .int .i64 0, .int .i64 0, .int .i64 0, .int .i64 0, .int .i64 0, .int .i64 0, .int .i64 0, .int .i64 0, .int .i64 0, .int .i64 0, .int .i64 0, .int .i64 0, .int .i64 0, .int .i64 220, .slice none 0 0] from rfl]
  have hroot : ∀ w, KT w → Calls Tryz.prog 45 #[.slice none 0 0] w fun e w' => e = .returned (.tuple #[.agg rootL.toArray, .int .i64 0]) ∧ Below w.heap.size w w' := fun w h => root_nil w h
  obtain ⟨rl, hrl⟩ : ∃ rl, rl = rootL := ⟨_, rfl⟩
  have hlen : rl.length = 33 := by rw [hrl]; exact rootL_len
  have hone : rl.toArray.all (·.oneCell') = true := by rw [hrl]; exact rootL_one
  rw [← hrl] at hroot ⊢
  have Hk := Lib.hid hk
  have Hroot := Lib.hid hroot
  have Hlen := Lib.hid hlen
  have Hone := Lib.hid hone
  clear hk hroot hlen hone hrl
  go_enter Tryz.func38, Tryz.ntmps38
  go_wp2_with fail
  refine (?_ : ∀ w1 : World, Row w1 (w.heap.size + 1) 42 (Value.int .i64 0 :: List.replicate 32 (Value.int .u8 0)).toArray ∧ Below w.heap.size w w1 → Calls _ _ _ w1 _) _ ⟨Row.new1 w _ 42 _, ((Below.refl _ _).alloc (Nat.le_refl _) _).alloc (by simp only [World.size_alloc]; omega) _⟩
  rintro w1 ⟨r1, b1⟩
  refine (Hroot.out w1 (Hk.out.below b1 (Nat.le_refl _))).mono ?_
  rintro e w2 ⟨rfl, b2⟩
  have r2 : Row w2 (w.heap.size + 1) 42 (Value.int .i64 0 :: List.replicate 32 (Value.int .u8 0)).toArray := r1.below b2 r1.lt
  have hb : Below w.heap.size w w2 := below_on b1 b2 (by have := r1.lt; omega)
  have Hth := Lib.hid (row_there r2 (n := rl.toArray.size) (by rw [List.size_toArray, Hlen.out]; decide))
  have Hsz : Hid ((Tryz.prog.info? 42).map (·.size) = some rl.toArray.size) := Lib.hid (by rw [List.size_toArray, Hlen.out]; kernel_rfl)
  have Hr := Lib.hid (row_put r2 (vs := rl) (by rw [Hlen.out]; decide))
  have Hb := Lib.hid hb
  clear r1 b1 r2 b2 hb
  go_wp2_with (show wpList _ _ _ (⟨none, Op.store 42 _ _, _, _, _, _⟩ :: _) _ _; refine wpList_store_mid rfl 42 _ _ rfl (w.heap.size + 1) 0 rl.toArray rfl rfl Hth.out Hsz.out Hone.out ?_)
  exact bodyPost_ret (results_row_tmp (ty := 42) rfl _ _ (w.heap.size + 1) 42 rl _ rfl Hr.out Tryz.underlying42 rfl (by simpa using Hsz.out)) rfl ⟨rfl, below_cells _ _ Hb.out (Nat.le_succ _)⟩

def lnH : List Value := [.int .i64 1, .int .i64 0, .int .i64 0, .int .i64 0, .int .i64 0, .int .i64 1, .int .i64 2, .int .i64 1, .int .i64 0, .int .i64 0, .int .i64 220]
def ln0 (rl : List Value) : List Value := lnH ++ rl
def key0 : List Value := [.int .i64 1, .int .i64 0, .int .i64 0, .int .i64 0, .int .i64 0]
set_option maxRecDepth 100000 in
theorem build44 : ∀ (rl : List Value) (w : World), rl.length = 33 → (Instr.build 44 #[(0, .agg key0.toArray), (1, .int .i64 1), (2, .int .i64 2), (3, .int .i64 1), (6, .int .i64 220), (7, .agg rl.toArray)]).run Tryz.prog w = .ok (.agg (ln0 rl).toArray) w
  | a0 :: [a1, a2, a3, a4, a5, a6, a7, a8, a9, a10, a11, a12, a13, a14, a15, a16, a17, a18, a19, a20, a21, a22, a23, a24, a25, a26, a27, a28, a29, a30, a31, a32], w, _ => by kernel_rfl
theorem wpList_build6 {P : Program} {ops : Array Oper} {rest : List Oper} {op : Oper} {a : Act} {w w1 : World} {Q : Exit → Act → World → Prop} (hgd : op.guard = none) (t : TypeId) (j0 j1 j2 j3 j4 j5 : Nat) (x0 x1 x2 x3 x4 x5 : Operand) (ho : op.op = .build t #[(j0, x0), (j1, x1), (j2, x2), (j3, x3), (j4, x4), (j5, x5)])
    (v0 v1 v2 v3 v4 v5 : Value) (h0 : a.eval x0 = v0) (h1 : a.eval x1 = v1) (h2 : a.eval x2 = v2) (h3 : a.eval x3 = v3) (h4 : a.eval x4 = v4) (h5 : a.eval x5 = v5) {v : Value} (hr : (Instr.build t #[(j0, v0), (j1, v1), (j2, v2), (j3, v3), (j4, v4), (j5, v5)]).run P w = .ok v w1) (h : wpList P ops Q rest (a.put op.dst v) w1) : wpList P ops Q (op :: rest) a w :=
  wpList_build hgd t #[(j0, x0), (j1, x1), (j2, x2), (j3, x3), (j4, x4), (j5, x5)] ho #[(j0, v0), (j1, v1), (j2, v2), (j3, v3), (j4, v4), (j5, v5)] (by simp [h0, h1, h2, h3, h4, h5]) hr h
def ln00 : List Value := List.replicate 12 (.int .i64 0) ++ List.replicate 32 (.int .u8 0)
set_option maxRecDepth 100000 in
set_option maxHeartbeats 1000000 in
theorem line_nil (w : World) (hk : KT w) (hc : CB w) : Calls Tryz.prog 19 #[.slice none 0 0, .agg ch0.toArray] w fun e w' => e = .returned (.tuple #[.agg (ln0 rootL).toArray, .int .i64 0]) ∧ Below w.heap.size w w' := by
  have hcom : ∀ w, KT w → Calls Tryz.prog 38 #[.agg der0.toArray] w fun e w' => e = .returned (.tuple #[.agg rootL.toArray, .int .i64 0]) ∧ Below w.heap.size w w' := fun w h => commit_nil w h
  obtain ⟨rl, hrl⟩ : ∃ rl, rl = rootL := ⟨_, rfl⟩
  have hlen : rl.length = 33 := by rw [hrl]; exact rootL_len
  have hone : rl.toArray.all (·.oneCell') = true := by rw [hrl]; exact rootL_one
  rw [← hrl] at hcom ⊢
  have hln : (ln0 rl).length = 44 := by rw [ln0, List.length_append, hlen]; rfl
  have hlo : (ln0 rl).toArray.all (·.oneCell') = true := by
    have h1 : lnH.all (·.oneCell') = true := by kernel_rfl
    simp only [List.all_toArray] at hone ⊢
    rw [ln0, List.all_append, h1, hone]; rfl
  have Hln := Lib.hid hln
  have Hlo := Lib.hid hlo
  have Hk := Lib.hid hk
  have Hc := Lib.hid hc
  have Hcom := Lib.hid hcom
  have Hlen := Lib.hid hlen
  have Hone := Lib.hid hone
  clear hk hc hcom hlen hone hrl hln hlo
  go_enter Tryz.func19, Tryz.ntmps19
  go_upto_region 1 with fail
  refine (?_ : ∀ w1 : World, Row w1 w.heap.size 54 ch0.toArray ∧ Row w1 (w.heap.size + 1) 44 ln00.toArray ∧ Below w.heap.size w w1 → Code.wp _ _ _ _ w1) _ ⟨(Row.new w 54 _).alloc _, Row.new1 w _ 44 _, ((Below.refl _ _).alloc (Nat.le_refl _) _).alloc (by simp only [World.size_alloc]; omega) _⟩
  rintro w1 ⟨r0, r1, b1⟩
  have Hrg := Lib.hid (row_range r0)
  have Hsz54 : Hid ((Tryz.prog.info? 54).map (·.size) = some ch0.length) := Lib.hid (by kernel_rfl)
  have R0 := Lib.hid r0
  have R1 := Lib.hid r1
  have B1 := Lib.hid b1
  clear r0 r1 b1
  go_wp2_with (show wpList _ _ _ (⟨some 15, Op.load 54 _, _, _, _, _⟩ :: _) _ _; refine wpList_load_mid rfl 54 _ rfl w.heap.size 0 rfl ch0 _ Hrg.out Tryz.underlying54 rfl Hsz54.out ?_)
  refine (charge_nil w1).mono ?_
  rintro e w2 ⟨rfl, b2⟩
  have hpr : Row (w2.alloc (.cells der00.toArray 79)) w2.heap.size 79 der00.toArray := Row.new _ _ _
  have Hth := Lib.hid (row_there hpr (n := der0.toArray.size) (by decide))
  have hr79 := row_put hpr (vs := der0) (by decide)
  have Hone79 : Hid (der0.toArray.all (·.oneCell') = true) := Lib.hid (by kernel_rfl)
  have Hsz79 : Hid ((Tryz.prog.info? 79).map (·.size) = some der0.toArray.size) := Lib.hid (by kernel_rfl)
  obtain ⟨g2, hg2⟩ : ∃ g2, g2 = w2.heap.size := ⟨_, rfl⟩
  have l0 : w.heap.size + 1 < g2 := by have := R1.out.lt; have := b2.size; omega
  have q0 : Row ((w2.alloc (.cells der00.toArray 79)).setCells w2.heap.size 0 der0) w.heap.size 54 ch0.toArray := row_far _ _ ((R0.out.below b2 R0.out.lt).alloc _) (by omega)
  have q1 : Row ((w2.alloc (.cells der00.toArray 79)).setCells w2.heap.size 0 der0) (w.heap.size + 1) 44 ln00.toArray := row_far _ _ ((R1.out.below b2 R1.out.lt).alloc _) (by omega)
  have q2 : Below w.heap.size w ((w2.alloc (.cells der00.toArray 79)).setCells w2.heap.size 0 der0) := below_cells _ _ ((below_on B1.out b2 (by have := R1.out.lt; omega)).alloc (by omega) _) (by omega)
  rw [← hg2] at Hth hr79 q0 q1 q2
  have P0 := Lib.hid q0
  have P1 := Lib.hid q1
  have P2 := Lib.hid q2
  have P3 := Lib.hid hr79
  have Hl0 := Lib.hid l0
  have Hg2 := Lib.hid hg2
  clear hpr hr79 q0 q1 q2 b2 Hrg R0 R1 B1 l0 hg2
  go_upto_region 2 with (show wpList _ _ _ (⟨none, Op.store 79 _ _, _, _, _, _⟩ :: _) _ _; rw [← Hg2.out]; refine wpList_store_mid rfl 79 _ _ rfl g2 0 der0.toArray rfl rfl Hth.out Hsz79.out Hone79.out ?_)
  refine (?_ : ∀ w3 : World, Row w3 w.heap.size 54 ch0.toArray ∧ Row w3 (w.heap.size + 1) 44 ln00.toArray ∧ Row w3 g2 79 der0.toArray ∧ Below w.heap.size w w3 → Code.wp _ _ _ _ w3) _ ⟨P0.out, P1.out, P3.out, P2.out⟩
  clear P0 P1 P2 P3 Hth Hone79 Hsz79 Hg2 Hsz54
  rintro w3 ⟨q0, q1, q2, q3⟩
  have Q0 := Lib.hid q0
  have Q1 := Lib.hid q1
  have Q2 := Lib.hid q2
  have Q3 := Lib.hid q3
  have c8 : w3.cell? ⟨w.heap.size, 8, none⟩ = some (.int .i64 44640) := q0.cell 8
  clear q0 q1 q2 q3
  go_wp2_with fail
  clear c8
  refine (month_any w3 (Hc.out.below Q3.out Hc.out.1)).mono ?_
  rintro e w4 ⟨rfl, b4⟩
  have q0 : Row w4 w.heap.size 54 ch0.toArray := Q0.out.below b4 Q0.out.lt
  have q1 : Row w4 (w.heap.size + 1) 44 ln00.toArray := Q1.out.below b4 Q1.out.lt
  have q2 : Row w4 g2 79 der0.toArray := Q2.out.below b4 Q2.out.lt
  have q3 : Below w.heap.size w w4 := below_on Q3.out b4 (Nat.le_of_lt Q0.out.lt)
  have Hrg := Lib.hid (row_range q2)
  have Hsz79 : Hid ((Tryz.prog.info? 79).map (·.size) = some der0.length) := Lib.hid (by kernel_rfl)
  clear Q0 Q1 Q2 Q3 b4
  have Q0 := Lib.hid q0
  have Q1 := Lib.hid q1
  have Q2 := Lib.hid q2
  have Q3 := Lib.hid q3
  clear q0 q1 q2 q3
  go_wp2_with (show wpList _ _ _ (⟨some 34, Op.load 79 _, _, _, _, _⟩ :: _) _ _; refine wpList_load_mid rfl 79 _ rfl g2 0 rfl der0 _ Hrg.out Tryz.underlying79 rfl Hsz79.out ?_)
  refine (Hcom.out w4 (Hk.out.below Q3.out (Nat.le_refl _))).mono ?_
  rintro e w5 ⟨rfl, b5⟩
  have q0 : Row w5 w.heap.size 54 ch0.toArray := Q0.out.below b5 Q0.out.lt
  have q1 : Row w5 (w.heap.size + 1) 44 ln00.toArray := Q1.out.below b5 Q1.out.lt
  have q2 : Row w5 g2 79 der0.toArray := Q2.out.below b5 Q2.out.lt
  have q3 : Below w.heap.size w w5 := below_on Q3.out b5 (Nat.le_of_lt Q0.out.lt)
  have hpr : Row (w5.alloc (.cells (Value.int .i64 0 :: List.replicate 32 (Value.int .u8 0)).toArray 42)) w5.heap.size 42 (Value.int .i64 0 :: List.replicate 32 (Value.int .u8 0)).toArray := Row.new _ _ _
  have Hth := Lib.hid (row_there hpr (n := rl.toArray.size) (by rw [List.size_toArray, Hlen.out]; decide))
  have hr42 := row_put hpr (vs := rl) (by rw [Hlen.out]; decide)
  have Hsz42 : Hid ((Tryz.prog.info? 42).map (·.size) = some rl.toArray.size) := Lib.hid (by rw [List.size_toArray, Hlen.out]; kernel_rfl)
  obtain ⟨g3, hg3⟩ : ∃ g3, g3 = w5.heap.size := ⟨_, rfl⟩
  have hq1 := q1.lt
  have hq2 := q2.lt
  have p0 : Row ((w5.alloc (.cells (Value.int .i64 0 :: List.replicate 32 (Value.int .u8 0)).toArray 42)).setCells w5.heap.size 0 rl) w.heap.size 54 ch0.toArray := row_far _ _ (q0.alloc _) (by omega)
  have p1 : Row ((w5.alloc (.cells (Value.int .i64 0 :: List.replicate 32 (Value.int .u8 0)).toArray 42)).setCells w5.heap.size 0 rl) (w.heap.size + 1) 44 ln00.toArray := row_far _ _ (q1.alloc _) (by omega)
  have p2 : Row ((w5.alloc (.cells (Value.int .i64 0 :: List.replicate 32 (Value.int .u8 0)).toArray 42)).setCells w5.heap.size 0 rl) g2 79 der0.toArray := row_far _ _ (q2.alloc _) (by omega)
  have p3 : Below w.heap.size w ((w5.alloc (.cells (Value.int .i64 0 :: List.replicate 32 (Value.int .u8 0)).toArray 42)).setCells w5.heap.size 0 rl) := below_cells _ _ (q3.alloc (by omega) _) (by omega)
  rw [← hg3] at Hth hr42 p0 p1 p2 p3
  clear Q0 Q1 Q2 Q3 q0 q1 q2 q3 hq1 hq2 b5 hpr Hrg
  have P0 := Lib.hid p0
  have P1 := Lib.hid p1
  have P2 := Lib.hid p2
  have P3 := Lib.hid p3
  have P4 := Lib.hid hr42
  have Hg3 := Lib.hid hg3
  clear p0 p1 p2 p3 hr42 hg3
  go_upto_region 8 with (show wpList _ _ _ (⟨none, Op.store 42 _ _, _, _, _, _⟩ :: _) _ _; rw [← Hg3.out]; refine wpList_store_mid rfl 42 _ _ rfl g3 0 rl.toArray rfl rfl Hth.out Hsz42.out Hone.out ?_)
  refine (?_ : ∀ w6 : World, Row w6 w.heap.size 54 ch0.toArray ∧ Row w6 (w.heap.size + 1) 44 ln00.toArray ∧ Row w6 g2 79 der0.toArray ∧ Row w6 g3 42 rl.toArray ∧ Below w.heap.size w w6 → Code.wp _ _ _ _ w6) _ ⟨P0.out, P1.out, P2.out, P4.out, P3.out⟩
  clear P0 P1 P2 P3 P4 Hth Hg3 Hsz79
  rintro w6 ⟨q0, q1, q2, q4, q3⟩
  have c5 : w6.cell? ⟨w.heap.size, 5, none⟩ = some (.int .i64 1) := q0.cell 5
  have c6 : w6.cell? ⟨w.heap.size, 6, none⟩ = some (.int .i64 2) := q0.cell 6
  have ce : w6.cell? ⟨g2, 19, none⟩ = some (.int .i64 220) := q2.cell 19
  have hrk : w6.rangeAt w.heap.size 0 key0 := by
    intro j v hv
    rw [Nat.zero_add, q0.cell]
    have hj : j < 5 := (List.getElem?_eq_some_iff.1 hv).1
    have h : ∀ j, j < 5 → ch0.toArray[j]? = key0[j]? := by
      intro j hj
      rcases j with _ | _ | _ | _ | _ | j <;> first | rfl | omega
    rw [h j hj, hv]
  have Hrk := Lib.hid hrk
  have Hrl := Lib.hid (row_range q4)
  have Hsz38 : Hid ((Tryz.prog.info? 38).map (·.size) = some key0.length) := Lib.hid (by kernel_rfl)
  have Hsz42' : Hid ((Tryz.prog.info? 42).map (·.size) = some rl.length) := Lib.hid (by rw [Hlen.out]; kernel_rfl)
  have hpr : Row (w6.alloc (.cells ln00.toArray 44)) w6.heap.size 44 ln00.toArray := Row.new _ _ _
  have Hth := Lib.hid (row_there hpr (n := (ln0 rl).toArray.size) (by rw [List.size_toArray, Hln.out]; decide))
  have hr44 := row_put hpr (vs := ln0 rl) (by rw [Hln.out]; decide)
  have Hsz44 : Hid ((Tryz.prog.info? 44).map (·.size) = some (ln0 rl).toArray.size) := Lib.hid (by rw [List.size_toArray, Hln.out]; kernel_rfl)
  obtain ⟨g4, hg4⟩ : ∃ g4, g4 = w6.heap.size := ⟨_, rfl⟩
  have hq1 := q1.lt
  have hq2 := q2.lt
  have p1 : Row ((w6.alloc (.cells ln00.toArray 44)).setCells w6.heap.size 0 (ln0 rl)) (w.heap.size + 1) 44 ln00.toArray := row_far _ _ (q1.alloc _) (by omega)
  have p2 : Row ((w6.alloc (.cells ln00.toArray 44)).setCells w6.heap.size 0 (ln0 rl)) g2 79 der0.toArray := row_far _ _ (q2.alloc _) (by omega)
  have p3 : Below w.heap.size w ((w6.alloc (.cells ln00.toArray 44)).setCells w6.heap.size 0 (ln0 rl)) := below_cells _ _ (q3.alloc (by omega) _) (by omega)
  rw [← hg4] at Hth hr44 p1 p2 p3
  have Hl4 : Hid (w.heap.size + 1 < g4) := Lib.hid (by omega)
  clear q0 q1 q2 q3 q4 hrk hq1 hq2 hpr
  have P1 := Lib.hid p1
  have P2 := Lib.hid p2
  have P3 := Lib.hid p3
  have P4 := Lib.hid hr44
  have Hg4 := Lib.hid hg4
  have Hb44 : Hid (∀ W, (Instr.build 44 #[(0, .agg key0.toArray), (1, .int .i64 1), (2, .int .i64 2), (3, .int .i64 1), (6, .int .i64 220), (7, .agg rl.toArray)]).run Tryz.prog W = .ok (.agg (ln0 rl).toArray) W) := Lib.hid (fun W => build44 rl W Hlen.out)
  clear p1 p2 p3 hr44 hg4
  go_upto_region 11 with (first
    | (show wpList _ _ _ (⟨some 43, Op.load 38 _, _, _, _, _⟩ :: _) _ _; refine wpList_load_mid rfl 38 _ rfl w.heap.size 0 rfl key0 _ Hrk.out Tryz.underlying38 rfl Hsz38.out ?_)
    | (show wpList _ _ _ (⟨some 51, Op.load 42 _, _, _, _, _⟩ :: _) _ _; refine wpList_load_mid rfl 42 _ rfl g3 0 rfl rl _ Hrl.out Tryz.underlying42 rfl Hsz42'.out ?_)
    | (show wpList _ _ _ (⟨some 52, Op.build 44 _, _, _, _, _⟩ :: _) _ _; refine wpList_build6 rfl 44 0 1 2 3 6 7 _ _ _ _ _ _ rfl (.agg key0.toArray) (.int .i64 1) (.int .i64 2) (.int .i64 1) (.int .i64 220) (.agg rl.toArray) rfl rfl rfl rfl rfl rfl (Hb44.out _) ?_)
    | (show wpList _ _ _ (⟨none, Op.store 44 _ _, _, _, _, _⟩ :: _) _ _; rw [← Hg4.out]; refine wpList_store_mid rfl 44 _ _ rfl g4 0 (ln0 rl).toArray rfl rfl Hth.out Hsz44.out Hlo.out ?_))
  refine (?_ : ∀ w7 : World, Row w7 (w.heap.size + 1) 44 ln00.toArray ∧ Row w7 g2 79 der0.toArray ∧ Row w7 g4 44 (ln0 rl).toArray ∧ Below w.heap.size w w7 → Code.wp _ _ _ _ w7) _ ⟨P1.out, P2.out, P4.out, P3.out⟩
  clear P1 P2 P3 P4 Hth Hg4 Hb44 Hrk Hrl c5 c6 ce
  rintro w7 ⟨q1, q2, q4, q3⟩
  have ce : w7.cell? ⟨g2, 19, none⟩ = some (.int .i64 220) := q2.cell 19
  have Hrl := Lib.hid (row_range q4)
  have Hsz44' : Hid ((Tryz.prog.info? 44).map (·.size) = some (ln0 rl).length) := Lib.hid (by rw [Hln.out]; kernel_rfl)
  have Hth := Lib.hid (row_there q1 (n := (ln0 rl).toArray.size) (by rw [List.size_toArray, Hln.out]; decide))
  have Hr := Lib.hid (row_put q1 (vs := ln0 rl) (by rw [Hln.out]; decide))
  have Q3 := Lib.hid q3
  clear q1 q2 q4 q3
  go_wp2_with (first
    | (show wpList _ _ _ (⟨some 71, Op.load 44 _, _, _, _, _⟩ :: _) _ _; refine wpList_load_mid rfl 44 _ rfl g4 0 rfl (ln0 rl) _ Hrl.out Tryz.underlying44 rfl Hsz44'.out ?_)
    | (show wpList _ _ _ (⟨none, Op.store 44 _ _, _, _, _, _⟩ :: _) _ _; refine wpList_store_mid rfl 44 _ _ rfl (w.heap.size + 1) 0 (ln0 rl).toArray rfl rfl Hth.out Hsz44.out Hlo.out ?_))
  exact bodyPost_ret (results_row_tmp (ty := 44) rfl _ _ (w.heap.size + 1) 44 (ln0 rl) _ rfl Hr.out Tryz.underlying44 rfl Hsz44'.out) rfl ⟨rfl, below_cells _ _ Q3.out (Nat.le_succ _)⟩

end Go.Proofs.YtcdfjnnkocmeeaaGreatDoor
