/-
  The chapter's examples hold: the law's helper sane returns true.
  Conditions: as each theorem states them.
-/
import Derived.Test.YtoiipfcmkogcfaaSp
import Derived.Deep.DeepCutAuto
namespace Go.Proofs.Ytoiipfcmkogcfaa
open Go.RowKit Go.Lib

def poolL (b : Nat) : List Value := [.slice none 0 0, .slice none 0 0, .slice none 0 0, .slice (some ⟨b, 0, none⟩) 4 4, .slice none 0 0, .slice none 0 0, .slice none 0 0, .slice none 0 0, .slice none 0 0]
theorem build42 (b : Nat) (w : World) : (Instr.build 42 #[(1, .slice (some ⟨b, 0, none⟩) 4 4)]).run Try.prog w = .ok (.agg #[.slice none 0 0, .slice (some ⟨b, 0, none⟩) 4 4, .slice none 0 0, .slice none 0 0]) w := by kernel_rfl
theorem build47 (b : Nat) (w : World) : (Instr.build 47 #[(1, .agg #[.slice none 0 0, .slice (some ⟨b, 0, none⟩) 4 4, .slice none 0 0, .slice none 0 0])]).run Try.prog w = .ok (.agg (poolL b).toArray) w := by kernel_rfl
theorem pool_size (b : Nat) : (Try.prog.info? 47).map (·.size) = some (poolL b).length := by kernel_rfl
theorem pool_one (b : Nat) : ∀ v ∈ poolL b, v.oneCell' = true := by
  intro v hv
  simp only [poolL, List.mem_cons, List.not_mem_nil, or_false] at hv
  rcases hv with rfl | rfl | rfl | rfl | rfl | rfl | rfl | rfl | rfl <;> rfl
theorem rp_size (r : Rp) : (Try.prog.info? 58).map (·.size) = some r.cells.length := Try.size58
theorem rp_one (r : Rp) : ∀ v ∈ r.cells, v.oneCell' = true := by
  intro v hv
  simp [Rp.cells] at hv
  rcases hv with rfl | rfl | rfl | rfl | rfl | rfl | rfl | rfl | rfl | rfl | rfl | rfl | rfl | rfl | rfl | rfl | rfl | rfl | rfl | rfl | rfl <;> rfl
theorem info38 : ∃ t i z, Try.prog.underlying 38 = some (.slice t) ∧ Try.prog.info? t = some i ∧ i.zero = some z ∧ i.size ≤ 1000 ∧ i.bytes ≤ 100000 := by
  have h : (match Try.prog.underlying 38 with | some (.slice t) => (Try.prog.info? t).any fun i => i.zero.isSome && decide (i.size ≤ 1000) && decide (i.bytes ≤ 100000) | _ => false) = true := by kernel_rfl
  split at h
  · rename_i t ht
    cases hi : Try.prog.info? t with
    | none => rw [hi] at h; cases h
    | some i =>
      rw [hi] at h
      simp only [Option.any_some, Bool.and_eq_true, decide_eq_true_eq] at h
      obtain ⟨z, hz⟩ := Option.isSome_iff_exists.1 h.1.1
      exact ⟨t, i, z, ht, hi, hz, h.1.2, h.2⟩
  · cases h
theorem make38 (w : World) : ∃ cs t, (Instr.makeSlice 38 (.int .i64 4) (.int .i64 4)).run Try.prog w = .ok (.slice (some ⟨w.heap.size, 0, none⟩) 4 4) (w.alloc (.cells cs t)) := by
  obtain ⟨t, i, z, ht, hi, hz, hs, hb⟩ := info38
  exact ⟨_, _, run_makeSlice w 38 t i z ht hi hz .i64 .i64 4 4 (by omega) (by omega) (by show 4 * i.size ≤ _; omega) (by omega) (by omega)⟩
theorem slice_line (p n : Int) (w : World) : (Instr.buildSlice 22 1 #[(0, .agg (lineL p n).cells.toArray)]).run Try.prog w = .ok (.slice (some ⟨w.heap.size, 0, none⟩) 1 1) (w.alloc (.cells (lineL p n).cells.toArray 68)) := by kernel_rfl
/-- Reports without components in one row. -/
theorem rdr_row {w : World} {g : Nat} {l : List Rp} (h : Row w g 58 (flat Rp.cells l).toArray) (hp : ∀ r ∈ l, r.pts = []) (hn : ∀ r ∈ l, ∀ n ∈ r.nums, (Lit.int .i64 n).wf = true) (ht : ∀ r ∈ l, r.tx.size ≤ maxLen) : RdR w w.heap.size (some ⟨g, 0, none⟩) l := by
  refine ⟨RdE.of_row Rp.cells_len h.lt h (fun j v hv => hv), fun r hr => ?_, fun r hr => ⟨hn r hr, ht r hr, ?_⟩, fun r hr => ?_⟩
  · unfold RdP
    rw [hp r hr]
    exact RdE.nil
  · rw [hp r hr]; simp
  · rw [hp r hr]; simp
def ExR (r : Rp) : Prop := r.pts = [] ∧ (∀ n ∈ r.nums, (Lit.int .i64 n).wf = true) ∧ r.tx.size ≤ maxLen
theorem ex_stay : ExR stayR := ⟨rfl, by decide, by decide⟩
theorem ex_early : ExR earlyR := ⟨rfl, by decide, by decide⟩
theorem ex_late : ExR lateR := ⟨rfl, by decide, by decide⟩
theorem ex_tariff : ExR tariffR := ⟨rfl, by decide, by decide⟩
theorem rdr_more {w w' : World} {A : Option Addr} {l : List Rp} (h : RdR w w.heap.size A l) (hb : Below w.heap.size w w') : RdR w' w'.heap.size A l :=
  ⟨(h.row.below hb).more hb.size, fun r hr => ((h.pts r hr).below hb).more hb.size, h.ok, h.few⟩
theorem rdr_one {r : Rp} (h : ExR r) (w : World) : RdR (w.alloc (.cells r.cells.toArray 58)) (w.alloc (.cells r.cells.toArray 58)).heap.size (some ⟨w.heap.size, 0, none⟩) [r] := by
  refine rdr_row (by simpa [flat] using Row.new w 58 r.cells.toArray) ?_ ?_ ?_ <;> intro s hs <;> rw [List.mem_singleton] at hs <;> subst hs
  · exact h.1
  · exact h.2.1
  · exact h.2.2
theorem rdr_two {r s : Rp} (hr : ExR r) (hs : ExR s) (w : World) : RdR (w.alloc (.cells (r.cells ++ s.cells).toArray 58)) (w.alloc (.cells (r.cells ++ s.cells).toArray 58)).heap.size (some ⟨w.heap.size, 0, none⟩) [r, s] := by
  refine rdr_row (by simpa [flat] using Row.new w 58 (r.cells ++ s.cells).toArray) ?_ ?_ ?_ <;> intro t ht <;> simp only [List.mem_cons, List.not_mem_nil, or_false] at ht <;> rcases ht with rfl | rfl
  · exact hr.1
  · exact hs.1
  · exact hr.2.1
  · exact hs.2.1
  · exact hr.2.2
  · exact hs.2.2
theorem rdr_twoK {r s : Rp} (hr : ExR r) (hs : ExR s) (w : World) (k : Nat) (hk : w.heap.size = k) : RdR (w.alloc (.cells (r.cells ++ s.cells).toArray 58)) (w.alloc (.cells (r.cells ++ s.cells).toArray 58)).heap.size (some ⟨k, 0, none⟩) [r, s] := by
  subst hk
  exact rdr_two hr hs w
theorem row_range {W : World} {g : Nat} {t : TypeId} {cs : List Value} (h : Row W g t cs.toArray) : ∀ U : World, Below W.heap.size W U → U.rangeAt g 0 cs := fun U hU j v hv => by
  rw [Nat.zero_add, (h.below hU h.lt).cell]
  simpa using hv

theorem wpList_field {P : Program} {ops : Array Oper} {rest : List Oper} {op : Oper} {a : Act} {w w1 : World} {Q : Exit → Act → World → Prop} (hgd : op.guard = none) (t : TypeId) (x : Operand) (f : Nat) (ho : op.op = .field t x f)
    (vx : Value) (hx : a.eval x = vx) {v : Value} (hr : (Instr.field t vx f).run P w = .ok v w1) (h : wpList P ops Q rest (a.put op.dst v) w1) : wpList P ops Q (op :: rest) a w := by
  refine wpList_plain hgd fun K' hK' => ?_
  unfold Oper.wp
  simp [execOp, ho, hx, hr, Result.andThen]
  exact hK' _ _ h
theorem field_line (w : World) : (Instr.field 68 (.agg (lineL 0 0).cells.toArray) 0).run Try.prog w = .ok (.agg #[.int .i64 1, .int .i64 0, .int .i64 0, .int .i64 1, .int .i64 0]) w := by kernel_rfl
theorem rdl_one {w : World} {g : Nat} {x : Ln} (h : Row w g 68 x.cells.toArray) : RdE Ln.cells 44 w w.heap.size (some ⟨g, 0, none⟩) [x] := by
  intro i y hy
  have hi : i = 0 := by have := (List.getElem?_eq_some_iff.1 hy).1; simp at this; omega
  subst hi
  simp at hy
  subst hy
  refine ⟨g, 0, rfl, h.lt, fun j v hv => ?_⟩
  have e : 0 + 0 * 44 + j = j := by omega
  rw [e, h.cell]
  simpa using hv
theorem okl_one {p n : Int} (h : ∀ m ∈ (lineL p n).d.nums, (Lit.int .i64 m).wf = true) : ∀ x ∈ [lineL p n], x.ok := by
  intro x hx
  rw [List.mem_singleton] at hx
  subst hx
  refine ⟨rfl, fun v hv => ?_, h⟩
  exact lineL_one p n v (List.mem_append_right _ hv)
theorem zeros_cells : Array.replicate 336 (Value.int .i64 0) = ints zeros := by
  unfold ints zeros
  rw [List.map_replicate, List.toArray_replicate]

set_option maxRecDepth 100000 in
set_option maxHeartbeats 16000000 in
theorem sane_any (w : World) : Calls Try.prog 8 #[] w fun e w' => e = .returned (.bool true) ∧ Below w.heap.size w w' := by
  obtain ⟨cs38, t38, hmk38⟩ := make38 w
  go_enter Try.func8, Try.ntmps8
  go_upto_region 6 with (first
    | (show wpList _ _ _ (⟨some 18, Op.build 42 _, _, _, _, _⟩ :: _) _ _; refine wpList_build1 rfl 42 _ _ rfl _ rfl (build42 _ _) ?_)
    | (show wpList _ _ _ (⟨some 19, Op.build 47 _, _, _, _, _⟩ :: _) _ _; refine wpList_build1 rfl 47 _ _ rfl _ rfl (build47 _ _) ?_)
    | (show wpList _ _ _ (⟨none, Op.store 47 (.tmp 1) _, _, _, _, _⟩ :: _) _ _; refine wpList_store_freshK rfl 47 _ _ rfl (poolL w.heap.size) _ rfl (by simp) rfl rfl (pool_size _) (pool_one _) ?_)
    | (show wpList _ _ _ (⟨some 21, Op.build 56 _, _, _, _, _⟩ :: _) _ _; refine wpList_build2 rfl 56 _ _ _ _ rfl _ _ rfl rfl (build_stay56 _) ?_)
    | (show wpList _ _ _ (⟨some 22, Op.build 58 _, _, _, _, _⟩ :: _) _ _; refine wpList_build2 rfl 58 _ _ _ _ rfl _ _ rfl rfl (build_stay _) ?_)
    | (show wpList _ _ _ (⟨none, Op.store 58 (.tmp 2) _, _, _, _, _⟩ :: _) _ _; refine wpList_store_freshK rfl 58 _ _ rfl stayR.cells _ rfl (by simp) rfl rfl (rp_size _) (rp_one _) ?_)
    | (show wpList _ _ _ (⟨some 24, Op.build 56 _, _, _, _, _⟩ :: _) _ _; refine wpList_build4 rfl 56 _ _ _ _ _ _ _ _ rfl _ _ _ _ rfl rfl rfl rfl (build_early56 _) ?_)
    | (show wpList _ _ _ (⟨some 25, Op.build 58 _, _, _, _, _⟩ :: _) _ _; refine wpList_build2 rfl 58 _ _ _ _ rfl _ _ rfl rfl (build_early _) ?_)
    | (show wpList _ _ _ (⟨none, Op.store 58 (.tmp 3) _, _, _, _, _⟩ :: _) _ _; refine wpList_store_freshK rfl 58 _ _ rfl earlyR.cells _ rfl (by simp) rfl rfl (rp_size _) (rp_one _) ?_)
    | (show wpList _ _ _ (⟨some 27, Op.build 56 _, _, _, _, _⟩ :: _) _ _; refine wpList_build4 rfl 56 _ _ _ _ _ _ _ _ rfl _ _ _ _ rfl rfl rfl rfl (build_late56 _) ?_)
    | (show wpList _ _ _ (⟨some 28, Op.build 58 _, _, _, _, _⟩ :: _) _ _; refine wpList_build2 rfl 58 _ _ _ _ rfl _ _ rfl rfl (build_late _) ?_)
    | (show wpList _ _ _ (⟨none, Op.store 58 (.tmp 4) _, _, _, _, _⟩ :: _) _ _; refine wpList_store_freshK rfl 58 _ _ rfl lateR.cells _ rfl (by simp) rfl rfl (rp_size _) (rp_one _) ?_)
    | (show wpList _ _ _ (⟨some 30, Op.build 56 _, _, _, _, _⟩ :: _) _ _; refine wpList_build3 rfl 56 _ _ _ _ _ _ rfl _ _ _ rfl rfl rfl (build_tariff56 _) ?_)
    | (show wpList _ _ _ (⟨some 31, Op.build 58 _, _, _, _, _⟩ :: _) _ _; refine wpList_build2 rfl 58 _ _ _ _ rfl _ _ rfl rfl (build_tariff _) ?_)
    | (show wpList _ _ _ (⟨none, Op.store 58 (.tmp 5) _, _, _, _, _⟩ :: _) _ _; refine wpList_store_freshK rfl 58 _ _ rfl tariffR.cells _ rfl (by simp) rfl rfl (rp_size _) (rp_one _) ?_))
  simp only [Act.put]
  obtain ⟨wc, hwc⟩ : ∃ wc, wc = (((((w.alloc (Obj.cells cs38 t38)).alloc (Obj.cells (poolL w.heap.size).toArray 47)).alloc (Obj.cells stayR.cells.toArray 58)).alloc (Obj.cells earlyR.cells.toArray 58)).alloc (Obj.cells lateR.cells.toArray 58)).alloc (Obj.cells tariffR.cells.toArray 58) := ⟨_, rfl⟩
  have r1 : Row wc (w.heap.size + 1) 47 (poolL w.heap.size).toArray := by rw [hwc]; exact ((((Row.newAt (by simp) _ _).alloc _).alloc _).alloc _).alloc _
  have r2 : Row wc (w.heap.size + 1 + 1) 58 stayR.cells.toArray := by rw [hwc]; exact (((Row.newAt (by simp) _ _).alloc _).alloc _).alloc _
  have r3 : Row wc (w.heap.size + 1 + 1 + 1) 58 earlyR.cells.toArray := by rw [hwc]; exact ((Row.newAt (by simp) _ _).alloc _).alloc _
  have r4 : Row wc (w.heap.size + 1 + 1 + 1 + 1) 58 lateR.cells.toArray := by rw [hwc]; exact (Row.newAt (by simp) _ _).alloc _
  have r5 : Row wc (w.heap.size + 1 + 1 + 1 + 1 + 1) 58 tariffR.cells.toArray := by rw [hwc]; exact Row.newAt (by simp) _ _
  have hBw : Below w.heap.size w wc := by rw [hwc]; exact ((((((Below.refl _ _).alloc (Nat.le_refl _) _).alloc (by simp) _).alloc (by simp; omega) _).alloc (by simp; omega) _).alloc (by simp; omega) _).alloc (by simp; omega) _
  rw [← hwc]
  have H1 := Lib.hid (row_range r1)
  have H2 := Lib.hid (row_range r2)
  have H3 := Lib.hid (row_range r3)
  have H4 := Lib.hid (row_range r4)
  have H5 := Lib.hid (row_range r5)
  have HBw := Lib.hid hBw
  have HB := Lib.hid (Below.refl wc.heap.size wc)
  clear hwc r1 r2 r3 r4 r5 hBw hmk38
  go_cut [6, 7] (fun s6 s7 wx => ∃ A c, s6 = .slice A 2 c ∧ s7 = .bool false ∧ RdI wx wx.heap.size A [1, 3] ∧ Below wc.heap.size wc wx)
  case first =>
    go_wp2_with (first
        | (show wpList _ _ _ (⟨some 33, Op.load 47 _, _, _, _, _⟩ :: _) _ _; refine wpList_load_mid rfl 47 _ rfl _ _ rfl (poolL w.heap.size) _ (H1.out _ (by first | exact HB.out | exact HB.out.alloc HB.out.size _ | exact (HB.out.alloc HB.out.size _).alloc (Nat.le_trans HB.out.size (by simp)) _)) Try.underlying47 rfl (pool_size _) ?_)
        | (show wpList _ _ _ (⟨some 34, Op.load 58 _, _, _, _, _⟩ :: _) _ _; refine wpList_load_mid rfl 58 _ rfl _ _ rfl earlyR.cells _ (H3.out _ (by first | exact HB.out | exact HB.out.alloc HB.out.size _ | exact (HB.out.alloc HB.out.size _).alloc (Nat.le_trans HB.out.size (by simp)) _)) Try.underlying58 rfl (rp_size _) ?_)
        | (show wpList _ _ _ (⟨some 35, Op.buildSlice 48 1 _, _, _, _, _⟩ :: _) _ _; refine wpList_buildSlice1 rfl 48 1 _ _ rfl _ rfl (slice_one earlyR _) ?_)
        | (show wpList _ _ _ (⟨some 36, Op.load 58 _, _, _, _, _⟩ :: _) _ _; refine wpList_load_mid rfl 58 _ rfl _ _ rfl lateR.cells _ (H4.out _ (by first | exact HB.out | exact HB.out.alloc HB.out.size _ | exact (HB.out.alloc HB.out.size _).alloc (Nat.le_trans HB.out.size (by simp)) _)) Try.underlying58 rfl (rp_size _) ?_)
        | (show wpList _ _ _ (⟨some 37, Op.load 58 _, _, _, _, _⟩ :: _) _ _; refine wpList_load_mid rfl 58 _ rfl _ _ rfl stayR.cells _ (H2.out _ (by first | exact HB.out | exact HB.out.alloc HB.out.size _ | exact (HB.out.alloc HB.out.size _).alloc (Nat.le_trans HB.out.size (by simp)) _)) Try.underlying58 rfl (rp_size _) ?_)
        | (show wpList _ _ _ (⟨some 38, Op.buildSlice 48 2 _, _, _, _, _⟩ :: _) _ _; refine wpList_buildSlice2 rfl 48 2 _ _ _ _ rfl _ _ rfl rfl (slice_two lateR stayR _) ?_))
    have hc1 : RdR (((wc.alloc (Obj.cells earlyR.cells.toArray 58)).alloc (Obj.cells (lateR.cells ++ stayR.cells).toArray 58))) (((wc.alloc (Obj.cells earlyR.cells.toArray 58)).alloc (Obj.cells (lateR.cells ++ stayR.cells).toArray 58))).heap.size (some ⟨wc.heap.size, 0, none⟩) [earlyR] := rdr_more (rdr_one ex_early wc) ((Below.refl _ _).alloc (Nat.le_refl _) _)
    have hc2 : RdR (((wc.alloc (Obj.cells earlyR.cells.toArray 58)).alloc (Obj.cells (lateR.cells ++ stayR.cells).toArray 58))) (((wc.alloc (Obj.cells earlyR.cells.toArray 58)).alloc (Obj.cells (lateR.cells ++ stayR.cells).toArray 58))).heap.size (some ⟨wc.heap.size + 1, 0, none⟩) [lateR, stayR] := rdr_twoK ex_late ex_stay (wc.alloc (Obj.cells earlyR.cells.toArray 58)) _ (by simp)
    have hcall := wagons_any (poolL w.heap.size) (some ⟨w.heap.size, 0, none⟩) 4 4 [earlyR] [lateR, stayR] (some ⟨wc.heap.size, 0, none⟩) (some ⟨wc.heap.size + 1, 0, none⟩) 1 2 _ rfl hc1 hc2 (by show 3 * 8 ≤ _; omega)
    refine hcall.mono ?_
    rintro e w1 ⟨l, al, A1, c1, rfl, hb, hrd, hspec⟩
    obtain ⟨rfl, rfl⟩ := wag1 hspec
    have Hb := Lib.hid hb
    have Hrd := Lib.hid hrd
    clear hb hrd hspec hcall hc1 hc2
    go_wp2_with fail
    go_meet
    exact ⟨A1, c1, rfl, rfl, Hrd.out, ((Below.refl wc.heap.size wc).alloc (Nat.le_refl _) _ |>.alloc (by simp) _).trans (Hb.out.mono (by simp; omega))⟩
  case rest =>
    obtain ⟨A6, c6, rfl, rfl, hrd6, hb6⟩ := hcut
    have HB := Lib.hid (HB.out.trans (hb6.mono HB.out.size))
    have Hrd6 := Lib.hid hrd6
    clear hrd6 hb6
    go_upto_region 7 with fail
    (try simp only [Act.put])
    go_cut [8, 9] (fun s8 s9 wx => ∃ A c, s8 = .slice A 0 c ∧ s9 = .bool false ∧ Below wc.heap.size wc wx)
    case first =>
      go_wp2_with (first
          | (show wpList _ _ _ (⟨some 43, Op.load 47 _, _, _, _, _⟩ :: _) _ _; refine wpList_load_mid rfl 47 _ rfl _ _ rfl (poolL w.heap.size) _ (H1.out _ (by first | exact HB.out | exact HB.out.alloc HB.out.size _ | exact (HB.out.alloc HB.out.size _).alloc (Nat.le_trans HB.out.size (by simp)) _)) Try.underlying47 rfl (pool_size _) ?_)
          | (show wpList _ _ _ (⟨some 44, Op.load 58 _, _, _, _, _⟩ :: _) _ _; refine wpList_load_mid rfl 58 _ rfl _ _ rfl earlyR.cells _ (H3.out _ (by first | exact HB.out | exact HB.out.alloc HB.out.size _ | exact (HB.out.alloc HB.out.size _).alloc (Nat.le_trans HB.out.size (by simp)) _)) Try.underlying58 rfl (rp_size _) ?_)
          | (show wpList _ _ _ (⟨some 45, Op.load 58 _, _, _, _, _⟩ :: _) _ _; refine wpList_load_mid rfl 58 _ rfl _ _ rfl stayR.cells _ (H2.out _ (by first | exact HB.out | exact HB.out.alloc HB.out.size _ | exact (HB.out.alloc HB.out.size _).alloc (Nat.le_trans HB.out.size (by simp)) _)) Try.underlying58 rfl (rp_size _) ?_)
          | (show wpList _ _ _ (⟨some 46, Op.buildSlice 48 2 _, _, _, _, _⟩ :: _) _ _; refine wpList_buildSlice2 rfl 48 2 _ _ _ _ rfl _ _ rfl rfl (slice_two earlyR stayR _) ?_)
          | (show wpList _ _ _ (⟨some 47, Op.load 58 _, _, _, _, _⟩ :: _) _ _; refine wpList_load_mid rfl 58 _ rfl _ _ rfl stayR.cells _ (H2.out _ (by first | exact HB.out | exact HB.out.alloc HB.out.size _ | exact (HB.out.alloc HB.out.size _).alloc (Nat.le_trans HB.out.size (by simp)) _)) Try.underlying58 rfl (rp_size _) ?_)
          | (show wpList _ _ _ (⟨some 48, Op.load 58 _, _, _, _, _⟩ :: _) _ _; refine wpList_load_mid rfl 58 _ rfl _ _ rfl earlyR.cells _ (H3.out _ (by first | exact HB.out | exact HB.out.alloc HB.out.size _ | exact (HB.out.alloc HB.out.size _).alloc (Nat.le_trans HB.out.size (by simp)) _)) Try.underlying58 rfl (rp_size _) ?_)
          | (show wpList _ _ _ (⟨some 49, Op.buildSlice 48 2 _, _, _, _, _⟩ :: _) _ _; refine wpList_buildSlice2 rfl 48 2 _ _ _ _ rfl _ _ rfl rfl (slice_two stayR earlyR _) ?_))
      have hc1 : RdR (((wc.alloc (Obj.cells (earlyR.cells ++ stayR.cells).toArray 58)).alloc (Obj.cells (stayR.cells ++ earlyR.cells).toArray 58))) (((wc.alloc (Obj.cells (earlyR.cells ++ stayR.cells).toArray 58)).alloc (Obj.cells (stayR.cells ++ earlyR.cells).toArray 58))).heap.size (some ⟨wc.heap.size, 0, none⟩) [earlyR, stayR] := rdr_more (rdr_two ex_early ex_stay wc) ((Below.refl _ _).alloc (Nat.le_refl _) _)
      have hc2 : RdR (((wc.alloc (Obj.cells (earlyR.cells ++ stayR.cells).toArray 58)).alloc (Obj.cells (stayR.cells ++ earlyR.cells).toArray 58))) (((wc.alloc (Obj.cells (earlyR.cells ++ stayR.cells).toArray 58)).alloc (Obj.cells (stayR.cells ++ earlyR.cells).toArray 58))).heap.size (some ⟨wc.heap.size + 1, 0, none⟩) [stayR, earlyR] := rdr_twoK ex_stay ex_early (wc.alloc (Obj.cells (earlyR.cells ++ stayR.cells).toArray 58)) _ (by simp)
      have hcall := wagons_any (poolL w.heap.size) (some ⟨w.heap.size, 0, none⟩) 4 4 [earlyR, stayR] [stayR, earlyR] (some ⟨wc.heap.size, 0, none⟩) (some ⟨wc.heap.size + 1, 0, none⟩) 2 2 _ rfl hc1 hc2 (by show 4 * 8 ≤ _; omega)
      refine hcall.mono ?_
      rintro e w1 ⟨l, al, A1, c1, rfl, hb, hrd, hspec⟩
      obtain ⟨rfl, rfl⟩ := wag2 hspec
      have Hb := Lib.hid hb
      have Hrd := Lib.hid hrd
      clear hb hrd hspec hcall hc1 hc2
      go_wp2_with fail
      go_meet
      exact ⟨A1, c1, rfl, rfl, ((Below.refl wc.heap.size wc).alloc (Nat.le_refl _) _ |>.alloc (by simp) _).trans (Hb.out.mono (by simp; omega))⟩
    case rest =>
      obtain ⟨A7, c7, rfl, rfl, hb7⟩ := hcut
      have HB := Lib.hid (HB.out.trans (hb7.mono HB.out.size))
      have Hrd6 := Lib.hid ((Hrd6.out.below hb7).more hb7.size)
      clear hb7
      go_upto_region 8 with fail
      (try simp only [Act.put])
      go_cut [10, 11] (fun s8 s9 wx => ∃ A c, s8 = .slice A 0 c ∧ s9 = .bool true ∧ Below wc.heap.size wc wx)
      case first =>
        go_wp2_with (first
            | (show wpList _ _ _ (⟨some 54, Op.load 47 _, _, _, _, _⟩ :: _) _ _; refine wpList_load_mid rfl 47 _ rfl _ _ rfl (poolL w.heap.size) _ (H1.out _ (by first | exact HB.out | exact HB.out.alloc HB.out.size _ | exact (HB.out.alloc HB.out.size _).alloc (Nat.le_trans HB.out.size (by simp)) _)) Try.underlying47 rfl (pool_size _) ?_)
            | (show wpList _ _ _ (⟨some 55, Op.load 58 _, _, _, _, _⟩ :: _) _ _; refine wpList_load_mid rfl 58 _ rfl _ _ rfl tariffR.cells _ (H5.out _ (by first | exact HB.out | exact HB.out.alloc HB.out.size _ | exact (HB.out.alloc HB.out.size _).alloc (Nat.le_trans HB.out.size (by simp)) _)) Try.underlying58 rfl (rp_size _) ?_)
            | (show wpList _ _ _ (⟨some 56, Op.buildSlice 48 1 _, _, _, _, _⟩ :: _) _ _; refine wpList_buildSlice1 rfl 48 1 _ _ rfl _ rfl (slice_one tariffR _) ?_))
        have hc1 : RdR ((wc.alloc (Obj.cells tariffR.cells.toArray 58))) ((wc.alloc (Obj.cells tariffR.cells.toArray 58))).heap.size (none) [] := ⟨RdE.nil, by simp, by simp, by simp⟩
        have hc2 : RdR ((wc.alloc (Obj.cells tariffR.cells.toArray 58))) ((wc.alloc (Obj.cells tariffR.cells.toArray 58))).heap.size (some ⟨wc.heap.size, 0, none⟩) [tariffR] := rdr_one ex_tariff wc
        have hcall := wagons_any (poolL w.heap.size) (some ⟨w.heap.size, 0, none⟩) 4 4 [] [tariffR] (none) (some ⟨wc.heap.size, 0, none⟩) 0 1 _ rfl hc1 hc2 (by show 1 * 8 ≤ _; omega)
        refine hcall.mono ?_
        rintro e w1 ⟨l, al, A1, c1, rfl, hb, hrd, hspec⟩
        obtain ⟨rfl, rfl⟩ := wag3 hspec
        have Hb := Lib.hid hb
        have Hrd := Lib.hid hrd
        clear hb hrd hspec hcall hc1 hc2
        go_wp2_with fail
        go_meet
        exact ⟨A1, c1, rfl, rfl, ((Below.refl wc.heap.size wc).alloc (Nat.le_refl _) _).trans (Hb.out.mono (by simp))⟩
      case rest =>
        obtain ⟨A8, c8, rfl, rfl, hb8⟩ := hcut
        have HB := Lib.hid (HB.out.trans (hb8.mono HB.out.size))
        have Hrd6 := Lib.hid ((Hrd6.out.below hb8).more hb8.size)
        clear hb8
        go_upto_region 9 with fail
        (try simp only [Act.put])
        go_cut [12] (fun s8 wx => ∃ A c, s8 = .slice A 1 c ∧ RdD wx wx.heap.size A [dA] ∧ Below wc.heap.size wc wx)
        case first =>
          go_wp2_with fail
          refine (line_any 16 100 wc).mono ?_
          rintro e w1 ⟨rfl, hb1⟩
          have Hb1 := Lib.hid hb1
          clear hb1
          go_wp2_with (first
            | (show wpList _ _ _ (⟨some 61, Op.buildSlice 22 1 _, _, _, _, _⟩ :: _) _ _; refine wpList_buildSlice1 rfl 22 1 _ _ rfl _ rfl (slice_line 16 100 _) ?_)
            | fail)
          refine (line_any 16 130 _).mono ?_
          rintro e w2 ⟨rfl, hb2⟩
          have Hb2 := Lib.hid hb2
          clear hb2
          go_wp2_with (first
            | (show wpList _ _ _ (⟨some 63, Op.buildSlice 22 1 _, _, _, _, _⟩ :: _) _ _; refine wpList_buildSlice1 rfl 22 1 _ _ rfl _ rfl (slice_line 16 130 _) ?_)
            | fail)
          have hb3 : Below w1.heap.size (w1.alloc (.cells (lineL 16 100).cells.toArray 68)) w2 := Hb2.out.mono (by simp)
          have hr1 : Row (w2.alloc (.cells (lineL 16 130).cells.toArray 68)) w1.heap.size 68 (lineL 16 100).cells.toArray := ((Row.new w1 68 _).below Hb2.out (by simp)).alloc _
          have hr2 : Row (w2.alloc (.cells (lineL 16 130).cells.toArray 68)) w2.heap.size 68 (lineL 16 130).cells.toArray := Row.new _ _ _
          have hcall := diff_any [lineL 16 100] [lineL 16 130] (some ⟨w1.heap.size, 0, none⟩) (some ⟨w2.heap.size, 0, none⟩) 1 1 (w2.alloc (.cells (lineL 16 130).cells.toArray 68)) (rdl_one hr1) (rdl_one hr2) (okl_one (by decide)) (okl_one (by decide)) (by show 2 * 72 ≤ _; omega)
          refine hcall.mono ?_
          rintro e w3 ⟨l, A3, c3, rfl, hb4, hrd, hso, hmem⟩
          obtain rfl := diff1 hso hmem
          have Hb4 := Lib.hid (Hb1.out.trans ((((Below.refl w1.heap.size w1).alloc (Nat.le_refl _) _).trans (((hb3.alloc (by have := hb3.size; simp at this; omega) _).trans (hb4.mono (by have := hb3.size; simp at this; simp; omega))))).mono Hb1.out.size))
          have Hrd := Lib.hid hrd
          clear hb4 hrd hso hmem hcall hb3 hr1 hr2
          go_wp2_with fail
          go_meet
          exact ⟨A3, c3, rfl, Hrd.out, Hb4.out⟩
        case rest =>
          obtain ⟨A9, c9, rfl, hrd9, hb9⟩ := hcut
          have HB := Lib.hid (HB.out.trans (hb9.mono HB.out.size))
          have Hrd6 := Lib.hid ((Hrd6.out.below hb9).more hb9.size)
          have Hrd9 := Lib.hid hrd9
          clear hb9 hrd9
          go_upto_region 10 with fail
          (try simp only [Act.put])
          go_cut [13] (fun s8 wx => ∃ A c, s8 = .slice A 2 c ∧ RdD wx wx.heap.size A [dB, dC] ∧ Below wc.heap.size wc wx)
          case first =>
            go_wp2_with fail
            refine (line_any 16 100 wc).mono ?_
            rintro e w1 ⟨rfl, hb1⟩
            have Hb1 := Lib.hid hb1
            clear hb1
            go_wp2_with (first
              | (show wpList _ _ _ (⟨some 66, Op.buildSlice 22 1 _, _, _, _, _⟩ :: _) _ _; refine wpList_buildSlice1 rfl 22 1 _ _ rfl _ rfl (slice_line 16 100 _) ?_)
              | fail)
            refine (line_any 17 100 _).mono ?_
            rintro e w2 ⟨rfl, hb2⟩
            have Hb2 := Lib.hid hb2
            clear hb2
            go_wp2_with (first
              | (show wpList _ _ _ (⟨some 68, Op.buildSlice 22 1 _, _, _, _, _⟩ :: _) _ _; refine wpList_buildSlice1 rfl 22 1 _ _ rfl _ rfl (slice_line 17 100 _) ?_)
              | fail)
            have hb3 : Below w1.heap.size (w1.alloc (.cells (lineL 16 100).cells.toArray 68)) w2 := Hb2.out.mono (by simp)
            have hr1 : Row (w2.alloc (.cells (lineL 17 100).cells.toArray 68)) w1.heap.size 68 (lineL 16 100).cells.toArray := ((Row.new w1 68 _).below Hb2.out (by simp)).alloc _
            have hr2 : Row (w2.alloc (.cells (lineL 17 100).cells.toArray 68)) w2.heap.size 68 (lineL 17 100).cells.toArray := Row.new _ _ _
            have hcall := diff_any [lineL 16 100] [lineL 17 100] (some ⟨w1.heap.size, 0, none⟩) (some ⟨w2.heap.size, 0, none⟩) 1 1 (w2.alloc (.cells (lineL 17 100).cells.toArray 68)) (rdl_one hr1) (rdl_one hr2) (okl_one (by decide)) (okl_one (by decide)) (by show 2 * 72 ≤ _; omega)
            refine hcall.mono ?_
            rintro e w3 ⟨l, A3, c3, rfl, hb4, hrd, hso, hmem⟩
            obtain rfl := diff2 hso hmem
            have Hb4 := Lib.hid (Hb1.out.trans ((((Below.refl w1.heap.size w1).alloc (Nat.le_refl _) _).trans (((hb3.alloc (by have := hb3.size; simp at this; omega) _).trans (hb4.mono (by have := hb3.size; simp at this; simp; omega))))).mono Hb1.out.size))
            have Hrd := Lib.hid hrd
            clear hb4 hrd hso hmem hcall hb3 hr1 hr2
            go_wp2_with fail
            go_meet
            exact ⟨A3, c3, rfl, Hrd.out, Hb4.out⟩
          case rest =>
            obtain ⟨A10, c10, rfl, hrd10, hb10⟩ := hcut
            have HB := Lib.hid (HB.out.trans (hb10.mono HB.out.size))
            have Hrd6 := Lib.hid ((Hrd6.out.below hb10).more hb10.size)
            have Hrd9 := Lib.hid ((Hrd9.out.below hb10).more hb10.size)
            have Hrd10 := Lib.hid hrd10
            clear hb10 hrd10
            go_upto_region 11 with fail
            (try simp only [Act.put])
            go_cut [14, 15] (fun s8 s9 wx => ∃ A c, s8 = .slice A 336 c ∧ s9 = .int .i64 0 ∧ RdI wx wx.heap.size A outA ∧ Below wc.heap.size wc wx)
            case first =>
              have hmk := make23
              go_wp2_with fail
              clear hmk
              have hrz : RdI (wc.alloc (.cells (Array.replicate 336 (Value.int .i64 0)) 3)) (wc.alloc (.cells (Array.replicate 336 (Value.int .i64 0)) 3)).heap.size (some ⟨wc.heap.size, 0, none⟩) zeros := by
                rw [zeros_cells]
                exact row_reads (Row.new wc 3 (ints zeros))
              have hbz : Below wc.heap.size wc (wc.alloc (.cells (Array.replicate 336 (Value.int .i64 0)) 3)) := (Below.refl _ _).alloc (Nat.le_refl _) _
              have hcall := apply_any (some ⟨wc.heap.size, 0, none⟩) A9 zeros [dA] 336 c9 _ hrz ((Hrd9.out.below hbz).more hbz.size) (by rw [zeros_len]; decide) (by show 1 * 72 ≤ _; omega)
              rw [zeros_len] at hcall
              refine hcall.mono ?_
              rintro e w1 ⟨A1, c1, rfl, hb1, hrd1⟩
              rw [apply1] at hrd1 ⊢
              simp only [outA_len] at hrd1 ⊢
              have Hrd := Lib.hid hrd1
              have Hb1 := Lib.hid (hbz.trans (hb1.mono hbz.size))
              clear hrz hbz hcall hb1 hrd1
              go_wp2_with fail
              go_meet
              exact ⟨A1, c1, rfl, rfl, Hrd.out, Hb1.out⟩
            case rest =>
              obtain ⟨A11, c11, rfl, rfl, hrd11, hb11⟩ := hcut
              have HB := Lib.hid (HB.out.trans (hb11.mono HB.out.size))
              have Hrd6 := Lib.hid ((Hrd6.out.below hb11).more hb11.size)
              have Hrd9 := Lib.hid ((Hrd9.out.below hb11).more hb11.size)
              have Hrd10 := Lib.hid ((Hrd10.out.below hb11).more hb11.size)
              have Hrd11 := Lib.hid hrd11
              clear hb11 hrd11
              go_wp2_with fail
              refine (line_any 0 0 _).mono ?_
              rintro e w1 ⟨rfl, hb1⟩
              have HB := Lib.hid (HB.out.trans (hb1.mono HB.out.size))
              have Hrd6 := Lib.hid ((Hrd6.out.below hb1).more hb1.size)
              have Hrd9 := Lib.hid ((Hrd9.out.below hb1).more hb1.size)
              have Hrd10 := Lib.hid ((Hrd10.out.below hb1).more hb1.size)
              have Hrd11 := Lib.hid ((Hrd11.out.below hb1).more hb1.size)
              clear hb1
              go_wp2_with (first
                | (show wpList _ _ _ (⟨some 77, Op.field 68 _ _, _, _, _, _⟩ :: _) _ _; refine wpList_field rfl 68 _ _ rfl _ rfl (field_line _) ?_)
                | fail)
              obtain ⟨W2, hW2⟩ : ∃ W2, W2 = (w1.alloc (Obj.cells #[Value.int IntKind.i64 1, Value.int IntKind.i64 0, Value.int IntKind.i64 0, Value.int IntKind.i64 1, Value.int IntKind.i64 0] 62)).alloc (Obj.cells #[Value.int IntKind.i64 1, Value.int IntKind.i64 3] 3) := ⟨_, rfl⟩
              have hrk : Row W2 w1.heap.size 62 #[Value.int IntKind.i64 1, Value.int IntKind.i64 0, Value.int IntKind.i64 0, Value.int IntKind.i64 1, Value.int IntKind.i64 0] := by rw [hW2]; exact (Row.new _ _ _).alloc _
              have hri : RdI W2 W2.heap.size (some ⟨w1.heap.size + 1, 0, none⟩) [1, 3] := by rw [hW2]; exact row_reads (l := [1, 3]) (Row.new1 _ _ _ _)
              have hb2 : Below w1.heap.size w1 W2 := by rw [hW2]; exact ((Below.refl _ _).alloc (Nat.le_refl _) _).alloc (by simp) _
              rw [← hW2]
              have hcall := sameInts_any A6 (some ⟨w1.heap.size + 1, 0, none⟩) [1, 3] [1, 3] c6 2 W2 ((Hrd6.out.below hb2).more hb2.size) hri (by decide)
              refine hcall.mono ?_
              rintro e w3 ⟨rfl, hb3⟩
              rw [show decide (([1, 3] : List Int) = [1, 3]) = true from by decide]
              have Hb13 := Lib.hid (hb2.trans (hb3.mono hb2.size))
              obtain ⟨KB, hKB⟩ : ∃ KB, KB = w1.heap.size := ⟨_, rfl⟩
              have hrk3 : Row w3 KB 62 #[Value.int IntKind.i64 1, Value.int IntKind.i64 0, Value.int IntKind.i64 0, Value.int IntKind.i64 1, Value.int IntKind.i64 0] := by rw [hKB]; exact hrk.below hb3 hrk.lt
              have k0 : w3.cell? ⟨KB, 0, none⟩ = some (.int .i64 1) := hrk3.cell 0
              have k1 : w3.cell? ⟨KB, 1, none⟩ = some (.int .i64 0) := hrk3.cell 1
              have k2 : w3.cell? ⟨KB, 2, none⟩ = some (.int .i64 0) := hrk3.cell 2
              have k3 : w3.cell? ⟨KB, 3, none⟩ = some (.int .i64 1) := hrk3.cell 3
              have k4 : w3.cell? ⟨KB, 4, none⟩ = some (.int .i64 0) := hrk3.cell 4
              rw [← hKB]
              have Hrk3 := Lib.hid hrk3
              clear hW2 hrk hri hb2 hcall hb3 hKB hrk3
              go_wp2_with fail
              have hrd3 : RdD (w3.alloc (.cells (Dl.cells dA).toArray 70)) (w3.alloc (.cells (Dl.cells dA).toArray 70)).heap.size (some ⟨w3.heap.size, 0, none⟩) [dA] := RdE.of_row Dl.cells_len (by simp) (Row.new w3 70 _) (fun j v hv => by simpa [flat] using hv)
              have hb34 : Below w3.heap.size w3 (w3.alloc (.cells (Dl.cells dA).toArray 70)) := (Below.refl _ _).alloc (Nat.le_refl _) _
              have hcall := same_any A9 (some ⟨w3.heap.size, 0, none⟩) [dA] [dA] c9 1 _ ((Hrd9.out.below (Hb13.out.trans (hb34.mono Hb13.out.size))).more (Hb13.out.trans (hb34.mono Hb13.out.size)).size) hrd3 (by decide)
              refine hcall.mono ?_
              rintro e w4 ⟨rfl, hb4⟩
              rw [show decide ([dA] = [dA]) = true from decide_eq_true rfl]
              have Hb14 := Lib.hid (Hb13.out.trans (((hb34.trans (hb4.mono hb34.size))).mono Hb13.out.size))
              have hrk4 := (Hrk3.out.below hb34 Hrk3.out.lt).below hb4 (Nat.lt_of_lt_of_le Hrk3.out.lt hb34.size)
              clear k0 k1 k2 k3 k4
              have k0 : w4.cell? ⟨KB, 0, none⟩ = some (.int .i64 1) := hrk4.cell 0
              have k1 : w4.cell? ⟨KB, 1, none⟩ = some (.int .i64 0) := hrk4.cell 1
              have k2 : w4.cell? ⟨KB, 2, none⟩ = some (.int .i64 0) := hrk4.cell 2
              have k3 : w4.cell? ⟨KB, 3, none⟩ = some (.int .i64 1) := hrk4.cell 3
              have k4 : w4.cell? ⟨KB, 4, none⟩ = some (.int .i64 0) := hrk4.cell 4
              clear hrd3 hb34 hcall hb4 hrk4
              go_wp2_with fail
              have hrd5 : RdD (w4.alloc (.cells (Dl.cells dB ++ Dl.cells dC).toArray 70)) (w4.alloc (.cells (Dl.cells dB ++ Dl.cells dC).toArray 70)).heap.size (some ⟨w4.heap.size, 0, none⟩) [dB, dC] := RdE.of_row Dl.cells_len (by simp) (Row.new w4 70 _) (fun j v hv => by simpa [flat] using hv)
              have hb45 : Below w4.heap.size w4 (w4.alloc (.cells (Dl.cells dB ++ Dl.cells dC).toArray 70)) := (Below.refl _ _).alloc (Nat.le_refl _) _
              have hcall := same_any A10 (some ⟨w4.heap.size, 0, none⟩) [dB, dC] [dB, dC] c10 2 _ ((Hrd10.out.below (Hb14.out.trans (hb45.mono Hb14.out.size))).more (Hb14.out.trans (hb45.mono Hb14.out.size)).size) hrd5 (by decide)
              refine hcall.mono ?_
              rintro e w5 ⟨rfl, hb5⟩
              rw [show decide ([dB, dC] = [dB, dC]) = true from decide_eq_true rfl]
              have hb15 := Hb14.out.trans (((hb45.trans (hb5.mono hb45.size))).mono Hb14.out.size)
              have hrd15 := Hrd11.out.below hb15
              obtain ⟨b0, o0, e0, _, n0⟩ := hrd15 0 30 (outA_at (by omega))
              obtain ⟨b1, o1, e1, _, n1⟩ := hrd15 1 0 (outA_at (by omega))
              obtain ⟨b2, o2, e2, _, n2⟩ := hrd15 16 (-30) (outA_at (by omega))
              subst e0
              injection e1 with e1
              injection e1 with e1 e3
              injection e2 with e2
              injection e2 with e2 e4
              subst e1 e3 e2 e4
              rw [Nat.add_zero] at n0
              have HBf := Lib.hid (HBw.out.trans ((HB.out.trans (hb15.mono HB.out.size)).mono HBw.out.size))
              clear hrd5 hb45 hcall hb5 hb15 hrd15 k0 k1 k2 k3 k4
              go_wp2
              go_ret
              exact ⟨rfl, HBf.out⟩

end Go.Proofs.Ytoiipfcmkogcfaa
