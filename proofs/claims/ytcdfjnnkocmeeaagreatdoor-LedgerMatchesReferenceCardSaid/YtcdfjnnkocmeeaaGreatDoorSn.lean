/-
  The law's helper sane returns true.
  Conditions: as each theorem states them.
-/
import Derived.Test.YtcdfjnnkocmeeaaGreatDoorSx
import Derived.Deep.RegionHeld3
namespace Go.Proofs.YtcdfjnnkocmeeaaGreatDoor
open Go.RowKit Go.Lib

theorem build42b : ∀ (l : List Int) (w : World), l.length = 32 → (Instr.build 42 #[(1, .agg (y8 l).toArray)]).run Tryz.prog w = .ok (.agg (rootOf l).toArray) w
  | [a0, a1, a2, a3, a4, a5, a6, a7, a8, a9, a10, a11, a12, a13, a14, a15, a16, a17, a18, a19, a20, a21, a22, a23, a24, a25, a26, a27, a28, a29, a30, a31], w, _ => by kernel_rfl

set_option maxRecDepth 100000 in
set_option maxHeartbeats 4000000 in
theorem sane_any (w : World) (hk : KT w) (hc : CB w) : Calls Tryz.prog 8 #[] w fun e w' => e = .returned (.bool true) ∧ Below w.heap.size w w' := by
  have hline : ∀ w, KT w → CB w → Calls Tryz.prog 19 #[.slice none 0 0, .agg ch0.toArray] w fun e w' => e = .returned (.tuple #[.agg (ln0 rootL).toArray, .int .i64 0]) ∧ Below w.heap.size w w' := fun w h1 h2 => line_nil w h1 h2
  have hpad : ∀ w, KT w → Calls Tryz.prog 20 #[] w fun e w' => e = .returned (.agg (y8 padD).toArray) ∧ Below w.heap.size w w' := fun w h => pad_any w h
  have hroot : rootL = rootOf padD := rfl
  obtain ⟨pd, hpd, hpl⟩ : ∃ pd, padD = pd ∧ pd.length = 32 := ⟨_, rfl, padD_len⟩
  rw [hpd] at hpad hroot
  rw [hroot] at hline
  clear hroot
  have Hk := Lib.hid hk
  have Hc := Lib.hid hc
  have Hline := Lib.hid hline
  have Hpad := Lib.hid hpad
  have htp : (lnS pd).tp := lnS_tp hpl (by rw [← hpd]; exact shaF_wf _)
  have Htp := Lib.hid htp
  have Hpd := Lib.hid hpd
  have Hpl := Lib.hid hpl
  have Hln : Hid ((ln0 (rootOf pd)).length = 44) := Lib.hid (by rw [ln0, List.length_append, rootOf_len hpl]; rfl)
  have Hlo : Hid (∀ v ∈ ln0 (rootOf pd), v.oneCell' = true) := Lib.hid (by
    intro v hv
    rcases List.mem_append.1 hv with h | h
    · have h1 : lnH.all (·.oneCell') = true := by kernel_rfl
      exact List.all_eq_true.1 h1 v h
    · exact (Array.all_eq_true_iff_forall_mem.1 (rootOf_one pd)) v (by simpa using h))
  have Hsz : Hid ((Tryz.prog.info? 44).map (·.size) = some (ln0 (rootOf pd)).length) := Lib.hid (by rw [Hln.out]; kernel_rfl)
  clear hk hc hline hpad hpd hpl htp
  go_enter Tryz.func8, Tryz.ntmps8
  go_wp2_with fail
  refine (Hline.out w Hk.out Hc.out).mono ?_
  rintro e w1 ⟨rfl, hb⟩
  have Hb := Lib.hid hb
  clear hb
  go_wp2_with (show wpList _ _ _ (⟨none, Op.store 44 _ _, _, _, _, _⟩ :: _) _ _; refine wpList_store_fresh rfl 44 _ _ rfl (ln0 (rootOf pd)) rfl rfl (by simp [Hln.out]) Hsz.out Hlo.out ?_)
  obtain ⟨g, hg⟩ : ∃ g, g = w1.heap.size := ⟨_, rfl⟩
  have hr0 : Row (w1.alloc (.cells (ln0 (rootOf pd)).toArray 44)) g 44 (ln0 (rootOf pd)).toArray := by rw [hg]; exact Row.new _ _ _
  have hb0 : Below w.heap.size w (w1.alloc (.cells (ln0 (rootOf pd)).toArray 44)) := Hb.out.alloc Hb.out.size _
  obtain ⟨C, hC⟩ : ∃ C : World → Prop, C = fun U => Row U g 44 (ln0 (rootOf pd)).toArray ∧ Below w.heap.size w U := ⟨_, rfl⟩
  have HC0 : Hid (∀ n, C ((w1.alloc (.cells (ln0 (rootOf pd)).toArray 44)).drewN n)) := Lib.hid (by rw [hC]; exact fun n => ⟨hr0, Below.drewsN hb0 n⟩)
  have HCr : Hid (∀ U, C U → U.rangeAt g 0 (ln0 (rootOf pd))) := Lib.hid (by rw [hC]; exact fun U h => row_range h.1)
  have HCp : Hid (∀ U, C U → Calls Tryz.prog 20 #[] U fun e U' => e = .returned (.agg (y8 pd).toArray) ∧ C U') := Lib.hid (by
    rw [hC]
    intro U h
    refine (Hpad.out U (Hk.out.below h.2 (Nat.le_refl _))).mono ?_
    rintro e U' ⟨rfl, hb'⟩
    exact ⟨rfl, h.1.below hb' h.1.lt, below_on h.2 hb' h.2.size⟩)
  have HCb : Hid (∀ U, C U → Below w.heap.size w U) := Lib.hid (by rw [hC]; exact fun U h => h.2)
  have heq : ∀ U : World, (Op.equalIn 10000 44 (.agg (ln0 (rootOf pd)).toArray) (.agg (ln0 (rootOf pd)).toArray)).run Tryz.prog U = .ok true U := fun U => eq44_refl Htp.out U
  have Hb42 : Hid (∀ U, (Instr.build 42 #[(1, .agg (y8 pd).toArray)]).run Tryz.prog U = .ok (.agg (rootOf pd).toArray) U) := Lib.hid (fun U => build42b pd U Hpl.out)
  have Hb44 : Hid (∀ U, (Instr.build 44 #[(0, .agg key0.toArray), (1, .int .i64 1), (2, .int .i64 2), (3, .int .i64 1), (6, .int .i64 220), (7, .agg (rootOf pd).toArray)]).run Tryz.prog U = .ok (.agg (ln0 (rootOf pd)).toArray) U) := Lib.hid (fun U => build44 (rootOf pd) U (rootOf_len Hpl.out))
  rw [← hg]
  refine wp_region_quietC C (by kernel_rfl) (by kernel_rfl) (HC0.out 1) ?_
  clear hC hr0 hb0 hg
  iterate 3 (refine wpQuiet_step (fun K hK => ?_); go_simp; apply Exists.intro; refine ⟨fun _ _ => rfl, hK _ ?_⟩; clear hK K)
  refine wpQuiet_valK (by go_simp) (.agg (ln0 (rootOf pd)).toArray) (fun U hU => run_load_mid (op := ⟨some 21, _, _, _, _, _⟩) 44 _ rfl g 0 (by go_simp) _ _ (HCr.out U hU) Tryz.underlying44 rfl Hsz.out) ?_
  intro K hK
  go_simp
  refine hK _ ?_
  clear hK K
  refine wpQuiet_step (fun K hK => ?_)
  go_simp
  apply Exists.intro
  refine ⟨fun _ _ => rfl, hK _ ?_⟩
  clear hK K
  refine wpQuiet_callK (op := ⟨some 23, _, _, _, _, _⟩) (by go_simp) 20 #[] (.agg (y8 pd).toArray) (fun U hU => by go_simp) HCp.out ?_
  intro K hK
  go_simp
  refine hK _ ?_
  clear hK K
  refine wpQuiet_valK (by go_simp) (.agg (rootOf pd).toArray) (fun U hU => run_build_op (op := ⟨some 24, _, _, _, _, _⟩) 42 _ rfl #[(1, .agg (y8 pd).toArray)] (by go_simp) (Hb42.out U)) ?_
  intro K hK
  go_simp
  refine hK _ ?_
  clear hK K
  refine wpQuiet_valK (by go_simp) (.agg (ln0 (rootOf pd)).toArray) (fun U hU => run_build_op (op := ⟨some 25, _, _, _, _, _⟩) 44 _ rfl #[(0, .agg key0.toArray), (1, .int .i64 1), (2, .int .i64 2), (3, .int .i64 1), (6, .int .i64 220), (7, .agg (rootOf pd).toArray)] (by go_simp; rfl) (Hb44.out U)) ?_
  intro K hK
  go_simp
  refine hK _ ?_
  clear hK K
  iterate 2 (refine wpQuiet_step (fun K hK => ?_); go_simp; apply Exists.intro; refine ⟨fun _ _ => rfl, hK _ ?_⟩; clear hK K)
  refine wpQuiet_nil ?_
  intro w2 hU
  have HB := Lib.hid (HCb.out w2 hU)
  clear hU HC0 HCr HCp HCb heq Hb42 Hb44 Hline Hpad Hk Hc Htp Hpd Hpl Hln Hlo Hsz Hb
  generalize ln0 (rootOf pd) = lnX
  go_wp2_with fail
  refine (line_any 0 0 16 5 _).mono ?_
  rintro e w3 ⟨rfl, hb1⟩
  have HB := Lib.hid (below_onF HB.out hb1 HB.out.size)
  clear hb1
  go_wp2_with fail
  refine (line_any 1 16 1 2 _).mono ?_
  rintro e w4 ⟨rfl, hb1⟩
  have HB := Lib.hid (below_onF HB.out hb1 HB.out.size)
  clear hb1
  go_wp2_with fail
  refine (line_any 0 1 0 4 _).mono ?_
  rintro e w5 ⟨rfl, hb1⟩
  have HB := Lib.hid (below_onF HB.out hb1 HB.out.size)
  clear hb1
  go_wp2_with (first
    | (show wpList _ _ _ (⟨some 31, Op.buildSlice 22 3 _, _, _, _, _⟩ :: _) _ _; refine wpList_buildSlice3 rfl 22 3 _ _ _ _ _ _ rfl _ _ _ rfl rfl rfl (slice_sx1 _) ?_)
    | fail)
  have hr1 : RdE Ln.cells 44 (w5.alloc (.cells (flat Ln.cells sx1).toArray 44)) (w5.alloc (.cells (flat Ln.cells sx1).toArray 44)).heap.size (some ⟨w5.heap.size, 0, none⟩) sx1 := rde_new sx1_ok w5
  have hb6 : Below w.heap.size w (w5.alloc (.cells (flat Ln.cells sx1).toArray 44)) := HB.out.alloc HB.out.size _
  obtain ⟨A1, hA1⟩ : ∃ A1 : Option Addr, A1 = some ⟨w5.heap.size, 0, none⟩ := ⟨_, rfl⟩
  rw [← hA1] at hr1 ⊢
  refine (?_ : ∀ w6 : World, RdE Ln.cells 44 w6 w6.heap.size A1 sx1 ∧ Below w.heap.size w w6 → Calls _ _ _ w6 _) _ ⟨hr1, hb6⟩
  clear hr1 hb6 hA1
  rintro w6 ⟨hr1, hb6⟩
  have HB := Lib.hid hb6
  have HR1 := Lib.hid hr1
  clear hr1 hb6
  refine (line_any 0 0 16 5 _).mono ?_
  rintro e w7 ⟨rfl, hb1⟩
  have HB := Lib.hid (below_onF HB.out hb1 HB.out.size)
  have HR1 := Lib.hid ((HR1.out.below hb1).more hb1.size)
  clear hb1
  go_wp2_with fail
  refine (line_any 0 16 0 2 _).mono ?_
  rintro e w8 ⟨rfl, hb1⟩
  have HB := Lib.hid (below_onF HB.out hb1 HB.out.size)
  have HR1 := Lib.hid ((HR1.out.below hb1).more hb1.size)
  clear hb1
  go_wp2_with (first
    | (show wpList _ _ _ (⟨some 35, Op.buildSlice 22 2 _, _, _, _, _⟩ :: _) _ _; refine wpList_buildSlice2 rfl 22 2 _ _ _ _ rfl _ _ rfl rfl (slice_sx2 _) ?_)
    | fail)
  have hr2 : RdE Ln.cells 44 (w8.alloc (.cells (flat Ln.cells sx2).toArray 44)) (w8.alloc (.cells (flat Ln.cells sx2).toArray 44)).heap.size (some ⟨w8.heap.size, 0, none⟩) sx2 := rde_new sx2_ok w8
  have hb9 : Below w8.heap.size w8 (w8.alloc (.cells (flat Ln.cells sx2).toArray 44)) := (Below.refl _ _).alloc (Nat.le_refl _) _
  have hcall := balances_any sx2 (some ⟨w8.heap.size, 0, none⟩) 2 (w8.alloc (.cells (flat Ln.cells sx2).toArray 44)) hr2 sx2_ok (by decide)
  refine hcall.mono ?_
  clear hcall hr2
  rintro e w9 ⟨A2, c2, rfl, hb10, hr2⟩
  rw [sx2_bal] at hr2 ⊢
  rw [show (balL (-3) 0 3, (0 : Int)).1.length = 336 from balL_len _ _ _]
  have hb11 := below_onF hb9 hb10 hb9.size
  have HB := Lib.hid (below_onF HB.out hb11 HB.out.size)
  have HR1 := Lib.hid ((HR1.out.below hb11).more hb11.size)
  have HA := Lib.hid (show RdI w9 w9.heap.size A2 (balL (-3) 0 3) from hr2)
  clear hr2 hb9 hb10 hb11
  go_wp2_with fail
  have hcall := balances_any [] none 0 w9 RdE.nil (fun x hx => by simp at hx) (by decide)
  refine hcall.mono ?_
  clear hcall
  rintro e w10 ⟨A3, c3, rfl, hb1, hr3⟩
  rw [sx0_bal] at hr3 ⊢
  rw [show (balL 0 0 0, (0 : Int)).1.length = 336 from balL_len _ _ _]
  have HB := Lib.hid (below_onF HB.out hb1 HB.out.size)
  have HR1 := Lib.hid ((HR1.out.below hb1).more hb1.size)
  have HA := Lib.hid ((HA.out.below hb1).more hb1.size)
  have HA3 := Lib.hid (show RdI w10 w10.heap.size A3 (balL 0 0 0) from hr3)
  clear hb1 hr3
  go_wp2_with fail
  have hcall := monthly_any sx1 A1 3 0 w10 HR1.out sx1_ok (by decide)
  refine hcall.mono ?_
  clear hcall
  rintro e w11 ⟨A4, c4, rfl, hb1, hr4⟩
  rw [sx1_bal] at hr4 ⊢
  rw [show (balL (-1) (-4) 5, (0 : Int)).1.length = 336 from balL_len _ _ _]
  have HB := Lib.hid (below_onF HB.out hb1 HB.out.size)
  have HR1 := Lib.hid ((HR1.out.below hb1).more hb1.size)
  have HA := Lib.hid ((HA.out.below hb1).more hb1.size)
  have HA3 := Lib.hid ((HA3.out.below hb1).more hb1.size)
  have HA4 := Lib.hid (show RdI w11 w11.heap.size A4 (balL (-1) (-4) 5) from hr4)
  clear hb1 hr4
  go_wp2_with fail
  refine (line_any 0 0 336 5 _).mono ?_
  rintro e w12 ⟨rfl, hb1⟩
  have HB := Lib.hid (below_onF HB.out hb1 HB.out.size)
  have HR1 := Lib.hid ((HR1.out.below hb1).more hb1.size)
  have HA := Lib.hid ((HA.out.below hb1).more hb1.size)
  have HA3 := Lib.hid ((HA3.out.below hb1).more hb1.size)
  have HA4 := Lib.hid ((HA4.out.below hb1).more hb1.size)
  clear hb1
  go_wp2_with (first
    | (show wpList _ _ _ (⟨some 50, Op.buildSlice 22 1 _, _, _, _, _⟩ :: _) _ _; refine wpList_buildSlice1 rfl 22 1 _ _ rfl _ rfl (slice_sx3 _) ?_)
    | fail)
  have hr2 : RdE Ln.cells 44 (w12.alloc (.cells (flat Ln.cells sx3).toArray 44)) (w12.alloc (.cells (flat Ln.cells sx3).toArray 44)).heap.size (some ⟨w12.heap.size, 0, none⟩) sx3 := rde_new sx3_ok w12
  have hb9 : Below w12.heap.size w12 (w12.alloc (.cells (flat Ln.cells sx3).toArray 44)) := (Below.refl _ _).alloc (Nat.le_refl _) _
  have hcall := balances_any sx3 (some ⟨w12.heap.size, 0, none⟩) 1 (w12.alloc (.cells (flat Ln.cells sx3).toArray 44)) hr2 sx3_ok (by decide)
  refine hcall.mono ?_
  clear hcall hr2
  rintro e w13 ⟨A5, c5, rfl, hb10, -⟩
  rw [sx3_bal]
  rw [show (([] : List Int), (310 : Int)).1.length = 0 from rfl, show (([] : List Int), (310 : Int)).2 = 310 from rfl]
  have hb1 := below_onF hb9 hb10 hb9.size
  have HB := Lib.hid (below_onF HB.out hb1 HB.out.size)
  have HR1 := Lib.hid ((HR1.out.below hb1).more hb1.size)
  have HA := Lib.hid ((HA.out.below hb1).more hb1.size)
  have HA3 := Lib.hid ((HA3.out.below hb1).more hb1.size)
  have HA4 := Lib.hid ((HA4.out.below hb1).more hb1.size)
  clear hb1 hb9 hb10
  go_upto_region 9 with fail
  have hA : RdI w13.drew w13.drew.heap.size A2 (balL (-3) 0 3) := HA.out
  have hA3 : RdI w13.drew w13.drew.heap.size A3 (balL 0 0 0) := HA3.out
  have hA4 : RdI w13.drew w13.drew.heap.size A4 (balL (-1) (-4) 5) := HA4.out
  have hR1 : RdE Ln.cells 44 w13.drew w13.drew.heap.size A1 sx1 := HR1.out
  have hB : Below w.heap.size w w13.drew := HB.out.drew
  have HA := Lib.hid hA
  have HA3 := Lib.hid hA3
  have HA4 := Lib.hid hA4
  have HR1 := Lib.hid hR1
  have HB := Lib.hid hB
  clear hA hA3 hA4 hR1 hB
  go_region_held3 (fun _ => True) (first | exact trivial | trivial)
    (first
      | (go_at_call_of 22 A2
         refine (bal22_any A2 (-3) 0 3 c2 _ HA.out).mono ?_
         rintro e U ⟨rfl, rfl⟩)
      | (go_at_call_of 22 A3
         refine (bal22_any A3 0 0 0 c3 _ HA3.out).mono ?_
         rintro e U ⟨rfl, rfl⟩)
      | (go_at_call_of 22 A4
         refine (bal22_any A4 (-1) (-4) 5 c4 _ HA4.out).mono ?_
         rintro e U ⟨rfl, rfl⟩)
      | (go_at_call 15
         refine (bill_any sx1 A1 3 16 0 _ HR1.out sx1_ok (by decide)).mono ?_
         rintro e U hf
         obtain ⟨A6, c6, rfl, hr6, hb6⟩ := hf.reads (filter_ok sx1_ok)
         rw [sx1_bill] at hr6 ⊢
         have HR6 := Lib.hid hr6
         have HR7 := Lib.hid ((HR1.out.below hb6).more hb6.size)
         have HB6 := Lib.hid (below_onF HB.out hb6 HB.out.size)
         clear hf hr6 hb6)
      | (go_at_call 14
         refine (show Calls Tryz.prog 14 #[.slice A6 sx4.length c6, .slice A1 1 3] U _ from same14_any A6 A1 sx4 c6 3 U HR6.out (RdE.take HR7.out 1) sx4_ok sx4_tp (by decide)).mono ?_
         rintro e U2 ⟨rfl, n, rfl⟩))
  go_wp2
  go_ret
  exact ⟨rfl, Below.drewsN HB6.out _⟩
end Go.Proofs.YtcdfjnnkocmeeaaGreatDoor
