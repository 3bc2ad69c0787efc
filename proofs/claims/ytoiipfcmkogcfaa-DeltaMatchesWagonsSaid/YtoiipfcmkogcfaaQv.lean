/-
  The reference's Count and Common.
  Conditions: as each theorem states them.
-/
import Derived.Test.YtoiipfcmkogcfaaQz
namespace Go.Proofs.Ytoiipfcmkogcfaa
open Go.RowKit Go.Lib

/-- A list of reports, and their components, read; the components are few. -/
structure RdF (w : World) (B : Nat) (A : Option Addr) (l : List Rp) : Prop where
  row : RdE Rp.cells 21 w B A l
  pts : ∀ r ∈ l, RdP w B r
  few : ∀ r ∈ l, r.pts.length ≤ 1000
theorem RdF.below {w w' : World} {B : Nat} {A : Option Addr} {l : List Rp} (h : RdF w B A l) (hb : Below B w w') : RdF w' B A l :=
  ⟨h.row.below hb, fun r hr => RdE.below (h.pts r hr) hb, h.few⟩
theorem RdF.more {w : World} {B B' : Nat} {A : Option Addr} {l : List Rp} (h : RdF w B A l) (hB : B ≤ B') : RdF w B' A l :=
  ⟨h.row.more hB, fun r hr => RdE.more (h.pts r hr) hB, h.few⟩
theorem cntS_take {l : List Rp} {k : Nat} {x : Rp} (hx : l[k]? = some x) (r : Rp) : cntS (l.take (k + 1)) r = cntS (l.take k) r + (if sameR x r = true then 1 else 0) := by
  rw [cntS, List.take_add_one, hx, List.countP_append]
  simp [cntS, List.countP_cons]

set_option maxRecDepth 100000 in
set_option maxHeartbeats 4000000 in
theorem count_any (l : List Rp) (A : Option Addr) (c : Nat) (r : Rp) (w : World) (hl : RdF w w.heap.size A l) (hr : RdP w w.heap.size r) (hn : l.length ≤ 1000) :
    Calls Try.prog 35 #[.slice A l.length c, .agg r.cells.toArray] w fun e w' => e = .returned (.int .i64 (cntS l r : Int)) ∧ Below w.heap.size w w' := by
  have Hl := Lib.hid hl
  have Hr := Lib.hid hr
  clear hl hr
  obtain ⟨rc, hrc⟩ : ∃ rc, rc = r.cells := ⟨_, rfl⟩
  have Hrc := Lib.hid hrc
  rw [← hrc]
  clear hrc
  go_enter Try.func35, Try.ntmps35
  go_upto_region 1 with fail
  have hrow1 : Row (w.alloc (.cells rc.toArray 58)) w.heap.size 58 rc.toArray := Row.new _ _ _
  have hb0 : Below w.heap.size w (w.alloc (.cells rc.toArray 58)) := (Below.refl _ _).alloc (Nat.le_refl _) _
  refine (?_ : ∀ w1 : World, Row w1 w.heap.size 58 rc.toArray ∧ Below w.heap.size w w1 → Code.wp _ _ _ _ w1) _ ⟨hrow1, hb0⟩
  clear hrow1 hb0
  rintro w1 ⟨hrow1, hb0⟩
  obtain ⟨ba, hba⟩ : ∃ ba, ba = w.heap.size := ⟨_, rfl⟩
  have Hba := Lib.hid hba
  rw [← hba] at hrow1 hb0 ⊢
  have H0 := Lib.hid (show Row w1 ba 58 rc.toArray ∧ Below ba w w1 from ⟨hrow1, hb0⟩)
  have Hl2 : Hid (RdF w ba A l) := Lib.hid (by rw [hba]; exact Hl.out)
  have Hr2 : Hid (RdP w ba r) := Lib.hid (by rw [hba]; exact Hr.out)
  clear hrow1 hb0 hba Hl Hr
  go_wp2_with fail
  go_loopw [5, 6] (fun m i wr => ∃ k n : Nat, k ≤ l.length ∧ i = .int .i64 k ∧ m = .int .i64 n ∧ Hid (n = cntS (l.take k) r ∧ n ≤ k ∧ Row wr ba 58 rc.toArray ∧ Below ba w wr))
    (fun _ i _ => l.length - (intOf i).toNat)
  case atStart => exact ⟨0, 0, Nat.zero_le _, rfl, rfl, Lib.hid ⟨by simp [cntS], Nat.le_refl _, H0.out⟩⟩
  case round =>
    obtain ⟨k, n, hk, rfl, rfl, hrel⟩ := hrel
    by_cases hlt : k < l.length
    · obtain ⟨x, hx⟩ : ∃ x, l[k]? = some x := ⟨_, List.getElem?_eq_getElem hlt⟩
      obtain ⟨b, off, rfl, hbw, cx⟩ := Hl2.out.row k x hx
      have hxm := List.mem_of_getElem? hx
      have i0 : (0 : Int) ≤ (k : Int) := by omega
      have i1 : (k : Int) < (l.length : Int) := by omega
      have i2 : (n : Int) ≤ 1000 := by have := hrel.out.2.1; omega
      have i3 : (0 : Int) ≤ (n : Int) := by omega
      obtain ⟨xc, hxc⟩ : ∃ xc, xc = x.cells := ⟨_, rfl⟩
      obtain ⟨C, hC⟩ : ∃ C : World → Prop, C = fun U => Row U ba 58 rc.toArray ∧ Below ba w U := ⟨_, rfl⟩
      have HC0 : Hid (∀ n, C (wr.drewN n)) := Lib.hid (by rw [hC]; exact fun n => ⟨hrel.out.2.2.1.drewN n, Below.drewsN hrel.out.2.2.2 n⟩)
      have HCa : Hid (∀ U, C U → U.rangeAt b (off + k * 21) xc) := Lib.hid (by rw [hC, hxc]; exact fun U h j v hv => (h.2.cell (p := ⟨b, _, none⟩) hbw).trans (cx j v hv))
      have HCb : Hid (∀ U, C U → U.rangeAt ba 0 rc) := Lib.hid (by rw [hC]; exact fun U h => row_rangeQ h.1)
      have HCc : Hid (∀ U, C U → Calls Try.prog 50 #[.agg xc.toArray, .agg rc.toArray] U fun e U' => e = .returned (.bool (sameR x r)) ∧ C U') := Lib.hid (by
        rw [hC, hxc, Hrc.out]
        intro U h
        refine (sameReport_any x r U (RdE.more (RdE.below (Hl2.out.pts x hxm) h.2) (Nat.le_of_lt h.1.lt)) (RdE.more (RdE.below Hr2.out h.2) (Nat.le_of_lt h.1.lt)) (Hl2.out.few x hxm)).mono ?_
        rintro e U' ⟨rfl, hb'⟩
        exact ⟨rfl, h.1.below hb' h.1.lt, below_onF h.2 hb' (Nat.le_of_lt h.1.lt)⟩)
      have HCo : Hid (∀ U, C U → Row U ba 58 rc.toArray ∧ Below ba w U) := Lib.hid (by rw [hC]; exact fun U h => h)
      have Hlx : Hid ((Try.prog.info? 58).map (·.size) = some xc.length) := Lib.hid (by rw [hxc]; kernel_rfl)
      have Hlr : Hid ((Try.prog.info? 58).map (·.size) = some rc.length) := Lib.hid (by rw [Hrc.out]; kernel_rfl)
      have Hst := Lib.hid (cntS_take hx r)
      have Hn1 := Lib.hid hrel.out.1
      have Hn2 := Lib.hid hrel.out.2.1
      clear hx hxc hC hrel cx hbw hxm
      go_wp2_with fail
      refine wp_region_quietC C (by kernel_rfl) (by kernel_rfl) (HC0.out 1) ?_
      iterate 3 (refine wpQuiet_step (fun K hK => ?_); go_simp; apply Exists.intro; refine ⟨fun _ _ => rfl, hK _ ?_⟩; clear hK K)
      refine wpQuiet_valK (by go_simp) (.agg xc.toArray) (fun U hU => run_load_mid (op := ⟨some 16, _, _, _, _, _⟩) 58 _ rfl b (off + k * 21) (by go_simp) _ _ (HCa.out U hU) Try.underlying58 rfl Hlx.out) ?_
      intro K hK
      go_simp
      refine hK _ ?_
      clear hK K
      refine wpQuiet_valK (by go_simp) (.agg rc.toArray) (fun U hU => run_load_mid (op := ⟨some 17, _, _, _, _, _⟩) 58 _ rfl ba 0 (by go_simp) _ _ (HCb.out U hU) Try.underlying58 rfl Hlr.out) ?_
      intro K hK
      go_simp
      refine hK _ ?_
      clear hK K
      refine wpQuiet_callK (op := ⟨some 18, _, _, _, _, _⟩) (by go_simp) 50 #[.agg xc.toArray, .agg rc.toArray] (.bool (sameR x r)) (fun U hU => by go_simp) HCc.out ?_
      intro K hK
      go_simp
      refine hK _ ?_
      clear hK K
      refine wpQuiet_nil ?_
      intro wq hU
      have HU := Lib.hid (HCo.out wq hU)
      clear hU HC0 HCa HCb HCc HCo
      by_cases hs : sameR x r = true
      · rw [hs] at Hst ⊢
        clear hs
        go_wp2
        go_roundw
        case rel => exact ⟨k + 1, n + 1, by omega, by go_num, by go_num, Lib.hid ⟨by rw [Hst.out, Hn1.out]; rfl, by have := Hn2.out; omega, HU.out⟩⟩
        case measure => simp [intOf]; omega
      · rw [Bool.not_eq_true] at hs
        rw [hs] at Hst ⊢
        clear hs
        go_wp2
        go_roundw
        case rel => exact ⟨k + 1, n, by omega, by go_num, rfl, Lib.hid ⟨by rw [Hst.out, Hn1.out]; rfl, by have := Hn2.out; omega, HU.out⟩⟩
        case measure => simp [intOf]; omega
    · obtain rfl : k = l.length := by omega
      have h := hrel.out
      rw [List.take_length] at h
      obtain ⟨h1, _, _, h4⟩ := h
      have H1 := Lib.hid h1
      have H4 := Lib.hid h4
      clear hrel h1 h4
      go_wp2
      go_ret
      exact ⟨by rw [H1.out]; rfl, by rw [← Hba.out]; exact H4.out⟩

theorem common36_any (r : Rp) (w : World) : Calls Try.prog 36 #[.agg r.cells.toArray] w fun e w' => e = .returned (.bool (decide (r.kd = 11 ∨ r.kd = 12 ∨ r.kd = 13 ∨ r.kd = 10))) ∧ Below w.heap.size w w' := by
  obtain ⟨k, hk⟩ : ∃ k, k = r.kd := ⟨_, rfl⟩
  have ci : (w.alloc (.cells r.cells.toArray 58)).cell? ⟨w.heap.size, 5, none⟩ = some (.int .i64 k) := by rw [(Row.new w 58 r.cells.toArray).cell, hk]; rfl
  have hb0 : Below w.heap.size w (w.alloc (.cells r.cells.toArray 58)) := (Below.refl _ _).alloc (Nat.le_refl _) _
  rw [← hk]
  have Ci := Lib.hid ci
  have Hb0 := Lib.hid hb0
  clear ci hb0 hk
  go_enter Try.func36, Try.ntmps36
  go_upto_region 1 with fail
  refine (?_ : ∀ w1 : World, w1.cell? ⟨w.heap.size, 5, none⟩ = some (.int .i64 k) ∧ Below w.heap.size w w1 → Code.wp _ _ _ _ w1) _ ⟨Ci.out, Hb0.out⟩
  rintro w1 ⟨ci, hb⟩
  have Hb := Lib.hid hb
  clear hb Ci Hb0
  by_cases c1 : k = 11
  · subst c1
    go_wp2
    go_ret
    exact ⟨rfl, Hb.out⟩
  · by_cases c2 : k = 12
    · subst c2
      go_wp2
      go_ret
      exact ⟨rfl, Hb.out⟩
    · by_cases c3 : k = 13
      · subst c3
        go_wp2
        go_ret
        exact ⟨rfl, Hb.out⟩
      · by_cases c4 : k = 10
        · subst c4
          go_wp2
          go_ret
          exact ⟨rfl, Hb.out⟩
        · go_wp2
          go_ret
          exact ⟨ret_bool (by rw [Bool.eq_iff_iff]; simp [or_assoc]), Hb.out⟩
end Go.Proofs.Ytoiipfcmkogcfaa
