/-
  The reference's Same of two items, and of two reports.
  Conditions: as each theorem states them.
-/
import Derived.Test.YtoiipfcmkogcfaaQx
namespace Go.Proofs.Ytoiipfcmkogcfaa
open Go.RowKit Go.Lib

def sameP (r s : Rp) : Bool := decide (r.pts.map (fun p => (p.kind, p.serial, p.fitted)) = s.pts.map (fun p => (p.kind, p.serial, p.fitted)))
/-- Two items are the same. -/
def sameI (r s : Rp) : Bool := decide (fldsR r = fldsR s) && (decide (r.kd = s.kd) && ((decide (r.cr = s.cr) && decide (r.cn = s.cn)) && (decide (r.tx = s.tx) && sameP r s)))
theorem sameI_flds {r s : Rp} {k : Nat} {x y : Int} (hx : (fldsR r)[k]? = some x) (hy : (fldsR s)[k]? = some y) (h : ¬ x = y) : sameI r s = false := by
  rw [sameI, decide_eq_false (fun e => h (by rw [e, hy] at hx; injection hx with hx; exact hx.symm))]
  rfl
theorem bytes_ne {a b : ByteArray} (h : ¬ a = b) : (a.toList == b.toList) = false := by
  rw [beq_eq_false_iff_ne]
  intro e
  rw [ByteArray.toList_eq, ByteArray.toList_eq] at e
  apply h
  obtain ⟨a⟩ := a
  obtain ⟨b⟩ := b
  congr
  exact Array.ext' e
theorem Try.size56' : (Try.prog.info? 56).map (·.size) = some 16 := by kernel_rfl
theorem itemC_len (r : Rp) : (itemC r).length = 16 := rfl

set_option maxRecDepth 100000 in
set_option maxHeartbeats 4000000 in
theorem sameItem_any (r s : Rp) (w : World) (hr : RdP w w.heap.size r) (hs : RdP w w.heap.size s) (hn : r.pts.length ≤ 1000) :
    Calls Try.prog 71 #[.agg (itemC r).toArray, .agg (itemC s).toArray] w fun e w' => e = .returned (.bool (sameI r s)) ∧ Below w.heap.size w w' := by
  have Hr := Lib.hid hr
  have Hs := Lib.hid hs
  have Hn := Lib.hid hn
  clear hr hs hn
  obtain ⟨ri, hri⟩ : ∃ ri, ri = itemC r := ⟨_, rfl⟩
  obtain ⟨si, hsi⟩ : ∃ si, si = itemC s := ⟨_, rfl⟩
  have Hri := Lib.hid hri
  have Hsi := Lib.hid hsi
  rw [← hri, ← hsi]
  clear hri hsi
  have Hlr : Hid ((Try.prog.info? 56).map (·.size) = some ri.length) := Lib.hid (by rw [Hri.out]; exact Try.size56')
  have Hls : Hid ((Try.prog.info? 56).map (·.size) = some si.length) := Lib.hid (by rw [Hsi.out]; exact Try.size56')
  go_enter Try.func71, Try.ntmps71
  go_upto_region 1 with fail
  have hrow1 : Row ((w.alloc (.cells ri.toArray 56)).alloc (.cells si.toArray 56)) w.heap.size 56 ri.toArray := (Row.new _ _ _).alloc _
  have hrow2 : Row ((w.alloc (.cells ri.toArray 56)).alloc (.cells si.toArray 56)) (w.heap.size + 1) 56 si.toArray := Row.new1 _ _ _ _
  have hb0 : Below w.heap.size w ((w.alloc (.cells ri.toArray 56)).alloc (.cells si.toArray 56)) := ((Below.refl _ _).alloc (Nat.le_refl _) _).alloc (by simp) _
  refine (?_ : ∀ w1 : World, Row w1 w.heap.size 56 ri.toArray ∧ Row w1 (w.heap.size + 1) 56 si.toArray ∧ Below w.heap.size w w1 → Code.wp _ _ _ _ w1) _ ⟨hrow1, hrow2, hb0⟩
  clear hrow1 hrow2 hb0
  rintro w1 ⟨hrow1, hrow2, hb0⟩
  obtain ⟨ba, hba⟩ : ∃ ba, ba = w.heap.size := ⟨_, rfl⟩
  obtain ⟨bb, hbb⟩ : ∃ bb, bb = w.heap.size + 1 := ⟨_, rfl⟩
  rw [← hbb] at hrow2 ⊢
  rw [← hba] at hrow1 hb0 ⊢
  have H0 := Lib.hid (show Row w1 ba 56 ri.toArray ∧ Row w1 bb 56 si.toArray ∧ Below ba w w1 from ⟨hrow1, hrow2, hb0⟩)
  have Hba := Lib.hid hba
  clear hrow1 hrow2 hb0 hbb hba
  go_wp2_with fail
  go_loopw [5] (fun i wr => ∃ k : Nat, k ≤ 11 ∧ i = .int .i64 k ∧ Hid ((Row wr ba 56 ri.toArray ∧ Row wr bb 56 si.toArray ∧ Below ba w wr) ∧ ∀ j, j < k → (fldsR r)[j]? = (fldsR s)[j]?))
    (fun i _ => 11 - (intOf i).toNat)
  case atStart => exact ⟨0, Nat.zero_le _, rfl, Lib.hid ⟨H0.out, fun j hj => absurd hj (by omega)⟩⟩
  case round =>
    obtain ⟨k, hk, rfl, hrel⟩ := hrel
    by_cases hlt : k < 11
    · obtain ⟨x, hx⟩ : ∃ x, (fldsR r)[k]? = some x := ⟨_, List.getElem?_eq_getElem (by simp [fldsR]; omega)⟩
      obtain ⟨y, hy⟩ : ∃ y, (fldsR s)[k]? = some y := ⟨_, List.getElem?_eq_getElem (by simp [fldsR]; omega)⟩
      have i0 : (0 : Int) ≤ (k : Int) := by omega
      have i1 : (k : Int) < 11 := by omega
      obtain ⟨c, hc, hidx0⟩ := letters_at hlt w
      have Hidx : Hid (∀ U, (Instr.index 9 (.string ⟨#[119, 112, 111, 110, 102, 116, 99, 100, 107, 103, 97]⟩) (.int .i64 (k : Int))).run Try.prog U = .ok (.int .u8 c) U) := Lib.hid (fun U => by
        obtain ⟨c', hc', h'⟩ := letters_at hlt U
        rw [hc] at hc'
        injection hc' with hc'
        rw [hc']
        exact h')
      obtain ⟨C, hC⟩ : ∃ C : World → Prop, C = fun U => Row U ba 56 ri.toArray ∧ Row U bb 56 si.toArray ∧ Below ba w U := ⟨_, rfl⟩
      have HC0 : Hid (∀ n, C (wr.drewN n)) := Lib.hid (by rw [hC]; exact fun n => ⟨hrel.out.1.1.drewN n, hrel.out.1.2.1.drewN n, Below.drewsN hrel.out.1.2.2 n⟩)
      have HCa : Hid (∀ U, C U → U.rangeAt ba 0 ri) := Lib.hid (by rw [hC]; exact fun U h => row_rangeQ h.1)
      have HCb : Hid (∀ U, C U → U.rangeAt bb 0 si) := Lib.hid (by rw [hC]; exact fun U h => row_rangeQ h.2.1)
      have HCx : Hid (∀ U, C U → Calls Try.prog 80 #[.agg ri.toArray, .int .u8 c] U fun e U' => e = .returned (.int .i64 x) ∧ C U') := Lib.hid (by
        rw [hC]
        intro U h
        rw [Hri.out] at h ⊢
        refine (field_any r hlt hc hx U).mono ?_
        rintro e U' ⟨rfl, hb'⟩
        exact ⟨rfl, h.1.below hb' h.1.lt, h.2.1.below hb' h.2.1.lt, below_onF h.2.2 hb' (Nat.le_of_lt h.1.lt)⟩)
      have HCy : Hid (∀ U, C U → Calls Try.prog 80 #[.agg si.toArray, .int .u8 c] U fun e U' => e = .returned (.int .i64 y) ∧ C U') := Lib.hid (by
        rw [hC]
        intro U h
        rw [Hsi.out] at h ⊢
        refine (field_any s hlt hc hy U).mono ?_
        rintro e U' ⟨rfl, hb'⟩
        exact ⟨rfl, h.1.below hb' h.1.lt, h.2.1.below hb' h.2.1.lt, below_onF h.2.2 hb' (Nat.le_of_lt h.1.lt)⟩)
      have HCo : Hid (∀ U, C U → Row U ba 56 ri.toArray ∧ Row U bb 56 si.toArray ∧ Below ba w U) := Lib.hid (by rw [hC]; exact fun U h => h)
      have Hx := Lib.hid hx
      have Hy := Lib.hid hy
      have Hst := Lib.hid hrel.out.2
      clear hx hy hc hidx0 hC hrel
      go_wp2_with fail
      refine wp_region_quietC C (by kernel_rfl) (by kernel_rfl) (HC0.out 1) ?_
      refine wpQuiet_valK (by go_simp) (.agg ri.toArray) (fun U hU => run_load_mid (op := ⟨some 10, _, _, _, _, _⟩) 56 _ rfl ba 0 (by go_simp) _ _ (HCa.out U hU) Try.underlying56 rfl Hlr.out) ?_
      intro K hK
      go_simp
      refine hK _ ?_
      clear hK K
      refine wpQuiet_step (fun K hK => ?_); go_simp; apply Exists.intro; refine ⟨fun _ _ => rfl, hK _ ?_⟩; clear hK K
      refine wpQuiet_valK (by go_simp) (.int .u8 c) (fun U hU => run_index_op (op := ⟨some 12, _, _, _, _, _⟩) 9 _ _ rfl _ _ (by go_simp) (by go_simp) (Hidx.out U)) ?_
      intro K hK
      go_simp
      refine hK _ ?_
      clear hK K
      refine wpQuiet_callK (op := ⟨some 13, _, _, _, _, _⟩) (by go_simp) 80 #[.agg ri.toArray, .int .u8 c] (.int .i64 x) (fun U hU => by go_simp) HCx.out ?_
      intro K hK
      go_simp
      refine hK _ ?_
      clear hK K
      refine wpQuiet_valK (by go_simp) (.agg si.toArray) (fun U hU => run_load_mid (op := ⟨some 14, _, _, _, _, _⟩) 56 _ rfl bb 0 (by go_simp) _ _ (HCb.out U hU) Try.underlying56 rfl Hls.out) ?_
      intro K hK
      go_simp
      refine hK _ ?_
      clear hK K
      refine wpQuiet_step (fun K hK => ?_); go_simp; apply Exists.intro; refine ⟨fun _ _ => rfl, hK _ ?_⟩; clear hK K
      refine wpQuiet_valK (by go_simp) (.int .u8 c) (fun U hU => run_index_op (op := ⟨some 16, _, _, _, _, _⟩) 9 _ _ rfl _ _ (by go_simp) (by go_simp) (Hidx.out U)) ?_
      intro K hK
      go_simp
      refine hK _ ?_
      clear hK K
      refine wpQuiet_callK (op := ⟨some 17, _, _, _, _, _⟩) (by go_simp) 80 #[.agg si.toArray, .int .u8 c] (.int .i64 y) (fun U hU => by go_simp) HCy.out ?_
      intro K hK
      go_simp
      refine hK _ ?_
      clear hK K
      refine wpQuiet_step (fun K hK => ?_); go_simp; apply Exists.intro; refine ⟨fun _ _ => rfl, hK _ ?_⟩; clear hK K
      refine wpQuiet_nil ?_
      intro wq hU
      have HU := Lib.hid (HCo.out wq hU)
      clear hU HC0 HCa HCb HCx HCy HCo Hidx
      by_cases hxy : x = y
      · have Hxy := Lib.hid hxy
        have e1 : (x != y) = false := by simpa using hxy
        clear hxy
        go_wp2
        go_roundw
        case rel =>
          refine ⟨k + 1, by omega, by go_num, Lib.hid ⟨HU.out, fun j hj => ?_⟩⟩
          rcases Nat.lt_succ_iff_lt_or_eq.1 hj with h | rfl
          · exact Hst.out j h
          · rw [Hx.out, Hy.out, Hxy.out]
        case measure => simp [intOf]; omega
      · have Hf := Lib.hid (sameI_flds Hx.out Hy.out hxy)
        have e1 : (x != y) = true := by simpa using hxy
        clear hxy
        go_wp2
        go_ret
        exact ⟨by rw [Hf.out]; rfl, by rw [← Hba.out]; exact HU.out.2.2⟩
    · obtain rfl : k = 11 := by omega
      have hfl : fldsR r = fldsR s := List.ext_getElem? fun j => by
        by_cases hj : j < 11
        · exact hrel.out.2 j hj
        · rw [List.getElem?_eq_none (by simp [fldsR]; omega), List.getElem?_eq_none (by simp [fldsR]; omega)]
      obtain ⟨⟨hr1, hr2, hb⟩, _⟩ := hrel.out
      obtain ⟨kd, hkd⟩ : ∃ z, z = r.kd := ⟨_, rfl⟩
      obtain ⟨kd', hkd'⟩ : ∃ z, z = s.kd := ⟨_, rfl⟩
      obtain ⟨cr, hcr⟩ : ∃ z, z = r.cr := ⟨_, rfl⟩
      obtain ⟨cr', hcr'⟩ : ∃ z, z = s.cr := ⟨_, rfl⟩
      obtain ⟨cn, hcn⟩ : ∃ z, z = r.cn := ⟨_, rfl⟩
      obtain ⟨cn', hcn'⟩ : ∃ z, z = s.cn := ⟨_, rfl⟩
      obtain ⟨tx, htx⟩ : ∃ z, z = r.tx := ⟨_, rfl⟩
      obtain ⟨tx', htx'⟩ : ∃ z, z = s.tx := ⟨_, rfl⟩
      have c0 : wr.cell? ⟨ba, 0, none⟩ = some (.int .i64 kd) := by rw [hkd]; exact (hr1.cell 0).trans (by rw [Hri.out]; rfl)
      have c1 : wr.cell? ⟨ba, 1, none⟩ = some (.int .i64 cr) := by rw [hcr]; exact (hr1.cell 1).trans (by rw [Hri.out]; rfl)
      have c2 : wr.cell? ⟨ba, 2, none⟩ = some (.int .i64 cn) := by rw [hcn]; exact (hr1.cell 2).trans (by rw [Hri.out]; rfl)
      have c14 : wr.cell? ⟨ba, 14, none⟩ = some (.string tx) := by rw [htx]; exact (hr1.cell 14).trans (by rw [Hri.out]; rfl)
      have c15 : wr.cell? ⟨ba, 15, none⟩ = some (.slice r.A r.pts.length r.cap) := (hr1.cell 15).trans (by rw [Hri.out]; rfl)
      have d0 : wr.cell? ⟨bb, 0, none⟩ = some (.int .i64 kd') := by rw [hkd']; exact (hr2.cell 0).trans (by rw [Hsi.out]; rfl)
      have d1 : wr.cell? ⟨bb, 1, none⟩ = some (.int .i64 cr') := by rw [hcr']; exact (hr2.cell 1).trans (by rw [Hsi.out]; rfl)
      have d2 : wr.cell? ⟨bb, 2, none⟩ = some (.int .i64 cn') := by rw [hcn']; exact (hr2.cell 2).trans (by rw [Hsi.out]; rfl)
      have d14 : wr.cell? ⟨bb, 14, none⟩ = some (.string tx') := by rw [htx']; exact (hr2.cell 14).trans (by rw [Hsi.out]; rfl)
      have d15 : wr.cell? ⟨bb, 15, none⟩ = some (.slice s.A s.pts.length s.cap) := (hr2.cell 15).trans (by rw [Hsi.out]; rfl)
      have Hsame : Hid (sameI r s = (decide (kd = kd') && ((decide (cr = cr') && decide (cn = cn')) && (decide (tx = tx') && sameP r s)))) := Lib.hid (by rw [sameI, decide_eq_true hfl, Bool.true_and, hkd, hkd', hcr, hcr', hcn, hcn', htx, htx'])
      have heq : ∀ w' : World, (Op.equalIn 10000 53 (.agg #[.int .i64 cr, .int .i64 cn]) (.agg #[.int .i64 cr', .int .i64 cn'])).run Try.prog w' = .ok (decide (cr = cr') && decide (cn = cn')) w' := fun w' => eq53 cr cn cr' cn' w'
      have Hb := Lib.hid hb
      have HbW : Hid (Below w.heap.size w wr) := Lib.hid (by rw [← Hba.out]; exact hb)
      clear hrel hfl hr1 hr2 hb hkd hkd' hcr hcr' hcn hcn' htx htx'
      by_cases e0 : kd = kd'
      · by_cases e1 : (decide (cr = cr') && decide (cn = cn')) = true
        · rw [e1] at heq
          by_cases e2 : tx = tx'
          · rw [decide_eq_true e0, e1, decide_eq_true e2, Bool.true_and, Bool.true_and, Bool.true_and] at Hsame
            clear e1
            subst e0 e2
            go_wp2_with fail
            refine (sameParts_any r.pts s.pts r.A s.A r.cap s.cap wr ((Hr.out.below HbW.out).more HbW.out.size) ((Hs.out.below HbW.out).more HbW.out.size) Hn.out).mono ?_
            rintro e wz ⟨rfl, n, rfl⟩
            have HbZ := Lib.hid (Below.drewsN HbW.out n)
            obtain ⟨sp, hsp⟩ : ∃ sp, sp = sameP r s := ⟨_, rfl⟩
            rw [← hsp] at Hsame
            rw [sameP] at hsp
            rw [← hsp]
            clear hsp
            go_wp2
            go_ret
            exact ⟨by rw [Hsame.out]; rfl, HbZ.out⟩
          · rw [decide_eq_true e0, e1, decide_eq_false e2, Bool.true_and, Bool.true_and, Bool.false_and] at Hsame
            clear e1
            have e3 : (tx.toList == tx'.toList) = false := bytes_ne e2
            subst e0
            go_wp2
            go_ret
            exact ⟨by rw [Hsame.out]; rfl, HbW.out⟩
        · rw [Bool.not_eq_true] at e1
          rw [e1] at heq
          rw [decide_eq_true e0, e1, Bool.true_and, Bool.false_and] at Hsame
          clear e1
          subst e0
          go_wp2
          go_ret
          exact ⟨by rw [Hsame.out]; rfl, HbW.out⟩
      · rw [decide_eq_false e0, Bool.false_and] at Hsame
        have e3 : (kd == kd') = false := by simpa using e0
        go_wp2
        go_ret
        exact ⟨by rw [Hsame.out]; rfl, HbW.out⟩
end Go.Proofs.Ytoiipfcmkogcfaa
