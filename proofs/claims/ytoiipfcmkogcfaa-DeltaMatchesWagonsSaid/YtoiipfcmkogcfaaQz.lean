/-
  The reference's SameReport, Count and Common.
  Conditions: as each theorem states them.
-/
import Derived.Test.YtoiipfcmkogcfaaQy
namespace Go.Proofs.Ytoiipfcmkogcfaa
open Go.RowKit Go.Lib

theorem wpList_load_midG {P : Program} {ops : Array Oper} {Q : Exit → Act → World → Prop} {a : Act} {w : World} {rest : List Oper} {op : Oper} (hw : Region.wanted op (yielded ops a.tmps) = true) (ty : TypeId) (x : Operand) (ho : op.op = .load ty x)
    (b o : Nat) (hx : a.eval x = .pointer (some ⟨b, o, none⟩)) (cs : List Value) (d : TypeDesc) (hc : w.rangeAt b o cs)
    (hu : P.underlying ty = some d) (hd : d.isRow = true) (hi : (P.info? ty).map (·.size) = some cs.length)
    (h : wpList P ops Q rest (a.put op.dst (.agg cs.toArray)) w) : wpList P ops Q (op :: rest) a w :=
  wpList_step fun _ hK => by rw [if_pos hw]; exact wp_load_mid ty x ho b o hx cs d hc hu hd hi (hK _ _ h)

theorem sameR_eq (r s : Rp) : sameR r s = ((decide (r.rr = s.rr) && decide (r.rn = s.rn)) && ((decide (r.br = s.br) && decide (r.bn = s.bn)) && (decide (r.tm = s.tm) && sameI r s))) := by
  rw [Bool.eq_iff_iff]
  simp only [sameR, sameI, sameP, Rp.nums, fldsR, Bool.and_eq_true, decide_eq_true_eq, List.cons.injEq, and_true]
  constructor
  · rintro ⟨⟨⟨h1, h2, h3, h4, h5, h6, h7, h8, h9, h10, h11, h12, h13, h14, h15, h16, h17, h18, h19⟩, ht⟩, hp⟩
    exact ⟨⟨h1, h2⟩, ⟨h3, h4⟩, h7, ⟨h9, h10, h11, h12, h13, h14, h15, h16, h17, h18, h19⟩, h8, ⟨h5, h6⟩, ht, hp⟩
  · rintro ⟨⟨h1, h2⟩, ⟨h3, h4⟩, h7, ⟨h9, h10, h11, h12, h13, h14, h15, h16, h17, h18, h19⟩, h8, ⟨h5, h6⟩, ht, hp⟩
    exact ⟨⟨⟨h1, h2, h3, h4, h5, h6, h7, h8, h9, h10, h11, h12, h13, h14, h15, h16, h17, h18, h19⟩, ht⟩, hp⟩

set_option maxRecDepth 100000 in
set_option maxHeartbeats 4000000 in
theorem sameReport_any (r s : Rp) (w : World) (hr : RdP w w.heap.size r) (hs : RdP w w.heap.size s) (hn : r.pts.length ≤ 1000) :
    Calls Try.prog 50 #[.agg r.cells.toArray, .agg s.cells.toArray] w fun e w' => e = .returned (.bool (sameR r s)) ∧ Below w.heap.size w w' := by
  have Hr := Lib.hid hr
  have Hs := Lib.hid hs
  have Hn := Lib.hid hn
  clear hr hs hn
  obtain ⟨rc, hrc⟩ : ∃ rc, rc = r.cells := ⟨_, rfl⟩
  obtain ⟨sc, hsc⟩ : ∃ sc, sc = s.cells := ⟨_, rfl⟩
  have Hrc := Lib.hid hrc
  have Hsc := Lib.hid hsc
  rw [← hrc, ← hsc]
  clear hrc hsc
  go_enter Try.func50, Try.ntmps50
  go_upto_region 1 with fail
  have hrow1 : Row ((w.alloc (.cells rc.toArray 58)).alloc (.cells sc.toArray 58)) w.heap.size 58 rc.toArray := (Row.new _ _ _).alloc _
  have hrow2 : Row ((w.alloc (.cells rc.toArray 58)).alloc (.cells sc.toArray 58)) (w.heap.size + 1) 58 sc.toArray := Row.new1 _ _ _ _
  have hb0 : Below w.heap.size w ((w.alloc (.cells rc.toArray 58)).alloc (.cells sc.toArray 58)) := ((Below.refl _ _).alloc (Nat.le_refl _) _).alloc (by simp) _
  refine (?_ : ∀ w1 : World, Row w1 w.heap.size 58 rc.toArray ∧ Row w1 (w.heap.size + 1) 58 sc.toArray ∧ Below w.heap.size w w1 → Code.wp _ _ _ _ w1) _ ⟨hrow1, hrow2, hb0⟩
  clear hrow1 hrow2 hb0
  rintro wr ⟨hr1, hr2, hb⟩
  obtain ⟨ba, hba⟩ : ∃ ba, ba = w.heap.size := ⟨_, rfl⟩
  obtain ⟨bb, hbb⟩ : ∃ bb, bb = w.heap.size + 1 := ⟨_, rfl⟩
  have HbW := Lib.hid hb
  rw [← hbb] at hr2 ⊢
  rw [← hba] at hr1 ⊢
  clear hbb hba hb
  obtain ⟨a1, ha1⟩ : ∃ z, z = r.rr := ⟨_, rfl⟩
  obtain ⟨a2, ha2⟩ : ∃ z, z = r.rn := ⟨_, rfl⟩
  obtain ⟨a3, ha3⟩ : ∃ z, z = r.br := ⟨_, rfl⟩
  obtain ⟨a4, ha4⟩ : ∃ z, z = r.bn := ⟨_, rfl⟩
  obtain ⟨a5, ha5⟩ : ∃ z, z = r.tm := ⟨_, rfl⟩
  obtain ⟨b1, hb1⟩ : ∃ z, z = s.rr := ⟨_, rfl⟩
  obtain ⟨b2, hb2⟩ : ∃ z, z = s.rn := ⟨_, rfl⟩
  obtain ⟨b3, hb3⟩ : ∃ z, z = s.br := ⟨_, rfl⟩
  obtain ⟨b4, hb4⟩ : ∃ z, z = s.bn := ⟨_, rfl⟩
  obtain ⟨b5, hb5⟩ : ∃ z, z = s.tm := ⟨_, rfl⟩
  have c0 : wr.cell? ⟨ba, 0, none⟩ = some (.int .i64 a1) := by rw [ha1]; exact (hr1.cell 0).trans (by rw [Hrc.out]; rfl)
  have c1 : wr.cell? ⟨ba, 1, none⟩ = some (.int .i64 a2) := by rw [ha2]; exact (hr1.cell 1).trans (by rw [Hrc.out]; rfl)
  have c2 : wr.cell? ⟨ba, 2, none⟩ = some (.int .i64 a3) := by rw [ha3]; exact (hr1.cell 2).trans (by rw [Hrc.out]; rfl)
  have c3 : wr.cell? ⟨ba, 3, none⟩ = some (.int .i64 a4) := by rw [ha4]; exact (hr1.cell 3).trans (by rw [Hrc.out]; rfl)
  have c4 : wr.cell? ⟨ba, 4, none⟩ = some (.int .i64 a5) := by rw [ha5]; exact (hr1.cell 4).trans (by rw [Hrc.out]; rfl)
  have d0 : wr.cell? ⟨bb, 0, none⟩ = some (.int .i64 b1) := by rw [hb1]; exact (hr2.cell 0).trans (by rw [Hsc.out]; rfl)
  have d1 : wr.cell? ⟨bb, 1, none⟩ = some (.int .i64 b2) := by rw [hb2]; exact (hr2.cell 1).trans (by rw [Hsc.out]; rfl)
  have d2 : wr.cell? ⟨bb, 2, none⟩ = some (.int .i64 b3) := by rw [hb3]; exact (hr2.cell 2).trans (by rw [Hsc.out]; rfl)
  have d3 : wr.cell? ⟨bb, 3, none⟩ = some (.int .i64 b4) := by rw [hb4]; exact (hr2.cell 3).trans (by rw [Hsc.out]; rfl)
  have d4 : wr.cell? ⟨bb, 4, none⟩ = some (.int .i64 b5) := by rw [hb5]; exact (hr2.cell 4).trans (by rw [Hsc.out]; rfl)
  have hia : wr.rangeAt ba 5 (itemC r) := by
    intro j v hv
    rw [hr1.cell, List.getElem?_toArray, Hrc.out]
    rw [itemC, List.getElem?_drop] at hv
    exact hv
  have hib : wr.rangeAt bb 5 (itemC s) := by
    intro j v hv
    rw [hr2.cell, List.getElem?_toArray, Hsc.out]
    rw [itemC, List.getElem?_drop] at hv
    exact hv
  have Hsame : Hid (sameR r s = ((decide (a1 = b1) && decide (a2 = b2)) && ((decide (a3 = b3) && decide (a4 = b4)) && (decide (a5 = b5) && sameI r s)))) := Lib.hid (by rw [sameR_eq, ha1, ha2, ha3, ha4, ha5, hb1, hb2, hb3, hb4, hb5])
  have heq1 : ∀ w' : World, (Op.equalIn 10000 53 (.agg #[.int .i64 a1, .int .i64 a2]) (.agg #[.int .i64 b1, .int .i64 b2])).run Try.prog w' = .ok (decide (a1 = b1) && decide (a2 = b2)) w' := fun w' => eq53 a1 a2 b1 b2 w'
  have heq2 : ∀ w' : World, (Op.equalIn 10000 53 (.agg #[.int .i64 a3, .int .i64 a4]) (.agg #[.int .i64 b3, .int .i64 b4])).run Try.prog w' = .ok (decide (a3 = b3) && decide (a4 = b4)) w' := fun w' => eq53 a3 a4 b3 b4 w'
  have Hia := Lib.hid hia
  have Hib := Lib.hid hib
  have Hla : Hid ((Try.prog.info? 56).map (·.size) = some (itemC r).length) := Lib.hid Try.size56'
  have Hlb : Hid ((Try.prog.info? 56).map (·.size) = some (itemC s).length) := Lib.hid Try.size56'
  clear hr1 hr2 ha1 ha2 ha3 ha4 ha5 hb1 hb2 hb3 hb4 hb5 hia hib
  by_cases e1 : (decide (a1 = b1) && decide (a2 = b2)) = true
  · rw [e1] at heq1
    by_cases e2 : (decide (a3 = b3) && decide (a4 = b4)) = true
    · rw [e2] at heq2
      by_cases e3 : a5 = b5
      · rw [e1, e2, decide_eq_true e3, Bool.true_and, Bool.true_and, Bool.true_and] at Hsame
        subst e3
        clear e1 e2
        obtain ⟨ri, hri⟩ : ∃ ri, ri = itemC r := ⟨_, rfl⟩
        obtain ⟨si, hsi⟩ : ∃ si, si = itemC s := ⟨_, rfl⟩
        have hcall := sameItem_any r s wr ((Hr.out.below HbW.out).more HbW.out.size) ((Hs.out.below HbW.out).more HbW.out.size) Hn.out
        rw [← hri] at Hia Hla hcall
        rw [← hsi] at Hib Hlb hcall
        have Hcall := Lib.hid hcall
        clear hri hsi hcall
        go_wp2_with (first
          | (show wpList _ _ _ (⟨some 26, Op.load 56 _, _, _, _, _⟩ :: _) _ _; refine wpList_load_midG (by go_simp) 56 _ rfl ba 5 (by go_simp) ri _ Hia.out Try.underlying56 rfl Hla.out ?_)
          | (show wpList _ _ _ (⟨some 28, Op.load 56 _, _, _, _, _⟩ :: _) _ _; refine wpList_load_midG (by go_simp) 56 _ rfl bb 5 (by go_simp) si _ Hib.out Try.underlying56 rfl Hlb.out ?_)
          | fail)
        refine Hcall.out.mono ?_
        rintro e wz ⟨rfl, hbz⟩
        have Hbz := Lib.hid (below_onF HbW.out hbz HbW.out.size)
        clear hbz
        go_wp2
        go_ret
        exact ⟨by rw [Hsame.out]; rfl, Hbz.out⟩
      · rw [e1, e2, decide_eq_false e3, Bool.true_and, Bool.true_and, Bool.false_and] at Hsame
        have e4 : (a5 == b5) = false := by simpa using e3
        clear e1 e2
        go_wp2
        go_ret
        exact ⟨by rw [Hsame.out]; rfl, HbW.out⟩
    · rw [Bool.not_eq_true] at e2
      rw [e2] at heq2
      rw [e1, e2, Bool.true_and, Bool.false_and] at Hsame
      clear e1 e2
      go_wp2
      go_ret
      exact ⟨by rw [Hsame.out]; rfl, HbW.out⟩
  · rw [Bool.not_eq_true] at e1
    rw [e1] at heq1
    rw [e1, Bool.false_and] at Hsame
    clear e1
    go_wp2
    go_ret
    exact ⟨by rw [Hsame.out]; rfl, HbW.out⟩
end Go.Proofs.Ytoiipfcmkogcfaa
