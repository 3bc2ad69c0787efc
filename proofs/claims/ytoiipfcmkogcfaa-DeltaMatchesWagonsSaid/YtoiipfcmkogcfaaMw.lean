/-
  The law DeltaMatchesWagons returns true for whatever pool and lists of reports are read.
  Conditions: as each theorem states them.
-/
import Derived.Test.YtoiipfcmkogcfaaRx
import Derived.Test.YtoiipfcmkogcfaaSc
import Derived.Test.YtoiipfcmkogcfaaWa
namespace Go.Proofs.Ytoiipfcmkogcfaa
open Go.RowKit Go.Lib

theorem drop_revR {l : List Rp} {j : Nat} {x : Rp} (h : l[j]? = some x) : (l.drop j).reverse = (l.drop (j + 1)).reverse ++ [x] := by
  obtain ⟨hj, e⟩ := List.getElem?_eq_some_iff.1 h
  rw [List.drop_eq_getElem_cons hj, e, List.reverse_cons]
theorem hitsTo_len (old new : List Rp) (k : Nat) : (hitsTo old new k).length ≤ k := by
  unfold hitsTo
  rw [List.length_map]
  exact Nat.le_trans (List.length_filter_le _ _) (by simp)
theorem few_of {l : List Rp} (h : (decide (l.length ≤ 40) && l.all fun r => decide (r.pts.length ≤ 40) && decide (r.tx.size ≤ 2000)) = true) : l.length ≤ 40 ∧ ∀ r ∈ l, r.pts.length ≤ 40 := by
  simp only [Bool.and_eq_true, decide_eq_true_eq, List.all_eq_true] at h
  exact ⟨h.1, fun r hr => (h.2 r hr).1⟩
/-- Reports that are read, whatever their number. -/
structure RdW (w : World) (B : Nat) (A : Option Addr) (l : List Rp) : Prop where
  row : RdE Rp.cells 21 w B A l
  ok : ∀ r ∈ l, r.ok ∧ RdP w B r
theorem RdW.below {w w' : World} {B : Nat} {A : Option Addr} {l : List Rp} (h : RdW w B A l) (hb : Below B w w') : RdW w' B A l := ⟨h.row.below hb, fun r hr => ⟨(h.ok r hr).1, RdE.below (h.ok r hr).2 hb⟩⟩
theorem RdW.more {w : World} {B B' : Nat} {A : Option Addr} {l : List Rp} (h : RdW w B A l) (hB : B ≤ B') : RdW w B' A l := ⟨h.row.more hB, fun r hr => ⟨(h.ok r hr).1, RdE.more (h.ok r hr).2 hB⟩⟩
theorem RdW.rdR {w : World} {B : Nat} {A : Option Addr} {l : List Rp} (h : RdW w B A l) (hf : ∀ r ∈ l, r.pts.length ≤ 40) : RdR w B A l :=
  ⟨h.row, fun r hr => (h.ok r hr).2, fun r hr => (h.ok r hr).1, fun r hr => Nat.le_trans (hf r hr) (by decide)⟩
theorem RdW.rdF {w : World} {B : Nat} {A : Option Addr} {l : List Rp} (h : RdW w B A l) (hf : ∀ r ∈ l, r.pts.length ≤ 40) : RdF w B A l :=
  ⟨h.row, fun r hr => (h.ok r hr).2, fun r hr => Nat.le_trans (hf r hr) (by decide)⟩

set_option maxRecDepth 100000 in
set_option maxHeartbeats 4000000 in
theorem matchesWagons_any (pc : List Value) (WA : Option Addr) (nw wc : Nat) (old new : List Rp) (A B : Option Addr) (ca cb : Nat) (w : World) (hpl : pc.length = 9) (hpc : pc[3]? = some (.slice WA nw wc)) (ho : RdW w w.heap.size A old) (hn : RdW w w.heap.size B new)
    (nlo : A = none → old = [] ∧ ca = 0) (nln : B = none → new = [] ∧ cb = 0) (hnw : nw ≤ 3518437208780) :
    Calls Try.prog 4 #[.agg pc.toArray, .slice A old.length ca, .slice B new.length cb] w fun e w' => e = .returned (.bool true) ∧ Below w.heap.size w w' := by
  have Ho := Lib.hid ho
  have Hn := Lib.hid hn
  have Nlo := Lib.hid nlo
  have Nln := Lib.hid nln
  have Hpc := Lib.hid hpc
  have Hlp : Hid ((Try.prog.info? 47).map (·.size) = some pc.length) := Lib.hid (by rw [hpl]; kernel_rfl)
  clear ho hn nlo nln hpc hpl
  go_enter Try.func4, Try.ntmps4
  go_upto_region 1 with fail
  have hrow1 : Row (w.alloc (.cells pc.toArray 47)) w.heap.size 47 pc.toArray := Row.new _ _ _
  have hb0 : Below w.heap.size w (w.alloc (.cells pc.toArray 47)) := (Below.refl _ _).alloc (Nat.le_refl _) _
  refine (?_ : ∀ w1 : World, Row w1 w.heap.size 47 pc.toArray ∧ Below w.heap.size w w1 → Code.wp _ _ _ _ w1) _ ⟨hrow1, hb0⟩
  clear hrow1 hb0
  rintro w1 ⟨hrow1, hb1⟩
  obtain ⟨ba, hba⟩ : ∃ ba, ba = w.heap.size := ⟨_, rfl⟩
  rw [← hba] at hrow1 ⊢
  have Hrow := Lib.hid hrow1
  have Hb := Lib.hid hb1
  have Hba := Lib.hid hba
  clear hba hrow1 hb1
  go_wp2_with fail
  refine (sane_any w1).mono ?_
  rintro e w2 ⟨rfl, hb2⟩
  have Hrow := Lib.hid (Hrow.out.below hb2 Hrow.out.lt)
  have Hb := Lib.hid (below_onF Hb.out hb2 Hb.out.size)
  clear hb2
  go_wp2_with fail
  refine (few_any old A ca w2 ((Ho.out.row.below Hb.out).more Hb.out.size)).mono ?_
  rintro e w3 ⟨rfl, rfl⟩
  by_cases f1 : (decide (old.length ≤ 40) && old.all fun r => decide (r.pts.length ≤ 40) && decide (r.tx.size ≤ 2000)) = true
  · rw [f1]
    obtain ⟨lo, po⟩ := few_of f1
    have Po := Lib.hid po
    clear f1 po
    go_wp2_with fail
    refine (few_any new B cb w3 ((Hn.out.row.below Hb.out).more Hb.out.size)).mono ?_
    rintro e w4 ⟨rfl, rfl⟩
    by_cases f2 : (decide (new.length ≤ 40) && new.all fun r => decide (r.pts.length ≤ 40) && decide (r.tx.size ≤ 2000)) = true
    · rw [f2]
      obtain ⟨ln, pn⟩ := few_of f2
      have Pn := Lib.hid pn
      clear f2 pn
      have i1 : (old.length : Int) ≤ 40 := by omega
      have i2 : (new.length : Int) ≤ 40 := by omega
      have hcall := wagons_any pc WA nw wc old new A B ca cb w4 Hpc.out (((Ho.out.below Hb.out).more Hb.out.size).rdR Po.out) (((Hn.out.below Hb.out).more Hb.out.size).rdR Pn.out) (by omega)
      have Hcall := Lib.hid hcall
      clear hcall
      go_wp2_with (first
        | (show wpList _ _ _ (⟨some 26, Op.load 47 _, _, _, _, _⟩ :: _) _ _; refine wpList_load_mid rfl 47 _ rfl ba 0 rfl pc _ (row_rangeQ Hrow.out) Try.underlying47 rfl Hlp.out ?_)
        | fail)
      refine Hcall.out.mono ?_
      rintro e w5 ⟨l1, al1, A1, c1, rfl, hb5, hr1, hs1⟩
      have Hrow := Lib.hid (Hrow.out.below hb5 Hrow.out.lt)
      have Hb := Lib.hid (below_onF Hb.out hb5 Hb.out.size)
      have Hr1 := Lib.hid hr1
      have Hs1 := Lib.hid hs1
      clear hb5 hr1 hs1 Hcall
      have hcall := refWagons_any pc WA nw wc old new A B ca cb w5 Hpc.out (((Ho.out.below Hb.out).more Hb.out.size).rdF Po.out) (((Hn.out.below Hb.out).more Hb.out.size).rdF Pn.out) lo ln Nlo.out Nln.out hnw
      have Hcall := Lib.hid hcall
      clear hcall
      go_wp2_with (first
        | (show wpList _ _ _ (⟨some 33, Op.load 47 _, _, _, _, _⟩ :: _) _ _; refine wpList_load_mid rfl 47 _ rfl ba 0 rfl pc _ (row_rangeQ Hrow.out) Try.underlying47 rfl Hlp.out ?_)
        | fail)
      refine Hcall.out.mono ?_
      rintro e w6 ⟨A2, c2, rfl, hb6, hr2⟩
      obtain ⟨rfl, rfl⟩ : l1 = hitsTo old new nw ∧ al1 = allTo old new (old ++ new).length := Hs1.out.unique (ref_spec (fun r hr => (Ho.out.ok r hr).1) (fun r hr => (Hn.out.ok r hr).1) (by omega) (by omega) nw)
      have Hlen1 : Hid ((hitsTo old new nw).length ≤ 4611686018427387904) := Lib.hid (by have := hitsTo_len old new nw; omega)
      obtain ⟨L, hL⟩ : ∃ L, L = hitsTo old new nw := ⟨_, rfl⟩
      obtain ⟨al, hal⟩ : ∃ al, al = allTo old new (old ++ new).length := ⟨_, rfl⟩
      rw [← hL] at Hr1 hr2 Hlen1 Hs1 ⊢
      rw [← hal] at Hs1 ⊢
      have Hrow := Lib.hid (Hrow.out.below hb6 Hrow.out.lt)
      have Hb := Lib.hid (below_onF Hb.out hb6 Hb.out.size)
      have Hr1 := Lib.hid ((Hr1.out.below hb6).more hb6.size)
      have Hr2 := Lib.hid hr2
      clear hb6 hr2 Hcall hL hal
      go_wp2_with fail
      obtain ⟨ob, hob⟩ : ∃ ob, ob = w6.heap.size := ⟨_, rfl⟩
      have hobr : ob ≤ w6.heap.size := Nat.le_of_eq hob
      have Hwob : Hid (w.heap.size ≤ ob) := Lib.hid (by rw [hob]; exact Hb.out.size)
      have Ho2 : Hid (RdW w6 ob A old) := Lib.hid ((Ho.out.below Hb.out).more (by rw [hob]; exact Hb.out.size))
      have Hob := Lib.hid hob
      clear hob
      go_loopw [11, 12] (fun o i wx => ∃ (j : Nat) (r : List Rp), j ≤ old.length ∧ i = .int .i64 ((j : Int) - 1) ∧ Hid (r = (old.drop j).reverse ∧ r.length + j = old.length) ∧ wx.ownsRow ob 58 21 o r.length (flat Rp.cells r) ∧ Below ob w6 wx ∧ ob ≤ wx.heap.size)
        (fun _ i _ => (intOf i + 1).toNat)
      case atStart => exact ⟨old.length, [], Nat.le_refl _, rfl, Lib.hid ⟨by simp, by simp⟩, World.ownsRow_nil _ _ _ _, Below.refl _ _, hobr⟩
      case round =>
        obtain ⟨j, r, hj, rfl, hrel, hown, hbel, hobx⟩ := hrel
        by_cases hlt : 0 < j
        · obtain ⟨m, rfl⟩ : ∃ m, j = m + 1 := ⟨j - 1, by omega⟩
          rw [show (((m + 1 : Nat) : Int) - 1) = (m : Int) from by omega]
          obtain ⟨x, hx⟩ : ∃ x, old[m]? = some x := ⟨_, List.getElem?_eq_getElem (by omega)⟩
          obtain ⟨b, off, rfl, hbw, cx⟩ := Ho2.out.row m x hx
          have i0 : (0 : Int) ≤ (m : Int) := by omega
          have i4 : (m : Int) < (old.length : Int) := by omega
          have Hst : Hid (r ++ [x] = (old.drop m).reverse) := Lib.hid (by rw [drop_revR hx, hrel.out.1])
          have Hl2 := Lib.hid hrel.out.2
          obtain ⟨xc, hxc⟩ : ∃ xc, xc = x.cells := ⟨_, rfl⟩
          have Hrg : Hid (wr.rangeAt b (off + m * 21) xc) := Lib.hid (by rw [hxc]; exact fun jj v hv => (hbel.cell (p := ⟨b, _, none⟩) hbw).trans (cx jj v hv))
          have Hlx : Hid ((Try.prog.info? 58).map (·.size) = some xc.length) := Lib.hid (by rw [hxc]; kernel_rfl)
          have Hxc := Lib.hid hxc
          have Hown := Lib.hid hown
          have Hbel := Lib.hid hbel
          have HrL : Hid (r.length ≤ 900) := Lib.hid (by have := hrel.out.2; omega)
          clear hx hbw cx hxc hown hbel hrel
          go_wp2_with (first
            | (show wpList _ _ _ (⟨some 50, Op.load 58 _, _, _, _, _⟩ :: _) _ _; refine wpList_load_mid rfl 58 _ rfl b (off + m * 21) rfl xc _ Hrg.out Try.underlying58 rfl Hlx.out ?_)
            | (show wpList _ _ _ (⟨some 51, Op.buildSlice 48 1 _, _, _, _, _⟩ :: _) _ _; refine wpList_buildSlice_rp rfl _ rfl x (by rw [← Hxc.out]; rfl) ?_)
            | (show wpList _ _ _ (⟨some 52, _, _, _, _, _⟩ :: _) _ _
               refine wpList_append_rp rfl _ _ rfl ob _ r rfl Hown.out x rfl HrL.out hobx ?_
               intro v8 w8 hown8 hb8 hob8
               have Hown8 := Lib.hid hown8
               have Hb8 := Lib.hid (Hbel.out.trans hb8)
               have Hob8 := Lib.hid hob8
               clear hown8 hb8 hob8)
            | fail)
          go_roundw
          case rel => exact ⟨m, r ++ [x], by omega, by go_num, Lib.hid ⟨Hst.out, by have := Hl2.out; simp; omega⟩, Hown8.out, Hb8.out, Hob8.out⟩
          case measure => simp [intOf]
        · obtain rfl : j = 0 := by omega
          obtain ⟨hr, hr'⟩ := hrel.out
          rw [List.drop_zero] at hr
          subst hr
          obtain ⟨A3, c3, rfl, hr3, _⟩ := rps_own hown
          have hB : Below w.heap.size w wr := below_onF Hb.out (by rw [← Hob.out]; exact hbel) Hb.out.size
          have hrow6 : Row wr ba 47 pc.toArray := Hrow.out.below (by rw [← Hob.out] at *; exact hbel) Hrow.out.lt
          have hr16 := (Hr1.out.below (w' := wr) (by rw [← Hob.out]; exact hbel)).more (by rw [← Hob.out]; exact hobx)
          have hr26 := (Hr2.out.below (w' := wr) (by rw [← Hob.out]; exact hbel)).more (by rw [← Hob.out]; exact hobx)
          have hturn : RdR wr wr.heap.size A3 old.reverse := ⟨hr3, fun r hr => RdE.more (RdE.below (Ho.out.ok r (List.mem_reverse.1 hr)).2 hB) hB.size, fun r hr => (Ho.out.ok r (List.mem_reverse.1 hr)).1, fun r hr => Nat.le_trans (Po.out r (List.mem_reverse.1 hr)) (by decide)⟩
          have hcall := wagons_any pc WA nw wc new old.reverse B A3 cb c3 wr Hpc.out (((Hn.out.below hB).more hB.size).rdR Pn.out) hturn (by rw [List.length_reverse]; omega)
          rw [List.length_reverse] at hcall
          have Hcall := Lib.hid hcall
          have HB := Lib.hid hB
          have Hrow := Lib.hid hrow6
          have Hr1 := Lib.hid hr16
          have Hr2 := Lib.hid hr26
          have j0 : (((0 : Nat) : Int) - 1) = -1 := rfl
          rw [j0, List.length_reverse]
          clear hown hr3 hbel hrel hr' hcall hB hrow6 hr16 hr26 hturn j0
          go_wp2_with (first
            | (show wpList _ _ _ (⟨some 54, Op.load 47 _, _, _, _, _⟩ :: _) _ _; refine wpList_load_mid rfl 47 _ rfl ba 0 rfl pc _ (row_rangeQ Hrow.out) Try.underlying47 rfl Hlp.out ?_)
            | fail)
          refine Hcall.out.mono ?_
          rintro e w7 ⟨l3, al3, A4, c4, rfl, hb7, hr4, hs3⟩
          obtain ⟨rfl, rfl⟩ : l3 = L ∧ al3 = al := (hs3.congr (fun a => (cnts_turned (by omega) (by omega) a).symm)).unique Hs1.out
          have HB := Lib.hid (below_onF HB.out hb7 HB.out.size)
          have Hr1 := Lib.hid ((Hr1.out.below hb7).more hb7.size)
          have Hr2 := Lib.hid ((Hr2.out.below hb7).more hb7.size)
          have Hr4 := Lib.hid hr4
          clear hb7 hr4 hs3 Hcall
          go_wp2_with fail
          have hcall := sameInts_any A1 A2 l3 l3 c1 c2 w7 Hr1.out Hr2.out Hlen1.out
          rw [decide_eq_true (rfl : l3 = l3)] at hcall
          refine hcall.mono ?_
          clear hcall
          rintro e w8 ⟨rfl, hb8⟩
          have HB := Lib.hid (below_onF HB.out hb8 HB.out.size)
          have Hr1 := Lib.hid ((Hr1.out.below hb8).more hb8.size)
          have Hr4 := Lib.hid ((Hr4.out.below hb8).more hb8.size)
          clear hb8
          go_wp2_with fail
          have hcall := sameInts_any A1 A4 l3 l3 c1 c4 w8 Hr1.out Hr4.out Hlen1.out
          rw [decide_eq_true (rfl : l3 = l3)] at hcall
          refine hcall.mono ?_
          clear hcall
          rintro e w9 ⟨rfl, hb9⟩
          have HB := Lib.hid (below_onF HB.out hb9 HB.out.size)
          clear hb9
          go_wp2
          go_ret
          exact ⟨rfl, HB.out⟩
    · rw [Bool.not_eq_true] at f2
      rw [f2]
      clear f2
      go_wp2
      go_ret
      exact ⟨rfl, Hb.out⟩
  · rw [Bool.not_eq_true] at f1
    rw [f1]
    clear f1
    go_wp2
    go_ret
    exact ⟨rfl, Hb.out⟩
end Go.Proofs.Ytoiipfcmkogcfaa
