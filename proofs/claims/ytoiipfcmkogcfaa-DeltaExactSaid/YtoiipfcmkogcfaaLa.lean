/-
  The law DeltaMatches returns true for whatever lists are read.
  Conditions: as each theorem states them.
-/
import Derived.Test.YtoiipfcmkogcfaaSc
import Derived.Test.YtoiipfcmkogcfaaWs
import Derived.Test.YtoiipfcmkogcfaaWo
namespace Go.Proofs.Ytoiipfcmkogcfaa
open Go.RowKit Go.Lib

theorem ln_amount {l : List Ln} (h : ∀ x ∈ l, x.ok) : ∀ d ∈ l.map Ln.d, -9223372036854775808 ≤ d.amount ∧ d.amount ≤ 9223372036854775807 := by
  intro d hd
  obtain ⟨x, hx, rfl⟩ := List.mem_map.1 hd
  have := (h x hx).2.2 x.d.amount (by simp [Dl.nums])
  simp only [Lit.wf, Bool.and_eq_true, decide_eq_true_eq] at this
  exact this

set_option maxRecDepth 100000 in
set_option maxHeartbeats 2000000 in
theorem matches_any (la lb : List Ln) (bal : List Int) (d : List Dl) (A B C D : Option Addr) (ca cb cc cd : Nat) (w : World) (ha : RdE Ln.cells 44 w w.heap.size A la) (hb : RdE Ln.cells 44 w w.heap.size B lb) (oka : ∀ x ∈ la, x.ok) (okb : ∀ x ∈ lb, x.ok)
    (hbal : RdI w w.heap.size C bal) (hd : RdD w w.heap.size D d) :
    Calls Try.prog 3 #[.slice A la.length ca, .slice B lb.length cb, .slice C bal.length cc, .slice D d.length cd] w fun e w' => e = .returned (.bool true) ∧ Below w.heap.size w w' := by
  have Ha := Lib.hid ha
  have Hb := Lib.hid hb
  have Hoka := Lib.hid oka
  have Hokb := Lib.hid okb
  have Hbal := Lib.hid hbal
  have Hd := Lib.hid hd
  clear ha hb oka okb hbal hd
  go_enter Try.func3, Try.ntmps3
  go_wp2_with fail
  refine (sane_any w).mono ?_
  rintro e w1 ⟨rfl, hb1⟩
  have Hb1 := Lib.hid hb1
  clear hb1
  by_cases h1 : 60 < la.length
  · go_wp2
    go_ret
    exact ⟨rfl, Hb1.out⟩
  by_cases h2 : 60 < lb.length
  · go_wp2
    go_ret
    exact ⟨rfl, Hb1.out⟩
  by_cases h3 : 60 < d.length
  · go_wp2
    go_ret
    exact ⟨rfl, Hb1.out⟩
  by_cases h4 : 338 < bal.length
  · go_wp2
    go_ret
    exact ⟨rfl, Hb1.out⟩
  have i1 : (la.length : Int) ≤ 60 := by omega
  have i2 : (lb.length : Int) ≤ 60 := by omega
  have i3 : (d.length : Int) ≤ 60 := by omega
  have i4 : (bal.length : Int) ≤ 338 := by omega
  go_wp2_with fail
  refine (apply_any C D bal d cc cd w1 ((Hbal.out.below Hb1.out).more Hb1.out.size) ((Hd.out.below Hb1.out).more Hb1.out.size) (by omega) (by omega)).mono ?_
  rintro e w2 ⟨A2, c2, rfl, hb2, hrd2⟩
  have Hb2 := Lib.hid (Hb1.out.trans (hb2.mono Hb1.out.size))
  have Hrd2 := Lib.hid hrd2
  clear hb2 hrd2
  go_wp2_with fail
  refine (refApply_any C D bal d cc cd w2 ((Hbal.out.below Hb2.out).more Hb2.out.size) ((Hd.out.below Hb2.out).more Hb2.out.size) (by omega) (by omega)).mono ?_
  rintro e w3 ⟨A3, c3, rfl, hb3, hrd3⟩
  have Hb3 := Lib.hid (Hb2.out.trans (hb3.mono Hb2.out.size))
  have Hrd3 := Lib.hid hrd3
  have Hrd2 := Lib.hid ((Hrd2.out.below hb3).more hb3.size)
  clear hb3 hrd3
  go_wp2_with fail
  refine (diff_any la lb A B ca cb w3 ((Ha.out.below Hb3.out).more Hb3.out.size) ((Hb.out.below Hb3.out).more Hb3.out.size) Hoka.out Hokb.out (by omega)).mono ?_
  rintro e w4 ⟨dl, A4, c4, rfl, hb4, hrd4, hso, hmem⟩
  obtain ⟨s1, m1⟩ := refD_spec (la.map Ln.d) (lb.map Ln.d) (ln_amount Hokb.out)
  obtain rfl : dl = refD (la.map Ln.d) (lb.map Ln.d) := sortedD_ext hso s1 fun x => by rw [hmem, m1]
  have Hb4 := Lib.hid (Hb3.out.trans (hb4.mono Hb3.out.size))
  have Hrd4 := Lib.hid hrd4
  have Hrd2 := Lib.hid ((Hrd2.out.below hb4).more hb4.size)
  have Hrd3 := Lib.hid ((Hrd3.out.below hb4).more hb4.size)
  clear hb4 hrd4 hso hmem s1 m1
  go_wp2_with fail
  refine (refDiff_any la lb A B ca cb w4 ((Ha.out.below Hb4.out).more Hb4.out.size) ((Hb.out.below Hb4.out).more Hb4.out.size) Hoka.out Hokb.out (by omega)).mono ?_
  rintro e w5 ⟨A5, c5, rfl, hb5, hrd5⟩
  have Hb5 := Lib.hid (Hb4.out.trans (hb5.mono Hb4.out.size))
  have Hrd5 := Lib.hid hrd5
  have Hrd4 := Lib.hid ((Hrd4.out.below hb5).more hb5.size)
  have Hrd2 := Lib.hid ((Hrd2.out.below hb5).more hb5.size)
  have Hrd3 := Lib.hid ((Hrd3.out.below hb5).more hb5.size)
  clear hb5 hrd5
  have hdl : (refD (la.map Ln.d) (lb.map Ln.d)).length ≤ 4611686018427387904 := by
    have h1 := LB_len (la.map Ln.d) (lb.map Ln.d)
    have h2 := List.length_filter_le (fun d : Dl => d.amount != 0) (LB (la.map Ln.d) (lb.map Ln.d))
    have h3 : (refD (la.map Ln.d) (lb.map Ln.d)).length ≤ (LB (la.map Ln.d) (lb.map Ln.d)).length := h2
    simp at h1
    omega
  have Hdl := Lib.hid hdl
  clear hdl
  generalize refD (la.map Ln.d) (lb.map Ln.d) = dd at Hrd5 Hrd4 Hdl ⊢
  go_wp2_with fail
  refine (same_any A4 A5 dd dd c4 c5 w5 Hrd4.out Hrd5.out Hdl.out).mono ?_
  rintro e w6 ⟨rfl, hb6⟩
  rw [decide_eq_true (rfl : dd = dd)]
  have Hb6 := Lib.hid (Hb5.out.trans (hb6.mono Hb5.out.size))
  have Hrd2 := Lib.hid ((Hrd2.out.below hb6).more hb6.size)
  have Hrd3 := Lib.hid ((Hrd3.out.below hb6).more hb6.size)
  clear hb6
  have hal : (applyF bal d).1.length ≤ 4611686018427387904 := by
    unfold applyF
    split
    · simp
    · split
      · simp
      · split
        · simp
        · split
          · simp
          · rw [List.length_map, List.length_range]; omega
  have Hal := Lib.hid hal
  clear hal
  generalize applyF bal d = r at Hrd2 Hrd3 Hal ⊢
  obtain ⟨rl, re⟩ := r
  simp only at Hrd2 Hrd3 Hal ⊢
  go_wp2_with fail
  refine (sameInts_any A2 A3 rl rl c2 c3 w6 Hrd2.out Hrd3.out Hal.out).mono ?_
  rintro e w7 ⟨rfl, hb7⟩
  rw [decide_eq_true (rfl : rl = rl)]
  have Hb7 := Lib.hid (Hb6.out.trans (hb7.mono Hb6.out.size))
  clear hb7
  go_wp2
  go_ret
  exact ⟨rfl, Hb7.out⟩

end Go.Proofs.Ytoiipfcmkogcfaa
