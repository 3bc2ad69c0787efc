/-
  The law DeltaExact returns true for whatever lists are read.
  Conditions: as each theorem states them.
-/
import Derived.Test.YtoiipfcmkogcfaaLa
import Derived.Test.YtoiipfcmkogcfaaTn
import Derived.Test.YtoiipfcmkogcfaaBw
namespace Go.Proofs.Ytoiipfcmkogcfaa
open Go.RowKit Go.Lib

theorem smallD_of {l : List Ln} {m : Int} (h : (l.all fun x => decide (-m ≤ x.d.amount ∧ x.d.amount ≤ m)) = true) : smallD m (l.map Ln.d) := by
  intro d hd
  obtain ⟨x, hx, rfl⟩ := List.mem_map.1 hd
  have := List.all_eq_true.1 h x hx
  simpa using this

set_option maxRecDepth 100000 in
set_option maxHeartbeats 2000000 in
theorem exact_any (la lb : List Ln) (A B : Option Addr) (ca cb : Nat) (w : World) (ha : RdE Ln.cells 44 w w.heap.size A la) (hb : RdE Ln.cells 44 w w.heap.size B lb) (oka : ∀ x ∈ la, x.ok) (okb : ∀ x ∈ lb, x.ok) :
    Calls Try.prog 7 #[.slice A la.length ca, .slice B lb.length cb] w fun e w' => e = .returned (.bool true) ∧ Below w.heap.size w w' := by
  have Ha := Lib.hid ha
  have Hb := Lib.hid hb
  have Hoka := Lib.hid oka
  have Hokb := Lib.hid okb
  clear ha hb oka okb
  go_enter Try.func7, Try.ntmps7
  go_wp2_with fail
  refine (sane_any w).mono ?_
  rintro e w1 ⟨rfl, hb1⟩
  have Hb1 := Lib.hid hb1
  clear hb1
  by_cases h1 : 60 < la.length
  · go_wp2
    go_ret
    exact ⟨rfl, Hb1.out⟩
  by_cases h2 : 60 < lb.length
  · go_wp2
    go_ret
    exact ⟨rfl, Hb1.out⟩
  have i1 : (la.length : Int) ≤ 60 := by omega
  have i2 : (lb.length : Int) ≤ 60 := by omega
  go_wp2_with fail
  refine (small_any la A ca 70368744177664 w1 ((Ha.out.below Hb1.out).more Hb1.out.size) (by decide) (by omega)).mono ?_
  rintro e w2 ⟨rfl, rfl⟩
  by_cases hsa : (la.all fun x => decide (-70368744177664 ≤ x.d.amount ∧ x.d.amount ≤ 70368744177664)) = true
  · rw [hsa]
    have Hsa := Lib.hid (smallD_of hsa)
    clear hsa
    go_wp2_with fail
    refine (small_any lb B cb 70368744177664 w2 ((Hb.out.below Hb1.out).more Hb1.out.size) (by decide) (by omega)).mono ?_
    rintro e w3 ⟨rfl, rfl⟩
    by_cases hsb : (lb.all fun x => decide (-70368744177664 ≤ x.d.amount ∧ x.d.amount ≤ 70368744177664)) = true
    · rw [hsb]
      have Hsb := Lib.hid (smallD_of hsb)
      clear hsb
      go_wp2_with fail
      refine (balances_any la A ca w3 ((Ha.out.below Hb1.out).more Hb1.out.size) Hoka.out (by omega)).mono ?_
      rintro e w4 ⟨A4, c4, rfl, hb4, hrd4⟩
      have Hb4 := Lib.hid (Hb1.out.trans (hb4.mono Hb1.out.size))
      have Hrd4 := Lib.hid hrd4
      clear hb4 hrd4
      go_wp2_with fail
      refine (balances_any lb B cb w4 ((Hb.out.below Hb4.out).more Hb4.out.size) Hokb.out (by omega)).mono ?_
      rintro e w5 ⟨A5, c5, rfl, hb5, hrd5⟩
      have Hb5 := Lib.hid (Hb4.out.trans (hb5.mono Hb4.out.size))
      have Hrd5 := Lib.hid hrd5
      have Hrd4 := Lib.hid ((Hrd4.out.below hb5).more hb5.size)
      clear hb5 hrd5
      by_cases hea : (balF (la.map Ln.d)).2 = 0
      · by_cases heb : (balF (lb.map Ln.d)).2 = 0
        · have Hea := Lib.hid hea
          have Heb := Lib.hid heb
          rw [hea, heb]
          have hl4 : (balF (la.map Ln.d)).1.length ≤ 4611686018427387904 := by rw [(balF_zero hea).2.2, sumsB_len]; omega
          have Hl4 := Lib.hid hl4
          have hl5 : (balF (lb.map Ln.d)).1.length ≤ 4611686018427387904 := by rw [(balF_zero heb).2.2, sumsB_len]; omega
          have Hl5 := Lib.hid hl5
          clear hea heb hl4 hl5
          go_wp2_with fail
          refine (diff_any la lb A B ca cb w5 ((Ha.out.below Hb5.out).more Hb5.out.size) ((Hb.out.below Hb5.out).more Hb5.out.size) Hoka.out Hokb.out (by omega)).mono ?_
          rintro e w6 ⟨dl, A6, c6, rfl, hb6, hrd6, hso, hmem⟩
          have Hd := Lib.hid (isD_of (by decide) (by decide) Hsa.out Hsb.out (by simp; omega) (by simp; omega) hso hmem)
          have hdl : dl.length * 72 ≤ 140737488355328 := by
            obtain ⟨s1, m1⟩ := refD_spec (la.map Ln.d) (lb.map Ln.d) (ln_amount Hokb.out)
            obtain rfl : dl = refD (la.map Ln.d) (lb.map Ln.d) := sortedD_ext hso s1 fun x => by rw [hmem, m1]
            have h1 := LB_len (la.map Ln.d) (lb.map Ln.d)
            have h2 := List.length_filter_le (fun d : Dl => d.amount != 0) (LB (la.map Ln.d) (lb.map Ln.d))
            have h3 : (refD (la.map Ln.d) (lb.map Ln.d)).length ≤ (LB (la.map Ln.d) (lb.map Ln.d)).length := h2
            simp at h1
            omega
          have Hdl := Lib.hid hdl
          have Hb6 := Lib.hid (Hb5.out.trans (hb6.mono Hb5.out.size))
          have Hrd6 := Lib.hid hrd6
          have Hrd4 := Lib.hid ((Hrd4.out.below hb6).more hb6.size)
          have Hrd5 := Lib.hid ((Hrd5.out.below hb6).more hb6.size)
          clear hb6 hrd6 hso hmem hdl
          go_wp2_with fail
          refine (apply_any A4 A6 _ dl c4 c6 w6 Hrd4.out Hrd6.out Hl4.out Hdl.out).mono ?_
          rintro e w7 ⟨A7, c7, rfl, hb7, hrd7⟩
          obtain ⟨x1, x2⟩ := exact_apply Hd.out Hsa.out Hsb.out (by simp; omega) (by simp; omega) Hea.out Heb.out
          rw [x1, x2]
          rw [x2] at hrd7
          have Hb7 := Lib.hid (Hb6.out.trans (hb7.mono Hb6.out.size))
          have Hrd7 := Lib.hid hrd7
          have Hrd5 := Lib.hid ((Hrd5.out.below hb7).more hb7.size)
          clear hb7 hrd7 x1 x2
          generalize (balF (lb.map Ln.d)).1 = rl at Hrd7 Hrd5 Hl5 ⊢
          go_wp2_with fail
          refine (sameInts_any A5 A7 rl rl c5 c7 w7 Hrd5.out Hrd7.out Hl5.out).mono ?_
          rintro e w8 ⟨rfl, hb8⟩
          rw [decide_eq_true (rfl : rl = rl)]
          have Hb8 := Lib.hid (Hb7.out.trans (hb8.mono Hb7.out.size))
          clear hb8
          go_wp2
          go_ret
          exact ⟨rfl, Hb8.out⟩
        · rw [hea]
          have e1 : ((balF (lb.map Ln.d)).2 != 0) = true := by simpa using heb
          clear hea heb
          generalize (balF (lb.map Ln.d)).2 = eb at e1
          go_wp2
          go_ret
          exact ⟨rfl, Hb5.out⟩
      · have e1 : ((balF (la.map Ln.d)).2 != 0) = true := by simpa using hea
        clear hea
        generalize (balF (la.map Ln.d)).2 = ea at e1
        go_wp2
        go_ret
        exact ⟨rfl, Hb5.out⟩
    · have hf : (lb.all fun x => decide (-70368744177664 ≤ x.d.amount ∧ x.d.amount ≤ 70368744177664)) = false := by simpa using hsb
      rw [hf]
      clear hf hsb
      go_wp2
      go_ret
      exact ⟨rfl, Hb1.out⟩
  · have hf : (la.all fun x => decide (-70368744177664 ≤ x.d.amount ∧ x.d.amount ≤ 70368744177664)) = false := by simpa using hsa
    rw [hf]
    clear hf hsa
    go_wp2
    go_ret
    exact ⟨rfl, Hb1.out⟩

end Go.Proofs.Ytoiipfcmkogcfaa
