/-
  The law LedgerAdds returns true for whatever lines are read.
  Conditions: as each theorem states them.
-/
import Derived.Test.YtcdfjnnkocmeeaaGreatDoorAp
import Derived.Deep.RegionHeld3
namespace Go.Proofs.YtcdfjnnkocmeeaaGreatDoor
open Go.RowKit Go.Lib

set_option maxRecDepth 100000 in
set_option maxHeartbeats 4000000 in
theorem adds_any (l m : List Ln) (A B : Option Addr) (c d : Nat) (w : World) (hk : KT w) (hc : CB w) (hl : RdE Ln.cells 44 w w.heap.size A l) (hm : RdE Ln.cells 44 w w.heap.size B m) (hok : ∀ x ∈ l, x.ok) (hokm : ∀ x ∈ m, x.ok) (hnl : A = none → l = [] ∧ c = 0) (hnm : B = none → m = [] ∧ d = 0) :
    Calls Tryz.prog 4 #[.slice A l.length c, .slice B m.length d] w fun e w' => e = .returned (.bool true) ∧ Below w.heap.size w w' := by
  have Hl := Lib.hid hl
  have Hm := Lib.hid hm
  have Hok := Lib.hid hok
  have Hokm := Lib.hid hokm
  have Hnl := Lib.hid hnl
  have Hnm := Lib.hid hnm
  have Hk := Lib.hid hk
  have Hc := Lib.hid hc
  clear hl hm hok hokm hk hc hnl hnm
  go_enter Tryz.func4, Tryz.ntmps4
  go_wp2_with fail
  refine (sane_any w Hk.out Hc.out).mono ?_
  rintro e w1 ⟨rfl, hb1⟩
  have Hb1 := Lib.hid hb1
  clear hb1
  by_cases h1 : 100 < l.length
  · go_wp2
    go_ret
    exact ⟨rfl, Hb1.out⟩
  by_cases h2 : 100 < m.length
  · go_wp2
    go_ret
    exact ⟨rfl, Hb1.out⟩
  have i1 : (l.length : Int) ≤ 100 := by omega
  have i2 : (m.length : Int) ≤ 100 := by omega
  go_upto_region 5 with fail
  have hown0 := own_empty w1 w1.heap.size 44 44 (Nat.le_refl _)
  have hw0 : w1.heap.size ≤ (w1.alloc (.cells #[] 44)).heap.size := by simp
  have hb01 : Below w1.heap.size w1 (w1.alloc (.cells #[] 44)) := (Below.refl _ _).alloc (Nat.le_refl _) _
  have hb02 : Below w.heap.size w (w1.alloc (.cells #[] 44)) := below_onF Hb1.out hb01 Hb1.out.size
  have hl0 := (Hl.out.below hb02).more hb02.size
  have hm0 := (Hm.out.below hb02).more hb02.size
  have Hown0 := Lib.hid hown0
  have Hw0 := Lib.hid hw0
  have Hb02 := Lib.hid hb02
  have Hl0 := Lib.hid hl0
  have Hm0 := Lib.hid hm0
  have h63 : Hid (0 + l.length ≤ 1000) := Lib.hid (by omega)
  have h64 : Hid (0 + l.length + m.length ≤ 1000) := Lib.hid (by omega)
  obtain ⟨ob, hob⟩ : ∃ ob, ob = w1.heap.size := ⟨_, rfl⟩
  clear hown0 hw0 hb01 hb02 hl0 hm0
  go_wp2_with (first
    | (show wpList _ _ _ (⟨some 27, _, _, _, _, _⟩ :: _) _ _
       refine wpList_append_lns rfl _ _ rfl w1.heap.size _ 0 [] rfl Hown0.out l A c Hl0.out Hnl.out Hok.out rfl h63.out Hw0.out ?_
       intro v1 w2 hown1 hg1
       have hb2 : Below w.heap.size w w2 := Hb02.out.grown hg1 Hb02.out.size (fun k hk => by have := (Hown0.out.lt k hk).1; have := Hb1.out.size; omega)
       have hw2 : w1.heap.size ≤ w2.heap.size := Nat.le_trans Hw0.out hg1.size
       have Hw2 := Lib.hid hw2
       have Hown1 := Lib.hid hown1
       have Hb2 := Lib.hid hb2
       have Hm1 := Lib.hid ((Hm.out.below hb2).more hb2.size)
       clear hown1 hg1 hb2 hw2)
    | (show wpList _ _ _ (⟨some 29, _, _, _, _, _⟩ :: _) _ _
       refine wpList_append_lns rfl _ _ rfl w1.heap.size _ (0 + l.length) _ rfl Hown1.out m B d Hm1.out Hnm.out Hokm.out rfl h64.out Hw2.out ?_
       intro v2 w3 hown2 hg2
       have hb3 : Below w.heap.size w w3 := Hb2.out.grown hg2 Hb2.out.size (fun k hk => by have := (Hown1.out.lt k hk).1; have := Hb1.out.size; omega)
       have Hown2 := Lib.hid hown2
       have Hb3 := Lib.hid hb3
       clear hown2 hg2 hb3)
    | fail)
  have hokb : ∀ x ∈ l ++ m, x.ok := fun x hx => (List.mem_append.1 hx).elim (Hok.out x) (Hokm.out x)
  have hown3 := Hown2.out
  rw [Nat.zero_add, ← List.length_append, List.nil_append, ← flat_append] at hown3
  obtain ⟨A3, c3, rfl, hr3⟩ := rde_own hown3 hokb
  have Hokb := Lib.hid hokb
  have Hr3 := Lib.hid hr3
  have HlB := Lib.hid (show (l ++ m).length ≤ 200 by rw [List.length_append]; omega)
  clear hown3 hr3 hokb Hown2 Hown0
  have hcall := balances_any l A c w3 ((Hl.out.below Hb3.out).more Hb3.out.size) Hok.out (by omega)
  refine hcall.mono ?_
  clear hcall
  rintro e w4 ⟨A4, c4, rfl, hb4, hr4⟩
  have Hb4 := Lib.hid (below_onF Hb3.out hb4 Hb3.out.size)
  have Hr3 := Lib.hid ((Hr3.out.below hb4).more hb4.size)
  have Hr4 := Lib.hid hr4
  clear hb4 hr4
  go_wp2_with fail
  have hcall := balances_any m B d w4 ((Hm.out.below Hb4.out).more Hb4.out.size) Hokm.out (by omega)
  refine hcall.mono ?_
  clear hcall
  rintro e w5 ⟨A5, c5, rfl, hb5, hr5⟩
  have Hb5 := Lib.hid (below_onF Hb4.out hb5 Hb4.out.size)
  have Hr3 := Lib.hid ((Hr3.out.below hb5).more hb5.size)
  have Hr4 := Lib.hid ((Hr4.out.below hb5).more hb5.size)
  have Hr5 := Lib.hid hr5
  clear hb5 hr5
  go_wp2_with fail
  have hcall := balances_any (l ++ m) A3 c3 w5 Hr3.out Hokb.out (by have := HlB.out; omega)
  rw [List.length_append] at hcall
  refine hcall.mono ?_
  clear hcall
  rintro e w6 ⟨A6, c6, rfl, hb6, hr6⟩
  have Hb6 := Lib.hid (below_onF Hb5.out hb6 Hb5.out.size)
  have Hr4 := Lib.hid ((Hr4.out.below hb6).more hb6.size)
  have Hr5 := Lib.hid ((Hr5.out.below hb6).more hb6.size)
  have Hr6 := Lib.hid hr6
  rw [List.map_append] at Hr6 ⊢
  clear hb6 hr6
  by_cases z1 : (balF (l.map Ln.d)).2 = 0
  · by_cases z2 : (balF (m.map Ln.d)).2 = 0
    · obtain ⟨fa, hfa⟩ : ∃ fa : Nat → Int, ∀ k, fa k = flowAt k (l.map Ln.d) := ⟨_, fun _ => rfl⟩
      obtain ⟨fb, hfb⟩ : ∃ fb : Nat → Int, ∀ k, fb k = flowAt k (m.map Ln.d) := ⟨_, fun _ => rfl⟩
      have F1 : Hid (∀ k, k < 336 → ¬ inR (fa k + fb k) = true → balF (l.map Ln.d ++ m.map Ln.d) = ([], 3)) := Lib.hid (by simp only [hfa, hfb]; exact fun k hk h => balF_both_no z1 z2 hk h)
      have F2 : Hid ((balF (l.map Ln.d ++ m.map Ln.d)).2 = 0 → (balF (l.map Ln.d ++ m.map Ln.d)).1.length = 336 ∧ ∀ k, k < 336 → (balF (l.map Ln.d ++ m.map Ln.d)).1[k]? = some (fa k + fb k)) := Lib.hid (by simp only [hfa, hfb]; exact fun h => ⟨balF_len h, fun k hk => balF_both_at h hk⟩)
      have F3 : Hid ((∀ k, k < 336 → inR (fa k + fb k) = true) → (balF (l.map Ln.d ++ m.map Ln.d)).2 = 0) := Lib.hid (by simp only [hfa, hfb]; exact fun h => balF_both_yes z1 z2 h)
      have G1 : Hid (∀ k, k < 336 → (balF (l.map Ln.d)).1[k]? = some (fa k)) := Lib.hid (by simp only [hfa]; exact fun k hk => balF_at z1 hk)
      have G2 : Hid (∀ k, k < 336 → (balF (m.map Ln.d)).1[k]? = some (fb k)) := Lib.hid (by simp only [hfb]; exact fun k hk => balF_at z2 hk)
      have I1 : Hid (∀ k, k < 336 → inR (fa k) = true) := Lib.hid (by simp only [hfa]; exact fun k hk => balF_inR z1 hk)
      have I2 : Hid (∀ k, k < 336 → inR (fb k) = true) := Lib.hid (by simp only [hfb]; exact fun k hk => balF_inR z2 hk)
      rw [z1, z2, balF_len z1, balF_len z2]
      clear z1 z2
      generalize (balF (l.map Ln.d)).1 = la at Hr4 G1
      generalize (balF (m.map Ln.d)).1 = lb at Hr5 G2
      clear hfa hfb
      generalize balF (l.map Ln.d ++ m.map Ln.d) = rb at Hr6 F1 F2 F3 ⊢
      obtain ⟨cl, n3⟩ := rb
      simp only at Hr6 F1 F2 F3 ⊢
      go_wp2_with fail
      go_loopw [12] (fun i wr => ∃ k : Nat, k ≤ 336 ∧ i = .int .i64 k ∧ Hid (∀ j, j < k → inR (fa j + fb j) = true) ∧ Below w6.heap.size w6 wr)
        (fun i _ => 336 - (intOf i).toNat)
      case atStart => exact ⟨0, Nat.zero_le _, rfl, Lib.hid (fun j hj => absurd hj (by omega)), Below.refl _ _⟩
      case round =>
        obtain ⟨k, hk, rfl, hin, hbel⟩ := hrel
        by_cases hlt : k < 336
        · obtain ⟨b1, o1, rfl, hb1w, ca⟩ := Hr4.out k _ (G1.out k hlt)
          obtain ⟨b2, o2, rfl, hb2w, cb⟩ := Hr5.out k _ (G2.out k hlt)
          have i0 : (0 : Int) ≤ (k : Int) := by omega
          have i3 : (k : Int) < 336 := by omega
          have ca' : wr.cell? ⟨b1, o1 + k, none⟩ = some (.int .i64 (fa k)) := (hbel.cell (p := ⟨b1, _, none⟩) hb1w).trans ca
          have cb' : wr.cell? ⟨b2, o2 + k, none⟩ = some (.int .i64 (fb k)) := (hbel.cell (p := ⟨b2, _, none⟩) hb2w).trans cb
          have Hbel := Lib.hid hbel
          have Hca := Lib.hid ca
          have Hcb := Lib.hid cb
          have Ra := Lib.hid (inR_un (I1.out k hlt))
          have Rb := Lib.hid (inR_un (I2.out k hlt))
          clear ca cb hbel
          by_cases hs : inR (fa k + fb k) = true
          · have Hs := Lib.hid hs
            have Hadd : Hid (∀ U, Calls Tryz.prog 17 #[.int .i64 (fa k), .int .i64 (fb k)] U fun e w' => e = .returned (.tuple #[.int .i64 (fa k + fb k), .int .i64 0]) ∧ Below U.heap.size U w') := Lib.hid (fun U => by have := add_any (fa k) (fb k) U Ra.out Rb.out; rwa [okPair_yes hs] at this)
            clear hs
            have hin2 : Hid (∀ j, j < k + 1 → inR (fa j + fb j) = true) := Lib.hid (fun j hj => by
              rcases Nat.lt_succ_iff_lt_or_eq.1 hj with h | rfl
              · exact hin.out j h
              · exact Hs.out)
            go_upto_region 16 with fail
            have S0 : wr.drew.cell? ⟨b1, o1 + k, none⟩ = some (.int .i64 (fa k)) ∧ wr.drew.cell? ⟨b2, o2 + k, none⟩ = some (.int .i64 (fb k)) := ⟨ca', cb'⟩
            clear ca' cb'
            go_region_held3 (fun U => U.cell? ⟨b1, o1 + k, none⟩ = some (.int .i64 (fa k)) ∧ U.cell? ⟨b2, o2 + k, none⟩ = some (.int .i64 (fb k))) (first | exact S0 | exact S1)
              (first
                | (go_at_call 17
                   refine (Hadd.out _).mono ?_
                   rintro e U ⟨rfl, hbU⟩
                   have hbU2 : Below w6.heap.size w6 U := below_onF Hbel.out.drew hbU Hbel.out.size
                   have S1 : U.cell? ⟨b1, o1 + k, none⟩ = some (.int .i64 (fa k)) ∧ U.cell? ⟨b2, o2 + k, none⟩ = some (.int .i64 (fb k)) := ⟨(hbU2.cell (p := ⟨b1, _, none⟩) hb1w).trans Hca.out, (hbU2.cell (p := ⟨b2, _, none⟩) hb2w).trans Hcb.out⟩
                   have HbU := Lib.hid hbU2
                   clear hbU hbU2))
            by_cases h3 : n3 = 0
            · obtain ⟨Hcl, Hat⟩ := F2.out h3
              obtain ⟨b3, o3, rfl, hb3w, cc⟩ := Hr6.out k _ (Hat k hlt)
              have cc' := (HbU.out.cell (p := ⟨b3, _, none⟩) hb3w).trans cc
              subst h3
              rw [Hcl]
              have HCl := Lib.hid Hcl
              clear Hat cc Hcl
              go_wp2
              exact ⟨⟨_, _, ⟨k + 1, by omega, rfl, hin2, HbU.out⟩, rfl, HCl.out.symm, by go_num, HCl.out.symm⟩, by simp [intOf]; omega⟩
            · have e3 : (n3 == 0) = false := by simpa using h3
              go_wp2
              go_roundw
              case rel => exact ⟨k + 1, by omega, by go_num, hin2, HbU.out⟩
              case measure => simp [intOf]; omega
          · have hF := F1.out k hlt hs
            have Hadd : Hid (∀ U, Calls Tryz.prog 17 #[.int .i64 (fa k), .int .i64 (fb k)] U fun e w' => e = .returned (.tuple #[.int .i64 0, .int .i64 3]) ∧ Below U.heap.size U w') := Lib.hid (fun U => by have := add_any (fa k) (fb k) U Ra.out Rb.out; rwa [okPair_no hs] at this)
            injection hF with hF1 hF2
            subst hF1 hF2
            clear hs
            go_upto_region 16 with fail
            have S0 : wr.drew.cell? ⟨b1, o1 + k, none⟩ = some (.int .i64 (fa k)) ∧ wr.drew.cell? ⟨b2, o2 + k, none⟩ = some (.int .i64 (fb k)) := ⟨ca', cb'⟩
            clear ca' cb'
            go_region_held3 (fun U => U.cell? ⟨b1, o1 + k, none⟩ = some (.int .i64 (fa k)) ∧ U.cell? ⟨b2, o2 + k, none⟩ = some (.int .i64 (fb k))) (first | exact S0 | exact S1)
              (first
                | (go_at_call 17
                   refine (Hadd.out _).mono ?_
                   rintro e U ⟨rfl, hbU⟩
                   have hbU2 : Below w6.heap.size w6 U := below_onF Hbel.out.drew hbU Hbel.out.size
                   have S1 : U.cell? ⟨b1, o1 + k, none⟩ = some (.int .i64 (fa k)) ∧ U.cell? ⟨b2, o2 + k, none⟩ = some (.int .i64 (fb k)) := ⟨(hbU2.cell (p := ⟨b1, _, none⟩) hb1w).trans Hca.out, (hbU2.cell (p := ⟨b2, _, none⟩) hb2w).trans Hcb.out⟩
                   have HbU := Lib.hid hbU2
                   clear hbU hbU2))
            go_wp2
            go_ret
            exact ⟨rfl, below_onF Hb6.out HbU.out Hb6.out.size⟩
        · obtain rfl : k = 336 := by omega
          obtain rfl : n3 = 0 := F3.out hin.out
          go_wp2
          go_ret
          exact ⟨rfl, below_onF Hb6.out hbel Hb6.out.size⟩
    · generalize (balF (m.map Ln.d)).2 = n2 at z2 ⊢
      have e2 : (n2 != 0) = true := by simpa using z2
      clear z2
      rw [z1]
      go_wp2
      go_ret
      exact ⟨rfl, Hb6.out⟩
  · generalize (balF (l.map Ln.d)).2 = n1 at z1 ⊢
    have e1 : (n1 != 0) = true := by simpa using z1
    clear z1
    go_wp2
    go_ret
    exact ⟨rfl, Hb6.out⟩
end Go.Proofs.YtcdfjnnkocmeeaaGreatDoor
