/-
  DiffTightIsAttained returns true, walked.
  Conditions: as each theorem states them.
-/
import Derived.Test.YtaonicdpeflbbaaApp
namespace Go.Proofs.Ytaonicdpeflbbaa
open Go.RowKit

/-- One further bound ahead of the others, and Solve of that. -/
theorem solve_more {l : List Bd} {b0 : Bd} {w : World} {base : Nat} {v : Value} (h : w.ownsRow base 36 3 v (1 + l.length) (bvals [b0] ++ bvals l)) :
    ∃ A c, v = .slice A (b0 :: l).length c ∧ RdB w w.heap.size A (b0 :: l) := by
  rw [← bvals_append, show 1 + l.length = ([b0] ++ l).length from by simp; omega] at h
  exact own_rdb h

set_option maxHeartbeats 1600000 in
theorem law6_any (n : Int) (A : Option Addr) (l : List Bd) (cap : Nat) (i j big : Int) (w : World) (h : RdB w w.heap.size A l) :
    Calls Try.prog 8 #[.int .i64 n, .slice A l.length cap, .int .i64 i, .int .i64 j, .int .i64 big] w fun e w' => e = .returned (.bool true) ∧ Below w.heap.size w w' := by
  have H := Lib.hid h
  clear h
  go_enter Try.func8, Try.ntmps8
  go_wp2_with fail
  refine (sane_any w).mono ?_
  rintro e w1 ⟨rfl, hb⟩
  have H1 := Lib.hid ((H.out.below hb).more hb.size)
  have B1 := Lib.hid hb
  clear H hb
  go_wp2_with fail
  refine (valid_any n A l cap w1 H1.out).mono ?_
  rintro e w2 ⟨rfl, hb⟩
  have H2 := Lib.hid ((H1.out.below hb).more hb.size)
  have B2 := Lib.hid (B1.out.trans (hb.mono B1.out.size))
  clear H1 B1 hb
  cases hf : validB n l with
  | false =>
    have Hf := Lib.hid hf
    clear hf
    go_wp2
    go_ret
    exact ⟨rfl, B2.out⟩
  | true =>
    obtain ⟨m, rfl, hm, hlen2, hV⟩ := validB_un hf
    have HV := Lib.hid hV
    clear hf hV
    by_cases x0 : 79 < l.length
    · go_wp2
      go_ret
      exact ⟨rfl, B2.out⟩
    by_cases x1 : i < 0
    · go_wp2
      go_ret
      exact ⟨rfl, B2.out⟩
    by_cases x2 : (m : Int) ≤ i
    · go_wp2
      go_ret
      exact ⟨rfl, B2.out⟩
    by_cases x3 : j < 0
    · go_wp2
      go_ret
      exact ⟨rfl, B2.out⟩
    by_cases x4 : (m : Int) ≤ j
    · go_wp2
      go_ret
      exact ⟨rfl, B2.out⟩
    obtain ⟨a, rfl⟩ := Int.eq_ofNat_of_zero_le (show 0 ≤ i by omega)
    obtain ⟨b, rfl⟩ := Int.eq_ofNat_of_zero_le (show 0 ≤ j by omega)
    have ham : a < m := by omega
    have hbm : b < m := by omega
    by_cases hl : (low m l).2 < 0
    · have ht := tight_val HV.out ham hbm hl
      have Hl := Lib.hid hl
      have Ht := Lib.hid ht
      clear hl ht
      go_wp2_with fail
      refine (tight_any m A l cap a b w2 H2.out).mono ?_
      rintro e w3 ⟨he, hb⟩
      have H3 := Lib.hid ((H2.out.below hb).more hb.size)
      have B3 := Lib.hid (B2.out.trans (hb.mono B2.out.size))
      clear H2 B2 hb
      rw [TightRes, Ht.out] at he
      cases htb : tb m l a b with
      | none =>
        rw [htb] at he
        subst he
        have Htb := Lib.hid htb
        clear htb
        by_cases y1 : big < -1099511627776
        · go_wp2
          go_ret
          exact ⟨rfl, B3.out⟩
        by_cases y2 : 1099511627776 < big
        · go_wp2
          go_ret
          exact ⟨rfl, B3.out⟩
        have ew : IntKind.i64.wrap (-big) = -big := IntWalk.i64_in _ (by omega)
        go_wp2_with (at_builtin; refine wpList_append_bds rfl (.tmp 77) (.tmp 78) rfl w3.heap.size _ 1 (bvals [⟨b, a, -big⟩]) (by rfl) (own_lit w3 [⟨b, a, -big⟩] (by simp [maxLen])) A l cap (by rfl) ?c1 ?c2 ?c3 ?_)
        case c1 => exact (H3.out.below ((Below.refl _ _).alloc (Nat.le_refl _) _)).more (by simp)
        case c2 => omega
        case c3 => simp
        intro v' w4 hown hgrow
        obtain ⟨A4, c4, rfl, hr4⟩ := solve_more hown
        have hb4 : Below w3.heap.size w3 w4 := ((Below.refl w3.heap.size w3).alloc (Nat.le_refl _) _).grown hgrow (by simp) (fun k hk => by simp [Value.ownBlock] at hk; omega)
        have H4 := Lib.hid hr4
        have B4 := Lib.hid (B3.out.trans (hb4.mono B3.out.size))
        clear hown hgrow hr4 hb4 ew
        go_wp2_with fail
        refine (solve_any m A4 (⟨b, a, -big⟩ :: l) c4 w4 H4.out).mono ?_
        rintro e w5 ⟨v, er, rfl, hs, hb⟩
        obtain ⟨rfl, g, rfl, _⟩ := hs.sol (HV.out.cons (by omega) ham hbm (by omega)) (att_none HV.out (by omega) ham hbm Hl.out Htb.out (by omega))
        have B5 := Lib.hid (B4.out.trans (hb.mono B4.out.size))
        clear hb hs
        go_wp2
        go_ret
        exact ⟨rfl, B5.out⟩
      | some wv =>
        rw [htb] at he
        subst he
        have Htb := Lib.hid htb
        clear htb
        by_cases y1 : wv ≤ -1099511627776
        · go_wp2
          go_ret
          exact ⟨rfl, B3.out⟩
        by_cases y2 : 1099511627776 ≤ wv
        · go_wp2
          go_ret
          exact ⟨rfl, B3.out⟩
        have ew : IntKind.i64.wrap (-wv) = -wv := IntWalk.i64_in _ (by omega)
        have hatt := att_some HV.out (show l.length ≤ 79 by omega) ham hbm Hl.out Htb.out ⟨by omega, by omega⟩
        have Hatt := Lib.hid hatt
        clear hatt
        go_wp2_with (at_builtin; refine wpList_append_bds rfl (.tmp 98) (.tmp 99) rfl w3.heap.size _ 1 (bvals [⟨b, a, -wv⟩]) (by rfl) (own_lit w3 [⟨b, a, -wv⟩] (by simp [maxLen])) A l cap (by rfl) ?c1 ?c2 ?c3 ?_)
        case c1 => exact (H3.out.below ((Below.refl _ _).alloc (Nat.le_refl _) _)).more (by simp)
        case c2 => omega
        case c3 => simp
        intro v' w4 hown hgrow
        obtain ⟨A4, c4, rfl, hr4⟩ := solve_more hown
        have hb4 : Below w3.heap.size w3 w4 := ((Below.refl w3.heap.size w3).alloc (Nat.le_refl _) _).grown hgrow (by simp) (fun k hk => by simp [Value.ownBlock] at hk; omega)
        have H4 := Lib.hid hr4
        have L4 := Lib.hid ((H3.out.below hb4).more hb4.size)
        have B4 := Lib.hid (B3.out.trans (hb4.mono B3.out.size))
        clear hown hgrow hr4 hb4
        go_wp2_with fail
        refine (solve_any m A4 (⟨b, a, -wv⟩ :: l) c4 w4 H4.out).mono ?_
        rintro e w5 ⟨v, er, rfl, hs, hb⟩
        obtain ⟨rfl, g, rfl, _⟩ := hs.sol (HV.out.cons (by omega) ham hbm (by omega)) Hatt.out.1
        have L5 := Lib.hid ((L4.out.below hb).more hb.size)
        have B5 := Lib.hid (B4.out.trans (hb.mono B4.out.size))
        clear hb hs H3 B3 H4 L4 B4
        have ew2 : IntKind.i64.wrap (-wv - 1) = -wv - 1 := IntWalk.i64_in _ (by omega)
        go_wp2_with (at_builtin; refine wpList_append_bds rfl (.tmp 112) (.tmp 113) rfl w5.heap.size _ 1 (bvals [⟨b, a, -wv - 1⟩]) (by rfl) (own_lit w5 [⟨b, a, -wv - 1⟩] (by simp [maxLen])) A l cap (by rfl) ?c1 ?c2 ?c3 ?_)
        case c1 => exact (L5.out.below ((Below.refl _ _).alloc (Nat.le_refl _) _)).more (by simp)
        case c2 => omega
        case c3 => simp
        intro v' w6 hown hgrow
        obtain ⟨A6, c6, rfl, hr6⟩ := solve_more hown
        have hb6 : Below w5.heap.size w5 w6 := ((Below.refl w5.heap.size w5).alloc (Nat.le_refl _) _).grown hgrow (by simp) (fun k hk => by simp [Value.ownBlock] at hk; omega)
        have H6 := Lib.hid hr6
        have B6 := Lib.hid (B5.out.trans (hb6.mono B5.out.size))
        clear hown hgrow hr6 hb6 ew ew2
        go_wp2_with fail
        refine (solve_any m A6 (⟨b, a, -wv - 1⟩ :: l) c6 w6 H6.out).mono ?_
        rintro e w7 ⟨v, er, rfl, hs, hb⟩
        obtain ⟨rfl, rfl⟩ := hs.cyc (HV.out.cons (by omega) ham hbm (by omega)) (Int.not_lt.2 Hatt.out.2)
        have B7 := Lib.hid (B6.out.trans (hb.mono B6.out.size))
        clear hb hs
        go_wp2
        go_ret
        exact ⟨rfl, B7.out⟩
    · have ht : tightR m l a b = (0, false, 230) := by
        rw [tightR, if_pos (val_check HV.out), if_pos ⟨by omega, by omega, by omega, by omega⟩]
        exact if_neg hl
      have Ht := Lib.hid ht
      clear ht hl
      go_wp2_with fail
      refine (tight_any m A l cap a b w2 H2.out).mono ?_
      rintro e w3 ⟨he, hb⟩
      have B3 := Lib.hid (B2.out.trans (hb.mono B2.out.size))
      clear H2 B2 hb
      rw [TightRes, Ht.out] at he
      subst he
      go_wp2
      go_ret
      exact ⟨rfl, B3.out⟩

end Go.Proofs.Ytaonicdpeflbbaa
