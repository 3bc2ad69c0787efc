/-
  turned returns a list from its last element to its first one, and then the list itself; DiffOrder returns true, walked.
  Conditions: as each theorem states them.
-/
import Derived.Test.YtaonicdpeflbbaaWt
namespace Go.Proofs.Ytaonicdpeflbbaa
open Go.RowKit

theorem drop_rev {l : List Bd} {p : Nat} {x : Bd} (hx : l[p]? = some x) : (l.drop (p + 1)).reverse ++ [x] = (l.drop p).reverse := by
  obtain ⟨hp, rfl⟩ := List.getElem?_eq_some_iff.1 hx
  rw [List.drop_eq_getElem_cons hp, List.reverse_cons]

set_option maxHeartbeats 800000 in
theorem turned_any (A : Option Addr) (l : List Bd) (cap : Nat) (w : World) (hl : l.length ≤ 40) (h : RdB w w.heap.size A l) :
    Calls Try.prog 24 #[.slice A l.length cap] w fun e w' => ∃ B c, e = .returned (.slice B (l.reverse ++ l).length c) ∧ RdB w' w'.heap.size B (l.reverse ++ l) ∧ Below w.heap.size w w' := by
  have H := Lib.hid h
  clear h
  go_enter Try.func24, Try.ntmps24
  go_wp2
  have hO : (w.alloc (.cells #[] 36)).ownsRow w.heap.size 36 3 (.slice (some ⟨w.heap.size, 0, none⟩) 0 0) 0 (bvals []) := own_lit w [] (by simp)
  have HO := Lib.hid hO
  have HB := Lib.hid (show Below w.heap.size w (w.alloc (.cells #[] 36)) from (Below.refl _ _).alloc (Nat.le_refl _) _)
  clear hO
  go_loopw [3, 4] (fun v i wr => ∃ q : Int, -1 ≤ q ∧ q < l.length ∧ i = .int .i64 q ∧ wr.ownsRow w.heap.size 36 3 v (l.drop (q + 1).toNat).reverse.length (bvals (l.drop (q + 1).toNat).reverse) ∧ Below w.heap.size w wr)
    (fun _ i _ => (intOf i + 1).toNat)
  case atStart =>
    refine ⟨(l.length : Int) - 1, by omega, by omega, rfl, ?_, HB.out⟩
    rw [show ((l.length : Int) - 1 + 1).toNat = l.length from by omega, List.drop_length]
    exact HO.out
  case round =>
    obtain ⟨q, hq1, hq2, rfl, hown, hb⟩ := hrel
    clear HO HB
    by_cases hq0 : 0 ≤ q
    · obtain ⟨p, rfl⟩ := Int.eq_ofNat_of_zero_le hq0
      have hp : p < l.length := by omega
      obtain ⟨x, hx⟩ : ∃ x, l[p]? = some x := ⟨_, List.getElem?_eq_getElem hp⟩
      obtain ⟨bb, off, rfl, hbw, c0, c1, c2⟩ := H.out.below hb p x hx
      have e1 : (l.drop ((p : Int) + 1).toNat).reverse ++ [x] = (l.drop p).reverse := by
        rw [show ((p : Int) + 1).toNat = p + 1 from by omega]; exact drop_rev hx
      have hlen : (l.drop ((p : Int) + 1).toNat).reverse.length ≤ 40 := by simp; omega
      obtain ⟨L1, hL1⟩ : ∃ L1, L1 = (l.drop ((p : Int) + 1).toNat).reverse := ⟨_, rfl⟩
      rw [← hL1] at hown e1 hlen
      obtain ⟨n1, hn1⟩ : ∃ n1, n1 = L1.length := ⟨_, rfl⟩
      rw [← hn1] at hown hlen
      have Hn1 := Lib.hid hn1
      have E1 := Lib.hid e1
      have hBw := hb.size
      clear hx hL1 e1 hn1
      go_wp2_with (at_builtin; refine wpList_append_bds rfl (.tmp 13) (.tmp 18) rfl w.heap.size _ n1 (bvals L1) (by rfl) (hown.alloc _) (some ⟨wr.heap.size, 0, none⟩) [x] 1 (by rfl) ?c1 ?c2 ?c3 ?_)
      case c1 => exact RdB.of_row (Row.new wr 36 (bvals [x]).toArray) (by simp) (fun _ _ h => h)
      case c2 => simp; omega
      case c3 => simp; omega
      intro v' w1 hown1 hgrow
      have hb1 : Below w.heap.size w w1 := (hb.alloc hBw _).grown hgrow (by simp; omega) (fun k hk => (hown.lt k hk).1)
      rw [← bvals_append, E1.out] at hown1
      have hN : n1 + 1 = (l.drop p).reverse.length := by rw [← E1.out, Hn1.out]; simp
      rw [hN] at hown1
      have Hown1 := Lib.hid hown1
      clear hown hgrow hown1 hN
      go_wp2
      go_roundw
      case rel =>
        refine ⟨(p : Int) - 1, by omega, by omega, rfl, ?_, hb1⟩
        rw [show ((p : Int) - 1 + 1).toNat = p from by omega]
        exact Hown1.out
      case measure => simp [intOf]
    · obtain rfl : q = -1 := by omega
      have e1 : (l.drop ((-1 : Int) + 1).toNat).reverse = l.reverse := by simp
      rw [e1] at hown
      have hlr : l.reverse.length = l.length := by simp
      obtain ⟨n1, hn1⟩ : ∃ n1, n1 = l.reverse.length := ⟨_, rfl⟩
      rw [← hn1] at hown hlr
      have Hn1 := Lib.hid hn1
      have hn40 : n1 ≤ 40 := by omega
      have hBw := hb.size
      obtain ⟨L1, hL1⟩ : ∃ L1, L1 = l.reverse := ⟨_, rfl⟩
      rw [← hL1] at hown
      have HL1 := Lib.hid hL1
      clear e1 hlr hn1 hL1
      go_wp2_with (at_builtin; refine wpList_append_bds rfl (.tmp 20) (.tmp 21) rfl w.heap.size _ n1 (bvals L1) (by rfl) hown A l cap (by rfl) ?c1 ?c2 ?c3 ?_)
      case c1 => exact (H.out.below hb).more hb.size
      case c2 => omega
      intro v' w1 hown1 hgrow
      have hb1 : Below w.heap.size w w1 := hb.grown hgrow hBw (fun k hk => (hown.lt k hk).1)
      rw [← bvals_append, HL1.out, show n1 + l.length = (l.reverse ++ l).length from by rw [List.length_append, Hn1.out]] at hown1
      obtain ⟨B, c, rfl, hr⟩ := own_rdb hown1
      have Hr := Lib.hid hr
      clear hown hgrow hown1 hr
      go_wp2
      go_ret
      exact ⟨B, c, rfl, Hr.out, hb1⟩

theorem turned_same (l : List Bd) : ∀ b, b ∈ l ↔ b ∈ l.reverse ++ l := fun b => by simp

theorem solve_turned {n : Int} {l : List Bd} (hl : l.length ≤ 40) : checkF n (l.reverse ++ l) = checkF n l ∧ solE n (l.reverse ++ l) = solE n l ∧ solL n (l.reverse ++ l) = solL n l ∧ ∀ i j, tightR n (l.reverse ++ l) i j = tightR n l i j := by
  have hc : checkF n (l.reverse ++ l) = checkF n l := checkF_same (by omega) (by simp; omega) (turned_same l)
  refine ⟨hc, ?_⟩
  by_cases h0 : checkF n l = 0
  · obtain ⟨m, rfl, hV⟩ := val_of h0
    obtain ⟨m', e, hV'⟩ := val_of (hc.trans h0)
    obtain rfl : m = m' := by omega
    obtain ⟨s1, s2, s3⟩ := low_same hV hV' (turned_same l)
    refine ⟨?_, ?_, fun i j => ?_⟩
    · rw [solE, solE, hc]
      simp only [Int.toNat_natCast]
      by_cases hl : (low m l).2 < 0
      · rw [if_pos h0, if_pos hl, if_pos h0, if_pos (s1.1 hl)]
      · rw [if_pos h0, if_neg hl, if_pos h0, if_neg (fun h => hl (s1.2 h))]
    · rw [solL, solL, hc]
      simp only [Int.toNat_natCast]
      by_cases hl : (low m l).2 < 0
      · rw [if_pos ⟨h0, s1.1 hl⟩, if_pos ⟨h0, hl⟩, s2 hl]
      · rw [if_neg (fun h => hl (s1.2 h.2)), if_neg (fun h => hl h.2)]
    · rw [tightR, tightR, hc]
      simp only [Int.toNat_natCast]
      by_cases hij : 0 ≤ i ∧ i < m ∧ 0 ≤ j ∧ j < m
      · by_cases hl : (low m l).2 < 0
        · rw [if_pos h0, if_pos h0, if_pos hij, if_pos hij, if_pos hl, if_pos (s1.1 hl), s3 _ _ (by omega) (by omega) hl]
        · rw [if_pos h0, if_pos h0, if_pos hij, if_pos hij, if_neg hl, if_neg (fun h => hl (s1.2 h))]
      · rw [if_pos h0, if_pos h0, if_neg hij, if_neg hij]
  · refine ⟨?_, ?_, fun i j => ?_⟩
    · rw [solE, solE, hc, if_neg h0, if_neg h0]
    · rw [solL, solL, hc, if_neg (fun h => h0 h.1), if_neg (fun h => h0 h.1)]
    · rw [tightR, tightR, hc, if_neg h0, if_neg h0]

set_option maxHeartbeats 1600000 in
theorem law7_any (n : Int) (A : Option Addr) (l : List Bd) (cap : Nat) (i j : Int) (w : World) (h : RdB w w.heap.size A l) :
    Calls Try.prog 9 #[.int .i64 n, .slice A l.length cap, .int .i64 i, .int .i64 j] w fun e w' => e = .returned (.bool true) ∧ Below w.heap.size w w' := by
  have H := Lib.hid h
  clear h
  go_enter Try.func9, Try.ntmps9
  go_wp2_with fail
  refine (sane_any w).mono ?_
  rintro e w1 ⟨rfl, hb⟩
  have H1 := Lib.hid ((H.out.below hb).more hb.size)
  have B1 := Lib.hid hb
  clear H hb
  by_cases x1 : 24 < n
  · go_wp2
    go_ret
    exact ⟨rfl, B1.out⟩
  by_cases x2 : 40 < l.length
  · go_wp2
    go_ret
    exact ⟨rfl, B1.out⟩
  have hl40 : l.length ≤ 40 := by omega
  obtain ⟨s1, s2, s3, s4⟩ := solve_turned (n := n) hl40
  have S2 := Lib.hid s2
  have S3 := Lib.hid s3
  have S4 := Lib.hid (s4 i j)
  obtain ⟨t1, t2, t3, ht⟩ : ∃ t1 t2 t3, tightR n l i j = (t1, t2, t3) := ⟨_, _, _, rfl⟩
  have Ht := Lib.hid ht
  clear s1 s2 s3 s4 ht
  go_wp2_with fail
  refine (turned_any A l cap w1 hl40 H1.out).mono ?_
  rintro e w2 ⟨B, c, rfl, hr, hb⟩
  obtain ⟨m, hm⟩ : ∃ m, m = l.reverse ++ l := ⟨_, rfl⟩
  rw [← hm] at hr
  rw [← hm]
  have Hm := Lib.hid hm
  have M2 := Lib.hid hr
  have H2 := Lib.hid ((H1.out.below hb).more hb.size)
  have B2 := Lib.hid (B1.out.trans (hb.mono B1.out.size))
  clear H1 B1 hb hr hm
  go_wp2_with fail
  refine (solve_s n A l cap w2 H2.out).mono ?_
  rintro e w3 ⟨⟨Ax, cx, rfl, hx⟩, hb⟩
  have X3 := Lib.hid hx
  have H3 := Lib.hid ((H2.out.below hb).more hb.size)
  have M3 := Lib.hid ((M2.out.below hb).more hb.size)
  have B3 := Lib.hid (B2.out.trans (hb.mono B2.out.size))
  clear H2 B2 hb hx M2
  go_wp2_with fail
  refine (solve_s n B m c w3 M3.out).mono ?_
  rintro e w4 ⟨⟨Ay, cy, rfl, hy⟩, hb⟩
  rw [Hm.out, S3.out] at hy
  rw [Hm.out, S3.out, S2.out, ← Hm.out]
  have X4 := Lib.hid ((X3.out.below hb).more hb.size)
  have Y4 := Lib.hid hy
  have H4 := Lib.hid ((H3.out.below hb).more hb.size)
  have M4 := Lib.hid ((M3.out.below hb).more hb.size)
  have B4 := Lib.hid (B3.out.trans (hb.mono B3.out.size))
  clear H3 B3 hb hy M3 X3
  go_wp2_with fail
  refine (tight_any n A l cap i j w4 H4.out).mono ?_
  rintro e w5 ⟨he, hb⟩
  rw [TightRes, Ht.out] at he
  subst he
  have X5 := Lib.hid ((X4.out.below hb).more hb.size)
  have Y5 := Lib.hid ((Y4.out.below hb).more hb.size)
  have M5 := Lib.hid ((M4.out.below hb).more hb.size)
  have B5 := Lib.hid (B4.out.trans (hb.mono B4.out.size))
  clear H4 B4 hb M4 X4 Y4
  go_wp2_with fail
  refine (tight_any n B m c i j w5 M5.out).mono ?_
  rintro e w6 ⟨he, hb⟩
  rw [TightRes, Hm.out, S4.out, Ht.out] at he
  subst he
  have X6 := Lib.hid ((X5.out.below hb).more hb.size)
  have Y6 := Lib.hid ((Y5.out.below hb).more hb.size)
  have B6 := Lib.hid (B5.out.trans (hb.mono B5.out.size))
  clear B5 hb M5 X5 Y5
  have hsl := solL_len n l
  go_wp2_with fail
  refine (sameC (solL n l) (solL n l) _ _ X6.out Y6.out rfl rfl rfl (by omega)).mono ?_
  rintro e w7 ⟨rfl, hb⟩
  have B7 := Lib.hid (B6.out.trans (hb.mono B6.out.size))
  clear B6 hb X6 Y6 hsl
  go_wp2
  all_goals go_ret
  all_goals exact ⟨by simp, B7.out⟩

end Go.Proofs.Ytaonicdpeflbbaa
