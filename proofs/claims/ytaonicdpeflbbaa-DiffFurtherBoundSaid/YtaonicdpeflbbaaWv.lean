/-
  DiffFurtherBound returns true, walked.
  Conditions: as each theorem states them.
-/
import Derived.Test.YtaonicdpeflbbaaWt
namespace Go.Proofs.Ytaonicdpeflbbaa
open Go.RowKit

theorem Val.tail {n : Nat} {b0 : Bd} {l : List Bd} (h : Val n (b0 :: l)) : Val n l where
  n1 := h.n1
  n2 := h.n2
  len := by have := h.len; simp at this; omega
  ok := fun x hx => h.ok x (List.mem_cons_of_mem _ hx)

def tbR : Option Int → Int × Bool × Int
  | some w => (w, true, 0)
  | none => (0, false, 0)
theorem tight_tbR {m : Nat} {l : List Bd} {a b : Nat} (hV : Val m l) (ha : a < m) (hb : b < m) (hl : (low m l).2 < 0) : tightR m l a b = tbR (tb m l a b) := by
  rw [tight_val hV ha hb hl]
  cases tb m l a b <;> rfl

set_option maxHeartbeats 1600000 in
set_option maxRecDepth 100000 in
theorem law8_any (n : Int) (A : Option Addr) (l : List Bd) (cap : Nat) (b0 : Bd) (i j : Int) (w : World) (h : RdB w w.heap.size A l) (hreach : l.length * 24 ≤ 140737488351232) :
    Calls Try.prog 10 #[.int .i64 n, .slice A l.length cap, .agg #[.int .i64 b0.i, .int .i64 b0.j, .int .i64 b0.w], .int .i64 i, .int .i64 j] w fun e w' => e = .returned (.bool true) ∧ Below w.heap.size w w' := by
  have H := Lib.hid h
  clear h
  go_enter Try.func10, Try.ntmps10
  go_wp2_with fail
  refine (sane_any _).mono ?_
  rintro e w1 ⟨rfl, hb⟩
  have hb0 : Below w.heap.size w (w.alloc (.cells #[.int .i64 b0.i, .int .i64 b0.j, .int .i64 b0.w] 36)) := (Below.refl _ _).alloc (Nat.le_refl _) _
  have H1 := Lib.hid ((((H.out.below hb0).more hb0.size).below hb).more hb.size)
  have hp : w1.cell? ⟨w.heap.size, 0, none⟩ = some (.int .i64 b0.i) ∧ w1.cell? ⟨w.heap.size, 1, none⟩ = some (.int .i64 b0.j) ∧ w1.cell? ⟨w.heap.size, 2, none⟩ = some (.int .i64 b0.w) := by
    have hr : Row w1 w.heap.size 36 #[.int .i64 b0.i, .int .i64 b0.j, .int .i64 b0.w] := (Row.new w 36 _).below hb (by simp)
    exact ⟨hr.cell 0, hr.cell 1, hr.cell 2⟩
  obtain ⟨hp0, hp1, hp2⟩ := hp
  have B1 := Lib.hid (hb0.trans (hb.mono hb0.size))
  clear H hb hb0
  go_wp2_with (at_builtin; refine wpList_append_bds rfl (.tmp 26) (.tmp 27) rfl w1.heap.size _ 1 (bvals [b0]) (by rfl) (own_lit w1 [b0] (by simp [maxLen])) A l cap (by rfl) ?c1 ?c2 ?c3 ?_)
  case c1 => exact (H1.out.below ((Below.refl _ _).alloc (Nat.le_refl _) _)).more (by simp)
  case c2 => omega
  case c3 => simp
  intro v' w2 hown hgrow
  obtain ⟨A2, c2, rfl, hr2⟩ := solve_more hown
  have hb2 : Below w1.heap.size w1 w2 := ((Below.refl w1.heap.size w1).alloc (Nat.le_refl _) _).grown hgrow (by simp) (fun k hk => by simp [Value.ownBlock] at hk; omega)
  have M2 := Lib.hid hr2
  have H2 := Lib.hid ((H1.out.below hb2).more hb2.size)
  have B2 := Lib.hid (B1.out.trans (hb2.mono B1.out.size))
  clear hown hgrow hr2 hb2 H1 B1 hp0 hp1 hp2
  obtain ⟨lm, hlm⟩ : ∃ lm, lm = b0 :: l := ⟨_, rfl⟩
  rw [← hlm] at M2
  rw [← hlm]
  have Hlm := Lib.hid hlm
  clear hlm
  go_wp2_with fail
  refine (valid_any n A2 lm c2 w2 M2.out).mono ?_
  rintro e w3 ⟨rfl, hb⟩
  have H3 := Lib.hid ((H2.out.below hb).more hb.size)
  have M3 := Lib.hid ((M2.out.below hb).more hb.size)
  have B3 := Lib.hid (B2.out.trans (hb.mono B2.out.size))
  clear H2 B2 hb M2
  cases hf : validB n lm with
  | false =>
    have Hf := Lib.hid hf
    clear hf
    go_wp2
    go_ret
    exact ⟨rfl, B3.out⟩
  | true =>
    obtain ⟨m, rfl, hm, hlen2, hV⟩ := validB_un hf
    have HVm := Lib.hid hV
    have HV : Hid (Val m l) := by rw [Hlm.out] at hV; exact hV.tail
    have Hsub : Hid (∀ b, b ∈ l → b ∈ lm) := by rw [Hlm.out]; exact fun b hb => List.mem_cons_of_mem _ hb
    clear hf hV
    by_cases x1 : i < 0
    · go_wp2
      go_ret
      exact ⟨rfl, B3.out⟩
    by_cases x2 : (m : Int) ≤ i
    · go_wp2
      go_ret
      exact ⟨rfl, B3.out⟩
    by_cases x3 : j < 0
    · go_wp2
      go_ret
      exact ⟨rfl, B3.out⟩
    by_cases x4 : (m : Int) ≤ j
    · go_wp2
      go_ret
      exact ⟨rfl, B3.out⟩
    obtain ⟨a, rfl⟩ := Int.eq_ofNat_of_zero_le (show 0 ≤ i by omega)
    obtain ⟨b, rfl⟩ := Int.eq_ofNat_of_zero_le (show 0 ≤ j by omega)
    have ham : a < m := by omega
    have hbm : b < m := by omega
    go_wp2_with fail
    refine (solve_any m A l cap w3 H3.out).mono ?_
    rintro e w4 ⟨v, er, rfl, hs, hb⟩
    have HS := Lib.hid hs
    have H4 := Lib.hid ((H3.out.below hb).more hb.size)
    have M4 := Lib.hid ((M3.out.below hb).more hb.size)
    have B4 := Lib.hid (B3.out.trans (hb.mono B3.out.size))
    clear H3 B3 hb M3 hs
    go_wp2_with fail
    refine (solve_any m A2 lm c2 w4 M4.out).mono ?_
    rintro e w5 ⟨v', er', rfl, hs', hb⟩
    have HS' := Lib.hid hs'
    have H5 := Lib.hid ((H4.out.below hb).more hb.size)
    have M5 := Lib.hid ((M4.out.below hb).more hb.size)
    have B5 := Lib.hid (B4.out.trans (hb.mono B4.out.size))
    have Hb := Lib.hid hb
    clear H4 B4 hb M4 hs'
    by_cases hlm : (low m lm).2 < 0
    · obtain ⟨hl, hx, ht⟩ := low_more HV.out HVm.out Hsub.out hlm
      obtain ⟨rfl, g, rfl, hrow⟩ := HS.out.sol HV.out hl
      obtain ⟨rfl, g', rfl, hrow'⟩ := HS'.out.sol HVm.out hlm
      have R5 := Lib.hid (hrow.below Hb.out hrow.lt)
      have R5' := Lib.hid hrow'
      have S1 := Lib.hid (low_sol HV.out hl).1
      have S1' := Lib.hid (low_sol HVm.out hlm).1
      have T1 := Lib.hid (tight_tbR HV.out ham hbm hl)
      have T2 := Lib.hid (tight_tbR HVm.out ham hbm hlm)
      have HX := Lib.hid hx
      have HT := Lib.hid (ht a b ham hbm)
      clear HS HS' hrow hrow' hl hlm hx ht Hb
      go_wp2_with fail
      refine (tight_any m A l cap a b w5 H5.out).mono ?_
      rintro e w6 ⟨he, hb⟩
      rw [TightRes, T1.out] at he
      have M6 := Lib.hid ((M5.out.below hb).more hb.size)
      have B6 := Lib.hid (B5.out.trans (hb.mono B5.out.size))
      have R6 := Lib.hid (R5.out.below hb R5.out.lt)
      have R6' := Lib.hid (R5'.out.below hb R5'.out.lt)
      clear H5 M5 B5 R5 R5' hb
      obtain ⟨r1, r2, hr, hcase⟩ : ∃ r1 : Int, ∃ r2 : Bool, tbR (tb m l a b) = (r1, r2, (0 : Int)) ∧ (r2 = false ∨ tb m l a b = some r1) := by
        cases tb m l a b with
        | none => exact ⟨_, _, rfl, .inl rfl⟩
        | some x => exact ⟨_, _, rfl, .inr rfl⟩
      rw [hr] at he
      subst he
      have HC := Lib.hid hcase
      clear hr hcase
      go_wp2_with fail
      refine (tight_any m A2 lm c2 a b w6 M6.out).mono ?_
      rintro e w7 ⟨he, hb⟩
      rw [TightRes, T2.out] at he
      have B7 := Lib.hid (B6.out.trans (hb.mono B6.out.size))
      have R7 := Lib.hid (R6.out.below hb R6.out.lt)
      have R7' := Lib.hid (R6'.out.below hb R6'.out.lt)
      clear M6 B6 R6 R6' hb
      obtain ⟨s1, s2, hs, hok⟩ : ∃ s1 : Int, ∃ s2 : Bool, tbR (tb m lm a b) = (s1, s2, (0 : Int)) ∧ (r2 = false ∨ (s2 = true ∧ s1 ≤ r1)) := by
        rcases HC.out with h | h
        · cases tb m lm a b with
          | none => exact ⟨_, _, rfl, .inl h⟩
          | some x => exact ⟨_, _, rfl, .inl h⟩
        · obtain ⟨x, hx, hxl⟩ := HT.out r1 h
          rw [hx]
          exact ⟨_, _, rfl, .inr ⟨rfl, hxl⟩⟩
      rw [hs] at he
      subst he
      have hq1 : ((m : Int) != (m : Int)) = false := by simp
      clear hs HC HT T1 T2
      rcases hok with rfl | ⟨rfl, hle⟩
      rotate_left
      cases r2
      all_goals
        go_wp2
        go_loopw [22] (fun i wr => ∃ k : Nat, k ≤ m ∧ i = .int .i64 k ∧ Below w7.heap.size w7 wr) (fun i _ => m - (intOf i).toNat)
        case atStart => exact ⟨0, Nat.zero_le _, rfl, Below.refl _ _⟩
        case round =>
          obtain ⟨k, hk, rfl, hbw⟩ := hrel
          by_cases hkm : k < m
          · obtain ⟨xv, hxv⟩ : ∃ xv, xv = (low m l).1.1.getD k 0 := ⟨_, rfl⟩
            obtain ⟨yv, hyv⟩ : ∃ yv, yv = (low m lm).1.1.getD k 0 := ⟨_, rfl⟩
            have cx : wr.cell? ⟨g, k, none⟩ = some (.int .i64 xv) := by rw [(R7.out.below hbw R7.out.lt).cell, hxv]; exact ints_at (by rw [S1.out]; exact hkm)
            have cy : wr.cell? ⟨g', k, none⟩ = some (.int .i64 yv) := by rw [(R7'.out.below hbw R7'.out.lt).cell, hyv]; exact ints_at (by rw [S1'.out]; exact hkm)
            have hge : ¬ xv < yv := by
              have := HX.out k hkm
              omega
            have q2 : (k : Int) < (m : Int) := by omega
            clear hxv hyv
            go_wp2
            go_quiet (fail)
            go_wp2
            go_roundw
            case rel => exact ⟨k + 1, by omega, by go_num, Below.drewsN hbw _⟩
            case measure => simp [intOf]; omega
          · go_wp2
            go_ret
            exact ⟨rfl, B7.out.trans (hbw.mono B7.out.size)⟩
    · have hcyc' := HS'.out.cyc HVm.out hlm
      obtain ⟨rfl, rfl⟩ := hcyc'
      have Hlm' := Lib.hid hlm
      by_cases hl : (low m l).2 < 0
      · obtain ⟨rfl, g, rfl, hrow⟩ := HS.out.sol HV.out hl
        clear HS HS' hrow hl hlm
        go_wp2
        go_ret
        exact ⟨rfl, B5.out⟩
      · obtain ⟨rfl, rfl⟩ := HS.out.cyc HV.out hl
        clear HS HS' hl hlm
        go_wp2
        go_ret
        exact ⟨rfl, B5.out⟩

end Go.Proofs.Ytaonicdpeflbbaa
