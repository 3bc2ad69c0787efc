/-
  What diff.Cycle returns for every system.
  Conditions: as each theorem states them.
-/
import Derived.Test.YtaonicdpeflbbaaWf
import Derived.Test.YtaonicdpeflbbaaCyc
import Derived.Deep.LoopGhost
namespace Go.Proofs.Ytaonicdpeflbbaa
open Go.RowKit

theorem cyc_cells {n : Nat} {l : List Bd} {last : Int} {bys : List Int} {ch ix : Nat → Nat} {bd : Nat → Bd} {p : Nat} (h : CycD n l last bys ch ix bd p) {w : World} {B gy bl off : Nat} (hlen : bys.length = n)
    (ry : Row w gy 3 (ints bys)) (hr : RdB w B (some ⟨bl, off, none⟩) l) (k : Nat) :
    w.cell? ⟨gy, ch k, none⟩ = some (.int .i64 (ix k)) ∧ w.cell? ⟨bl, off + ix k * 3, none⟩ = some (.int .i64 (ch (k + 1))) ∧ ix k < l.length ∧ ch k < n := by
  have h1 := h.lt k
  have h2 := h.at_ k
  obtain ⟨b, o, e, _, c0, _, _⟩ := hr _ _ h2
  injection e with e
  injection e with e1 e2
  subst e1
  subst e2
  refine ⟨?_, by rw [← h.i_ k]; exact c0, (List.getElem?_eq_some_iff.1 h2).1, h1⟩
  rw [ry.cell, ints_at (by rw [hlen]; exact h1), h.by_ k]

theorem size_setCells (b : Nat) : ∀ (vs : List Value) (o : Nat) (w : World), (w.setCells b o vs).heap.size = w.heap.size
  | [], _, _ => rfl
  | v :: r, o, w => by rw [World.setCells, size_setCells b r]; simp [World.setCell]

theorem rev_own {B n : Nat} {v : Value} {zs : List Int} {w : World} (hown : w.ownsRow B 3 1 v n (zs.map (Value.int .i64))) (h0 : 0 < n) :
    ∃ g cap, v = .slice (some ⟨g, 0, none⟩) n cap ∧ B ≤ g ∧ Calls Try.prog 27 #[v] w fun e w' => e = .returned (.tuple #[]) ∧ RdI w' w'.heap.size (some ⟨g, 0, none⟩) zs.reverse ∧ Below B w w' := by
  have hlen : zs.length = n := by have := hown.1; simpa using this
  rcases hown.2 with ⟨_, e⟩ | ⟨g, cap, cur, rfl, hg, hh, hnc, hcap, hsz, htake⟩
  · omega
  · refine ⟨g, cap, rfl, hg, ?_⟩
    have hcl : ∀ j, j < n → w.cell? ⟨g, j, none⟩ = some (.int .i64 (zs.getD j 0)) := by
      intro j hj
      rw [cell_of_row w g j cur 3 (0, 0) hh]
      have h1 : (cur.toList.take (n * 1))[j]? = some (.int .i64 (zs.getD j 0)) := by
        rw [htake]
        simp [List.getD, List.getElem?_eq_getElem (show j < zs.length by omega)]
      rw [List.getElem?_take_of_lt (by omega)] at h1
      simpa using h1
    have hf : ∀ j, w.frozen? ⟨g, j, none⟩ = false := fun j => by simp [World.frozen?, hh]
    refine (Try.slices_Reverse_int_cells g 0 n cap zs w (by omega) (by unfold maxLen at hcap; omega) (fun j hj => by rw [Nat.zero_add]; exact hcl j (by omega)) (fun j _ => hf _)).mono ?_
    rintro e w' ⟨rfl, q, rfl⟩
    rw [List.take_of_length_le (by omega)]
    refine ⟨rfl, ?_, Below.cells hg _ _ (Below.drewsN (Below.refl _ _) q)⟩
    intro k x hx
    refine ⟨g, 0, rfl, ?_, ?_⟩
    · rw [size_setCells]; exact (Array.getElem?_eq_some_iff.1 hh).1
    · have hk : k < zs.reverse.length := (List.getElem?_eq_some_iff.1 hx).1
      rw [World.cell?_setCells_in g _ 0 (w.drewN q) (fun j hj => by
        rw [Nat.zero_add]
        have : (w.drewN q).cell? ⟨g, j, none⟩ = some (.int .i64 (zs.getD j 0)) := hcl j (by simp at hj; omega)
        rw [this]; rfl) k (by simpa using hk)]
      rw [List.getElem_map]
      rw [List.getElem?_eq_getElem hk] at hx
      injection hx with hx
      rw [hx]

set_option maxHeartbeats 800000 in
theorem cycle_any (n : Int) (A : Option Addr) (l : List Bd) (cap : Nat) (w : World) (h : RdB w w.heap.size A l) :
    Calls Try.prog 16 #[.int .i64 n, .slice A l.length cap] w fun e w' => ∃ v er, e = .returned (.tuple #[v, .int .i64 er]) ∧ CycleRes n l w.heap.size w' v er ∧ Below w.heap.size w w' := by
  have H := Lib.hid h
  clear h
  by_cases hc : checkF n l = 0
  · obtain ⟨m, rfl, hV⟩ := val_of hc
    have Hc := Lib.hid hc
    have HV := Lib.hid hV
    have h2 := hV.n2
    have h3 := hV.len
    clear hc hV
    obtain ⟨i0, hi, hz0, hz1, hz2⟩ := info_parts info3'
    go_enter Try.func16, Try.ntmps16
    go_wp2_with fail
    refine (check_any _ A l cap w H.out).mono ?_
    rintro e w1 ⟨rfl, hb⟩
    rw [Hc.out]
    have H1 := Lib.hid ((H.out.below hb).more hb.size)
    have Hb := Lib.hid hb
    clear hb
    go_wp2_with fail
    refine (lowest_any m A l cap w1 HV.out.n1 HV.out.n2 h3 HV.out.ok H1.out).mono ?_
    rintro e w2 ⟨gx, gy, rfl, rx, ry, hgx, hgy, hb2⟩
    have Ry := Lib.hid ry
    have Hb2 := Lib.hid hb2
    have Hgy := Lib.hid hgy
    clear rx ry hb2 hgx hgy
    by_cases hl : (runs lowStp l m (low0 m) (-1)).2 < 0
    · go_wp2
      go_ret2
      refine ⟨_, _, rfl, ?_, Hb.out.trans (Hb2.out.mono Hb.out.size)⟩
      rw [CycleRes, if_pos Hc.out, if_pos (by exact hl)]
      exact ⟨rfl, rfl⟩
    · obtain ⟨ch, ix, bd, p, hD⟩ := cyc_data HV.out (Int.not_lt.1 hl)
      obtain ⟨b0, hb0, hj0⟩ := hD.start
      obtain ⟨B, hB⟩ : ∃ B, B = w2.heap.size := ⟨_, rfl⟩
      have H2 := Lib.hid ((H1.out.below Hb2.out).more Hb2.out.size)
      obtain ⟨bl, off, rfl, hbl, c0, c1, c2⟩ := H2.out _ b0 hb0
      have hlast : (low m l).2.toNat < l.length := (List.getElem?_eq_some_iff.1 hb0).1
      obtain ⟨la, hla⟩ : ∃ la : Nat, (runs lowStp l m (low0 m) (-1)).2 = (la : Int) := ⟨_, (Int.toNat_of_nonneg (Int.not_lt.1 hl)).symm⟩
      have hla2 : (low m l).2.toNat = la := by show (runs lowStp l m (low0 m) (-1)).2.toNat = la; rw [hla]; rfl
      rw [hla2] at c0 c1 c2 hlast
      rw [hj0] at c1
      rw [hla]
      have HD := Lib.hid hD
      have Hla := Lib.hid hla
      have HB := Lib.hid hB
      have Hlen := Lib.hid (low_rel HV.out).2.choose_spec.2.l2
      have hgyB := Ry.out.lt
      clear hD hb0 hj0 hla hla2 hl hB c0 c2
      go_wp2
      go_loop [9, 32] (fun v i => ∃ k : Nat, k ≤ m ∧ i = .int .i64 k ∧ v = .int .i64 (ch k)) (fun _ i => m - (intOf i).toNat)
      case atStart => exact ⟨0, Nat.zero_le _, rfl, rfl⟩
      case round =>
        obtain ⟨k, hk, rfl, rfl⟩ := hrel
        by_cases hlt : k < m
        · obtain ⟨d1, d2, d3, d4⟩ := cyc_cells HD.out Hlen.out Ry.out H2.out k
          go_wp2
          go_round
          case rel => exact ⟨k + 1, by omega, by go_num, rfl⟩
          case measure => simp [intOf]; omega
        · obtain rfl : k = m := by omega
          clear c1
          go_wp2
          go_loopg [4, 10] p (fun g c s wr => ∃ q : Nat, q < p ∧ g = p - q ∧ s = .int .i64 (ch (k + q)) ∧ wr.ownsRow B 3 1 c q ((coll ix k q).map (Value.int .i64)) ∧ Below B w2 wr)
          case atStart => exact ⟨0, HD.out.p1, rfl, rfl, World.ownsRow_nil _ _ _ _, Below.refl _ _⟩
          case round =>
            obtain ⟨q, hq, rfl, rfl, hown, hbw⟩ := hrel
            have hp2 := HD.out.p2
            have hBw : B ≤ wr.heap.size := by rw [HB.out]; exact hbw.size
            have hgB : gy < B := by rw [HB.out]; exact hgyB
            obtain ⟨d1, d2, d3, d4⟩ := cyc_cells HD.out Hlen.out (Ry.out.below hbw hgB) (H2.out.below (hbw.mono (by rw [HB.out]; exact Nat.le_refl _))) (k + q)
            go_wp2_with (at_builtin; refine wpList_append_own _ rfl _ _ 27 rfl B 3 i0 (.int .i64 0) 1 8 Try.underlying27 hi hz0 hz1 hz2 rfl (by decide) _ _ _ rfl (hown.alloc _) ⟨wr.heap.size, 0, none⟩ 1 1 [.int .i64 (ix (k + q))] rfl rfl ?c1 ?c2 ?c3 ?c4 ?c5 ?_)
            case c1 => exact cell_one_new _ _ _
            case c2 => intro u hu; simp at hu; subst hu; rfl
            case c3 => unfold maxLen; omega
            case c4 => omega
            case c5 => simp; omega
            intro v' w3 hown' hgrow _
            rw [coll_succ] at hown'
            have hbw3 : Below B w2 w3 := (hbw.alloc hBw _).grown hgrow (by simp; omega) (fun k hk => (hown.lt k hk).1)
            obtain ⟨f1, f2, f3, f4⟩ := cyc_cells HD.out Hlen.out (Ry.out.below hbw3 hgB) (H2.out.below (hbw3.mono (by rw [HB.out]; exact Nat.le_refl _))) (k + q)
            clear hown hgrow d1 d2 hbw
            by_cases hqp : q + 1 = p
            · have heq : ((ch (k + q + 1) : Int) == (ch k : Int)) = true := by
                rw [show k + q + 1 = k + p from by omega, HD.out.back]; simp
              have Hqp := Lib.hid hqp
              clear hqp
              have Hown := Lib.hid hown'
              clear hown'
              go_wp2_with fail
              obtain ⟨g, cap', rfl, hg, hcall⟩ := rev_own Hown.out (by omega)
              refine hcall.mono ?_
              rintro e w4 ⟨rfl, hR, hb4⟩
              have HR := Lib.hid hR
              clear hR
              go_wp2
              go_ret2
              have hall : Below w.heap.size w w4 := by
                refine Hb.out.trans ((Hb2.out.mono Hb.out.size).trans ((hbw3.trans hb4).mono ?_))
                rw [HB.out]
                exact Nat.le_trans Hb.out.size Hb2.out.size
              refine ⟨_, _, rfl, ?_, hall⟩
              rw [CycleRes, if_pos Hc.out, if_neg (show ¬ (low (Int.toNat (k : Int)) l).2 < 0 from by rw [show (low (Int.toNat (k : Int)) l).2 = (la : Int) from Hla.out]; omega)]
              refine ⟨rfl, ch, ix, bd, p, g, cap', HD.out, ?_, ?_, ?_⟩
              · rw [← Hqp.out]; rfl
              · have h1 := Hb.out.size
                have h2 := Hb2.out.size
                have h3 := HB.out
                omega
              · rw [← Hqp.out]; exact HR.out
            · have hne : ((ch (k + q + 1) : Int) == (ch k : Int)) = false := by
                have := HD.out.first (q + 1) (by omega) (by omega)
                rw [beq_eq_false_iff_ne]
                intro e
                exact this (by rw [← Nat.add_assoc]; omega)
              go_wp2
              go_roundg (p - (q + 1))
              case measure => omega
              case rel => exact ⟨q + 1, by omega, rfl, rfl, hown', hbw3⟩
  · have hc' : (checkF n l == 0) = false := by simpa using hc
    have hc2 : (checkF n l != 0) = true := by simpa using hc
    have Hc := Lib.hid hc
    clear hc
    go_enter Try.func16, Try.ntmps16
    go_wp2_with fail
    refine (check_any _ A l cap w H.out).mono ?_
    rintro e w1 ⟨rfl, hb⟩
    have Hb := Lib.hid hb
    clear hb
    go_wp2
    go_ret2
    refine ⟨_, _, rfl, ?_, Hb.out⟩
    rw [CycleRes, if_neg Hc.out]
    exact ⟨rfl, rfl⟩

end Go.Proofs.Ytaonicdpeflbbaa
