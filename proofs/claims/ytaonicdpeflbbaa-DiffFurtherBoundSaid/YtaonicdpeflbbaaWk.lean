/-
  What the reference function improve returns for a valid system: the plain low.
  Conditions: as each theorem states them.
-/
import Derived.Test.YtaonicdpeflbbaaWg
import Derived.Test.YtaonicdpeflbbaaWj
namespace Go.Proofs.Ytaonicdpeflbbaa
open Go.RowKit

/-- What improve keeps: its two slices, the bounds, and all that was there before block B. -/
structure LowR (w0 : World) (B gx gy n : Nat) (A : Option Addr) (l : List Bd) (s : List Int × List Int) (w : World) : Prop where
  bel : Below B w0 w
  rx : Row w gx 3 (ints s.1)
  ry : Row w gy 3 (ints s.2)
  l1 : s.1.length = n
  l2 : s.2.length = n
  rd : RdB w B A l
  hx : B ≤ gx ∧ B ≤ gy
  ne : gx ≠ gy

section
variable {w0 : World} {B gx gy n : Nat} {A : Option Addr} {l : List Bd} {s : List Int × List Int} {w : World}
theorem LowR.alloc (h : LowR w0 B gx gy n A l s w) (o : Obj) : LowR w0 B gx gy n A l s (w.alloc o) :=
  have hB : B ≤ w.heap.size := by have := h.hx.1; have := h.rx.lt; omega
  ⟨h.bel.alloc hB o, h.rx.alloc o, h.ry.alloc o, h.l1, h.l2, h.rd.below ((Below.refl B w).alloc hB o), h.hx, h.ne⟩
theorem LowR.drewN (h : LowR w0 B gx gy n A l s w) (m : Nat) : LowR w0 B gx gy n A l s (w.drewN m) :=
  ⟨Below.drewsN h.bel m, h.rx.drewN m, h.ry.drewN m, h.l1, h.l2, h.rd.below (Below.drewsN (Below.refl B w) m), h.hx, h.ne⟩
theorem LowR.store (h : LowR w0 B gx gy n A l s w) (i : Nat) (u v : Int) :
    LowR w0 B gx gy n A l (s.1.set i u, s.2.set i v) ((w.setCell ⟨gx, i, none⟩ (.int .i64 u)).setCell ⟨gy, i, none⟩ (.int .i64 v)) := by
  have n5 := h.ne
  obtain ⟨b3, b4⟩ := h.hx
  refine ⟨(h.bel.setCell b3 _).setCell b4 _, ?_, ?_, by simpa using h.l1, by simpa using h.l2, h.rd.below (((Below.refl B w).setCell b3 _).setCell b4 _), h.hx, h.ne⟩
  · rw [← ints_set]; exact (h.rx.set i _).far n5 _
  · rw [← ints_set]; exact (h.ry.far n5.symm _).set i _
end

theorem runs_last {St : Type} (stp : Nat → Bd → St → St × Bool) (l : List Bd) {m : Nat} (hm : 1 ≤ m) (s : St) (a b : Int) : runs stp l m s a = runs stp l m s b := by
  obtain ⟨m, rfl⟩ : ∃ k, m = k + 1 := ⟨m - 1, by omega⟩
  rw [runs, runs]

/-- The first k numbers are -1. -/
def negInts (n k : Nat) : List Int := List.replicate k (-1) ++ List.replicate (n - k) 0
theorem negInts_set {n k : Nat} (h : k < n) : (negInts n k).set k (-1) = negInts n (k + 1) := by
  unfold negInts
  rw [List.set_append_right _ _ (by simp), show n - k = (n - (k + 1)) + 1 from by omega, List.replicate_succ (n := n - (k + 1)), List.length_replicate, Nat.sub_self, List.set_cons_zero, List.replicate_succ' (n := k)]
  simp
theorem negInts_len {n k : Nat} (h : k ≤ n) : (negInts n k).length = n := by simp [negInts]; omega

set_option maxHeartbeats 800000 in
theorem improve_any (n : Nat) (A : Option Addr) (l : List Bd) (cap : Nat) (w : World) (hV : Val n l) (h : RdB w w.heap.size A l) :
    Calls Try.prog 26 #[.int .i64 n, .slice A l.length cap] w fun e w' => ∃ gx gy, e = .returned (.tuple #[.slice (some ⟨gx, 0, none⟩) n n, .slice (some ⟨gy, 0, none⟩) n n, .int .i64 (low n l).2]) ∧ LowR w w.heap.size gx gy n A l (low n l).1 w' := by
  have h1 := hV.n1
  have h2 := hV.n2
  have h3 := hV.len
  have hmk := run_make_row' (P := Try.prog) 27 3 (.int .i64 0) 8 Try.underlying27 info3' rfl .i64 .i64 n (by omega) (by omega)
  have H := Lib.hid h
  have HV := Lib.hid hV
  clear h hV
  go_enter Try.func26, Try.ntmps26
  go_wp2
  have hR0 : Row ((w.alloc (.cells (madeCells #[.int .i64 0] n) 3)).alloc (.cells (madeCells #[.int .i64 0] n) 3)) w.heap.size 3 (ints (List.replicate n 0)) := by
    rw [← made_ints]; exact (Row.new _ _ _).alloc _
  have hR1 : Row ((w.alloc (.cells (madeCells #[.int .i64 0] n) 3)).alloc (.cells (madeCells #[.int .i64 0] n) 3)) (w.heap.size + 1) 3 (ints (negInts n 0)) := by
    rw [show negInts n 0 = List.replicate n 0 from by simp [negInts], ← made_ints]; exact Row.newAt (by simp) _ _
  have hB0 : Below w.heap.size w ((w.alloc (.cells (madeCells #[.int .i64 0] n) 3)).alloc (.cells (madeCells #[.int .i64 0] n) 3)) := ((Below.refl _ _).alloc (Nat.le_refl _) _).alloc (by simp) _
  have HR0 := Lib.hid hR0
  have HR1 := Lib.hid hR1
  clear hR0 hR1 hmk
  go_loopw [9] (fun i wr => ∃ k : Nat, k ≤ n ∧ i = .int .i64 k ∧ Hid (Row wr w.heap.size 3 (ints (List.replicate n 0))) ∧ Hid (Row wr (w.heap.size + 1) 3 (ints (negInts n k))) ∧ Below w.heap.size w wr) (fun i _ => n - (intOf i).toNat)
  case atStart => exact ⟨0, Nat.zero_le _, rfl, HR0, HR1, hB0⟩
  case round =>
    obtain ⟨k, hk, rfl, hr0, hr1, hb⟩ := hrel
    clear HR0 HR1 hB0
    by_cases hlt : k < n
    · have c1 : wr.cell? ⟨w.heap.size + 1, k, none⟩ = some (.int .i64 ((negInts n k).getD k 0)) := by rw [hr1.out.cell]; exact ints_at (by rw [negInts_len hk]; exact hlt)
      have f1 := hr1.out.frozen k
      have hlt' : (k : Int) < (n : Int) := by omega
      have N0 := Lib.hid (hr0.out.far (p := ⟨w.heap.size + 1, k, none⟩) (by simp) (.int .i64 (-1)))
      have N1 : Hid (Row (wr.setCell ⟨w.heap.size + 1, k, none⟩ (.int .i64 (-1))) (w.heap.size + 1) 3 (ints (negInts n (k + 1)))) := by
        have := hr1.out.set k (.int .i64 (-1))
        rw [ints_set, negInts_set hlt] at this
        exact this
      go_wp2
      go_roundw
      case rel => exact ⟨k + 1, by omega, by go_num, N0, N1, hb.setCell (by simp) _⟩
      case measure => simp [intOf]; omega
    · obtain rfl : n = k := by omega
      have hs : LowR w w.heap.size w.heap.size (w.heap.size + 1) n A l (low0 n) wr :=
        ⟨hb, hr0.out, by rw [show (low0 n).2 = negInts n n from by simp [low0, negInts]]; exact hr1.out, by simp [low0], by simp [low0], H.out.below hb, by omega, by omega⟩
      have hF : runs lowStp l (n - 0) (low0 n) 0 = low n l := runs_last _ _ h1 _ _ _
      have HF := Lib.hid hF
      clear hF hr0 hr1 hb
      go_wp2
      go_loopw [10, 11] (fun la i wr => ∃ k : Nat, ∃ s : List Int × List Int, ∃ last : Int, k ≤ n ∧ i = .int .i64 k ∧ la = .int .i64 last ∧ Hid ((0 ≤ last ∧ runs lowStp l (n - k) s last = low n l) ∨ (last < 0 ∧ low n l = (s, last))) ∧ LowR w w.heap.size w.heap.size (w.heap.size + 1) n A l s wr)
        (fun _ i _ => n - (intOf i).toNat)
      case atStart => exact ⟨0, low0 n, 0, Nat.zero_le _, rfl, rfl, .inl ⟨Int.le_refl _, HF.out⟩, hs⟩
      case round =>
        obtain ⟨k, s, last, hk, rfl, rfl, hruns, hI⟩ := hrel
        clear hs HF
        by_cases hgo : k < n ∧ 0 ≤ last
        · obtain ⟨hlt, hla⟩ := hgo
          have hr : runs lowStp l (n - k) s last = low n l := by
            rcases hruns.out with ⟨_, h⟩ | ⟨h, _⟩
            · exact h
            · omega
          have Hr := Lib.hid hr
          clear hr hruns
          go_wp2
          obtain ⟨wo, rfl⟩ : ∃ wo : World, wo = wr := ⟨_, rfl⟩
          obtain ⟨sp, hsp⟩ : ∃ p, p = sweep lowStp l 0 s (-1) := ⟨_, rfl⟩
          have Hsp := Lib.hid hsp
          clear hsp
          go_loopw [10, 12] (fun la i wr => ∃ j : Nat, ∃ t : List Int × List Int, ∃ lst : Int, j ≤ l.length ∧ i = .int .i64 j ∧ la = .int .i64 lst ∧ Hid (sweep lowStp (l.drop j) j t lst = sp) ∧ LowR w w.heap.size w.heap.size (w.heap.size + 1) n A l t wr)
            (fun _ i _ => l.length - (intOf i).toNat)
          case atStart => exact ⟨0, s, -1, Nat.zero_le _, rfl, rfl, Hsp.out.symm, hI⟩
          case round =>
            obtain ⟨j, t, lst, hj, rfl, rfl, hsw, hJ⟩ := hrel
            clear hI
            by_cases hjl : j < l.length
            · obtain ⟨x, hx⟩ : ∃ x, l[j]? = some x := ⟨_, List.getElem?_eq_getElem hjl⟩
              obtain ⟨o1, o2, o3, o4, _, _⟩ := okB_un (HV.out.ok x (List.mem_of_getElem? hx))
              obtain ⟨b, off, rfl, hbw, c0, c1, c2⟩ := hJ.rd j x hx
              have ci : wr.cell? ⟨w.heap.size, x.i.toNat, none⟩ = some (.int .i64 (t.1.getD x.i.toNat 0)) := by rw [hJ.rx.cell]; exact ints_at (by rw [hJ.l1]; omega)
              have cj : wr.cell? ⟨w.heap.size, x.j.toNat, none⟩ = some (.int .i64 (t.1.getD x.j.toNat 0)) := by rw [hJ.rx.cell]; exact ints_at (by rw [hJ.l1]; omega)
              have cy : wr.cell? ⟨w.heap.size + 1, x.j.toNat, none⟩ = some (.int .i64 (t.2.getD x.j.toNat 0)) := by rw [hJ.ry.cell]; exact ints_at (by rw [hJ.l2]; omega)
              have fj := hJ.rx.frozen x.j.toNat
              have fy := hJ.ry.frozen x.j.toNat
              have l1 := hJ.rx.lt
              have l2 := hJ.ry.lt
              have hst : lowStp j x t = if wrap64 (t.1.getD x.i.toNat 0 + x.w) < t.1.getD x.j.toNat 0 then ((t.1.set x.j.toNat (wrap64 (t.1.getD x.i.toNat 0 + x.w)), t.2.set x.j.toNat (j : Int)), true) else (t, false) := rfl
              have hsd := sweep_drop lowStp hx t lst
              rw [hst] at hsd
              obtain ⟨xi, hxi⟩ : ∃ xi, xi = t.1.getD x.i.toNat 0 := ⟨_, rfl⟩
              obtain ⟨xj, hxj⟩ : ∃ xj, xj = t.1.getD x.j.toNat 0 := ⟨_, rfl⟩
              rw [← hxi] at ci
              rw [← hxj] at cj
              rw [← hxi, ← hxj] at hsd
              by_cases hlt2 : wrap64 (xi + x.w) < xj
              · rw [if_pos hlt2] at hsd
                have Hsd := Lib.hid hsd
                have HJ := Lib.hid hJ
                clear hx hxi hxj hsd hst hJ
                go_wp2
                go_quiet (fail)
                go_wp2
                go_region
                go_wp2
                go_roundw
                case rel => exact ⟨j + 1, _, _, by omega, by go_num, rfl, by rw [← hsw.out, Hsd.out]; rfl, ((HJ.out.alloc _).drewN _).store _ _ _⟩
                case measure => simp [intOf]; omega
              · rw [if_neg hlt2] at hsd
                have Hsd := Lib.hid hsd
                have HJ := Lib.hid hJ
                clear hx hxi hxj hsd hst hJ
                go_wp2
                go_quiet (fail)
                go_wp2
                go_roundw
                case rel => exact ⟨j + 1, _, _, by omega, by go_num, rfl, by rw [← hsw.out, Hsd.out]; rfl, (HJ.out.alloc _).drewN _⟩
                case measure => simp [intOf]; omega
            · have he : sweep lowStp (l.drop j) j t lst = (t, lst) := sweep_end lowStp (by omega) t lst
              have hsp : sweep lowStp l 0 s (-1) = (t, lst) := by rw [← Hsp.out, ← hsw.out, he]
              have hnew : Hid ((0 ≤ lst ∧ runs lowStp l (n - (k + 1)) t lst = low n l) ∨ (lst < 0 ∧ low n l = (t, lst))) := by
                by_cases hlst : lst < 0
                · right
                  refine ⟨hlst, ?_⟩
                  rw [← Hr.out, show n - k = (n - k - 1) + 1 from by omega, runs_stop lowStp hsp hlst]
                · left
                  refine ⟨by omega, ?_⟩
                  rw [← Hr.out, show n - k = (n - (k + 1)) + 1 from by omega, runs_on lowStp hsp hlst]
              clear he hsp
              go_wp2
              go_roundw
              case rel => exact ⟨k + 1, t, lst, by omega, by go_num, rfl, hnew, hJ⟩
              case measure => simp [intOf]; omega
        · have hF : low n l = (s, last) := by
            rcases hruns.out with ⟨h0, h⟩ | ⟨_, h⟩
            · rw [← h, show n - k = 0 from by omega, runs]
            · exact h
          have HF := Lib.hid hF
          clear hF
          by_cases hkn : k < n
          · have hla : ¬ 0 ≤ last := fun h0 => hgo ⟨hkn, h0⟩
            clear hgo
            go_wp2
            go_ret3
            refine ⟨w.heap.size, w.heap.size + 1, ?_, ?_⟩
            · rw [HF.out]; rfl
            · rw [HF.out]; exact hI
          · clear hgo
            go_wp2
            go_ret3
            refine ⟨w.heap.size, w.heap.size + 1, ?_, ?_⟩
            · rw [HF.out]; rfl
            · rw [HF.out]; exact hI

end Go.Proofs.Ytaonicdpeflbbaa
