/-
  What diff.lowest returns for a valid system: the plain low.
  Conditions: as each theorem states them.
-/
import Derived.Test.YtaonicdpeflbbaaWb
import Derived.Test.YtaonicdpeflbbaaWc
import Derived.Test.YtaonicdpeflbbaaWd
import Derived.Test.YtaonicdpeflbbaaPlain
import Derived.Deep.DeepCutAuto
import Derived.Deep.RegionWith
import Derived.Deep.DeepMust
namespace Go.Proofs.Ytaonicdpeflbbaa
open Go.RowKit
attribute [local go_sem ↓] Go.wp_at_zero Go.wp_at_succ

theorem made_ints (n : Nat) : madeCells #[.int .i64 0] n = ints (List.replicate n 0) := by
  rw [made_filled]; simp [filled, ints]

theorem low_start {w W : World} {gx gy n : Nat} {A : Option Addr} {l : List Bd} {v0 v1 : Value} (hB : Below w.heap.size w W) (h : RdB w w.heap.size A l) (r0 : Row W w.heap.size 27 #[v0]) (r1 : Row W (w.heap.size + 1) 27 #[v1])
    (rx : Row W gx 3 (ints (List.replicate n 0))) (ry : Row W gy 3 (ints (List.replicate n (-1)))) (hgx : w.heap.size + 2 ≤ gx) (hgy : w.heap.size + 2 ≤ gy) (ne : gx ≠ gy) :
    LowI w w.heap.size w.heap.size (w.heap.size + 1) gx gy n A l (low0 n) ((W.setCell ⟨w.heap.size, 0, none⟩ (.slice (some ⟨gx, 0, none⟩) n n)).setCell ⟨w.heap.size + 1, 0, none⟩ (.slice (some ⟨gy, 0, none⟩) n n)) where
  bel := (hB.setCell (Nat.le_refl _) _).setCell (by simp) _
  cx := (r0.set 0 _).far (by simp) _
  cy := (r1.far (by simp) _).set 0 _
  rx := (rx.far (by simp; omega) _).far (by simp; omega) _
  ry := (ry.far (by simp; omega) _).far (by simp; omega) _
  l1 := by simp [low0]
  l2 := by simp [low0]
  rd := h.below ((hB.setCell (Nat.le_refl _) _).setCell (by simp) _)
  hx := by omega
  ne := by omega

theorem low_start3 {w W : World} {gy n : Nat} {A : Option Addr} {l : List Bd} {v0 v1 : Value} (hB : Below w.heap.size w W) (h : RdB w w.heap.size A l) (r0 : Row W w.heap.size 27 #[v0]) (r1 : Row W (w.heap.size + 1) 27 #[v1])
    (ry : Row W gy 3 (ints (List.replicate n (-1)))) (hgy : w.heap.size + 2 ≤ gy) :
    LowI w w.heap.size w.heap.size (w.heap.size + 1) W.heap.size gy n A l (low0 n) (((W.setCell ⟨w.heap.size, 0, none⟩ (.slice (some ⟨W.heap.size, 0, none⟩) n n)).setCell ⟨w.heap.size + 1, 0, none⟩ (.slice (some ⟨gy, 0, none⟩) n n)).alloc (.cells (madeCells #[.int .i64 0] n) 3)) where
  bel := ((hB.setCell (Nat.le_refl _) _).setCell (by simp) _).alloc (by have := hB.size; simp [World.setCell]; omega) _
  cx := ((r0.set 0 _).far (by simp) _).alloc _
  cy := ((r1.far (by simp) _).set 0 _).alloc _
  rx := by rw [show ints (low0 n).1 = madeCells #[.int .i64 0] n from (made_ints n).symm]; exact Row.newAt (by simp [World.setCell]) _ _
  ry := ((ry.far (by simp; omega) _).far (by simp; omega) _).alloc _
  l1 := by simp [low0]
  l2 := by simp [low0]
  rd := h.below (((hB.setCell (Nat.le_refl _) _).setCell (by simp) _).alloc (by have := hB.size; simp [World.setCell]; omega) _)
  hx := by have := r1.lt; omega
  ne := by have := r1.lt; have := ry.lt; omega

set_option maxHeartbeats 400000 in
theorem lowest_any (n : Nat) (A : Option Addr) (l : List Bd) (cap : Nat) (w : World) (h1 : 1 ≤ n) (h2 : n ≤ 512) (hl : l.length ≤ 4096) (hok : ∀ x ∈ l, okB n x = true) (h : RdB w w.heap.size A l) :
    Calls Try.prog 25 #[.int .i64 n, .slice A l.length cap] w fun e w' => ∃ gx gy, e = .returned (.tuple #[.slice (some ⟨gx, 0, none⟩) n n, .slice (some ⟨gy, 0, none⟩) n n, .int .i64 (runs lowStp l n (low0 n) (-1)).2]) ∧
      Row w' gx 3 (ints (runs lowStp l n (low0 n) (-1)).1.1) ∧ Row w' gy 3 (ints (runs lowStp l n (low0 n) (-1)).1.2) ∧ w.heap.size ≤ gx ∧ w.heap.size ≤ gy ∧ Below w.heap.size w w' := by
  have hmk := run_make_row' (P := Try.prog) 27 3 (.int .i64 0) 8 Try.underlying27 info3' rfl .i64 .i64 n (by omega) (by omega)
  have Hok := Lib.hid hok
  have H := Lib.hid h
  clear hok h
  go_enter Try.func25, Try.ntmps25
  go_upto_region 1 with fail
  go_cut [] (fun wx => ∃ gx gy, LowI w w.heap.size w.heap.size (w.heap.size + 1) gx gy n A l (low0 n) wx)
  case first =>
    go_region_with (go_at_call 30; go_must (refine (repeat_any _ n _ h1 h2 ?_).mono ?_; go_simp; rintro e w1 ⟨g, rfl, hg, hr, hb⟩; have hz0 : w.heap.size < w1.heap.size := (by have := hb.size; simp at this; omega); have hz1 : w.heap.size + 1 < w1.heap.size := (by have := hb.size; simp at this; omega); obtain ⟨hc0, hf0, Hr0⟩ := Row.one (W := _) (b := w.heap.size) (t := 27) (v := .slice none 0 0) (by repeat (first | exact Row.new _ _ _ | refine Row.drew ?_ | refine Row.alloc ?_ _)) hb; obtain ⟨hc1, hf1, Hr1⟩ := Row.one (W := _) (b := w.heap.size + 1) (t := 27) (v := .slice none 0 0) (by repeat (first | exact Row.new1 _ _ _ _ | refine Row.drew ?_ | refine Row.alloc ?_ _)) hb; have Hr0 := Lib.hid Hr0; have Hr1 := Lib.hid Hr1; have Hg := Lib.hid hg; have Hr := Lib.hid hr; have Hb := Lib.hid hb; clear hg hr hb))
    · go_wp2_with fail
      go_meet
      exact ⟨_, _, low_start (((((((Below.refl w.heap.size w).alloc (Nat.le_refl _) _).alloc (by simp) _).alloc (by simp; omega) _).alloc (by simp; omega) _).drew).trans (Hb.out.mono (by simp; omega))) H.out Hr0.out Hr1.out
        (by rw [← made_ints]; exact (((Row.newAt (by simp) _ _).alloc _).drew).below Hb.out (by simp)) Hr.out (by omega) (by have := Hg.out; simp at this; omega) (by have := Hg.out; simp at this; omega)⟩
    · go_wp2_with fail
      go_meet
      exact ⟨_, _, low_start (((((((Below.refl w.heap.size w).alloc (Nat.le_refl _) _).alloc (by simp) _).alloc (by simp; omega) _).alloc (by simp; omega) _).drew).trans (Hb.out.mono (by simp; omega))) H.out Hr0.out Hr1.out
        (by rw [← made_ints]; exact ((Row.newAt (by simp) _ _).drew).below Hb.out (by simp)) Hr.out (by omega) (by have := Hg.out; simp at this; omega) (by have := Hg.out; simp at this; omega)⟩
    · go_wp2_with fail
      go_meet
      exact ⟨_, _, low_start3 ((((((Below.refl w.heap.size w).alloc (Nat.le_refl _) _).alloc (by simp) _).alloc (by simp; omega) _).drew).trans (Hb.out.mono (by simp; omega))) H.out Hr0.out Hr1.out
        Hr.out (by have := Hg.out; simp at this; omega)⟩
  case rest =>
    obtain ⟨gx, gy, hI⟩ := hcut
    clear hmk
    go_wp2_with fail
    refine (rounds_any lowStp (LowI w w.heap.size w.heap.size (w.heap.size + 1) gx gy n A l) 31 _ n A l cap w.heap.size h2 hl (fun _ _ h => h.rd) (fun _ _ o h => h.alloc o) (fun s w k x hx h => ?_) (fun _ _ => rfl) (low0 n) wc hI).mono ?_
    · exact low_step Hok.out s w k x hx h
    rintro e w1 ⟨rfl, hJ⟩
    have c0 := hJ.cx.cell 0
    have c1 := hJ.cy.cell 0
    have f0 := hJ.cx.frozen 0
    have f1 := hJ.cy.frozen 0
    have HJ := Lib.hid hJ
    clear hJ hI
    go_wp2
    go_region
    all_goals go_wp2
    all_goals
      refine bodyPost_ret (v := .tuple #[.slice (some ⟨gx, 0, none⟩) n n, .slice (some ⟨gy, 0, none⟩) n n, .int .i64 (runs lowStp l n (low0 n) (-1)).2]) (by simp [results, Try.results25, go_sem, c0, c1]) rfl ⟨gx, gy, rfl, ?_⟩
      obtain ⟨n1, n2, n3, n4, n5⟩ := HJ.out.ne
      obtain ⟨b1, b2, b3, b4⟩ := HJ.out.hx
      exact ⟨((HJ.out.rx.far n1.symm _).far n3.symm _).drew, ((HJ.out.ry.far n2.symm _).far n4.symm _).drew, b3, b4, ((HJ.out.bel.setCell (Nat.le_refl _) _).setCell (by simp) _).drew⟩
end Go.Proofs.Ytaonicdpeflbbaa
