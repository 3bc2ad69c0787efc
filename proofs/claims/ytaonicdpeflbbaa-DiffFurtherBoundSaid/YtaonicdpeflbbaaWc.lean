/-
  What the improvement closure of diff.lowest does: the plain lowStp.
  Conditions: as each theorem states them.
-/
import Derived.Test.YtaonicdpeflbbaaProg
import Derived.Test.YtaonicdpeflbbaaRuns
import Derived.Deep.QuietTactic
import Derived.BigQuiet
namespace Go.Proofs.Ytaonicdpeflbbaa
open Go.RowKit

set_option maxHeartbeats 400000 in
theorem low1_yes (k : Nat) (bi bj bw xi xj yj : Int) (n px py gx gy : Nat) (w : World) (h1 : 0 ≤ bi) (h2 : bi < n) (h3 : 0 ≤ bj) (h4 : bj < n)
    (cx : w.cell? ⟨px, 0, none⟩ = some (.slice (some ⟨gx, 0, none⟩) n n)) (cy : w.cell? ⟨py, 0, none⟩ = some (.slice (some ⟨gy, 0, none⟩) n n))
    (e1 : px < w.heap.size) (e2 : py < w.heap.size) (e3 : gx < w.heap.size) (e4 : gy < w.heap.size) (ne3 : py ≠ gx) (ne4 : py ≠ gy) (ne5 : gx ≠ gy)
    (ci : w.cell? ⟨gx, bi.toNat, none⟩ = some (.int .i64 xi)) (cj : w.cell? ⟨gx, bj.toNat, none⟩ = some (.int .i64 xj)) (cyj : w.cell? ⟨gy, bj.toNat, none⟩ = some (.int .i64 yj))
    (fj : w.frozen? ⟨gx, bj.toNat, none⟩ = false) (fyj : w.frozen? ⟨gy, bj.toNat, none⟩ = false) (hlt : wrap64 (xi + bw) < xj) :
    Calls Try.prog 31 #[.int .i64 k, .agg #[.int .i64 bi, .int .i64 bj, .int .i64 bw], .pointer (some ⟨px, 0, none⟩), .pointer (some ⟨py, 0, none⟩)] w
      fun e w' => e = .returned (.bool true) ∧ ∃ nq, w' = (((w.alloc (.cells #[.int .i64 bi, .int .i64 bj, .int .i64 bw] 36)).drewN nq).setCell ⟨gx, bj.toNat, none⟩ (.int .i64 (wrap64 (xi + bw)))).setCell ⟨gy, bj.toNat, none⟩ (.int .i64 k) := by
  go_enter Try.func31, Try.ntmps31
  go_wp2
  go_quiet (fail)
  go_wp2
  go_region
  all_goals go_wp2
  all_goals go_ret
  all_goals exact ⟨rfl, _, rfl⟩

set_option maxHeartbeats 400000 in
theorem low1_no (k : Nat) (bi bj bw xi xj : Int) (n px py gx : Nat) (w : World) (h1 : 0 ≤ bi) (h2 : bi < n) (h3 : 0 ≤ bj) (h4 : bj < n)
    (cx : w.cell? ⟨px, 0, none⟩ = some (.slice (some ⟨gx, 0, none⟩) n n)) (e1 : px < w.heap.size) (e3 : gx < w.heap.size)
    (ci : w.cell? ⟨gx, bi.toNat, none⟩ = some (.int .i64 xi)) (cj : w.cell? ⟨gx, bj.toNat, none⟩ = some (.int .i64 xj)) (hlt : ¬ wrap64 (xi + bw) < xj) :
    Calls Try.prog 31 #[.int .i64 k, .agg #[.int .i64 bi, .int .i64 bj, .int .i64 bw], .pointer (some ⟨px, 0, none⟩), .pointer (some ⟨py, 0, none⟩)] w
      fun e w' => e = .returned (.bool false) ∧ ∃ nq, w' = (w.alloc (.cells #[.int .i64 bi, .int .i64 bj, .int .i64 bw] 36)).drewN nq := by
  go_enter Try.func31, Try.ntmps31
  go_wp2
  go_quiet (fail)
  go_wp2
  go_ret
  exact ⟨rfl, _, rfl⟩

/-- What the closure of lowest keeps: its two captured slices, the bounds, and all that was there before block B. -/
structure LowI (w0 : World) (B px py gx gy n : Nat) (A : Option Addr) (l : List Bd) (s : List Int × List Int) (w : World) : Prop where
  bel : Below B w0 w
  cx : Row w px 27 #[.slice (some ⟨gx, 0, none⟩) n n]
  cy : Row w py 27 #[.slice (some ⟨gy, 0, none⟩) n n]
  rx : Row w gx 3 (ints s.1)
  ry : Row w gy 3 (ints s.2)
  l1 : s.1.length = n
  l2 : s.2.length = n
  rd : RdB w B A l
  hx : B ≤ px ∧ B ≤ py ∧ B ≤ gx ∧ B ≤ gy
  ne : px ≠ gx ∧ px ≠ gy ∧ py ≠ gx ∧ py ≠ gy ∧ gx ≠ gy

theorem LowI.alloc {w0 : World} {B px py gx gy n : Nat} {A : Option Addr} {l : List Bd} {s : List Int × List Int} {w : World} (h : LowI w0 B px py gx gy n A l s w) (o : Obj) : LowI w0 B px py gx gy n A l s (w.alloc o) :=
  have hb : Below B w0 (w.alloc o) := h.bel.alloc (by have := h.hx.1; have := h.cx.lt; omega) o
  ⟨hb, h.cx.alloc o, h.cy.alloc o, h.rx.alloc o, h.ry.alloc o, h.l1, h.l2, h.rd.below ((Below.refl B w).alloc (by have := h.hx.1; have := h.cx.lt; omega) o), h.hx, h.ne⟩
theorem LowI.drewN {w0 : World} {B px py gx gy n : Nat} {A : Option Addr} {l : List Bd} {s : List Int × List Int} {w : World} (h : LowI w0 B px py gx gy n A l s w) (m : Nat) : LowI w0 B px py gx gy n A l s (w.drewN m) :=
  ⟨Below.drewsN h.bel m, h.cx.drewN m, h.cy.drewN m, h.rx.drewN m, h.ry.drewN m, h.l1, h.l2, h.rd.below (Below.drewsN (Below.refl B w) m), h.hx, h.ne⟩
theorem LowI.store {w0 : World} {B px py gx gy n : Nat} {A : Option Addr} {l : List Bd} {s : List Int × List Int} {w : World} (h : LowI w0 B px py gx gy n A l s w) (i : Nat) (u v : Int) :
    LowI w0 B px py gx gy n A l (s.1.set i u, s.2.set i v) ((w.setCell ⟨gx, i, none⟩ (.int .i64 u)).setCell ⟨gy, i, none⟩ (.int .i64 v)) := by
  obtain ⟨n1, n2, n3, n4, n5⟩ := h.ne
  obtain ⟨b1, b2, b3, b4⟩ := h.hx
  refine ⟨(h.bel.setCell b3 _).setCell b4 _, (h.cx.far n1 _).far n2 _, (h.cy.far n3 _).far n4 _, ?_, ?_, by simpa using h.l1, by simpa using h.l2, h.rd.below (((Below.refl B w).setCell b3 _).setCell b4 _), h.hx, h.ne⟩
  · rw [← ints_set]; exact (h.rx.set i _).far n5 _
  · rw [← ints_set]; exact (h.ry.far n5.symm _).set i _

theorem low_step {w0 : World} {B px py gx gy n : Nat} {A : Option Addr} {l : List Bd} (hok : ∀ x ∈ l, okB n x = true) (s : List Int × List Int) (w : World) (k : Nat) (x : Bd) (hx : l[k]? = some x) (h : LowI w0 B px py gx gy n A l s w) :
    Calls Try.prog 31 #[.int .i64 k, .agg #[.int .i64 x.i, .int .i64 x.j, .int .i64 x.w], .pointer (some ⟨px, 0, none⟩), .pointer (some ⟨py, 0, none⟩)] w
      fun e w' => e = .returned (.bool (lowStp k x s).2) ∧ LowI w0 B px py gx gy n A l (lowStp k x s).1 w' := by
  obtain ⟨o1, o2, o3, o4, _, _⟩ := okB_un (hok x (List.mem_of_getElem? hx))
  obtain ⟨_, _, n3, n4, n5⟩ := h.ne
  have ci : w.cell? ⟨gx, x.i.toNat, none⟩ = some (.int .i64 (s.1.getD x.i.toNat 0)) := by rw [h.rx.cell]; exact ints_at (by rw [h.l1]; omega)
  have cj : w.cell? ⟨gx, x.j.toNat, none⟩ = some (.int .i64 (s.1.getD x.j.toNat 0)) := by rw [h.rx.cell]; exact ints_at (by rw [h.l1]; omega)
  have cy : w.cell? ⟨gy, x.j.toNat, none⟩ = some (.int .i64 (s.2.getD x.j.toNat 0)) := by rw [h.ry.cell]; exact ints_at (by rw [h.l2]; omega)
  unfold lowStp
  by_cases hlt : wrap64 (s.1.getD x.i.toNat 0 + x.w) < s.1.getD x.j.toNat 0
  · rw [if_pos hlt]
    refine (low1_yes k x.i x.j x.w _ _ _ n px py gx gy w o1 o3 o2 o4 (h.cx.cell 0) (h.cy.cell 0) h.cx.lt h.cy.lt h.rx.lt h.ry.lt n3 n4 n5 ci cj cy (h.rx.frozen _) (h.ry.frozen _) hlt).mono ?_
    rintro e w' ⟨rfl, nq, rfl⟩
    exact ⟨rfl, ((h.alloc _).drewN nq).store _ _ _⟩
  · rw [if_neg hlt]
    refine (low1_no k x.i x.j x.w _ _ n px py gx w o1 o3 o2 o4 (h.cx.cell 0) h.cx.lt h.rx.lt ci cj hlt).mono ?_
    rintro e w' ⟨rfl, nq, rfl⟩
    exact ⟨rfl, (h.alloc _).drewN nq⟩

end Go.Proofs.Ytaonicdpeflbbaa
