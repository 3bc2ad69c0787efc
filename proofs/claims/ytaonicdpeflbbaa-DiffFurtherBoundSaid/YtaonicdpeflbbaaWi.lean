/-
  What the improvement closure of diff.Tight does, case by case.
  Conditions: as each theorem states them.
-/
import Derived.Test.YtaonicdpeflbbaaProg
import Derived.Test.YtaonicdpeflbbaaTight
import Derived.Deep.QuietTactic
import Derived.BigQuiet
namespace Go.Proofs.Ytaonicdpeflbbaa
open Go.RowKit

set_option maxHeartbeats 400000 in
theorem tig1_a (k : Nat) (bi bj bw : Int) (n pk pd gk : Nat) (w : World) (h1 : 0 ≤ bi) (h2 : bi < n)
    (ck : w.cell? ⟨pk, 0, none⟩ = some (.slice (some ⟨gk, 0, none⟩) n n)) (e1 : pk < w.heap.size) (e3 : gk < w.heap.size)
    (ki : w.cell? ⟨gk, bi.toNat, none⟩ = some (.bool false)) :
    Calls Try.prog 29 #[.int .i64 k, .agg #[.int .i64 bi, .int .i64 bj, .int .i64 bw], .pointer (some ⟨pk, 0, none⟩), .pointer (some ⟨pd, 0, none⟩)] w
      fun e w' => e = .returned (.bool false) ∧ ∃ nq, w' = (w.alloc (.cells #[.int .i64 bi, .int .i64 bj, .int .i64 bw] 36)).drewN nq := by
  go_enter Try.func29, Try.ntmps29
  go_wp2
  go_quiet (fail)
  go_wp2
  go_ret
  exact ⟨rfl, _, rfl⟩

set_option maxHeartbeats 400000 in
theorem tig1_c (k : Nat) (bi bj bw xi xj : Int) (n pk pd gk gd : Nat) (w : World) (h1 : 0 ≤ bi) (h2 : bi < n) (h3 : 0 ≤ bj) (h4 : bj < n)
    (ck : w.cell? ⟨pk, 0, none⟩ = some (.slice (some ⟨gk, 0, none⟩) n n)) (cd : w.cell? ⟨pd, 0, none⟩ = some (.slice (some ⟨gd, 0, none⟩) n n))
    (e1 : pk < w.heap.size) (e2 : pd < w.heap.size) (e3 : gk < w.heap.size) (e4 : gd < w.heap.size)
    (ki : w.cell? ⟨gk, bi.toNat, none⟩ = some (.bool true)) (kj : w.cell? ⟨gk, bj.toNat, none⟩ = some (.bool true))
    (di : w.cell? ⟨gd, bi.toNat, none⟩ = some (.int .i64 xi)) (dj : w.cell? ⟨gd, bj.toNat, none⟩ = some (.int .i64 xj))
    (hle : xj ≤ wrap64 (xi + bw)) :
    Calls Try.prog 29 #[.int .i64 k, .agg #[.int .i64 bi, .int .i64 bj, .int .i64 bw], .pointer (some ⟨pk, 0, none⟩), .pointer (some ⟨pd, 0, none⟩)] w
      fun e w' => e = .returned (.bool false) ∧ ∃ nq, w' = (w.alloc (.cells #[.int .i64 bi, .int .i64 bj, .int .i64 bw] 36)).drewN nq := by
  go_enter Try.func29, Try.ntmps29
  go_wp2
  go_quiet (fail)
  go_wp2
  go_ret
  exact ⟨rfl, _, rfl⟩

set_option maxHeartbeats 800000 in
theorem tig1_b (k : Nat) (bi bj bw xi xj : Int) (n pk pd gk gd : Nat) (w : World) (h1 : 0 ≤ bi) (h2 : bi < n) (h3 : 0 ≤ bj) (h4 : bj < n)
    (ck : w.cell? ⟨pk, 0, none⟩ = some (.slice (some ⟨gk, 0, none⟩) n n)) (cd : w.cell? ⟨pd, 0, none⟩ = some (.slice (some ⟨gd, 0, none⟩) n n))
    (e1 : pk < w.heap.size) (e2 : pd < w.heap.size) (e3 : gk < w.heap.size) (e4 : gd < w.heap.size)
    (ne2 : pk ≠ gd) (ne3 : pd ≠ gk) (ne4 : pd ≠ gd) (ne5 : gk ≠ gd)
    (ki : w.cell? ⟨gk, bi.toNat, none⟩ = some (.bool true)) (kj : w.cell? ⟨gk, bj.toNat, none⟩ = some (.bool false))
    (di : w.cell? ⟨gd, bi.toNat, none⟩ = some (.int .i64 xi)) (dj : w.cell? ⟨gd, bj.toNat, none⟩ = some (.int .i64 xj))
    (fk : w.frozen? ⟨gk, bj.toNat, none⟩ = false) (fd : w.frozen? ⟨gd, bj.toNat, none⟩ = false) :
    Calls Try.prog 29 #[.int .i64 k, .agg #[.int .i64 bi, .int .i64 bj, .int .i64 bw], .pointer (some ⟨pk, 0, none⟩), .pointer (some ⟨pd, 0, none⟩)] w
      fun e w' => e = .returned (.bool true) ∧ ∃ nq, w' = (((w.alloc (.cells #[.int .i64 bi, .int .i64 bj, .int .i64 bw] 36)).drewN nq).setCell ⟨gd, bj.toNat, none⟩ (.int .i64 (wrap64 (xi + bw)))).setCell ⟨gk, bj.toNat, none⟩ (.bool true) := by
  go_enter Try.func29, Try.ntmps29
  go_wp2
  go_quiet (fail)
  go_wp2
  go_region
  all_goals go_wp2
  all_goals go_ret
  all_goals exact ⟨rfl, _, rfl⟩

set_option maxHeartbeats 800000 in
theorem tig1_d (k : Nat) (bi bj bw xi xj : Int) (n pk pd gk gd : Nat) (w : World) (h1 : 0 ≤ bi) (h2 : bi < n) (h3 : 0 ≤ bj) (h4 : bj < n)
    (ck : w.cell? ⟨pk, 0, none⟩ = some (.slice (some ⟨gk, 0, none⟩) n n)) (cd : w.cell? ⟨pd, 0, none⟩ = some (.slice (some ⟨gd, 0, none⟩) n n))
    (e1 : pk < w.heap.size) (e2 : pd < w.heap.size) (e3 : gk < w.heap.size) (e4 : gd < w.heap.size)
    (ne2 : pk ≠ gd) (ne3 : pd ≠ gk) (ne4 : pd ≠ gd) (ne5 : gk ≠ gd)
    (ki : w.cell? ⟨gk, bi.toNat, none⟩ = some (.bool true)) (kj : w.cell? ⟨gk, bj.toNat, none⟩ = some (.bool true))
    (di : w.cell? ⟨gd, bi.toNat, none⟩ = some (.int .i64 xi)) (dj : w.cell? ⟨gd, bj.toNat, none⟩ = some (.int .i64 xj))
    (fk : w.frozen? ⟨gk, bj.toNat, none⟩ = false) (fd : w.frozen? ⟨gd, bj.toNat, none⟩ = false)
    (hle : wrap64 (xi + bw) < xj) :
    Calls Try.prog 29 #[.int .i64 k, .agg #[.int .i64 bi, .int .i64 bj, .int .i64 bw], .pointer (some ⟨pk, 0, none⟩), .pointer (some ⟨pd, 0, none⟩)] w
      fun e w' => e = .returned (.bool true) ∧ ∃ nq, w' = (((w.alloc (.cells #[.int .i64 bi, .int .i64 bj, .int .i64 bw] 36)).drewN nq).setCell ⟨gd, bj.toNat, none⟩ (.int .i64 (wrap64 (xi + bw)))).setCell ⟨gk, bj.toNat, none⟩ (.bool true) := by
  go_enter Try.func29, Try.ntmps29
  go_wp2
  go_quiet (fail)
  go_wp2
  go_region
  all_goals go_wp2
  all_goals go_ret
  all_goals exact ⟨rfl, _, rfl⟩

end Go.Proofs.Ytaonicdpeflbbaa
