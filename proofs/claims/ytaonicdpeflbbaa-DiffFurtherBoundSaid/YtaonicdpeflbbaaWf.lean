/-
  What diff.Solve returns for every system.
  Conditions: as each theorem states them.
-/
import Derived.Test.YtaonicdpeflbbaaWa
import Derived.Test.YtaonicdpeflbbaaWe
namespace Go.Proofs.Ytaonicdpeflbbaa
open Go.RowKit

/-- What Solve answers: a result that reads as the solution, or none. -/
def SolveRes (n : Int) (l : List Bd) (B : Nat) (w' : World) (v : Value) (er : Int) : Prop :=
  if checkF n l = 0 then
    if (low n.toNat l).2 < 0 then er = 0 ∧ ∃ g, v = .slice (some ⟨g, 0, none⟩) n.toNat n.toNat ∧ B ≤ g ∧ Row w' g 3 (ints (low n.toNat l).1.1)
    else er = 230 ∧ v = .slice none 0 0
  else er = checkF n l ∧ v = .slice none 0 0

set_option maxHeartbeats 400000 in
theorem solve_any (n : Int) (A : Option Addr) (l : List Bd) (cap : Nat) (w : World) (h : RdB w w.heap.size A l) :
    Calls Try.prog 14 #[.int .i64 n, .slice A l.length cap] w fun e w' => ∃ v er, e = .returned (.tuple #[v, .int .i64 er]) ∧ SolveRes n l w.heap.size w' v er ∧ Below w.heap.size w w' := by
  have H := Lib.hid h
  clear h
  by_cases hc : checkF n l = 0
  · obtain ⟨h1, h2, h3, h4⟩ := checkF_zero hc
    have Hc := Lib.hid hc
    clear hc
    obtain ⟨m, rfl⟩ := Int.eq_ofNat_of_zero_le (show 0 ≤ n by omega)
    have H4 := Lib.hid h4
    clear h4
    go_enter Try.func14, Try.ntmps14
    go_wp2_with fail
    refine (check_any _ A l cap w H.out).mono ?_
    rintro e w1 ⟨rfl, hb⟩
    rw [Hc.out]
    have H1 := Lib.hid ((H.out.below hb).more hb.size)
    have Hb := Lib.hid hb
    clear hb
    go_wp2_with fail
    refine (lowest_any m A l cap w1 (by omega) (by omega) h3 H4.out H1.out).mono ?_
    rintro e w2 ⟨gx, gy, rfl, rx, ry, hgx, hgy, hb2⟩
    have Rx := Lib.hid rx
    have Hb2 := Lib.hid hb2
    have Hgx := Lib.hid (Nat.le_trans Hb.out.size hgx)
    clear rx ry hb2 hgx hgy
    by_cases hl : (runs lowStp l m (low0 m) (-1)).2 < 0
    · have hl' : ¬ 0 ≤ (runs lowStp l m (low0 m) (-1)).2 := by omega
      go_wp2
      go_ret2
      refine ⟨_, _, rfl, ?_, Hb.out.trans (Hb2.out.mono Hb.out.size)⟩
      rw [SolveRes, if_pos Hc.out, if_pos (by exact hl)]
      exact ⟨rfl, gx, rfl, Hgx.out, Rx.out⟩
    · have hl' : 0 ≤ (runs lowStp l m (low0 m) (-1)).2 := by omega
      go_wp2
      go_ret2
      refine ⟨_, _, rfl, ?_, Hb.out.trans (Hb2.out.mono Hb.out.size)⟩
      rw [SolveRes, if_pos Hc.out, if_neg (show ¬ (low (Int.toNat (m : Int)) l).2 < 0 from Int.not_lt.2 hl')]
      exact ⟨rfl, rfl⟩
  · have hc' : (checkF n l == 0) = false := by simpa using hc
    have hc2 : (checkF n l != 0) = true := by simpa using hc
    have Hc := Lib.hid hc
    clear hc
    go_enter Try.func14, Try.ntmps14
    go_wp2_with fail
    refine (check_any _ A l cap w H.out).mono ?_
    rintro e w1 ⟨rfl, hb⟩
    have Hb := Lib.hid hb
    clear hb
    go_wp2
    go_ret2
    refine ⟨_, _, rfl, ?_, Hb.out⟩
    rw [SolveRes, if_neg Hc.out]
    exact ⟨rfl, rfl⟩

end Go.Proofs.Ytaonicdpeflbbaa
