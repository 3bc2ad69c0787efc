/-
  What the reference function Solve returns for every system.
  Conditions: as each theorem states them.
-/
import Derived.Test.YtaonicdpeflbbaaWk
namespace Go.Proofs.Ytaonicdpeflbbaa
open Go.RowKit

set_option maxHeartbeats 400000 in
theorem refsolve_any (n : Int) (A : Option Addr) (l : List Bd) (cap : Nat) (w : World) (h : RdB w w.heap.size A l) :
    Calls Try.prog 15 #[.int .i64 n, .slice A l.length cap] w fun e w' => ∃ v er, e = .returned (.tuple #[v, .int .i64 er]) ∧ SolveRes n l w.heap.size w' v er ∧ Below w.heap.size w w' := by
  have H := Lib.hid h
  clear h
  by_cases hc : checkF n l = 0
  · obtain ⟨m, rfl, hV⟩ := val_of hc
    have Hc := Lib.hid hc
    have HV := Lib.hid hV
    clear hc hV
    go_enter Try.func15, Try.ntmps15
    go_wp2_with fail
    refine (refcheck_any _ A l cap w H.out).mono ?_
    rintro e w1 ⟨rfl, hb⟩
    rw [Hc.out]
    have H1 := Lib.hid ((H.out.below hb).more hb.size)
    have Hb := Lib.hid hb
    clear hb
    go_wp2_with fail
    refine (improve_any m A l cap w1 HV.out H1.out).mono ?_
    rintro e w2 ⟨gx, gy, rfl, hI⟩
    have HI := Lib.hid hI
    clear hI
    have hend : Below w.heap.size w w2 := Hb.out.trans (HI.out.bel.mono Hb.out.size)
    by_cases hl : (low m l).2 < 0
    · have hl' : ¬ 0 ≤ (low m l).2 := by omega
      go_wp2
      go_ret2
      refine ⟨_, _, rfl, ?_, hend⟩
      rw [SolveRes, if_pos Hc.out, if_pos (by exact hl)]
      exact ⟨rfl, gx, rfl, Nat.le_trans Hb.out.size HI.out.hx.1, HI.out.rx⟩
    · have hl' : 0 ≤ (low m l).2 := by omega
      go_wp2
      go_ret2
      refine ⟨_, _, rfl, ?_, hend⟩
      rw [SolveRes, if_pos Hc.out, if_neg (show ¬ (low (Int.toNat (m : Int)) l).2 < 0 from Int.not_lt.2 hl')]
      exact ⟨rfl, rfl⟩
  · have hc' : (checkF n l == 0) = false := by simpa using hc
    have hc2 : (checkF n l != 0) = true := by simpa using hc
    have Hc := Lib.hid hc
    clear hc
    go_enter Try.func15, Try.ntmps15
    go_wp2_with fail
    refine (refcheck_any _ A l cap w H.out).mono ?_
    rintro e w1 ⟨rfl, hb⟩
    have Hb := Lib.hid hb
    clear hb
    go_wp2
    go_ret2
    refine ⟨_, _, rfl, ?_, Hb.out⟩
    rw [SolveRes, if_neg Hc.out]
    exact ⟨rfl, rfl⟩

end Go.Proofs.Ytaonicdpeflbbaa
