/-
  DiffMatchesReference returns true, walked.
  Conditions: as each theorem states them.
-/
import Derived.Test.YtaonicdpeflbbaaWp
namespace Go.Proofs.Ytaonicdpeflbbaa
open Go.RowKit

def solE (n : Int) (l : List Bd) : Int := if checkF n l = 0 then if (low n.toNat l).2 < 0 then 0 else 230 else checkF n l
def solL (n : Int) (l : List Bd) : List Int := if checkF n l = 0 ∧ (low n.toNat l).2 < 0 then (low n.toNat l).1.1 else []

def Solved (n : Int) (l : List Bd) (e : Ending) (w' : World) : Prop :=
  ∃ Ax c, e = .returned (.tuple #[.slice Ax (solL n l).length c, .int .i64 (solE n l)]) ∧ RdI w' w'.heap.size Ax (solL n l)

theorem solved_of {n : Int} {l : List Bd} {B : Nat} {w' : World} {v : Value} {er : Int} (h : SolveRes n l B w' v er) : Solved n l (.returned (.tuple #[v, .int .i64 er])) w' := by
  unfold SolveRes at h
  by_cases hc : checkF n l = 0
  · rw [if_pos hc] at h
    by_cases hl : (low n.toNat l).2 < 0
    · rw [if_pos hl] at h
      obtain ⟨rfl, g, rfl, _, hr⟩ := h
      obtain ⟨m, rfl, hV⟩ := val_of hc
      have h1 : solL m l = (low m l).1.1 := if_pos ⟨hc, hl⟩
      have h2 : solE m l = 0 := by rw [solE, if_pos hc, if_pos hl]
      refine ⟨some ⟨g, 0, none⟩, m, ?_, ?_⟩
      · rw [h1, h2, (low_sol hV hl).1]; rfl
      · rw [h1]; exact RdI.of_row hr hr.lt
    · rw [if_neg hl] at h
      obtain ⟨rfl, rfl⟩ := h
      have h1 : solL n l = [] := if_neg (fun x => hl x.2)
      have h2 : solE n l = 230 := by rw [solE, if_pos hc, if_neg hl]
      refine ⟨none, 0, by rw [h1, h2]; rfl, ?_⟩
      rw [h1]
      intro k x hx
      simp at hx
  · rw [if_neg hc] at h
    obtain ⟨rfl, rfl⟩ := h
    have h1 : solL n l = [] := if_neg (fun x => hc x.1)
    have h2 : solE n l = checkF n l := by rw [solE, if_neg hc]
    refine ⟨none, 0, by rw [h1, h2]; rfl, ?_⟩
    rw [h1]
    intro k x hx
    simp at hx

theorem solve_s (n : Int) (A : Option Addr) (l : List Bd) (cap : Nat) (w : World) (h : RdB w w.heap.size A l) :
    Calls Try.prog 14 #[.int .i64 n, .slice A l.length cap] w fun e w' => Solved n l e w' ∧ Below w.heap.size w w' :=
  (solve_any n A l cap w h).mono fun _ _ ⟨_, _, he, hr, hb⟩ => ⟨he ▸ solved_of hr, hb⟩
theorem refsolve_s (n : Int) (A : Option Addr) (l : List Bd) (cap : Nat) (w : World) (h : RdB w w.heap.size A l) :
    Calls Try.prog 15 #[.int .i64 n, .slice A l.length cap] w fun e w' => Solved n l e w' ∧ Below w.heap.size w w' :=
  (refsolve_any n A l cap w h).mono fun _ _ ⟨_, _, he, hr, hb⟩ => ⟨he ▸ solved_of hr, hb⟩

theorem cycle_s (n : Int) (A : Option Addr) (l : List Bd) (cap : Nat) (w : World) (h : RdB w w.heap.size A l) :
    Calls Try.prog 16 #[.int .i64 n, .slice A l.length cap] w fun e w' => ∃ C k c, e = .returned (.tuple #[.slice C k c, .int .i64 (checkF n l)]) ∧ (checkF n l ≠ 0 → k = 0) ∧ Below w.heap.size w w' := by
  refine (cycle_any n A l cap w h).mono ?_
  rintro e w' ⟨v, er, rfl, hr, hb⟩
  unfold CycleRes at hr
  by_cases hc : checkF n l = 0
  · rw [if_pos hc] at hr
    rw [hc]
    by_cases hl : (low n.toNat l).2 < 0
    · rw [if_pos hl] at hr
      obtain ⟨rfl, rfl⟩ := hr
      exact ⟨none, 0, 0, rfl, fun h => absurd rfl h, hb⟩
    · rw [if_neg hl] at hr
      obtain ⟨rfl, _, _, _, p, g, c, _, rfl, _⟩ := hr
      exact ⟨_, _, _, rfl, fun h => absurd rfl h, hb⟩
  · rw [if_neg hc] at hr
    obtain ⟨rfl, rfl⟩ := hr
    exact ⟨none, 0, 0, rfl, fun _ => rfl, hb⟩

theorem solL_len (n : Int) (l : List Bd) : (solL n l).length ≤ 512 := by
  unfold solL
  split
  · rename_i h
    obtain ⟨m, rfl, hV⟩ := val_of h.1
    have h1 := (low_sol hV h.2).1
    have h2 := hV.n2
    have : (low (Int.toNat (m : Int)) l).1.1.length = m := h1
    omega
  · simp

set_option maxHeartbeats 800000 in
theorem law1_any (n : Int) (A : Option Addr) (l : List Bd) (cap : Nat) (w : World) (h : RdB w w.heap.size A l) :
    Calls Try.prog 3 #[.int .i64 n, .slice A l.length cap] w fun e w' => e = .returned (.bool true) ∧ Below w.heap.size w w' := by
  have H := Lib.hid h
  clear h
  go_enter Try.func3, Try.ntmps3
  go_wp2_with fail
  refine (sane_any w).mono ?_
  rintro e w1 ⟨rfl, hb⟩
  have H1 := Lib.hid ((H.out.below hb).more hb.size)
  have B1 := Lib.hid hb
  clear H hb
  go_wp2_with fail
  refine (few_any n A l.length cap w1).mono ?_
  rintro e w' ⟨rfl, rfl⟩
  cases hf : fewB n l.length with
  | false =>
    have Hf := Lib.hid hf
    clear hf
    go_wp2
    go_ret
    exact ⟨rfl, B1.out⟩
  | true =>
    have Hf := Lib.hid hf
    clear hf
    go_wp2_with fail
    refine (check_any n A l cap w1 H1.out).mono ?_
    rintro e w2 ⟨rfl, hb⟩
    have H2 := Lib.hid ((H1.out.below hb).more hb.size)
    have B2 := Lib.hid (B1.out.trans (hb.mono B1.out.size))
    clear H1 B1 hb
    obtain ⟨ck, hck⟩ : ∃ ck, ck = checkF n l := ⟨_, rfl⟩
    rw [← hck]
    have Hck := Lib.hid hck
    clear hck
    go_wp2_with fail
    refine (solve_s n A l cap w2 H2.out).mono ?_
    rintro e w3 ⟨⟨Ax, c, rfl, hx⟩, hb⟩
    have X3 := Lib.hid hx
    have H3 := Lib.hid ((H2.out.below hb).more hb.size)
    have B3 := Lib.hid (B2.out.trans (hb.mono B2.out.size))
    clear H2 B2 hb hx
    go_wp2_with fail
    refine (refsolve_s n A l cap w3 H3.out).mono ?_
    rintro e w4 ⟨⟨Ay, d, rfl, hy⟩, hb⟩
    have Y4 := Lib.hid hy
    have X4 := Lib.hid ((X3.out.below hb).more hb.size)
    have H4 := Lib.hid ((H3.out.below hb).more hb.size)
    have B4 := Lib.hid (B3.out.trans (hb.mono B3.out.size))
    clear H3 B3 hb hy X3
    go_wp2_with fail
    refine (cycle_s n A l cap w4 H4.out).mono ?_
    rintro e w5 ⟨C, k, cc, rfl, hk, hb⟩
    have X5 := Lib.hid ((X4.out.below hb).more hb.size)
    have Y5 := Lib.hid ((Y4.out.below hb).more hb.size)
    have H5 := Lib.hid ((H4.out.below hb).more hb.size)
    have B5 := Lib.hid (B4.out.trans (hb.mono B4.out.size))
    have Hk := Lib.hid hk
    clear H4 B4 hb X4 Y4 hk
    rw [← Hck.out]
    go_wp2_with fail
    refine (refcheck_any n A l cap w5 H5.out).mono ?_
    rintro e w6 ⟨rfl, hb⟩
    have X6 := Lib.hid ((X5.out.below hb).more hb.size)
    have Y6 := Lib.hid ((Y5.out.below hb).more hb.size)
    have B6 := Lib.hid (B5.out.trans (hb.mono B5.out.size))
    clear H5 B5 hb X5 Y5
    rw [← Hck.out]
    have hsl := solL_len n l
    go_wp2_with fail
    refine (sameC (solL n l) (solL n l) _ _ X6.out Y6.out rfl rfl rfl (by omega)).mono ?_
    rintro e w7 ⟨rfl, hb⟩
    have B7 := Lib.hid (B6.out.trans (hb.mono B6.out.size))
    clear B6 hb X6 Y6 hsl
    by_cases h0 : ck = 0
    · have h0' : (ck == 0) = true := by simpa using h0
      have h00 := Lib.hid h0
      clear h0
      go_wp2
      go_ret
      exact ⟨rfl, B7.out⟩
    · have h0' : (ck == 0) = false := by simpa using h0
      have hk0 : k = 0 := Hk.out (by rw [← Hck.out]; exact h0)
      have h00 := Lib.hid h0
      subst hk0
      clear h0
      go_wp2
      go_ret
      exact ⟨rfl, B7.out⟩

end Go.Proofs.Ytaonicdpeflbbaa
