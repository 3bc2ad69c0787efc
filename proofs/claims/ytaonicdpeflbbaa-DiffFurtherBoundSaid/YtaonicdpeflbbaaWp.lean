/-
  The examples of the chapter: sane returns true.
  Conditions: as each theorem states them.
-/
import Derived.Test.YtaonicdpeflbbaaWo
import Derived.Test.YtaonicdpeflbbaaWh
namespace Go.Proofs.Ytaonicdpeflbbaa
open Go.RowKit

/-- The cells of a list of bounds. -/
def bvals : List Bd → List Value
  | [] => []
  | b :: r => .int .i64 b.i :: .int .i64 b.j :: .int .i64 b.w :: bvals r
theorem bvals_len : ∀ l : List Bd, (bvals l).length = l.length * 3
  | [] => rfl
  | b :: r => by simp [bvals, bvals_len r]; omega
theorem bvals_append : ∀ a b : List Bd, bvals (a ++ b) = bvals a ++ bvals b
  | [], _ => rfl
  | x :: r, b => by simp [bvals, bvals_append r b]
theorem bvals_at : ∀ (l : List Bd) (k : Nat) (x : Bd), l[k]? = some x → (bvals l)[k * 3]? = some (.int .i64 x.i) ∧ (bvals l)[k * 3 + 1]? = some (.int .i64 x.j) ∧ (bvals l)[k * 3 + 2]? = some (.int .i64 x.w)
  | [], _, _, h => by simp at h
  | b :: r, 0, x, h => by
    simp at h; subst h; simp [bvals]
  | b :: r, k + 1, x, h => by
    have := bvals_at r k x (by simpa using h)
    rw [show (k + 1) * 3 = k * 3 + 1 + 1 + 1 from by omega]
    simpa [bvals] using this

theorem RdB.of_row {w : World} {g B : Nat} {cs : List Value} {l : List Bd} (h : Row w g 36 cs.toArray) (hg : g < B) (hp : ∀ (j : Nat) (u : Value), (bvals l)[j]? = some u → cs[j]? = some u) : RdB w B (some ⟨g, 0, none⟩) l := by
  intro k x hx
  obtain ⟨h0, h1, h2⟩ := bvals_at l k x hx
  refine ⟨g, 0, rfl, hg, ?_, ?_, ?_⟩
  · rw [h.cell, List.getElem?_toArray, Nat.zero_add]; exact hp _ _ h0
  · rw [h.cell, List.getElem?_toArray, Nat.zero_add]; exact hp _ _ h1
  · rw [h.cell, List.getElem?_toArray, Nat.zero_add]; exact hp _ _ h2

theorem RdI.of_row {w : World} {g B : Nat} {l : List Int} (h : Row w g 3 (ints l)) (hg : g < B) : RdI w B (some ⟨g, 0, none⟩) l := by
  intro k x hx
  refine ⟨g, 0, rfl, hg, ?_⟩
  have hk := (List.getElem?_eq_some_iff.1 hx).1
  rw [h.cell, Nat.zero_add, ints_at hk]
  simp [List.getD, hx]

def sL : List Bd := [⟨0, 1, -5⟩, ⟨1, 2, 3⟩]
def sM : List Bd := [⟨0, 1, 2⟩, ⟨1, 0, -3⟩]
def sZ : List Bd := [⟨0, 0, 0⟩]
def sN : List Bd := [⟨0, 0, -1⟩]
def sB : List Bd := [⟨0, 1, 0⟩]

section
variable {A : Option Addr} {cap : Nat} {W : World}

theorem sane1 (h : RdB W W.heap.size A sL) : Calls Try.prog 14 #[.int .i64 3, .slice A 2 cap] W fun e w' => ∃ g, e = .returned (.tuple #[.slice (some ⟨g, 0, none⟩) 3 3, .int .i64 0]) ∧ Row w' g 3 (ints [0, -5, -2]) ∧ Below W.heap.size W w' := by
  refine (solve_any 3 A sL cap W h).mono ?_
  rintro e w' ⟨v, er, rfl, hr, hb⟩
  rw [SolveRes, if_pos (by decide +kernel), if_pos (by decide +kernel)] at hr
  obtain ⟨rfl, g, rfl, _, hrow⟩ := hr
  exact ⟨g, rfl, by rw [show [0, -5, -2] = (low (Int.toNat 3) sL).1.1 from by decide +kernel]; exact hrow, hb⟩

theorem sane2 (h : RdB W W.heap.size A sM) : Calls Try.prog 14 #[.int .i64 2, .slice A 2 cap] W fun e w' => e = .returned (.tuple #[.slice none 0 0, .int .i64 230]) ∧ Below W.heap.size W w' := by
  refine (solve_any 2 A sM cap W h).mono ?_
  rintro e w' ⟨v, er, rfl, hr, hb⟩
  rw [SolveRes, if_pos (by decide +kernel), if_neg (by decide +kernel)] at hr
  obtain ⟨rfl, rfl⟩ := hr
  exact ⟨rfl, hb⟩

theorem saneT (h : RdB W W.heap.size A sL) (i j a c : Int) (b : Bool) (ht : tightR 3 sL i j = (a, b, c)) : Calls Try.prog 19 #[.int .i64 3, .slice A 2 cap, .int .i64 i, .int .i64 j] W fun e w' => e = .returned (.tuple #[.int .i64 a, .bool b, .int .i64 c]) ∧ Below W.heap.size W w' := by
  refine (tight_any 3 A sL cap i j W h).mono ?_
  rintro e w' ⟨he, hb⟩
  rw [TightRes, ht] at he
  exact ⟨he, hb⟩

theorem sane3 (h : RdB W W.heap.size A sM) : Calls Try.prog 16 #[.int .i64 2, .slice A 2 cap] W fun e w' => ∃ ch ix bd p g c, e = .returned (.tuple #[.slice (some ⟨g, 0, none⟩) p c, .int .i64 0]) ∧ CycD 2 sM (low 2 sM).2 (low 2 sM).1.2 ch ix bd p ∧ RdI w' w'.heap.size (some ⟨g, 0, none⟩) (coll ix 2 p).reverse ∧ Below W.heap.size W w' := by
  refine (cycle_any 2 A sM cap W h).mono ?_
  rintro e w' ⟨v, er, rfl, hr, hb⟩
  rw [CycleRes, if_pos (by decide +kernel), if_neg (by decide +kernel)] at hr
  obtain ⟨rfl, ch, ix, bd, p, g, c, hD, rfl, _, hR⟩ := hr
  exact ⟨ch, ix, bd, p, g, c, rfl, hD, hR, hb⟩

theorem sane4 (h : RdB W W.heap.size A sZ) : Calls Try.prog 16 #[.int .i64 1, .slice A 1 cap] W fun e w' => e = .returned (.tuple #[.slice none 0 0, .int .i64 0]) ∧ Below W.heap.size W w' := by
  refine (cycle_any 1 A sZ cap W h).mono ?_
  rintro e w' ⟨v, er, rfl, hr, hb⟩
  rw [CycleRes, if_pos (by decide +kernel), if_pos (by decide +kernel)] at hr
  obtain ⟨rfl, rfl⟩ := hr
  exact ⟨rfl, hb⟩

theorem sane5 (h : RdB W W.heap.size A sN) : Calls Try.prog 16 #[.int .i64 1, .slice A 1 cap] W fun e w' => ∃ g c, e = .returned (.tuple #[.slice (some ⟨g, 0, none⟩) 1 c, .int .i64 0]) ∧ RdI w' w'.heap.size (some ⟨g, 0, none⟩) [0] ∧ Below W.heap.size W w' := by
  refine (cycle_any 1 A sN cap W h).mono ?_
  rintro e w' ⟨v, er, rfl, hr, hb⟩
  rw [CycleRes, if_pos (by decide +kernel), if_neg (by decide +kernel)] at hr
  obtain ⟨rfl, ch, ix, bd, p, g, c, hD, rfl, _, hR⟩ := hr
  have p1 := hD.p1
  have p2 : p ≤ 1 := hD.p2
  obtain rfl : p = 1 := by omega
  have hi : ix (1 + 0) < sN.length := (List.getElem?_eq_some_iff.1 (hD.at_ (1 + 0))).1
  have hi0 : ix (1 + 0) = 0 := by
    have : sN.length = 1 := rfl
    omega
  refine ⟨g, c, rfl, ?_, hb⟩
  rw [show ([0] : List Int) = (coll ix (Int.toNat 1) 1).reverse from by
    show [0] = [((ix (1 + 0) : Nat) : Int)]
    rw [hi0]; rfl]
  exact hR

theorem saneC (n : Int) (l : List Bd) (k : Nat) (c : Int) (h : RdB W W.heap.size A l) (hk : l.length = k) (hc : checkF n l = c) : Calls Try.prog 13 #[.int .i64 n, .slice A k cap] W fun e w' => e = .returned (.int .i64 c) ∧ Below W.heap.size W w' := by
  subst hk
  subst hc
  exact check_any n A l cap W h
end

theorem sameC {A A' : Option Addr} {cap cap' : Nat} {W : World} (a b : List Int) (k k' : Nat) (ha : RdI W W.heap.size A a) (hb : RdI W W.heap.size A' b) (h1 : a.length = k) (h2 : b.length = k') (he : a = b) (hs : k ≤ 9223372036854775807) :
    Calls Try.prog 18 #[.slice A k cap, .slice A' k' cap'] W fun e w' => e = .returned (.bool true) ∧ Below W.heap.size W w' := by
  subst h1
  subst h2
  have := sameInts_any A A' a b cap cap' W ha hb hs
  rw [decide_eq_true he] at this
  exact this

theorem rdb_nil (w : World) (B : Nat) (A : Option Addr) : RdB w B A [] := fun k x hx => by simp at hx

set_option maxHeartbeats 1600000 in
theorem sane_any (w : World) : Calls Try.prog 11 #[] w fun e w' => e = .returned (.bool true) ∧ Below w.heap.size w w' := by
  go_enter Try.func11, Try.ntmps11
  go_wp2_with fail
  have hL : Row ((w.alloc (.cells (bvals sL).toArray 36)).alloc (.cells (bvals sM).toArray 36)) w.heap.size 36 (bvals sL).toArray := (Row.new _ _ _).alloc _
  have hM : Row ((w.alloc (.cells (bvals sL).toArray 36)).alloc (.cells (bvals sM).toArray 36)) (w.heap.size + 1) 36 (bvals sM).toArray := Row.new1 _ _ _ _
  have L0 := Lib.hid (RdB.of_row (B := ((w.alloc (.cells (bvals sL).toArray 36)).alloc (.cells (bvals sM).toArray 36)).heap.size) hL (by simp; omega) (fun _ _ h => h))
  have M0 := Lib.hid (RdB.of_row (B := ((w.alloc (.cells (bvals sL).toArray 36)).alloc (.cells (bvals sM).toArray 36)).heap.size) hM (by simp) (fun _ _ h => h))
  have B0 := Lib.hid (show Below w.heap.size w ((w.alloc (.cells (bvals sL).toArray 36)).alloc (.cells (bvals sM).toArray 36)) from ((Below.refl _ _).alloc (Nat.le_refl _) _).alloc (by simp) _)
  clear hL hM
  refine (sane1 L0.out).mono ?_
  rintro e w1 ⟨g1, rfl, hr1, hb1⟩
  have L1 := Lib.hid ((L0.out.below hb1).more hb1.size)
  have M1 := Lib.hid ((M0.out.below hb1).more hb1.size)
  have B1 := Lib.hid (B0.out.trans (hb1.mono B0.out.size))
  have R1 := Lib.hid hr1
  clear L0 M0 B0 hb1 hr1
  go_wp2_with fail
  refine (saneT L1.out 0 2 (-2) 0 true (by decide +kernel)).mono ?_
  rintro e w2 ⟨rfl, hb⟩
  have L2 := Lib.hid ((L1.out.below hb).more hb.size)
  have M2 := Lib.hid ((M1.out.below hb).more hb.size)
  have B2 := Lib.hid (B1.out.trans (hb.mono B1.out.size))
  have R2 := Lib.hid (R1.out.below hb R1.out.lt)
  clear L1 M1 B1 R1 hb
  go_wp2_with fail
  refine (saneT L2.out 2 0 0 0 false (by decide +kernel)).mono ?_
  rintro e w3 ⟨rfl, hb⟩
  have L3 := Lib.hid ((L2.out.below hb).more hb.size)
  have M3 := Lib.hid ((M2.out.below hb).more hb.size)
  have B3 := Lib.hid (B2.out.trans (hb.mono B2.out.size))
  have R3 := Lib.hid (R2.out.below hb R2.out.lt)
  clear L2 M2 B2 R2 hb
  go_wp2_with fail
  refine (saneT L3.out 1 1 0 0 true (by decide +kernel)).mono ?_
  rintro e w4 ⟨rfl, hb⟩
  have M4 := Lib.hid ((M3.out.below hb).more hb.size)
  have B4 := Lib.hid (B3.out.trans (hb.mono B3.out.size))
  have R4 := Lib.hid (R3.out.below hb R3.out.lt)
  clear L3 M3 B3 R3 hb
  go_wp2_with fail
  refine (sane2 M4.out).mono ?_
  rintro e w5 ⟨rfl, hb⟩
  have M5 := Lib.hid ((M4.out.below hb).more hb.size)
  have B5 := Lib.hid (B4.out.trans (hb.mono B4.out.size))
  have R5 := Lib.hid (R4.out.below hb R4.out.lt)
  clear M4 B4 R4 hb
  go_wp2_with fail
  refine (sane3 M5.out).mono ?_
  rintro e w6 ⟨ch, ix, bd, p, g6, c6, rfl, hD, hC, hb⟩
  have HD := Lib.hid hD
  have C6 := Lib.hid hC
  have M6 := Lib.hid ((M5.out.below hb).more hb.size)
  have B6 := Lib.hid (B5.out.trans (hb.mono B5.out.size))
  have R6 := Lib.hid (R5.out.below hb R5.out.lt)
  clear M5 B5 R5 hb hD hC
  go_wp2_with fail
  refine (sane4 (RdB.of_row (Row.new _ 36 (bvals sZ).toArray) (by simp) (fun _ _ h => h))).mono ?_
  rintro e w7 ⟨rfl, hb⟩
  have hb' : Below w6.heap.size w6 w7 := ((Below.refl _ _).alloc (Nat.le_refl _) _).trans (hb.mono (by simp))
  have C7 := Lib.hid ((C6.out.below hb').more hb'.size)
  have M7 := Lib.hid ((M6.out.below hb').more hb'.size)
  have B7 := Lib.hid (B6.out.trans (hb'.mono B6.out.size))
  have R7 := Lib.hid (R6.out.below hb' R6.out.lt)
  clear C6 M6 B6 R6 hb hb'
  go_wp2_with fail
  refine (sane5 (RdB.of_row (Row.new _ 36 (bvals sN).toArray) (by simp) (fun _ _ h => h))).mono ?_
  rintro e w8 ⟨g8, c8, rfl, hO, hb⟩
  have hb' : Below w7.heap.size w7 w8 := ((Below.refl _ _).alloc (Nat.le_refl _) _).trans (hb.mono (by simp))
  have O8 := Lib.hid hO
  have C8 := Lib.hid ((C7.out.below hb').more hb'.size)
  have M8 := Lib.hid ((M7.out.below hb').more hb'.size)
  have B8 := Lib.hid (B7.out.trans (hb'.mono B7.out.size))
  have R8 := Lib.hid (R7.out.below hb' R7.out.lt)
  clear C7 M7 B7 R7 hb hb' hO
  go_wp2_with fail
  refine (sameC [0, -5, -2] [0, -5, -2] 3 3 (RdI.of_row (R8.out.alloc _) (by have := R8.out.lt; simp; omega)) (RdI.of_row (Row.new _ 3 (ints [0, -5, -2])) (by simp)) rfl rfl rfl (by omega)).mono ?_
  rintro e w9 ⟨rfl, hb⟩
  have hb' : Below w8.heap.size w8 w9 := ((Below.refl _ _).alloc (Nat.le_refl _) _).trans (hb.mono (by simp))
  have O9 := Lib.hid ((O8.out.below hb').more hb'.size)
  have C9 := Lib.hid ((C8.out.below hb').more hb'.size)
  have M9 := Lib.hid ((M8.out.below hb').more hb'.size)
  have B9 := Lib.hid (B8.out.trans (hb'.mono B8.out.size))
  clear C8 M8 B8 R8 hb hb' O8
  go_wp2_with fail
  refine (contra_any 2 _ _ sM 2 c6 w9 ⟨by decide, by decide, by decide, by decide⟩ _ _ ch ix bd p HD.out M9.out C9.out).mono ?_
  rintro e w10 ⟨rfl, hb⟩
  have O10 := Lib.hid ((O9.out.below hb).more hb.size)
  have B10 := Lib.hid (B9.out.trans (hb.mono B9.out.size))
  clear C9 M9 B9 O9 hb
  go_wp2_with fail
  refine (sameC [0] [0] 1 1 (((O10.out.below ((Below.refl _ _).alloc (Nat.le_refl _) _)).more (by simp))) (RdI.of_row (Row.new _ 3 (ints [0])) (by simp)) rfl rfl rfl (by omega)).mono ?_
  rintro e w11 ⟨rfl, hb⟩
  have hb' : Below w10.heap.size w10 w11 := ((Below.refl _ _).alloc (Nat.le_refl _) _).trans (hb.mono (by simp))
  have B11 := Lib.hid (B10.out.trans (hb'.mono B10.out.size))
  clear hb hb' O10 B10
  go_wp2_with fail
  refine (saneC 0 [] 0 1 (rdb_nil _ _ _) rfl (by decide)).mono ?_
  rintro e w12 ⟨rfl, hb⟩
  have B12 := Lib.hid (B11.out.trans (hb.mono B11.out.size))
  clear hb B11
  go_wp2_with fail
  refine (saneC 1 sB 1 1 (RdB.of_row (Row.new _ 36 (bvals sB).toArray) (by simp) (fun _ _ h => h)) rfl (by decide +kernel)).mono ?_
  rintro e w13 ⟨rfl, hb⟩
  have hb' : Below w12.heap.size w12 w13 := ((Below.refl _ _).alloc (Nat.le_refl _) _).trans (hb.mono (by simp))
  have B13 := Lib.hid (B12.out.trans (hb'.mono B12.out.size))
  clear hb hb' B12
  go_wp2_with fail
  refine (saneC 513 [] 0 2 (rdb_nil _ _ _) rfl (by decide)).mono ?_
  rintro e w14 ⟨rfl, hb⟩
  have B14 := Lib.hid (B13.out.trans (hb.mono B13.out.size))
  clear hb B13
  go_wp2
  go_ret
  exact ⟨rfl, B14.out⟩

end Go.Proofs.Ytaonicdpeflbbaa
