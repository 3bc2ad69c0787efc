/-
  What the reference functions Tight and Holds return.
  Conditions: as each theorem states them.
-/
import Derived.Test.YtaonicdpeflbbaaWm
namespace Go.Proofs.Ytaonicdpeflbbaa
open Go.RowKit

set_option maxHeartbeats 800000 in
theorem reftight_any (n : Int) (A : Option Addr) (l : List Bd) (cap : Nat) (i j : Int) (w : World) (h : RdB w w.heap.size A l) :
    Calls Try.prog 20 #[.int .i64 n, .slice A l.length cap, .int .i64 i, .int .i64 j] w fun e w' => TightRes n l i j e ∧ Below w.heap.size w w' := by
  have H := Lib.hid h
  by_cases hc : checkF n l = 0
  · by_cases hij : 0 ≤ i ∧ i < n ∧ 0 ≤ j ∧ j < n
    · obtain ⟨m, rfl, hV⟩ := val_of hc
      obtain ⟨hi0, hin, hj0, hjn⟩ := hij
      obtain ⟨a, rfl⟩ := Int.eq_ofNat_of_zero_le hi0
      obtain ⟨b, rfl⟩ := Int.eq_ofNat_of_zero_le hj0
      by_cases hsol : (low m l).2 < 0
      · exact reftight_loop m A l cap a b w hV h (by omega) (by omega) hsol
      · have ht : tightR m l a b = (0, false, 230) := by
          rw [tightR, if_pos hc, if_pos ⟨by omega, by omega, by omega, by omega⟩]
          exact if_neg hsol
        have Ht := Lib.hid ht
        have Hc := Lib.hid hc
        have Hsol := Lib.hid hsol
        clear ht hc hsol hV h
        have e1 : ¬ ((a : Int) < 0) := by omega
        have e2 : ¬ ((m : Int) ≤ (a : Int)) := by omega
        have e3 : ¬ ((b : Int) < 0) := by omega
        have e4 : ¬ ((m : Int) ≤ (b : Int)) := by omega
        go_enter Try.func20, Try.ntmps20
        go_wp2_with fail
        refine (refcheck_any _ A l cap w H.out).mono ?_
        rintro e w1 ⟨rfl, hb1⟩
        rw [Hc.out]
        have H1 := Lib.hid ((H.out.below hb1).more hb1.size)
        have Hb := Lib.hid hb1
        clear hb1
        go_wp2_with fail
        refine (refsolve_any _ A l cap w1 H1.out).mono ?_
        rintro e w2 ⟨v, er, rfl, hres, hb2⟩
        obtain ⟨rfl, rfl⟩ : er = 230 ∧ v = .slice none 0 0 := by
          rw [SolveRes, if_pos Hc.out, if_neg (show ¬ (low (Int.toNat (m : Int)) l).2 < 0 from Int.not_lt.2 Hsol.out)] at hres
          exact hres
        have Hb2 := Lib.hid hb2
        clear hb2 hres
        go_wp2
        go_ret3
        exact ⟨TightRes.mk Ht.out, Hb.out.trans (Hb2.out.mono Hb.out.size)⟩
    · have ht : tightR n l i j = (0, false, 1) := by rw [tightR, if_pos hc, if_neg hij]
      have Ht := Lib.hid ht
      have Hc := Lib.hid hc
      clear ht hc h
      go_enter Try.func20, Try.ntmps20
      go_wp2_with fail
      refine (refcheck_any _ A l cap w H.out).mono ?_
      rintro e w1 ⟨rfl, hb1⟩
      rw [Hc.out]
      have Hb := Lib.hid hb1
      clear hb1
      by_cases x1 : i < 0
      · go_wp2
        go_ret3
        exact ⟨TightRes.mk Ht.out, Hb.out⟩
      by_cases x2 : n ≤ i
      · go_wp2
        go_ret3
        exact ⟨TightRes.mk Ht.out, Hb.out⟩
      by_cases x3 : j < 0
      · go_wp2
        go_ret3
        exact ⟨TightRes.mk Ht.out, Hb.out⟩
      have x4 : n ≤ j := by omega
      go_wp2
      go_ret3
      exact ⟨TightRes.mk Ht.out, Hb.out⟩
  · have ht : tightR n l i j = (0, false, checkF n l) := by rw [tightR, if_neg hc]
    have hc' : (checkF n l == 0) = false := by simpa using hc
    have hc2 : (checkF n l != 0) = true := by simpa using hc
    have Ht := Lib.hid ht
    have Hc := Lib.hid hc
    clear ht hc h
    go_enter Try.func20, Try.ntmps20
    go_wp2_with fail
    refine (refcheck_any _ A l cap w H.out).mono ?_
    rintro e w1 ⟨rfl, hb1⟩
    have Hb := Lib.hid hb1
    clear hb1
    go_wp2
    go_ret3
    exact ⟨TightRes.mk Ht.out, Hb.out⟩

def holdsB (n : Nat) (l : List Bd) (y : List Int) : Bool :=
  decide (y.length = n) && y.all (fun v => decide (-1099511627776 ≤ v ∧ v ≤ 1099511627776)) && l.all (fun b => decide (y.getD b.j.toNat 0 - y.getD b.i.toNat 0 ≤ b.w))

theorem holds_len {n : Nat} {l : List Bd} {y : List Int} (h : y.length ≠ n) : false = holdsB n l y := by simp [holdsB, h]
theorem holds_val {n : Nat} {l : List Bd} {y : List Int} {k : Nat} {v : Int} (hk : y[k]? = some v) (hv : ¬ (-1099511627776 ≤ v ∧ v ≤ 1099511627776)) : false = holdsB n l y := by
  have : y.all (fun v => decide (-1099511627776 ≤ v ∧ v ≤ 1099511627776)) = false := by
    rw [Bool.eq_false_iff]
    intro h
    have := List.all_eq_true.1 h v (List.mem_of_getElem? hk)
    exact hv (of_decide_eq_true this)
  rw [holdsB, this]; simp
theorem holds_bd {n : Nat} {l : List Bd} {y : List Int} {k : Nat} {b : Bd} (hk : l[k]? = some b) (hv : b.w < y.getD b.j.toNat 0 - y.getD b.i.toNat 0) : false = holdsB n l y := by
  have : l.all (fun b => decide (y.getD b.j.toNat 0 - y.getD b.i.toNat 0 ≤ b.w)) = false := by
    rw [Bool.eq_false_iff]
    intro h
    have := of_decide_eq_true (List.all_eq_true.1 h b (List.mem_of_getElem? hk))
    omega
  rw [holdsB, this]; simp
theorem holds_yes {n : Nat} {l : List Bd} {y : List Int} (h1 : y.length = n) (h2 : ∀ k, k < y.length → ∀ v, y[k]? = some v → -1099511627776 ≤ v ∧ v ≤ 1099511627776)
    (h3 : ∀ k, k < l.length → ∀ b, l[k]? = some b → y.getD b.j.toNat 0 - y.getD b.i.toNat 0 ≤ b.w) : true = holdsB n l y := by
  symm
  simp only [holdsB, Bool.and_eq_true, decide_eq_true_eq, List.all_eq_true]
  refine ⟨⟨h1, fun v hv => ?_⟩, fun b hb => ?_⟩
  · obtain ⟨k, hk, e⟩ := List.getElem_of_mem hv
    exact h2 k hk v (by rw [List.getElem?_eq_getElem hk, e])
  · obtain ⟨k, hk, e⟩ := List.getElem_of_mem hb
    exact h3 k hk b (by rw [List.getElem?_eq_getElem hk, e])
theorem holds_un {n : Nat} {l : List Bd} {y : List Int} (h : holdsB n l y = true) : y.length = n ∧ (∀ v, v < n → -1099511627776 ≤ y.getD v 0 ∧ y.getD v 0 ≤ 1099511627776) ∧ Sol l (fun v => y.getD v 0) := by
  simp only [holdsB, Bool.and_eq_true, decide_eq_true_eq, List.all_eq_true] at h
  obtain ⟨⟨h1, h2⟩, h3⟩ := h
  refine ⟨h1, fun v hv => ?_, fun b hb => h3 b hb⟩
  have : y[v]? = some (y.getD v 0) := by simp [List.getD, List.getElem?_eq_getElem (show v < y.length by omega)]
  exact h2 _ (List.mem_of_getElem? this)

theorem more_of {α : Type} {P : α → Prop} {l : List α} {k : Nat} {x : α} (h : ∀ j, j < k → ∀ x, l[j]? = some x → P x) (hx : l[k]? = some x) (hk : P x) : ∀ j, j < k + 1 → ∀ x, l[j]? = some x → P x := by
  intro j hj y hy
  rcases Nat.lt_succ_iff_lt_or_eq.1 hj with h1 | rfl
  · exact h j h1 y hy
  · rw [hx] at hy; injection hy with hy; subst hy; exact hk

set_option maxHeartbeats 800000 in
theorem holds_any (n : Nat) (A Y : Option Addr) (l : List Bd) (y : List Int) (cap cap' : Nat) (w : World) (hV : Val n l) (h : RdB w w.heap.size A l) (hy : RdI w w.heap.size Y y) (hlen : y.length ≤ 9223372036854775807) :
    Calls Try.prog 23 #[.int .i64 n, .slice A l.length cap, .slice Y y.length cap'] w fun e w' => e = .returned (.bool (holdsB n l y)) ∧ Below w.heap.size w w' := by
  have h2 := hV.n2
  have h3 := hV.len
  have H := Lib.hid h
  have HY := Lib.hid hy
  have HV := Lib.hid hV
  clear h hV hy
  by_cases hl : y.length = n
  · have hl' : ((y.length : Int) != (n : Int)) = false := by simp [hl]
    have Hl := Lib.hid hl
    clear hl
    go_enter Try.func23, Try.ntmps23
    go_wp2
    go_loop [7] (fun i => ∃ k : Nat, k ≤ n ∧ i = .int .i64 k ∧ Hid (∀ j, j < k → ∀ v, y[j]? = some v → -1099511627776 ≤ v ∧ v ≤ 1099511627776)) (fun i => n - (intOf i).toNat)
    case atStart => exact ⟨0, Nat.zero_le _, rfl, fun j hj => absurd hj (by omega)⟩
    case round =>
      obtain ⟨k, hk, rfl, hok⟩ := hrel
      by_cases hlt : k < n
      · obtain ⟨v, hv⟩ : ∃ v, y[k]? = some v := ⟨_, List.getElem?_eq_getElem (by rw [Hl.out]; exact hlt)⟩
        obtain ⟨b1, o1, rfl, _, c1⟩ := HY.out k v hv
        have Hv := Lib.hid hv
        clear hv
        have hky : (k : Int) < (y.length : Int) := by rw [Hl.out]; omega
        go_wp2
        all_goals first
          | (go_ret; exact ⟨ret_bool (holds_val Hv.out (by omega)), Below.refl _ _⟩)
          | (go_round
             case rel => exact ⟨k + 1, by omega, by go_num, more_of hok.out Hv.out (by omega)⟩
             case measure => simp [intOf]; omega)
      · have hky : k = n := by omega
        subst hky
        go_wp2
        go_loopw [8] (fun i wr => ∃ j : Nat, j ≤ l.length ∧ i = .int .i64 j ∧ Hid (∀ q, q < j → ∀ b, l[q]? = some b → y.getD b.j.toNat 0 - y.getD b.i.toNat 0 ≤ b.w) ∧ Below w.heap.size w wr) (fun i _ => l.length - (intOf i).toNat)
        case atStart => exact ⟨0, Nat.zero_le _, rfl, fun j hj => absurd hj (by omega), Below.refl _ _⟩
        case round =>
          obtain ⟨j, hj, rfl, hok2, hb⟩ := hrel
          by_cases hjl : j < l.length
          · obtain ⟨x, hx⟩ : ∃ x, l[j]? = some x := ⟨_, List.getElem?_eq_getElem hjl⟩
            obtain ⟨o1, o2, o3, o4, o5, o6⟩ := okB_un (HV.out.ok x (List.mem_of_getElem? hx))
            obtain ⟨b2, o, rfl, _, c0, c1, c2⟩ := H.out.below hb j x hx
            have gi : y[x.i.toNat]? = some (y.getD x.i.toNat 0) := by simp [List.getD, List.getElem?_eq_getElem (show x.i.toNat < y.length by rw [Hl.out]; omega)]
            have gj : y[x.j.toNat]? = some (y.getD x.j.toNat 0) := by simp [List.getD, List.getElem?_eq_getElem (show x.j.toNat < y.length by rw [Hl.out]; omega)]
            obtain ⟨bi, oi, rfl, _, di⟩ := HY.out.below hb _ _ gi
            obtain ⟨bj, oj, e, _, dj⟩ := HY.out.below hb _ _ gj
            injection e with e
            injection e with e1 e2
            subst e1
            subst e2
            have vi := hok.out _ (by omega) _ gi
            have vj := hok.out _ (by omega) _ gj
            obtain ⟨yi, hyi⟩ : ∃ yi, yi = y.getD x.i.toNat 0 := ⟨_, rfl⟩
            obtain ⟨yj, hyj⟩ : ∃ yj, yj = y.getD x.j.toNat 0 := ⟨_, rfl⟩
            rw [← hyi] at di vi
            rw [← hyj] at dj vj
            obtain ⟨vi1, vi2⟩ := vi
            obtain ⟨vj1, vj2⟩ := vj
            have Hyi := Lib.hid hyi
            have Hyj := Lib.hid hyj
            have Hx := Lib.hid hx
            have q1 : x.i < (y.length : Int) := by rw [Hl.out]; exact o3
            have q2 : x.j < (y.length : Int) := by rw [Hl.out]; exact o4
            have q3 : (j : Int) < (l.length : Int) := by omega
            have ew : IntKind.i64.wrap (yj - yi) = yj - yi := IntWalk.i64_in _ (by omega)
            clear hx hyi hyj gi gj
            by_cases hgt : x.w < yj - yi
            · go_wp2
              go_quiet (fail)
              go_wp2
              go_ret
              exact ⟨ret_bool (holds_bd Hx.out (by rw [← Hyi.out, ← Hyj.out]; exact hgt)), Below.drewsN hb _⟩
            · go_wp2
              go_quiet (fail)
              go_wp2
              go_roundw
              case rel => exact ⟨j + 1, by omega, by go_num, more_of hok2.out Hx.out (by rw [← Hyi.out, ← Hyj.out]; omega), Below.drewsN hb _⟩
              case measure => simp [intOf]; omega
          · have hjn : j = l.length := by omega
            subst hjn
            go_wp2
            go_ret
            exact ⟨ret_bool (holds_yes Hl.out (by rw [Hl.out]; exact hok.out) hok2.out), hb⟩
  · have hl' : ((y.length : Int) != (n : Int)) = true := by simp; omega
    go_enter Try.func23, Try.ntmps23
    go_wp2
    go_ret
    exact ⟨ret_bool (holds_len hl), Below.refl _ _⟩

end Go.Proofs.Ytaonicdpeflbbaa
