/-
  The reference function Contradicts accepts the cycle that Cycle reads off the bounds noted.
  Conditions: as each theorem states them.
-/
import Derived.Test.YtaonicdpeflbbaaWn
import Derived.Test.YtaonicdpeflbbaaCyc
namespace Go.Proofs.Ytaonicdpeflbbaa
open Go.RowKit

section
variable {n : Nat} {l : List Bd} {last : Int} {bys : List Int} {ch ix : Nat → Nat} {bd : Nat → Bd} {p : Nat}

theorem CycD.apart (h : CycD n l last bys ch ix bd p) {s t : Nat} (h1 : 1 ≤ s) (h2 : s < t) (h3 : t ≤ p) : ch (n + s) ≠ ch (n + t) := by
  intro e
  have key : ∀ m, ch (n + s + m) = ch (n + t + m) := by
    intro m
    induction m with
    | zero => exact e
    | succ m ih => exact h.fun_ _ _ ih
  have := key (p - t)
  rw [show n + t + (p - t) = n + p from by omega, h.back, show n + s + (p - t) = n + (s + p - t) from by omega] at this
  exact h.first _ (by omega) (by omega) this

theorem coll_at {ix : Nat → Nat} {n p k : Nat} (hk : k < p) : (coll ix n p).reverse[k]? = some (ix (n + (p - 1 - k)) : Int) := by
  rw [List.getElem?_reverse (by simp [coll]; exact hk), coll_len, coll, List.getElem?_map, List.getElem?_range (by omega)]
  rfl

/-- What the first k bounds have marked. -/
def Seen (ch : Nat → Nat) (n p k : Nat) (l : List Bool) : Prop := l.length = n ∧ ∀ v, l.getD v false = true → ∃ s, p - k < s ∧ s ≤ p ∧ ch (n + s) = v

theorem Seen.not (h : CycD n l last bys ch ix bd p) {k : Nat} (hk : k < p) {s : List Bool} (hs : Seen ch n p k s) : s.getD (ch (n + (p - k))) false = false := by
  cases e : s.getD (ch (n + (p - k))) false with
  | false => rfl
  | true =>
    obtain ⟨t, h1, h2, h3⟩ := hs.2 _ e
    exact absurd h3.symm (h.apart (by omega) h1 h2)
theorem Seen.mark {k : Nat} (hk : k < p) {s : List Bool} (hs : Seen ch n p k s) : Seen ch n p (k + 1) (s.set (ch (n + (p - k))) true) := by
  refine ⟨by simpa using hs.1, fun v hv => ?_⟩
  by_cases e : ch (n + (p - k)) = v
  · exact ⟨p - k, by omega, by omega, e⟩
  · rw [getD_set_other e] at hv
    obtain ⟨t, h1, h2, h3⟩ := hs.2 v hv
    exact ⟨t, by omega, h2, h3⟩

theorem csum_bound (h : CycD n l last bys ch ix bd p) (hok : ∀ x ∈ l, okB n x = true) : ∀ q : Nat, -((q : Int) * 1099511627776) ≤ csum (fun k => (bd k).w) n q ∧ csum (fun k => (bd k).w) n q ≤ (q : Int) * 1099511627776 := by
  intro q
  induction q with
  | zero => simp [csum]
  | succ q ih =>
    have := okB_un (hok _ (List.mem_of_getElem? (h.at_ (n + q))))
    rw [csum, show ((q + 1 : Nat) : Int) = (q : Int) + 1 from by omega, Int.add_mul]
    omega
end

theorem Row.set_ {w : World} {g : Nat} {s : List Bool} (h : Row w g 4 (bools s)) (v : Nat) : Hid (Row (w.setCell ⟨g, v, none⟩ (.bool true)) g 4 (bools (s.set v true))) := by
  have := h.set v (.bool true)
  rw [bools_set] at this
  exact this

set_option maxHeartbeats 800000 in
set_option maxRecDepth 100000 in
theorem contra_any (n : Nat) (A C : Option Addr) (l : List Bd) (cap cap' : Nat) (w : World) (hV : Val n l) (last : Int) (bys : List Int) (ch ix : Nat → Nat) (bd : Nat → Bd) (p : Nat) (hD : CycD n l last bys ch ix bd p)
    (h : RdB w w.heap.size A l) (hc : RdI w w.heap.size C (coll ix n p).reverse) :
    Calls Try.prog 22 #[.int .i64 n, .slice A l.length cap, .slice C p cap'] w fun e w' => e = .returned (.bool true) ∧ Below w.heap.size w w' := by
  have hp1 := hD.p1
  have hp2 := hD.p2
  have h2 := hV.n2
  have h3 := hV.len
  have h1 := hV.n1
  have H := Lib.hid h
  have HC := Lib.hid hc
  have HV := Lib.hid hV
  have HD := Lib.hid hD
  have hmk := run_make_row' (P := Try.prog) 44 4 (.bool false) 1 Try.underlying44 info4' rfl .i64 .i64 n (by omega) (by omega)
  have hp0 : ((p : Int) == 0) = false := by rw [beq_eq_false_iff_ne]; omega
  have hnp : ¬ ((n : Int) < (p : Int)) := by omega
  clear h hc hV hD
  go_enter Try.func22, Try.ntmps22
  go_wp2
  have hR : Row (w.alloc (.cells (madeCells #[.bool false] n) 4)) w.heap.size 4 (bools (List.replicate n false)) := by rw [← made_bools]; exact Row.new _ _ _
  have HR := Lib.hid hR
  have HB := Lib.hid (show Below w.heap.size w (w.alloc (.cells (madeCells #[.bool false] n) 4)) from (Below.refl _ _).alloc (Nat.le_refl _) _)
  clear hmk hR hp0 hnp
  go_loopw [8, 9] (fun sm i wr => ∃ k : Nat, ∃ s : List Bool, k ≤ p ∧ i = .int .i64 k ∧ sm = .int .i64 (csum (fun k => (bd k).w) n p - csum (fun k => (bd k).w) n (p - k)) ∧ Hid (Row wr w.heap.size 4 (bools s)) ∧ Hid (Seen ch n p k s) ∧ Below w.heap.size w wr)
    (fun _ i _ => p - (intOf i).toNat)
  case atStart =>
    exact ⟨0, List.replicate n false, Nat.zero_le _, rfl, by simp, HR, ⟨by simp, fun v hv => by
      by_cases hvn : v < n <;> simp [List.getD, hvn] at hv⟩, HB.out⟩
  case round =>
    obtain ⟨k, s, hk, rfl, rfl, hr, hs, hb⟩ := hrel
    clear HR HB
    by_cases hlt : k < p
    · obtain ⟨cb, co, rfl, hcb0, cc⟩ := HC.out.below hb k _ (coll_at hlt)
      have hcb : cb < wr.heap.size := Nat.lt_of_lt_of_le hcb0 hb.size
      have hat := HD.out.at_ (n + (p - 1 - k))
      have hil : ix (n + (p - 1 - k)) < l.length := (List.getElem?_eq_some_iff.1 hat).1
      obtain ⟨lb, lo, rfl, hlb0, c0, c1, c2⟩ := H.out.below hb _ _ hat
      have hlb : lb < wr.heap.size := Nat.lt_of_lt_of_le hlb0 hb.size
      have hI : (bd (n + (p - 1 - k))).i = (ch (n + (p - k)) : Int) := by
        rw [HD.out.i_, show n + (p - 1 - k) + 1 = n + (p - k) from by omega]
      rw [hI] at c0
      have hvn := HD.out.lt (n + (p - k))
      have cs : wr.cell? ⟨w.heap.size, ch (n + (p - k)), none⟩ = some (.bool false) := by
        rw [hr.out.cell, bools_at (by rw [hs.out.1]; exact hvn), hs.out.not HD.out hlt]
      have fs := hr.out.frozen (ch (n + (p - k)))
      have hrl := hr.out.lt
      obtain ⟨vI, hvI⟩ : ∃ vI, vI = ch (n + (p - k)) := ⟨_, rfl⟩
      obtain ⟨iK, hiK⟩ : ∃ iK, iK = ix (n + (p - 1 - k)) := ⟨_, rfl⟩
      obtain ⟨jK, hjK⟩ : ∃ jK, jK = (bd (n + (p - 1 - k))).j := ⟨_, rfl⟩
      obtain ⟨wK, hwK⟩ : ∃ wK, wK = (bd (n + (p - 1 - k))).w := ⟨_, rfl⟩
      obtain ⟨S, hS⟩ : ∃ S, S = csum (fun k => (bd k).w) n p - csum (fun k => (bd k).w) n (p - k) := ⟨_, rfl⟩
      have b1 := csum_bound HD.out HV.out.ok p
      have b2 := csum_bound HD.out HV.out.ok (p - k)
      have b3 := csum_bound HD.out HV.out.ok (p - (k + 1))
      have hnew : csum (fun k => (bd k).w) n p - csum (fun k => (bd k).w) n (p - (k + 1)) = S + wK := by
        rw [hS, hwK, show p - k = (p - (k + 1)) + 1 from by omega, csum, show n + (p - 1 - k) = n + (p - (k + 1)) from by omega]
        omega
      have hM1 : (p : Int) * 1099511627776 ≤ 512 * 1099511627776 := Int.mul_le_mul_of_nonneg_right (by omega) (by omega)
      have hM2 : ((p - k : Nat) : Int) * 1099511627776 ≤ 512 * 1099511627776 := Int.mul_le_mul_of_nonneg_right (by omega) (by omega)
      have bS : -1125899906842624 ≤ S ∧ S ≤ 1125899906842624 := by rw [hS]; omega
      have bw := okB_un (HV.out.ok _ (List.mem_of_getElem? hat))
      rw [← hwK] at bw
      obtain ⟨bS1, bS2⟩ := bS
      obtain ⟨_, _, _, _, bw1, bw2⟩ := bw
      rw [← hvI] at c0 hvn cs fs
      rw [← hiK] at cc hil c0 c1 c2
      rw [← hjK] at c1
      rw [← hwK] at c2
      rw [← hS]
      have N2 : Hid (Seen ch n p (k + 1) (s.set vI true)) := by rw [hvI]; exact hs.out.mark hlt
      have Hnew := Lib.hid hnew
      have q1 : (k : Int) < (p : Int) := by omega
      have q2 : (iK : Int) < (l.length : Int) := by omega
      have q3 : (vI : Int) < (n : Int) := by omega
      by_cases hk0 : 0 < k
      · obtain ⟨cb', co', e, _, cc'⟩ := HC.out.below hb (k - 1) _ (coll_at (by omega))
        injection e with e
        injection e with e1 e2
        subst e1
        subst e2
        have hat' := HD.out.at_ (n + (p - 1 - (k - 1)))
        have hil' : ix (n + (p - 1 - (k - 1))) < l.length := (List.getElem?_eq_some_iff.1 hat').1
        obtain ⟨lb', lo', e, _, _, c1', _⟩ := H.out.below hb _ _ hat'
        injection e with e
        injection e with e1 e2
        subst e1
        subst e2
        have hJ : (bd (n + (p - 1 - (k - 1)))).j = (vI : Int) := by
          rw [HD.out.j_, hvI, show n + (p - 1 - (k - 1)) = n + (p - k) from by omega]
        rw [hJ] at c1'
        obtain ⟨iP, hiP⟩ : ∃ iP, iP = ix (n + (p - 1 - (k - 1))) := ⟨_, rfl⟩
        rw [← hiP] at cc' hil' c1'
        have q4 : (iP : Int) < (l.length : Int) := by omega
        have q5 : (0 : Int) < (k : Int) := by omega
        obtain ⟨k1, hk1⟩ : ∃ k1, k1 = k - 1 := ⟨_, rfl⟩
        rw [← hk1] at cc'
        have q7 : (k1 : Int) < (p : Int) := by omega
        have ew : IntKind.i64.wrap ((k : Int) - 1) = (k1 : Int) := by rw [IntWalk.i64_in _ (by omega)]; omega
        clear hk1
        have q9 : ((vI : Int) != (vI : Int)) = false := by simp
        clear hvI hiK hjK hwK hS hnew hI hat hat' hJ hiP
        go_wp2
        go_quiet (fail)
        go_wp2
        go_roundw
        case rel => exact ⟨k + 1, s.set vI true, by omega, by go_num, by rw [Hnew.out], ((hr.out.alloc _).drewN _).set_ vI, N2, (Below.drewsN (hb.alloc hb.size _) _).setCell (Nat.le_refl _) _⟩
        case measure => simp [intOf]; omega
      · have q5 : ¬ ((0 : Int) < (k : Int)) := by omega
        clear hvI hiK hjK hwK hS hnew hI hat
        go_wp2
        go_quiet (fail)
        go_wp2
        go_roundw
        case rel => exact ⟨k + 1, s.set vI true, by omega, by go_num, by rw [Hnew.out], ((hr.out.alloc _).drewN _).set_ vI, N2, (Below.drewsN (hb.alloc hb.size _) _).setCell (Nat.le_refl _) _⟩
        case measure => simp [intOf]; omega
    · obtain rfl : k = p := by omega
      have hneg := HD.out.neg
      obtain ⟨S, hS⟩ : ∃ S, S = csum (fun k => (bd k).w) n k - csum (fun k => (bd k).w) n (k - k) := ⟨_, rfl⟩
      have hS0 : S < 0 := by
        rw [hS, Nat.sub_self, csum]
        omega
      rw [← hS]
      obtain ⟨cb, co, rfl, hcb0, cc⟩ := HC.out.below hb (k - 1) _ (coll_at (by omega))
      have hcb : cb < wr.heap.size := Nat.lt_of_lt_of_le hcb0 hb.size
      have hat := HD.out.at_ (n + (k - 1 - (k - 1)))
      have hil : ix (n + (k - 1 - (k - 1))) < l.length := (List.getElem?_eq_some_iff.1 hat).1
      obtain ⟨lb, lo, rfl, hlb0, _, c1, _⟩ := H.out.below hb _ _ hat
      have hlb : lb < wr.heap.size := Nat.lt_of_lt_of_le hlb0 hb.size
      obtain ⟨cb', co', e, _, cc'⟩ := HC.out.below hb 0 _ (coll_at (by omega))
      injection e with e
      injection e with e1 e2
      subst e1
      subst e2
      have hat' := HD.out.at_ (n + (k - 1 - 0))
      have hil' : ix (n + (k - 1 - 0)) < l.length := (List.getElem?_eq_some_iff.1 hat').1
      obtain ⟨lb', lo', e, _, c0', _, _⟩ := H.out.below hb _ _ hat'
      injection e with e
      injection e with e1 e2
      subst e1
      subst e2
      have hJ : (bd (n + (k - 1 - (k - 1)))).j = (ch n : Int) := by rw [HD.out.j_, show n + (k - 1 - (k - 1)) = n from by omega]
      have hI : (bd (n + (k - 1 - 0))).i = (ch n : Int) := by rw [HD.out.i_, show n + (k - 1 - 0) + 1 = n + k from by omega, HD.out.back]
      rw [hJ] at c1
      rw [hI] at c0'
      obtain ⟨vI, hvI⟩ : ∃ vI, vI = ch n := ⟨_, rfl⟩
      rw [← hvI] at c1 c0'
      obtain ⟨iA, hiA⟩ : ∃ iA, iA = ix (n + (k - 1 - (k - 1))) := ⟨_, rfl⟩
      obtain ⟨iB, hiB⟩ : ∃ iB, iB = ix (n + (k - 1 - 0)) := ⟨_, rfl⟩
      rw [← hiA] at cc hil c1
      rw [← hiB] at cc' hil' c0'
      obtain ⟨k1, hk1⟩ : ∃ k1, k1 = k - 1 := ⟨_, rfl⟩
      rw [← hk1] at cc
      rw [Nat.add_zero] at cc'
      have q7 : (k1 : Int) < (k : Int) := by omega
      have ew : IntKind.i64.wrap ((k : Int) - 1) = (k1 : Int) := by rw [IntWalk.i64_in _ (by omega)]; omega
      have q1 : (0 : Int) < (k : Int) := by omega
      have q2 : (iA : Int) < (l.length : Int) := by omega
      have q3 : (iB : Int) < (l.length : Int) := by omega
      have q9 : ((vI : Int) == (vI : Int)) = true := by simp
      clear hvI hiA hiB hk1 hS hneg hI hJ hat hat'
      go_wp2
      go_quiet (fail)
      go_wp2
      go_ret
      exact ⟨rfl, Below.drewsN hb _⟩

end Go.Proofs.Ytaonicdpeflbbaa
