/-
  What the reference function Tight returns for a valid system that has a solution.
  Conditions: as each theorem states them.
-/
import Derived.Test.YtaonicdpeflbbaaWl
namespace Go.Proofs.Ytaonicdpeflbbaa
open Go.RowKit

/-- What the reference's Tight keeps: its two slices, the bounds, and all that was there before block B. -/
structure TigR (w0 : World) (B gd gk n : Nat) (A : Option Addr) (l : List Bd) (s : List Int × List Bool) (w : World) : Prop where
  bel : Below B w0 w
  rd : Row w gd 3 (ints s.1)
  rk : Row w gk 4 (bools s.2)
  l1 : s.1.length = n
  l2 : s.2.length = n
  rb : RdB w B A l
  hx : B ≤ gd ∧ B ≤ gk
  ne : gd ≠ gk

section
variable {w0 : World} {B gd gk n : Nat} {A : Option Addr} {l : List Bd} {s : List Int × List Bool} {w : World}
theorem TigR.alloc (h : TigR w0 B gd gk n A l s w) (o : Obj) : TigR w0 B gd gk n A l s (w.alloc o) :=
  have hB : B ≤ w.heap.size := by have := h.hx.1; have := h.rd.lt; omega
  ⟨h.bel.alloc hB o, h.rd.alloc o, h.rk.alloc o, h.l1, h.l2, h.rb.below ((Below.refl B w).alloc hB o), h.hx, h.ne⟩
theorem TigR.drewN (h : TigR w0 B gd gk n A l s w) (m : Nat) : TigR w0 B gd gk n A l s (w.drewN m) :=
  ⟨Below.drewsN h.bel m, h.rd.drewN m, h.rk.drewN m, h.l1, h.l2, h.rb.below (Below.drewsN (Below.refl B w) m), h.hx, h.ne⟩
theorem TigR.store (h : TigR w0 B gd gk n A l s w) (i : Nat) (u : Int) (v : Bool) :
    TigR w0 B gd gk n A l (s.1.set i u, s.2.set i v) ((w.setCell ⟨gd, i, none⟩ (.int .i64 u)).setCell ⟨gk, i, none⟩ (.bool v)) := by
  have n5 := h.ne
  obtain ⟨b3, b4⟩ := h.hx
  refine ⟨(h.bel.setCell b3 _).setCell b4 _, ?_, ?_, by simpa using h.l1, by simpa using h.l2, h.rb.below (((Below.refl B w).setCell b3 _).setCell b4 _), h.hx, h.ne⟩
  · rw [← ints_set]; exact (h.rd.set i _).far n5 _
  · rw [← bools_set]; exact (h.rk.far n5.symm _).set i _
end

/-- The rounds of the reference end: what is to come, as long as something turned. -/
def TRel (n : Nat) (l : List Bd) (a : Nat) (k : Nat) (s : List Int × List Bool) (c : Bool) : Prop :=
  (c = true ∧ k < n ∧ runs tStp l (n - k) s (-1) = tig n l a) ∨ (c = false ∧ (tig n l a).1 = s)
theorem trel_next {n : Nat} {l : List Bd} {a k : Nat} {s t : List Int × List Bool} {lst : Int} {cb : Bool} (hF : (tig n l a).2 < 0) (hk : k < n) (hr : runs tStp l (n - k) s (-1) = tig n l a)
    (hsp : sweep tStp l 0 s (-1) = (t, lst)) (hc : cb = decide (0 ≤ lst)) : TRel n l a (k + 1) t cb ∧ (cb = true → k + 1 < n) := by
  by_cases hl : lst < 0
  · have h1 : runs tStp l (n - k) s (-1) = (t, lst) := by
      rw [show n - k = (n - k - 1) + 1 from by omega]
      exact runs_stop tStp hsp hl
    have hcb : cb = false := by rw [hc, decide_eq_false_iff_not]; omega
    exact ⟨.inr ⟨hcb, by rw [← hr, h1]⟩, by rw [hcb]; intro h; cases h⟩
  · have h1 : runs tStp l (n - k) s (-1) = runs tStp l (n - (k + 1)) t lst := by
      rw [show n - k = (n - (k + 1)) + 1 from by omega]
      exact runs_on tStp hsp hl
    have hk1 : k + 1 < n := by
      rcases Nat.lt_or_ge (k + 1) n with h | h
      · exact h
      · rw [show n - (k + 1) = 0 from by omega, runs] at h1
        rw [← hr, h1] at hF
        exact absurd hF hl
    have hcb : cb = true := by rw [hc, decide_eq_true_iff]; omega
    exact ⟨.inl ⟨hcb, hk1, by rw [runs_last tStp l (by omega) t (-1) lst, ← h1, hr]⟩, fun _ => hk1⟩

set_option maxHeartbeats 1600000 in
set_option maxRecDepth 100000 in
theorem reftight_loop (n : Nat) (A : Option Addr) (l : List Bd) (cap : Nat) (a b : Nat) (w : World) (hV : Val n l) (h : RdB w w.heap.size A l) (ha : a < n) (hb : b < n)
    (hsol : (low n l).2 < 0) :
    Calls Try.prog 20 #[.int .i64 n, .slice A l.length cap, .int .i64 a, .int .i64 b] w fun e w' => TightRes n l a b e ∧ Below w.heap.size w w' := by
  have h1 := hV.n1
  have h2 := hV.n2
  have h3 := hV.len
  have hc := val_check hV
  have ht : tightR n l a b = (match tb n l a b with | some w => (w, true, (0 : Int)) | none => (0, false, (0 : Int))) := by
    rw [tightR, if_pos hc, if_pos ⟨by omega, by omega, by omega, by omega⟩]
    exact if_pos hsol
  have hrest := tig_rest hV ha _ (low_sol hV hsol).2.1
  have Hrest := Lib.hid hrest
  have Ht := Lib.hid ht
  have Hc := Lib.hid hc
  have HV := Lib.hid hV
  have Hsol := Lib.hid hsol
  have H := Lib.hid h
  have Hmk := Lib.hid (run_make_row' (P := Try.prog) 27 3 (.int .i64 0) 8 Try.underlying27 info3' rfl .i64 .i64 n (by omega) (by omega))
  have Hmk2 := Lib.hid (run_make_row' (P := Try.prog) 44 4 (.bool false) 1 Try.underlying44 info4' rfl .i64 .i64 n (by omega) (by omega))
  clear ht hc hV hsol h hrest
  have e1 : ¬ ((a : Int) < 0) := by omega
  have e2 : ¬ ((n : Int) ≤ (a : Int)) := by omega
  have e3 : ¬ ((b : Int) < 0) := by omega
  have e4 : ¬ ((n : Int) ≤ (b : Int)) := by omega
  go_enter Try.func20, Try.ntmps20
  go_wp2_with fail
  refine (refcheck_any _ A l cap w H.out).mono ?_
  rintro e w1 ⟨rfl, hb1⟩
  rw [Hc.out]
  have H1 := Lib.hid ((H.out.below hb1).more hb1.size)
  have Hb := Lib.hid hb1
  clear hb1
  go_wp2_with fail
  refine (refsolve_any _ A l cap w1 H1.out).mono ?_
  rintro e w2 ⟨v, er, rfl, hres, hb2⟩
  obtain ⟨rfl, g, rfl, _, _⟩ : er = 0 ∧ ∃ g, v = .slice (some ⟨g, 0, none⟩) n n ∧ w1.heap.size ≤ g ∧ Row w2 g 3 (ints (low n l).1.1) := by
    rw [SolveRes, if_pos Hc.out, if_pos (show (low (Int.toNat (n : Int)) l).2 < 0 from Hsol.out)] at hres
    exact hres
  clear hres
  have H2 := Lib.hid ((H1.out.below hb2).more hb2.size)
  have Hb2 := Lib.hid hb2
  clear hb2
  have hmk := Hmk.out
  have hmk2 := Hmk2.out
  have han : (a : Int) < (n : Int) := by omega
  have hR0 : Row ((w2.alloc (.cells (madeCells #[.int .i64 0] n) 3)).alloc (.cells (madeCells #[.bool false] n) 4)) w2.heap.size 3 (ints (List.replicate n 0)) := by
    rw [← made_ints]; exact (Row.new _ _ _).alloc _
  have hR1 : Row ((w2.alloc (.cells (madeCells #[.int .i64 0] n) 3)).alloc (.cells (madeCells #[.bool false] n) 4)) (w2.heap.size + 1) 4 (bools (List.replicate n false)) := by
    rw [← made_bools]; exact Row.newAt (by simp) _ _
  have ca : ((w2.alloc (.cells (madeCells #[.int .i64 0] n) 3)).alloc (.cells (madeCells #[.bool false] n) 4)).cell? ⟨w2.heap.size + 1, a, none⟩ = some (.bool false) := by
    rw [hR1.cell, bools_at (by simpa using ha)]; simp [List.getD, ha]
  have fa := hR1.frozen a
  have hT : TigR w2 w2.heap.size w2.heap.size (w2.heap.size + 1) n A l (t0 n a) ((w2.alloc (.cells (madeCells #[.int .i64 0] n) 3)).alloc (.cells ((madeCells #[.bool false] n).setIfInBounds a (.bool true)) 4)) := by
    have hb : Below w2.heap.size w2 ((w2.alloc (.cells (madeCells #[.int .i64 0] n) 3)).alloc (.cells ((madeCells #[.bool false] n).setIfInBounds a (.bool true)) 4)) := ((Below.refl _ _).alloc (Nat.le_refl _) _).alloc (by simp) _
    refine ⟨hb, ?_, ?_, by simp [t0], by simp [t0], H2.out.below hb, by omega, by omega⟩
    · rw [show (t0 n a).1 = List.replicate n 0 from rfl, ← made_ints]; exact (Row.new _ _ _).alloc _
    · rw [show (t0 n a).2 = (List.replicate n false).set a true from rfl, ← bools_set, ← made_bools]; exact Row.newAt (by simp) _ _
  have HT := Lib.hid hT
  clear hR0 hR1 hT
  go_wp2
  clear hmk hmk2 ca fa
  go_loopg [16] n (fun gh c wr => ∃ k : Nat, ∃ s : List Int × List Bool, ∃ cb : Bool, gh = n - k ∧ c = .bool cb ∧ Hid (TRel n l a k s cb) ∧ (cb = true → k < n) ∧ TigR w2 w2.heap.size w2.heap.size (w2.heap.size + 1) n A l s wr)
  case atStart =>
    exact ⟨0, t0 n a, true, rfl, rfl, .inl ⟨rfl, by omega, rfl⟩, fun _ => by omega, HT.out⟩
  case round =>
    obtain ⟨k, s, cb, rfl, rfl, hrel, hkn, hI⟩ := hrel
    clear HT
    cases cb with
    | true =>
      have hlt := hkn rfl
      have hr : runs tStp l (n - k) s (-1) = tig n l a := by
        rcases hrel.out with ⟨_, _, h⟩ | ⟨h, _⟩
        · exact h
        · cases h
      have Hr := Lib.hid hr
      clear hr hrel hkn
      go_wp2
      obtain ⟨wo, rfl⟩ : ∃ wo : World, wo = wr := ⟨_, rfl⟩
      obtain ⟨sp, hsp⟩ : ∃ p, p = sweep tStp l 0 s (-1) := ⟨_, rfl⟩
      have Hsp := Lib.hid hsp
      clear hsp
      go_loopw [16, 17] (fun c i wr => ∃ j : Nat, ∃ t : List Int × List Bool, ∃ lst : Int, ∃ cb : Bool, j ≤ l.length ∧ i = .int .i64 j ∧ c = .bool cb ∧ Hid (cb = decide (0 ≤ lst)) ∧ Hid (sweep tStp (l.drop j) j t lst = sp) ∧ TigR w2 w2.heap.size w2.heap.size (w2.heap.size + 1) n A l t wr)
        (fun _ i _ => l.length - (intOf i).toNat)
      case atStart => exact ⟨0, s, -1, false, Nat.zero_le _, rfl, rfl, (show false = decide ((0 : Int) ≤ -1) from by decide), Hsp.out.symm, hI⟩
      case round =>
        obtain ⟨j, t, lst, cb, hj, rfl, rfl, hcb, hsw, hJ⟩ := hrel
        clear hI
        by_cases hjl : j < l.length
        · obtain ⟨x, hx⟩ : ∃ x, l[j]? = some x := ⟨_, List.getElem?_eq_getElem hjl⟩
          obtain ⟨o1, o2, o3, o4, _, _⟩ := okB_un (HV.out.ok x (List.mem_of_getElem? hx))
          obtain ⟨bb, off, rfl, hbw, c0, c1, c2⟩ := hJ.rb j x hx
          have ci : wr.cell? ⟨w2.heap.size, x.i.toNat, none⟩ = some (.int .i64 (t.1.getD x.i.toNat 0)) := by rw [hJ.rd.cell]; exact ints_at (by rw [hJ.l1]; omega)
          have cj : wr.cell? ⟨w2.heap.size, x.j.toNat, none⟩ = some (.int .i64 (t.1.getD x.j.toNat 0)) := by rw [hJ.rd.cell]; exact ints_at (by rw [hJ.l1]; omega)
          have ki : wr.cell? ⟨w2.heap.size + 1, x.i.toNat, none⟩ = some (.bool (t.2.getD x.i.toNat false)) := by rw [hJ.rk.cell]; exact bools_at (by rw [hJ.l2]; omega)
          have kj : wr.cell? ⟨w2.heap.size + 1, x.j.toNat, none⟩ = some (.bool (t.2.getD x.j.toNat false)) := by rw [hJ.rk.cell]; exact bools_at (by rw [hJ.l2]; omega)
          have fj := hJ.rd.frozen x.j.toNat
          have fk := hJ.rk.frozen x.j.toNat
          have l1 := hJ.rd.lt
          have l2 := hJ.rk.lt
          have hst : tStp j x t = if t.2.getD x.i.toNat false = true ∧ (t.2.getD x.j.toNat false = false ∨ wrap64 (t.1.getD x.i.toNat 0 + x.w) < t.1.getD x.j.toNat 0) then ((t.1.set x.j.toNat (wrap64 (t.1.getD x.i.toNat 0 + x.w)), t.2.set x.j.toNat true), true) else (t, false) := rfl
          have hsd := sweep_drop tStp hx t lst
          rw [hst] at hsd
          obtain ⟨xi, hxi⟩ : ∃ xi, xi = t.1.getD x.i.toNat 0 := ⟨_, rfl⟩
          obtain ⟨xj, hxj⟩ : ∃ xj, xj = t.1.getD x.j.toNat 0 := ⟨_, rfl⟩
          rw [← hxi] at ci
          rw [← hxj] at cj
          rw [← hxi, ← hxj] at hsd
          have HJ := Lib.hid hJ
          clear hx hxi hxj hst hJ
          cases ei : t.2.getD x.i.toNat false with
          | false =>
            rw [ei] at ki hsd
            rw [if_neg (by simp)] at hsd
            have Hsd := Lib.hid hsd
            clear hsd ei
            go_wp2
            go_quiet (fail)
            go_wp2
            go_roundw
            case rel => exact ⟨j + 1, _, _, _, by omega, by go_num, rfl, hcb, by rw [← hsw.out, Hsd.out]; rfl, (HJ.out.alloc _).drewN _⟩
            case measure => simp [intOf]; omega
          | true =>
            rw [ei] at ki hsd
            by_cases hup : t.2.getD x.j.toNat false = false ∨ wrap64 (xi + x.w) < xj
            · rw [if_pos ⟨rfl, hup⟩] at hsd
              have Hsd := Lib.hid hsd
              clear hsd ei
              cases ej : t.2.getD x.j.toNat false with
              | false =>
                rw [ej] at kj
                clear ej hup
                go_wp2
                go_quiet (fail)
                go_wp2
                go_region
                go_wp2
                go_roundw
                case rel => exact ⟨j + 1, _, (j : Int), true, by omega, by go_num, rfl, (show true = decide ((0 : Int) ≤ (j : Int)) from by simp), by rw [← hsw.out, Hsd.out]; rfl, ((HJ.out.alloc _).drewN _).store _ _ _⟩
                case measure => simp [intOf]; omega
              | true =>
                rw [ej] at kj hup
                have hlt2 : wrap64 (xi + x.w) < xj := by rcases hup with h | h; cases h; exact h
                clear ej hup
                go_wp2
                go_quiet (fail)
                go_wp2
                go_region
                go_wp2
                go_roundw
                case rel => exact ⟨j + 1, _, (j : Int), true, by omega, by go_num, rfl, (show true = decide ((0 : Int) ≤ (j : Int)) from by simp), by rw [← hsw.out, Hsd.out]; rfl, ((HJ.out.alloc _).drewN _).store _ _ _⟩
                case measure => simp [intOf]; omega
            · rw [if_neg (fun h => hup h.2)] at hsd
              have Hsd := Lib.hid hsd
              have ej : t.2.getD x.j.toNat false = true := by cases h : t.2.getD x.j.toNat false with
                | true => rfl
                | false => exact absurd (.inl h) hup
              have hge : ¬ wrap64 (xi + x.w) < xj := fun h => hup (.inr h)
              rw [ej] at kj
              clear hsd ei ej hup
              go_wp2
              go_quiet (fail)
              go_wp2
              go_roundw
              case rel => exact ⟨j + 1, _, _, _, by omega, by go_num, rfl, hcb, by rw [← hsw.out, Hsd.out]; rfl, (HJ.out.alloc _).drewN _⟩
              case measure => simp [intOf]; omega
        · have he : sweep tStp (l.drop j) j t lst = (t, lst) := sweep_end tStp (by omega) t lst
          have hsp : sweep tStp l 0 s (-1) = (t, lst) := by rw [← Hsp.out, ← hsw.out, he]
          obtain ⟨hT1, hT2⟩ := trel_next Hrest.out hlt Hr.out hsp hcb.out
          have HT1 := Lib.hid hT1
          clear he hsp hT1
          go_wp2
          go_roundg (n - (k + 1))
          case measure => omega
          case rel => exact ⟨k + 1, t, cb, rfl, rfl, HT1, hT2, hJ⟩
    | false =>
      have hs : (tig n l a).1 = s := by
        rcases hrel.out with ⟨h, _⟩ | ⟨_, h⟩
        · cases h
        · exact h
      have kb : wr.cell? ⟨w2.heap.size + 1, b, none⟩ = some (.bool ((tig n l a).1.2.getD b false)) := by
        rw [hI.rk.cell, ← hs]; exact bools_at (by rw [hs, hI.l2]; exact hb)
      have db : wr.cell? ⟨w2.heap.size, b, none⟩ = some (.int .i64 ((tig n l a).1.1.getD b 0)) := by
        rw [hI.rd.cell, ← hs]; exact ints_at (by rw [hs, hI.l1]; exact hb)
      have hbm : (b : Int) < (n : Int) := by omega
      have hend : Below w.heap.size w wr := Hb.out.trans ((Hb2.out.mono Hb.out.size).trans (hI.bel.mono (Nat.le_trans Hb.out.size Hb2.out.size)))
      clear hs hI hrel hkn
      obtain ⟨dv, hdv⟩ : ∃ dv, dv = (tig n l a).1.1.getD b 0 := ⟨_, rfl⟩
      rw [← hdv] at db
      have Hdv := Lib.hid hdv
      clear hdv
      cases hkb : (tig n l a).1.2.getD b false with
      | false =>
        rw [hkb] at kb
        have Hkb := Lib.hid hkb
        clear hkb
        go_wp2
        go_ret3
        refine ⟨TightRes.mk ?_, hend⟩
        rw [Ht.out, tb, if_neg (by rw [Hkb.out]; simp)]
      | true =>
        rw [hkb] at kb
        have Hkb := Lib.hid hkb
        clear hkb
        go_wp2
        go_ret3
        refine ⟨TightRes.mk ?_, hend⟩
        rw [Ht.out, tb, if_pos Hkb.out, ← Hdv.out]

end Go.Proofs.Ytaonicdpeflbbaa
