/-
  What diff.Tight returns for every system: the plain tightR.
  Conditions: as each theorem states them.
-/
import Derived.Test.YtaonicdpeflbbaaWf
import Derived.Test.YtaonicdpeflbbaaWi
namespace Go.Proofs.Ytaonicdpeflbbaa
open Go.RowKit
attribute [local go_sem ↓] Go.wp_at_zero Go.wp_at_succ

/-- A row of Booleans. -/
def bools (l : List Bool) : Array Value := (l.map Value.bool).toArray
theorem bools_at {l : List Bool} {i : Nat} (h : i < l.length) : (bools l)[i]? = some (.bool (l.getD i false)) := by
  simp [bools, List.getD, List.getElem?_eq_getElem h]
theorem bools_set (l : List Bool) (i : Nat) (v : Bool) : (bools l).setIfInBounds i (.bool v) = bools (l.set i v) := by
  simp [bools, List.map_set]

/-- What the closure of Tight keeps: its two captured slices, the bounds, and all that was there before block B. -/
structure TigI (w0 : World) (B pk pd gk gd n : Nat) (A : Option Addr) (l : List Bd) (s : List Int × List Bool) (w : World) : Prop where
  bel : Below B w0 w
  ck : Row w pk 44 #[.slice (some ⟨gk, 0, none⟩) n n]
  cd : Row w pd 27 #[.slice (some ⟨gd, 0, none⟩) n n]
  rk : Row w gk 4 (bools s.2)
  rd : Row w gd 3 (ints s.1)
  l1 : s.1.length = n
  l2 : s.2.length = n
  rb : RdB w B A l
  hx : B ≤ pk ∧ B ≤ pd ∧ B ≤ gk ∧ B ≤ gd
  ne : pk ≠ gk ∧ pk ≠ gd ∧ pd ≠ gk ∧ pd ≠ gd ∧ gk ≠ gd

section
variable {w0 : World} {B pk pd gk gd n : Nat} {A : Option Addr} {l : List Bd} {s : List Int × List Bool} {w : World}
theorem TigI.alloc (h : TigI w0 B pk pd gk gd n A l s w) (o : Obj) : TigI w0 B pk pd gk gd n A l s (w.alloc o) :=
  have hB : B ≤ w.heap.size := by have := h.hx.1; have := h.ck.lt; omega
  ⟨h.bel.alloc hB o, h.ck.alloc o, h.cd.alloc o, h.rk.alloc o, h.rd.alloc o, h.l1, h.l2, h.rb.below ((Below.refl B w).alloc hB o), h.hx, h.ne⟩
theorem TigI.drewN (h : TigI w0 B pk pd gk gd n A l s w) (m : Nat) : TigI w0 B pk pd gk gd n A l s (w.drewN m) :=
  ⟨Below.drewsN h.bel m, h.ck.drewN m, h.cd.drewN m, h.rk.drewN m, h.rd.drewN m, h.l1, h.l2, h.rb.below (Below.drewsN (Below.refl B w) m), h.hx, h.ne⟩
theorem TigI.store (h : TigI w0 B pk pd gk gd n A l s w) (i : Nat) (u : Int) (v : Bool) :
    TigI w0 B pk pd gk gd n A l (s.1.set i u, s.2.set i v) ((w.setCell ⟨gd, i, none⟩ (.int .i64 u)).setCell ⟨gk, i, none⟩ (.bool v)) := by
  obtain ⟨n1, n2, n3, n4, n5⟩ := h.ne
  obtain ⟨b1, b2, b3, b4⟩ := h.hx
  refine ⟨(h.bel.setCell b4 _).setCell b3 _, (h.ck.far n2 _).far n1 _, (h.cd.far n4 _).far n3 _, ?_, ?_, by simpa using h.l1, by simpa using h.l2, h.rb.below (((Below.refl B w).setCell b4 _).setCell b3 _), h.hx, h.ne⟩
  · rw [← bools_set]; exact (h.rk.far n5 _).set i _
  · rw [← ints_set]; exact (h.rd.set i _).far n5.symm _

theorem TigI.mark (h : TigI w0 B pk pd gk gd n A l s w) (i : Nat) (v : Bool) : TigI w0 B pk pd gk gd n A l (s.1, s.2.set i v) (w.setCell ⟨gk, i, none⟩ (.bool v)) := by
  obtain ⟨n1, n2, n3, n4, n5⟩ := h.ne
  obtain ⟨b1, b2, b3, b4⟩ := h.hx
  refine ⟨h.bel.setCell b3 _, h.ck.far n1 _, h.cd.far n3 _, ?_, h.rd.far n5.symm _, h.l1, by simpa using h.l2, h.rb.below ((Below.refl B w).setCell b3 _), h.hx, h.ne⟩
  rw [← bools_set]; exact h.rk.set i _

theorem tig_step (hok : ∀ x ∈ l, okB n x = true) (s : List Int × List Bool) (w : World) (k : Nat) (x : Bd) (hx : l[k]? = some x) (h : TigI w0 B pk pd gk gd n A l s w) :
    Calls Try.prog 29 #[.int .i64 k, .agg #[.int .i64 x.i, .int .i64 x.j, .int .i64 x.w], .pointer (some ⟨pk, 0, none⟩), .pointer (some ⟨pd, 0, none⟩)] w
      fun e w' => e = .returned (.bool (tStp k x s).2) ∧ TigI w0 B pk pd gk gd n A l (tStp k x s).1 w' := by
  obtain ⟨o1, o2, o3, o4, _, _⟩ := okB_un (hok x (List.mem_of_getElem? hx))
  obtain ⟨_, n2, n3, n4, n5⟩ := h.ne
  have ki : w.cell? ⟨gk, x.i.toNat, none⟩ = some (.bool (s.2.getD x.i.toNat false)) := by rw [h.rk.cell]; exact bools_at (by rw [h.l2]; omega)
  have kj : w.cell? ⟨gk, x.j.toNat, none⟩ = some (.bool (s.2.getD x.j.toNat false)) := by rw [h.rk.cell]; exact bools_at (by rw [h.l2]; omega)
  have di : w.cell? ⟨gd, x.i.toNat, none⟩ = some (.int .i64 (s.1.getD x.i.toNat 0)) := by rw [h.rd.cell]; exact ints_at (by rw [h.l1]; omega)
  have dj : w.cell? ⟨gd, x.j.toNat, none⟩ = some (.int .i64 (s.1.getD x.j.toNat 0)) := by rw [h.rd.cell]; exact ints_at (by rw [h.l1]; omega)
  unfold tStp
  cases ei : s.2.getD x.i.toNat false with
  | false =>
    rw [ei] at ki
    rw [if_neg (by simp)]
    refine (tig1_a k x.i x.j x.w n pk pd gk w o1 o3 (h.ck.cell 0) h.ck.lt h.rk.lt ki).mono ?_
    rintro e w' ⟨rfl, nq, rfl⟩
    exact ⟨rfl, (h.alloc _).drewN nq⟩
  | true =>
    rw [ei] at ki
    cases ej : s.2.getD x.j.toNat false with
    | false =>
      rw [ej] at kj
      rw [if_pos (by simp)]
      refine (tig1_b k x.i x.j x.w _ _ n pk pd gk gd w o1 o3 o2 o4 (h.ck.cell 0) (h.cd.cell 0) h.ck.lt h.cd.lt h.rk.lt h.rd.lt n2 n3 n4 n5 ki kj di dj (h.rk.frozen _) (h.rd.frozen _)).mono ?_
      rintro e w' ⟨rfl, nq, rfl⟩
      exact ⟨rfl, ((h.alloc _).drewN nq).store _ _ _⟩
    | true =>
      rw [ej] at kj
      by_cases hlt : wrap64 (s.1.getD x.i.toNat 0 + x.w) < s.1.getD x.j.toNat 0
      · rw [if_pos ⟨rfl, .inr hlt⟩]
        refine (tig1_d k x.i x.j x.w _ _ n pk pd gk gd w o1 o3 o2 o4 (h.ck.cell 0) (h.cd.cell 0) h.ck.lt h.cd.lt h.rk.lt h.rd.lt n2 n3 n4 n5 ki kj di dj (h.rk.frozen _) (h.rd.frozen _) hlt).mono ?_
        rintro e w' ⟨rfl, nq, rfl⟩
        exact ⟨rfl, ((h.alloc _).drewN nq).store _ _ _⟩
      · rw [if_neg (by rintro ⟨_, h2⟩; rcases h2 with h2 | h2; cases h2; exact hlt h2)]
        refine (tig1_c k x.i x.j x.w _ _ n pk pd gk gd w o1 o3 o2 o4 (h.ck.cell 0) (h.cd.cell 0) h.ck.lt h.cd.lt h.rk.lt h.rd.lt ki kj di dj (Int.not_lt.1 hlt)).mono ?_
        rintro e w' ⟨rfl, nq, rfl⟩
        exact ⟨rfl, (h.alloc _).drewN nq⟩
end

theorem info4' : (Try.prog.info? 4).map (fun i => (i.zero, i.size, i.bytes)) = some (some (.bool false), 1, 1) := by kernel_rfl
theorem made_bools (n : Nat) : madeCells #[.bool false] n = bools (List.replicate n false) := by
  apply Array.ext'
  simp [madeCells, bools]
  apply List.ext_getElem
  · simp
  · intro i h1 h2
    simp [Nat.mod_one]

theorem tig_start {w2 W : World} {pk pd gk gd m : Nat} {A : Option Addr} {l : List Bd} (hr : RdB w2 w2.heap.size A l) (ck : Row W pk 44 #[.slice (some ⟨gk, 0, none⟩) m m]) (cd : Row W pd 27 #[.slice (some ⟨gd, 0, none⟩) m m])
    (rk : Row W gk 4 (madeCells #[.bool false] m)) (rd : Row W gd 3 (madeCells #[.int .i64 0] m)) (hb : Below w2.heap.size w2 W)
    (hx : w2.heap.size ≤ pk ∧ w2.heap.size ≤ pd ∧ w2.heap.size ≤ gk ∧ w2.heap.size ≤ gd) (ne : pk ≠ gk ∧ pk ≠ gd ∧ pd ≠ gk ∧ pd ≠ gd ∧ gk ≠ gd) :
    TigI w2 w2.heap.size pk pd gk gd m A l (List.replicate m 0, List.replicate m false) W :=
  ⟨hb, ck, cd, by rw [← made_bools]; exact rk, by rw [← made_ints]; exact rd, by simp, by simp, hr.below hb, hx, ne⟩

/-- What Tight answers. -/
def tightR (n : Int) (l : List Bd) (i j : Int) : Int × Bool × Int :=
  if checkF n l = 0 then
    if 0 ≤ i ∧ i < n ∧ 0 ≤ j ∧ j < n then
      if (low n.toNat l).2 < 0 then
        match tb n.toNat l i.toNat j.toNat with
        | some w => (w, true, 0)
        | none => (0, false, 0)
      else (0, false, 230)
    else (0, false, 1)
  else (0, false, checkF n l)

def TightRes (n : Int) (l : List Bd) (i j : Int) (e : Ending) : Prop := e = .returned (.tuple #[.int .i64 (tightR n l i j).1, .bool (tightR n l i j).2.1, .int .i64 (tightR n l i j).2.2])
theorem TightRes.mk {n : Int} {l : List Bd} {i j a c : Int} {b : Bool} (h : tightR n l i j = (a, b, c)) : TightRes n l i j (.returned (.tuple #[.int .i64 a, .bool b, .int .i64 c])) := by
  unfold TightRes
  rw [h]

set_option maxHeartbeats 800000 in
theorem tight_any (n : Int) (A : Option Addr) (l : List Bd) (cap : Nat) (i j : Int) (w : World) (h : RdB w w.heap.size A l) :
    Calls Try.prog 19 #[.int .i64 n, .slice A l.length cap, .int .i64 i, .int .i64 j] w fun e w' => TightRes n l i j e ∧ Below w.heap.size w w' := by
  have H := Lib.hid h
  clear h
  by_cases hc : checkF n l = 0
  · by_cases hij : 0 ≤ i ∧ i < n ∧ 0 ≤ j ∧ j < n
    · obtain ⟨m, rfl, hV⟩ := val_of hc
      obtain ⟨hi0, hin, hj0, hjn⟩ := hij
      obtain ⟨a, rfl⟩ := Int.eq_ofNat_of_zero_le hi0
      obtain ⟨b, rfl⟩ := Int.eq_ofNat_of_zero_le hj0
      have ht : tightR m l a b = if (low m l).2 < 0 then (match tb m l a b with | some w => (w, true, (0 : Int)) | none => (0, false, (0 : Int))) else (0, false, (230 : Int)) := by
        rw [tightR, if_pos hc, if_pos ⟨hi0, hin, hj0, hjn⟩]; rfl
      have Hc := Lib.hid hc
      have HV := Lib.hid hV
      have h1 := hV.n1
      have h2 := hV.n2
      have h3 := hV.len
      have ha : a < m := by omega
      have hb : b < m := by omega
      clear hc hV
      have hmk := run_make_row' (P := Try.prog) 27 3 (.int .i64 0) 8 Try.underlying27 info3' rfl .i64 .i64 m (by omega) (by omega)
      have hmk2 := run_make_row' (P := Try.prog) 44 4 (.bool false) 1 Try.underlying44 info4' rfl .i64 .i64 m (by omega) (by omega)
      have Hmk := Lib.hid hmk
      have Hmk2 := Lib.hid hmk2
      clear hmk hmk2
      have HT := Lib.hid ht
      clear ht
      go_enter Try.func19, Try.ntmps19
      go_wp2_with fail
      refine (check_any _ A l cap w H.out).mono ?_
      rintro e w1 ⟨rfl, hb1⟩
      rw [Hc.out]
      have H1 := Lib.hid ((H.out.below hb1).more hb1.size)
      have Hb := Lib.hid hb1
      clear hb1
      go_wp2_with fail
      refine (lowest_any m A l cap w1 h1 h2 h3 HV.out.ok H1.out).mono ?_
      rintro e w2 ⟨gx, gy, rfl, rx, ry, hgx, hgy, hb2⟩
      have Hb2 := Lib.hid hb2
      clear rx ry hb2 hgx hgy
      by_cases hl : (runs lowStp l m (low0 m) (-1)).2 < 0
      · have hl' : ¬ 0 ≤ (runs lowStp l m (low0 m) (-1)).2 := by omega
        have H2 := Lib.hid ((H1.out.below Hb2.out).more Hb2.out.size)
        have ht := HT.out
        rw [if_pos (show (low m l).2 < 0 from hl)] at ht
        have Ht := Lib.hid ht
        clear ht
        have hmk := Hmk.out
        have hmk2 := Hmk2.out
        go_upto_region 9 with fail
        go_cut [14, 15] (fun s14 s15 wx => ∃ pk pd gk gd, s14 = .pointer (some ⟨pd, 0, none⟩) ∧ s15 = .pointer (some ⟨pk, 0, none⟩) ∧ TigI w2 w2.heap.size pk pd gk gd m A l (List.replicate m 0, List.replicate m false) wx)
        case first =>
          go_region
          all_goals
            go_wp2_with fail
            go_meet
            repeat apply Exists.intro
            apply And.intro rfl
            apply And.intro rfl
            apply tig_start H2.out
            case ck => repeat (first | with_reducible exact Row.newAt (by simp) _ _ | with_reducible refine Row.drew ?_ | with_reducible refine Row.alloc ?_ _)
            case cd => repeat (first | with_reducible exact Row.newAt (by simp) _ _ | with_reducible refine Row.drew ?_ | with_reducible refine Row.alloc ?_ _)
            case rk => repeat (first | with_reducible exact Row.newAt (by simp) _ _ | with_reducible refine Row.drew ?_ | with_reducible refine Row.alloc ?_ _)
            case rd => repeat (first | with_reducible exact Row.newAt (by simp) _ _ | with_reducible refine Row.drew ?_ | with_reducible refine Row.alloc ?_ _)
            case hb => repeat (first | with_reducible exact Below.refl _ _ | with_reducible refine Below.drew ?_ | with_reducible refine Below.alloc ?_ (by simp; try omega) _)
            case hx => omega
            case ne => omega
        case rest =>
          obtain ⟨pk, pd, gk, gd, rfl, rfl, hT⟩ := hcut
          have ck := hT.ck.cell 0
          have ka : wc.cell? ⟨gk, a, none⟩ = some (.bool false) := by rw [hT.rk.cell, bools_at (by simpa using ha)]; simp [List.getD, ha]
          have fa := hT.rk.frozen a
          have hgk := hT.rk.lt
          have ham : (a : Int) < (m : Int) := by omega
          have HT2 := Lib.hid hT
          clear hT hmk hmk2
          go_wp2_with fail
          refine (rounds_any tStp (TigI w2 w2.heap.size pk pd gk gd m A l) 29 _ m A l cap w2.heap.size h2 h3 (fun _ _ h => h.rb) (fun _ _ o h => h.alloc o) (fun s w k x hx h => ?_) (fun _ _ => rfl) (t0 m a) _ (HT2.out.mark a true)).mono ?_
          · exact tig_step HV.out.ok s w k x hx h
          rintro e w3 ⟨rfl, hJ⟩
          clear ka fa ck
          have ck := hJ.ck.cell 0
          have cd := hJ.cd.cell 0
          have kb : w3.cell? ⟨gk, b, none⟩ = some (.bool ((tig m l a).1.2.getD b false)) := by
            rw [hJ.rk.cell]; exact bools_at (by rw [hJ.l2]; exact hb)
          have db : w3.cell? ⟨gd, b, none⟩ = some (.int .i64 ((tig m l a).1.1.getD b 0)) := by
            rw [hJ.rd.cell]; exact ints_at (by rw [hJ.l1]; exact hb)
          have hbm : (b : Int) < (m : Int) := by omega
          have HJ := Lib.hid hJ
          clear hJ
          have hend : Below w.heap.size w w3 := Hb.out.trans ((Hb2.out.mono Hb.out.size).trans (HJ.out.bel.mono (Nat.le_trans Hb.out.size Hb2.out.size)))
          obtain ⟨dv, hdv⟩ : ∃ dv, dv = (tig m l a).1.1.getD b 0 := ⟨_, rfl⟩
          rw [← hdv] at db
          have Hdv := Lib.hid hdv
          clear hdv
          cases hkb : (tig m l a).1.2.getD b false with
          | false =>
            rw [hkb] at kb
            have Hkb := Lib.hid hkb
            clear hkb
            go_wp2
            go_ret3
            refine ⟨TightRes.mk ?_, hend⟩
            rw [Ht.out, tb, if_neg (by rw [Hkb.out]; simp)]
          | true =>
            rw [hkb] at kb
            have Hkb := Lib.hid hkb
            clear hkb
            go_wp2
            go_ret3
            refine ⟨TightRes.mk ?_, hend⟩
            rw [Ht.out, tb, if_pos Hkb.out, ← Hdv.out]
      · have hl' : 0 ≤ (runs lowStp l m (low0 m) (-1)).2 := by omega
        have ht := HT.out
        rw [if_neg (show ¬ (low m l).2 < 0 from hl)] at ht
        have Ht := Lib.hid ht
        clear ht
        go_wp2
        go_ret3
        exact ⟨TightRes.mk Ht.out, Hb.out.trans (Hb2.out.mono Hb.out.size)⟩
    · have ht : tightR n l i j = (0, false, 1) := by rw [tightR, if_pos hc, if_neg hij]
      have Ht := Lib.hid ht
      have Hc := Lib.hid hc
      clear ht hc
      go_enter Try.func19, Try.ntmps19
      go_wp2_with fail
      refine (check_any _ A l cap w H.out).mono ?_
      rintro e w1 ⟨rfl, hb1⟩
      rw [Hc.out]
      have Hb := Lib.hid hb1
      clear hb1
      by_cases hm : min i j < 0
      · go_wp2
        go_ret3
        exact ⟨TightRes.mk Ht.out, Hb.out⟩
      · have hx : n ≤ max i j := by omega
        go_wp2
        go_ret3
        exact ⟨TightRes.mk Ht.out, Hb.out⟩
  · have ht : tightR n l i j = (0, false, checkF n l) := by rw [tightR, if_neg hc]
    have hc' : (checkF n l == 0) = false := by simpa using hc
    have hc2 : (checkF n l != 0) = true := by simpa using hc
    have Ht := Lib.hid ht
    have Hc := Lib.hid hc
    clear ht hc
    go_enter Try.func19, Try.ntmps19
    go_wp2_with fail
    refine (check_any _ A l cap w H.out).mono ?_
    rintro e w1 ⟨rfl, hb1⟩
    have Hb := Lib.hid hb1
    clear hb1
    go_wp2
    go_ret3
    exact ⟨TightRes.mk Ht.out, Hb.out⟩

end Go.Proofs.Ytaonicdpeflbbaa
