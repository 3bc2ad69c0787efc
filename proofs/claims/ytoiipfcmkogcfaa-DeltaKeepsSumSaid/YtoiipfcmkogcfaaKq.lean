/-
  The law DeltaKeepsSum returns true for whatever balances and changes are read.
  Conditions: as each theorem states them.
-/
import Derived.Test.YtoiipfcmkogcfaaSc
import Derived.Test.YtoiipfcmkogcfaaKp
namespace Go.Proofs.Ytoiipfcmkogcfaa
open Go.RowKit Go.Lib

/-- A change of d names account j. -/
def nm (d : List Dl) (j : Nat) : Bool := d.any fun x => x.payer == (j : Int) || x.payee == (j : Int)
def nmRow (d : List Dl) : Array Value := ((List.range 336).map fun j => Value.bool (nm d j)).toArray
theorem nmRow_zero : Array.replicate 336 (Value.bool false) = nmRow [] := by
  apply Array.ext
  · simp [nmRow]
  · intro i h1 h2
    simp [nmRow, nm]
theorem nmRow_at {d : List Dl} {j : Nat} (h : j < 336) : (nmRow d)[j]? = some (.bool (nm d j)) := by
  simp [nmRow, h]
theorem nmRow_set {d : List Dl} {k i j : Nat} {x : Dl} (hx : d[k]? = some x) (hi : x.payer = (i : Int)) (hj : x.payee = (j : Int)) : ((nmRow (d.take k)).setIfInBounds i (.bool true)).setIfInBounds j (.bool true) = nmRow (d.take (k + 1)) := by
  apply Array.ext
  · simp [nmRow]
  · intro n h1 h2
    have e : nm (d.take (k + 1)) n = (nm (d.take k) n || (x.payer == (n : Int) || x.payee == (n : Int))) := by
      unfold nm
      rw [List.take_add_one, hx, List.any_append]
      simp
    simp only [nmRow, List.setIfInBounds_toArray, List.getElem_toArray, List.getElem_set, List.getElem_map, List.getElem_range]
    rw [e, hi, hj]
    by_cases h3 : j = n
    · subst h3; simp
    · by_cases h4 : i = n
      · subst h4; simp
      · simp [h3, h4]; omega
theorem nm_none {d : List Dl} {j : Nat} (h : nm d j = false) : ∀ x ∈ d, x.payer ≠ (j : Int) ∧ x.payee ≠ (j : Int) := by
  intro x hx
  rw [nm, List.any_eq_false] at h
  have := h x hx
  simpa using this

/-- What the second loop sums, up to k. -/
def dsum (r b : List Int) (k : Nat) : Int := sumTo (fun j => r.getD j 0 - b.getD j 0) k
theorem wrap64_zero : wrap64 0 = 0 := by unfold wrap64; omega
theorem dsum_step (r b : List Int) (k : Nat) : wrap64 (wrap64 (wrap64 (dsum r b k) + r.getD k 0) - b.getD k 0) = wrap64 (dsum r b (k + 1)) := by
  unfold dsum
  rw [sumTo_succ]
  unfold wrap64
  omega
theorem sumTo_sub (f g : Nat → Int) : ∀ n, sumTo (fun j => f j - g j) n = sumTo f n - sumTo g n
  | 0 => rfl
  | n + 1 => by rw [sumTo_succ, sumTo_succ, sumTo_succ, sumTo_sub f g n]; omega
theorem dsum_zero {b : List Int} {d : List Dl} (h : (applyF b d).2 = 0) : dsum (applyF b d).1 b 336 = 0 := by
  obtain ⟨_, h2, _, h4⟩ := applyF_zero h
  unfold dsum
  rw [sumTo_sub, ← sum_partsP b h2, h4]
  have : sumTo (fun j => ((List.range 336).map fun i => (partsP b d i).sum).getD j 0) 336 = sumTo (fun j => (partsP b d j).sum) 336 := by
    refine sumTo_congr fun i hi => ?_
    simp [List.getD, hi]
  rw [this]
  omega
theorem keeps_at {b : List Int} {d : List Dl} (h : (applyF b d).2 = 0) {k : Nat} (hk : k < 336) (hn : nm d k = false) : (applyF b d).1.getD k 0 = b.getD k 0 := by
  obtain ⟨_, h2, _, h4⟩ := applyF_zero h
  have e := partsP_other (b := b) hk h2 (nm_none hn)
  rw [h4, List.getD_eq_getElem?_getD, ← e]
  simp [hk]
theorem applyF_len1 {b : List Int} {d : List Dl} (h : (applyF b d).2 = 0) : (applyF b d).1.length = 336 := by
  rw [(applyF_zero h).2.2.2]; simp

theorem info4 : ∃ i, Try.prog.info? 4 = some i ∧ i.zero = some (.bool false) ∧ i.size = 1 ∧ i.bytes = 1 := info_of rfl (by kernel_rfl) (by kernel_rfl)
theorem make72 (w : World) : (Instr.makeSlice 72 (.int .i64 336) (.int .i64 336)).run Try.prog w = .ok (.slice (some ⟨w.heap.size, 0, none⟩) 336 336) (w.alloc (.cells (Array.replicate 336 (Value.bool false)) 4)) := by
  obtain ⟨i, hi, hz, hs, hb⟩ := info4
  have h := run_makeSlice w 72 4 i (.bool false) Try.underlying72 hi hz .i64 .i64 336 336 (by omega) (by omega) (by rw [hs]; decide) (by rw [hb]; omega) (by omega)
  rw [hs] at h
  rw [h, show (Value.bool false).cells = #[Value.bool false] from rfl, made_one]
  rfl

set_option maxRecDepth 100000 in
set_option maxHeartbeats 2000000 in
theorem keeps_any (bal : List Int) (d : List Dl) (C D : Option Addr) (cc cd : Nat) (w : World) (hbal : RdI w w.heap.size C bal) (hd : RdD w w.heap.size D d) (hm : bal.length ≤ 4611686018427387904) (hn : d.length * 72 ≤ 140737488355328) :
    Calls Try.prog 6 #[.slice C bal.length cc, .slice D d.length cd] w fun e w' => e = .returned (.bool true) ∧ Below w.heap.size w w' := by
  have Hbal := Lib.hid hbal
  have Hd := Lib.hid hd
  clear hbal hd
  go_enter Try.func6, Try.ntmps6
  go_wp2_with fail
  refine (sane_any w).mono ?_
  rintro e w1 ⟨rfl, hb1⟩
  have Hb1 := Lib.hid hb1
  clear hb1
  go_wp2_with fail
  refine (apply_any C D bal d cc cd w1 ((Hbal.out.below Hb1.out).more Hb1.out.size) ((Hd.out.below Hb1.out).more Hb1.out.size) hm hn).mono ?_
  rintro e w2 ⟨A2, c2, rfl, hb2, hrd2⟩
  have Hb2 := Lib.hid (Hb1.out.trans (hb2.mono Hb1.out.size))
  have Hrd2 := Lib.hid hrd2
  clear hb2 hrd2
  by_cases hz : (applyF bal d).2 = 0
  · have Hz := Lib.hid hz
    rw [hz]
    rw [applyF_len1 hz]
    have hbl : bal.length = 336 := (applyF_zero hz).1
    rw [hbl]
    have Hbl := Lib.hid hbl
    clear hz hbl
    by_cases h60 : 60 < d.length
    · go_wp2
      go_ret
      exact ⟨rfl, Hb2.out⟩
    have h60' : (d.length : Int) ≤ 60 := by omega
    have hmk := make72
    go_wp2_with fail
    clear hmk
    obtain ⟨nb, hnb⟩ : ∃ nb, nb = w2.heap.size := ⟨_, rfl⟩
    obtain ⟨w3, hw3⟩ : ∃ w3, w3 = w2.alloc (.cells (Array.replicate 336 (Value.bool false)) 4) := ⟨_, rfl⟩
    have hb3 : Below nb w2 w3 := by rw [hw3, hnb]; exact (Below.refl _ _).alloc (Nat.le_refl _) _
    have hr3 : Row w3 nb 4 (nmRow (d.take 0)) := by rw [hw3, hnb, List.take_zero, ← nmRow_zero]; exact Row.new _ _ _
    rw [← hw3, ← hnb]
    have hwn : w.heap.size ≤ nb := by rw [hnb]; exact Hb2.out.size
    have hrd3 : RdI w2 nb A2 (applyF bal d).1 := by rw [hnb]; exact Hrd2.out
    have Hrd3 := Lib.hid hrd3
    have Hbal3 := Lib.hid ((Hbal.out.below Hb2.out).more hwn)
    have Hd3 := Lib.hid ((Hd.out.below Hb2.out).more hwn)
    have Hb3 := Lib.hid hb3
    have Hr3 := Lib.hid hr3
    have Hacc := Lib.hid (applyF_zero Hz.out).2.1
    have Hlen1 := Lib.hid (applyF_len1 Hz.out)
    have Hat := Lib.hid (fun k hk hn => keeps_at (k := k) Hz.out hk hn)
    have Hsum := Lib.hid (dsum_zero Hz.out)
    clear hnb hw3 hrd3 hb3 hr3 Hrd2
    generalize (applyF bal d).1 = rl at Hrd3 Hlen1 Hat Hsum ⊢
    go_wp2_with fail
    go_loopw [8] (fun i wr => ∃ k : Nat, k ≤ d.length ∧ i = .int .i64 k ∧ Row wr nb 4 (nmRow (d.take k)) ∧ Below nb w2 wr)
      (fun i _ => d.length - (intOf i).toNat)
    case atStart => exact ⟨0, Nat.zero_le _, rfl, Hr3.out, Hb3.out⟩
    case round =>
      obtain ⟨k, hk, rfl, hrow, hbel⟩ := hrel
      by_cases hlt : k < d.length
      · obtain ⟨x, hx⟩ : ∃ x, d[k]? = some x := ⟨_, List.getElem?_eq_getElem hlt⟩
        obtain ⟨q, off, rfl, hqw, c0⟩ := Hd3.out k x hx
        have hr : wr.rangeAt q (off + k * 9) x.cells := fun j v hv => (hbel.cell (p := ⟨q, _, none⟩) hqw).trans (c0 j v hv)
        obtain ⟨p0, p1, p2, p3, p4, p5, p6, p7, p8⟩ := Nine.of hr
        have hacc : acctD x = true := by have := List.all_eq_true.1 Hacc.out x (List.mem_of_getElem? hx); exact this
        obtain ⟨ha1, ha2⟩ : acct x.payer = true ∧ acct x.payee = true := by simpa [acctD] using hacc
        obtain ⟨i, hi⟩ : ∃ i : Nat, x.payer = (i : Int) := ⟨x.payer.toNat, by simp [acct] at ha1; omega⟩
        obtain ⟨j, hj⟩ : ∃ j : Nat, x.payee = (j : Int) := ⟨x.payee.toNat, by simp [acct] at ha2; omega⟩
        have hi3 : i < 336 := by simp [acct] at ha1; omega
        have hj3 : j < 336 := by simp [acct] at ha2; omega
        have hset := nmRow_set hx hi hj
        rw [hi] at p5
        rw [hj] at p6
        have ii0 : (0 : Int) ≤ (i : Int) := by omega
        have ii1 : (i : Int) < 336 := by omega
        have jj0 : (0 : Int) ≤ (j : Int) := by omega
        have jj1 : (j : Int) < 336 := by omega
        have i0 : (0 : Int) ≤ (k : Int) := by omega
        have i1 : (k : Int) < (d.length : Int) := by omega
        have ci : wr.cell? ⟨nb, i, none⟩ = some (.bool (nm (d.take k) i)) := (hrow.cell i).trans (nmRow_at hi3)
        have fi : wr.frozen? ⟨nb, i, none⟩ = false := hrow.frozen i
        have hqn : q ≠ nb := by omega
        have Hset := Lib.hid hset
        have Hrow := Lib.hid hrow
        have Hbel := Lib.hid hbel
        have p6' : (wr.setCell ⟨nb, i, none⟩ (.bool true)).cell? ⟨q, off + k * 9 + 6, none⟩ = some (.int .i64 j) := (World.cell?_of_block (w := wr) (Below.heap_setCell wr ⟨nb, i, none⟩ _ q hqn)).trans p6
        have P6 := Lib.hid p6'
        clear c0 hr hx hacc ha1 ha2 hi hj hset hrow hbel p6'
        go_upto_region 15 with fail
        obtain ⟨wx, hwx⟩ : ∃ wx, wx = wr.setCell ⟨nb, i, none⟩ (.bool true) := ⟨_, rfl⟩
        have hrx : Row wx nb 4 ((nmRow (d.take k)).setIfInBounds i (.bool true)) := by rw [hwx]; exact Hrow.out.set i _
        have hbx : Below nb w2 wx := by rw [hwx]; exact Hbel.out.setCell (p := ⟨nb, i, none⟩) (Nat.le_refl _) _
        have p6x : wx.cell? ⟨q, off + k * 9 + 6, none⟩ = some (.int .i64 j) := by rw [hwx]; exact P6.out
        have cj : wx.cell? ⟨nb, j, none⟩ = some (.bool (if i = j then true else nm (d.take k) j)) := by
          rw [hrx.cell j, Array.getElem?_setIfInBounds]
          by_cases h : i = j
          · rw [if_pos h, if_pos h, if_pos (by simp [nmRow]; omega)]
          · rw [if_neg h, if_neg h, nmRow_at hj3]
        have fj : wx.frozen? ⟨nb, j, none⟩ = false := hrx.frozen j
        rw [← hwx]
        have Hrx := Lib.hid hrx
        have Hbx := Lib.hid hbx
        clear hwx hrx hbx p0 p1 p2 p3 p4 p5 p6 p7 p8 ci fi P6
        go_wp2
        go_roundw
        case rel => exact ⟨k + 1, by omega, by go_num, by rw [← Hset.out]; exact Hrx.out.set j _, Hbx.out.setCell (p := ⟨nb, j, none⟩) (Nat.le_refl _) _⟩
        case measure => simp [intOf]; omega
      · have hkl : k = d.length := by omega
        subst hkl
        rw [List.take_length] at hrow
        have Hrow := Lib.hid hrow
        have Hbel := Lib.hid hbel
        clear hrow hbel
        go_wp2_with fail
        go_loopw [9, 10] (fun s i wr => ∃ k : Nat, k ≤ 336 ∧ i = .int .i64 k ∧ s = .int .i64 (wrap64 (dsum rl bal k)) ∧ Row wr nb 4 (nmRow d) ∧ Below nb w2 wr)
          (fun _ i _ => 336 - (intOf i).toNat)
        case atStart => exact ⟨0, Nat.zero_le _, rfl, by rw [show dsum rl bal 0 = 0 from rfl, wrap64_zero], Hrow.out, Hbel.out⟩
        case round =>
          obtain ⟨k, hk, rfl, rfl, hrow, hbel⟩ := hrel
          by_cases hlt : k < 336
          · obtain ⟨x, hx⟩ : ∃ x, rl[k]? = some x := ⟨_, List.getElem?_eq_getElem (by have := Hlen1.out; omega)⟩
            obtain ⟨y, hy⟩ : ∃ y, bal[k]? = some y := ⟨_, List.getElem?_eq_getElem (by have := Hbl.out; omega)⟩
            obtain ⟨q, off, rfl, hqw, c0⟩ := Hrd3.out k x hx
            obtain ⟨q', off', rfl, hqw', c0'⟩ := Hbal3.out k y hy
            have d0 := (hbel.cell (p := ⟨q, off + k, none⟩) hqw).trans c0
            have d1 := (hbel.cell (p := ⟨q', off' + k, none⟩) hqw').trans c0'
            have dn : wr.cell? ⟨nb, k, none⟩ = some (.bool (nm d k)) := (hrow.cell k).trans (nmRow_at hlt)
            have hxr : rl.getD k 0 = x := by rw [List.getD_eq_getElem?_getD, hx]; rfl
            have hyr : bal.getD k 0 = y := by rw [List.getD_eq_getElem?_getD, hy]; rfl
            have hst := dsum_step rl bal k
            rw [hxr, hyr] at hst
            have hxy : nm d k = false → x = y := fun h => by rw [← hxr, ← hyr]; exact Hat.out k hlt h
            have Hst := Lib.hid hst
            have Hrow := Lib.hid hrow
            have Hbel := Lib.hid hbel
            have i0 : (0 : Int) ≤ (k : Int) := by omega
            have i1 : (k : Int) < 336 := by omega
            clear hst hrow hbel c0 c0' hxr hyr hx hy
            by_cases hnm : nm d k = true
            · rw [hnm] at dn
              clear hnm hxy
              generalize wrap64 (dsum rl bal k) = S at Hst ⊢
              go_wp2
              go_quiet (fail)
              go_wp2
              go_quiet (fail)
              go_wp2
              go_roundw
              case rel => exact ⟨k + 1, by omega, by go_num, by rw [← Hst.out], Hrow.out, Below.drewsN Hbel.out _⟩
              case measure => simp [intOf]; omega
            · have hnf : nm d k = false := by simpa using hnm
              obtain rfl := hxy hnf
              rw [hnf] at dn
              clear hnm hxy hnf
              generalize wrap64 (dsum rl bal k) = S at Hst ⊢
              go_wp2
              go_quiet (fail)
              go_wp2
              go_quiet (fail)
              go_wp2
              go_roundw
              case rel => exact ⟨k + 1, by omega, by go_num, by rw [← Hst.out], Hrow.out, Below.drewsN Hbel.out _⟩
              case measure => simp [intOf]; omega
          · obtain rfl : k = 336 := by omega
            rw [Hsum.out]
            have e0 := wrap64_zero
            rw [e0]
            go_wp2
            go_ret
            exact ⟨rfl, Hb2.out.trans (hbel.mono hwn)⟩
  · have h0 := applyF_not hz
    have Hz := Lib.hid (applyF_not hz)
    rw [h0]
    clear h0
    have hz2 : ((applyF bal d).2 == 0) = false := by simpa using hz
    have hz3 : ((applyF bal d).2 != 0) = true := by simpa using hz
    clear hz
    go_wp2
    go_ret
    exact ⟨rfl, Hb2.out⟩

end Go.Proofs.Ytoiipfcmkogcfaa
