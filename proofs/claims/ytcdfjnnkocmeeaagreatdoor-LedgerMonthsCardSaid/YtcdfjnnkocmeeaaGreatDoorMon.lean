/-
  The law LedgerMonths returns true for whatever lines are read.
  Conditions: as each theorem states them.
-/
import Derived.Test.YtcdfjnnkocmeeaaGreatDoorAp
import Derived.Deep.RegionHeld3
import Derived.Deep.QuietTactic
namespace Go.Proofs.YtcdfjnnkocmeeaaGreatDoor
open Go.RowKit Go.Lib

theorem make24d (w : World) : (Instr.makeSlice 24 (.int .i64 336) (.int .i64 336)).run Tryz.prog w = .ok (.slice (some ⟨w.heap.size, 0, none⟩) 336 336) (w.alloc (.cells (Array.replicate 336 (Value.int .i64 0)) 3)) := by
  obtain ⟨i, hi, hz, hs, hb⟩ := info3'
  have h := run_makeSlice w 24 3 i (.int .i64 0) Tryz.underlying24 hi hz .i64 .i64 336 336 (by omega) (by omega) (by rw [hs]; decide) (by rw [hb]; omega) (by omega)
  rw [hs] at h
  rw [h, show (Value.int .i64 0).cells = #[Value.int .i64 0] from rfl, made_one]
  rfl
theorem ints_sumsM_zero (l : List Ln) : Array.replicate 336 (Value.int .i64 0) = ints (sumsM l 0) := by
  rw [sumsM_zero, ints, List.map_replicate, List.toArray_replicate]
/-- Among the first k lines one has the month m. -/
def seenTo (l : List Ln) (m : Int) (k : Nat) : Bool := (l.take k).any fun y => decide (y.d.month = m)
theorem seenTo_succ {l : List Ln} {m : Int} {k : Nat} {y : Ln} (hy : l[k]? = some y) : seenTo l m (k + 1) = (seenTo l m k || decide (y.d.month = m)) := by
  rw [seenTo, List.take_add_one, hy, List.any_append]
  simp [seenTo]
theorem seenTo_inMon (l : List Ln) (x : Ln) (k : Nat) : seenTo l x.d.month k = inMon l k x := by
  rw [seenTo, inMon, monthsOf, List.any_map]
  congr 1
  funext y
  simp only [Function.comp]
  rw [Bool.eq_iff_iff]
  simp
  exact eq_comm

set_option maxRecDepth 100000 in
set_option maxHeartbeats 8000000 in
theorem months_any (l : List Ln) (A : Option Addr) (c : Nat) (w : World) (hk : KT w) (hc : CB w) (hl : RdE Ln.cells 44 w w.heap.size A l) (hok : ∀ x ∈ l, x.ok) :
    Calls Tryz.prog 5 #[.slice A l.length c] w fun e w' => e = .returned (.bool true) ∧ Below w.heap.size w w' := by
  have Hl := Lib.hid hl
  have Hok := Lib.hid hok
  have Hk := Lib.hid hk
  have Hc := Lib.hid hc
  clear hl hok hk hc
  go_enter Tryz.func5, Tryz.ntmps5
  go_wp2_with fail
  refine (sane_any w Hk.out Hc.out).mono ?_
  rintro e w1 ⟨rfl, hb1⟩
  have Hb1 := Lib.hid hb1
  clear hb1
  by_cases h1 : 100 < l.length
  · go_wp2
    go_ret
    exact ⟨rfl, Hb1.out⟩
  have i1 : (l.length : Int) ≤ 100 := by omega
  go_wp2_with fail
  have hcall := balances_any l A c w1 ((Hl.out.below Hb1.out).more Hb1.out.size) Hok.out (by omega)
  refine hcall.mono ?_
  clear hcall
  rintro e w2 ⟨A3, c3, rfl, hb2, hr3⟩
  have Hb2 := Lib.hid (below_onF Hb1.out hb2 Hb1.out.size)
  have Hr3 := Lib.hid hr3
  clear hb2 hr3
  by_cases z1 : (balF (l.map Ln.d)).2 = 0
  · have Hall := Lib.hid (sumsM_all z1)
    have Hz1 := Lib.hid z1
    have Hbl := Lib.hid (balF_len z1)
    have Hflt := Lib.hid (balF_zero z1).1
    rw [z1, balF_len z1]
    clear z1
    have hmk := make24d
    go_wp2_with fail
    clear hmk
    obtain ⟨nb, hnb⟩ : ∃ nb, nb = w2.heap.size := ⟨_, rfl⟩
    obtain ⟨w3, hw3⟩ : ∃ w3, w3 = w2.alloc (.cells (Array.replicate 336 (Value.int .i64 0)) 3) := ⟨_, rfl⟩
    have hb3 : Below nb w2 w3 := by rw [hw3, hnb]; exact (Below.refl _ _).alloc (Nat.le_refl _) _
    have hr3' : Row w3 nb 3 (ints (sumsM l 0)) := by rw [hw3, hnb, ints_sumsM_zero l]; exact Row.new _ _ _
    rw [← hw3, ← hnb]
    have hwn : w.heap.size ≤ nb := by rw [hnb]; exact Hb2.out.size
    have Hnb := Lib.hid hnb
    have Hb3 := Lib.hid hb3
    have Hr4 := Lib.hid hr3'
    have Hr3 : Hid (RdI w2 nb A3 (balF (l.map Ln.d)).1) := Lib.hid (by rw [hnb]; exact Hr3.out)
    have Hl2 : Hid (RdE Ln.cells 44 w2 nb A l) := Lib.hid ((Hl.out.below Hb2.out).more hwn)
    clear hw3 hb3 hr3' hnb
    go_loopw [6] (fun i wr => ∃ k : Nat, k ≤ l.length ∧ i = .int .i64 k ∧ Row wr nb 3 (ints (sumsM l k)) ∧ Below nb w2 wr ∧ Hid (∀ a, a < 336 → inR (flowAt a (partM l k)) = true))
      (fun i _ => l.length - (intOf i).toNat)
    case atStart => exact ⟨0, Nat.zero_le _, rfl, Hr4.out, Hb3.out, Lib.hid (fun a _ => by rw [partM_zero]; rfl)⟩
    case round =>
      obtain ⟨k, hk, rfl, hrow, hbel, hin⟩ := hrel
      by_cases hlt : k < l.length
      · obtain ⟨x, hx⟩ : ∃ x, l[k]? = some x := ⟨_, List.getElem?_eq_getElem hlt⟩
        have Hx := Lib.hid hx
        have Hrow := Lib.hid hrow
        have Hbel := Lib.hid hbel
        obtain ⟨m, hm⟩ : ∃ m, m = x.d.month := ⟨_, rfl⟩
        have Hm := Lib.hid hm
        have i0 : (0 : Int) ≤ (k : Int) := by omega
        have i2 : (k : Int) < (l.length : Int) := by omega
        obtain ⟨b, off, rfl, hbw, cx⟩ := Hl2.out k x hx
        have cxm0 : wr.cell? ⟨b, off + k * 44 + 7, none⟩ = some (.int .i64 m) := by rw [hm]; exact (hbel.cell (p := ⟨b, _, none⟩) hbw).trans (cx 7 _ rfl)
        have Cxm := Lib.hid cxm0
        have Hbw := Lib.hid hbw
        clear hx hrow hbel hm cx cxm0 hbw
        go_wp2_with fail
        go_loopw [7, 8] (fun s j wx => ∃ n q : Nat, n ≤ k ∧ j = .int .i64 n ∧ s = .bool (seenTo l m n) ∧ wx = wr.drewN q)
          (fun _ j _ => k - (intOf j).toNat)
        case atStart => exact ⟨0, 0, Nat.zero_le _, rfl, rfl, rfl⟩
        case round =>
          obtain ⟨n, q, hn, rfl, rfl, rfl⟩ := hrel
          by_cases hlt2 : n < k
          · obtain ⟨y, hy⟩ : ∃ y, l[n]? = some y := ⟨_, List.getElem?_eq_getElem (by omega)⟩
            obtain ⟨b', off', e, _, cy⟩ := Hl2.out n y hy
            obtain ⟨rfl, rfl⟩ : b = b' ∧ off = off' := by simpa using e
            have cy7 : wr.cell? ⟨b, off + n * 44 + 7, none⟩ = some (.int .i64 y.d.month) := (Hbel.out.cell (p := ⟨b, _, none⟩) Hbw.out).trans (cy 7 _ rfl)
            have cxm : wr.cell? ⟨b, off + k * 44 + 7, none⟩ = some (.int .i64 m) := Cxm.out
            have j0 : (0 : Int) ≤ (n : Int) := by omega
            have j1 : (n : Int) < (k : Int) := by omega
            have j2 : (n : Int) < (l.length : Int) := by omega
            have Hsucc := Lib.hid (seenTo_succ (m := m) hy)
            clear e cy hy
            by_cases hs : seenTo l m n = true
            · rw [hs] at Hsucc ⊢
              clear hs
              go_wp2_with fail
              go_quiet (fail)
              go_wp2
              go_roundw
              case rel => exact ⟨n + 1, q + nq, by omega, by go_num, by rw [Hsucc.out]; rfl, rfl⟩
              case measure => simp [intOf]; omega
            · rw [Bool.not_eq_true] at hs
              rw [hs] at Hsucc ⊢
              clear hs
              go_wp2_with fail
              go_quiet (fail)
              go_wp2
              go_roundw
              case rel => exact ⟨n + 1, q + nq, by omega, by go_num, by rw [Hsucc.out]; rfl, rfl⟩
              case measure => simp [intOf]; omega
          · obtain rfl : n = k := by omega
            obtain ⟨wq, hwq⟩ : ∃ wq, wq = wr.drewN q := ⟨_, rfl⟩
            have hrowq : Row wq nb 3 (ints (sumsM l n)) := by rw [hwq]; exact Hrow.out
            have hbelq : Below nb w2 wq := by rw [hwq]; exact Below.drewsN Hbel.out q
            have cxq : wq.cell? ⟨b, off + n * 44 + 7, none⟩ = some (.int .i64 m) := by rw [hwq]; exact Cxm.out
            have hse : seenTo l m n = inMon l n x := by rw [Hm.out]; exact seenTo_inMon l x n
            rw [hse, ← hwq]
            have Hrowq := Lib.hid hrowq
            have Hbelq := Lib.hid hbelq
            clear hwq hrowq hbelq hse
            generalize hk' : n = k at *
            by_cases hseen : inMon l k x = true
            · have Hp := Lib.hid (partM_seen Hx.out hseen)
              rw [hseen]
              clear hseen
              go_wp2
              go_roundw
              case rel => exact ⟨k + 1, by omega, by go_num, by rw [sumsM, Hp.out]; exact Hrowq.out, Hbelq.out, by rw [Hp.out]; exact hin⟩
              case measure => simp [intOf]; omega
            · rw [Bool.not_eq_true] at hseen
              have Hun := Lib.hid hseen
              rw [hseen]
              clear hseen
              go_wp2_with fail
              have hcall := monthly_fresh l (some ⟨b, off, none⟩) c m wq ((Hl2.out.below Hbelq.out).more (Nat.le_of_lt Hrowq.out.lt)) Hok.out (by omega)
              refine hcall.mono ?_
              clear hcall
              rintro e w7 ⟨A7, c7, rfl, hb7, hr7, hf7⟩
              by_cases z7 : (balF ((l.filter (monP m)).map Ln.d)).2 = 0
              · obtain ⟨ga, hga⟩ : ∃ ga : Nat → Int, ∀ a, ga a = flowAt a ((l.filter (monP m)).map Ln.d) := ⟨_, fun _ => rfl⟩
                obtain ⟨pa, hpa⟩ : ∃ pa : Nat → Int, ∀ a, pa a = flowAt a (partM l k) := ⟨_, fun _ => rfl⟩
                have Ga : Hid (∀ a, a < 336 → (balF ((l.filter (monP m)).map Ln.d)).1[a]? = some (ga a)) := Lib.hid (fun a ha => by rw [hga]; exact balF_at z7 ha)
                have Ig : Hid (∀ a, a < 336 → inR (ga a) = true) := Lib.hid (fun a ha => by rw [hga]; exact balF_inR z7 ha)
                have Ip : Hid (∀ a, a < 336 → inR (pa a) = true) := Lib.hid (fun a ha => by rw [hpa]; exact hin.out a ha)
                have Hga := Lib.hid hga
                have Hpa := Lib.hid hpa
                have hb7' : Below nb w2 w7 := below_onF Hbelq.out hb7 (Nat.le_of_lt Hrowq.out.lt)
                have hrow7 : Row w7 nb 3 (ints (sumsN l k m 0)) := by rw [sumsN_zero]; exact Hrowq.out.below hb7 Hrowq.out.lt
                have hne7 : ∀ b o s, A7 = some ⟨b, o, s⟩ → b ≠ nb := fun b o s hA => by have := hf7 b o s hA; have := Hrowq.out.lt; omega
                rw [z7, balF_len z7]
                have Hbl7 := Lib.hid (balF_len z7)
                clear z7 hga hpa hb7 hf7
                generalize (balF ((l.filter (monP m)).map Ln.d)).1 = bl at hr7 Ga Hbl7
                have H7 := Lib.hid hb7'
                have Hrow7 := Lib.hid hrow7
                have Hr7 := Lib.hid hr7
                have Hne7 := Lib.hid hne7
                clear hb7' hrow7 hr7 hne7
                obtain ⟨b7, o7, rfl, _, _⟩ := Hr7.out 0 _ (Ga.out 0 (by omega))
                have Hn7 := Lib.hid (Hne7.out _ _ _ rfl)
                go_wp2_with fail
                go_loopw [11] (fun i wx => ∃ a : Nat, a ≤ 336 ∧ i = .int .i64 a ∧ Hid (Row wx nb 3 (ints (sumsN l k m a)) ∧ Below nb w2 wx ∧ RdI wx wx.heap.size (some ⟨b7, o7, none⟩) bl ∧ ∀ j, j < a → inR (pa j + ga j) = true))
                  (fun i _ => 336 - (intOf i).toNat)
                case atStart => exact ⟨0, Nat.zero_le _, rfl, Lib.hid ⟨Hrow7.out, H7.out, Hr7.out, fun j hj => absurd hj (by omega)⟩⟩
                case round =>
                  obtain ⟨a, ha, rfl, hrel⟩ := hrel
                  by_cases hla : a < 336
                  · obtain ⟨hrowx, hbelx, hrdx, hinx⟩ := hrel.out
                    have cs' : wr.cell? ⟨nb, a, none⟩ = some (.int .i64 (pa a)) := by
                      rw [hrowx.cell, ints, List.getElem?_toArray, List.getElem?_map, sumsN_at l k m hla, Hpa.out]
                      rfl
                    obtain ⟨b', o', e, hb7w, cb'⟩ := hrdx a _ (Ga.out a hla)
                    obtain ⟨rfl, rfl⟩ : b7 = b' ∧ o7 = o' := by simpa using e
                    have j0 : (0 : Int) ≤ (a : Int) := by omega
                    have j1 : (a : Int) < 336 := by omega
                    have Hrowx := Lib.hid hrowx
                    have Hbelx := Lib.hid hbelx
                    have Hrdx := Lib.hid hrdx
                    have Hinx := Lib.hid hinx
                    have Hb7w := Lib.hid hb7w
                    have Hcs := Lib.hid cs'
                    have Hcb := Lib.hid cb'
                    have Ra := Lib.hid (inR_un (Ip.out a hla))
                    have Rb := Lib.hid (inR_un (Ig.out a hla))
                    clear hrel hrowx hbelx hrdx hinx e hb7w
                    by_cases hs : inR (pa a + ga a) = true
                    · have Hs := Lib.hid hs
                      have Hadd : Hid (∀ U, Calls Tryz.prog 17 #[.int .i64 (pa a), .int .i64 (ga a)] U fun e w' => e = .returned (.tuple #[.int .i64 (pa a + ga a), .int .i64 0]) ∧ Below U.heap.size U w') := Lib.hid (fun U => by have := add_any (pa a) (ga a) U Ra.out Rb.out; rwa [okPair_yes hs] at this)
                      clear hs
                      go_upto_region 26 with fail
                      have S0 : wr.drew.cell? ⟨nb, a, none⟩ = some (.int .i64 (pa a)) ∧ wr.drew.cell? ⟨b7, o7 + a, none⟩ = some (.int .i64 (ga a)) := ⟨cs', cb'⟩
                      clear cs' cb'
                      go_region_held3 (fun U => U.cell? ⟨nb, a, none⟩ = some (.int .i64 (pa a)) ∧ U.cell? ⟨b7, o7 + a, none⟩ = some (.int .i64 (ga a))) (first | exact S0 | exact S1)
                        (first
                          | (go_at_call 17
                             refine (Hadd.out _).mono ?_
                             rintro e U ⟨rfl, hbU⟩
                             have hbx : Below wr.heap.size wr U := below_onF (Below.refl wr.heap.size wr).drew hbU (Nat.le_refl _)
                             have hbU2 : Below nb w2 U := below_onF Hbelx.out hbx (Nat.le_of_lt Hrowx.out.lt)
                             have hrU : Row U nb 3 (ints (sumsN l k m a)) := Hrowx.out.below hbx Hrowx.out.lt
                             have hdU : RdI U U.heap.size (some ⟨b7, o7, none⟩) bl := (Hrdx.out.below hbx).more hbx.size
                             have S1 : U.cell? ⟨nb, a, none⟩ = some (.int .i64 (pa a)) ∧ U.cell? ⟨b7, o7 + a, none⟩ = some (.int .i64 (ga a)) := ⟨(hbx.cell (p := ⟨nb, _, none⟩) Hrowx.out.lt).trans Hcs.out, (hbx.cell (p := ⟨b7, _, none⟩) Hb7w.out).trans Hcb.out⟩
                             have HbU := Lib.hid hbU2
                             have HrU := Lib.hid hrU
                             have HdU := Lib.hid hdU
                             clear hbU hbU2 hbx hrU hdU))
                      have ci : U.cell? ⟨nb, a, none⟩ = some (.int .i64 (pa a)) := S1.1
                      have fi : U.frozen? ⟨nb, a, none⟩ = false := HrU.out.frozen a
                      clear S1
                      go_wp2
                      go_roundw
                      case rel =>
                        refine ⟨a + 1, by omega, by go_num, Lib.hid ⟨?_, HbU.out.setCell (p := ⟨nb, a, none⟩) (Nat.le_refl _) _, ?_, ?_⟩⟩
                        · have h := HrU.out.set a (.int .i64 (pa a + ga a))
                          rw [ints_set, Hpa.out, Hga.out, sumsN_set] at h
                          rw [Hpa.out, Hga.out]
                          exact h
                        · intro i y hy
                          obtain ⟨b, o, e, hlt, c⟩ := HdU.out i y hy
                          have hbne : b ≠ nb := by
                            injection e with e
                            injection e with e1
                            rw [← e1]
                            exact Hn7.out
                          exact ⟨b, o, e, by simpa using hlt, (World.cell?_of_block (w := U) (a := ⟨b, o + i, none⟩) (Below.heap_setCell U ⟨nb, a, none⟩ _ b hbne)).trans c⟩
                        · intro j hj
                          rcases Nat.lt_succ_iff_lt_or_eq.1 hj with h | rfl
                          · exact Hinx.out j h
                          · exact Hs.out
                      case measure => simp [intOf]; omega
                    · have Hadd : Hid (∀ U, Calls Tryz.prog 17 #[.int .i64 (pa a), .int .i64 (ga a)] U fun e w' => e = .returned (.tuple #[.int .i64 0, .int .i64 3]) ∧ Below U.heap.size U w') := Lib.hid (fun U => by have := add_any (pa a) (ga a) U Ra.out Rb.out; rwa [okPair_no hs] at this)
                      clear hs
                      go_upto_region 26 with fail
                      have S0 : wr.drew.cell? ⟨nb, a, none⟩ = some (.int .i64 (pa a)) ∧ wr.drew.cell? ⟨b7, o7 + a, none⟩ = some (.int .i64 (ga a)) := ⟨cs', cb'⟩
                      clear cs' cb'
                      go_region_held3 (fun U => U.cell? ⟨nb, a, none⟩ = some (.int .i64 (pa a)) ∧ U.cell? ⟨b7, o7 + a, none⟩ = some (.int .i64 (ga a))) (first | exact S0 | exact S1)
                        (first
                          | (go_at_call 17
                             refine (Hadd.out _).mono ?_
                             rintro e U ⟨rfl, hbU⟩
                             have hbx : Below wr.heap.size wr U := below_onF (Below.refl wr.heap.size wr).drew hbU (Nat.le_refl _)
                             have hbU2 : Below nb w2 U := below_onF Hbelx.out hbx (Nat.le_of_lt Hrowx.out.lt)
                             have hrU : Row U nb 3 (ints (sumsN l k m a)) := Hrowx.out.below hbx Hrowx.out.lt
                             have hdU : RdI U U.heap.size (some ⟨b7, o7, none⟩) bl := (Hrdx.out.below hbx).more hbx.size
                             have S1 : U.cell? ⟨nb, a, none⟩ = some (.int .i64 (pa a)) ∧ U.cell? ⟨b7, o7 + a, none⟩ = some (.int .i64 (ga a)) := ⟨(hbx.cell (p := ⟨nb, _, none⟩) Hrowx.out.lt).trans Hcs.out, (hbx.cell (p := ⟨b7, _, none⟩) Hb7w.out).trans Hcb.out⟩
                             have HbU := Lib.hid hbU2
                             have HrU := Lib.hid hrU
                             have HdU := Lib.hid hdU
                             clear hbU hbU2 hbx hrU hdU))
                      clear S1
                      go_wp2
                      go_ret
                      exact ⟨rfl, below_onF Hb2.out (HbU.out.mono (by have := Hnb.out; omega)) Hb2.out.size⟩
                  · obtain rfl : a = 336 := by omega
                    obtain ⟨hrowx, hbelx, hrdx, hinx⟩ := hrel.out
                    have Hrowx := Lib.hid hrowx
                    have Hbelx := Lib.hid hbelx
                    have Hinx := Lib.hid hinx
                    clear hrel hrowx hbelx hrdx hinx
                    go_wp2
                    go_roundw
                    case rel =>
                      refine ⟨k + 1, by omega, by go_num, ?_, Hbelx.out, Lib.hid fun a ha => ?_⟩
                      · have h := Hrowx.out
                        rw [Hm.out, sumsN_all Hx.out Hun.out] at h
                        exact h
                      · rw [flow_unseen Hx.out Hun.out a, ← Hm.out, ← Hpa.out, ← Hga.out]
                        exact Hinx.out a ha
                    case measure => simp [intOf]; omega
              · have h3 : (balF ((l.filter (monP m)).map Ln.d)).2 = 3 := by rw [balF_three (month_fault Hflt.out _) z7]
                rw [h3, balF_bad z7]
                have Hb7 := Lib.hid hb7
                clear h3 z7 hb7 hr7 hf7
                go_wp2
                go_ret
                exact ⟨rfl, below_onF Hb2.out ((below_onF Hbelq.out Hb7.out (Nat.le_of_lt Hrowq.out.lt)).mono (by have := Hnb.out; omega)) Hb2.out.size⟩
      · obtain rfl : k = l.length := by omega
        rw [Hall.out] at hrow
        have Hrow := Lib.hid hrow
        have Hbel := Lib.hid hbel
        clear hrow hbel
        have hcall := sameInts_any A3 (some ⟨nb, 0, none⟩) _ _ c3 336 wr ((Hr3.out.below Hbel.out).more (Nat.le_of_lt Hrow.out.lt)) (row_reads Hrow.out) (by rw [Hbl.out]; decide)
        rw [Hbl.out, decide_eq_true rfl] at hcall
        have Hcall := Lib.hid hcall
        clear hcall
        go_wp2_with fail
        refine Hcall.out.mono ?_
        rintro e w9 ⟨rfl, hb9⟩
        have Hb9 := Lib.hid (below_onF Hbel.out hb9 (Nat.le_of_lt Hrow.out.lt))
        clear hb9
        go_wp2
        go_ret
        exact ⟨rfl, below_onF Hb2.out (Hb9.out.mono (by have := Hnb.out; omega)) Hb2.out.size⟩
  · rw [balF_bad z1]
    rw [show ([] : List Int).length = 0 from rfl]
    generalize (balF (l.map Ln.d)).2 = n1 at z1 ⊢
    have e1 : (n1 != 0) = true := by simpa using z1
    clear z1
    go_wp2
    go_ret
    exact ⟨rfl, Hb2.out⟩
end Go.Proofs.YtcdfjnnkocmeeaaGreatDoor
