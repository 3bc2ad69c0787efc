/-
  delta.common, and delta.Wagons: what it counts, and what it returns.
  Conditions: as each theorem states them.
-/
import Derived.Test.YtoiipfcmkogcfaaWt
import Derived.Test.YtoiipfcmkogcfaaCk
import Derived.Test.YtoiipfcmkogcfaaRg
import Derived.Deep.RegionHeld3
import Derived.Maps.AppendAt
import Derived.Sort.OwnSortedInts
import Derived.Test.YtoiipfcmkogcfaaCs
namespace Go.Proofs.Ytoiipfcmkogcfaa
open Go.RowKit Go.Lib Go.Sort

def comK (k : Int) : Bool := decide (k = 11 ∨ k = 12 ∨ k = 13 ∨ k = 10)
theorem common_any (k : Int) (w : World) : Calls Try.prog 32 #[.int .i64 k] w fun e w' => e = .returned (.bool (comK k)) ∧ w' = w := by
  by_cases h1 : k = 11
  · subst h1
    go_enter Try.func32, Try.ntmps32
    go_wp2
    go_ret
    exact ⟨rfl, rfl⟩
  by_cases h2 : k = 12
  · subst h2
    go_enter Try.func32, Try.ntmps32
    go_wp2
    go_ret
    exact ⟨rfl, rfl⟩
  by_cases h3 : k = 13
  · subst h3
    go_enter Try.func32, Try.ntmps32
    go_wp2
    go_ret
    exact ⟨rfl, rfl⟩
  by_cases h4 : k = 10
  · subst h4
    go_enter Try.func32, Try.ntmps32
    go_wp2
    go_ret
    exact ⟨rfl, rfl⟩
  have b1 : (k == 11) = false := by simp [h1]
  have b2 : (k == 12) = false := by simp [h2]
  have b3 : (k == 13) = false := by simp [h3]
  have b4 : (k == 10) = false := by simp [h4]
  have hc : comK k = false := by simp [comK, h1, h2, h3, h4]
  have Hc := Lib.hid hc
  clear hc
  go_enter Try.func32, Try.ntmps32
  go_wp2
  go_ret
  exact ⟨ret_bool Hc.out.symm, rfl⟩

/-- One report is counted. -/
def cntR (s : Int) (M : CK → Int) (r : Rp) : CK → Int := upd M r.key (wrap64 (M r.key + s))
def cntL (s : Int) (M : CK → Int) (l : List Rp) : CK → Int := l.foldl (cntR s) M
def cnts (old new : List Rp) : CK → Int := cntL 1 (cntL (-1) (fun _ => 0) old) new

/-- A list of reports, and their components, read. -/
structure RdR (w : World) (B : Nat) (A : Option Addr) (l : List Rp) : Prop where
  row : RdE Rp.cells 21 w B A l
  pts : ∀ r ∈ l, RdP w B r
  ok : ∀ r ∈ l, r.ok
  few : ∀ r ∈ l, r.pts.length ≤ 1000000000

def kindC (a : CK) : Int := a.1.getD 7 0
def wagC (a : CK) : Int := a.1.getD 8 0
def badC (M : CK → Int) (a : CK) : Bool := M a != 0 && comK (kindC a)
def pickW (M : CK → Int) (nw : Nat) (a : CK) : Option Int := if M a ≠ 0 ∧ comK (kindC a) = false ∧ 0 ≤ wagC a ∧ wagC a < (nw : Int) then some (wagC a) else none
/-- What Wagons answers: the wagons of the contents that changed, strictly sorted; whether a common report changed. -/
def WagSpec (M : CK → Int) (nw : Nat) (l : List Int) (al : Bool) : Prop :=
  l.Pairwise (· < ·) ∧ (∀ x, x ∈ l ↔ ∃ a, M a ≠ 0 ∧ comK (kindC a) = false ∧ wagC a = x ∧ 0 ≤ x ∧ x < (nw : Int)) ∧ (al = true ↔ ∃ a, M a ≠ 0 ∧ comK (kindC a) = true)
theorem wag_spec {M : CK → Int} {nw : Nat} {dn : List CK} {out : List Int} {al : Bool} (hall : ∀ a, M a ≠ 0 → a ∈ dn) (ho : out = dn.filterMap (pickW M nw)) (ha : al = dn.any (badC M)) :
    WagSpec M nw (Lib.compact (out.mergeSort fun x y => decide (x ≤ y))) al := by
  obtain ⟨h1, h2⟩ := compact_sorted out
  refine ⟨h2, fun x => ?_, ?_⟩
  · rw [h1, ho, List.mem_filterMap]
    constructor
    · rintro ⟨a, _, h⟩
      unfold pickW at h
      split at h
      · rename_i hc
        injection h with h
        exact ⟨a, hc.1, hc.2.1, h, by rw [← h]; exact hc.2.2.1, by rw [← h]; exact hc.2.2.2⟩
      · cases h
    · rintro ⟨a, h3, h4, h5, h6, h7⟩
      exact ⟨a, hall a h3, by unfold pickW; rw [if_pos ⟨h3, h4, by rw [h5]; exact h6, by rw [h5]; exact h7⟩, h5]⟩
  · rw [ha, List.any_eq_true]
    constructor
    · rintro ⟨a, _, h⟩
      simp [badC] at h
      exact ⟨a, h.1, h.2⟩
    · rintro ⟨a, h3, h4⟩
      exact ⟨a, hall a h3, by simp [badC, h3, h4]⟩
theorem grow_nil (w : World) : grow w #[] = w := by
  cases w
  simp [grow]
theorem compact_len (zs : List Int) : (Lib.compact zs).length ≤ zs.length := by
  unfold Lib.compact compactUpTo
  rw [List.length_map]
  exact Nat.le_trans (List.length_filter_le _ _) (by simp)
theorem content_len {a : CK} {kl : Lit} (h : keyOf Try.prog 92 (encC a) = some kl) : a.1.length = 19 := by
  have c92 : Try.prog.cellsOf 92 = 21 := by kernel_rfl
  unfold keyOf at h
  simp only [Try.underlying92] at h
  simp [encC, Value.formed, Try.underlying92, c92] at h
  omega

set_option maxRecDepth 100000 in
set_option maxHeartbeats 1000000 in
theorem wagons_any (pc : List Value) (WA : Option Addr) (nw wc : Nat) (old new : List Rp) (A B : Option Addr) (ca cb : Nat) (w : World) (hpc : pc[3]? = some (.slice WA nw wc)) (ho : RdR w w.heap.size A old) (hn : RdR w w.heap.size B new)
    (hlen : (old.length + new.length) * 8 ≤ 140737488355328) :
    Calls Try.prog 16 #[.agg pc.toArray, .slice A old.length ca, .slice B new.length cb] w fun e w' => ∃ (l : List Int) (al : Bool) (A' : Option Addr) (c' : Nat), e = .returned (.tuple #[.slice A' l.length c', .bool al]) ∧ Below w.heap.size w w' ∧ RdI w' w'.heap.size A' l ∧ WagSpec (cnts old new) nw l al := by
  have Ho := Lib.hid ho
  have Hn := Lib.hid hn
  clear ho hn
  have hroomN : old.length + new.length < maxLen := by have : maxLen = 9223372036854775807 := rfl; omega
  have HroomN := Lib.hid hroomN
  clear hroomN
  have hl1 : (old.length : Int) ≤ 4611686018427387904 := by omega
  have hl2 : (new.length : Int) ≤ 4611686018427387904 := by omega
  have hmk : ∀ w0 : World, (Instr.makeMap 90 none).run Try.prog w0 = .ok (.map (some w0.heap.size)) (w0.alloc (.map #[] 0)) := fun w0 => run_makeMap _ _
  go_enter Try.func16, Try.ntmps16
  go_wp2_with fail
  clear hmk
  obtain ⟨W1, hW1⟩ : ∃ W1, W1 = (w.alloc (.cells pc.toArray 47)).alloc (.map #[] 0) := ⟨_, rfl⟩
  obtain ⟨g, hgg⟩ : ∃ g, g = w.heap.size + 1 := ⟨_, rfl⟩
  have hm1 : MapAt encC 92 W1 g 0 (fun _ => 0) := by
    rw [hW1, hgg]
    have := MapAt.made (enc := encC) (K := 92) (w.alloc (.cells pc.toArray 47)) (M := fun _ => 0) (fun _ => rfl)
    simpa using this
  have hB1 : Below w.heap.size w W1 := by rw [hW1]; exact ((Below.refl _ _).alloc (Nat.le_refl _) _).alloc (by simp) _
  have hrp : Row W1 w.heap.size 47 pc.toArray := by rw [hW1]; exact (Row.new _ _ _).alloc _
  have hgw : w.heap.size ≤ g := by rw [hgg]; omega
  have hgp : g ≠ w.heap.size := by rw [hgg]; omega
  rw [← hW1, ← hgg]
  have hBw := Lib.hid hB1
  have Hrp := Lib.hid hrp
  have Hm1 := Lib.hid hm1
  clear hW1 hgg hB1 hrp hm1
  go_loopw [18] (fun i wr => ∃ k : Nat, k ≤ old.length ∧ i = .int .i64 k ∧ W1.grownBy wr (some g) ∧ MapAt encC 92 wr g (0 + k) (cntL (-1) (fun _ => 0) (old.take k)))
    (fun i _ => old.length - (intOf i).toNat)
  case atStart => exact ⟨0, Nat.zero_le _, rfl, World.grownBy.refl _ _, Hm1.out⟩
  case round =>
    obtain ⟨k, hk, rfl, hg, hmr⟩ := hrel
    by_cases hlt : k < old.length
    · obtain ⟨r, hx⟩ : ∃ r, old[k]? = some r := ⟨_, List.getElem?_eq_getElem hlt⟩
      have hmem := List.mem_of_getElem? hx
      obtain ⟨b, off, hA, hbw, c0⟩ := Ho.out.row k r hx
      have hbel : Below w.heap.size w wr := hBw.out.grown hg hBw.out.size (fun k hk => by cases hk; exact hgw)
      have hrow : wr.rangeAt b (off + k * r.cells.length) r.cells := fun j v hv => (hbel.cell (p := ⟨b, _, none⟩) hbw).trans (c0 j v hv)
      have hs : (Try.prog.info? 58).map (·.size) = some r.cells.length := Try.size58
      have h58 : ∀ U : World, (sizeOf 58).run Try.prog U = .ok r.cells.length U := fun U => Try.sizeOf58 U
      have hone : ∀ v ∈ r.cells, v.oneCell' = true := by intro v hv; simp [Rp.cells] at hv; rcases hv with rfl | rfl | rfl | rfl | rfl | rfl | rfl | rfl | rfl | rfl | rfl | rfl | rfl | rfl | rfl | rfl | rfl | rfl | rfl | rfl | rfl <;> rfl
      have hrdp := Ho.out.pts r hmem
      obtain ⟨ok1, ok2, ok3⟩ := Ho.out.ok r hmem
      have hfew := Ho.out.few r hmem
      obtain ⟨kl, hkl⟩ := content_key r ok1 ok2 (le_maxLen (by omega))
      have i0 : (0 : Int) ≤ (k : Int) := by omega
      have i1 : (k : Int) < (old.length : Int) := by omega
      have Hx := Lib.hid hx
      have Hg := Lib.hid hg
      have Hmr := Lib.hid hmr
      have Hbel := Lib.hid hbel
      have Hrdp := Lib.hid hrdp
      have Hfew := Lib.hid hfew
      have Hkl := Lib.hid hkl
      clear hmem hx hg hmr hbel hrdp hfew hkl ok1 ok2 ok3 c0
      rw [hA]
      go_upto_region 5 with (first | (refine wpList_load_mid rfl 58 _ rfl _ _ rfl _ _ hrow Try.underlying58 rfl hs ?_) | (refine wpList_store_fresh rfl 58 _ _ rfl r.cells rfl rfl rfl hs hone ?_))
      obtain ⟨W, hW⟩ : ∃ W, W = wr.alloc (.cells r.cells.toArray 58) := ⟨_, rfl⟩
      have hr : Row W wr.heap.size 58 r.cells.toArray := by rw [hW]; exact Row.new _ _ _
      have hgW : W1.grownBy W (some g) := by rw [hW]; exact Hg.out.trans (World.grownBy_alloc _ _ _)
      have hmW : MapAt encC 92 W g (0 + k) (cntL (-1) (fun _ => 0) (old.take k)) := by rw [hW]; exact Hmr.out.grown ((Below.refl _ _).alloc (Nat.le_refl _) _)
      have hbW : Below w.heap.size w W := by rw [hW]; exact Hbel.out.alloc Hbel.out.size _
      have hgX : g ≠ wr.heap.size := Nat.ne_of_lt Hmr.out.lt
      have hXW : wr.heap.size < W.heap.size := hr.lt
      rw [← hW]
      have hS : ∀ U : World, W.grownBy U (some g) → (loadCellsFrom ⟨wr.heap.size, 0, none⟩ 0 r.cells.length #[]).run Try.prog U = .ok r.cells.toArray U := fun U hU =>
        run_loadCells_list (P := Try.prog) U ⟨wr.heap.size, 0, none⟩ r.cells (fun j v hv => by rw [Addr.add_mid, Nat.zero_add, (hr.grown hU (by simpa using hgX.symm)).cell]; simpa using hv)
      have S0 := hS W.drew (grownBy_drew (World.grownBy.refl _ _))
      have Hr := Lib.hid hr
      have HgW := Lib.hid hgW
      have HmW := Lib.hid hmW
      have HbW := Lib.hid hbW
      have HS := Lib.hid hS
      obtain ⟨m, hmm⟩ : ∃ m, m = cntL (-1) (fun _ => 0) (old.take k) r.key := ⟨_, rfl⟩
      have Hmm := Lib.hid hmm
      clear hr hgW hmW hbW hS hmm hrow hW hone hs
      go_region_held3 (fun U => (loadCellsFrom ⟨wr.heap.size, 0, none⟩ 0 r.cells.length #[]).run Try.prog U = .ok r.cells.toArray U)
        (first | exact S0 | exact S1 | exact S2 | exact S3)
        (first
          | (go_at_call 31
             refine (content_any r _ ((Hrdp.out.below (HbW.out.drew)).more HbW.out.size) Hfew.out).mono ?_
             rintro e w1 ⟨rfl, hb1⟩
             have hgw1 : W.grownBy w1 (some g) := ⟨hb1.os, hb1.tape, hb1.output, hb1.size, fun i hi _ => hb1.block i hi⟩
             have hm1 : MapAt encC 92 w1 g (0 + k) (cntL (-1) (fun _ => 0) (old.take k)) := HmW.out.same (hb1.block g HmW.out.lt)
             obtain ⟨v0, st, wE, wS, hE, hmE, hgE, hSt, hmS, hgS⟩ := hm1.entry2 law92 Try.underlying90 encC_inj Hkl.out (v := wrap64 (m + (-1))) (by have := HroomN.out; omega) (wrap64_wf _)
             have hL0 := hm1.look law92 Try.underlying90 encC_inj Hkl.out
             have hL1 := hmE.look law92 Try.underlying90 encC_inj Hkl.out
             rw [← Hmm.out] at hL0 hL1
             have hSt' : (Instr.entryStore 90 (.map (some g)) st (.int .i64 (IntKind.i64.wrap (m - 1)))).run Try.prog wE = .ok () wS := by
              rw [← IntWalk.i64_left] at hSt
              exact hSt
             have S1 := HS.out w1 hgw1
             have S2 := HS.out wE (hgw1.trans hgE)
             have S3 := HS.out wS (hgw1.trans hgS)
             have HmS := Lib.hid hmS
             have HgS := Lib.hid (hgw1.trans hgS)
             clear hb1 hgw1 hm1 hmE hgE hSt hmS hgS))
      all_goals
        go_wp2
        go_roundw
        case rel =>
          refine ⟨k + 1, by omega, by go_num, HgW.out.trans HgS.out, ?_⟩
          have h := HmS.out
          rw [Nat.add_assoc] at h
          rw [List.take_add_one, Hx.out]
          simp only [Option.toList_some, cntL, List.foldl_append, List.foldl_cons, List.foldl_nil]
          rw [cntR, ← cntL, ← Hmm.out]
          exact h
        case measure => simp [intOf]; omega
    · obtain rfl : k = old.length := by omega
      rw [List.take_length, Nat.zero_add] at hmr
      have Hg0 := Lib.hid hg
      have Hm0 := Lib.hid hmr
      clear hg hmr
      obtain ⟨M0, hM0⟩ : ∃ M0, M0 = cntL (-1) (fun _ => 0) old := ⟨_, rfl⟩
      rw [← hM0] at Hm0
      have HM0 := Lib.hid hM0
      clear hM0
      go_wp2_with fail
      go_loopw [32] (fun i wr => ∃ k : Nat, k ≤ new.length ∧ i = .int .i64 k ∧ W1.grownBy wr (some g) ∧ MapAt encC 92 wr g (old.length + k) (cntL 1 M0 (new.take k)))
        (fun i _ => new.length - (intOf i).toNat)
      case atStart => exact ⟨0, Nat.zero_le _, rfl, Hg0.out, Hm0.out⟩
      case round =>
        obtain ⟨k, hk, rfl, hg, hmr⟩ := hrel
        by_cases hlt : k < new.length
        · obtain ⟨r, hx⟩ : ∃ r, new[k]? = some r := ⟨_, List.getElem?_eq_getElem hlt⟩
          have hmem := List.mem_of_getElem? hx
          obtain ⟨b, off, hA, hbw, c0⟩ := Hn.out.row k r hx
          have hbel : Below w.heap.size w wr := hBw.out.grown hg hBw.out.size (fun k hk => by cases hk; exact hgw)
          have hrow : wr.rangeAt b (off + k * r.cells.length) r.cells := fun j v hv => (hbel.cell (p := ⟨b, _, none⟩) hbw).trans (c0 j v hv)
          have hs : (Try.prog.info? 58).map (·.size) = some r.cells.length := Try.size58
          have h58 : ∀ U : World, (sizeOf 58).run Try.prog U = .ok r.cells.length U := fun U => Try.sizeOf58 U
          have hone : ∀ v ∈ r.cells, v.oneCell' = true := by intro v hv; simp [Rp.cells] at hv; rcases hv with rfl | rfl | rfl | rfl | rfl | rfl | rfl | rfl | rfl | rfl | rfl | rfl | rfl | rfl | rfl | rfl | rfl | rfl | rfl | rfl | rfl <;> rfl
          have hrdp := Hn.out.pts r hmem
          obtain ⟨ok1, ok2, ok3⟩ := Hn.out.ok r hmem
          have hfew := Hn.out.few r hmem
          obtain ⟨kl, hkl⟩ := content_key r ok1 ok2 (le_maxLen (by omega))
          have i0 : (0 : Int) ≤ (k : Int) := by omega
          have i1 : (k : Int) < (new.length : Int) := by omega
          have Hx := Lib.hid hx
          have Hg := Lib.hid hg
          have Hmr := Lib.hid hmr
          have Hbel := Lib.hid hbel
          have Hrdp := Lib.hid hrdp
          have Hfew := Lib.hid hfew
          have Hkl := Lib.hid hkl
          clear hmem hx hg hmr hbel hrdp hfew hkl ok1 ok2 ok3 c0
          rw [hA]
          go_upto_region 10 with (first | (refine wpList_load_mid rfl 58 _ rfl _ _ rfl _ _ hrow Try.underlying58 rfl hs ?_) | (refine wpList_store_fresh rfl 58 _ _ rfl r.cells rfl rfl rfl hs hone ?_))
          obtain ⟨W, hW⟩ : ∃ W, W = wr.alloc (.cells r.cells.toArray 58) := ⟨_, rfl⟩
          have hr : Row W wr.heap.size 58 r.cells.toArray := by rw [hW]; exact Row.new _ _ _
          have hgW : W1.grownBy W (some g) := by rw [hW]; exact Hg.out.trans (World.grownBy_alloc _ _ _)
          have hmW : MapAt encC 92 W g (old.length + k) (cntL (1) M0 (new.take k)) := by rw [hW]; exact Hmr.out.grown ((Below.refl _ _).alloc (Nat.le_refl _) _)
          have hbW : Below w.heap.size w W := by rw [hW]; exact Hbel.out.alloc Hbel.out.size _
          have hgX : g ≠ wr.heap.size := Nat.ne_of_lt Hmr.out.lt
          have hXW : wr.heap.size < W.heap.size := hr.lt
          rw [← hW]
          have hS : ∀ U : World, W.grownBy U (some g) → (loadCellsFrom ⟨wr.heap.size, 0, none⟩ 0 r.cells.length #[]).run Try.prog U = .ok r.cells.toArray U := fun U hU =>
            run_loadCells_list (P := Try.prog) U ⟨wr.heap.size, 0, none⟩ r.cells (fun j v hv => by rw [Addr.add_mid, Nat.zero_add, (hr.grown hU (by simpa using hgX.symm)).cell]; simpa using hv)
          have S0 := hS W.drew (grownBy_drew (World.grownBy.refl _ _))
          have Hr := Lib.hid hr
          have HgW := Lib.hid hgW
          have HmW := Lib.hid hmW
          have HbW := Lib.hid hbW
          have HS := Lib.hid hS
          obtain ⟨m, hmm⟩ : ∃ m, m = cntL (1) M0 (new.take k) r.key := ⟨_, rfl⟩
          have Hmm := Lib.hid hmm
          clear hr hgW hmW hbW hS hmm hrow hW hone hs
          go_region_held3 (fun U => (loadCellsFrom ⟨wr.heap.size, 0, none⟩ 0 r.cells.length #[]).run Try.prog U = .ok r.cells.toArray U)
            (first | exact S0 | exact S1 | exact S2 | exact S3)
            (first
              | (go_at_call 31
                 refine (content_any r _ ((Hrdp.out.below (HbW.out.drew)).more HbW.out.size) Hfew.out).mono ?_
                 rintro e w1 ⟨rfl, hb1⟩
                 have hgw1 : W.grownBy w1 (some g) := ⟨hb1.os, hb1.tape, hb1.output, hb1.size, fun i hi _ => hb1.block i hi⟩
                 have hm1 : MapAt encC 92 w1 g (old.length + k) (cntL (1) M0 (new.take k)) := HmW.out.same (hb1.block g HmW.out.lt)
                 obtain ⟨v0, st, wE, wS, hE, hmE, hgE, hSt, hmS, hgS⟩ := hm1.entry2 law92 Try.underlying90 encC_inj Hkl.out (v := wrap64 (m + (1))) (by have := HroomN.out; omega) (wrap64_wf _)
                 have hL0 := hm1.look law92 Try.underlying90 encC_inj Hkl.out
                 have hL1 := hmE.look law92 Try.underlying90 encC_inj Hkl.out
                 rw [← Hmm.out] at hL0 hL1
                 have hSt' : (Instr.entryStore 90 (.map (some g)) st (.int .i64 (IntKind.i64.wrap (m + 1)))).run Try.prog wE = .ok () wS := by
                  rw [← IntWalk.i64_left] at hSt
                  exact hSt
                 have S1 := HS.out w1 hgw1
                 have S2 := HS.out wE (hgw1.trans hgE)
                 have S3 := HS.out wS (hgw1.trans hgS)
                 have HmS := Lib.hid hmS
                 have HgS := Lib.hid (hgw1.trans hgS)
                 clear hb1 hgw1 hm1 hmE hgE hSt hmS hgS))
          all_goals
            go_wp2
            go_roundw
            case rel =>
              refine ⟨k + 1, by omega, by go_num, HgW.out.trans HgS.out, ?_⟩
              have h := HmS.out
              rw [Nat.add_assoc] at h
              rw [List.take_add_one, Hx.out]
              simp only [Option.toList_some, cntL, List.foldl_append, List.foldl_cons, List.foldl_nil]
              rw [cntR, ← cntL, ← Hmm.out]
              exact h
            case measure => simp [intOf]; omega
        · obtain rfl : k = new.length := by omega
          rw [List.take_length] at hmr
          obtain ⟨M, hM⟩ : ∃ M, M = cntL 1 M0 new := ⟨_, rfl⟩
          rw [← hM] at hmr
          have HM := Lib.hid hM
          have hgr := hg
          obtain ⟨w4, hr4, hR4, hg4, hs4⟩ := hmr.range Try.underlying90
          have hbel3 : Below w.heap.size w wr := hBw.out.grown hg hBw.out.size (fun k hk => by cases hk; exact hgw)
          have hrp3 : Row wr w.heap.size 47 pc.toArray := Hrp.out.grown hg (by simpa using hgp.symm)
          have hb34 : Below wr.heap.size wr w4 := ⟨hg4.os, hg4.tape, hg4.output, hg4.size, fun i hi => hg4.block i hi (by simp)⟩
          have HR4 := Lib.hid hR4
          have Hs4 := Lib.hid hs4
          have HB4 := Lib.hid (hbel3.trans (hb34.mono hbel3.size))
          have Hrp4 := Lib.hid (hrp3.below hb34 hrp3.lt)
          have hrit : wr.heap.size ≠ g := fun e => absurd hmr.lt (by omega)
          have hgm := hmr.lt
          obtain ⟨ir, hir⟩ : ∃ ir, ir = wr.heap.size := ⟨_, rfl⟩
          have hir4 : ir < w4.heap.size := by rw [hir, hs4]; omega
          have hgm4 : g < w4.heap.size := by omega
          have hwir : w.heap.size < ir := by rw [hir]; exact hrp3.lt
          rw [← hir] at hr4 HR4 hrit
          have Hir := Lib.hid hir
          clear hir hM hmr hgr hg hR4 hg4 hs4 hbel3 hrp3 hb34 hgm
          go_wp2_with fail
          go_loopw [6, 7] (fun o al wr => ∃ dn, Rng encC 92 wr g ir (old.length + new.length) M dn ∧ wr.ownsRow w4.heap.size 3 1 o (dn.filterMap (pickW M nw)).length ((dn.filterMap (pickW M nw)).map (.int .i64)) ∧ al = .bool (dn.any (badC M)) ∧ Below w.heap.size w wr ∧ w4.heap.size ≤ wr.heap.size ∧ Row wr w.heap.size 47 pc.toArray)
            (fun _ _ wr => wr.rangeLeft g ir)
          case atStart => exact ⟨[], HR4.out, World.ownsRow_nil _ _ _ _, rfl, HB4.out, Nat.le_refl _, Hrp4.out⟩
          case round =>
            obtain ⟨dn, hR, hown, rfl, hB, hBB, hrp⟩ := hrel
            rcases hR.next encC_inj with ⟨hnext, hall⟩ | ⟨a, kl, w5, hnot, hkey, hnext, hR5, hlt5, hg5, hs5, hent⟩
            · obtain ⟨out, hout⟩ : ∃ out, out = dn.filterMap (pickW M nw) := ⟨_, rfl⟩
              obtain ⟨alb, halb⟩ : ∃ alb, alb = dn.any (badC M) := ⟨_, rfl⟩
              rw [← hout] at hown
              rw [← halb]
              have hfew : out.length ≤ old.length + new.length := by rw [hout]; exact Nat.le_trans (List.length_filterMap_le _ _) hR.few
              have hspec : WagSpec M nw (Lib.compact (out.mergeSort fun x y => decide (x ≤ y))) alb := wag_spec hall hout halb
              have Hspec := Lib.hid hspec
              have HB := Lib.hid hB
              have HBB := Lib.hid hBB
              have Hown := Lib.hid hown
              clear hall hR hown hB hBB hrp hout halb hspec
              rcases Hown.out.2 with ⟨hu, e⟩ | ⟨gb, cap, cur, hu, hgb, hh, hnc, hcm, hsz, htake⟩
              · obtain rfl : out = [] := List.eq_nil_of_length_eq_zero e
                subst hu
                go_wp2_with fail
                refine (Try.slices_Sort_int_none none 0 wr).mono ?_
                rintro e w5 ⟨rfl, rfl⟩
                go_wp2_with fail
                refine (Try.slices_Compact_int_empty none 0 w5).mono ?_
                rintro e w6 ⟨rfl, rfl⟩
                go_wp2
                go_ret2
                exact ⟨[], alb, none, 0, rfl, HB.out, fun k x hx => by simp at hx, by rw [cnts, ← HM0.out, ← HM.out]; simpa [Lib.compact, compactUpTo] using Hspec.out⟩
              · subst hu
                have Hcm := Lib.hid hcm
                clear hcm
                have htake' : cur.toList.take out.length = out.map (Value.int .i64) := by simpa using htake
                have hgl : gb < wr.heap.size := (Array.getElem?_eq_some_iff.1 hh).1
                have hH := Lib.hid (holds_of_blockI hh htake')
                have hwgb : w.heap.size ≤ gb := Nat.le_trans HB4.out.size hgb
                clear htake
                go_wp2_with fail
                refine (Try.slices_Sort_int gb 0 cap out wr hH.out hgl (by omega)).mono ?_
                rintro e w5 ⟨rfl, n5, os5, hw5⟩
                have hb5 : Below w.heap.size w w5 := by rw [hw5]; exact HB.out.grown (grownBy_sortedI _) HB.out.size (fun k hk => by cases hk; exact hwgb)
                have hh5 := heap_sortedI (n := n5) (os := os5) (out.mergeSort fun x y => decide (x ≤ y)).toArray hh
                rw [← hw5] at hh5
                obtain ⟨srt, hsrt⟩ : ∃ srt, srt = out.mergeSort fun x y => decide (x ≤ y) := ⟨_, rfl⟩
                have hsl : srt.length = out.length := by rw [hsrt]; simp
                rw [← hsrt] at hh5 Hspec
                have ht5 : (putCells (Value.int .i64) 0 srt.toArray cur).toList.take srt.length = srt.map (Value.int .i64) := take_putCellsI cur srt (by omega)
                have hH5 := Lib.hid (holds_of_blockI hh5 ht5)
                have hg5 : gb < w5.heap.size := (Array.getElem?_eq_some_iff.1 hh5).1
                have Hh5 := Lib.hid hh5
                have Hb5 := Lib.hid hb5
                have q1 : srt.length ≤ 9223372036854775807 := by rw [hsl]; exact Nat.le_trans hfew (by omega)
                have q2 : srt.length ≤ cap := by rw [hsl]; exact hnc
                have Hsl := Lib.hid hsl
                have Q1 := Lib.hid q1
                have Q2 := Lib.hid q2
                clear hw5 hh5 hb5 hsrt ht5 hsl q1 q2
                go_wp2_with fail
                rw [← Hsl.out]
                refine (Try.slices_Compact_int gb 0 cap srt w5 hH5.out Q1.out Q2.out).mono ?_
                rintro e w6 ⟨rfl, q6, hw6⟩
                obtain ⟨fin, hfin⟩ : ∃ fin, fin = Lib.compact srt ++ List.replicate (srt.length - (Lib.compact srt).length) 0 := ⟨_, rfl⟩
                have hcl : (Lib.compact srt).length ≤ srt.length := compact_len srt
                have hfl : fin.length = srt.length := by rw [hfin]; simp; omega
                rw [← hfin] at hw6
                have hw6' : w6 = grow (putRow (Value.int .i64) (Sort.ahead w5 q6) gb 0 fin.toArray) #[] := by rw [hw6, grow_nil]
                have hb6 : Below w.heap.size w w6 := by rw [hw6']; exact Hb5.out.grown (grownBy_sortedI _) Hb5.out.size (fun k hk => by cases hk; exact hwgb)
                have hown6 : w6.ownsRow w4.heap.size 3 1 (.slice (some ⟨gb, 0, none⟩) srt.length cap) srt.length (fin.map (Value.int .i64)) := by
                  rw [hw6']
                  exact ownsRow_sortedI hfl hgb Hh5.out Q2.out Hcm.out (by simp [putCells, hsz])
                rw [← hfl] at hown6
                obtain ⟨A6, c6, e6, hrd6⟩ := own_ints hown6
                injection e6 with e7 e8 e9
                subst e7 e9
                have hrd7 : RdI w6 w6.heap.size (some ⟨gb, 0, none⟩) (Lib.compact srt) := fun k x hx => hrd6 k x (by rw [hfin, List.getElem?_append_left (List.getElem?_eq_some_iff.1 hx).1]; exact hx)
                have Hb6 := Lib.hid hb6
                have Hrd7 := Lib.hid hrd7
                clear hw6 hw6' hb6 hown6 hrd6 hrd7 hfin hfl e8
                go_wp2
                go_ret2
                exact ⟨Lib.compact srt, alb, _, _, rfl, Hb6.out, Hrd7.out, by rw [cnts, ← HM0.out, ← HM.out]; exact Hspec.out⟩
            · obtain ⟨m, hm⟩ : ∃ m, m = M a := ⟨_, rfl⟩
              obtain ⟨ac, hac⟩ : ∃ ac : List Value, ac = a.1.map (Value.int .i64) ++ [Value.string a.2.1, Value.string a.2.2] := ⟨_, rfl⟩
              have hlen19 := content_len hkey
              have hacl : ac.length = 21 := by rw [hac]; simp [hlen19]
              have hac1 : ∀ v ∈ ac, v.oneCell' = true := by
                rw [hac]; intro v hv
                rcases List.mem_append.1 hv with h | h
                · obtain ⟨n, _, rfl⟩ := List.mem_map.1 h; rfl
                · simp at h; rcases h with rfl | rfl <;> rfl
              have hacs : (Try.prog.info? 92).map (·.size) = some ac.length := by rw [hacl]; exact Try.size92
              have e7 : ac[7]? = some (.int .i64 (kindC a)) := by
                rw [hac, List.getElem?_append_left (by simp [hlen19])]
                simp [kindC, List.getD, hlen19]
              have e8 : ac[8]? = some (.int .i64 (wagC a)) := by
                rw [hac, List.getElem?_append_left (by simp [hlen19])]
                simp [wagC, List.getD, hlen19]
              have hea : encC a = .agg ac.toArray := by rw [hac]; rfl
              rw [← hm, hea] at hnext hent
              obtain ⟨kd, hkd⟩ : ∃ kd, kd = kindC a := ⟨_, rfl⟩
              obtain ⟨wg, hwg⟩ : ∃ wg, wg = wagC a := ⟨_, rfl⟩
              rw [← hkd] at e7
              rw [← hwg] at e8
              have hr92 : Row (w5.alloc (.cells ac.toArray 92)) w5.heap.size 92 ac.toArray := Row.new _ _ _
              have f7 : (w5.alloc (.cells ac.toArray 92)).cell? ⟨w5.heap.size, 7, none⟩ = some (.int .i64 kd) := by rw [hr92.cell]; simpa using e7
              have f8 : (w5.alloc (.cells ac.toArray 92)).cell? ⟨w5.heap.size, 8, none⟩ = some (.int .i64 wg) := by rw [hr92.cell]; simpa using e8
              have hrp5 : Row (w5.alloc (.cells ac.toArray 92)) w.heap.size 47 pc.toArray := (hrp.grown hg5 (by simp; omega)).alloc _
              have fp : (w5.alloc (.cells ac.toArray 92)).cell? ⟨w.heap.size, 3, none⟩ = some (.slice WA nw wc) := by rw [hrp5.cell]; simpa using hpc
              have HR := Lib.hid hR
              have Hown := Lib.hid hown
              have HB := Lib.hid hB
              have HBB := Lib.hid hBB
              have Hnot := Lib.hid hnot
              have HR5 := Lib.hid hR5
              have Hlt5 := Lib.hid hlt5
              have Hg5 := Lib.hid hg5
              have Hs5 := Lib.hid hs5
              have Hm := Lib.hid hm
              have Hkd := Lib.hid hkd
              have Hwg := Lib.hid hwg
              have Hrp5 := Lib.hid hrp5
              have Hac1 := Lib.hid hac1
              have Hacs := Lib.hid hacs
              have Hacl := Lib.hid hacl
              clear hR hown hB hBB hrp hnot hR5 hlt5 hg5 hs5 hm hkd hwg hrp5 hac hac1 hacs hacl hea e7 e8 hr92 hkey hlen19
              by_cases h0 : m = 0
              · subst h0
                go_wp2_with (first | (show wpList _ _ _ (⟨none, Op.store 92 _ _, _, _, _, _⟩ :: _) _ _; refine wpList_store_fresh rfl 92 _ _ rfl ac rfl rfl (by rw [Hacl.out]; rfl) Hacs.out Hac1.out ?_))
                go_roundw
                case rel =>
                  refine ⟨_, HR5.out.kept (World.grownBy_alloc _ _ none) (by simp) (by simp), ?_, ?_, ?_, ?_, Hrp5.out⟩
                  · rw [List.filterMap_append, List.filterMap_cons_none (by simp [pickW, ← Hm.out]), List.filterMap_nil, List.append_nil]
                    exact (Hown.out.kept Hg5.out (by right; intro e; have := Hown.out.lt _ e; omega)).alloc _
                  · rw [List.any_append]; simp [badC, ← Hm.out]
                  · exact (HB.out.grown Hg5.out HB.out.size (fun k hk => by cases hk; omega)).alloc (Nat.le_trans HB.out.size (Nat.le_of_eq Hs5.out.symm)) _
                  · have := HBB.out; have := Hs5.out; simp; omega
                case measure =>
                  rw [rangeLeft_kept (Below.heap_alloc _ _ _ HR5.out.ltb) (Below.heap_alloc _ _ _ HR5.out.lt)]
                  exact Hlt5.out
              · have hne : (m == 0) = false := by simp [h0]
                go_wp2_with (first | (show wpList _ _ _ (⟨none, Op.store 92 _ _, _, _, _, _⟩ :: _) _ _; refine wpList_store_fresh rfl 92 _ _ rfl ac rfl rfl (by rw [Hacl.out]; rfl) Hacs.out Hac1.out ?_) | fail)
                refine (common_any kd _).mono ?_
                rintro e w6 ⟨rfl, rfl⟩
                by_cases hc : comK kd = true
                · rw [hc]
                  have Hc := Lib.hid hc
                  clear hc
                  go_wp2
                  go_roundw
                  case rel =>
                    refine ⟨_, HR5.out.kept (World.grownBy_alloc _ _ none) (by simp) (by simp), ?_, ?_, ?_, ?_, Hrp5.out⟩
                    · rw [List.filterMap_append, List.filterMap_cons_none (by simp [pickW, ← Hkd.out, Hc.out]), List.filterMap_nil, List.append_nil]
                      exact (Hown.out.kept Hg5.out (by right; intro e; have := Hown.out.lt _ e; omega)).alloc _
                    · rw [List.any_append]; simp [badC, ← Hkd.out, Hc.out, ← Hm.out, h0]
                    · exact (HB.out.grown Hg5.out HB.out.size (fun k hk => by cases hk; omega)).alloc (Nat.le_trans HB.out.size (Nat.le_of_eq Hs5.out.symm)) _
                    · have := HBB.out; have := Hs5.out; simp; omega
                  case measure =>
                    rw [rangeLeft_kept (Below.heap_alloc _ _ _ HR5.out.ltb) (Below.heap_alloc _ _ _ HR5.out.lt)]
                    exact Hlt5.out
                · have hcf : comK kd = false := by simpa using hc
                  rw [hcf]
                  have Hc := Lib.hid hcf
                  clear hc hcf
                  by_cases h1 : 0 ≤ wg
                  · by_cases h2 : wg < (nw : Int)
                    · have hlt1 : pickW M nw a = some wg := by simp only [pickW]; rw [if_pos ⟨by rw [← Hm.out]; exact h0, by rw [← Hkd.out]; exact Hc.out, by rw [← Hwg.out]; omega, by rw [← Hwg.out]; omega⟩, Hwg.out]
                      have hfew : (dn.filterMap (pickW M nw)).length + 1 ≤ old.length + new.length := by
                        have h1 := HR5.out.few
                        have h2 := List.length_filterMap_le (pickW M nw) dn
                        simp at h1
                        omega
                      obtain ⟨i3, hi3', hz3, hs3, hby3⟩ := info3
                      have Hi3 := Lib.hid hi3'
                      have Hz3 := Lib.hid hz3
                      have Hs3 := Lib.hid hs3
                      have Hby3 := Lib.hid hby3
                      have Hl1 := Lib.hid (le_maxLen (show (dn.filterMap (pickW M nw)).length + 1 ≤ 140737488355328 by omega))
                      have Hl2 := Lib.hid (show ((dn.filterMap (pickW M nw)).length + 1) * 8 ≤ 140737488355328 by omega)
                      have hown5 := Hown.out.kept Hg5.out (by right; intro e; have := Hown.out.lt _ e; omega)
                      have Hown5 := Lib.hid (hown5.alloc (.cells ac.toArray 92))
                      have hb5 : w4.heap.size ≤ w5.heap.size := by have := HBB.out; have := Hs5.out; omega
                      have Hlt1 := Lib.hid hlt1
                      clear hi3' hz3 hs3 hby3 hown5 hlt1 hfew
                      go_wp2_with (first
                        | (at_builtin; refine wpList_append_own _ rfl _ _ 23 rfl w4.heap.size 3 i3 (.int .i64 0) 1 8 Try.underlying23 Hi3.out Hz3.out Hs3.out Hby3.out rfl (by decide) _ _ _ rfl (Hown5.out.alloc _) ⟨w5.heap.size + 1, 0, none⟩ 1 1 [.int .i64 wg] rfl rfl (by
                              have := World.news_of_block (heap_alloc_new (w5.alloc (.cells ac.toArray 92)) (.cells #[.int .i64 wg] 3))
                              simpa using this) (one_ints [wg]) Hl1.out Hl2.out (by simp; omega) ?_
                           intro v6 w6 hown6 hgrow6 hiff6)
                        | (show wpList _ _ _ (⟨none, Op.store 92 _ _, _, _, _, _⟩ :: _) _ _; refine wpList_store_fresh rfl 92 _ _ rfl ac rfl rfl (by rw [Hacl.out]; rfl) Hacs.out Hac1.out ?_)
                        | go_in)
                      have hr6 : ∀ k, (some k : Option Nat) = Value.ownBlock _ → _ := fun k hk => Hown.out.lt k hk.symm
                      go_roundw
                      case rel =>
                        refine ⟨_, (HR5.out.kept ((World.grownBy_alloc _ _ none).trans (World.grownBy_alloc _ _ none)) (by simp) (by simp)).kept hgrow6 ?_ ?_, ?_, ?_, ?_, ?_, ?_⟩
                        · intro e; have := hr6 _ e; omega
                        · intro e; have := hr6 _ e; omega
                        · rw [List.filterMap_append, List.filterMap_cons_some Hlt1.out, List.filterMap_nil, List.length_append]
                          simpa using hown6
                        · rw [List.any_append, List.any_cons, List.any_nil, badC, ← Hkd.out, Hc.out, Bool.and_false, Bool.or_false, Bool.or_false]
                        · refine Below.grown (((HB.out.grown Hg5.out HB.out.size (fun k hk => by cases hk; omega)).alloc (Nat.le_trans HB.out.size (Nat.le_of_eq Hs5.out.symm)) _).alloc ?_ _) hgrow6 ?_ ?_
                          · have := HB.out.size; have := Hs5.out; simp; omega
                          · have := HB.out.size; have := Hs5.out; simp; omega
                          · intro k hk; have := hr6 _ hk.symm; have := HB4.out.size; omega
                        · have := hgrow6.size; simp at this; omega
                        · exact (Hrp5.out.alloc _).grown hgrow6 (fun e => by have := hr6 _ e; omega)
                      case measure =>
                        refine Nat.lt_of_le_of_lt (Nat.le_of_eq ?_) Hlt5.out
                        rw [rangeLeft_kept (hgrow6.block _ ?_ ?_) (hgrow6.block _ ?_ ?_), rangeLeft_kept (Below.heap_alloc _ _ _ ?_) (Below.heap_alloc _ _ _ ?_), rangeLeft_kept (Below.heap_alloc _ _ _ HR5.out.ltb) (Below.heap_alloc _ _ _ HR5.out.lt)]
                        · simp; have := HR5.out.ltb; omega
                        · simp; have := HR5.out.lt; omega
                        · simp; have := HR5.out.ltb; omega
                        · intro e; have := hr6 _ e; omega
                        · simp; have := HR5.out.lt; omega
                        · intro e; have := hr6 _ e; omega
                    · go_wp2
                      go_roundw
                      case rel =>
                        refine ⟨_, HR5.out.kept (World.grownBy_alloc _ _ none) (by simp) (by simp), ?_, ?_, ?_, ?_, Hrp5.out⟩
                        · rw [List.filterMap_append, List.filterMap_cons_none (by simp only [pickW]; rw [if_neg (by rw [← Hwg.out]; omega)]), List.filterMap_nil, List.append_nil]
                          exact (Hown.out.kept Hg5.out (by right; intro e; have := Hown.out.lt _ e; omega)).alloc _
                        · rw [List.any_append]; simp [badC, ← Hkd.out, Hc.out]
                        · exact (HB.out.grown Hg5.out HB.out.size (fun k hk => by cases hk; omega)).alloc (Nat.le_trans HB.out.size (Nat.le_of_eq Hs5.out.symm)) _
                        · have := HBB.out; have := Hs5.out; simp; omega
                      case measure =>
                        rw [rangeLeft_kept (Below.heap_alloc _ _ _ HR5.out.ltb) (Below.heap_alloc _ _ _ HR5.out.lt)]
                        exact Hlt5.out
                  · go_wp2
                    go_roundw
                    case rel =>
                      refine ⟨_, HR5.out.kept (World.grownBy_alloc _ _ none) (by simp) (by simp), ?_, ?_, ?_, ?_, Hrp5.out⟩
                      · rw [List.filterMap_append, List.filterMap_cons_none (by simp only [pickW]; rw [if_neg (by rw [← Hwg.out]; omega)]), List.filterMap_nil, List.append_nil]
                        exact (Hown.out.kept Hg5.out (by right; intro e; have := Hown.out.lt _ e; omega)).alloc _
                      · rw [List.any_append]; simp [badC, ← Hkd.out, Hc.out]
                      · exact (HB.out.grown Hg5.out HB.out.size (fun k hk => by cases hk; omega)).alloc (Nat.le_trans HB.out.size (Nat.le_of_eq Hs5.out.symm)) _
                      · have := HBB.out; have := Hs5.out; simp; omega
                    case measure =>
                      rw [rangeLeft_kept (Below.heap_alloc _ _ _ HR5.out.ltb) (Below.heap_alloc _ _ _ HR5.out.lt)]
                      exact Hlt5.out

end Go.Proofs.Ytoiipfcmkogcfaa
