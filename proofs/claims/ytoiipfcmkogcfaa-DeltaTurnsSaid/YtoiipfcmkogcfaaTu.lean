/-
  The law DeltaTurns returns true for whatever lists are read.
  Conditions: as each theorem states them.
-/
import Derived.Test.YtoiipfcmkogcfaaEx
import Derived.Test.YtoiipfcmkogcfaaBs
namespace Go.Proofs.Ytoiipfcmkogcfaa
open Go.RowKit Go.Lib

/-- A line's cells, always 44 of them. -/
def Ln.c44 (x : Ln) : List Value := (x.cells ++ List.replicate 44 (Value.int .i64 0)).take 44
theorem Ln.c44_len (x : Ln) : x.c44.length = 44 := by simp [Ln.c44]
theorem Ln.c44_ok {x : Ln} (h : x.ok) : x.c44 = x.cells := by
  have e : x.cells.length = 44 := by simp [Ln.cells, Dl.cells, h.1]
  rw [Ln.c44, ← e, List.take_left]
theorem flat_c44 : ∀ {l : List Ln}, (∀ x ∈ l, x.ok) → flat Ln.c44 l = flat Ln.cells l
  | [], _ => rfl
  | x :: r, h => by rw [flat, flat, Ln.c44_ok (h x (List.mem_cons_self ..)), flat_c44 fun y hy => h y (List.mem_cons_of_mem _ hy)]
theorem rde_c44 {w : World} {B : Nat} {A : Option Addr} {l : List Ln} (h : RdE Ln.c44 44 w B A l) (ok : ∀ x ∈ l, x.ok) : RdE Ln.cells 44 w B A l := by
  intro i x hx
  obtain ⟨b, off, e, hb, c⟩ := h i x hx
  rw [Ln.c44_ok (ok x (List.mem_of_getElem? hx))] at c
  exact ⟨b, off, e, hb, c⟩
theorem one44 {x : Ln} (h : x.ok) : ∀ v ∈ x.cells, v.oneCell' = true := by
  intro v hv
  rcases List.mem_append.1 hv with h1 | h1
  · exact Dl.cells_one _ v h1
  · exact h.2.1 v h1
theorem drop_rev {l : List Ln} {j : Nat} {x : Ln} (h : l[j]? = some x) : (l.drop j).reverse = (l.drop (j + 1)).reverse ++ [x] := by
  obtain ⟨hj, e⟩ := List.getElem?_eq_some_iff.1 h
  rw [List.drop_eq_getElem_cons hj, e, List.reverse_cons]
theorem diff_len {la lb : List Ln} {dl : List Dl} (okb : ∀ x ∈ lb, x.ok) (hso : SortedD dl) (hmem : ∀ d, d ∈ dl ↔ d.amount ≠ 0 ∧ tot (la.map Ln.d) (lb.map Ln.d) d.slot = d.amount) : dl.length ≤ la.length + lb.length := by
  obtain ⟨s1, m1⟩ := refD_spec (la.map Ln.d) (lb.map Ln.d) (ln_amount okb)
  obtain rfl : dl = refD (la.map Ln.d) (lb.map Ln.d) := sortedD_ext hso s1 fun x => by rw [hmem, m1]
  have h1 := LB_len (la.map Ln.d) (lb.map Ln.d)
  have h2 := List.length_filter_le (fun d : Dl => d.amount != 0) (LB (la.map Ln.d) (lb.map Ln.d))
  have h3 : (refD (la.map Ln.d) (lb.map Ln.d)).length ≤ (LB (la.map Ln.d) (lb.map Ln.d)).length := h2
  simp at h1
  omega
theorem applyF_short (b : List Int) (d : List Dl) : (applyF b d).1.length ≤ 336 := by
  by_cases h : (applyF b d).2 = 0
  · rw [applyF_len2 h]; omega
  · rw [applyF_not h]; simp
theorem info68 : ∃ i z, Try.prog.info? 68 = some i ∧ i.zero = some z ∧ i.size = 44 ∧ i.bytes = 128 ∧ z.cells.size = 44 := by
  have h : ((Try.prog.info? 68).any fun i => i.size == 44 && i.bytes == 128 && (i.zero.any fun z => z.cells.size == 44)) = true := by kernel_rfl
  cases hi : Try.prog.info? 68 with
  | none => rw [hi] at h; cases h
  | some i =>
    rw [hi] at h
    simp only [Option.any_some, Bool.and_eq_true, beq_iff_eq] at h
    cases hz : i.zero with
    | none => rw [hz] at h; simp at h
    | some z =>
      rw [hz] at h
      exact ⟨i, z, rfl, hz, h.1.1, h.1.2, by simpa using h.2⟩

set_option maxRecDepth 100000 in
set_option maxHeartbeats 4000000 in
theorem turns_any (la lb lc : List Ln) (A B C : Option Addr) (ca cb cc : Nat) (w : World) (ha : RdE Ln.cells 44 w w.heap.size A la) (hb : RdE Ln.cells 44 w w.heap.size B lb) (hc : RdE Ln.cells 44 w w.heap.size C lc) (oka : ∀ x ∈ la, x.ok) (okb : ∀ x ∈ lb, x.ok) (okc : ∀ x ∈ lc, x.ok) :
    Calls Try.prog 5 #[.slice A la.length ca, .slice B lb.length cb, .slice C lc.length cc] w fun e w' => e = .returned (.bool true) ∧ Below w.heap.size w w' := by
  have Ha := Lib.hid ha
  have Hb := Lib.hid hb
  have Hc := Lib.hid hc
  have Hoka := Lib.hid oka
  have Hokb := Lib.hid okb
  have Hokc := Lib.hid okc
  clear ha hb hc oka okb okc
  go_enter Try.func5, Try.ntmps5
  go_wp2_with fail
  refine (sane_any w).mono ?_
  rintro e w1 ⟨rfl, hb1⟩
  have Hb1 := Lib.hid hb1
  clear hb1
  by_cases h1 : 40 < la.length
  · go_wp2
    go_ret
    exact ⟨rfl, Hb1.out⟩
  by_cases h2 : 40 < lb.length
  · go_wp2
    go_ret
    exact ⟨rfl, Hb1.out⟩
  by_cases h3 : 40 < lc.length
  · go_wp2
    go_ret
    exact ⟨rfl, Hb1.out⟩
  have i1 : (la.length : Int) ≤ 40 := by omega
  have i2 : (lb.length : Int) ≤ 40 := by omega
  have i3 : (lc.length : Int) ≤ 40 := by omega
  go_wp2_with fail
  refine (small_any la A ca 1125899906842624 w1 ((Ha.out.below Hb1.out).more Hb1.out.size) (by decide) (by omega)).mono ?_
  rintro e w2 ⟨rfl, rfl⟩
  by_cases hfa : (la.all fun x => decide (-1125899906842624 ≤ x.d.amount ∧ x.d.amount ≤ 1125899906842624)) = false
  · rw [hfa]
    clear hfa
    go_wp2
    go_ret
    exact ⟨rfl, Hb1.out⟩
  have hsa : (la.all fun x => decide (-1125899906842624 ≤ x.d.amount ∧ x.d.amount ≤ 1125899906842624)) = true := by simpa using hfa
  clear hfa
  rw [hsa]
  have Hsa := Lib.hid (smallD_of hsa)
  clear hsa
  go_wp2_with fail
  refine (small_any lb B cb 1125899906842624 w2 ((Hb.out.below Hb1.out).more Hb1.out.size) (by decide) (by omega)).mono ?_
  rintro e w3 ⟨rfl, rfl⟩
  by_cases hfb : (lb.all fun x => decide (-1125899906842624 ≤ x.d.amount ∧ x.d.amount ≤ 1125899906842624)) = false
  · rw [hfb]
    clear hfb
    go_wp2
    go_ret
    exact ⟨rfl, Hb1.out⟩
  have hsb : (lb.all fun x => decide (-1125899906842624 ≤ x.d.amount ∧ x.d.amount ≤ 1125899906842624)) = true := by simpa using hfb
  clear hfb
  rw [hsb]
  have Hsb := Lib.hid (smallD_of hsb)
  clear hsb
  go_wp2_with fail
  refine (small_any lc C cc 1125899906842624 w3 ((Hc.out.below Hb1.out).more Hb1.out.size) (by decide) (by omega)).mono ?_
  rintro e w4 ⟨rfl, rfl⟩
  by_cases hfc : (lc.all fun x => decide (-1125899906842624 ≤ x.d.amount ∧ x.d.amount ≤ 1125899906842624)) = false
  · rw [hfc]
    clear hfc
    go_wp2
    go_ret
    exact ⟨rfl, Hb1.out⟩
  have hsc : (lc.all fun x => decide (-1125899906842624 ≤ x.d.amount ∧ x.d.amount ≤ 1125899906842624)) = true := by simpa using hfc
  clear hfc
  rw [hsc]
  have Hsc := Lib.hid (smallD_of hsc)
  clear hsc
  go_wp2_with fail
  obtain ⟨ob, hob⟩ : ∃ ob, ob = w4.heap.size := ⟨_, rfl⟩
  have hwob : w.heap.size ≤ ob := by rw [hob]; exact Hb1.out.size
  have hobr : ob ≤ w4.heap.size := by omega
  clear hob
  go_loopw [7, 8] (fun o i wx => ∃ j : Nat, j ≤ la.length ∧ i = .int .i64 ((j : Int) - 1) ∧ wx.ownsRow ob 68 44 o (la.length - j) (flat Ln.cells (la.drop j).reverse) ∧ Below w.heap.size w wx ∧ ob ≤ wx.heap.size)
    (fun _ i _ => (intOf i + 1).toNat)
  case atStart => exact ⟨la.length, Nat.le_refl _, rfl, by simpa [flat] using World.ownsRow_nil _ _ _ _, Hb1.out, hobr⟩
  case round =>
    obtain ⟨j, hj, rfl, hown, hbel, hobx⟩ := hrel
    by_cases hlt : 0 < j
    · obtain ⟨m, rfl⟩ : ∃ m, j = m + 1 := ⟨j - 1, by omega⟩
      rw [show (((m + 1 : Nat) : Int) - 1) = (m : Int) from by omega]
      obtain ⟨x, hx⟩ : ∃ x, la[m]? = some x := ⟨_, List.getElem?_eq_getElem (by omega)⟩
      obtain ⟨b, off, rfl, hbw, c0⟩ := Ha.out m x hx
      have hxo := Hoka.out x (List.mem_of_getElem? hx)
      have hs : (Try.prog.info? 68).map (·.size) = some x.cells.length := by rw [Try.size68]; simp [Ln.cells, Dl.cells, hxo.1]
      have hlen : (44 : Nat) = x.cells.length := by simp [Ln.cells, Dl.cells, hxo.1]
      have hrg : wr.rangeAt b (off + m * 44) x.cells := fun j v hv => (hbel.cell (p := ⟨b, _, none⟩) hbw).trans (c0 j v hv)
      have i0 : (0 : Int) ≤ (m : Int) := by omega
      have i4 : (m : Int) < (la.length : Int) := by omega
      have hone := one44 hxo
      have Hx := Lib.hid hx
      obtain ⟨ii, z0, hi, hz, hsz, hby, hzs⟩ := info68
      have Hi := Lib.hid hi
      have Hz := Lib.hid hz
      have Hsz := Lib.hid hsz
      have Hby := Lib.hid hby
      have Hzs := Lib.hid hzs
      have hown2 : (wr.alloc (.cells x.cells.toArray 68)).ownsRow ob 68 44 u7 (la.length - (m + 1)) (flat Ln.cells (la.drop (m + 1)).reverse) := hown.alloc _
      have hnews : ∀ (jj : Nat) (u : Value), x.cells[jj]? = some u → (wr.alloc (.cells x.cells.toArray 68)).cell? ((⟨wr.heap.size, 0, none⟩ : Addr).add jj) = some u := World.news_of_block (heap_alloc_new wr _)
      have Hown2 := Lib.hid hown2
      have Hnews := Lib.hid hnews
      have Hown0 := Lib.hid hown.lt
      have Hbel := Lib.hid hbel
      have Hone := Lib.hid hone
      have Hrg := Lib.hid hrg
      have Hs := Lib.hid hs
      have Hlen := Lib.hid hlen
      have hl63 : la.length - (m + 1) + 1 ≤ maxLen := by simp only [maxLen]; omega
      have hl47 : (la.length - (m + 1) + 1) * 128 ≤ 140737488355328 := by omega
      have hobA : ob ≤ (wr.alloc (.cells x.cells.toArray 68)).heap.size := by simp; omega
      have Hl63 := Lib.hid hl63
      have Hl47 := Lib.hid hl47
      have HobA := Lib.hid hobA
      clear hx c0 hxo hs hlen hrg hone hi hz hsz hby hzs hown hown2 hnews hbel hl63 hl47 hobA
      go_wp2_with (first
        | (show wpList _ _ _ (⟨some 61, Op.load 68 _, _, _, _, _⟩ :: _) _ _; refine wpList_load_mid rfl 68 _ rfl _ _ rfl _ _ Hrg.out Try.underlying68 rfl Hs.out ?_)
        | (show wpList _ _ _ (⟨some 62, Op.buildSlice 22 1 _, _, _, _, _⟩ :: _) _ _; refine wpList_buildSlice_agg rfl 22 68 _ rfl x.cells rfl ii z0 Try.underlying22 Hi.out Hz.out (Hsz.out.trans Hlen.out) (by rw [← Hlen.out]; decide) (by rw [← Hlen.out]; decide) ?_)
        | (at_builtin; refine wpList_append_own _ rfl _ _ 22 rfl ob 68 ii z0 44 128 Try.underlying22 Hi.out Hz.out Hsz.out Hby.out Hzs.out (by decide) _ _ _ rfl Hown2.out ⟨wr.heap.size, 0, none⟩ 1 1 x.cells rfl (by rw [← Hlen.out]) Hnews.out Hone.out Hl63.out Hl47.out HobA.out ?_; intro v' w6 hown6 hgrow6 hiff6))
      go_roundw
      case rel =>
        refine ⟨m, by omega, by go_num, ?_, ((Hbel.out.alloc (Nat.le_trans hwob hobx) _).grown hgrow6 (by simp; omega) (fun k' hk' => Nat.le_trans hwob (Hown0.out k' hk').1)), ?_⟩
        · rw [drop_rev Hx.out, flat_append]
          have e : la.length - m = la.length - (m + 1) + 1 := by omega
          rw [e]
          simpa [flat] using hown6
        · have := hgrow6.size
          simp at this
          omega
      case measure => simp [intOf]
    · obtain rfl : j = 0 := by omega
      rw [show ((0 : Nat) : Int) - 1 = -1 from rfl]
      rw [List.drop_zero] at hown
      have okt : ∀ x ∈ la.reverse, x.ok := fun x hx => Hoka.out x (List.mem_reverse.1 hx)
      have hown3 : wr.ownsRow ob 68 44 u7 la.reverse.length (flat Ln.c44 la.reverse) := by
        rw [flat_c44 okt, List.length_reverse]
        exact hown
      obtain ⟨At, ct, rfl, hrt⟩ := RdE.of_own Ln.c44_len hown3
      have hrt2 := rde_c44 hrt okt
      rw [List.length_reverse]
      have Hrt := Lib.hid hrt2
      have Hokt := Lib.hid okt
      have Hbel := Lib.hid hbel
      clear hown hown3 hrt hrt2 okt hbel hlt hj hobx
      go_wp2_with fail
      refine (diff_any la lb A B ca cb wr ((Ha.out.below Hbel.out).more Hbel.out.size) ((Hb.out.below Hbel.out).more Hbel.out.size) Hoka.out Hokb.out (by omega)).mono ?_
      rintro e w5 ⟨d1, A5, c5, rfl, hb5, hrd5, hso, hmem⟩
      have Hd1 := Lib.hid (isD_of (by decide) (by decide) Hsa.out Hsb.out (by simp; omega) (by simp; omega) hso hmem)
      have Hl1 := Lib.hid (diff_len Hokb.out hso hmem)
      have Hb5 := Lib.hid (Hbel.out.trans (hb5.mono Hbel.out.size))
      have Hrd5 := Lib.hid hrd5
      have Hrt := Lib.hid ((Hrt.out.below hb5).more hb5.size)
      clear hb5 hrd5 hso hmem
      go_wp2_with fail
      refine (diff_any lb la B A cb ca w5 ((Hb.out.below Hb5.out).more Hb5.out.size) ((Ha.out.below Hb5.out).more Hb5.out.size) Hokb.out Hoka.out (by omega)).mono ?_
      rintro e w6 ⟨d2, A6, c6, rfl, hb6, hrd6, hso, hmem⟩
      have Hd2 := Lib.hid (isD_of (by decide) (by decide) Hsb.out Hsa.out (by simp; omega) (by simp; omega) hso hmem)
      have Hb6 := Lib.hid (Hb5.out.trans (hb6.mono Hb5.out.size))
      have Hrd6 := Lib.hid hrd6
      have Hrd5 := Lib.hid ((Hrd5.out.below hb6).more hb6.size)
      have Hrt := Lib.hid ((Hrt.out.below hb6).more hb6.size)
      clear hb6 hrd6 hso hmem
      have hne : d1 = d2.map Dl.neg := isD_neg Hd1.out Hd2.out fun s => by simp only [dT]; omega
      have Hne := Lib.hid hne
      have Hl2 : Hid (d1.length = d2.length) := Lib.hid (by rw [hne, List.length_map])
      clear hne
      go_wp2_with fail
      have hda := diff_any la la.reverse A At ca ct w6 ((Ha.out.below Hb6.out).more Hb6.out.size) Hrt.out Hoka.out Hokt.out (by simp; omega)
      rw [List.length_reverse] at hda
      refine hda.mono ?_
      clear hda
      rintro e w7 ⟨d3, A7, c7, rfl, hb7, hrd7, hso, hmem⟩
      have hsr : smallD 1125899906842624 (la.reverse.map Ln.d) := by
        rw [List.map_reverse]
        exact fun x hx => Hsa.out x (List.mem_reverse.1 hx)
      have hd3 := isD_of (by decide) (by decide) Hsa.out hsr (by simp; omega) (by simp; omega) hso hmem
      obtain rfl : d3 = [] := isD_nil hd3 fun s => by rw [dT, List.map_reverse, sumAt_reverse]; omega
      have Hb7 := Lib.hid (Hb6.out.trans (hb7.mono Hb6.out.size))
      have Hrd5 := Lib.hid ((Hrd5.out.below hb7).more hb7.size)
      have Hrd6 := Lib.hid ((Hrd6.out.below hb7).more hb7.size)
      clear hb7 hrd7 hso hmem hsr hd3
      rw [Hl2.out]
      have hl2 : (d2.length : Int) ≤ 80 := by have := Hl1.out; rw [Hl2.out] at this; omega
      go_wp2_with fail
      have hamt : ∀ y ∈ d2, -90071992547409920 ≤ y.amount ∧ y.amount ≤ 90071992547409920 := by
        intro y hy
        obtain ⟨_, h2⟩ := (Hd2.out.2 y).1 hy
        have e1 := sumAt_le (by decide) y.slot (la.map Ln.d) 40 (by simp; omega) Hsa.out
        have e2 := sumAt_le (by decide) y.slot (lb.map Ln.d) 40 (by simp; omega) Hsb.out
        rw [dT] at h2
        omega
      have Hamt := Lib.hid hamt
      clear hamt
      go_loopw [11] (fun i wx => ∃ k : Nat, k ≤ d2.length ∧ i = .int .i64 k ∧ Below w7.heap.size w7 wx)
        (fun i _ => d2.length - (intOf i).toNat)
      case atStart => exact ⟨0, Nat.zero_le _, rfl, Below.refl _ _⟩
      case round =>
        obtain ⟨k, hk, rfl, hbel⟩ := hrel
        by_cases hlt : k < d2.length
        · obtain ⟨y, hy⟩ : ∃ y, d2[k]? = some y := ⟨_, List.getElem?_eq_getElem hlt⟩
          have hy1 : d1[k]? = some y.neg := by rw [Hne.out, List.getElem?_map, hy]; rfl
          obtain ⟨b5, o5, rfl, hbw5, c05⟩ := Hrd5.out k _ hy1
          obtain ⟨b6, o6, rfl, hbw6, c06⟩ := Hrd6.out k y hy
          obtain ⟨p0, p1, p2, p3, p4, p5, p6, p7, p8⟩ := Nine.of (fun j v hv => (hbel.cell (p := ⟨b5, _, none⟩) hbw5).trans (c05 j v hv))
          obtain ⟨q0, q1, q2, q3, q4, q5, q6, q7, q8⟩ := Nine.of (fun j v hv => (hbel.cell (p := ⟨b6, _, none⟩) hbw6).trans (c06 j v hv))
          obtain ⟨am1, am2⟩ := Hamt.out y (List.mem_of_getElem? hy)
          simp only [Dl.neg, Dl.with] at p0 p1 p2 p3 p4 p5 p6 p7 p8
          have hb5r : b5 < wr.heap.size := Nat.lt_of_lt_of_le hbw5 hbel.size
          have hb6r : b6 < wr.heap.size := Nat.lt_of_lt_of_le hbw6 hbel.size
          have i5 : (0 : Int) ≤ (k : Int) := by omega
          have i6 : (k : Int) < (d2.length : Int) := by omega
          have hwn : IntKind.i64.wrap (-y.amount) = -y.amount := by rw [IntWalk.i64_left]; unfold wrap64; omega
          have Hbel := Lib.hid hbel
          clear c05 c06 hy hy1 hbel
          go_wp2
          go_quiet (fail)
          go_wp2
          go_roundw
          case rel => exact ⟨k + 1, by omega, by go_num, Below.drewsN (Hbel.out.alloc Hbel.out.size _) _⟩
          case measure => simp [intOf]; omega
        · have hkl : k = d2.length := by omega
          subst hkl
          have Hb8 := Lib.hid (Hb7.out.trans (hbel.mono Hb7.out.size))
          have Hrd5 := Lib.hid ((Hrd5.out.below hbel).more hbel.size)
          clear hbel hk hlt
          have hmk := make23
          go_wp2_with fail
          clear hmk
          obtain ⟨zs, hzs⟩ : ∃ zs : List Int, zs = List.replicate 336 0 := ⟨_, rfl⟩
          have hzl : zs.length = 336 := by rw [hzs, List.length_replicate]
          have hz0 : ∀ i, i < 336 → zs.getD i 0 = 0 := by
            intro i hi
            rw [hzs, List.getD_eq_getElem?_getD, List.getElem?_replicate]
            split <;> rfl
          obtain ⟨w9, hw9⟩ : ∃ w9, w9 = wr.alloc (.cells (Array.replicate 336 (Value.int .i64 0)) 3) := ⟨_, rfl⟩
          obtain ⟨zb, hzb⟩ : ∃ zb, zb = wr.heap.size := ⟨_, rfl⟩
          have hrz : Row w9 zb 3 (ints zs) := by
            rw [hw9, hzb, hzs]
            have e : (Array.replicate 336 (Value.int .i64 0)) = ints (List.replicate 336 0) := by
              rw [ints, List.map_replicate, List.toArray_replicate]
            rw [e]
            exact Row.new _ _ _
          have hb9 : Below wr.heap.size wr w9 := by rw [hw9]; exact (Below.refl _ _).alloc (Nat.le_refl _) _
          rw [← hw9, ← hzb]
          have Hb9 := Lib.hid (Hb8.out.trans (hb9.mono Hb8.out.size))
          have Hrd5 := Lib.hid ((Hrd5.out.below hb9).more hb9.size)
          have Hrz := Lib.hid (row_reads hrz)
          have Hzl := Lib.hid hzl
          have Hz0 := Lib.hid hz0
          have Hl1b : Hid (d1.length * 72 ≤ 140737488355328) := Lib.hid (by have := Hl1.out; omega)
          rw [← Hl2.out, ← hzl]
          clear hw9 hzb hrz hb9 hzl hz0 hzs
          go_wp2_with fail
          refine (apply_any _ A5 zs d1 _ c5 w9 Hrz.out Hrd5.out (by have := Hzl.out; omega) Hl1b.out).mono ?_
          rintro e w10 ⟨A10, c10, rfl, hb10, hrd10⟩
          have Hb10 := Lib.hid (Hb9.out.trans (hb10.mono Hb9.out.size))
          have Hrd10 := Lib.hid hrd10
          have Hrz := Lib.hid ((Hrz.out.below hb10).more hb10.size)
          clear hb10 hrd10
          go_wp2_with fail
          refine (diff_any lb lc B C cb cc w10 ((Hb.out.below Hb10.out).more Hb10.out.size) ((Hc.out.below Hb10.out).more Hb10.out.size) Hokb.out Hokc.out (by omega)).mono ?_
          rintro e w11 ⟨d4, A11, c11, rfl, hb11, hrd11, hso, hmem⟩
          have Hd4 := Lib.hid (isD_of (by decide) (by decide) Hsb.out Hsc.out (by simp; omega) (by simp; omega) hso hmem)
          have Hl4 : Hid (d4.length * 72 ≤ 140737488355328) := Lib.hid (by have := diff_len Hokc.out hso hmem; omega)
          have Hb11 := Lib.hid (Hb10.out.trans (hb11.mono Hb10.out.size))
          have Hrd11 := Lib.hid hrd11
          have Hrd10 := Lib.hid ((Hrd10.out.below hb11).more hb11.size)
          have Hrz := Lib.hid ((Hrz.out.below hb11).more hb11.size)
          clear hb11 hrd11 hso hmem
          go_wp2_with fail
          refine (apply_any A10 A11 (applyF zs d1).1 d4 c10 c11 w11 Hrd10.out Hrd11.out (by have := applyF_short zs d1; omega) Hl4.out).mono ?_
          rintro e w12 ⟨A12, c12, rfl, hb12, hrd12⟩
          have Hb12 := Lib.hid (Hb11.out.trans (hb12.mono Hb11.out.size))
          have Hrd12 := Lib.hid hrd12
          have Hrz := Lib.hid ((Hrz.out.below hb12).more hb12.size)
          clear hb12 hrd12
          go_wp2_with fail
          refine (diff_any la lc A C ca cc w12 ((Ha.out.below Hb12.out).more Hb12.out.size) ((Hc.out.below Hb12.out).more Hb12.out.size) Hoka.out Hokc.out (by omega)).mono ?_
          rintro e w13 ⟨d5, A13, c13, rfl, hb13, hrd13, hso, hmem⟩
          have Hd5 := Lib.hid (isD_of (by decide) (by decide) Hsa.out Hsc.out (by simp; omega) (by simp; omega) hso hmem)
          have Hl5 : Hid (d5.length * 72 ≤ 140737488355328) := Lib.hid (by have := diff_len Hokc.out hso hmem; omega)
          have Hb13 := Lib.hid (Hb12.out.trans (hb13.mono Hb12.out.size))
          have Hrd13 := Lib.hid hrd13
          have Hrd12 := Lib.hid ((Hrd12.out.below hb13).more hb13.size)
          have Hrz := Lib.hid ((Hrz.out.below hb13).more hb13.size)
          clear hb13 hrd13 hso hmem
          go_wp2_with fail
          refine (apply_any _ A13 zs d5 _ c13 w13 Hrz.out Hrd13.out (by have := Hzl.out; omega) Hl5.out).mono ?_
          rintro e w14 ⟨A14, c14, rfl, hb14, hrd14⟩
          have Hb14 := Lib.hid (Hb13.out.trans (hb14.mono Hb13.out.size))
          have Hrd14 := Lib.hid hrd14
          have Hrd12 := Lib.hid ((Hrd12.out.below hb14).more hb14.size)
          clear hb14 hrd14
          have hsh1 := applyF_short (applyF zs d1).1 d4
          have htu : (applyF zs d1).2 = 0 → (applyF (applyF zs d1).1 d4).2 = 0 → (applyF zs d5).2 = 0 → (applyF (applyF zs d1).1 d4).1 = (applyF zs d5).1 := fun e1 e2 e3 => turns_apply Hz0.out Hd1.out Hd4.out Hd5.out e1 e2 e3
          have Htu := Lib.hid htu
          have Hsh1 := Lib.hid hsh1
          clear htu hsh1
          generalize applyF (applyF zs d1).1 d4 = r2 at Htu Hsh1 Hrd12 ⊢
          generalize applyF zs d1 = r1 at Htu ⊢
          generalize applyF zs d5 = r3 at Htu Hrd14 ⊢
          obtain ⟨x1, n1⟩ := r1
          obtain ⟨x2, n2⟩ := r2
          obtain ⟨x3, n3⟩ := r3
          simp only at Htu Hsh1 Hrd12 Hrd14 ⊢
          by_cases h4 : n1 = 0
          · subst h4
            by_cases h5 : n2 = 0
            · subst h5
              by_cases h6 : n3 = 0
              · subst h6
                obtain rfl : x2 = x3 := Htu.out rfl rfl rfl
                go_wp2_with fail
                refine (sameInts_any A12 A14 x2 x2 c12 c14 w14 Hrd12.out Hrd14.out (by have := Hsh1.out; omega)).mono ?_
                rintro e w15 ⟨rfl, hb15⟩
                rw [decide_eq_true (rfl : x2 = x2)]
                have Hb15 := Lib.hid (Hb14.out.trans (hb15.mono Hb14.out.size))
                clear hb15
                go_wp2
                go_ret
                exact ⟨rfl, Hb15.out⟩
              · have e1 : (n3 != 0) = true := by simpa using h6
                clear h6
                go_wp2
                go_ret
                exact ⟨rfl, Hb14.out⟩
            · have e1 : (n2 != 0) = true := by simpa using h5
              clear h5
              go_wp2
              go_ret
              exact ⟨rfl, Hb14.out⟩
          · have e1 : (n1 != 0) = true := by simpa using h4
            clear h4
            go_wp2
            go_ret
            exact ⟨rfl, Hb14.out⟩

end Go.Proofs.Ytoiipfcmkogcfaa
