/-
  The law LedgerZero returns true for whatever lines are read.
  Conditions: as each theorem states them.
-/
import Derived.Test.YtcdfjnnkocmeeaaGreatDoorSn
import Derived.Test.YtcdfjnnkocmeeaaGreatDoorPm
import Derived.Test.YtcdfjnnkocmeeaaGreatDoorWa
namespace Go.Proofs.YtcdfjnnkocmeeaaGreatDoor
open Go.RowKit Go.Lib

theorem drop_rev {l : List Ln} {j : Nat} {x : Ln} (h : l[j]? = some x) : (l.drop j).reverse = (l.drop (j + 1)).reverse ++ [x] := by
  obtain ⟨hj, e⟩ := List.getElem?_eq_some_iff.1 h
  rw [List.drop_eq_getElem_cons hj, e, List.reverse_cons]

theorem own_empty (w : World) (base : Nat) (t : TypeId) (size : Nat) (h : base ≤ w.heap.size) : (w.alloc (.cells #[] t)).ownsRow base t size (.slice (some ⟨w.heap.size, 0, none⟩) 0 0) 0 [] :=
  ⟨by simp, .inr ⟨_, 0, #[], rfl, h, Row.new _ _ _, Nat.le_refl _, by simp [maxLen], by simp, by simp⟩⟩

set_option maxRecDepth 100000 in
set_option maxHeartbeats 4000000 in
theorem zero_any (l : List Ln) (A : Option Addr) (c : Nat) (w : World) (hk : KT w) (hc : CB w) (hl : RdE Ln.cells 44 w w.heap.size A l) (hok : ∀ x ∈ l, x.ok) :
    Calls Tryz.prog 6 #[.slice A l.length c] w fun e w' => e = .returned (.bool true) ∧ Below w.heap.size w w' := by
  have Hl := Lib.hid hl
  have Hok := Lib.hid hok
  have Hk := Lib.hid hk
  have Hc := Lib.hid hc
  clear hl hok hk hc
  go_enter Tryz.func6, Tryz.ntmps6
  go_wp2_with fail
  refine (sane_any w Hk.out Hc.out).mono ?_
  rintro e w1 ⟨rfl, hb1⟩
  have Hb1 := Lib.hid hb1
  clear hb1
  by_cases h1 : 200 < l.length
  · go_wp2
    go_ret
    exact ⟨rfl, Hb1.out⟩
  have i1 : (l.length : Int) ≤ 200 := by omega
  go_wp2_with fail
  obtain ⟨ob, hob⟩ : ∃ ob, ob = w1.heap.size := ⟨_, rfl⟩
  have hwob : w.heap.size ≤ ob := by rw [hob]; exact Hb1.out.size
  have hobr : ob ≤ w1.heap.size := by omega
  clear hob
  go_loopw [3, 4] (fun o i wx => ∃ j : Nat, j ≤ l.length ∧ i = .int .i64 ((j : Int) - 1) ∧ wx.ownsRow ob 44 44 o (l.length - j) (flat Ln.cells (l.drop j).reverse) ∧ Below w.heap.size w wx ∧ ob ≤ wx.heap.size)
    (fun _ i _ => (intOf i + 1).toNat)
  case atStart => exact ⟨l.length, Nat.le_refl _, rfl, by simpa [flat] using own_empty w1 ob 44 44 hobr, Hb1.out.alloc Hb1.out.size _, by simp; omega⟩
  case round =>
    obtain ⟨j, hj, rfl, hown, hbel, hobx⟩ := hrel
    by_cases hlt : 0 < j
    · obtain ⟨m, rfl⟩ : ∃ m, j = m + 1 := ⟨j - 1, by omega⟩
      rw [show (((m + 1 : Nat) : Int) - 1) = (m : Int) from by omega]
      obtain ⟨x, hx⟩ : ∃ x, l[m]? = some x := ⟨_, List.getElem?_eq_getElem (by omega)⟩
      obtain ⟨b, off, rfl, hbw, c0⟩ := Hl.out m x hx
      have hxo := Hok.out x (List.mem_of_getElem? hx)
      have hs : (Tryz.prog.info? 44).map (·.size) = some x.cells.length := by rw [Tryz.size44, Ln.len44 hxo]
      have hlen : (44 : Nat) = x.cells.length := (Ln.len44 hxo).symm
      have hrg : wr.rangeAt b (off + m * 44) x.cells := fun j v hv => (hbel.cell (p := ⟨b, _, none⟩) hbw).trans (c0 j v hv)
      have i0 : (0 : Int) ≤ (m : Int) := by omega
      have i4 : (m : Int) < (l.length : Int) := by omega
      have hone := one44 hxo
      have Hx := Lib.hid hx
      obtain ⟨ii, z0, hi, hz, hsz, hby, hzs⟩ := info44
      have Hi := Lib.hid hi
      have Hz := Lib.hid hz
      have Hsz := Lib.hid hsz
      have Hby := Lib.hid hby
      have Hzs := Lib.hid hzs
      have hown2 : (wr.alloc (.cells x.cells.toArray 44)).ownsRow ob 44 44 u3 (l.length - (m + 1)) (flat Ln.cells (l.drop (m + 1)).reverse) := hown.alloc _
      have hnews : ∀ (jj : Nat) (u : Value), x.cells[jj]? = some u → (wr.alloc (.cells x.cells.toArray 44)).cell? ((⟨wr.heap.size, 0, none⟩ : Addr).add jj) = some u := World.news_of_block (heap_alloc_new wr _)
      have Hown2 := Lib.hid hown2
      have Hnews := Lib.hid hnews
      have Hown0 := Lib.hid hown.lt
      have Hbel := Lib.hid hbel
      have Hone := Lib.hid hone
      have Hrg := Lib.hid hrg
      have Hs := Lib.hid hs
      have Hlen := Lib.hid hlen
      have hl63 : l.length - (m + 1) + 1 ≤ maxLen := by simp only [maxLen]; omega
      have hl47 : (l.length - (m + 1) + 1) * 128 ≤ 140737488355328 := by omega
      have hobA : ob ≤ (wr.alloc (.cells x.cells.toArray 44)).heap.size := by simp; omega
      have Hl63 := Lib.hid hl63
      have Hl47 := Lib.hid hl47
      have HobA := Lib.hid hobA
      clear hx c0 hxo hs hlen hrg hone hi hz hsz hby hzs hown hown2 hnews hbel hl63 hl47 hobA
      go_wp2_with (first
        | (show wpList _ _ _ (⟨some 28, Op.load 44 _, _, _, _, _⟩ :: _) _ _; refine wpList_load_mid rfl 44 _ rfl _ _ rfl _ _ Hrg.out Tryz.underlying44 rfl Hs.out ?_)
        | (show wpList _ _ _ (⟨some 29, Op.buildSlice 22 1 _, _, _, _, _⟩ :: _) _ _; refine wpList_buildSlice_agg rfl 22 44 _ rfl x.cells rfl ii z0 Tryz.underlying22 Hi.out Hz.out (Hsz.out.trans Hlen.out) (by rw [← Hlen.out]; decide) (by rw [← Hlen.out]; decide) ?_)
        | (at_builtin; refine wpList_append_own _ rfl _ _ 22 rfl ob 44 ii z0 44 128 Tryz.underlying22 Hi.out Hz.out Hsz.out Hby.out Hzs.out (by decide) _ _ _ rfl Hown2.out ⟨wr.heap.size, 0, none⟩ 1 1 x.cells rfl (by rw [← Hlen.out]) Hnews.out Hone.out Hl63.out Hl47.out HobA.out ?_; intro v' w6 hown6 hgrow6 hiff6))
      go_roundw
      case rel =>
        refine ⟨m, by omega, by go_num, ?_, ((Hbel.out.alloc (Nat.le_trans hwob hobx) _).grown hgrow6 (by simp; omega) (fun k' hk' => Nat.le_trans hwob (Hown0.out k' hk').1)), ?_⟩
        · rw [drop_rev Hx.out, flat_append]
          have e : l.length - m = l.length - (m + 1) + 1 := by omega
          rw [e]
          simpa [flat] using hown6
        · have := hgrow6.size
          simp at this
          omega
      case measure => simp [intOf]
    · obtain rfl : j = 0 := by omega
      rw [Nat.sub_zero, List.drop_zero] at hown
      have hokr : ∀ x ∈ l.reverse, x.ok := fun x hx => Hok.out x (List.mem_reverse.1 hx)
      rw [show l.length = l.reverse.length from (List.length_reverse).symm] at hown
      obtain ⟨A2, c2, rfl, hr2⟩ := rde_own hown hokr
      have Hokr := Lib.hid hokr
      have Hr2 := Lib.hid hr2
      have Hbel := Lib.hid hbel
      have j0 : (((0 : Nat) : Int) - 1) = -1 := rfl
      rw [j0]
      clear hown hr2 hbel hokr j0
      go_wp2_with fail
      have hcall := balances_any l A c wr ((Hl.out.below Hbel.out).more Hbel.out.size) Hok.out (by omega)
      refine hcall.mono ?_
      clear hcall
      rintro e w3 ⟨A3, c3, rfl, hb3, hr3⟩
      have Hb3 := Lib.hid (below_onF Hbel.out hb3 Hbel.out.size)
      have Hr2 := Lib.hid ((Hr2.out.below hb3).more hb3.size)
      have Hr3 := Lib.hid hr3
      clear hb3 hr3
      go_wp2_with fail
      have hcall := balances_any l.reverse A2 c2 w3 Hr2.out Hokr.out (by rw [List.length_reverse]; omega)
      rw [List.length_reverse] at hcall
      refine hcall.mono ?_
      clear hcall
      rintro e w4 ⟨A4, c4, rfl, hb4, hr4⟩
      have Hb4 := Lib.hid (below_onF Hb3.out hb4 Hb3.out.size)
      have Hr3 := Lib.hid ((Hr3.out.below hb4).more hb4.size)
      rw [List.map_reverse] at hr4 ⊢
      have Hr4 := Lib.hid hr4
      clear hb4 hr4
      by_cases h0 : (balF (l.map Ln.d)).2 = 0
      · have h0r : (balF (l.map Ln.d).reverse).2 = 0 := balF_reverse.2 h0
        have Hsum := Lib.hid (balF_sumOk h0)
        have Hs0 := Lib.hid (balF_sum h0)
        have Hbl := Lib.hid (balF_len h0)
        rw [h0, h0r, balF_rev1 h0, balF_len h0]
        rw [balF_rev1 h0] at Hr4
        clear h0 h0r
        generalize (balF (l.map Ln.d)).1 = bl at Hr3 Hr4 Hsum Hs0 Hbl
        go_wp2_with fail
        have hcall := moneySum_any A3 bl c3 w4 Hr3.out (by rw [Hbl.out]; decide)
        rw [Hbl.out, okPair_yes Hsum.out, Hs0.out] at hcall
        refine hcall.mono ?_
        clear hcall
        rintro e w5 ⟨rfl, hb5⟩
        have Hb5 := Lib.hid (below_onF Hb4.out hb5 Hb4.out.size)
        have Hr3 := Lib.hid ((Hr3.out.below hb5).more hb5.size)
        have Hr4 := Lib.hid ((Hr4.out.below hb5).more hb5.size)
        clear hb5
        go_wp2_with fail
        have hcall := sameInts_any A3 A4 bl bl c3 c4 w5 Hr3.out Hr4.out (by rw [Hbl.out]; decide)
        rw [Hbl.out, decide_eq_true (rfl : bl = bl)] at hcall
        refine hcall.mono ?_
        clear hcall
        rintro e w6 ⟨rfl, hb6⟩
        have Hb6 := Lib.hid (below_onF Hb5.out hb6 Hb5.out.size)
        clear hb6
        go_wp2
        go_ret
        exact ⟨rfl, Hb6.out⟩
      · have h0r : (balF (l.map Ln.d).reverse).2 ≠ 0 := fun e => h0 (balF_reverse.1 e)
        rw [balF_bad h0, balF_bad h0r]
        rw [show ([] : List Int).length = 0 from rfl]
        generalize (balF (l.map Ln.d)).2 = n1 at h0 ⊢
        generalize (balF (l.map Ln.d).reverse).2 = n2 at h0r ⊢
        have e1 : (n1 != 0) = true := by simpa using h0
        have e2 : (n2 != 0) = true := by simpa using h0r
        clear h0 h0r
        go_wp2
        go_ret
        exact ⟨rfl, Hb4.out⟩
end Go.Proofs.YtcdfjnnkocmeeaaGreatDoor
