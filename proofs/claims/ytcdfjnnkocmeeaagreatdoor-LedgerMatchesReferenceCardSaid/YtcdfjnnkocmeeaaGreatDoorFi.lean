/-
  ledger.filter with its two closures.
  Conditions: as each theorem states them.
-/
import Derived.Test.YtcdfjnnkocmeeaaGreatDoorLu
namespace Go.Proofs.YtcdfjnnkocmeeaaGreatDoor
open Go.RowKit Go.Lib

theorem Below.grownNone {w w' : World} (h : Below w.heap.size w w') : w.grownBy w' none := ⟨h.os, h.tape, h.output, h.size, fun k hk _ => h.block k hk⟩
theorem row_range44 {w : World} {g : Nat} {t : TypeId} {cs : List Value} (h : Row w g t cs.toArray) : w.rangeAt g 0 cs := by
  intro j v hv
  rw [Nat.zero_add, h.cell, List.getElem?_toArray]
  exact hv
theorem below_onF {B : Nat} {w w1 w2 : World} (h : Below B w w1) (h2 : Below w1.heap.size w1 w2) (hB : B ≤ w1.heap.size) : Below B w w2 := h.trans (h2.mono hB)

set_option maxRecDepth 100000 in
set_option maxHeartbeats 2000000 in
theorem filter30_any (l : List Ln) (A : Option Addr) (c : Nat) (m : Int) (mb : Nat) (w : World) (hl : RdE Ln.cells 44 w w.heap.size A l) (hok : ∀ x ∈ l, x.ok) (hn : l.length ≤ 400) (hm : w.cell? ⟨mb, 0, none⟩ = some (.int .i64 m)) (hmb : mb < w.heap.size) :
    Calls Tryz.prog 29 #[.slice A l.length c, .func (.func 30) #[] #[.pointer (some ⟨mb, 0, none⟩)]] w (FilRes w (l.filter (monP m))) := by
  have Hl := Lib.hid hl
  have Hok := Lib.hid hok
  have HM := Lib.hid hm
  have HMB := Lib.hid hmb
  clear hl hok hm hmb
  go_enter Tryz.func29, Tryz.ntmps29
  go_wp2_with fail
  go_loopw [4, 9] (fun o i wr => ∃ k : Nat, k ≤ l.length ∧ i = .int .i64 k ∧ wr.ownsRow w.heap.size 44 44 o ((l.take k).filter (monP m)).length (flat Ln.cells ((l.take k).filter (monP m))) ∧ Below w.heap.size w wr)
    (fun _ i _ => l.length - (intOf i).toNat)
  case atStart => exact ⟨0, Nat.zero_le _, rfl, by simpa [flat] using World.ownsRow_nil _ _ _ _, Below.refl _ _⟩
  case round =>
    obtain ⟨k, hk, rfl, hown, hbel⟩ := hrel
    by_cases hlt : k < l.length
    · obtain ⟨x, hx⟩ : ∃ x, l[k]? = some x := ⟨_, List.getElem?_eq_getElem hlt⟩
      obtain ⟨b, off, rfl, hbw, c0⟩ := Hl.out k x hx
      have hxo := Hok.out x (List.mem_of_getElem? hx)
      have hs : (Tryz.prog.info? 44).map (·.size) = some x.cells.length := by rw [Tryz.size44, Ln.len44 hxo]
      have hrg : wr.rangeAt b (off + k * 44) x.cells := fun j v hv => (hbel.cell (p := ⟨b, _, none⟩) hbw).trans (c0 j v hv)
      have i0 : (0 : Int) ≤ (k : Int) := by omega
      have i1 : (k : Int) < (l.length : Int) := by omega
      obtain ⟨F, hF⟩ : ∃ F, F = (l.take k).filter (monP m) := ⟨_, rfl⟩
      have hFl : F.length ≤ 400 := by rw [hF]; have := filter_len (p := monP m) (l := l) (k := k); omega
      have hF1 : (l.take (k + 1)).filter (monP m) = F ++ (if (monP m) x = true then [x] else []) := by rw [hF]; exact filter_take hx
      rw [← hF] at hown
      have HF1 := Lib.hid hF1
      have Hxo := Lib.hid hxo
      have Hs := Lib.hid hs
      have Hrg := Lib.hid hrg
      have Hone := Lib.hid (one44 hxo)
      have Hown := Lib.hid hown
      have Hbel := Lib.hid hbel
      have Hlen := Lib.hid (Ln.len44 hxo)
      clear hx hxo hs hrg hown hbel c0 hF hF1
      go_upto_region 4 with (first
        | (show wpList _ _ _ (⟨some 12, Op.load 44 _, _, _, _, _⟩ :: _) _ _; refine wpList_load_mid rfl 44 _ rfl _ _ rfl _ _ Hrg.out Tryz.underlying44 rfl Hs.out ?_)
        | (show wpList _ _ _ (⟨none, Op.store 44 _ _, _, _, _, _⟩ :: _) _ _; refine wpList_store_fresh rfl 44 _ _ rfl x.cells rfl rfl (by simp [Hlen.out]) Hs.out Hone.out ?_))
      have hmw : (wr.alloc (.cells x.cells.toArray 44)).cell? ⟨mb, 0, none⟩ = some (.int .i64 m) := ((Hbel.out.alloc Hbel.out.size _).cell (p := ⟨mb, 0, none⟩) HMB.out).trans HM.out
      have hr : Row (wr.alloc (.cells x.cells.toArray 44)) wr.heap.size 44 x.cells.toArray := Row.new _ _ _
      have hown2 : (wr.alloc (.cells x.cells.toArray 44)).ownsRow w.heap.size 44 44 u4 F.length (flat Ln.cells F) := Hown.out.alloc _
      obtain ⟨lb, hlb⟩ : ∃ lb, lb = wr.heap.size := ⟨_, rfl⟩
      have hlb0 : w.heap.size ≤ lb := by rw [hlb]; exact Hbel.out.size
      have hne : ∀ k', u4.ownBlock = some k' → k' ≠ lb := fun k' hk' => by have := (Hown.out.lt k' hk').2; omega
      rw [← hlb] at hr ⊢
      refine (?_ : ∀ W : World, W.cell? ⟨mb, 0, none⟩ = some (.int .i64 m) ∧ mb < W.heap.size ∧ Row W lb 44 x.cells.toArray ∧ W.ownsRow w.heap.size 44 44 u4 F.length (flat Ln.cells F) ∧ Below w.heap.size w W → Code.wp _ _ _ _ W) _ ⟨hmw, Nat.lt_of_lt_of_le HMB.out (Hbel.out.alloc Hbel.out.size _).size, hr, hown2, Hbel.out.alloc Hbel.out.size _⟩
      clear hmw hr hown2 Hbel Hown Hrg hlb
      rintro W ⟨hmw, hmbw, hr, hown, hbel⟩
      have Hrg := Lib.hid (row_range44 hr)
      have Hown := Lib.hid hown
      have Hbel := Lib.hid hbel
      have Hr := Lib.hid hr
      have HMW := Lib.hid hmw
      have HMBW := Lib.hid hmbw
      clear hr hown hbel hmw hmbw
      go_wp2_with (show wpList _ _ _ (⟨some 14, Op.load 44 _, _, _, _, _⟩ :: _) _ _; refine wpList_load_mid rfl 44 _ rfl _ _ rfl _ _ Hrg.out Tryz.underlying44 rfl Hs.out ?_)
      refine (clo30_any x m mb W HMW.out HMBW.out).mono ?_
      rintro e w2 ⟨rfl, hb2⟩
      have hbel2 : Below w.heap.size w w2 := below_onF Hbel.out hb2 (Hbel.out.size)
      have hr2 : Row w2 lb 44 x.cells.toArray := Hr.out.below hb2 Hr.out.lt
      have hown2 : w2.ownsRow w.heap.size 44 44 u4 F.length (flat Ln.cells F) := Hown.out.kept (row := none) (Below.grownNone hb2) (by cases h : u4.ownBlock with | none => exact Or.inl rfl | some _ => exact Or.inr (by simp))
      have Hrg := Lib.hid (row_range44 hr2)
      have Hown2 := Lib.hid hown2
      have Hbel2 := Lib.hid hbel2
      clear hb2 hbel2 hown2 hr2 Hbel Hown Hr
      by_cases hp : (monP m) x = true
      · rw [hp]
        rw [if_pos hp] at HF1
        obtain ⟨ii, z0, hi, hz, hsz, hby, hzs⟩ := info44
        have Hi := Lib.hid hi
        have Hz := Lib.hid hz
        have Hsz := Lib.hid hsz
        have Hby := Lib.hid hby
        have Hzs := Lib.hid hzs
        have Hown3 := Lib.hid (Hown2.out.alloc (.cells x.cells.toArray 44))
        have hnews : ∀ (jj : Nat) (u : Value), x.cells[jj]? = some u → (w2.alloc (.cells x.cells.toArray 44)).cell? ((⟨w2.heap.size, 0, none⟩ : Addr).add jj) = some u := World.news_of_block (heap_alloc_new w2 _)
        have Hnews := Lib.hid hnews
        have hl63 : F.length + 1 ≤ maxLen := by simp only [maxLen]; omega
        have hl47 : (F.length + 1) * 128 ≤ 140737488355328 := by omega
        have hobA : w.heap.size ≤ (w2.alloc (.cells x.cells.toArray 44)).heap.size := (Hbel2.out.alloc Hbel2.out.size _).size
        have Hl63 := Lib.hid hl63
        have Hl47 := Lib.hid hl47
        have HobA := Lib.hid hobA
        clear hi hz hsz hby hzs hnews hl63 hl47 hobA hp
        go_wp2_with (first
          | (show wpList _ _ _ (⟨some 17, Op.load 44 _, _, _, _, _⟩ :: _) _ _; refine wpList_load_mid rfl 44 _ rfl _ _ rfl _ _ Hrg.out Tryz.underlying44 rfl Hs.out ?_)
          | (show wpList _ _ _ (⟨some 18, Op.buildSlice 22 1 _, _, _, _, _⟩ :: _) _ _; refine wpList_buildSlice_agg rfl 22 44 _ rfl x.cells rfl ii z0 Tryz.underlying22 Hi.out Hz.out (Hsz.out.trans Hlen.out.symm) (by rw [Hlen.out]; decide) (by rw [Hlen.out]; decide) ?_)
          | (at_builtin; refine wpList_append_own _ rfl _ _ 22 rfl w.heap.size 44 ii z0 44 128 Tryz.underlying22 Hi.out Hz.out Hsz.out Hby.out Hzs.out (by decide) _ _ _ rfl Hown3.out ⟨w2.heap.size, 0, none⟩ 1 1 x.cells rfl (by rw [Hlen.out]) Hnews.out Hone.out Hl63.out Hl47.out HobA.out ?_; intro v' w6 hown6 hgrow6 hiff6))
        go_roundw
        case rel =>
          refine ⟨k + 1, by omega, by go_num, ?_, (Hbel2.out.alloc Hbel2.out.size _).grown hgrow6 HobA.out (fun k' hk' => (Hown3.out.lt k' hk').1)⟩
          rw [HF1.out, flat_append, List.length_append]
          simpa [flat] using hown6
        case measure => simp [intOf]; omega
      · have hp' : (monP m) x = false := by simpa using hp
        rw [hp']
        rw [if_neg hp] at HF1
        go_wp2_with fail
        go_roundw
        case rel => exact ⟨k + 1, by omega, by go_num, by rw [HF1.out, List.append_nil]; exact Hown2.out, Hbel2.out⟩
        case measure => simp [intOf]; omega
    · obtain rfl : k = l.length := by omega
      rw [List.take_length] at hown
      go_wp2_with fail
      go_ret
      exact ⟨_, rfl, hown, hbel, hbel.size⟩

set_option maxRecDepth 100000 in
set_option maxHeartbeats 2000000 in
theorem filter32_any (l : List Ln) (A : Option Addr) (c : Nat) (a m : Int) (mb ab : Nat) (w : World) (hl : RdE Ln.cells 44 w w.heap.size A l) (hok : ∀ x ∈ l, x.ok) (hn : l.length ≤ 400) (hm : w.cell? ⟨mb, 0, none⟩ = some (.int .i64 m)) (hmb : mb < w.heap.size) (ha : w.cell? ⟨ab, 0, none⟩ = some (.int .i64 a)) (hab : ab < w.heap.size) :
    Calls Tryz.prog 29 #[.slice A l.length c, .func (.func 32) #[] #[.pointer (some ⟨mb, 0, none⟩), .pointer (some ⟨ab, 0, none⟩)]] w (FilRes w (l.filter (billP a m))) := by
  have Hl := Lib.hid hl
  have Hok := Lib.hid hok
  have HM := Lib.hid hm
  have HMB := Lib.hid hmb
  have HA := Lib.hid ha
  have HAB := Lib.hid hab
  clear hl hok hm hmb ha hab
  go_enter Tryz.func29, Tryz.ntmps29
  go_wp2_with fail
  go_loopw [4, 9] (fun o i wr => ∃ k : Nat, k ≤ l.length ∧ i = .int .i64 k ∧ wr.ownsRow w.heap.size 44 44 o ((l.take k).filter (billP a m)).length (flat Ln.cells ((l.take k).filter (billP a m))) ∧ Below w.heap.size w wr)
    (fun _ i _ => l.length - (intOf i).toNat)
  case atStart => exact ⟨0, Nat.zero_le _, rfl, by simpa [flat] using World.ownsRow_nil _ _ _ _, Below.refl _ _⟩
  case round =>
    obtain ⟨k, hk, rfl, hown, hbel⟩ := hrel
    by_cases hlt : k < l.length
    · obtain ⟨x, hx⟩ : ∃ x, l[k]? = some x := ⟨_, List.getElem?_eq_getElem hlt⟩
      obtain ⟨b, off, rfl, hbw, c0⟩ := Hl.out k x hx
      have hxo := Hok.out x (List.mem_of_getElem? hx)
      have hs : (Tryz.prog.info? 44).map (·.size) = some x.cells.length := by rw [Tryz.size44, Ln.len44 hxo]
      have hrg : wr.rangeAt b (off + k * 44) x.cells := fun j v hv => (hbel.cell (p := ⟨b, _, none⟩) hbw).trans (c0 j v hv)
      have i0 : (0 : Int) ≤ (k : Int) := by omega
      have i1 : (k : Int) < (l.length : Int) := by omega
      obtain ⟨F, hF⟩ : ∃ F, F = (l.take k).filter (billP a m) := ⟨_, rfl⟩
      have hFl : F.length ≤ 400 := by rw [hF]; have := filter_len (p := billP a m) (l := l) (k := k); omega
      have hF1 : (l.take (k + 1)).filter (billP a m) = F ++ (if (billP a m) x = true then [x] else []) := by rw [hF]; exact filter_take hx
      rw [← hF] at hown
      have HF1 := Lib.hid hF1
      have Hxo := Lib.hid hxo
      have Hs := Lib.hid hs
      have Hrg := Lib.hid hrg
      have Hone := Lib.hid (one44 hxo)
      have Hown := Lib.hid hown
      have Hbel := Lib.hid hbel
      have Hlen := Lib.hid (Ln.len44 hxo)
      clear hx hxo hs hrg hown hbel c0 hF hF1
      go_upto_region 4 with (first
        | (show wpList _ _ _ (⟨some 12, Op.load 44 _, _, _, _, _⟩ :: _) _ _; refine wpList_load_mid rfl 44 _ rfl _ _ rfl _ _ Hrg.out Tryz.underlying44 rfl Hs.out ?_)
        | (show wpList _ _ _ (⟨none, Op.store 44 _ _, _, _, _, _⟩ :: _) _ _; refine wpList_store_fresh rfl 44 _ _ rfl x.cells rfl rfl (by simp [Hlen.out]) Hs.out Hone.out ?_))
      have hmw : (wr.alloc (.cells x.cells.toArray 44)).cell? ⟨mb, 0, none⟩ = some (.int .i64 m) := ((Hbel.out.alloc Hbel.out.size _).cell (p := ⟨mb, 0, none⟩) HMB.out).trans HM.out
      have haw : (wr.alloc (.cells x.cells.toArray 44)).cell? ⟨ab, 0, none⟩ = some (.int .i64 a) := ((Hbel.out.alloc Hbel.out.size _).cell (p := ⟨ab, 0, none⟩) HAB.out).trans HA.out
      have hr : Row (wr.alloc (.cells x.cells.toArray 44)) wr.heap.size 44 x.cells.toArray := Row.new _ _ _
      have hown2 : (wr.alloc (.cells x.cells.toArray 44)).ownsRow w.heap.size 44 44 u4 F.length (flat Ln.cells F) := Hown.out.alloc _
      obtain ⟨lb, hlb⟩ : ∃ lb, lb = wr.heap.size := ⟨_, rfl⟩
      have hlb0 : w.heap.size ≤ lb := by rw [hlb]; exact Hbel.out.size
      have hne : ∀ k', u4.ownBlock = some k' → k' ≠ lb := fun k' hk' => by have := (Hown.out.lt k' hk').2; omega
      rw [← hlb] at hr ⊢
      refine (?_ : ∀ W : World, W.cell? ⟨mb, 0, none⟩ = some (.int .i64 m) ∧ mb < W.heap.size ∧ W.cell? ⟨ab, 0, none⟩ = some (.int .i64 a) ∧ ab < W.heap.size ∧ Row W lb 44 x.cells.toArray ∧ W.ownsRow w.heap.size 44 44 u4 F.length (flat Ln.cells F) ∧ Below w.heap.size w W → Code.wp _ _ _ _ W) _ ⟨hmw, Nat.lt_of_lt_of_le HMB.out (Hbel.out.alloc Hbel.out.size _).size, haw, Nat.lt_of_lt_of_le HAB.out (Hbel.out.alloc Hbel.out.size _).size, hr, hown2, Hbel.out.alloc Hbel.out.size _⟩
      clear hmw haw hr hown2 Hbel Hown Hrg hlb
      rintro W ⟨hmw, hmbw, haw, habw, hr, hown, hbel⟩
      have Hrg := Lib.hid (row_range44 hr)
      have Hown := Lib.hid hown
      have Hbel := Lib.hid hbel
      have Hr := Lib.hid hr
      have HMW := Lib.hid hmw
      have HMBW := Lib.hid hmbw
      have HAW := Lib.hid haw
      have HABW := Lib.hid habw
      clear hr hown hbel hmw hmbw haw habw
      go_wp2_with (show wpList _ _ _ (⟨some 14, Op.load 44 _, _, _, _, _⟩ :: _) _ _; refine wpList_load_mid rfl 44 _ rfl _ _ rfl _ _ Hrg.out Tryz.underlying44 rfl Hs.out ?_)
      refine (clo32_any x a m mb ab W HMW.out HMBW.out HAW.out HABW.out).mono ?_
      rintro e w2 ⟨rfl, hb2⟩
      have hbel2 : Below w.heap.size w w2 := below_onF Hbel.out hb2 (Hbel.out.size)
      have hr2 : Row w2 lb 44 x.cells.toArray := Hr.out.below hb2 Hr.out.lt
      have hown2 : w2.ownsRow w.heap.size 44 44 u4 F.length (flat Ln.cells F) := Hown.out.kept (row := none) (Below.grownNone hb2) (by cases h : u4.ownBlock with | none => exact Or.inl rfl | some _ => exact Or.inr (by simp))
      have Hrg := Lib.hid (row_range44 hr2)
      have Hown2 := Lib.hid hown2
      have Hbel2 := Lib.hid hbel2
      clear hb2 hbel2 hown2 hr2 Hbel Hown Hr
      by_cases hp : (billP a m) x = true
      · rw [hp]
        rw [if_pos hp] at HF1
        obtain ⟨ii, z0, hi, hz, hsz, hby, hzs⟩ := info44
        have Hi := Lib.hid hi
        have Hz := Lib.hid hz
        have Hsz := Lib.hid hsz
        have Hby := Lib.hid hby
        have Hzs := Lib.hid hzs
        have Hown3 := Lib.hid (Hown2.out.alloc (.cells x.cells.toArray 44))
        have hnews : ∀ (jj : Nat) (u : Value), x.cells[jj]? = some u → (w2.alloc (.cells x.cells.toArray 44)).cell? ((⟨w2.heap.size, 0, none⟩ : Addr).add jj) = some u := World.news_of_block (heap_alloc_new w2 _)
        have Hnews := Lib.hid hnews
        have hl63 : F.length + 1 ≤ maxLen := by simp only [maxLen]; omega
        have hl47 : (F.length + 1) * 128 ≤ 140737488355328 := by omega
        have hobA : w.heap.size ≤ (w2.alloc (.cells x.cells.toArray 44)).heap.size := (Hbel2.out.alloc Hbel2.out.size _).size
        have Hl63 := Lib.hid hl63
        have Hl47 := Lib.hid hl47
        have HobA := Lib.hid hobA
        clear hi hz hsz hby hzs hnews hl63 hl47 hobA hp
        go_wp2_with (first
          | (show wpList _ _ _ (⟨some 17, Op.load 44 _, _, _, _, _⟩ :: _) _ _; refine wpList_load_mid rfl 44 _ rfl _ _ rfl _ _ Hrg.out Tryz.underlying44 rfl Hs.out ?_)
          | (show wpList _ _ _ (⟨some 18, Op.buildSlice 22 1 _, _, _, _, _⟩ :: _) _ _; refine wpList_buildSlice_agg rfl 22 44 _ rfl x.cells rfl ii z0 Tryz.underlying22 Hi.out Hz.out (Hsz.out.trans Hlen.out.symm) (by rw [Hlen.out]; decide) (by rw [Hlen.out]; decide) ?_)
          | (at_builtin; refine wpList_append_own _ rfl _ _ 22 rfl w.heap.size 44 ii z0 44 128 Tryz.underlying22 Hi.out Hz.out Hsz.out Hby.out Hzs.out (by decide) _ _ _ rfl Hown3.out ⟨w2.heap.size, 0, none⟩ 1 1 x.cells rfl (by rw [Hlen.out]) Hnews.out Hone.out Hl63.out Hl47.out HobA.out ?_; intro v' w6 hown6 hgrow6 hiff6))
        go_roundw
        case rel =>
          refine ⟨k + 1, by omega, by go_num, ?_, (Hbel2.out.alloc Hbel2.out.size _).grown hgrow6 HobA.out (fun k' hk' => (Hown3.out.lt k' hk').1)⟩
          rw [HF1.out, flat_append, List.length_append]
          simpa [flat] using hown6
        case measure => simp [intOf]; omega
      · have hp' : (billP a m) x = false := by simpa using hp
        rw [hp']
        rw [if_neg hp] at HF1
        go_wp2_with fail
        go_roundw
        case rel => exact ⟨k + 1, by omega, by go_num, by rw [HF1.out, List.append_nil]; exact Hown2.out, Hbel2.out⟩
        case measure => simp [intOf]; omega
    · obtain rfl : k = l.length := by omega
      rw [List.take_length] at hown
      go_wp2_with fail
      go_ret
      exact ⟨_, rfl, hown, hbel, hbel.size⟩

end Go.Proofs.YtcdfjnnkocmeeaaGreatDoor
