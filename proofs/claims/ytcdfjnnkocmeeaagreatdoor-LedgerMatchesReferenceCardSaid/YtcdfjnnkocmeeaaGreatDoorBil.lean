/-
  The law LedgerBills returns true for whatever lines are read.
  Conditions: as each theorem states them.
-/
import Derived.Test.YtcdfjnnkocmeeaaGreatDoorAp
import Derived.Deep.RegionHeld3
import Derived.Deep.QuietTactic
namespace Go.Proofs.YtcdfjnnkocmeeaaGreatDoor
open Go.RowKit Go.Lib

theorem partsOf_take {a : Int} {l : List Ln} {p : Ln → Bool} {k : Nat} {x : Ln} (hx : l[k]? = some x) : partsOf a ((l.take (k + 1)).filter p) = partsOf a ((l.take k).filter p) ++ (if p x = true then partOf a x.d else []) := by
  rw [filter_take hx, partsOf_append]
  split
  · simp [partsOf]
  · simp [partsOf]
/-- The next line of the bill is the line at hand. -/
theorem bill_next {l : List Ln} {p : Ln → Bool} {k : Nat} {x : Ln} (hx : l[k]? = some x) (h : p x = true) : (l.filter p)[((l.take k).filter p).length]? = some x ∧ ((l.take k).filter p).length < (l.filter p).length := by
  have e : l.filter p = (l.take k).filter p ++ (l.drop k).filter p := by rw [← List.filter_append, List.take_append_drop]
  obtain ⟨hk, rfl⟩ := List.getElem?_eq_some_iff.1 hx
  rw [e, List.getElem?_append_right (Nat.le_refl _), Nat.sub_self, List.drop_eq_getElem_cons hk, List.filter_cons, if_pos h]
  exact ⟨rfl, by simp⟩

theorem wpList_append_int {ops : Array Oper} {rest : List Oper} {o : Oper} {a : Act} {W : World} {Q : Exit → Act → World → Prop} (hgd : o.guard = none) (s x : Operand)
    (ho : o.op = .call { callee := .builtin .append, args := #[s, x], argTypes := #[24, 24] })
    (ob : Nat) (v : Value) (L : List Int) (hs : a.eval s = v) (hown : W.ownsRow ob 3 1 v L.length (L.map (.int .i64))) (y : Int)
    (hx : a.eval x = .slice (some ⟨W.heap.size, 0, none⟩) 1 1) (hL : L.length ≤ 1000) (hob : ob ≤ W.heap.size)
    (h : ∀ v' w', w'.ownsRow ob 3 1 v' (L ++ [y]).length ((L ++ [y]).map (.int .i64)) → Below ob W w' → ob ≤ w'.heap.size → wpList Tryz.prog ops Q rest (a.put o.dst v') w') : wpList Tryz.prog ops Q (o :: rest) a (W.alloc (.cells #[.int .i64 y] 3)) := by
  obtain ⟨i3, hi3, hz3, hs3, hby3⟩ := info3'
  have hown2 := hown.alloc (.cells #[.int .i64 y] 3)
  have hnews : ∀ (jj : Nat) (u : Value), ([Value.int .i64 y])[jj]? = some u → (W.alloc (.cells #[.int .i64 y] 3)).cell? ((⟨W.heap.size, 0, none⟩ : Addr).add jj) = some u := World.news_of_block (heap_alloc_new W _)
  have hobA : ob ≤ (W.alloc (.cells #[.int .i64 y] 3)).heap.size := by simp; omega
  refine wpList_append_own _ hgd s x 24 ho ob 3 i3 (.int .i64 0) 1 8 Tryz.underlying24 hi3 hz3 hs3 hby3 rfl (by decide) v L.length _ hs hown2 ⟨W.heap.size, 0, none⟩ 1 1 [.int .i64 y] hx rfl hnews (one_ints [y]) (by simp only [maxLen]; omega) (by omega) hobA ?_
  intro v' w' h1 h2 _
  refine h v' w' (by simpa using h1) (((Below.refl ob W).alloc hob _).grown h2 hobA (fun k' hk' => (hown.lt k' hk').1)) (Nat.le_trans hobA h2.size)

set_option maxRecDepth 100000 in
set_option maxHeartbeats 8000000 in
theorem bills_any (l : List Ln) (A : Option Addr) (c : Nat) (a m : Int) (w : World) (hk : KT w) (hc : CB w) (hl : RdE Ln.cells 44 w w.heap.size A l) (hok : ∀ x ∈ l, x.ok) (htp : ∀ x ∈ l, x.tp) :
    Calls Tryz.prog 7 #[.slice A l.length c, .int .i64 a, .int .i64 m] w fun e w' => e = .returned (.bool true) ∧ Below w.heap.size w w' := by
  have Hl := Lib.hid hl
  have Hok := Lib.hid hok
  have Htp := Lib.hid htp
  have Hk := Lib.hid hk
  have Hc := Lib.hid hc
  clear hl hok hk hc htp
  go_enter Tryz.func7, Tryz.ntmps7
  go_wp2_with fail
  refine (sane_any w Hk.out Hc.out).mono ?_
  rintro e w1 ⟨rfl, hb1⟩
  have Hb1 := Lib.hid hb1
  clear hb1
  by_cases h1 : 200 < l.length
  · go_wp2
    go_ret
    exact ⟨rfl, Hb1.out⟩
  have i1 : (l.length : Int) ≤ 200 := by omega
  go_wp2_with fail
  have hcall := bill_any l A c a m w1 ((Hl.out.below Hb1.out).more Hb1.out.size) Hok.out (by omega)
  refine hcall.mono ?_
  clear hcall
  rintro e w2 hf
  obtain ⟨A2, c2, rfl, hr2, hb2⟩ := hf.reads (filter_ok Hok.out)
  have Hb2 := Lib.hid (below_onF Hb1.out hb2 Hb1.out.size)
  have Hr2 := Lib.hid hr2
  clear hf hr2 hb2
  have Hcnt : Hid (∀ k x, l[k]? = some x → billP a m x = true → (l.filter (billP a m))[((l.take k).filter (billP a m)).length]? = some x ∧ ((l.take k).filter (billP a m)).length < (l.filter (billP a m)).length) := Lib.hid (fun k x hx h => bill_next hx h)
  have Hbl : Hid ((l.filter (billP a m)).length ≤ 200) := Lib.hid (by have := List.length_filter_le (billP a m) l; omega)
  obtain ⟨bill, hbill⟩ : ∃ bill, bill = l.filter (billP a m) := ⟨_, rfl⟩
  rw [← hbill] at Hr2 Hcnt Hbl ⊢
  have Hbill := Lib.hid hbill
  clear hbill
  obtain ⟨ob, hob⟩ : ∃ ob, ob = w2.heap.size := ⟨_, rfl⟩
  have hl2 : RdE Ln.cells 44 w2 ob A l := by rw [hob]; exact (Hl.out.below Hb2.out).more Hb2.out.size
  have hr2 : RdE Ln.cells 44 w2 ob A2 bill := by rw [hob]; exact Hr2.out
  have hwob : w.heap.size ≤ ob := by rw [hob]; exact Hb2.out.size
  have hown0 : (w2.alloc (.cells #[] 3)).ownsRow ob 3 1 (.slice (some ⟨w2.heap.size, 0, none⟩) 0 0) 0 [] := own_empty w2 ob 3 1 (Nat.le_of_eq hob)
  have hbel0 : Below ob w2 (w2.alloc (.cells #[] 3)) := (Below.refl _ _).alloc (Nat.le_of_eq hob) _
  have hob0 : ob ≤ (w2.alloc (.cells #[] 3)).heap.size := by simp; omega
  have Hl2 := Lib.hid hl2
  have Hr2 := Lib.hid hr2
  have Hown0 := Lib.hid hown0
  have Hob := Lib.hid hob
  clear hl2 hr2 hown0 hob
  go_wp2_with fail
  go_loopw [8, 9, 10] (fun s8 v s10 wx => ∃ (k n : Nat) (L : List Int), k ≤ l.length ∧ s8 = .int .i64 n ∧ s10 = .int .i64 k ∧ Hid (n = ((l.take k).filter (billP a m)).length ∧ L = partsOf a ((l.take k).filter (billP a m)) ∧ L.length ≤ 2 * k) ∧ wx.ownsRow ob 3 1 v L.length (L.map (.int .i64)) ∧ Below ob w2 wx ∧ ob ≤ wx.heap.size)
    (fun _ _ i _ => l.length - (intOf i).toNat)
  case atStart => exact ⟨0, 0, [], Nat.zero_le _, rfl, rfl, Lib.hid ⟨by simp, by simp [partsOf], by simp⟩, by simpa using Hown0.out, hbel0, hob0⟩
  case round =>
    obtain ⟨k, n, L, hk, rfl, rfl, hrel, hown, hbel, hobx⟩ := hrel
    by_cases hlt : k < l.length
    · obtain ⟨x, hx⟩ : ∃ x, l[k]? = some x := ⟨_, List.getElem?_eq_getElem hlt⟩
      obtain ⟨b, off, rfl, hbw, cx⟩ := Hl2.out k x hx
      have i0 : (0 : Int) ≤ (k : Int) := by omega
      have i2 : (k : Int) < (l.length : Int) := by omega
      obtain ⟨y, hy⟩ : ∃ y, y = x.d.payer := ⟨_, rfl⟩
      obtain ⟨z, hz⟩ : ∃ z, z = x.d.payee := ⟨_, rfl⟩
      obtain ⟨t, ht⟩ : ∃ t, t = x.d.month := ⟨_, rfl⟩
      obtain ⟨am, ham⟩ : ∃ am, am = x.d.amount := ⟨_, rfl⟩
      have Ham := Lib.hid ham
      have hrg : wr.rangeAt b (off + k * 44) x.cells := fun j v hv => (hbel.cell (p := ⟨b, _, none⟩) hbw).trans (cx j v hv)
      have p5 : wr.cell? ⟨b, off + k * 44 + 5, none⟩ = some (.int .i64 y) := by rw [hy]; exact hrg 5 _ rfl
      have p6 : wr.cell? ⟨b, off + k * 44 + 6, none⟩ = some (.int .i64 z) := by rw [hz]; exact hrg 6 _ rfl
      have p7 : wr.cell? ⟨b, off + k * 44 + 7, none⟩ = some (.int .i64 t) := by rw [ht]; exact hrg 7 _ rfl
      have Hx := Lib.hid hx
      have Hy := Lib.hid hy
      have Hz := Lib.hid hz
      have Ht := Lib.hid ht
      have Hrg := Lib.hid hrg
      have Hown := Lib.hid hown
      have Hbel := Lib.hid hbel
      have Hrel := Lib.hid hrel.out
      have hskip : billP a m x = false → ((l.take (k + 1)).filter (billP a m)) = (l.take k).filter (billP a m) := fun h => by rw [filter_take hx, h]; simp
      have Hskip := Lib.hid hskip
      clear hx hy hz ht ham hrg hown hbel hrel cx hskip
      by_cases c1 : t = m
      · by_cases c2 : y = a
        · by_cases c3 : z = a
          · have hP : billP a m x = true := by simp [billP, ← Ht.out, ← Hy.out, ← Hz.out, c1, c2]
            have hn := Hrel.out.1
            obtain ⟨hbn, hnl⟩ := Hcnt.out k x Hx.out hP
            rw [← hn] at hbn hnl
            obtain ⟨b2, o2, rfl, hb2w, cb2⟩ := Hr2.out n x hbn
            have hxt := Htp.out x (List.mem_of_getElem? Hx.out)
            have hxo := Hok.out x (List.mem_of_getElem? Hx.out)
            have heq : ∀ w' : World, (Op.equalIn 10000 44 (.agg x.cells.toArray) (.agg x.cells.toArray)).run Tryz.prog w' = .ok true w' := fun w' => eq44_refl hxt w'
            have hs : (Tryz.prog.info? 44).map (·.size) = some x.cells.length := by rw [Tryz.size44, Ln.len44 hxo]
            have hrg2 : wr.rangeAt b2 (o2 + n * 44) x.cells := fun j v hv => (Hbel.out.cell (p := ⟨b2, _, none⟩) hb2w).trans (cb2 j v hv)
            have q5 : wr.cell? ⟨b2, o2 + n * 44 + 5, none⟩ = some (.int .i64 y) := by rw [Hy.out]; exact hrg2 5 _ rfl
            have q6 : wr.cell? ⟨b2, o2 + n * 44 + 6, none⟩ = some (.int .i64 z) := by rw [Hz.out]; exact hrg2 6 _ rfl
            have q8 : wr.cell? ⟨b2, o2 + n * 44 + 8, none⟩ = some (.int .i64 am) := by rw [Ham.out]; exact hrg2 8 _ rfl
            have Q5 := Lib.hid q5
            have Q6 := Lib.hid q6
            have Q8 := Lib.hid q8
            have Hrg2 := Lib.hid hrg2
            have Hs := Lib.hid hs
            have HP := Lib.hid hP
            have Hb2w := Lib.hid hb2w
            have j0 : (0 : Int) ≤ (n : Int) := by omega
            have j1 : (n : Int) < (bill.length : Int) := by omega
            have j2 : ¬ (bill.length : Int) ≤ (n : Int) := by omega
            have j3 : ¬ bill.length ≤ n := by omega
            have j4 : (n : Int) < 200 := by have := Hbl.out; omega
            have HL : Hid (L.length ≤ 500) := Lib.hid (by have := Hrel.out.2.2; omega)
            have HL1 : Hid ((L ++ [am]).length ≤ 500) := Lib.hid (by have := Hrel.out.2.2; simp; omega)
            have HN : Hid (n + 1 = ((l.take (k + 1)).filter (billP a m)).length) := Lib.hid (by rw [filter_take Hx.out, if_pos hP, List.length_append, ← hn]; rfl)
            have HK : Hid (partsOf a ((l.take (k + 1)).filter (billP a m)) = L ++ partOf a x.d) := Lib.hid (by rw [partsOf_take Hx.out, if_pos hP, ← Hrel.out.2.1])
            have HO : Hid (partOf a x.d = [am] ++ [wrap64 (-am)]) := Lib.hid (by rw [partOf, ← Hz.out, ← Hy.out, ← Ham.out, if_pos c3, if_pos c2])
            obtain ⟨nv, hnv⟩ : ∃ nv, nv = wrap64 (-am) := ⟨_, rfl⟩
            have wn : IntKind.i64.wrap (-am) = nv := by rw [IntWalk.i64_left, hnv]
            rw [← hnv] at HO
            have Q5a : Hid (wr.cell? ⟨b2, o2 + n * 44 + 5, none⟩ = some (.int .i64 a)) := Lib.hid (by rw [← c2]; exact Q5.out)
            have Q6a : Hid (wr.cell? ⟨b2, o2 + n * 44 + 6, none⟩ = some (.int .i64 a)) := Lib.hid (by rw [← c3]; exact Q6.out)
            rw [c1] at p7
            rw [c2] at p5
            rw [c3] at p6
            clear hP hn hbn hnl hb2w cb2 hxt hxo hs hrg2 q5 q6 q8 c1 c2 c3 hnv
            go_wp2_with fail
            refine wp_region_quiet_lit (by kernel_rfl) (by kernel_rfl) ?_
            repeat (first
              | (refine wpQuiet_load_mid (by rfl) 44 _ rfl b (off + k * 44) rfl x.cells _ Hrg.out Tryz.underlying44 rfl Hs.out ?_)
              | (refine wpQuiet_load_mid (by rfl) 44 _ rfl b2 (o2 + n * 44) rfl x.cells _ Hrg2.out Tryz.underlying44 rfl Hs.out ?_)
              | quiet_step (fail))
            refine wpQuiet_nil ?_
            rintro _ ⟨nq, rfl⟩
            obtain ⟨wd, hwd⟩ : ∃ wd, wd = wr.drewN nq := ⟨_, rfl⟩
            have q5 : wd.cell? ⟨b2, o2 + n * 44 + 5, none⟩ = some (.int .i64 a) := by rw [hwd]; exact Q5a.out
            have q6 : wd.cell? ⟨b2, o2 + n * 44 + 6, none⟩ = some (.int .i64 a) := by rw [hwd]; exact Q6a.out
            have q8 : wd.cell? ⟨b2, o2 + n * 44 + 8, none⟩ = some (.int .i64 am) := by rw [hwd]; exact Q8.out
            have HownD : Hid (wd.ownsRow ob 3 1 u9 L.length (L.map (.int .i64))) := Lib.hid (by rw [hwd]; exact Hown.out)
            have HbelD : Hid (Below ob w2 wd) := Lib.hid (by rw [hwd]; exact Below.drewsN Hbel.out nq)
            have HobD : Hid (ob ≤ wd.heap.size) := Lib.hid (by rw [hwd]; exact hobx)
            rw [← hwd]
            clear hwd p5 p6 p7 Q5 Q6 Q8
            go_wp2_with (first
              | (show wpList _ _ _ (⟨some 85, _, _, _, _, _⟩ :: _) _ _
                 refine wpList_append_int rfl _ _ rfl ob _ L rfl HownD.out am rfl (by have := HL.out; omega) HobD.out ?_
                 intro v8 w8 hown8 hb8 hob8
                 have r5 : w8.cell? ⟨b2, o2 + n * 44 + 5, none⟩ = some (.int .i64 a) := (hb8.cell (p := ⟨b2, _, none⟩) Hb2w.out).trans q5
                 have r8 : w8.cell? ⟨b2, o2 + n * 44 + 8, none⟩ = some (.int .i64 am) := (hb8.cell (p := ⟨b2, _, none⟩) Hb2w.out).trans q8
                 have Hown8 := Lib.hid hown8
                 have Hb8 := Lib.hid (HbelD.out.trans hb8)
                 have Hob8 := Lib.hid hob8
                 clear hown8 hb8 hob8 q5 q6 q8)
              | (show wpList _ _ _ (⟨some 101, _, _, _, _, _⟩ :: _) _ _
                 refine wpList_append_int rfl _ _ rfl ob _ (L ++ [am]) rfl Hown8.out nv rfl (by have := HL1.out; omega) Hob8.out ?_
                 intro v9 w9 hown9 hb9 hob9
                 have Hown9 := Lib.hid hown9
                 have Hb9 := Lib.hid (Hb8.out.trans hb9)
                 have Hob9 := Lib.hid hob9
                 clear hown9 hb9 hob9)
              | fail)
            go_roundw
            case rel =>
              refine ⟨k + 1, n + 1, L ++ [am] ++ [nv], by omega, by go_num, by go_num, Lib.hid ⟨HN.out, ?_, ?_⟩, Hown9.out, Hb9.out, Hob9.out⟩
              · rw [HK.out, HO.out]; simp
              · have := Hrel.out.2.2
                simp
                omega
            case measure => simp [intOf]; omega
          · have hP : billP a m x = true := by simp [billP, ← Ht.out, ← Hy.out, ← Hz.out, c1, c2, c3]
            have hn := Hrel.out.1
            obtain ⟨hbn, hnl⟩ := Hcnt.out k x Hx.out hP
            rw [← hn] at hbn hnl
            obtain ⟨b2, o2, rfl, hb2w, cb2⟩ := Hr2.out n x hbn
            have hxt := Htp.out x (List.mem_of_getElem? Hx.out)
            have hxo := Hok.out x (List.mem_of_getElem? Hx.out)
            have heq : ∀ w' : World, (Op.equalIn 10000 44 (.agg x.cells.toArray) (.agg x.cells.toArray)).run Tryz.prog w' = .ok true w' := fun w' => eq44_refl hxt w'
            have hs : (Tryz.prog.info? 44).map (·.size) = some x.cells.length := by rw [Tryz.size44, Ln.len44 hxo]
            have hrg2 : wr.rangeAt b2 (o2 + n * 44) x.cells := fun j v hv => (Hbel.out.cell (p := ⟨b2, _, none⟩) hb2w).trans (cb2 j v hv)
            have q5 : wr.cell? ⟨b2, o2 + n * 44 + 5, none⟩ = some (.int .i64 y) := by rw [Hy.out]; exact hrg2 5 _ rfl
            have q6 : wr.cell? ⟨b2, o2 + n * 44 + 6, none⟩ = some (.int .i64 z) := by rw [Hz.out]; exact hrg2 6 _ rfl
            have q8 : wr.cell? ⟨b2, o2 + n * 44 + 8, none⟩ = some (.int .i64 am) := by rw [Ham.out]; exact hrg2 8 _ rfl
            have Q5 := Lib.hid q5
            have Q6 := Lib.hid q6
            have Q8 := Lib.hid q8
            have Hrg2 := Lib.hid hrg2
            have Hs := Lib.hid hs
            have HP := Lib.hid hP
            have Hb2w := Lib.hid hb2w
            have j0 : (0 : Int) ≤ (n : Int) := by omega
            have j1 : (n : Int) < (bill.length : Int) := by omega
            have j2 : ¬ (bill.length : Int) ≤ (n : Int) := by omega
            have j3 : ¬ bill.length ≤ n := by omega
            have j4 : (n : Int) < 200 := by have := Hbl.out; omega
            have HL : Hid (L.length ≤ 500) := Lib.hid (by have := Hrel.out.2.2; omega)
            have HL1 : Hid ((L ++ [am]).length ≤ 500) := Lib.hid (by have := Hrel.out.2.2; simp; omega)
            have HN : Hid (n + 1 = ((l.take (k + 1)).filter (billP a m)).length) := Lib.hid (by rw [filter_take Hx.out, if_pos hP, List.length_append, ← hn]; rfl)
            have HK : Hid (partsOf a ((l.take (k + 1)).filter (billP a m)) = L ++ partOf a x.d) := Lib.hid (by rw [partsOf_take Hx.out, if_pos hP, ← Hrel.out.2.1])
            have HO : Hid (partOf a x.d = [wrap64 (-am)]) := Lib.hid (by rw [partOf, ← Hz.out, ← Hy.out, ← Ham.out, if_neg c3, if_pos c2]; rfl)
            obtain ⟨nv, hnv⟩ : ∃ nv, nv = wrap64 (-am) := ⟨_, rfl⟩
            have wn : IntKind.i64.wrap (-am) = nv := by rw [IntWalk.i64_left, hnv]
            rw [← hnv] at HO
            have e3 : (z == a) = false := by simpa using c3
            have e3' : (z != a) = true := by simpa using c3
            have Q5a : Hid (wr.cell? ⟨b2, o2 + n * 44 + 5, none⟩ = some (.int .i64 a)) := Lib.hid (by rw [← c2]; exact Q5.out)
            rw [c1] at p7
            rw [c2] at p5
            clear hP hn hbn hnl hb2w cb2 hxt hxo hs hrg2 q5 q6 q8 c1 c2 c3 hnv
            go_wp2_with fail
            refine wp_region_quiet_lit (by kernel_rfl) (by kernel_rfl) ?_
            repeat (first
              | (refine wpQuiet_load_mid (by rfl) 44 _ rfl b (off + k * 44) rfl x.cells _ Hrg.out Tryz.underlying44 rfl Hs.out ?_)
              | (refine wpQuiet_load_mid (by rfl) 44 _ rfl b2 (o2 + n * 44) rfl x.cells _ Hrg2.out Tryz.underlying44 rfl Hs.out ?_)
              | quiet_step (fail))
            refine wpQuiet_nil ?_
            rintro _ ⟨nq, rfl⟩
            obtain ⟨wd, hwd⟩ : ∃ wd, wd = wr.drewN nq := ⟨_, rfl⟩
            have q5 : wd.cell? ⟨b2, o2 + n * 44 + 5, none⟩ = some (.int .i64 a) := by rw [hwd]; exact Q5a.out
            have q6 : wd.cell? ⟨b2, o2 + n * 44 + 6, none⟩ = some (.int .i64 z) := by rw [hwd]; exact Q6.out
            have q8 : wd.cell? ⟨b2, o2 + n * 44 + 8, none⟩ = some (.int .i64 am) := by rw [hwd]; exact Q8.out
            have HownD : Hid (wd.ownsRow ob 3 1 u9 L.length (L.map (.int .i64))) := Lib.hid (by rw [hwd]; exact Hown.out)
            have HbelD : Hid (Below ob w2 wd) := Lib.hid (by rw [hwd]; exact Below.drewsN Hbel.out nq)
            have HobD : Hid (ob ≤ wd.heap.size) := Lib.hid (by rw [hwd]; exact hobx)
            rw [← hwd]
            clear hwd p5 p6 p7 Q5 Q6 Q8
            go_wp2_with (first
              | (show wpList _ _ _ (⟨some 101, _, _, _, _, _⟩ :: _) _ _
                 refine wpList_append_int rfl _ _ rfl ob _ (L) rfl HownD.out nv rfl (by have := HL.out; omega) HobD.out ?_
                 intro v9 w9 hown9 hb9 hob9
                 have Hown9 := Lib.hid hown9
                 have Hb9 := Lib.hid (HbelD.out.trans hb9)
                 have Hob9 := Lib.hid hob9
                 clear hown9 hb9 hob9)
              | fail)
            go_roundw
            case rel =>
              refine ⟨k + 1, n + 1, L ++ [nv], by omega, by go_num, by go_num, Lib.hid ⟨HN.out, ?_, ?_⟩, Hown9.out, Hb9.out, Hob9.out⟩
              · rw [HK.out, HO.out]
              · have := Hrel.out.2.2
                simp
                omega
            case measure => simp [intOf]; omega
        · by_cases c3 : z = a
          · have hP : billP a m x = true := by simp [billP, ← Ht.out, ← Hy.out, ← Hz.out, c1, c2, c3]
            have hn := Hrel.out.1
            obtain ⟨hbn, hnl⟩ := Hcnt.out k x Hx.out hP
            rw [← hn] at hbn hnl
            obtain ⟨b2, o2, rfl, hb2w, cb2⟩ := Hr2.out n x hbn
            have hxt := Htp.out x (List.mem_of_getElem? Hx.out)
            have hxo := Hok.out x (List.mem_of_getElem? Hx.out)
            have heq : ∀ w' : World, (Op.equalIn 10000 44 (.agg x.cells.toArray) (.agg x.cells.toArray)).run Tryz.prog w' = .ok true w' := fun w' => eq44_refl hxt w'
            have hs : (Tryz.prog.info? 44).map (·.size) = some x.cells.length := by rw [Tryz.size44, Ln.len44 hxo]
            have hrg2 : wr.rangeAt b2 (o2 + n * 44) x.cells := fun j v hv => (Hbel.out.cell (p := ⟨b2, _, none⟩) hb2w).trans (cb2 j v hv)
            have q5 : wr.cell? ⟨b2, o2 + n * 44 + 5, none⟩ = some (.int .i64 y) := by rw [Hy.out]; exact hrg2 5 _ rfl
            have q6 : wr.cell? ⟨b2, o2 + n * 44 + 6, none⟩ = some (.int .i64 z) := by rw [Hz.out]; exact hrg2 6 _ rfl
            have q8 : wr.cell? ⟨b2, o2 + n * 44 + 8, none⟩ = some (.int .i64 am) := by rw [Ham.out]; exact hrg2 8 _ rfl
            have Q5 := Lib.hid q5
            have Q6 := Lib.hid q6
            have Q8 := Lib.hid q8
            have Hrg2 := Lib.hid hrg2
            have Hs := Lib.hid hs
            have HP := Lib.hid hP
            have Hb2w := Lib.hid hb2w
            have j0 : (0 : Int) ≤ (n : Int) := by omega
            have j1 : (n : Int) < (bill.length : Int) := by omega
            have j2 : ¬ (bill.length : Int) ≤ (n : Int) := by omega
            have j3 : ¬ bill.length ≤ n := by omega
            have j4 : (n : Int) < 200 := by have := Hbl.out; omega
            have HL : Hid (L.length ≤ 500) := Lib.hid (by have := Hrel.out.2.2; omega)
            have HL1 : Hid ((L ++ [am]).length ≤ 500) := Lib.hid (by have := Hrel.out.2.2; simp; omega)
            have HN : Hid (n + 1 = ((l.take (k + 1)).filter (billP a m)).length) := Lib.hid (by rw [filter_take Hx.out, if_pos hP, List.length_append, ← hn]; rfl)
            have HK : Hid (partsOf a ((l.take (k + 1)).filter (billP a m)) = L ++ partOf a x.d) := Lib.hid (by rw [partsOf_take Hx.out, if_pos hP, ← Hrel.out.2.1])
            have HO : Hid (partOf a x.d = [am]) := Lib.hid (by rw [partOf, ← Hz.out, ← Hy.out, ← Ham.out, if_pos c3, if_neg c2]; rfl)
            skip
            have e2 : (y == a) = false := by simpa using c2
            have e2' : (y != a) = true := by simpa using c2
            have Q6a : Hid (wr.cell? ⟨b2, o2 + n * 44 + 6, none⟩ = some (.int .i64 a)) := Lib.hid (by rw [← c3]; exact Q6.out)
            rw [c1] at p7
            rw [c3] at p6
            clear hP hn hbn hnl hb2w cb2 hxt hxo hs hrg2 q5 q6 q8 c1 c2 c3
            go_wp2_with fail
            refine wp_region_quiet_lit (by kernel_rfl) (by kernel_rfl) ?_
            repeat (first
              | (refine wpQuiet_load_mid (by rfl) 44 _ rfl b (off + k * 44) rfl x.cells _ Hrg.out Tryz.underlying44 rfl Hs.out ?_)
              | (refine wpQuiet_load_mid (by rfl) 44 _ rfl b2 (o2 + n * 44) rfl x.cells _ Hrg2.out Tryz.underlying44 rfl Hs.out ?_)
              | quiet_step (fail))
            refine wpQuiet_nil ?_
            rintro _ ⟨nq, rfl⟩
            obtain ⟨wd, hwd⟩ : ∃ wd, wd = wr.drewN nq := ⟨_, rfl⟩
            have q5 : wd.cell? ⟨b2, o2 + n * 44 + 5, none⟩ = some (.int .i64 y) := by rw [hwd]; exact Q5.out
            have q6 : wd.cell? ⟨b2, o2 + n * 44 + 6, none⟩ = some (.int .i64 a) := by rw [hwd]; exact Q6a.out
            have q8 : wd.cell? ⟨b2, o2 + n * 44 + 8, none⟩ = some (.int .i64 am) := by rw [hwd]; exact Q8.out
            have HownD : Hid (wd.ownsRow ob 3 1 u9 L.length (L.map (.int .i64))) := Lib.hid (by rw [hwd]; exact Hown.out)
            have HbelD : Hid (Below ob w2 wd) := Lib.hid (by rw [hwd]; exact Below.drewsN Hbel.out nq)
            have HobD : Hid (ob ≤ wd.heap.size) := Lib.hid (by rw [hwd]; exact hobx)
            rw [← hwd]
            clear hwd p5 p6 p7 Q5 Q6 Q8
            go_wp2_with (first
              | (show wpList _ _ _ (⟨some 85, _, _, _, _, _⟩ :: _) _ _
                 refine wpList_append_int rfl _ _ rfl ob _ L rfl HownD.out am rfl (by have := HL.out; omega) HobD.out ?_
                 intro v8 w8 hown8 hb8 hob8
                 have r5 : w8.cell? ⟨b2, o2 + n * 44 + 5, none⟩ = some (.int .i64 y) := (hb8.cell (p := ⟨b2, _, none⟩) Hb2w.out).trans q5
                 have r8 : w8.cell? ⟨b2, o2 + n * 44 + 8, none⟩ = some (.int .i64 am) := (hb8.cell (p := ⟨b2, _, none⟩) Hb2w.out).trans q8
                 have Hown8 := Lib.hid hown8
                 have Hb8 := Lib.hid (HbelD.out.trans hb8)
                 have Hob8 := Lib.hid hob8
                 clear hown8 hb8 hob8 q5 q6 q8)
              | fail)
            go_roundw
            case rel =>
              refine ⟨k + 1, n + 1, L ++ [am], by omega, by go_num, by go_num, Lib.hid ⟨HN.out, ?_, ?_⟩, Hown8.out, Hb8.out, Hob8.out⟩
              · rw [HK.out, HO.out]
              · have := Hrel.out.2.2
                simp
                omega
            case measure => simp [intOf]; omega
          · have hP : billP a m x = false := by simp [billP, ← Hy.out, ← Hz.out, c2, c3]
            have e2 : (y != a) = true := by simpa using c2
            have e3 : (z != a) = true := by simpa using c3
            have HP := Lib.hid (Hskip.out hP)
            clear hP
            go_wp2
            go_roundw
            case rel => exact ⟨k + 1, n, L, by omega, rfl, by go_num, Lib.hid ⟨by rw [HP.out]; exact Hrel.out.1, by rw [HP.out]; exact Hrel.out.2.1, by have := Hrel.out.2.2; omega⟩, Hown.out, Hbel.out, hobx⟩
            case measure => simp [intOf]; omega
      · have hP : billP a m x = false := by simp [billP, ← Ht.out, c1]
        have HP := Lib.hid (Hskip.out hP)
        clear hP
        go_wp2
        go_roundw
        case rel => exact ⟨k + 1, n, L, by omega, rfl, by go_num, Lib.hid ⟨by rw [HP.out]; exact Hrel.out.1, by rw [HP.out]; exact Hrel.out.2.1, by have := Hrel.out.2.2; omega⟩, Hown.out, Hbel.out, hobx⟩
        case measure => simp [intOf]; omega
    · obtain rfl : k = l.length := by omega
      obtain ⟨hn, hL, hL2⟩ := hrel.out
      rw [List.take_length, ← Hbill.out] at hn hL
      subst hn
      obtain ⟨A3, c3, rfl, hr3⟩ := own_ints hown
      have Hr3 := Lib.hid hr3
      have Hbel := Lib.hid hbel
      have HL := Lib.hid hL
      have HL2 := Lib.hid hL2
      have hobx2 := hobx
      clear hrel hown hr3 hbel hL hL2 hobx
      go_wp2_with fail
      have hcall := monthly_any l A c m wr ((Hl2.out.below Hbel.out).more hobx2) Hok.out (by omega)
      refine hcall.mono ?_
      clear hcall
      rintro e w7 ⟨A7, c7, rfl, hb7, hr7⟩
      have Hb7 := Lib.hid hb7
      have Hr7 := Lib.hid hr7
      have Hr3 := Lib.hid ((Hr3.out.below hb7).more hb7.size)
      clear hb7 hr7
      have Hbw7 : Hid (Below w.heap.size w w7) := Lib.hid (below_onF Hb2.out ((below_onF Hbel.out Hb7.out hobx2).mono (by have := Hob.out; omega)) Hb2.out.size)
      by_cases z7 : (balF ((l.filter (monP m)).map Ln.d)).2 = 0
      · by_cases a1 : a < 0
        · rw [z7]
          clear z7
          go_wp2
          go_ret
          exact ⟨rfl, Hbw7.out⟩
        · by_cases a2 : 336 ≤ a
          · rw [z7]
            clear z7
            go_wp2
            go_ret
            exact ⟨rfl, Hbw7.out⟩
          · obtain ⟨i, rfl⟩ : ∃ i : Nat, a = (i : Int) := ⟨a.toNat, by omega⟩
            have hi : i < 336 := by omega
            obtain ⟨s1, s2⟩ := bill_sum (l := l) (m := m) hi z7
            rw [← Hbill.out, ← HL.out] at s1 s2
            have Hbl7 := Lib.hid (balF_len z7)
            rw [z7, balF_len z7]
            clear z7
            generalize (balF ((l.filter (monP m)).map Ln.d)).1 = bl at Hr7 s2 Hbl7
            have hL500 : L.length ≤ 500 := by have := HL2.out; omega
            have i0 : (0 : Int) ≤ (i : Int) := by omega
            have i3 : (i : Int) < 336 := by omega
            have S1 := Lib.hid s1
            have S2 := Lib.hid s2
            have HL5 := Lib.hid hL500
            clear s1 s2 hL500 a1 a2
            go_wp2_with fail
            have hcall := moneySum_any A3 L c3 w7 Hr3.out (by have := HL5.out; omega)
            rw [okPair_yes S1.out] at hcall
            refine hcall.mono ?_
            clear hcall
            rintro e w8 ⟨rfl, hb8⟩
            obtain ⟨b7, o7, rfl, hb7w, cb⟩ := Hr7.out i _ S2.out
            have cb' : w8.cell? ⟨b7, o7 + i, none⟩ = some (.int .i64 L.sum) := (hb8.cell (p := ⟨b7, _, none⟩) hb7w).trans cb
            have Hb8 := Lib.hid (below_onF Hbw7.out hb8 Hbw7.out.size)
            clear hb8 cb hb7w
            go_wp2
            go_ret
            exact ⟨rfl, Hb8.out⟩
      · generalize (balF ((l.filter (monP m)).map Ln.d)).2 = n7 at z7 ⊢
        have e7 : (n7 != 0) = true := by simpa using z7
        clear z7
        go_wp2
        go_ret
        exact ⟨rfl, Hbw7.out⟩
end Go.Proofs.YtcdfjnnkocmeeaaGreatDoor
