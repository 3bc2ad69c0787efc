/-
  The reference's changes, Balances and Monthly.
  Conditions: as each theorem states them.
-/
import Derived.Test.YtcdfjnnkocmeeaaGreatDoorRb
namespace Go.Proofs.YtcdfjnnkocmeeaaGreatDoor
open Go.RowKit Go.Lib

theorem partsOf_step {a : Int} {l : List Ln} {k : Nat} {x : Ln} (hx : l[k]? = some x) : partsOf a (l.take (k + 1)) = partsOf a (l.take k) ++ partOf a x.d := by
  obtain ⟨hk, rfl⟩ := List.getElem?_eq_some_iff.1 hx
  rw [List.take_add_one, List.getElem?_eq_getElem hk, partsOf_append]
  simp [partsOf]

set_option maxRecDepth 100000 in
set_option maxHeartbeats 4000000 in
theorem changes_any (l : List Ln) (A : Option Addr) (c : Nat) (a : Int) (w : World) (hl : RdE Ln.cells 44 w w.heap.size A l) (hok : ∀ x ∈ l, x.ok) (hn : l.length ≤ 400) :
    Calls Tryz.prog 28 #[.slice A l.length c, .int .i64 a] w (IntsRes w (partsOf a l)) := by
  have Hl := Lib.hid hl
  have Hok := Lib.hid hok
  clear hl hok
  go_enter Tryz.func28, Tryz.ntmps28
  obtain ⟨ob, hob⟩ : ∃ ob, ob = w.heap.size := ⟨_, rfl⟩
  have hown0 : (w.alloc (.cells #[] 3)).ownsRow ob 3 1 (.slice (some ⟨w.heap.size, 0, none⟩) 0 0) 0 [] := own_empty w ob 3 1 (Nat.le_of_eq hob)
  have hbel0 : Below ob w (w.alloc (.cells #[] 3)) := (Below.refl _ _).alloc (Nat.le_of_eq hob) _
  have hob0 : ob ≤ (w.alloc (.cells #[] 3)).heap.size := by simp; omega
  have Hl2 : Hid (RdE Ln.cells 44 w ob A l) := Lib.hid (by rw [hob]; exact Hl.out)
  have Hown0 := Lib.hid hown0
  have Hob := Lib.hid hob
  clear hown0 hob Hl
  go_wp2_with fail
  go_loopw [5, 6] (fun v s wx => ∃ (k : Nat) (L : List Int), k ≤ l.length ∧ s = .int .i64 k ∧ Hid (L = partsOf a (l.take k) ∧ L.length ≤ 2 * k) ∧ wx.ownsRow ob 3 1 v L.length (L.map (.int .i64)) ∧ Below ob w wx ∧ ob ≤ wx.heap.size)
    (fun _ i _ => l.length - (intOf i).toNat)
  case atStart => exact ⟨0, [], Nat.zero_le _, rfl, Lib.hid ⟨by simp [partsOf], by simp⟩, by simpa using Hown0.out, hbel0, hob0⟩
  case round =>
    obtain ⟨k, L, hk, rfl, hrel, hown, hbel, hobx⟩ := hrel
    by_cases hlt : k < l.length
    · obtain ⟨x, hx⟩ : ∃ x, l[k]? = some x := ⟨_, List.getElem?_eq_getElem hlt⟩
      obtain ⟨b, off, rfl, hbw, cx⟩ := Hl2.out k x hx
      have i0 : (0 : Int) ≤ (k : Int) := by omega
      have i2 : (k : Int) < (l.length : Int) := by omega
      obtain ⟨y, hy⟩ : ∃ y, y = x.d.payer := ⟨_, rfl⟩
      obtain ⟨z, hz⟩ : ∃ z, z = x.d.payee := ⟨_, rfl⟩
      obtain ⟨am, ham⟩ : ∃ am, am = x.d.amount := ⟨_, rfl⟩
      have hrg : wr.rangeAt b (off + k * 44) x.cells := fun j v hv => (hbel.cell (p := ⟨b, _, none⟩) hbw).trans (cx j v hv)
      have p5 : wr.cell? ⟨b, off + k * 44 + 5, none⟩ = some (.int .i64 y) := by rw [hy]; exact hrg 5 _ rfl
      have p6 : wr.cell? ⟨b, off + k * 44 + 6, none⟩ = some (.int .i64 z) := by rw [hz]; exact hrg 6 _ rfl
      have p8 : wr.cell? ⟨b, off + k * 44 + 8, none⟩ = some (.int .i64 am) := by rw [ham]; exact hrg 8 _ rfl
      have Hst : Hid (partsOf a (l.take (k + 1)) = L ++ partOf a x.d) := Lib.hid (by rw [partsOf_step hx, ← hrel.out.1])
      have Hpo : Hid (partOf a x.d = (if z = a then [am] else []) ++ (if y = a then [wrap64 (-am)] else [])) := Lib.hid (by rw [partOf, hz, hy, ham])
      obtain ⟨nv, hnv⟩ : ∃ nv, nv = wrap64 (-am) := ⟨_, rfl⟩
      have wn : IntKind.i64.wrap (-am) = nv := by rw [IntWalk.i64_left, hnv]
      rw [← hnv] at Hpo
      have Hown := Lib.hid hown
      have Hbel := Lib.hid hbel
      have Hbw := Lib.hid hbw
      have Hr := Lib.hid hrel.out.2
      have HL : Hid (L.length ≤ 1000) := Lib.hid (by have := hrel.out.2; omega)
      have HL1 : Hid ((L ++ [am]).length ≤ 1000) := Lib.hid (by have := hrel.out.2; simp; omega)
      clear hx hy hz ham hrg hown hbel hrel cx hnv hbw
      by_cases c1 : y = a
      · by_cases c2 : z = a
        · have e1 := Lib.hid (Hst.out.trans (congrArg (L ++ ·) Hpo.out))
          rw [if_pos c2, if_pos c1] at e1
          rw [c1] at p5
          rw [c2] at p6
          clear c1 c2
          go_wp2_with (first
            | (show wpList _ _ _ (⟨some 28, _, _, _, _, _⟩ :: _) _ _
               refine wpList_append_int rfl _ _ rfl ob _ L rfl Hown.out am rfl HL.out hobx ?_
               intro v8 w8 hown8 hb8 hob8
               have r5 : w8.cell? ⟨b, off + k * 44 + 5, none⟩ = some (.int .i64 a) := (hb8.cell (p := ⟨b, _, none⟩) Hbw.out).trans p5
               have r8 : w8.cell? ⟨b, off + k * 44 + 8, none⟩ = some (.int .i64 am) := (hb8.cell (p := ⟨b, _, none⟩) Hbw.out).trans p8
               have Hown8 := Lib.hid hown8
               have Hb8 := Lib.hid (Hbel.out.trans hb8)
               have Hob8 := Lib.hid hob8
               clear hown8 hb8 hob8 p5 p6 p8)
            | (show wpList _ _ _ (⟨some 44, _, _, _, _, _⟩ :: _) _ _
               refine wpList_append_int rfl _ _ rfl ob _ (L ++ [am]) rfl Hown8.out nv rfl HL1.out Hob8.out ?_
               intro v9 w9 hown9 hb9 hob9
               have Hown9 := Lib.hid hown9
               have Hb9 := Lib.hid (Hb8.out.trans hb9)
               have Hob9 := Lib.hid hob9
               clear hown9 hb9 hob9)
            | fail)
          go_roundw
          case rel => exact ⟨k + 1, L ++ [am] ++ [nv], by omega, by go_num, Lib.hid ⟨by rw [e1.out]; simp, by have := Hr.out; simp; omega⟩, Hown9.out, Hb9.out, Hob9.out⟩
          case measure => simp [intOf]; omega
        · have e1 := Lib.hid (Hst.out.trans (congrArg (L ++ ·) Hpo.out))
          rw [if_neg c2, if_pos c1] at e1
          have e3 : (z == a) = false := by simpa using c2
          rw [c1] at p5
          clear c1 c2
          go_wp2_with (first
            | (show wpList _ _ _ (⟨some 44, _, _, _, _, _⟩ :: _) _ _
               refine wpList_append_int rfl _ _ rfl ob _ (L) rfl Hown.out nv rfl HL.out hobx ?_
               intro v9 w9 hown9 hb9 hob9
               have Hown9 := Lib.hid hown9
               have Hb9 := Lib.hid (Hbel.out.trans hb9)
               have Hob9 := Lib.hid hob9
               clear hown9 hb9 hob9)
            | fail)
          go_roundw
          case rel => exact ⟨k + 1, L ++ [nv], by omega, by go_num, Lib.hid ⟨by rw [e1.out]; simp, by have := Hr.out; simp; omega⟩, Hown9.out, Hb9.out, Hob9.out⟩
          case measure => simp [intOf]; omega
      · by_cases c2 : z = a
        · have e1 := Lib.hid (Hst.out.trans (congrArg (L ++ ·) Hpo.out))
          rw [if_pos c2, if_neg c1] at e1
          have e2 : (y == a) = false := by simpa using c1
          rw [c2] at p6
          clear c1 c2
          go_wp2_with (first
            | (show wpList _ _ _ (⟨some 28, _, _, _, _, _⟩ :: _) _ _
               refine wpList_append_int rfl _ _ rfl ob _ L rfl Hown.out am rfl HL.out hobx ?_
               intro v8 w8 hown8 hb8 hob8
               have r5 : w8.cell? ⟨b, off + k * 44 + 5, none⟩ = some (.int .i64 y) := (hb8.cell (p := ⟨b, _, none⟩) Hbw.out).trans p5
               have r8 : w8.cell? ⟨b, off + k * 44 + 8, none⟩ = some (.int .i64 am) := (hb8.cell (p := ⟨b, _, none⟩) Hbw.out).trans p8
               have Hown8 := Lib.hid hown8
               have Hb8 := Lib.hid (Hbel.out.trans hb8)
               have Hob8 := Lib.hid hob8
               clear hown8 hb8 hob8 p5 p6 p8)
            | fail)
          go_roundw
          case rel => exact ⟨k + 1, L ++ [am], by omega, by go_num, Lib.hid ⟨by rw [e1.out]; simp, by have := Hr.out; simp; omega⟩, Hown8.out, Hb8.out, Hob8.out⟩
          case measure => simp [intOf]; omega
        · have e1 := Lib.hid (Hst.out.trans (congrArg (L ++ ·) Hpo.out))
          rw [if_neg c2, if_neg c1] at e1
          have e2 : (y == a) = false := by simpa using c1
          have e3 : (z == a) = false := by simpa using c2
          clear c1 c2
          go_wp2
          go_roundw
          case rel => exact ⟨k + 1, L, by omega, by go_num, Lib.hid ⟨by rw [e1.out]; simp, by have := Hr.out; simp; omega⟩, Hown.out, Hbel.out, hobx⟩
          case measure => simp [intOf]; omega
    · obtain rfl : k = l.length := by omega
      obtain ⟨hr, _⟩ := hrel.out
      rw [List.take_length] at hr
      subst hr
      obtain ⟨A3, c3, rfl, hr3⟩ := own_ints hown
      have Hr3 := Lib.hid hr3
      have Hb3 := Lib.hid (show Below w.heap.size w wr by rw [← Hob.out]; exact hbel)
      clear hown hr3 hbel hrel
      go_wp2
      go_ret
      exact ⟨A3, c3, rfl, Hr3.out, Hb3.out⟩

/-- The first k balances. -/
def flows (l : List Dl) (k : Nat) : List Int := (List.range k).map fun a => flowAt a l
theorem flows_len (l : List Dl) (k : Nat) : (flows l k).length = k := by simp [flows]
theorem flows_succ (l : List Dl) (k : Nat) : flows l (k + 1) = flows l k ++ [flowAt k l] := by simp [flows, List.range_succ]
theorem flows_all {l : List Dl} (h : l.all acctD = true) : flows l 336 = sumsB l := by
  apply List.ext_getElem?
  intro i
  by_cases hi : i < 336
  · rw [sumsB_at h hi]; simp [flows, hi]
  · rw [List.getElem?_eq_none (by rw [flows_len]; omega), List.getElem?_eq_none (by rw [sumsB_len]; omega)]

set_option maxRecDepth 100000 in
set_option maxHeartbeats 4000000 in
theorem refBalances_any (l : List Ln) (A : Option Addr) (c : Nat) (w : World) (hl : RdE Ln.cells 44 w w.heap.size A l) (hok : ∀ x ∈ l, x.ok) (hn : l.length ≤ 400) :
    Calls Tryz.prog 10 #[.slice A l.length c] w (BalRes w (l.map Ln.d)) := by
  have Hl := Lib.hid hl
  have Hok := Lib.hid hok
  clear hl hok
  go_enter Tryz.func10, Tryz.ntmps10
  go_wp2_with fail
  go_loopw [4] (fun i wr => ∃ k : Nat, k ≤ l.length ∧ i = .int .i64 k ∧ wr = w ∧ Hid (∀ j, j < k → ∀ x, (l.map Ln.d)[j]? = some x → acctD x = true ∧ inR x.amount = true))
    (fun i _ => l.length - (intOf i).toNat)
  case atStart => exact ⟨0, Nat.zero_le _, rfl, rfl, Lib.hid (fun j hj => absurd hj (by omega))⟩
  case round =>
    obtain ⟨k, hk, rfl, rfl, hin⟩ := hrel
    by_cases hlt : k < l.length
    · obtain ⟨x, hx⟩ : ∃ x, l[k]? = some x := ⟨_, List.getElem?_eq_getElem hlt⟩
      have hxd : (l.map Ln.d)[k]? = some x.d := by simp [hx]
      obtain ⟨b, off, rfl, hbw, cx⟩ := Hl.out k x hx
      have i0 : (0 : Int) ≤ (k : Int) := by omega
      have i2 : (k : Int) < (l.length : Int) := by omega
      obtain ⟨y, hy⟩ : ∃ y, y = x.d.payer := ⟨_, rfl⟩
      obtain ⟨z, hz⟩ : ∃ z, z = x.d.payee := ⟨_, rfl⟩
      obtain ⟨am, ham⟩ : ∃ am, am = x.d.amount := ⟨_, rfl⟩
      have p5 : wr.cell? ⟨b, off + k * 44 + 5, none⟩ = some (.int .i64 y) := by rw [hy]; exact cx 5 _ rfl
      have p6 : wr.cell? ⟨b, off + k * 44 + 6, none⟩ = some (.int .i64 z) := by rw [hz]; exact cx 6 _ rfl
      have p8 : wr.cell? ⟨b, off + k * 44 + 8, none⟩ = some (.int .i64 am) := by rw [ham]; exact cx 8 _ rfl
      have Hac : Hid (acctD x.d = (acct y && acct z)) := Lib.hid (by rw [acctD, hy, hz])
      have Ham := Lib.hid ham
      have Hxd := Lib.hid hxd
      clear hx hxd hy hz ham cx
      go_wp2_with fail
      refine (account_any y _).mono ?_
      rintro e w1 ⟨rfl, rfl⟩
      by_cases c1 : acct y = true
      · rw [c1]
        go_wp2_with fail
        refine (account_any z _).mono ?_
        rintro e w2 ⟨rfl, rfl⟩
        by_cases c2 : acct z = true
        · rw [c2]
          have Ha : Hid (acctD x.d = true) := Lib.hid (by rw [Hac.out, c1, c2]; rfl)
          clear c1 c2
          go_wp2_with fail
          refine (in07_any am _).mono ?_
          rintro e w3 ⟨rfl, rfl⟩
          by_cases c3 : inR am = true
          · rw [c3]
            have Hi : Hid (inR x.d.amount = true) := Lib.hid (by rw [← Ham.out]; exact c3)
            clear c3
            go_wp2
            go_roundw
            case rel => exact ⟨k + 1, by omega, by go_num, trivial, Lib.hid (all_step2 hin.out Hxd.out ⟨Ha.out, Hi.out⟩)⟩
            case measure => simp [intOf]; omega
          · have c3' : inR am = false := by simpa using c3
            rw [c3']
            have Hf : Hid (balF (l.map Ln.d) = ([], 3)) := Lib.hid (balF_fault ((faultB_at hin.out Hxd.out).2 Ha.out (by rw [← Ham.out]; exact c3')) (by decide))
            clear c3 c3'
            go_wp2
            go_ret2
            exact BalRes.nil Hf.out (Below.refl _ _)
        · have c2' : acct z = false := by simpa using c2
          rw [c2']
          have Hf : Hid (balF (l.map Ln.d) = ([], 310)) := Lib.hid (balF_fault ((faultB_at hin.out Hxd.out).1 (by rw [Hac.out, c2']; simp)) (by decide))
          clear c1 c2 c2'
          go_wp2
          go_ret2
          exact BalRes.nil Hf.out (Below.refl _ _)
      · have c1' : acct y = false := by simpa using c1
        rw [c1']
        have Hf : Hid (balF (l.map Ln.d) = ([], 310)) := Lib.hid (balF_fault ((faultB_at hin.out Hxd.out).1 (by rw [Hac.out, c1']; simp)) (by decide))
        clear c1 c1'
        go_wp2
        go_ret2
        exact BalRes.nil Hf.out (Below.refl _ _)
    · obtain rfl : k = l.length := by omega
      have Hfz : Hid (faultB (l.map Ln.d) = 0) := Lib.hid (faultB_ok fun j hj => hin.out j (by simpa using hj))
      clear hin
      obtain ⟨ob, hob⟩ : ∃ ob, ob = wr.heap.size := ⟨_, rfl⟩
      have hown0 : (wr.alloc (.cells #[] 3)).ownsRow ob 3 1 (.slice (some ⟨wr.heap.size, 0, none⟩) 0 0) 0 [] := own_empty wr ob 3 1 (Nat.le_of_eq hob)
      have hbel0 : Below ob wr (wr.alloc (.cells #[] 3)) := (Below.refl _ _).alloc (Nat.le_of_eq hob) _
      have hob0 : ob ≤ (wr.alloc (.cells #[] 3)).heap.size := by simp; omega
      have Hl2 : Hid (RdE Ln.cells 44 wr ob A l) := Lib.hid (by rw [hob]; exact Hl.out)
      have Hown0 := Lib.hid hown0
      have Hob := Lib.hid hob
      clear hown0 hob Hl
      obtain ⟨w0, hw0⟩ : ∃ w0, w0 = wr := ⟨_, rfl⟩
      have Hw0 := Lib.hid hw0
      rw [← hw0] at Hl2 Hown0 Hob hbel0 hob0 ⊢
      clear hw0
      go_wp2_with fail
      go_loopw [5, 6] (fun v s wx => ∃ k : Nat, k ≤ 336 ∧ s = .int .i64 k ∧ Hid (∀ j, j < k → inR (flowAt j (l.map Ln.d)) = true) ∧ wx.ownsRow ob 3 1 v (flows (l.map Ln.d) k).length ((flows (l.map Ln.d) k).map (.int .i64)) ∧ Below ob w0 wx ∧ ob ≤ wx.heap.size)
        (fun _ i _ => 336 - (intOf i).toNat)
      case atStart => exact ⟨0, Nat.zero_le _, rfl, Lib.hid (fun j hj => absurd hj (by omega)), by simpa [flows] using Hown0.out, hbel0, hob0⟩
      case round =>
        obtain ⟨k, hk, rfl, hin, hown, hbel, hobx⟩ := hrel
        by_cases hlt : k < 336
        · have i0 : (0 : Int) ≤ (k : Int) := by omega
          have i2 : (k : Int) < 336 := by omega
          have Hown := Lib.hid hown
          have Hbel := Lib.hid hbel
          have Hobx := Lib.hid hobx
          clear hown hbel hobx
          go_wp2_with fail
          have hcall := changes_any l A c (k : Int) wr ((Hl2.out.below Hbel.out).more Hobx.out) Hok.out hn
          refine hcall.mono ?_
          clear hcall
          rintro e w3 ⟨A3, c3, rfl, hr3, hb3⟩
          have hpin : ∀ x ∈ l, inR x.d.amount = true := fun x hx => (faultB_iff.1 Hfz.out x.d (List.mem_map_of_mem hx)).2
          have hps : (partsOf (k : Int) l).sum = flowAt k (l.map Ln.d) := partsOf_sum hpin
          have hpa : (partsOf (k : Int) l).all inR = true := partsOf_inR hpin
          have hso : sumOk (partsOf (k : Int) l) = inR (flowAt k (l.map Ln.d)) := by rw [sumOk, hpa, hps]; rfl
          have hpl : (partsOf (k : Int) l).length ≤ 4611686018427387904 := by have := partsOf_len (k : Int) l; omega
          have Hr3 := Lib.hid hr3
          have Hps := Lib.hid hps
          have Hso := Lib.hid hso
          have Hpl := Lib.hid hpl
          have Hb3 := Lib.hid (below_onF Hbel.out hb3 Hobx.out)
          have Hown3 := Lib.hid (show w3.ownsRow ob 3 1 u5 (flows (l.map Ln.d) k).length ((flows (l.map Ln.d) k).map (.int .i64)) from Hown.out.kept (row := none) (Below.grownNone hb3) (by
            cases h : Value.ownBlock _ with
            | none => exact Or.inl rfl
            | some g => exact Or.inr (by simp)))
          have Hob3 := Lib.hid (Nat.le_trans Hobx.out hb3.size)
          clear hr3 hb3 hpin hps hpa hso hpl
          go_wp2_with fail
          have hcall := refSum_any A3 (partsOf (k : Int) l) c3 w3 Hr3.out Hpl.out
          rw [Hso.out, Hps.out] at hcall
          refine hcall.mono ?_
          clear hcall
          rintro e w4 ⟨rfl, hb4⟩
          have Hb4 := Lib.hid (below_onF Hb3.out hb4 Hob3.out)
          have Hown4 := Lib.hid (show w4.ownsRow ob 3 1 u5 (flows (l.map Ln.d) k).length ((flows (l.map Ln.d) k).map (.int .i64)) from Hown3.out.kept (row := none) (Below.grownNone hb4) (by
            cases h : Value.ownBlock _ with
            | none => exact Or.inl rfl
            | some g => exact Or.inr (by simp)))
          have Hob4 := Lib.hid (Nat.le_trans Hob3.out hb4.size)
          clear hb4 Hown Hown3
          by_cases hs : inR (flowAt k (l.map Ln.d)) = true
          · rw [okPair_yes hs]
            have Hs := Lib.hid hs
            clear hs
            obtain ⟨f, hf⟩ : ∃ f, f = flowAt k (l.map Ln.d) := ⟨_, rfl⟩
            have Hf := Lib.hid hf
            rw [← hf]
            clear hf
            go_wp2_with (first
              | (show wpList _ _ _ (⟨some 55, _, _, _, _, _⟩ :: _) _ _
                 refine wpList_append_int rfl _ _ rfl ob _ _ rfl Hown4.out f rfl (by rw [flows_len]; omega) Hob4.out ?_
                 intro v8 w8 hown8 hb8 hob8
                 have Hown8 := Lib.hid hown8
                 have Hb8 := Lib.hid (Hb4.out.trans hb8)
                 have Hob8 := Lib.hid hob8
                 clear hown8 hb8 hob8)
              | fail)
            go_roundw
            case rel =>
              refine ⟨k + 1, by omega, by go_num, Lib.hid ?_, ?_, Hb8.out, Hob8.out⟩
              · intro j hj
                rcases Nat.lt_succ_iff_lt_or_eq.1 hj with h | rfl
                · exact hin.out j h
                · exact Hs.out
              · rw [flows_succ, ← Hf.out]
                exact Hown8.out
            case measure => simp [intOf]; omega
          · rw [okPair_no hs]
            have Hf : Hid (balF (l.map Ln.d) = ([], 3)) := Lib.hid (balF_three Hfz.out (fun e => hs (balF_inR e hlt)))
            clear hs
            go_wp2
            go_ret2
            exact BalRes.nil Hf.out (by rw [← Hw0.out, ← Hob.out]; exact Hb4.out)
        · obtain rfl : k = 336 := by omega
          rw [flows_all (faultB_zero Hfz.out).1] at hown
          have He : Hid (balF (l.map Ln.d) = (sumsB (l.map Ln.d), 0)) := Lib.hid (balF_ok Hfz.out (fun j hj x hx => by
            rw [sumsB_at (faultB_zero Hfz.out).1 hj] at hx
            injection hx with hx
            rw [← hx]
            exact hin.out j hj))
          obtain ⟨A3, c3, rfl, hr3⟩ := own_ints hown
          have Hr3 := Lib.hid hr3
          have Hbel := Lib.hid hbel
          clear hown hr3 hbel hin
          go_wp2
          go_ret2
          exact ⟨A3, c3, by rw [He.out]; rfl, by rw [← Hw0.out, ← Hob.out]; exact Hbel.out, by rw [He.out]; exact Hr3.out⟩

set_option maxRecDepth 100000 in
theorem refMonthly_any (l : List Ln) (A : Option Addr) (c : Nat) (m : Int) (w : World) (hl : RdE Ln.cells 44 w w.heap.size A l) (hok : ∀ x ∈ l, x.ok) (hn : l.length ≤ 400) :
    Calls Tryz.prog 12 #[.slice A l.length c, .int .i64 m] w (BalRes w ((l.filter (monP m)).map Ln.d)) := by
  have Hl := Lib.hid hl
  have Hok := Lib.hid hok
  clear hl hok
  go_enter Tryz.func12, Tryz.ntmps12
  go_wp2_with fail
  have hcall := ofMonth_any l A c m w Hl.out Hok.out hn
  refine hcall.mono ?_
  clear hcall
  rintro e w1 ⟨A1, c1, rfl, hr1, hb1⟩
  have Hb1 := Lib.hid hb1
  have Hr1 := Lib.hid hr1
  clear hb1 hr1
  go_wp2_with fail
  have hcall := refBalances_any _ A1 c1 w1 Hr1.out (filter_ok Hok.out) (by have := List.length_filter_le (monP m) l; omega)
  refine hcall.mono ?_
  clear hcall
  rintro e w2 hbal
  have hbal2 := hbal.on Hb1.out
  clear hbal
  obtain ⟨A2, c2, rfl, hb3, hrd⟩ := hbal2
  have Hrd := Lib.hid hrd
  have Hb3 := Lib.hid hb3
  clear hrd hb3
  go_wp2_with fail
  go_ret2
  exact ⟨A2, c2, rfl, Hb3.out, Hrd.out⟩
end Go.Proofs.YtcdfjnnkocmeeaaGreatDoor
