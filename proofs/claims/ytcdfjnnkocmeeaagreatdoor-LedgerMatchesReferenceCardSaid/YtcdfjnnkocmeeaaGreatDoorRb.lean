/-
  The reference's Bill, OfMonth, changes, Balances and Monthly.
  Conditions: as each theorem states them.
-/
import Derived.Test.YtcdfjnnkocmeeaaGreatDoorBil
import Derived.Test.YtcdfjnnkocmeeaaGreatDoorWe
namespace Go.Proofs.YtcdfjnnkocmeeaaGreatDoor
open Go.RowKit Go.Lib

theorem wpList_buildSlice_ln {ops : Array Oper} {rest : List Oper} {o : Oper} {a : Act} {w : World} {Q : Exit → Act → World → Prop} (hgd : o.guard = none) (x : Operand) (ho : o.op = .buildSlice 22 1 #[(0, x)]) (y : Ln) (hy : y.ok)
    (hx : a.eval x = .agg y.cells.toArray) (h : wpList Tryz.prog ops Q rest (a.put o.dst (.slice (some ⟨w.heap.size, 0, none⟩) 1 1)) (w.alloc (.cells y.cells.toArray 44))) : wpList Tryz.prog ops Q (o :: rest) a w := by
  obtain ⟨ii, z0, hi, hz, hsz, hby, hzs⟩ := info44
  have hlen : (44 : Nat) = y.cells.length := (Ln.len44 hy).symm
  exact wpList_buildSlice_agg hgd 22 44 x ho y.cells hx ii z0 Tryz.underlying22 hi hz (hsz.trans hlen) (by rw [← hlen]; decide) (by rw [← hlen]; decide) h
theorem wpList_append_ln {ops : Array Oper} {rest : List Oper} {o : Oper} {a : Act} {W : World} {Q : Exit → Act → World → Prop} (hgd : o.guard = none) (s x : Operand)
    (ho : o.op = .call { callee := .builtin .append, args := #[s, x], argTypes := #[22, 22] })
    (ob : Nat) (v : Value) (r : List Ln) (hs : a.eval s = v) (hown : W.ownsRow ob 44 44 v r.length (flat Ln.cells r)) (y : Ln) (hy : y.ok)
    (hx : a.eval x = .slice (some ⟨W.heap.size, 0, none⟩) 1 1) (hL : r.length ≤ 1000) (hob : ob ≤ W.heap.size)
    (h : ∀ v' w', w'.ownsRow ob 44 44 v' (r ++ [y]).length (flat Ln.cells (r ++ [y])) → Below ob W w' → ob ≤ w'.heap.size → wpList Tryz.prog ops Q rest (a.put o.dst v') w') : wpList Tryz.prog ops Q (o :: rest) a (W.alloc (.cells y.cells.toArray 44)) := by
  obtain ⟨ii, z0, hi, hz, hsz, hby, hzs⟩ := info44
  have hown2 := hown.alloc (.cells y.cells.toArray 44)
  have hnews : ∀ (jj : Nat) (u : Value), y.cells[jj]? = some u → (W.alloc (.cells y.cells.toArray 44)).cell? ((⟨W.heap.size, 0, none⟩ : Addr).add jj) = some u := World.news_of_block (heap_alloc_new W _)
  have hobA : ob ≤ (W.alloc (.cells y.cells.toArray 44)).heap.size := by simp; omega
  refine wpList_append_own _ hgd s x 22 ho ob 44 ii z0 44 128 Tryz.underlying22 hi hz hsz hby hzs (by decide) v r.length _ hs hown2 ⟨W.heap.size, 0, none⟩ 1 1 y.cells hx (by rw [Ln.len44 hy]) hnews (one44 hy) (by simp only [maxLen]; omega) (by omega) hobA ?_
  intro v' w' h1 h2 _
  refine h v' w' ?_ (((Below.refl ob W).alloc hob _).grown h2 hobA (fun k' hk' => (hown.lt k' hk').1)) (Nat.le_trans hobA h2.size)
  rw [flat_append]
  simpa [flat] using h1

/-- What is known where a list of lines is handed back. -/
def LnsRes (w : World) (r : List Ln) (e : Ending) (w' : World) : Prop := ∃ A c, e = .returned (.slice A r.length c) ∧ RdE Ln.cells 44 w' w'.heap.size A r ∧ Below w.heap.size w w'
/-- What is known where a list of numbers is handed back. -/
def IntsRes (w : World) (r : List Int) (e : Ending) (w' : World) : Prop := ∃ A c, e = .returned (.slice A r.length c) ∧ RdI w' w'.heap.size A r ∧ Below w.heap.size w w'

set_option maxRecDepth 100000 in
set_option maxHeartbeats 4000000 in
theorem refBill_any (l : List Ln) (A : Option Addr) (c : Nat) (a m : Int) (w : World) (hl : RdE Ln.cells 44 w w.heap.size A l) (hok : ∀ x ∈ l, x.ok) (hn : l.length ≤ 400) :
    Calls Tryz.prog 16 #[.slice A l.length c, .int .i64 a, .int .i64 m] w (LnsRes w (l.filter (billP a m))) := by
  have Hl := Lib.hid hl
  have Hok := Lib.hid hok
  clear hl hok
  go_enter Tryz.func16, Tryz.ntmps16
  obtain ⟨ob, hob⟩ : ∃ ob, ob = w.heap.size := ⟨_, rfl⟩
  have hown0 : (w.alloc (.cells #[] 44)).ownsRow ob 44 44 (.slice (some ⟨w.heap.size, 0, none⟩) 0 0) 0 [] := own_empty w ob 44 44 (Nat.le_of_eq hob)
  have hbel0 : Below ob w (w.alloc (.cells #[] 44)) := (Below.refl _ _).alloc (Nat.le_of_eq hob) _
  have hob0 : ob ≤ (w.alloc (.cells #[] 44)).heap.size := by simp; omega
  have Hl2 : Hid (RdE Ln.cells 44 w ob A l) := Lib.hid (by rw [hob]; exact Hl.out)
  have Hown0 := Lib.hid hown0
  have Hob := Lib.hid hob
  clear hown0 hob Hl
  go_wp2_with fail
  go_loopw [7, 8] (fun v s wx => ∃ (k : Nat) (r : List Ln), k ≤ l.length ∧ s = .int .i64 k ∧ Hid (r = (l.take k).filter (billP a m) ∧ r.length ≤ k) ∧ wx.ownsRow ob 44 44 v r.length (flat Ln.cells r) ∧ Below ob w wx ∧ ob ≤ wx.heap.size)
    (fun _ i _ => l.length - (intOf i).toNat)
  case atStart => exact ⟨0, [], Nat.zero_le _, rfl, Lib.hid ⟨by simp, by simp⟩, by simpa [flat] using Hown0.out, hbel0, hob0⟩
  case round =>
    obtain ⟨k, r, hk, rfl, hrel, hown, hbel, hobx⟩ := hrel
    by_cases hlt : k < l.length
    · obtain ⟨x, hx⟩ : ∃ x, l[k]? = some x := ⟨_, List.getElem?_eq_getElem hlt⟩
      obtain ⟨b, off, rfl, hbw, cx⟩ := Hl2.out k x hx
      have i0 : (0 : Int) ≤ (k : Int) := by omega
      have i2 : (k : Int) < (l.length : Int) := by omega
      obtain ⟨y, hy⟩ : ∃ y, y = x.d.payer := ⟨_, rfl⟩
      obtain ⟨z, hz⟩ : ∃ z, z = x.d.payee := ⟨_, rfl⟩
      obtain ⟨t, ht⟩ : ∃ t, t = x.d.month := ⟨_, rfl⟩
      have hrg : wr.rangeAt b (off + k * 44) x.cells := fun j v hv => (hbel.cell (p := ⟨b, _, none⟩) hbw).trans (cx j v hv)
      have p5 : wr.cell? ⟨b, off + k * 44 + 5, none⟩ = some (.int .i64 y) := by rw [hy]; exact hrg 5 _ rfl
      have p6 : wr.cell? ⟨b, off + k * 44 + 6, none⟩ = some (.int .i64 z) := by rw [hz]; exact hrg 6 _ rfl
      have p7 : wr.cell? ⟨b, off + k * 44 + 7, none⟩ = some (.int .i64 t) := by rw [ht]; exact hrg 7 _ rfl
      have hxo := Hok.out x (List.mem_of_getElem? hx)
      have hs : (Tryz.prog.info? 44).map (·.size) = some x.cells.length := by rw [Tryz.size44, Ln.len44 hxo]
      have hyes : (billP a m) x = true → (l.take (k + 1)).filter (billP a m) = r ++ [x] := fun h => by rw [filter_take hx, if_pos h, ← hrel.out.1]
      have hno : (billP a m) x = false → (l.take (k + 1)).filter (billP a m) = r := fun h => by rw [filter_take hx, h, ← hrel.out.1]; simp
      have Hyes := Lib.hid hyes
      have Hno := Lib.hid hno
      have Hxo := Lib.hid hxo
      have Hs := Lib.hid hs
      have Hx := Lib.hid hx
      have Hy := Lib.hid hy
      have Hz := Lib.hid hz
      have Ht := Lib.hid ht
      have Hrg := Lib.hid hrg
      have Hown := Lib.hid hown
      have Hbel := Lib.hid hbel
      have Hr := Lib.hid hrel.out.2
      have Hr2 : Hid (r.length ≤ 1000) := Lib.hid (by have := hrel.out.2; omega)
      clear hx hy hz ht hxo hs hyes hno hrg hown hbel hrel cx
      by_cases c1 : t = m
      · by_cases c2 : y = a
        · have hP : (billP a m) x = true := by simp [billP, ← Ht.out, ← Hy.out, ← Hz.out, c1, c2]
          have HP := Lib.hid (Hyes.out hP)
          clear hP
          go_wp2_with (first
            | (show wpList _ _ _ (⟨some 45, Op.load 44 _, _, _, _, _⟩ :: _) _ _; refine wpList_load_mid rfl 44 _ rfl _ _ rfl _ _ Hrg.out Tryz.underlying44 rfl Hs.out ?_)
            | (show wpList _ _ _ (⟨some 46, Op.buildSlice 22 1 _, _, _, _, _⟩ :: _) _ _; refine wpList_buildSlice_ln rfl _ rfl x Hxo.out rfl ?_)
            | (show wpList _ _ _ (⟨some 47, _, _, _, _, _⟩ :: _) _ _
               refine wpList_append_ln rfl _ _ rfl ob _ r rfl Hown.out x Hxo.out rfl Hr2.out hobx ?_
               intro v8 w8 hown8 hb8 hob8
               have Hown8 := Lib.hid hown8
               have Hb8 := Lib.hid (Hbel.out.trans hb8)
               have Hob8 := Lib.hid hob8
               clear hown8 hb8 hob8)
            | fail)
          go_roundw
          case rel => exact ⟨k + 1, r ++ [x], by omega, by go_num, Lib.hid ⟨HP.out.symm, by have := Hr.out; simp; omega⟩, Hown8.out, Hb8.out, Hob8.out⟩
          case measure => simp [intOf]; omega
        · by_cases c3 : z = a
          · have hP : (billP a m) x = true := by simp [billP, ← Ht.out, ← Hy.out, ← Hz.out, c1, c2, c3]
            have HP := Lib.hid (Hyes.out hP)
            clear hP
            go_wp2_with (first
              | (show wpList _ _ _ (⟨some 45, Op.load 44 _, _, _, _, _⟩ :: _) _ _; refine wpList_load_mid rfl 44 _ rfl _ _ rfl _ _ Hrg.out Tryz.underlying44 rfl Hs.out ?_)
              | (show wpList _ _ _ (⟨some 46, Op.buildSlice 22 1 _, _, _, _, _⟩ :: _) _ _; refine wpList_buildSlice_ln rfl _ rfl x Hxo.out rfl ?_)
              | (show wpList _ _ _ (⟨some 47, _, _, _, _, _⟩ :: _) _ _
                 refine wpList_append_ln rfl _ _ rfl ob _ r rfl Hown.out x Hxo.out rfl Hr2.out hobx ?_
                 intro v8 w8 hown8 hb8 hob8
                 have Hown8 := Lib.hid hown8
                 have Hb8 := Lib.hid (Hbel.out.trans hb8)
                 have Hob8 := Lib.hid hob8
                 clear hown8 hb8 hob8)
              | fail)
            go_roundw
            case rel => exact ⟨k + 1, r ++ [x], by omega, by go_num, Lib.hid ⟨HP.out.symm, by have := Hr.out; simp; omega⟩, Hown8.out, Hb8.out, Hob8.out⟩
            case measure => simp [intOf]; omega
          · have hP : (billP a m) x = false := by simp [billP, ← Ht.out, ← Hy.out, ← Hz.out, c1, c2, c3]
            have HP := Lib.hid (Hno.out hP)
            clear hP
            have e2 : (y == a) = false := by simpa using c2
            have e3 : (z == a) = false := by simpa using c3
            go_wp2
            go_roundw
            case rel => exact ⟨k + 1, r, by omega, by go_num, Lib.hid ⟨HP.out.symm, by have := Hr.out; omega⟩, Hown.out, Hbel.out, hobx⟩
            case measure => simp [intOf]; omega
      · have hP : (billP a m) x = false := by simp [billP, ← Ht.out, c1]
        have HP := Lib.hid (Hno.out hP)
        clear hP
        have e1 : (t == m) = false := by simpa using c1
        go_wp2
        go_roundw
        case rel => exact ⟨k + 1, r, by omega, by go_num, Lib.hid ⟨HP.out.symm, by have := Hr.out; omega⟩, Hown.out, Hbel.out, hobx⟩
        case measure => simp [intOf]; omega
    · obtain rfl : k = l.length := by omega
      obtain ⟨hr, _⟩ := hrel.out
      rw [List.take_length] at hr
      subst hr
      obtain ⟨A3, c3, rfl, hr3⟩ := rde_own hown (filter_ok Hok.out)
      have Hr3 := Lib.hid hr3
      have Hb3 := Lib.hid (show Below w.heap.size w wr by rw [← Hob.out]; exact hbel)
      clear hown hr3 hbel hrel
      go_wp2
      go_ret
      exact ⟨A3, c3, rfl, Hr3.out, Hb3.out⟩

set_option maxRecDepth 100000 in
set_option maxHeartbeats 4000000 in
theorem ofMonth_any (l : List Ln) (A : Option Addr) (c : Nat) (m : Int) (w : World) (hl : RdE Ln.cells 44 w w.heap.size A l) (hok : ∀ x ∈ l, x.ok) (hn : l.length ≤ 400) :
    Calls Tryz.prog 31 #[.slice A l.length c, .int .i64 m] w (LnsRes w (l.filter (monP m))) := by
  have Hl := Lib.hid hl
  have Hok := Lib.hid hok
  clear hl hok
  go_enter Tryz.func31, Tryz.ntmps31
  obtain ⟨ob, hob⟩ : ∃ ob, ob = w.heap.size := ⟨_, rfl⟩
  have hown0 : (w.alloc (.cells #[] 44)).ownsRow ob 44 44 (.slice (some ⟨w.heap.size, 0, none⟩) 0 0) 0 [] := own_empty w ob 44 44 (Nat.le_of_eq hob)
  have hbel0 : Below ob w (w.alloc (.cells #[] 44)) := (Below.refl _ _).alloc (Nat.le_of_eq hob) _
  have hob0 : ob ≤ (w.alloc (.cells #[] 44)).heap.size := by simp; omega
  have Hl2 : Hid (RdE Ln.cells 44 w ob A l) := Lib.hid (by rw [hob]; exact Hl.out)
  have Hown0 := Lib.hid hown0
  have Hob := Lib.hid hob
  clear hown0 hob Hl
  go_wp2_with fail
  go_loopw [5, 6] (fun v s wx => ∃ (k : Nat) (r : List Ln), k ≤ l.length ∧ s = .int .i64 k ∧ Hid (r = (l.take k).filter (monP m) ∧ r.length ≤ k) ∧ wx.ownsRow ob 44 44 v r.length (flat Ln.cells r) ∧ Below ob w wx ∧ ob ≤ wx.heap.size)
    (fun _ i _ => l.length - (intOf i).toNat)
  case atStart => exact ⟨0, [], Nat.zero_le _, rfl, Lib.hid ⟨by simp, by simp⟩, by simpa [flat] using Hown0.out, hbel0, hob0⟩
  case round =>
    obtain ⟨k, r, hk, rfl, hrel, hown, hbel, hobx⟩ := hrel
    by_cases hlt : k < l.length
    · obtain ⟨x, hx⟩ : ∃ x, l[k]? = some x := ⟨_, List.getElem?_eq_getElem hlt⟩
      obtain ⟨b, off, rfl, hbw, cx⟩ := Hl2.out k x hx
      have i0 : (0 : Int) ≤ (k : Int) := by omega
      have i2 : (k : Int) < (l.length : Int) := by omega
      obtain ⟨y, hy⟩ : ∃ y, y = x.d.payer := ⟨_, rfl⟩
      obtain ⟨z, hz⟩ : ∃ z, z = x.d.payee := ⟨_, rfl⟩
      obtain ⟨t, ht⟩ : ∃ t, t = x.d.month := ⟨_, rfl⟩
      have hrg : wr.rangeAt b (off + k * 44) x.cells := fun j v hv => (hbel.cell (p := ⟨b, _, none⟩) hbw).trans (cx j v hv)
      have p5 : wr.cell? ⟨b, off + k * 44 + 5, none⟩ = some (.int .i64 y) := by rw [hy]; exact hrg 5 _ rfl
      have p6 : wr.cell? ⟨b, off + k * 44 + 6, none⟩ = some (.int .i64 z) := by rw [hz]; exact hrg 6 _ rfl
      have p7 : wr.cell? ⟨b, off + k * 44 + 7, none⟩ = some (.int .i64 t) := by rw [ht]; exact hrg 7 _ rfl
      have hxo := Hok.out x (List.mem_of_getElem? hx)
      have hs : (Tryz.prog.info? 44).map (·.size) = some x.cells.length := by rw [Tryz.size44, Ln.len44 hxo]
      have hyes : (monP m) x = true → (l.take (k + 1)).filter (monP m) = r ++ [x] := fun h => by rw [filter_take hx, if_pos h, ← hrel.out.1]
      have hno : (monP m) x = false → (l.take (k + 1)).filter (monP m) = r := fun h => by rw [filter_take hx, h, ← hrel.out.1]; simp
      have Hyes := Lib.hid hyes
      have Hno := Lib.hid hno
      have Hxo := Lib.hid hxo
      have Hs := Lib.hid hs
      have Hx := Lib.hid hx
      have Hy := Lib.hid hy
      have Hz := Lib.hid hz
      have Ht := Lib.hid ht
      have Hrg := Lib.hid hrg
      have Hown := Lib.hid hown
      have Hbel := Lib.hid hbel
      have Hr := Lib.hid hrel.out.2
      have Hr2 : Hid (r.length ≤ 1000) := Lib.hid (by have := hrel.out.2; omega)
      clear hx hy hz ht hxo hs hyes hno hrg hown hbel hrel cx
      by_cases c1 : t = m
      · have hP : (monP m) x = true := by simp [monP, ← Ht.out, c1]
        have HP := Lib.hid (Hyes.out hP)
        clear hP
        go_wp2_with (first
          | (show wpList _ _ _ (⟨some 25, Op.load 44 _, _, _, _, _⟩ :: _) _ _; refine wpList_load_mid rfl 44 _ rfl _ _ rfl _ _ Hrg.out Tryz.underlying44 rfl Hs.out ?_)
          | (show wpList _ _ _ (⟨some 26, Op.buildSlice 22 1 _, _, _, _, _⟩ :: _) _ _; refine wpList_buildSlice_ln rfl _ rfl x Hxo.out rfl ?_)
          | (show wpList _ _ _ (⟨some 27, _, _, _, _, _⟩ :: _) _ _
             refine wpList_append_ln rfl _ _ rfl ob _ r rfl Hown.out x Hxo.out rfl Hr2.out hobx ?_
             intro v8 w8 hown8 hb8 hob8
             have Hown8 := Lib.hid hown8
             have Hb8 := Lib.hid (Hbel.out.trans hb8)
             have Hob8 := Lib.hid hob8
             clear hown8 hb8 hob8)
          | fail)
        go_roundw
        case rel => exact ⟨k + 1, r ++ [x], by omega, by go_num, Lib.hid ⟨HP.out.symm, by have := Hr.out; simp; omega⟩, Hown8.out, Hb8.out, Hob8.out⟩
        case measure => simp [intOf]; omega
      · have hP : (monP m) x = false := by simp [monP, ← Ht.out, c1]
        have HP := Lib.hid (Hno.out hP)
        clear hP
        go_wp2
        go_roundw
        case rel => exact ⟨k + 1, r, by omega, by go_num, Lib.hid ⟨HP.out.symm, by have := Hr.out; omega⟩, Hown.out, Hbel.out, hobx⟩
        case measure => simp [intOf]; omega
    · obtain rfl : k = l.length := by omega
      obtain ⟨hr, _⟩ := hrel.out
      rw [List.take_length] at hr
      subst hr
      obtain ⟨A3, c3, rfl, hr3⟩ := rde_own hown (filter_ok Hok.out)
      have Hr3 := Lib.hid hr3
      have Hb3 := Lib.hid (show Below w.heap.size w wr by rw [← Hob.out]; exact hbel)
      clear hown hr3 hbel hrel
      go_wp2
      go_ret
      exact ⟨A3, c3, rfl, Hr3.out, Hb3.out⟩
end Go.Proofs.YtcdfjnnkocmeeaaGreatDoor
