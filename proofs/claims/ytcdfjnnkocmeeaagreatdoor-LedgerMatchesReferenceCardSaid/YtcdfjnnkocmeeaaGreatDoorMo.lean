/-
  ledger.Monthly and ledger.Bill.
  Conditions: as each theorem states them.
-/
import Derived.Test.YtcdfjnnkocmeeaaGreatDoorFi
import Derived.Deep.Onto
namespace Go.Proofs.YtcdfjnnkocmeeaaGreatDoor
open Go.RowKit Go.Lib

theorem filter_ok {p : Ln → Bool} {l : List Ln} (h : ∀ x ∈ l, x.ok) : ∀ x ∈ l.filter p, x.ok := fun x hx => h x (List.mem_filter.1 hx).1
theorem FilRes.reads {w : World} {r : List Ln} {e : Ending} {w' : World} (h : FilRes w r e w') (ok : ∀ x ∈ r, x.ok) : ∃ A c, e = .returned (.slice A r.length c) ∧ RdE Ln.cells 44 w' w'.heap.size A r ∧ Below w.heap.size w w' := by
  obtain ⟨v, rfl, hown, hb, _⟩ := h
  obtain ⟨A, c, rfl, hr⟩ := rde_own hown ok
  exact ⟨A, c, rfl, hr, hb⟩

theorem BalRes.on {w w1 w2 : World} {l : List Dl} {e : Ending} (h : BalRes w1 l e w2) (hb : Below w.heap.size w w1) : BalRes w l e w2 := by
  obtain ⟨A, c, h1, h2, h3⟩ := h
  exact ⟨A, c, h1, below_onF hb h2 hb.size, h3⟩

theorem BalFresh.on {w w1 w2 : World} {l : List Dl} {e : Ending} (h : BalFresh w1 l e w2) (hb : Below w.heap.size w w1) : BalFresh w l e w2 := by
  obtain ⟨A, c, h1, h2, h3, h4⟩ := h
  exact ⟨A, c, h1, below_onF hb h2 hb.size, h3, fun b o s hA => Nat.le_trans hb.size (h4 b o s hA)⟩

set_option maxRecDepth 100000 in
theorem monthly_fresh (l : List Ln) (A : Option Addr) (c : Nat) (m : Int) (w : World) (hl : RdE Ln.cells 44 w w.heap.size A l) (hok : ∀ x ∈ l, x.ok) (hn : l.length ≤ 400) :
    Calls Tryz.prog 11 #[.slice A l.length c, .int .i64 m] w (BalFresh w ((l.filter (monP m)).map Ln.d)) := by
  have Hl := Lib.hid hl
  have Hok := Lib.hid hok
  clear hl hok
  go_enter Tryz.func11, Tryz.ntmps11
  go_wp2_with fail
  have hb0 : Below w.heap.size w (w.alloc (.cells #[.int .i64 m] 3)) := (Below.refl _ _).alloc (Nat.le_refl _) _
  have c0 : (w.alloc (.cells #[.int .i64 m] 3)).cell? ⟨w.heap.size, 0, none⟩ = some (.int .i64 m) := (Row.new w 3 #[.int .i64 m]).cell 0
  refine (filter30_any l A c m w.heap.size (w.alloc (.cells #[.int .i64 m] 3)) ((Hl.out.below hb0).more hb0.size) Hok.out hn c0 (by simp)).mono ?_
  rintro e w1 hf
  obtain ⟨A1, c1, rfl, hr1, hb1⟩ := hf.reads (filter_ok Hok.out)
  have hb2 : Below w.heap.size w w1 := below_onF hb0 hb1 hb0.size
  have Hb2 := Lib.hid hb2
  have Hr1 := Lib.hid hr1
  clear hf hb0 c0 hb1 hb2 hr1
  go_wp2_with fail
  refine (balances_fresh _ A1 c1 w1 Hr1.out (filter_ok Hok.out) (by have := List.length_filter_le (monP m) l; omega)).mono ?_
  rintro e w2 hbal
  have hbal2 := hbal.on Hb2.out
  clear hbal
  obtain ⟨A2, c2, rfl, hb3, hrd, hfr⟩ := hbal2
  have Hrd := Lib.hid hrd
  have Hb3 := Lib.hid hb3
  have Hfr := Lib.hid hfr
  clear hrd hb3 hfr
  go_wp2_with fail
  go_ret2
  exact ⟨A2, c2, rfl, Hb3.out, Hrd.out, Hfr.out⟩

theorem monthly_any (l : List Ln) (A : Option Addr) (c : Nat) (m : Int) (w : World) (hl : RdE Ln.cells 44 w w.heap.size A l) (hok : ∀ x ∈ l, x.ok) (hn : l.length ≤ 400) :
    Calls Tryz.prog 11 #[.slice A l.length c, .int .i64 m] w (BalRes w ((l.filter (monP m)).map Ln.d)) := (monthly_fresh l A c m w hl hok hn).mono fun _ _ h => h.res

set_option maxRecDepth 100000 in
theorem bill_any (l : List Ln) (A : Option Addr) (c : Nat) (a m : Int) (w : World) (hl : RdE Ln.cells 44 w w.heap.size A l) (hok : ∀ x ∈ l, x.ok) (hn : l.length ≤ 400) :
    Calls Tryz.prog 15 #[.slice A l.length c, .int .i64 a, .int .i64 m] w (FilRes w (l.filter (billP a m))) := by
  have Hl := Lib.hid hl
  have Hok := Lib.hid hok
  clear hl hok
  go_enter Tryz.func15, Tryz.ntmps15
  go_wp2_with fail
  have hb0 : Below w.heap.size w ((w.alloc (.cells #[.int .i64 a] 3)).alloc (.cells #[.int .i64 m] 3)) := ((Below.refl _ _).alloc (Nat.le_refl _) _).alloc (by simp) _
  have c0 : ((w.alloc (.cells #[.int .i64 a] 3)).alloc (.cells #[.int .i64 m] 3)).cell? ⟨w.heap.size, 0, none⟩ = some (.int .i64 a) := ((Row.new w 3 #[.int .i64 a]).alloc _).cell 0
  have c1 : ((w.alloc (.cells #[.int .i64 a] 3)).alloc (.cells #[.int .i64 m] 3)).cell? ⟨w.heap.size + 1, 0, none⟩ = some (.int .i64 m) := (Row.new1 w _ 3 #[.int .i64 m]).cell 0
  refine (filter32_any l A c a m (w.heap.size + 1) w.heap.size _ ((Hl.out.below hb0).more hb0.size) Hok.out hn c1 (by simp only [World.size_alloc]; omega) c0 (by simp only [World.size_alloc]; omega)).mono ?_
  rintro e w1 ⟨v, rfl, hown, hb1, hsz⟩
  have hown' := hown.mono (base' := w.heap.size) hb0.size
  have Hown := Lib.hid hown'
  have Hb := Lib.hid (below_onF hb0 hb1 hb0.size)
  clear hown hown' hb1 hsz c0 c1 hb0
  go_wp2_with fail
  go_ret
  exact ⟨v, rfl, Hown.out, Hb.out, Hb.out.size⟩
end Go.Proofs.YtcdfjnnkocmeeaaGreatDoor
