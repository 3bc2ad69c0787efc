/-
  Ledger lines: their cells; a filter's closures.
  Conditions: as each theorem states them.
-/
import Derived.Test.YtcdfjnnkocmeeaaGreatDoorBw
import Derived.Test.YtcdfjnnkocmeeaaGreatDoorBs
namespace Go.Proofs.YtcdfjnnkocmeeaaGreatDoor
open Go.RowKit Go.Lib

/-- A line's cells, always 44 of them. -/
def Ln.c44 (x : Ln) : List Value := (x.cells ++ List.replicate 44 (Value.int .i64 0)).take 44
theorem Ln.c44_len (x : Ln) : x.c44.length = 44 := by simp [Ln.c44]
theorem Ln.len44 {x : Ln} (h : x.ok) : x.cells.length = 44 := by simp [Ln.cells, Dl.cells, h.1]
theorem Ln.c44_ok {x : Ln} (h : x.ok) : x.c44 = x.cells := by
  have e : x.cells.length = 44 := Ln.len44 h
  rw [Ln.c44, ← e, List.take_left]
theorem flat_c44 : ∀ {l : List Ln}, (∀ x ∈ l, x.ok) → flat Ln.c44 l = flat Ln.cells l
  | [], _ => rfl
  | x :: r, h => by rw [flat, flat, Ln.c44_ok (h x (List.mem_cons_self ..)), flat_c44 fun y hy => h y (List.mem_cons_of_mem _ hy)]
theorem rde_c44 {w : World} {B : Nat} {A : Option Addr} {l : List Ln} (h : RdE Ln.c44 44 w B A l) (ok : ∀ x ∈ l, x.ok) : RdE Ln.cells 44 w B A l := by
  intro i x hx
  obtain ⟨b, off, e, hb, c⟩ := h i x hx
  rw [Ln.c44_ok (ok x (List.mem_of_getElem? hx))] at c
  exact ⟨b, off, e, hb, c⟩
theorem one44 {x : Ln} (h : x.ok) : ∀ v ∈ x.cells, v.oneCell' = true := by
  intro v hv
  rcases List.mem_append.1 hv with h1 | h1
  · exact Dl.cells_one _ v h1
  · exact h.2.1 v h1
/-- A slice of lines that the call owns reads as its list. -/
theorem rde_own {w : World} {base : Nat} {t : TypeId} {v : Value} {l : List Ln} (h : w.ownsRow base t 44 v l.length (flat Ln.cells l)) (ok : ∀ x ∈ l, x.ok) : ∃ A c, v = .slice A l.length c ∧ RdE Ln.cells 44 w w.heap.size A l := by
  rw [← flat_c44 ok] at h
  obtain ⟨A, c, e, hr⟩ := RdE.of_own Ln.c44_len h
  exact ⟨A, c, e, rde_c44 hr ok⟩
theorem info44 : ∃ i z, Tryz.prog.info? 44 = some i ∧ i.zero = some z ∧ i.size = 44 ∧ i.bytes = 128 ∧ z.cells.size = 44 := by
  have h : ((Tryz.prog.info? 44).any fun i => i.size == 44 && i.bytes == 128 && (i.zero.any fun z => z.cells.size == 44)) = true := by kernel_rfl
  cases hi : Tryz.prog.info? 44 with
  | none => rw [hi] at h; cases h
  | some i =>
    rw [hi] at h
    simp only [Option.any_some, Bool.and_eq_true, beq_iff_eq] at h
    cases hz : i.zero with
    | none => rw [hz] at h; simp at h
    | some z =>
      rw [hz] at h
      exact ⟨i, z, rfl, hz, h.1.1, h.1.2, by simpa using h.2⟩

def monP (m : Int) (x : Ln) : Bool := decide (x.d.month = m)
def billP (a m : Int) (x : Ln) : Bool := decide (x.d.month = m) && (decide (x.d.payer = a) || decide (x.d.payee = a))

theorem beqd (a b : Int) : (a == b) = decide (a = b) := by rw [Bool.eq_iff_iff]; simp
theorem clo30_any (x : Ln) (m : Int) (mb : Nat) (w : World) (hm : w.cell? ⟨mb, 0, none⟩ = some (.int .i64 m)) (hmb : mb < w.heap.size) :
    Calls Tryz.prog 30 #[.agg x.cells.toArray, .pointer (some ⟨mb, 0, none⟩)] w fun e w' => e = .returned (.bool (monP m x)) ∧ Below w.heap.size w w' := by
  go_enter Tryz.func30, Tryz.ntmps30
  go_upto_region 1 with fail
  have c7 : (w.alloc (.cells x.cells.toArray 44)).cell? ⟨w.heap.size, 7, none⟩ = some (.int .i64 x.d.month) := by rw [(Row.new w 44 x.cells.toArray).cell]; rfl
  have hm' : (w.alloc (.cells x.cells.toArray 44)).cell? ⟨mb, 0, none⟩ = some (.int .i64 m) := (((Below.refl w.heap.size w).alloc (Nat.le_refl _) _).cell (p := ⟨mb, 0, none⟩) hmb).trans hm
  refine (?_ : ∀ w1 : World, w1.cell? ⟨w.heap.size, 7, none⟩ = some (.int .i64 x.d.month) ∧ w1.cell? ⟨mb, 0, none⟩ = some (.int .i64 m) ∧ Below w.heap.size w w1 → Code.wp _ _ _ _ w1) _ ⟨c7, hm', (Below.refl w.heap.size w).alloc (Nat.le_refl _) _⟩
  clear c7 hm'
  rintro w1 ⟨c7, hm', hb⟩
  go_wp2_with fail
  all_goals
    go_ret
    exact ⟨rfl, hb⟩

theorem clo32_any (x : Ln) (a m : Int) (mb ab : Nat) (w : World) (hm : w.cell? ⟨mb, 0, none⟩ = some (.int .i64 m)) (hmb : mb < w.heap.size) (ha : w.cell? ⟨ab, 0, none⟩ = some (.int .i64 a)) (hab : ab < w.heap.size) :
    Calls Tryz.prog 32 #[.agg x.cells.toArray, .pointer (some ⟨mb, 0, none⟩), .pointer (some ⟨ab, 0, none⟩)] w fun e w' => e = .returned (.bool (billP a m x)) ∧ Below w.heap.size w w' := by
  go_enter Tryz.func32, Tryz.ntmps32
  go_upto_region 1 with fail
  have c7 : (w.alloc (.cells x.cells.toArray 44)).cell? ⟨w.heap.size, 7, none⟩ = some (.int .i64 x.d.month) := by rw [(Row.new w 44 x.cells.toArray).cell]; rfl
  have c5 : (w.alloc (.cells x.cells.toArray 44)).cell? ⟨w.heap.size, 5, none⟩ = some (.int .i64 x.d.payer) := by rw [(Row.new w 44 x.cells.toArray).cell]; rfl
  have c6 : (w.alloc (.cells x.cells.toArray 44)).cell? ⟨w.heap.size, 6, none⟩ = some (.int .i64 x.d.payee) := by rw [(Row.new w 44 x.cells.toArray).cell]; rfl
  have hm' : (w.alloc (.cells x.cells.toArray 44)).cell? ⟨mb, 0, none⟩ = some (.int .i64 m) := (((Below.refl w.heap.size w).alloc (Nat.le_refl _) _).cell (p := ⟨mb, 0, none⟩) hmb).trans hm
  have ha' : (w.alloc (.cells x.cells.toArray 44)).cell? ⟨ab, 0, none⟩ = some (.int .i64 a) := (((Below.refl w.heap.size w).alloc (Nat.le_refl _) _).cell (p := ⟨ab, 0, none⟩) hab).trans ha
  refine (?_ : ∀ w1 : World, w1.cell? ⟨w.heap.size, 7, none⟩ = some (.int .i64 x.d.month) ∧ w1.cell? ⟨w.heap.size, 5, none⟩ = some (.int .i64 x.d.payer) ∧ w1.cell? ⟨w.heap.size, 6, none⟩ = some (.int .i64 x.d.payee) ∧ w1.cell? ⟨mb, 0, none⟩ = some (.int .i64 m) ∧ w1.cell? ⟨ab, 0, none⟩ = some (.int .i64 a) ∧ Below w.heap.size w w1 → Code.wp _ _ _ _ w1) _ ⟨c7, c5, c6, hm', ha', (Below.refl w.heap.size w).alloc (Nat.le_refl _) _⟩
  clear c7 c5 c6 hm' ha'
  rintro w1 ⟨c7, c5, c6, hm', ha', hb⟩
  go_wp2_with fail
  all_goals
    go_ret
    exact ⟨ret_bool (by clear hm ha; simp_all [billP, beqd]), hb⟩

/-- What a filter leaves: a slice of its own. -/
def FilRes (w : World) (r : List Ln) (e : Ending) (w' : World) : Prop :=
  ∃ v, e = .returned v ∧ w'.ownsRow w.heap.size 44 44 v r.length (flat Ln.cells r) ∧ Below w.heap.size w w' ∧ w.heap.size ≤ w'.heap.size
theorem filter_take {α : Type} {p : α → Bool} {l : List α} {k : Nat} {x : α} (hx : l[k]? = some x) : (l.take (k + 1)).filter p = (l.take k).filter p ++ (if p x = true then [x] else []) := by
  obtain ⟨hk, rfl⟩ := List.getElem?_eq_some_iff.1 hx
  rw [List.take_add_one, List.getElem?_eq_getElem hk, List.filter_append]
  simp [List.filter_cons]
theorem filter_len {α : Type} {p : α → Bool} {l : List α} {k : Nat} : ((l.take k).filter p).length ≤ l.length := by
  have h1 := List.length_filter_le p (l.take k)
  have h2 : (l.take k).length ≤ l.length := by simp; omega
  omega
end Go.Proofs.YtcdfjnnkocmeeaaGreatDoor
