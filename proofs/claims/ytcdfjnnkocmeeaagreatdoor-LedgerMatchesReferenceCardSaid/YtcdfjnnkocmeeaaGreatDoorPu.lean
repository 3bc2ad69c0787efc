/-
  A byte appended to a slice that the call owns.
  Conditions: as each theorem states them.
-/
import Derived.Test.YtcdfjnnkocmeeaaGreatDoorBk
import Derived.Laws.AppendOwnNone
import Derived.Deep.AppendLies
namespace Go.Proofs.YtcdfjnnkocmeeaaGreatDoor
open Go.RowKit Go.Lib

def y8 (l : List Int) : List Value := l.map (Value.int .u8)
theorem y8_one (l : List Int) : ∀ v ∈ y8 l, v.oneCell' = true := by
  intro v hv
  obtain ⟨x, _, rfl⟩ := List.mem_map.1 hv
  rfl
theorem info_of {t : TypeId} {n m : Nat} {v : Value} (_hv : v.cells = #[v]) (h : ((Tryz.prog.info? t).any fun i => i.size == n && i.bytes == m) = true) (hz : (Tryz.prog.info? t).bind (·.zero) = some v) : ∃ i, Tryz.prog.info? t = some i ∧ i.zero = some v ∧ i.size = n ∧ i.bytes = m := by
  cases hi : Tryz.prog.info? t with
  | none => rw [hi] at h; cases h
  | some i =>
    rw [hi] at h hz
    simp only [Option.any_some, Bool.and_eq_true, beq_iff_eq] at h
    exact ⟨i, rfl, hz, h.1, h.2⟩
theorem info5 : ∃ i, Tryz.prog.info? 5 = some i ∧ i.zero = some (.int .u8 0) ∧ i.size = 1 ∧ i.bytes = 1 := info_of rfl (by kernel_rfl) (by kernel_rfl)
theorem own_slice {w : World} {base n sz : Nat} {t : TypeId} {v : Value} {xs : List Value} (h : w.ownsRow base t sz v n xs) : ∃ A c, v = .slice A n c := by
  rcases h.2 with ⟨rfl, e⟩ | ⟨g, cap, cur, rfl, _⟩
  · exact ⟨none, 0, by rw [e]⟩
  · exact ⟨_, cap, rfl⟩

/-- What lies below base is as it was. -/
structure Kept (base : Nat) (w0 w' : World) : Prop where
  below : ∀ B a, Below B a w0 → B ≤ base → Below B a w'
  row : ∀ g t cs, Row w0 g t cs → g < base → Row w' g t cs
  size : w0.heap.size ≤ w'.heap.size
theorem Kept.refl (base : Nat) (w : World) : Kept base w w := ⟨fun _ _ h _ => h, fun _ _ _ h _ => h, Nat.le_refl _⟩
theorem Kept.trans {base : Nat} {w0 w1 w2 : World} (h : Kept base w0 w1) (h' : Kept base w1 w2) : Kept base w0 w2 :=
  ⟨fun B a hb hB => h'.below B a (h.below B a hb hB) hB, fun g t cs hr hg => h'.row g t cs (h.row g t cs hr hg) hg, Nat.le_trans h.size h'.size⟩

theorem wpList_push {ops : Array Oper} {rest : List Oper} {o : Oper} {a : Act} {Q : Exit → Act → World → Prop} (W0 : World) (hgd : o.guard = none) (s x : Operand)
    (ho : o.op = .call { callee := .builtin .append, args := #[s, x], argTypes := #[102, 102] }) (base : Nat) (v : Value) (n : Nat) (xs : List Int) (hs : a.eval s = v) (hown : W0.ownsRow base 5 1 v n (y8 xs))
    (b : Int) (hx : a.eval x = .slice (some ⟨W0.heap.size, 0, none⟩) 1 1) (hn : n ≤ 1099511627776) (hbase : base ≤ W0.heap.size)
    (h : ∀ A c w', w'.ownsRow base 5 1 (.slice A (n + 1) c) (n + 1) (y8 (xs ++ [b])) → Kept base W0 w' → wpList Tryz.prog ops Q rest (a.put o.dst (.slice A (n + 1) c)) w') : wpList Tryz.prog ops Q (o :: rest) a (W0.alloc (.cells #[.int .u8 b] 5)) := by
  obtain ⟨i5, hi5, hz5, hs5, hby5⟩ := info5
  have hlt := hown.lt
  refine wpList_append_own _ hgd s x 102 ho base 5 i5 (.int .u8 0) 1 1 Tryz.underlying102 hi5 hz5 hs5 hby5 rfl (by decide) v n _ hs (hown.alloc _) ⟨W0.heap.size, 0, none⟩ 1 1 [.int .u8 b] hx rfl (World.news_of_block (heap_alloc_new W0 _)) (y8_one [b]) (by simp only [maxLen]; omega) (by omega) (by simp; omega) ?_
  intro v' w' hown' hg _
  obtain ⟨A, c, rfl⟩ := own_slice hown'
  refine h A c w' (by simpa [y8] using hown') ⟨fun B a' hb hB => ?_, fun g t cs hr hgb => ?_, ?_⟩
  · exact (hb.alloc (by omega) _).grown hg (by simp; omega) (fun k hk => by have := (hlt k hk).1; omega)
  · exact (hr.alloc _).grown hg (fun e => by have := (hlt g e.symm).1; omega)
  · have := hg.size
    simp at this
    omega

end Go.Proofs.YtcdfjnnkocmeeaaGreatDoor
