/-
  A variable that is laid and stored into whole: it is as if it had been laid with what is stored. No program is in sight here.
-/
import Derived.Test.YtoiipfcmkogcfaaBase
namespace Go.Proofs.Ytoiipfcmkogcfaa
open Go.RowKit

theorem setCell_fresh (w0 : World) (t : TypeId) (zs : Array Value) (o : Nat) (v : Value) : (w0.alloc (.cells zs t)).setCell ⟨w0.heap.size, o, none⟩ v = w0.alloc (.cells (zs.setIfInBounds o v) t) :=
  World.setCell_alloc_at zs t _ o v rfl

theorem setCells_fresh (w0 : World) (t : TypeId) : ∀ (vs pre post : List Value), vs.length = post.length → (w0.alloc (.cells (pre ++ post).toArray t)).setCells w0.heap.size pre.length vs = w0.alloc (.cells (pre ++ vs).toArray t)
  | [], pre, post, h => by
    have : post = [] := List.eq_nil_of_length_eq_zero (by simpa using h.symm)
    subst this
    rfl
  | v :: r, pre, [], h => by simp at h
  | v :: r, pre, p :: ps, h => by
    rw [World.setCells, setCell_fresh]
    have e : (pre ++ p :: ps).toArray.setIfInBounds pre.length v = ((pre ++ [v]) ++ ps).toArray := by
      simp
    rw [e]
    have := setCells_fresh w0 t r (pre ++ [v]) ps (by simpa using h)
    simpa using this

theorem wpList_store_fresh {P : Program} {ops : Array Oper} {rest : List Oper} {op : Oper} {a : Act} {w0 : World} {Q : Exit → Act → World → Prop} {zs : Array Value} {t : TypeId} (hgd : op.guard = none) (ty : TypeId) (x y : Operand) (ho : op.op = .store ty x y)
    (cells : List Value) (hx : a.eval x = .pointer (some ⟨w0.heap.size, 0, none⟩)) (hy : a.eval y = .agg cells.toArray) (hz : zs.size = cells.length) (hi : (P.info? ty).map (·.size) = some cells.length) (h1 : ∀ v ∈ cells, v.oneCell' = true)
    (h : wpList P ops Q rest (a.put op.dst undef) (w0.alloc (.cells cells.toArray t))) : wpList P ops Q (op :: rest) a (w0.alloc (.cells zs t)) := by
  refine wpList_store_mid hgd ty x y ho _ _ cells.toArray hx hy ?_ (by simpa using hi) (all_oneCell_toArray h1) ?_
  · intro j hj
    have hr := Row.new w0 t zs
    exact ⟨by rw [Nat.zero_add, hr.cell]; simp at hj; simp; omega, by rw [Nat.zero_add]; exact hr.frozen j⟩
  · have := setCells_fresh w0 t cells [] zs.toList (by simp [hz])
    simp only [List.nil_append, List.length_nil, Array.toArray_toList] at this
    rw [this]
    exact h

end Go.Proofs.Ytoiipfcmkogcfaa
