/-
  A slice literal of one struct: its row is the struct's cells. No program is in sight here.
-/
import Derived.Test.YtoiipfcmkogcfaaBase
import Derived.Great.BuildSlice
namespace Go.Proofs.Ytoiipfcmkogcfaa
open Go.RowKit

theorem foldl_fill : ∀ (vs pre post : List Value), vs.length = post.length → ((vs.zipIdx pre.length).foldl (fun (cs : Array Value) (x : Value × Nat) => cs.setIfInBounds (0 + x.2) x.1) (pre ++ post).toArray) = (pre ++ vs).toArray
  | [], pre, post, h => by
    have : post = [] := List.eq_nil_of_length_eq_zero (by simpa using h.symm)
    subst this
    rfl
  | v :: r, pre, [], h => by simp at h
  | v :: r, pre, p :: ps, h => by
    rw [List.zipIdx_cons, List.foldl_cons]
    have e : (pre ++ p :: ps).toArray.setIfInBounds (0 + pre.length) v = ((pre ++ [v]) ++ ps).toArray := by
      simp
    rw [e]
    have := foldl_fill r (pre ++ [v]) ps (by simpa using h)
    simpa using this
theorem fill_one (cs : List Value) (n : Nat) (zs : Array Value) (hn : cs.length = n) (hz : zs.size = n) : Instr.fill (fun i => some (i * n, n)) zs [(0, .agg cs.toArray)] = some cs.toArray := by
  unfold Instr.fill
  simp only [Value.cells, List.size_toArray, Nat.zero_mul, Nat.zero_add]
  rw [if_neg (by simp; omega)]
  unfold Instr.fill
  congr 1
  have h := foldl_fill cs [] zs.toList (by simp [hn, hz])
  simp only [List.nil_append, List.length_nil, Array.toArray_toList, Nat.zero_add] at h
  rw [← Array.foldl_toList]
  simpa using h
theorem wpList_buildSlice_agg {P : Program} {ops : Array Oper} {rest : List Oper} {o : Oper} {a : Act} {w : World} {Q : Exit → Act → World → Prop} (hg : o.guard = none) (t e : TypeId) (x : Operand) (ho : o.op = .buildSlice t 1 #[(0, x)])
    (cs : List Value) (hx : a.eval x = .agg cs.toArray) (ie : TypeInfo) (z : Value) (hu : P.underlying t = some (.slice e)) (hie : P.info? e = some ie) (hz : ie.zero = some z) (hs : ie.size = cs.length) (hsmall : cs.length ≤ 16777216) (hpos : 0 < cs.length)
    (h : wpList P ops Q rest (a.put o.dst (.slice (some ⟨w.heap.size, 0, none⟩) 1 1)) (w.alloc (.cells cs.toArray e))) : wpList P ops Q (o :: rest) a w := by
  refine Go.wpList_buildSlice hg t e 1 #[(0, x)] ho cs.toArray ie z hu hie hz (by rw [hs]; omega) (by rw [hs]; omega) ?_ h
  have := fill_one cs ie.size ((Array.range (1 * ie.size)).map (z.cells[· % z.cells.size]!)) hs.symm (by simp)
  simpa [hx] using this

end Go.Proofs.Ytoiipfcmkogcfaa
