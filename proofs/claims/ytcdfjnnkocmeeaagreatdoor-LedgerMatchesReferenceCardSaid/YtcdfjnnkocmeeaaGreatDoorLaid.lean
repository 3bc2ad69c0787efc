/-
  What the listed variables give: the calendar's table and the digest's table hold what the program's text lays.
  Conditions: as each theorem states them.
-/
import Derived.Test.YtcdfjnnkocmeeaaGreatDoorRows
import Derived.Test.YtcdfjnnkocmeeaaGreatDoorCal
import Derived.OpenVars
import Derived.OpenShut
import Derived.LaidMore
import Derived.Lay
import Derived.LaidOnce
namespace Go.Proofs.YtcdfjnnkocmeeaaGreatDoor
open Go.ChangeShapes Go.WideShapes Go.RowKit

def laid4 : List (String × DataW Unit) := [("math/bits.deBruijn32tab", Rows.laid_math_bits_deBruijn32tab), ("math/bits.deBruijn64tab", Rows.laid_math_bits_deBruijn64tab), ("wagonpool/calendar.before", Rows.laid_wagonpool_calendar_before), ("wagonpool/digest.k", Rows.laid_wagonpool_digest_k)]

/-- An array of numbers whose datum is known: its cells. -/
theorem cells_of_datum {H : Type} {enc : TypeId × Value → H} {W : World} {base : Nat} {spare : Nat → Bool} {held : Bool} {fuel : Nat} {t e : TypeId} {n : Nat} {k : IntKind} {cs : List Value} {L : List Int} {p : List MemPlace}
    (ht : Tryz.prog.underlying t = some (.array n e)) (he : Tryz.prog.underlying e = some (.int k)) (hc : Tryz.prog.cellsOf e = 1)
    (h : DataW.trod enc Tryz.prog W base spare held fuel t cs = some (.agg (L.map fun z => .lit (.int k z)), p)) (i : Nat) (hi : i < n) : cs[i]? = some (.int k (L.getD i 0)) := by
  obtain ⟨xs, m, _, ex, hlen, hl, hel⟩ := DataW.trod_array ht h
  have hx := hel i hi
  rw [hc, Nat.mul_one, List.getElem?_eq_getElem (by omega)] at hx
  obtain ⟨z, a0, b0, _⟩ := DataW.trod_int he hx
  have e3 := DataW.agg.inj (Prod.mk.inj ex).1
  have e4 : (L.map fun z => (DataW.lit (.int k z) : DataW H))[i]? = some (.lit (.int k z)) := by
    rw [e3, List.getElem?_map, List.getElem?_eq_getElem (by omega), b0]
    rfl
  rw [List.getElem?_map] at e4
  cases hL : L[i]? with
  | none => rw [hL] at e4; simp at e4
  | some y =>
    rw [hL] at e4
    have hy : y = z := by
      have h2 := DataW.lit.inj (Option.some.inj e4)
      exact (Lit.int.inj h2).2
    have h1 : ((cs.drop i).take 1)[0]? = some (.int k z) := by rw [a0]; rfl
    rw [List.getElem?_take_of_lt (by omega), List.getElem?_drop, Nat.add_zero] at h1
    rw [h1, ← hy, List.getD_eq_getElem?_getD, hL]
    rfl
set_option maxRecDepth 100000 in
theorem laid_ct {W : World} (h : laidMetH Tryz.prog laid4 W) : KT W ∧ CB W := by
  rw [MakeChecks.laidMetH_plain _ _ _ (by kernel_rfl)] at h
  obtain ⟨ps, ⟨_, _, _, _, _, _, _, _, _, _, ⟨_, _, _, _, _, _, _, _, _, _, ⟨g0, t0, cs0, f0, p0, q0, hg0, ht0, hv0, hd0, ⟨g1, t1, cs1, f1, p1, q1, hg1, ht1, hv1, hd1, _, _⟩, _⟩, _⟩, _⟩, _, _⟩ := h
  obtain rfl := Option.some.inj ((show Tryz.prog.globalNamed "wagonpool/calendar.before" = some 0 by kernel_rfl).symm.trans hg0)
  obtain rfl := Option.some.inj ((show (Tryz.prog.globals[0]?).map (·.type) = some 157 by kernel_rfl).symm.trans ht0)
  obtain rfl := Option.some.inj ((show Tryz.prog.globalNamed "wagonpool/digest.k" = some 1 by kernel_rfl).symm.trans hg1)
  obtain rfl := Option.some.inj ((show (Tryz.prog.globals[1]?).map (·.type) = some 167 by kernel_rfl).symm.trans ht1)
  have c3 : Tryz.prog.cellsOf 3 = 1 := by kernel_rfl
  have c128 : Tryz.prog.cellsOf 128 = 1 := by kernel_rfl
  have k0 : ∀ i, i < 12 → W.cell? ⟨0, i, none⟩ = some (.int .i64 (bT.getD i 0)) := fun i hi => by
    rw [World.var?_cell hg0 hv0 i]
    have := cells_of_datum (L := bT) Tryz.underlying157 Tryz.underlying3 c3 hd0 i hi
    rwa [Array.getElem?_toList] at this
  have k1 : ∀ i, i < 64 → W.cell? ⟨1, i, none⟩ = some (.int .u32 (kT.getD i 0)) := fun i hi => by
    rw [World.var?_cell hg1 hv1 i]
    have := cells_of_datum (L := kT) Tryz.underlying167 Tryz.underlying128 c128 hd1 i hi
    rwa [Array.getElem?_toList] at this
  have lt : ∀ {b : Nat} {v : Value}, W.cell? ⟨b, 0, none⟩ = some v → b < W.heap.size := fun {b v} hh => World.block_lt_of_cell? W ⟨b, 0, none⟩ hh
  exact ⟨⟨lt (k1 0 (by decide)), k1⟩, ⟨lt (k0 0 (by decide)), k0⟩⟩
end Go.Proofs.YtcdfjnnkocmeeaaGreatDoor
