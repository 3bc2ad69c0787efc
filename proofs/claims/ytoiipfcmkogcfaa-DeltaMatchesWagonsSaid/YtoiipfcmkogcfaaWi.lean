/-
  The sort of a row of changes that the call made: a permutation, no later change before an earlier one.
  Conditions: as each theorem states them.
-/
import Derived.Test.YtoiipfcmkogcfaaWh
namespace Go.Proofs.Ytoiipfcmkogcfaa
open Go.RowKit Go.Lib Go.Sort Go.Shelf

theorem flatK_flat {α : Type} [Inhabited α] {enc : α → List Value} {k : Nat} (hk : ∀ x, (enc x).length = k) (l : List α) (t : Nat) (ht : t < l.length * k) : (flat enc l)[t]? = some (flatK enc k l.toArray)[t]! := by
  have k0 : 0 < k := by
    rcases Nat.eq_zero_or_pos k with h | h
    · subst h; simp at ht
    · exact h
  have hq : t / k < l.length := (Nat.div_lt_iff_lt_mul k0).2 ht
  rw [get_flatK _ _ _ t (by simpa using ht)]
  have hx : l[t / k]? = some l[t / k] := List.getElem?_eq_getElem hq
  have hm : t % k < (enc l[t / k]).length := by rw [hk]; exact Nat.mod_lt _ k0
  have := flat_at hk l (t / k) _ hx (t % k) _ (List.getElem?_eq_getElem hm)
  rw [show t / k * k + t % k = t from Nat.div_add_mod' t k] at this
  rw [this]
  simp [hq, hm]

theorem swoD : SWO (ltOf cmpD) where
  irrefl x := by simp [ltOf, cmpD, cmpL_self]
  trans x y z h1 h2 := by simp only [ltOf, decide_eq_true_eq] at *; exact cmpD_trans h1 h2
  ntrans x y z h1 h2 := by
    simp only [ltOf, decide_eq_false_iff_not, Int.not_lt] at *
    exact cmpL_ntrans x.slot y.slot z.slot rfl rfl h1 h2

theorem below_sort {B g n : Nat} {w : World} {d : Array Dl} {os : Array Obj} (hB : B ≤ g) (hg : g < w.heap.size) : Below B w (sortWorldK Dl.cells 9 w g 0 n d os) := by
  refine ⟨rfl, rfl, rfl, size_sortWorldK_c _ _ _ _ _ _ _ _, fun i hi => ?_⟩
  unfold sortWorldK putRowK putRow mapBlock grow Sort.ahead
  have h1 : i < (w.heap.modify g (onCells (putCells id 0 (flatK Dl.cells 9 d)))).size := by simp; omega
  show ((w.heap.modify g _) ++ os)[i]? = _
  rw [Array.getElem?_append_left h1, Array.getElem?_modify, if_neg (by omega)]

/-- A row of its own, behind the sort. -/
theorem sort_any (base : Nat) (v : Value) (l : List Dl) (w : World) (ho : w.ownsRow base 70 9 v l.length (flat Dl.cells l)) (hl : l.length < 4611686018427387904) :
    Calls Try.prog 26 #[v, .func (.func 27) #[] #[]] w fun e w' => e = .returned (.tuple #[]) ∧ (Below base w w') ∧ ∃ l' : List Dl, l'.Perm l ∧ (l'.Pairwise fun a b => ¬ cmpD b a < 0) ∧ ∃ A c, v = .slice A l'.length c ∧ RdD w' w'.heap.size A l' := by
  rcases ho.2 with ⟨rfl, e⟩ | ⟨g, cap, cur, rfl, hg, hh, hnc, hcm, hsz, htake⟩
  · have : l = [] := List.eq_nil_of_length_eq_zero e
    subst this
    refine (AnyF.slices_SortFunc_none Try.sortD none 0 (.func (.func 27) #[] #[]) w).mono ?_
    rintro e w' ⟨rfl, rfl⟩
    exact ⟨rfl, Below.refl _ _, [], List.Perm.refl _, List.Pairwise.nil, none, 0, rfl, RdE.nil⟩
  · have eg : ∀ args w, (callFunc 27 args).run Try.prog w = .ok (.enter 27 args) w := enters_of Try.func27 (by kernel_rfl) rfl
    have hH : HoldsK Dl.cells 9 w g 0 l.toArray := by
      intro j hj
      have hj' : j < l.length * 9 := by simpa using hj
      have h1 := flatK_flat (enc := Dl.cells) Dl.cells_len l j hj'
      rw [← htake, List.getElem?_take_of_lt hj'] at h1
      have hr : Row w g 70 cur := hh
      rw [Nat.zero_add]
      exact ⟨by rw [hr.cell]; simpa using h1, hr.frozen j⟩
    have hcon := AnyQ.slices_SortFunc Try.sortD 9 Try.isAgg70 Try.sizeOf70 Dl.cells Dl.cells_len Dl.cells_one cmpD swoD 27 #[] g 0 cap l.toArray w eg (cmpLays27 g 0 _ w) hH (Array.getElem?_eq_some_iff.1 hh).1 (by simpa using hl)
    refine hcon.mono ?_
    rintro e w' ⟨rfl, d', n, os, hp, hs, rfl⟩
    have hds : d'.size = l.length := by have := hp.1; simpa using this
    have hgw : g < w.heap.size := (Array.getElem?_eq_some_iff.1 hh).1
    have e1 : d'.extract 0 l.toArray.size = d' := by rw [← hp.1]; exact Array.extract_size
    have hperm := hp.2.2
    rw [e1, Array.extract_size] at hperm
    have hH' := holdsK_sortWorldK_c Dl.cells 9 w g 0 l.toArray d' n os hH hgw hp.1
    refine ⟨rfl, below_sort hg hgw, d'.toList, hperm, ?_, some ⟨g, 0, none⟩, cap, by simp [hds], ?_⟩
    · rw [List.pairwise_iff_getElem]
      intro i j hi hj hij
      have hi' : i < d'.size := by simpa using hi
      have hj' : j < d'.size := by simpa using hj
      have := hs i j (Nat.zero_le _) hij (by simp; omega)
      rw [getElem!_pos d' j hj', getElem!_pos d' i hi'] at this
      simpa [ltOf] using this
    · refine RdE.of_cells Dl.cells_len (Nat.lt_of_lt_of_le hgw (size_sortWorldK_c Dl.cells 9 w g 0 n d' os)) ?_
      intro j u hu
      have hj : j < d'.size * 9 := by
        have := (List.getElem?_eq_some_iff.1 hu).1
        rw [flat_length Dl.cells_len] at this
        simpa using this
      have h1 := flatK_flat (enc := Dl.cells) Dl.cells_len d'.toList j (by simpa using hj)
      rw [h1] at hu
      injection hu with hu
      rw [← hu]
      exact (hH' j (by simpa using hj)).1

end Go.Proofs.Ytoiipfcmkogcfaa
