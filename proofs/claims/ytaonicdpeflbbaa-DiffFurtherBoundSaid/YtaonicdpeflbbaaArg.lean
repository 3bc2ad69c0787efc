/-
  An argument that is a slice of bounds, or of numbers, opened to the list that it reads as.
-/
import Derived.Test.YtaonicdpeflbbaaBase
import Derived.Test.YtaonicdpeflbbaaProg
import Derived.Deep.Slices
import Derived.Deep.Fields
import Derived.ChangeSame
import Derived.ProofKit
namespace Go.Proofs.Ytaonicdpeflbbaa
open Go.RowKit Go.ChangeShapes Go.WideShapes Go.Deep

theorem list_of {α : Type} {P : Nat → α → Prop} : ∀ n : Nat, (∀ i, i < n → ∃ b, P i b) → ∃ l : List α, l.length = n ∧ ∀ i b, l[i]? = some b → P i b := by
  intro n
  induction n with
  | zero => intro _; exact ⟨[], rfl, fun i b h => by simp at h⟩
  | succ n ih =>
    intro h
    obtain ⟨l, h1, h2⟩ := ih (fun i hi => h i (by omega))
    obtain ⟨b, hb⟩ := h n (by omega)
    refine ⟨l ++ [b], by simp [h1], fun i x hx => ?_⟩
    by_cases hi : i < n
    · rw [List.getElem?_append_left (by omega)] at hx
      exact h2 i x hx
    · rw [List.getElem?_append_right (by omega)] at hx
      have : i - l.length = 0 := by
        have := (List.getElem?_eq_some_iff.1 hx).1
        simpa using this
      rw [this] at hx
      simp at hx
      obtain rfl : i = n := by omega
      subst hx
      exact hb

theorem addr_flat {a : Addr} {w : World} {v : Value} (h : w.cell? a = some v) : ∃ b off, a = ⟨b, off, none⟩ ∧ (∀ j, a.add j = ⟨b, off + j, none⟩) := by
  have hs := World.cell?_spot h
  obtain ⟨b, off, spot⟩ := a
  obtain rfl : spot = none := hs
  refine ⟨b, off, rfl, fun j => ?_⟩
  unfold Addr.add
  split <;> simp_all

theorem addr_zero (a : Addr) : a.add 0 = a := by simp [Addr.add]

section
variable {H : Type} {enc : TypeId × Value → H} {w : World} {base : Nat} {spare : Nat → Bool} {held : Bool} {fuel : Nat}

theorem open_bounds {a : Option Addr} {len cap : Nat} {x : DataW H × List MemPlace} (h : DataW.trod enc Try.prog w base spare held fuel 22 [.slice a len cap] = some x) :
    ∃ l : List Bd, l.length = len ∧ len ≤ maxLen ∧ RdB w w.heap.size a l := by
  rcases open_slice Try.underlying22 h with ⟨hcs, _⟩ | ⟨ad, len', cap', m, n, D, Pl, hcs, _, hl, hm, hmm, _, hi⟩
  · simp at hcs
    obtain ⟨rfl, rfl, rfl⟩ := hcs
    exact ⟨[], rfl, Nat.zero_le _, fun k x hx => by simp at hx⟩
  · simp at hcs
    obtain ⟨rfl, rfl, rfl⟩ := hcs
    have hlm : len ≤ m := by rw [hmm]; split <;> omega
    have hC : Try.prog.cellsOf 36 = 3 := by kernel_rfl
    rw [hC] at hi
    obtain ⟨l, h1, h2⟩ := list_of (P := fun i (b : Bd) => w.cell? (ad.add (i * 3)) = some (.int .i64 b.i) ∧ w.cell? (ad.add (i * 3 + 1)) = some (.int .i64 b.j) ∧ w.cell? (ad.add (i * 3 + 2)) = some (.int .i64 b.w)) len (fun i hil => by
      obtain ⟨cs', hc, ht⟩ := hi i (by omega)
      obtain ⟨ys, n', _, _, hlen, _, hf⟩ := DataW.trod_struct Try.underlying36 ht
      obtain ⟨_, hcl, hat⟩ := World.cells?_some hc
      obtain ⟨c0, c1, c2, rfl⟩ : ∃ c0 c1 c2, cs' = [c0, c1, c2] := by
        match cs', hcl with
        | [c0, c1, c2], _ => exact ⟨c0, c1, c2, rfl⟩
      have e3 : Try.prog.cellsOf 3 = 1 := by kernel_rfl
      have f0 : DataW.trod enc Try.prog w base spare held n' 3 (([c0, c1, c2].drop 0).take (Try.prog.cellsOf 3)) = ys[0]? := hf 0 _ rfl
      have f1 : DataW.trod enc Try.prog w base spare held n' 3 (([c0, c1, c2].drop 1).take (Try.prog.cellsOf 3)) = ys[1]? := hf 1 _ rfl
      have f2 : DataW.trod enc Try.prog w base spare held n' 3 (([c0, c1, c2].drop 2).take (Try.prog.cellsOf 3)) = ys[2]? := hf 2 _ rfl
      rw [e3] at f0 f1 f2
      have hy : ∀ j, j < 3 → ∃ y, ys[j]? = some y := fun j hj => ⟨_, List.getElem?_eq_getElem (by rw [show ys.length = 3 from by assumption]; exact hj)⟩
      obtain ⟨y0, hy0⟩ := hy 0 (by omega)
      obtain ⟨y1, hy1⟩ := hy 1 (by omega)
      obtain ⟨y2, hy2⟩ := hy 2 (by omega)
      rw [hy0] at f0
      rw [hy1] at f1
      rw [hy2] at f2
      obtain ⟨v0, e0, _, _⟩ := DataW.trod_int Try.underlying3 f0
      obtain ⟨v1, e1, _, _⟩ := DataW.trod_int Try.underlying3 f1
      obtain ⟨v2, e2, _, _⟩ := DataW.trod_int Try.underlying3 f2
      simp at e0 e1 e2
      refine ⟨⟨v0, v1, v2⟩, ?_, ?_, ?_⟩
      · have := hat 0 (by omega); rw [add_add] at this; simpa [e0] using this
      · have := hat 1 (by omega); rw [add_add] at this; simpa [e1] using this
      · have := hat 2 (by omega); rw [add_add] at this; simpa [e2] using this)
    refine ⟨l, h1, by omega, fun k x hx => ?_⟩
    obtain ⟨c0, c1, c2⟩ := h2 k x hx
    have hk := (List.getElem?_eq_some_iff.1 hx).1
    obtain ⟨y, hy⟩ : ∃ y, l[0]? = some y := ⟨_, List.getElem?_eq_getElem (by omega)⟩
    obtain ⟨b, off, rfl, hadd⟩ := addr_flat (by have := (h2 0 y hy).1; rw [Nat.zero_mul, addr_zero] at this; exact this)
    rw [hadd] at c0 c1 c2
    exact ⟨b, off, rfl, World.block_lt_of_cell? w _ c0, c0, c1, c2⟩

theorem open_nums {a : Option Addr} {len cap : Nat} {x : DataW H × List MemPlace} (h : DataW.trod enc Try.prog w base spare held fuel 27 [.slice a len cap] = some x) :
    ∃ l : List Int, l.length = len ∧ len ≤ maxLen ∧ RdI w w.heap.size a l := by
  rcases open_slice Try.underlying27 h with ⟨hcs, _⟩ | ⟨ad, len', cap', m, n, D, Pl, hcs, _, hl, hm, hmm, _, hi⟩
  · simp at hcs
    obtain ⟨rfl, rfl, rfl⟩ := hcs
    exact ⟨[], rfl, Nat.zero_le _, fun k x hx => by simp at hx⟩
  · simp at hcs
    obtain ⟨rfl, rfl, rfl⟩ := hcs
    have hlm : len ≤ m := by rw [hmm]; split <;> omega
    have hC : Try.prog.cellsOf 3 = 1 := by kernel_rfl
    rw [hC] at hi
    obtain ⟨l, h1, h2⟩ := list_of (P := fun i (b : Int) => w.cell? (ad.add i) = some (.int .i64 b)) len (fun i hil => by
      obtain ⟨cs', hc, ht⟩ := hi i (by omega)
      obtain ⟨_, hcl, hat⟩ := World.cells?_some hc
      obtain ⟨v, rfl, _, _⟩ := DataW.trod_int Try.underlying3 ht
      refine ⟨v, ?_⟩
      have := hat 0 (by omega)
      rw [add_add] at this
      simpa using this)
    refine ⟨l, h1, by omega, fun k x hx => ?_⟩
    have c0 := h2 k x hx
    have hk := (List.getElem?_eq_some_iff.1 hx).1
    obtain ⟨y, hy⟩ : ∃ y, l[0]? = some y := ⟨_, List.getElem?_eq_getElem (by omega)⟩
    obtain ⟨b, off, rfl, hadd⟩ := addr_flat (by have := h2 0 y hy; rw [addr_zero] at this; exact this)
    rw [hadd] at c0
    exact ⟨b, off, rfl, World.block_lt_of_cell? w _ c0, c0⟩
end

end Go.Proofs.Ytaonicdpeflbbaa
