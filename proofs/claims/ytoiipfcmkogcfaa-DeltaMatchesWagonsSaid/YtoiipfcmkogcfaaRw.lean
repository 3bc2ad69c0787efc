/-
  The reference's Wagons.
  Conditions: as each theorem states them.
-/
import Derived.Test.YtoiipfcmkogcfaaQv
import Derived.Laws.AppendOwnNone
import Derived.Deep.AppendLies
namespace Go.Proofs.Ytoiipfcmkogcfaa
open Go.RowKit Go.Lib

theorem own_empty (w : World) (base : Nat) (t : TypeId) (size : Nat) (h : base ≤ w.heap.size) : (w.alloc (.cells #[] t)).ownsRow base t size (.slice (some ⟨w.heap.size, 0, none⟩) 0 0) 0 [] :=
  ⟨by simp, .inr ⟨_, 0, #[], rfl, h, Row.new _ _ _, Nat.le_refl _, by simp [maxLen], by simp, by simp⟩⟩
theorem info58 : ∃ i z, Try.prog.info? 58 = some i ∧ i.zero = some z ∧ i.size = 21 ∧ (∃ b, i.bytes = b ∧ b ≤ 1000) ∧ z.cells.size = 21 := by
  have h : ((Try.prog.info? 58).any fun i => i.size == 21 && decide (i.bytes ≤ 1000) && (i.zero.any fun z => z.cells.size == 21)) = true := by kernel_rfl
  cases hi : Try.prog.info? 58 with
  | none => rw [hi] at h; cases h
  | some i =>
    rw [hi] at h
    simp only [Option.any_some, Bool.and_eq_true, beq_iff_eq, decide_eq_true_eq] at h
    cases hz : i.zero with
    | none => rw [hz] at h; simp at h
    | some z =>
      rw [hz] at h
      exact ⟨i, z, rfl, hz, h.1.1, ⟨i.bytes, rfl, h.1.2⟩, by simpa using h.2⟩
theorem Rp.cells_one {r : Rp} : ∀ v ∈ r.cells, v.oneCell' = true := by
  intro v hv
  simp only [Rp.cells, List.mem_cons, List.not_mem_nil, or_false] at hv
  rcases hv with rfl | rfl | rfl | rfl | rfl | rfl | rfl | rfl | rfl | rfl | rfl | rfl | rfl | rfl | rfl | rfl | rfl | rfl | rfl | rfl | rfl <;> rfl
theorem flat21 (l : List Rp) : (flat Rp.cells l).length = l.length * 21 := flat_length Rp.cells_len l
theorem rde21_news {w : World} {B : Nat} {ad : Addr} {l : List Rp} (h : RdE Rp.cells 21 w B (some ad) l) : ∀ (j : Nat) (u : Value), (flat Rp.cells l)[j]? = some u → w.cell? (ad.add j) = some u := by
  intro j u hj
  have hlt : j < l.length * 21 := by
    have := (List.getElem?_eq_some_iff.1 hj).1
    rwa [flat21] at this
  have hi : j / 21 < l.length := by omega
  obtain ⟨x, hx⟩ : ∃ x, l[j / 21]? = some x := ⟨_, List.getElem?_eq_getElem hi⟩
  have hr : j % 21 < x.cells.length := by rw [Rp.cells_len]; omega
  have h1 := flat_at Rp.cells_len l (j / 21) x hx (j % 21) _ (List.getElem?_eq_getElem hr)
  have e : j / 21 * 21 + j % 21 = j := by omega
  rw [e, hj] at h1
  injection h1 with h1
  obtain ⟨b, off, hA, _, hc⟩ := h (j / 21) x hx
  injection hA with hA
  subst hA
  have h2 : x.cells[j % 21]? = some u := by
    rw [h1, ← List.getElem?_eq_getElem hr]
  have h3 := hc _ _ h2
  have e2 : off + j / 21 * 21 + j % 21 = off + j := by omega
  rw [e2] at h3
  unfold Addr.add
  split
  · rename_i h0
    subst h0
    simpa using h3
  · simpa using h3
theorem grown_refl (w : World) (row : Option Nat) : w.grownBy w row := ⟨rfl, rfl, rfl, Nat.le_refl _, fun _ _ _ => rfl⟩
theorem flat_one21 (l : List Rp) : ∀ v ∈ flat Rp.cells l, v.oneCell' = true := flat_one (fun _ => Rp.cells_one) l
theorem wpList_append_rps {ops : Array Oper} {rest : List Oper} {o : Oper} {a : Act} {w : World} {Q : Exit → Act → World → Prop} (hgd : o.guard = none) (s x : Operand)
    (ho : o.op = .call { callee := .builtin .append, args := #[s, x], argTypes := #[48, 48] })
    (base : Nat) (v : Value) (n : Nat) (xs : List Value) (hs : a.eval s = v) (hown : w.ownsRow base 58 21 v n xs) (l : List Rp) (A : Option Addr) (c : Nat) (hrd : RdE Rp.cells 21 w w.heap.size A l) (hnil : A = none → l = [] ∧ c = 0)
    (hx : a.eval x = .slice A l.length c) (h63 : n + l.length ≤ 1000) (hbase : base ≤ w.heap.size)
    (h : ∀ v' w', w'.ownsRow base 58 21 v' (n + l.length) (xs ++ flat Rp.cells l) → w.grownBy w' v.ownBlock → wpList Try.prog ops Q rest (a.put o.dst v') w') : wpList Try.prog ops Q (o :: rest) a w := by
  obtain ⟨ii, z0, hi, hz, hsz, ⟨bb, hby, hb1⟩, hzs⟩ := info58
  cases A with
  | none =>
    obtain ⟨rfl, rfl⟩ := hnil rfl
    refine wpList_append_own_none hgd s x 48 ho base 58 ii 21 Try.underlying48 hi v n xs hs hown hx ?_
    exact h v w (by simpa [flat] using hown) (grown_refl _ _)
  | some ad =>
    refine wpList_append_own w hgd s x 48 ho base 58 ii z0 21 bb Try.underlying48 hi hz hsz hby hzs (by decide) v n xs hs hown ad l.length c (flat Rp.cells l) hx (flat21 l) (rde21_news hrd) (flat_one21 l) (by simp only [maxLen]; omega) (Nat.le_trans (Nat.mul_le_mul h63 hb1) (by decide)) hbase ?_
    intro v' w' h1 h2 _
    exact h v' w' h1 h2
theorem wpList_append_rp {ops : Array Oper} {rest : List Oper} {o : Oper} {a : Act} {W : World} {Q : Exit → Act → World → Prop} (hgd : o.guard = none) (s x : Operand)
    (ho : o.op = .call { callee := .builtin .append, args := #[s, x], argTypes := #[48, 48] })
    (ob : Nat) (v : Value) (r : List Rp) (hs : a.eval s = v) (hown : W.ownsRow ob 58 21 v r.length (flat Rp.cells r)) (y : Rp)
    (hx : a.eval x = .slice (some ⟨W.heap.size, 0, none⟩) 1 1) (hL : r.length ≤ 900) (hob : ob ≤ W.heap.size)
    (h : ∀ v' w', w'.ownsRow ob 58 21 v' (r ++ [y]).length (flat Rp.cells (r ++ [y])) → Below ob W w' → ob ≤ w'.heap.size → wpList Try.prog ops Q rest (a.put o.dst v') w') : wpList Try.prog ops Q (o :: rest) a (W.alloc (.cells y.cells.toArray 58)) := by
  obtain ⟨ii, z0, hi, hz, hsz, ⟨bb, hby, hb1⟩, hzs⟩ := info58
  have hown2 := hown.alloc (.cells y.cells.toArray 58)
  have hnews : ∀ (jj : Nat) (u : Value), y.cells[jj]? = some u → (W.alloc (.cells y.cells.toArray 58)).cell? ((⟨W.heap.size, 0, none⟩ : Addr).add jj) = some u := World.news_of_block (heap_alloc_new W _)
  have hobA : ob ≤ (W.alloc (.cells y.cells.toArray 58)).heap.size := by simp; omega
  refine wpList_append_own _ hgd s x 48 ho ob 58 ii z0 21 bb Try.underlying48 hi hz hsz hby hzs (by decide) v r.length _ hs hown2 ⟨W.heap.size, 0, none⟩ 1 1 y.cells hx rfl hnews Rp.cells_one (by simp only [maxLen]; omega) (Nat.le_trans (Nat.mul_le_mul (show r.length + 1 ≤ 1000 by omega) hb1) (by decide)) hobA ?_
  intro v' w' h1 h2 _
  refine h v' w' ?_ (((Below.refl ob W).alloc hob _).grown h2 hobA (fun k' hk' => (hown.lt k' hk').1)) (Nat.le_trans hobA h2.size)
  rw [flat_append]
  simpa [flat] using h1
theorem wpList_buildSlice_rp {ops : Array Oper} {rest : List Oper} {o : Oper} {a : Act} {w : World} {Q : Exit → Act → World → Prop} (hgd : o.guard = none) (x : Operand) (ho : o.op = .buildSlice 48 1 #[(0, x)]) (y : Rp)
    (hx : a.eval x = .agg y.cells.toArray) (h : wpList Try.prog ops Q rest (a.put o.dst (.slice (some ⟨w.heap.size, 0, none⟩) 1 1)) (w.alloc (.cells y.cells.toArray 58))) : wpList Try.prog ops Q (o :: rest) a w := by
  obtain ⟨ii, z0, hi, hz, hsz, _, hzs⟩ := info58
  exact wpList_buildSlice_agg hgd 48 58 x ho y.cells hx ii z0 Try.underlying48 hi hz (hsz.trans (Rp.cells_len y).symm) (by rw [Rp.cells_len]; decide) (by rw [Rp.cells_len]; decide) h
end Go.Proofs.Ytoiipfcmkogcfaa
