/-
  Appending a list of bounds to a slice that the call itself made; a slice of bounds that the call made reads as its list.
  Conditions: as each theorem states them.
-/
import Derived.Test.YtaonicdpeflbbaaWs
import Derived.Test.YtaonicdpeflbbaaAtt
import Derived.Laws.AppendOwnNone
namespace Go.Proofs.Ytaonicdpeflbbaa
open Go.RowKit

theorem info36 : (Try.prog.info? 36).map (fun i => (i.zero, i.size, i.bytes)) = some (some (.agg #[.int .i64 0, .int .i64 0, .int .i64 0]), 3, 24) := by kernel_rfl

theorem bvals_one : ∀ (l : List Bd), ∀ u ∈ bvals l, u.oneCell' = true
  | [], _, h => by cases h
  | b :: r, u, h => by
    simp only [bvals, List.mem_cons] at h
    rcases h with rfl | rfl | rfl | h
    · rfl
    · rfl
    · rfl
    · exact bvals_one r u h

theorem bvals_get (l : List Bd) (j : Nat) (u : Value) (h : (bvals l)[j]? = some u) : ∃ k x, l[k]? = some x ∧ (j = k * 3 ∧ u = .int .i64 x.i ∨ j = k * 3 + 1 ∧ u = .int .i64 x.j ∨ j = k * 3 + 2 ∧ u = .int .i64 x.w) := by
  have hj : j < l.length * 3 := by rw [← bvals_len]; exact (List.getElem?_eq_some_iff.1 h).1
  obtain ⟨x, hx⟩ : ∃ x, l[j / 3]? = some x := ⟨_, List.getElem?_eq_getElem (by omega)⟩
  obtain ⟨h0, h1, h2⟩ := bvals_at l (j / 3) x hx
  refine ⟨j / 3, x, hx, ?_⟩
  have hm : j % 3 = 0 ∨ j % 3 = 1 ∨ j % 3 = 2 := by omega
  rcases hm with hm | hm | hm
  · left
    have e : j = j / 3 * 3 := by omega
    rw [e, h0] at h
    injection h with h
    exact ⟨e, h.symm⟩
  · right; left
    have e : j = j / 3 * 3 + 1 := by omega
    rw [e, h1] at h
    injection h with h
    exact ⟨e, h.symm⟩
  · right; right
    have e : j = j / 3 * 3 + 2 := by omega
    rw [e, h2] at h
    injection h with h
    exact ⟨e, h.symm⟩

theorem RdB.news {w : World} {B b off : Nat} {l : List Bd} (h : RdB w B (some ⟨b, off, none⟩) l) (j : Nat) (u : Value) (hu : (bvals l)[j]? = some u) : w.cell? ((⟨b, off, none⟩ : Addr).add j) = some u := by
  obtain ⟨k, x, hx, hc⟩ := bvals_get l j u hu
  obtain ⟨b', off', e, _, c0, c1, c2⟩ := h k x hx
  injection e with e
  injection e with e1 e2
  subst e1
  subst e2
  have ea : (⟨b, off, none⟩ : Addr).add j = ⟨b, off + j, none⟩ := by unfold Addr.add; split <;> simp_all
  rw [ea]
  rcases hc with ⟨rfl, rfl⟩ | ⟨rfl, rfl⟩ | ⟨rfl, rfl⟩
  · exact c0
  · exact c1
  · exact c2

theorem own_lit (w : World) (l : List Bd) (hl : l.length ≤ maxLen) : (w.alloc (.cells (bvals l).toArray 36)).ownsRow w.heap.size 36 3 (.slice (some ⟨w.heap.size, 0, none⟩) l.length l.length) l.length (bvals l) :=
  ⟨bvals_len l, .inr ⟨w.heap.size, l.length, (bvals l).toArray, rfl, Nat.le_refl _, heap_alloc_new w _, Nat.le_refl _, hl, by simp [bvals_len], by simp [List.take_of_length_le, bvals_len]⟩⟩

theorem own_rdb {w : World} {base : Nat} {v : Value} {l : List Bd} (h : w.ownsRow base 36 3 v l.length (bvals l)) : ∃ A c, v = .slice A l.length c ∧ RdB w w.heap.size A l := by
  rcases h.2 with ⟨rfl, e⟩ | ⟨g, cap, cur, rfl, _, hh, hnc, _, hsz, htake⟩
  · have : l = [] := List.eq_nil_of_length_eq_zero e
    subst this
    exact ⟨none, 0, rfl, fun k x hx => by simp at hx⟩
  · refine ⟨_, cap, rfl, RdB.of_row (cs := cur.toList) (by show w.heap[g]? = _; simpa using hh) (Array.getElem?_eq_some_iff.1 hh).1 ?_⟩
    intro j u hu
    rw [← htake] at hu
    have hj : j < l.length * 3 := by
      have := (List.getElem?_eq_some_iff.1 hu).1
      simp at this
      omega
    rwa [List.getElem?_take_of_lt hj] at hu

theorem run_append_nil36 {w : World} {base ty n c : Nat} {v : Value} {xs : List Value} {i : TypeInfo} (hi : Try.prog.info? 36 = some i) (hown : w.ownsRow base 36 3 v n xs) : (Builtin.append_ #[22, 22] ty #[v, .slice none 0 c]).run Try.prog w = .ok v w := by
  rcases hown.2 with ⟨rfl, rfl⟩ | ⟨g, cap, cur, rfl, _, _, hnc, _⟩
  · simp [Builtin.append_, run_underlying Try.underlying22, sizeOf, typeInfo, hi, Builtin.lenOf, Builtin.firstCells]
  · simp [Builtin.append_, run_underlying Try.underlying22, sizeOf, typeInfo, hi, Builtin.lenOf, Builtin.firstCells, hnc, storeCells]

/-- append(s, x...), s a row of the call's own, x a slice that reads as a list of bounds, nil let in. -/
theorem wpList_append_bds {w : World} {ops : Array Oper} {rest : List Oper} {o : Oper} {a : Act} {Q : Exit → Act → World → Prop} (hgd : o.guard = none) (s x : Operand)
    (ho : o.op = .call { callee := .builtin .append, args := #[s, x], argTypes := #[22, 22] }) (base : Nat)
    (v : Value) (n : Nat) (xs : List Value) (hs : a.eval s = v) (hown : w.ownsRow base 36 3 v n xs)
    (A : Option Addr) (l : List Bd) (c : Nat) (hx : a.eval x = .slice A l.length c) (hr : RdB w w.heap.size A l) (hbytes : (n + l.length) * 24 ≤ 140737488355328) (hbase : base ≤ w.heap.size)
    (h : ∀ v' w', w'.ownsRow base 36 3 v' (n + l.length) (xs ++ bvals l) → w.grownBy w' v.ownBlock → wpList Try.prog ops Q rest (a.put o.dst v') w') : wpList Try.prog ops Q (o :: rest) a w := by
  obtain ⟨i, hi, hz0, hz1, hz2⟩ := info_parts info36
  cases A with
  | none =>
    have hl : l = [] := by
      cases l with
      | nil => rfl
      | cons b r => obtain ⟨_, _, e, _⟩ := hr 0 b rfl; cases e
    subst hl
    refine wpList_plain hgd fun K hK => ?_
    have hrun := run_append_nil36 (ty := o.type) (c := c) hi hown
    unfold Oper.wp execOp
    simp only [ho, resolve, invoke, builtin, Sem.run_bind, Sem.run_pure, Result.andThen_ok, List.map_toArray, List.map_cons, List.map_nil, hs, hx, List.length_nil, hrun]
    exact hK _ _ (h v w (by simpa [bvals] using hown) (World.grownBy.refl w _))
  | some ad =>
    refine wpList_append_own w hgd s x 22 ho base 36 i _ 3 24 Try.underlying22 hi hz0 hz1 hz2 rfl (by decide) v n xs hs hown ad l.length c (bvals l) hx (bvals_len l) ?_ (bvals_one l) (by unfold maxLen; omega) hbytes hbase (fun v' w' h1 h2 _ => h v' w' h1 h2)
    intro j u hu
    cases l with
    | nil => simp [bvals] at hu
    | cons b r =>
      obtain ⟨b', off', e, _⟩ := hr 0 b rfl
      injection e with e
      subst e
      exact hr.news j u hu

end Go.Proofs.Ytaonicdpeflbbaa
