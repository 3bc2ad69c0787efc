/-
  append of a list of lines that is read, to a slice that the call owns.
  Conditions: as each theorem states them.
-/
import Derived.Test.YtcdfjnnkocmeeaaGreatDoorZe
import Derived.Laws.AppendOwnNone
namespace Go.Proofs.YtcdfjnnkocmeeaaGreatDoor
open Go.RowKit Go.Lib

theorem rde_news {w : World} {B : Nat} {ad : Addr} {l : List Ln} (h : RdE Ln.cells 44 w B (some ad) l) (ok : ∀ x ∈ l, x.ok) : ∀ (j : Nat) (u : Value), (flat Ln.cells l)[j]? = some u → w.cell? (ad.add j) = some u := by
  intro j u hj
  rw [← flat_c44 ok] at hj
  have hlt : j < l.length * 44 := by
    have := (List.getElem?_eq_some_iff.1 hj).1
    rwa [flat_length Ln.c44_len] at this
  have hi : j / 44 < l.length := by omega
  obtain ⟨x, hx⟩ : ∃ x, l[j / 44]? = some x := ⟨_, List.getElem?_eq_getElem hi⟩
  have hr : j % 44 < x.c44.length := by rw [Ln.c44_len]; omega
  have h1 := flat_at Ln.c44_len l (j / 44) x hx (j % 44) _ (List.getElem?_eq_getElem hr)
  have e : j / 44 * 44 + j % 44 = j := by omega
  rw [e, hj] at h1
  injection h1 with h1
  obtain ⟨b, off, hA, _, hc⟩ := h (j / 44) x hx
  injection hA with hA
  subst hA
  have hxo := ok x (List.mem_of_getElem? hx)
  have h2 : x.cells[j % 44]? = some u := by
    rw [h1, ← List.getElem?_eq_getElem hr, Ln.c44_ok hxo]
  have h3 := hc _ _ h2
  have e2 : off + j / 44 * 44 + j % 44 = off + j := by omega
  rw [e2] at h3
  unfold Addr.add
  split
  · rename_i h0
    subst h0
    simpa using h3
  · simpa using h3
theorem flat_one44 {l : List Ln} (ok : ∀ x ∈ l, x.ok) : ∀ v ∈ flat Ln.cells l, v.oneCell' = true := by
  induction l with
  | nil => intro v hv; simp [flat] at hv
  | cons x r ih =>
    intro v hv
    rw [flat] at hv
    rcases List.mem_append.1 hv with h | h
    · exact one44 (ok x (List.mem_cons_self ..)) v h
    · exact ih (fun y hy => ok y (List.mem_cons_of_mem _ hy)) v h
theorem flat_len44 {l : List Ln} (ok : ∀ x ∈ l, x.ok) : (flat Ln.cells l).length = l.length * 44 := by rw [← flat_c44 ok, flat_length Ln.c44_len]
theorem grown_refl (w : World) (row : Option Nat) : w.grownBy w row := ⟨rfl, rfl, rfl, Nat.le_refl _, fun _ _ _ => rfl⟩
theorem wpList_append_lns {ops : Array Oper} {rest : List Oper} {o : Oper} {a : Act} {w : World} {Q : Exit → Act → World → Prop} (hgd : o.guard = none) (s x : Operand)
    (ho : o.op = .call { callee := .builtin .append, args := #[s, x], argTypes := #[22, 22] })
    (base : Nat) (v : Value) (n : Nat) (xs : List Value) (hs : a.eval s = v) (hown : w.ownsRow base 44 44 v n xs) (l : List Ln) (A : Option Addr) (c : Nat) (hrd : RdE Ln.cells 44 w w.heap.size A l) (hnil : A = none → l = [] ∧ c = 0) (ok : ∀ y ∈ l, y.ok)
    (hx : a.eval x = .slice A l.length c) (h63 : n + l.length ≤ 1000) (hbase : base ≤ w.heap.size)
    (h : ∀ v' w', w'.ownsRow base 44 44 v' (n + l.length) (xs ++ flat Ln.cells l) → w.grownBy w' v.ownBlock → wpList Tryz.prog ops Q rest (a.put o.dst v') w') : wpList Tryz.prog ops Q (o :: rest) a w := by
  obtain ⟨ii, z0, hi, hz, hsz, hby, hzs⟩ := info44
  cases A with
  | none =>
    obtain ⟨rfl, rfl⟩ := hnil rfl
    refine wpList_append_own_none hgd s x 22 ho base 44 ii 44 Tryz.underlying22 hi v n xs hs hown hx ?_
    exact h v w (by simpa [flat] using hown) (grown_refl _ _)
  | some ad =>
    refine wpList_append_own w hgd s x 22 ho base 44 ii z0 44 128 Tryz.underlying22 hi hz hsz hby hzs (by decide) v n xs hs hown ad l.length c (flat Ln.cells l) hx (flat_len44 ok) (rde_news hrd ok) (flat_one44 ok) (by simp only [maxLen]; omega) (by omega) hbase ?_
    intro v' w' h1 h2 _
    exact h v' w' h1 h2
end Go.Proofs.YtcdfjnnkocmeeaaGreatDoor
