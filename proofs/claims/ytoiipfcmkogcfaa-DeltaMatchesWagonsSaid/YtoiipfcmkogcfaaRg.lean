/-
  The range over a map seen as a total function: the keys handed out so far, each once.
  Conditions: as each theorem states them.
-/
import Derived.Test.YtoiipfcmkogcfaaWj
import Derived.Maps.Range
namespace Go.Proofs.Ytoiipfcmkogcfaa
open Go.RowKit Go.Maps Go.WideElems Go.ChangeMaps Go.MapKept
open Go.WideMaps (KeyLaw)

/-- The range over block b by the iterator r: dn are the keys handed out, n bounds them. -/
def Rng {α : Type} (enc : α → Value) (K : TypeId) (w : World) (b r n : Nat) (M : α → Int) (dn : List α) : Prop :=
  ∃ es clock since seen c0, w.heap[b]? = some (.map es clock) ∧ Fit (H := Unit) Try.prog K (plainElem Try.prog 3) es clock ∧
    (∀ x ∈ es.toList, ∃ a, x.key = enc a ∧ x.val = .int .i64 (M a)) ∧ (∀ a, M a ≠ 0 → ∃ x ∈ es.toList, x.key = enc a) ∧
    w.heap[r]? = some (.mapIter (some b) since seen c0) ∧ (∀ x ∈ es.toList, x.born < since) ∧ since ≤ c0 ∧ since ≤ clock ∧
    (∀ x ∈ es.toList, ∀ a, x.key = enc a → (seen.contains x.born = true ↔ a ∈ dn)) ∧ dn.Nodup ∧ (leftOf es seen).size + dn.length ≤ n

section
variable {α : Type} {enc : α → Value} {K t : TypeId} {w w' : World} {b n r : Nat} {M : α → Int} {dn : List α}

theorem MapAt.range (h : MapAt enc K w b n M) (ht : Try.prog.underlying t = some (.map K 3)) :
    ∃ w', (Instr.range t (.map (some b))).run Try.prog w = .ok (.pointer (some ⟨w.heap.size, 0, none⟩)) w' ∧ Rng enc K w' b w.heap.size n M [] ∧ w.grownBy w' none ∧ w'.heap.size = w.heap.size + 1 := by
  have hlt := h.lt
  obtain ⟨es, clock, hb, hs, F, h1, h2⟩ := h
  refine ⟨_, run_range_map w t K 3 b es clock ht hb, ⟨es, clock, clock, #[], clock, ((MapKept.heap_alloc w _).2 b hlt).trans hb, F, h1, h2, (MapKept.heap_alloc w _).1, F.stamped.1, Nat.le_refl _, Nat.le_refl _, ?_, List.nodup_nil, by
    have e : leftOf es #[] = es := by unfold leftOf; exact Array.filter_eq_self.2 (by simp)
    rw [e]
    simpa using hs⟩, World.grownBy_alloc w _ none, by simp⟩
  intro x hx a ha
  simp

theorem Rng.kept {row : Option Nat} (h : Rng enc K w b r n M dn) (hg : w.grownBy w' row) (hb' : some b ≠ row) (hr' : some r ≠ row) : Rng enc K w' b r n M dn := by
  obtain ⟨es, clock, since, seen, c0, hb, F, h1, h2, hr, rest⟩ := h
  exact ⟨es, clock, since, seen, c0, (hg.block b (Array.getElem?_eq_some_iff.1 hb).1 hb').trans hb, F, h1, h2, (hg.block r (Array.getElem?_eq_some_iff.1 hr).1 hr').trans hr, rest⟩
theorem Rng.few (h : Rng enc K w b r n M dn) : dn.length ≤ n := by
  obtain ⟨es, clock, since, seen, c0, hb, F, h1, h2, hr, _, _, _, _, _, hc⟩ := h
  omega
theorem Rng.nodup (h : Rng enc K w b r n M dn) : dn.Nodup := by
  obtain ⟨es, clock, since, seen, c0, hb, F, h1, h2, hr, _, _, _, _, hn, hc⟩ := h
  exact hn
theorem Rng.lt (h : Rng enc K w b r n M dn) : r < w.heap.size := by
  obtain ⟨es, clock, since, seen, c0, hb, F, h1, h2, hr, rest⟩ := h
  exact (Array.getElem?_eq_some_iff.1 hr).1
theorem Rng.ltb (h : Rng enc K w b r n M dn) : b < w.heap.size := by
  obtain ⟨es, clock, since, seen, c0, hb, F, h1, h2, hr, rest⟩ := h
  exact (Array.getElem?_eq_some_iff.1 hb).1
theorem rangeLeft_kept {w w' : World} (h1 : w'.heap[b]? = w.heap[b]?) (h2 : w'.heap[r]? = w.heap[r]?) : w'.rangeLeft b r = w.rangeLeft b r := by
  unfold World.rangeLeft
  rw [h1, h2]

/-- One step. -/
theorem Rng.next (h : Rng enc K w b r n M dn) (hinj : ∀ a a', enc a = enc a' → a = a') :
    ((∀ ty, (Instr.next (.pointer (some ⟨r, 0, none⟩)) false ty).run Try.prog w = .ok (.tuple #[.bool false]) w) ∧ ∀ a, M a ≠ 0 → a ∈ dn) ∨
    ∃ a kl w', a ∉ dn ∧ keyOf Try.prog K (enc a) = some kl ∧ (∀ ty, (Instr.next (.pointer (some ⟨r, 0, none⟩)) false ty).run Try.prog w = .ok (.tuple #[.bool true, enc a, .int .i64 (M a)]) w') ∧
      Rng enc K w' b r n M (dn ++ [a]) ∧ w'.rangeLeft b r < w.rangeLeft b r ∧ w.grownBy w' (some r) ∧ w'.heap.size = w.heap.size ∧ (Instr.entry (.pointer (some ⟨r, 0, none⟩))).run Try.prog w' = .ok (.tuple #[enc a, .int .i64 (M a)]) w' := by
  obtain ⟨es, clock, since, seen, c0, hb, F, h1, h2, hr, hold, hsc, hsk, hd, hnd, hcnt⟩ := h
  have hne : r ≠ b := by
    intro e
    rw [e, hb] at hr
    cases hr
  rcases run_next_at (P := Try.prog) w 0 r b since c0 seen es clock hr hb hold hsc with ⟨h0, _⟩ | ⟨e, he, w1, hal, hrun⟩
  · refine Or.inl ⟨fun ty => ?_, fun a ha => ?_⟩
    · rcases run_next_at (P := Try.prog) w ty r b since c0 seen es clock hr hb hold hsc with ⟨_, hrun⟩ | ⟨e, he, _⟩
      · exact hrun
      · have : 0 < (leftOf es seen).toList.length := List.length_pos_of_mem he
        simp at this
        omega
    · obtain ⟨x, hx, e⟩ := h2 a ha
      exact (hd x hx a e).1 (by simpa using all_seen es seen h0 x hx)
  · obtain ⟨hem, hes⟩ := mem_left he
    obtain ⟨y0, hy0⟩ := F.reads e hem
    obtain ⟨a, hka, hva⟩ := h1 e hem
    have hkey := rd_key hy0
    have hr1 : w1.heap[r]? = some (.mapIter (some b) since seen c0) := by rcases hal with rfl | rfl <;> exact hr
    have hb1 : w1.heap[b]? = some (.map es clock) := by rcases hal with rfl | rfl <;> exact hb
    have hset := heap_set (o' := .mapIter (some b) since (seen.push e.born) clock) hr1
    have hb' : (setBlock w1 r (.mapIter (some b) since (seen.push e.born) clock)).heap[b]? = some (.map es clock) := (hset.2 b (fun e1 => hne e1.symm)).trans hb1
    have hst := (stamped_iff es clock).1 F.stamped
    refine Or.inr ⟨a, y0.1, _, fun hin => ?_, hka ▸ hkey, fun ty => ?_, ⟨es, clock, since, seen.push e.born, clock, hb', F, h1, h2, hset.1, hold, hsk, hsk, fun x hx a' ha' => ?_, ?_, ?_⟩, ?_, ?_, ?_, ?_⟩
    · have := (hd e hem a hka).2 hin
      rw [hes] at this
      cases this
    · rw [← hka, ← hva]
      have : ∀ ty, (Instr.next (.pointer (some ⟨r, 0, none⟩)) false ty).run Try.prog w = (Instr.next (.pointer (some ⟨r, 0, none⟩)) false 0).run Try.prog w := by
        intro ty
        simp only [Instr.next]
      rw [this ty]
      exact hrun
    · rw [contains_push, Bool.or_eq_true, hd x hx a' ha', List.mem_append, List.mem_singleton]
      refine or_congr Iff.rfl ?_
      constructor
      · intro hbn
        have : x = e := born_inj hst.2.1 hx hem (by simpa using hbn)
        subst this
        exact hinj _ _ (ha'.symm.trans hka)
      · rintro rfl
        have : x = e := entry_eq_of_key hst.2.2 hx hem (ha'.trans hka.symm)
        subst this
        simp
    · refine List.nodup_append.2 ⟨hnd, by simp, ?_⟩
      rintro c hc c' hc' rfl
      simp at hc'
      subst hc'
      have := (hd e hem c hka).2 hc
      rw [hes] at this
      cases this
    · have := left_shrinks es seen e he
      simp
      omega
    · unfold World.rangeLeft
      rw [hb', show (setBlock w1 r (.mapIter (some b) since (seen.push e.born) clock)).heap[r]? = _ from hset.1, hb, hr]
      exact left_shrinks es seen e he
    · rcases hal with rfl | rfl <;> exact ⟨rfl, rfl, rfl, by simp [setBlock], fun i _ hi => hset.2 i (fun e1 => hi (by rw [e1]))⟩
    · rcases hal with rfl | rfl <;> simp [setBlock]
    · rw [← hka, ← hva]
      exact run_entry_at _ r b since seen es clock e hset.1 hb' hem hst.2.1

end
end Go.Proofs.Ytoiipfcmkogcfaa
