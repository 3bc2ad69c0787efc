/-
  A map from keys to numbers, seen as a total function (what is absent is 0): look-up, and the store through an entry.
  Conditions: as each theorem states them.
-/
import Derived.Test.YtoiipfcmkogcfaaProg
import Derived.Test.YtoiipfcmkogcfaaBase
import Derived.WideKeyEntry
import Derived.Maps.Own
namespace Go.Proofs.Ytoiipfcmkogcfaa
open Go.RowKit Go.Maps Go.WideElems Go.ChangeMaps
open Go.WideMaps (KeyLaw)

/-- Block b is a map with keys of type K; n bounds its entries, M is its view: the number at each key, 0 where there is none. -/
def MapAt {α : Type} (enc : α → Value) (K : TypeId) (w : World) (b n : Nat) (M : α → Int) : Prop :=
  ∃ es clock, w.heap[b]? = some (.map es clock) ∧ es.size ≤ n ∧ Fit (H := Unit) Try.prog K (plainElem Try.prog 3) es clock ∧
    (∀ x ∈ es.toList, ∃ a, x.key = enc a ∧ x.val = .int .i64 (M a)) ∧ (∀ a, M a ≠ 0 → ∃ x ∈ es.toList, x.key = enc a)

section
variable {α : Type} {enc : α → Value} {K t : TypeId} {w w' : World} {b n : Nat} {M : α → Int}

theorem MapAt.lt (h : MapAt enc K w b n M) : b < w.heap.size := by
  obtain ⟨es, clock, hb, _⟩ := h
  exact (Array.getElem?_eq_some_iff.1 hb).1
theorem MapAt.same (h : MapAt enc K w b n M) (hb : w'.heap[b]? = w.heap[b]?) : MapAt enc K w' b n M := by
  obtain ⟨es, clock, h1, h2⟩ := h
  exact ⟨es, clock, hb.trans h1, h2⟩
theorem MapAt.made (w : World) (hM : ∀ a, M a = 0) : MapAt enc K (w.alloc (.map #[] 0)) w.heap.size 0 M :=
  ⟨#[], 0, heap_alloc_new w _, Nat.le_refl _, ⟨by simp, by simp [MapKept.Stamped], by simp⟩, by simp, fun a h => absurd (hM a) h⟩

/-- m[a], absent or not. -/
theorem MapAt.look (h : MapAt enc K w b n M) (hK : KeyLaw Try.prog K) (ht : Try.prog.underlying t = some (.map K 3)) (hinj : ∀ a a', enc a = enc a' → a = a') {a : α} {kl : Lit} (hk : keyOf Try.prog K (enc a) = some kl) :
    (Instr.lookup t (.map (some b)) (enc a) false).run Try.prog w = .ok (.int .i64 (M a)) w := by
  obtain ⟨es, clock, hb, hsz, F, h1, h2⟩ := h
  rcases Maps.fit_look false (Keyed.of_law hK) ht (Try.zeroValue3 w) hb F hk with ⟨hr, hno, _⟩ | ⟨e0, y, he, hkey, hr, _⟩
  · have h0 : M a = 0 := Decidable.byContradiction fun hne => by
      obtain ⟨x, hx, e⟩ := h2 a hne
      exact hno x hx e
    rw [h0]
    exact hr
  · obtain ⟨a', e1, e2⟩ := h1 e0 he
    have : a' = a := hinj _ _ (e1.symm.trans hkey)
    subst this
    rw [← e2]
    exact hr

theorem of_sorted {H : Type} {p : Lit × DataW H} {L : List (Lit × DataW H)} (h : p ∈ L.foldr DataW.insert []) : p ∈ L := (Go.WideShapes.sorted_perm L).mem_iff.1 h
theorem to_sorted {H : Type} {p : Lit × DataW H} {L : List (Lit × DataW H)} (h : p ∈ L) : p ∈ L.foldr DataW.insert [] := (Go.WideShapes.sorted_perm L).mem_iff.2 h
theorem in_put {H : Type} {kl : Lit} {d : DataW H} {L : List (Lit × DataW H)} : (kl, d) ∈ putKey kl d L := (Go.WideShapes.insert_perm (kl, d) _).mem_iff.2 (List.mem_cons_self ..)
theorem in_put_old {H : Type} {kl : Lit} {d : DataW H} {p : Lit × DataW H} {L : List (Lit × DataW H)} (hkl : WideAt.IsKeyLit kl) (h : p ∈ L) (hne : p.1 ≠ kl) : p ∈ putKey kl d L :=
  (Go.WideShapes.insert_perm (kl, d) _).mem_iff.2 (List.mem_cons_of_mem _ (List.mem_filter.2 ⟨h, (Maps.notKey_iff hkl).2 hne⟩))

/-- The view after a store. -/
def upd [DecidableEq α] (M : α → Int) (a : α) (v : Int) : α → Int := fun a' => if a' = a then v else M a'

set_option maxRecDepth 100000 in
/-- m[a] op= v: the entry, then the store through it: the map's view turns at a. -/
theorem MapAt.entry [DecidableEq α] (h : MapAt enc K w b n M) (hK : KeyLaw Try.prog K) (ht : Try.prog.underlying t = some (.map K 3)) (hinj : ∀ a a', enc a = enc a' → a = a') {a : α} {kl : Lit} (hk : keyOf Try.prog K (enc a) = some kl)
    (hroom : n < maxLen) :
    ∃ (v0 : Value) (st : Nat) (w1 : World), (Instr.mapEntry t (.map (some b)) (enc a)).run Try.prog w = .ok (.tuple #[v0, goInt st]) w1 ∧
      ∀ v : Int, (Lit.int .i64 v).wf = true → ∃ w2 : World, (Instr.entryStore t (.map (some b)) (goInt st) (.int .i64 v)).run Try.prog w1 = .ok () w2 ∧ MapAt enc K w2 b (n + 1) (upd M a v) ∧ w.grownBy w2 (some b) ∧ w2.heap.size = w.heap.size := by
  obtain ⟨es, clock, hb, hsz, F, h1, h2⟩ := h
  obtain ⟨v0, st, es1, clock1, hr, _, hs⟩ := entry_then_store hK ht Try.zeroValue3 hb F hk
  refine ⟨v0, st, _, hr, fun v hv => ?_⟩
  have hbl : b < w.heap.size := (Array.getElem?_eq_some_iff.1 hb).1
  obtain ⟨es', clock', hst, hup⟩ := hs (setBlock w b (.map es1 clock1)) (.int .i64 v) (by simp [setBlock, hbl])
  obtain ⟨es2, clock2, hup2, F2, hput, _, _, hwho⟩ := Maps.fit_store (R' := plainElem Try.prog 3) (Keyed.of_law hK) ht hb F (Nat.lt_of_le_of_lt hsz hroom) (fun _ _ _ _ h => h) hk (plainElem_int Try.underlying3 hv)
  have hget : ∀ o : Obj, (setBlock w b o).heap[b]? = some o := fun o => by simp [setBlock, hbl]
  have he : es' = es2 ∧ clock' = clock2 := by
    rw [hup] at hup2
    injection hup2 with _ hw
    have h3 := hget (.map es' clock')
    rw [hw, hget] at h3
    injection h3 with h3
    injection h3 with h3 h4
    exact ⟨h3.symm, h4.symm⟩
  obtain ⟨rfl, rfl⟩ := he
  refine ⟨_, hst, ⟨es', clock', ?_, ?_, F2, ?_, ?_⟩, ?_, ?_⟩
  · simp [setBlock, hbl]
  · have e1 : es'.size = ((es'.toList.map (rg Try.prog K (plainElem Try.prog 3))).foldr (DataW.insert (H := Unit)) []).length := by rw [length_sorted]; simp
    rw [e1, hput]
    unfold putKey
    rw [length_insert]
    have e2 := List.length_filter_le (notKey (H := Unit) kl) ((es.toList.map (rg Try.prog K (plainElem Try.prog 3))).foldr DataW.insert [])
    rw [length_sorted] at e2
    simp at e2
    omega
  · intro x hx
    rcases hwho x hx with ⟨hx0, hne⟩ | ⟨e1, e2⟩
    · obtain ⟨a', e1, e2⟩ := h1 x hx0
      refine ⟨a', e1, ?_⟩
      have : a' ≠ a := fun e => hne (by rw [e1, e])
      simp [upd, this, e2]
    · exact ⟨a, e1, by simp [upd, e2]⟩
  · have hback : ∀ p, p ∈ putKey kl (DataW.lit (.int .i64 v) : DataW Unit) ((es.toList.map (rg Try.prog K (plainElem Try.prog 3))).foldr DataW.insert []) → ∃ x ∈ es'.toList, keyOf Try.prog K x.key = some p.1 := by
      intro p hp
      obtain ⟨x, hx, e⟩ := List.mem_map.1 (of_sorted (hput.symm ▸ hp))
      obtain ⟨y, hy⟩ := F2.reads x hx
      rw [rg_of hy] at e
      subst e
      exact ⟨x, hx, rd_key hy⟩
    intro a' hne
    by_cases ha : a' = a
    · subst ha
      obtain ⟨x, hx, e⟩ := hback (kl, _) in_put
      exact ⟨x, hx, hK.inj e hk⟩
    · have hM : M a' ≠ 0 := by simpa [upd, ha] using hne
      obtain ⟨x0, hx0, e0⟩ := h2 a' hM
      obtain ⟨y, hy⟩ := F.reads x0 hx0
      have hy1 := rd_key hy
      have hyk : y.1 ≠ kl := fun e => ha (hinj _ _ (e0.symm.trans (hK.inj hy1 (e ▸ hk))))
      obtain ⟨x, hx, e⟩ := hback y (in_put_old ((Keyed.of_law hK).key hk) (to_sorted (List.mem_map.2 ⟨x0, hx0, rg_of hy⟩)) hyk)
      exact ⟨x, hx, (hK.inj e hy1).trans e0⟩
  · refine ⟨rfl, rfl, rfl, by simp [setBlock], fun k hk hne => ?_⟩
    have : b ≠ k := fun e => hne (by rw [e])
    simp [setBlock, this]
  · simp [setBlock]


/-- mapEntry alone leaves the view as it is. -/
theorem MapAt.entered (h : MapAt enc K w b n M) (hK : KeyLaw Try.prog K) (ht : Try.prog.underlying t = some (.map K 3)) (hinj : ∀ a a', enc a = enc a' → a = a') {a : α} {kl : Lit} (hk : keyOf Try.prog K (enc a) = some kl) (hroom : n < maxLen) :
    ∃ (v0 : Value) (st : Value) (w1 : World), (Instr.mapEntry t (.map (some b)) (enc a)).run Try.prog w = .ok (.tuple #[v0, st]) w1 ∧ MapAt enc K w1 b (n + 1) M ∧ w.grownBy w1 (some b) := by
  classical
  have h0 := h
  obtain ⟨es, clock, hb, hsz, F, h1, h2⟩ := h
  have hbl : b < w.heap.size := (Array.getElem?_eq_some_iff.1 hb).1
  have hgrow : ∀ o : Obj, w.grownBy (setBlock w b o) (some b) := fun o => by
    refine ⟨rfl, rfl, rfl, by simp [setBlock], fun k hk hne => ?_⟩
    have : b ≠ k := fun e => hne (by rw [e])
    simp [setBlock, this]
  rcases hK.find w hk es.toList F.keys with ⟨h1', h2'⟩ | ⟨j, e0, h1', h2', h3'⟩
  · have hr : (Instr.mapEntry t (.map (some b)) (enc a)).run Try.prog w = .ok (.tuple #[.int .i64 0, goInt clock]) (setBlock w b (.map (es.push ⟨enc a, .int .i64 0, clock⟩) (clock + 1))) := by
      simp [Instr.mapEntry, run_underlying ht, MapKept.run_getObj_map hb, hK.check w false hk, h1', Try.zeroValue3, MapKept.run_setObj_map _ hb, Result.andThen, setBlock]
    have hu : (Instr.mapUpdate t (.map (some b)) (enc a) (.int .i64 0)).run Try.prog w = .ok () (setBlock w b (.map (es.push ⟨enc a, .int .i64 0, clock⟩) (clock + 1))) := by
      simp [Instr.mapUpdate, run_underlying ht, MapKept.run_getObj_map hb, hK.check w false hk, h1', MapKept.run_setObj_map _ hb, Result.andThen, setBlock]
    refine ⟨_, _, _, hr, ?_, hgrow _⟩
    obtain ⟨v0, st, w1, hr1, hall⟩ := h0.entry hK ht hinj hk hroom
    rw [hr] at hr1
    injection hr1 with e1 e2
    injection e1 with e1
    simp at e1
    obtain ⟨w2, hw2, hm2, _⟩ := hall 0 (by decide)
    have hM : M a = 0 := Decidable.byContradiction fun hne => by
      obtain ⟨x, hx, e⟩ := h2 a hne
      exact h2' x hx e
    obtain ⟨es2, clock2, hup2, F2, hput, _, _, hwho⟩ := Maps.fit_store (R' := plainElem Try.prog 3) (Keyed.of_law hK) ht hb F (Nat.lt_of_le_of_lt hsz hroom) (fun _ _ _ _ h => h) hk (plainElem_int Try.underlying3 (a := 0) (by decide))
    rw [hu] at hup2
    injection hup2 with _ hw
    have hget : ∀ o : Obj, (setBlock w b o).heap[b]? = some o := fun o => by simp [setBlock, hbl]
    have h3 := hget (.map (es.push ⟨enc a, .int .i64 0, clock⟩) (clock + 1))
    rw [hw, hget] at h3
    injection h3 with h3
    injection h3 with h3 h4
    refine ⟨_, _, hget _, by simp; omega, ?_, ?_, ?_⟩
    · rw [← h3, ← h4]; exact F2
    · intro x hx
      simp only [Array.toList_push, List.mem_append, List.mem_singleton] at hx
      rcases hx with hx | rfl
      · exact h1 x hx
      · exact ⟨a, rfl, by rw [hM]⟩
    · intro a' hne
      obtain ⟨x, hx, e⟩ := h2 a' hne
      exact ⟨x, by simp only [Array.toList_push, List.mem_append]; exact Or.inl hx, e⟩
  · have hj : es[j]? = some e0 := by simpa using h2'
    have hsame : es.modify j (fun e => { e with key := enc a }) = es := by
      apply Array.ext'
      rw [Array.toList_modify, Go.ChangeMaps.modify_eq_set _ _ _ _ h2']
      have : ({ e0 with key := enc a } : MapEntry) = e0 := by rw [← h3']
      rw [this]
      exact set_self _ _ _ h2'
    have hr : (Instr.mapEntry t (.map (some b)) (enc a)).run Try.prog w = .ok (.tuple #[e0.val, goInt e0.born]) (setBlock w b (.map es clock)) := by
      simp [Instr.mapEntry, run_underlying ht, MapKept.run_getObj_map hb, hK.check w false hk, h1', hj, h3', hK.stays w hk, hsame, MapKept.run_setObj_map _ hb, Result.andThen, setBlock]
    exact ⟨_, _, _, hr, ⟨es, clock, by simp [setBlock, hbl], Nat.le_succ_of_le hsz, F, h1, h2⟩, hgrow _⟩

/-- Both halves: the entry leaves the view, the store turns it. -/
theorem MapAt.entry2 [DecidableEq α] (h : MapAt enc K w b n M) (hK : KeyLaw Try.prog K) (ht : Try.prog.underlying t = some (.map K 3)) (hinj : ∀ a a', enc a = enc a' → a = a') {a : α} {kl : Lit} (hk : keyOf Try.prog K (enc a) = some kl) (hroom : n < maxLen) {v : Int} (hv : (Lit.int .i64 v).wf = true) :
    ∃ (v0 : Value) (st : Value) (w1 w2 : World), (Instr.mapEntry t (.map (some b)) (enc a)).run Try.prog w = .ok (.tuple #[v0, st]) w1 ∧ MapAt enc K w1 b (n + 1) M ∧ w.grownBy w1 (some b) ∧
      (Instr.entryStore t (.map (some b)) st (.int .i64 v)).run Try.prog w1 = .ok () w2 ∧ MapAt enc K w2 b (n + 1) (upd M a v) ∧ w.grownBy w2 (some b) := by
  obtain ⟨v0, st, w1, hr, hm, hg⟩ := h.entered hK ht hinj hk hroom
  obtain ⟨v0', st', w1', hr', hall⟩ := h.entry hK ht hinj hk hroom
  rw [hr] at hr'
  injection hr' with e1 e2
  injection e1 with e1
  simp at e1
  obtain ⟨e3, e4⟩ := e1
  subst e2 e4
  obtain ⟨w2, h1, h2, h3, _⟩ := hall v hv
  exact ⟨v0, _, w1, w2, hr, hm, hg, h1, h2, h3⟩

theorem MapAt.mono {m : Nat} (h : MapAt enc K w b n M) (hm : n ≤ m) : MapAt enc K w b m M := by
  obtain ⟨es, clock, h1, h2, h3⟩ := h
  exact ⟨es, clock, h1, Nat.le_trans h2 hm, h3⟩

end

/-- m[k] op= v, the first half, at the operation. -/
theorem wpList_mapEntry {P : Program} {ops : Array Oper} {rest : List Oper} {op : Oper} {a : Act} {w w1 : World} {Q : Exit → Act → World → Prop} (hgd : op.guard = none) (t : TypeId) (m k : Operand) (ho : op.op = .mapEntry t m k)
    (mv kv : Value) (hm : a.eval m = mv) (hk : a.eval k = kv) {v : Value} (hr : (Instr.mapEntry t mv kv).run P w = .ok v w1) (h : wpList P ops Q rest (a.put op.dst v) w1) : wpList P ops Q (op :: rest) a w := by
  refine wpList_plain hgd fun K' hK' => ?_
  unfold Oper.wp
  simp [execOp, ho, hm, hk, hr, Result.andThen]
  exact hK' _ _ h
/-- The second half. -/
theorem wpList_entryStore {P : Program} {ops : Array Oper} {rest : List Oper} {op : Oper} {a : Act} {w w1 : World} {Q : Exit → Act → World → Prop} (hgd : op.guard = none) (t : TypeId) (m k x : Operand) (ho : op.op = .entryStore t m k x)
    (mv kv xv : Value) (hm : a.eval m = mv) (hk : a.eval k = kv) (hx : a.eval x = xv) (hr : (Instr.entryStore t mv kv xv).run P w = .ok () w1) (h : wpList P ops Q rest (a.put op.dst undef) w1) : wpList P ops Q (op :: rest) a w := by
  refine wpList_plain hgd fun K' hK' => ?_
  unfold Oper.wp
  simp [execOp, ho, hm, hk, hx, hr, Result.andThen]
  exact hK' _ _ h

end Go.Proofs.Ytoiipfcmkogcfaa
