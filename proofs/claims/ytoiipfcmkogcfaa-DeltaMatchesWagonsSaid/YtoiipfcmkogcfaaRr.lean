/-
  What the reference's Wagons answers is what WagSpec says. No program is in sight here.
-/
import Derived.Test.YtoiipfcmkogcfaaWu
import Derived.Test.YtoiipfcmkogcfaaRq
namespace Go.Proofs.Ytoiipfcmkogcfaa
open Go.RowKit

def cntK (l : List Rp) (a : CK) : Nat := l.countP fun x => decide (x.key = a)
theorem cntL_at {s : Int} (hs : s = 1 ∨ s = -1) : ∀ (l : List Rp) (M : CK → Int) (n : Nat), l.length ≤ n → n ≤ 1000 → (∀ a, -(1000 - (n : Int)) ≤ M a ∧ M a ≤ 1000 - (n : Int)) → ∀ a, cntL s M l a = M a + s * (cntK l a : Int)
  | [], M, n, _, _, _, a => by simp [cntL, cntK]
  | r :: l, M, n, hn, h1, h, a => by
    simp only [List.length_cons] at hn
    have hw : ∀ b, cntR s M r b = M b + (if r.key = b then s else 0) := by
      intro b
      unfold cntR upd
      by_cases hb : r.key = b
      · subst hb
        have := h r.key
        rw [if_pos rfl, if_pos rfl]
        unfold wrap64
        omega
      · rw [if_neg (fun e => hb e.symm), if_neg hb]
        omega
    have ih := cntL_at hs l (cntR s M r) (n - 1) (by omega) (by omega) (fun b => by
      rw [hw]
      have := h b
      split <;> omega) a
    have e : cntL s M (r :: l) a = cntL s (cntR s M r) l a := rfl
    rw [e, ih, hw]
    unfold cntK
    rw [List.countP_cons]
    by_cases hb : r.key = a
    · simp [hb]
      rcases hs with rfl | rfl <;> omega
    · simp [hb]
theorem cnts_at {old new : List Rp} (ho : old.length ≤ 100) (hn : new.length ≤ 100) (a : CK) : cnts old new a = (cntK new a : Int) - (cntK old a : Int) := by
  have h0 : ∀ b, cntL (-1) (fun _ => 0) old b = -(cntK old b : Int) := fun b => by
    rw [cntL_at (.inr rfl) old (fun _ => 0) 100 ho (by decide) (fun _ => by omega) b]
    omega
  have hb : ∀ b, (cntK old b : Int) ≤ 100 := fun b => by
    have : cntK old b ≤ old.length := List.countP_le_length
    omega
  unfold cnts
  rw [cntL_at (.inl rfl) new _ 100 hn (by decide) (fun b => by rw [h0]; have := hb b; omega) a, h0]
  omega
theorem cnts_turned {old new : List Rp} (ho : old.length ≤ 100) (hn : new.length ≤ 100) (a : CK) : cnts new old.reverse a ≠ 0 ↔ cnts old new a ≠ 0 := by
  rw [cnts_at hn (by simpa using ho), cnts_at ho hn]
  have : cntK old.reverse a = cntK old a := by unfold cntK; rw [List.countP_reverse]
  rw [this]
  omega
theorem WagSpec.congr {M M' : CK → Int} {nw : Nat} {l : List Int} {al : Bool} (h : WagSpec M nw l al) (he : ∀ a, M' a ≠ 0 ↔ M a ≠ 0) : WagSpec M' nw l al := by
  obtain ⟨h1, h2, h3⟩ := h
  refine ⟨h1, fun x => ?_, ?_⟩
  · rw [h2]; simp only [he]
  · rw [h3]; simp only [he]
theorem sorted_ext : ∀ {l l' : List Int}, l.Pairwise (· < ·) → l'.Pairwise (· < ·) → (∀ x, x ∈ l ↔ x ∈ l') → l = l'
  | [], [], _, _, _ => rfl
  | [], y :: s, _, _, h => by have := (h y).2 (List.mem_cons_self ..); simp at this
  | x :: r, [], _, _, h => by have := (h x).1 (List.mem_cons_self ..); simp at this
  | x :: r, y :: s, h1, h2, h => by
    rw [List.pairwise_cons] at h1 h2
    have hxy : x = y := by
      rcases List.mem_cons.1 ((h x).1 (List.mem_cons_self ..)) with e | e
      · exact e
      · rcases List.mem_cons.1 ((h y).2 (List.mem_cons_self ..)) with e' | e'
        · exact e'.symm
        · have := h2.1 x e
          have := h1.1 y e'
          omega
    subst hxy
    rw [sorted_ext h1.2 h2.2 fun z => ?_]
    have hz := h z
    simp only [List.mem_cons] at hz
    constructor
    · intro hm
      rcases hz.1 (.inr hm) with e | e
      · subst e; have := h1.1 z hm; omega
      · exact e
    · intro hm
      rcases hz.2 (.inr hm) with e | e
      · subst e; have := h2.1 z hm; omega
      · exact e
theorem WagSpec.unique {M : CK → Int} {nw : Nat} {l l' : List Int} {al al' : Bool} (h : WagSpec M nw l al) (h' : WagSpec M nw l' al') : l = l' ∧ al = al' := by
  obtain ⟨h1, h2, h3⟩ := h
  obtain ⟨h1', h2', h3'⟩ := h'
  refine ⟨sorted_ext h1 h1' fun x => by rw [h2, h2'], ?_⟩
  rw [Bool.eq_iff_iff, h3, h3']

/-- A report of the two lists that does not occur as often in both. -/
def difR (old new : List Rp) (r : Rp) : Bool := !(cntS old r == cntS new r)
def hitTo (old new : List Rp) (k : Nat) (j : Nat) : Bool := ((old ++ new).take k).any fun r => difR old new r && !comK r.kd && decide (r.wg = (j : Int))
def allTo (old new : List Rp) (k : Nat) : Bool := ((old ++ new).take k).any fun r => difR old new r && comK r.kd
theorem hitTo_succ {old new : List Rp} {k : Nat} {r : Rp} (hr : (old ++ new)[k]? = some r) (j : Nat) : hitTo old new (k + 1) j = (hitTo old new k j || (difR old new r && !comK r.kd && decide (r.wg = (j : Int)))) := by
  rw [hitTo, List.take_add_one, hr, List.any_append]
  simp [hitTo]
theorem allTo_succ {old new : List Rp} {k : Nat} {r : Rp} (hr : (old ++ new)[k]? = some r) : allTo old new (k + 1) = (allTo old new k || (difR old new r && comK r.kd)) := by
  rw [allTo, List.take_add_one, hr, List.any_append]
  simp [allTo]
/-- The row of hits. -/
def hitRow (old new : List Rp) (nw k : Nat) : Array Value := ((List.range nw).map fun j => Value.bool (hitTo old new k j)).toArray
theorem hitRow_size (old new : List Rp) (nw k : Nat) : (hitRow old new nw k).size = nw := by simp [hitRow]
theorem hitRow_zero (old new : List Rp) (nw : Nat) : Array.replicate nw (Value.bool false) = hitRow old new nw 0 := by
  apply Array.ext
  · simp [hitRow]
  · intro i h1 h2
    simp [hitRow, hitTo]
theorem hitRow_at (old new : List Rp) {nw j : Nat} (k : Nat) (h : j < nw) : (hitRow old new nw k)[j]? = some (.bool (hitTo old new k j)) := by
  simp [hitRow, h]
theorem hitRow_skip {old new : List Rp} {nw k : Nat} {r : Rp} (hr : (old ++ new)[k]? = some r) (h : difR old new r = false ∨ comK r.kd = true ∨ r.wg < 0 ∨ (nw : Int) ≤ r.wg) : hitRow old new nw (k + 1) = hitRow old new nw k := by
  unfold hitRow
  congr 1
  apply List.map_congr_left
  intro j hj
  rw [List.mem_range] at hj
  rw [hitTo_succ hr]
  rcases h with h | h | h | h
  · simp [h]
  · simp [h]
  · rw [decide_eq_false (show ¬ r.wg = (j : Int) by omega)]; simp
  · rw [decide_eq_false (show ¬ r.wg = (j : Int) by omega)]; simp
theorem hitRow_set {old new : List Rp} {nw k : Nat} {r : Rp} (hr : (old ++ new)[k]? = some r) {i : Nat} (hd : difR old new r = true) (hc : comK r.kd = false) (hw : r.wg = (i : Int)) : (hitRow old new nw k).setIfInBounds i (.bool true) = hitRow old new nw (k + 1) := by
  apply Array.ext
  · simp [hitRow]
  · intro n h1 h2
    simp only [hitRow, List.setIfInBounds_toArray, List.getElem_toArray, List.getElem_set, List.getElem_map, List.getElem_range]
    rw [hitTo_succ hr, hd, hc, hw]
    by_cases h : i = n
    · subst h; simp
    · rw [if_neg h, decide_eq_false (show ¬ ((i : Int) = (n : Int)) by omega)]; simp
/-- The wagons that are hit, below k. -/
def hitsTo (old new : List Rp) (k : Nat) : List Int := ((List.range k).filter fun j => hitTo old new (old ++ new).length j).map fun j : Nat => (j : Int)
theorem hitsTo_succ (old new : List Rp) (k : Nat) : hitsTo old new (k + 1) = hitsTo old new k ++ (if hitTo old new (old ++ new).length k = true then [(k : Int)] else []) := by
  unfold hitsTo
  rw [List.range_succ, List.filter_append, List.map_append]
  congr 1
  by_cases h : hitTo old new (old ++ new).length k = true
  · rw [if_pos h, List.filter_cons, if_pos h]
    rfl
  · rw [if_neg h, List.filter_cons, if_neg h]
    rfl
theorem cntS_key {l : List Rp} {r : Rp} (hl : ∀ x ∈ l, x.ok) (hr : r.ok) : cntS l r = cntK l r.key := by
  unfold cntS cntK
  apply List.countP_congr
  intro x hx
  rw [decide_eq_true_eq, sameR_iff (hl x hx) hr]
theorem difR_iff {old new : List Rp} (ho : ∀ x ∈ old, x.ok) (hn : ∀ x ∈ new, x.ok) (lo : old.length ≤ 100) (ln : new.length ≤ 100) {r : Rp} (hr : r.ok) : difR old new r = true ↔ cnts old new r.key ≠ 0 := by
  rw [cnts_at lo ln, difR, cntS_key ho hr, cntS_key hn hr]
  simp
  omega
theorem cnts_mem {old new : List Rp} (lo : old.length ≤ 100) (ln : new.length ≤ 100) {a : CK} (h : cnts old new a ≠ 0) : ∃ r ∈ old ++ new, r.key = a := by
  rw [cnts_at lo ln] at h
  apply Classical.byContradiction
  intro hc
  have h0 : ∀ l : List Rp, (∀ x ∈ l, x.key ≠ a) → cntK l a = 0 := fun l hl => by
    unfold cntK
    rw [List.countP_eq_zero]
    intro x hx
    simpa using hl x hx
  have e1 := h0 old fun x hx e => hc ⟨x, List.mem_append_left _ hx, e⟩
  have e2 := h0 new fun x hx e => hc ⟨x, List.mem_append_right _ hx, e⟩
  omega
theorem kindC_key (r : Rp) : kindC r.key = r.kd := rfl
theorem wagC_key (r : Rp) : wagC r.key = r.wg := rfl
/-- The reference answers what WagSpec says. -/
theorem ref_spec {old new : List Rp} (ho : ∀ x ∈ old, x.ok) (hn : ∀ x ∈ new, x.ok) (lo : old.length ≤ 100) (ln : new.length ≤ 100) (nw : Nat) : WagSpec (cnts old new) nw (hitsTo old new nw) (allTo old new (old ++ new).length) := by
  have hok : ∀ x ∈ old ++ new, x.ok := fun x hx => (List.mem_append.1 hx).elim (ho x) (hn x)
  refine ⟨?_, fun x => ?_, ?_⟩
  · unfold hitsTo
    rw [List.pairwise_map]
    refine List.Pairwise.imp (fun h => ?_) (List.Pairwise.filter _ (List.pairwise_lt_range (n := nw)))
    omega
  · unfold hitsTo
    rw [List.mem_map]
    constructor
    · rintro ⟨j, hj, rfl⟩
      obtain ⟨h1, h2⟩ := List.mem_filter.1 hj
      rw [List.mem_range] at h1
      rw [hitTo, List.take_length, List.any_eq_true] at h2
      obtain ⟨r, hr, h3⟩ := h2
      simp only [Bool.and_eq_true, decide_eq_true_eq, Bool.not_eq_true'] at h3
      exact ⟨r.key, (difR_iff ho hn lo ln (hok r hr)).1 h3.1.1, by rw [kindC_key]; exact h3.1.2, by rw [wagC_key]; exact h3.2, by omega, by omega⟩
    · rintro ⟨a, h1, h2, h3, h4, h5⟩
      obtain ⟨r, hr, rfl⟩ := cnts_mem lo ln h1
      rw [kindC_key] at h2
      rw [wagC_key] at h3
      refine ⟨x.toNat, List.mem_filter.2 ⟨List.mem_range.2 (by omega), ?_⟩, by omega⟩
      rw [hitTo, List.take_length, List.any_eq_true]
      refine ⟨r, hr, ?_⟩
      rw [(difR_iff ho hn lo ln (hok r hr)).2 h1, h2, decide_eq_true (show r.wg = ((x.toNat : Nat) : Int) by omega)]
      rfl
  · rw [allTo, List.take_length, List.any_eq_true]
    constructor
    · rintro ⟨r, hr, h⟩
      simp only [Bool.and_eq_true] at h
      exact ⟨r.key, (difR_iff ho hn lo ln (hok r hr)).1 h.1, by rw [kindC_key]; exact h.2⟩
    · rintro ⟨a, h1, h2⟩
      obtain ⟨r, hr, rfl⟩ := cnts_mem lo ln h1
      exact ⟨r, hr, by rw [(difR_iff ho hn lo ln (hok r hr)).2 h1]; exact h2⟩

end Go.Proofs.Ytoiipfcmkogcfaa
