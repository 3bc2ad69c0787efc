/-
  The reference's Diff, in plain Lean: changes inserted into a sorted list. No program is in sight here.
-/
import Derived.Test.YtoiipfcmkogcfaaWm
import Derived.Test.YtoiipfcmkogcfaaWq
namespace Go.Proofs.Ytoiipfcmkogcfaa
open Go.RowKit Go.Lib

def addR : List Dl → Dl → List Dl
  | [], d => [d]
  | x :: r, d => if cmpD x d < 0 then x :: addR r d else if cmpD x d = 0 then x.with (wrap64 (x.amount + d.amount)) :: r else d :: x :: r

theorem addR_skip : ∀ {l : List Dl} {d : Dl} {k : Nat}, (∀ j x, j < k → l[j]? = some x → cmpD x d < 0) → addR l d = l.take k ++ addR (l.drop k) d
  | [], d, k, _ => by simp
  | x :: r, d, 0, _ => by simp
  | x :: r, d, k + 1, h => by
    have h0 := h 0 x (by omega) rfl
    have ih := addR_skip (l := r) (d := d) (k := k) (fun j y hj hy => h (j + 1) y (by omega) (by simpa using hy))
    simp [addR, h0, ih]
theorem addR_eq {l : List Dl} {d x : Dl} {k : Nat} (h : ∀ j x, j < k → l[j]? = some x → cmpD x d < 0) (hx : l[k]? = some x) (h0 : cmpD x d = 0) : addR l d = l.set k (x.with (wrap64 (x.amount + d.amount))) := by
  rw [addR_skip h]
  have hk := (List.getElem?_eq_some_iff.1 hx).1
  have e : l.drop k = x :: l.drop (k + 1) := by
    rw [List.drop_eq_getElem_cons hk]
    have := (List.getElem?_eq_some_iff.1 hx).2
    rw [this]
  rw [e, addR, if_neg (by omega), if_pos h0, List.set_eq_take_append_cons_drop, if_pos hk]
theorem addR_new {l : List Dl} {d : Dl} {k : Nat} (h : ∀ j x, j < k → l[j]? = some x → cmpD x d < 0) (hx : ∀ x, l[k]? = some x → 0 < cmpD x d) : addR l d = l.take k ++ d :: l.drop k := by
  rw [addR_skip h]
  cases e : l.drop k with
  | nil => rfl
  | cons x r =>
    have : l[k]? = some x := by
      have h1 : (l.drop k)[0]? = some x := by rw [e]; rfl
      simpa using h1
    have h2 := hx x this
    rw [addR, if_neg (by omega), if_neg (by omega)]
theorem addR_len (l : List Dl) (d : Dl) : (addR l d).length ≤ l.length + 1 := by
  induction l with
  | nil => simp [addR]
  | cons x r ih =>
    simp only [addR]
    split
    · simp; omega
    · split <;> simp

/-- The amount at a slot, 0 where there is none. -/
def val (l : List Dl) (s : List Int) : Int := match l with
  | [] => 0
  | x :: r => if x.slot = s then x.amount else val r s

theorem addR_head {l : List Dl} {x d : Dl} (h : ∀ y ∈ l, cmpD x y < 0) (hd : cmpD x d < 0) : ∀ y ∈ addR l d, cmpD x y < 0 := by
  induction l with
  | nil => intro y hy; simp [addR] at hy; rw [hy]; exact hd
  | cons z r ih =>
    intro y hy
    have hz := h z (List.mem_cons_self ..)
    have hr : ∀ y ∈ r, cmpD x y < 0 := fun y hy => h y (List.mem_cons_of_mem _ hy)
    simp only [addR] at hy
    split at hy
    · rcases List.mem_cons.1 hy with rfl | hy
      · exact hz
      · exact ih hr y hy
    · split at hy
      · rcases List.mem_cons.1 hy with rfl | hy
        · exact hz
        · exact hr y hy
      · rcases List.mem_cons.1 hy with rfl | hy
        · exact hd
        · exact h y hy
theorem addR_sorted {l : List Dl} {d : Dl} (h : SortedD l) : SortedD (addR l d) := by
  induction l with
  | nil => exact List.pairwise_singleton _ _
  | cons x r ih =>
    obtain ⟨h1, h2⟩ := List.pairwise_cons.1 h
    simp only [addR]
    split
    · rename_i hlt
      exact List.pairwise_cons.2 ⟨addR_head h1 hlt, ih h2⟩
    · split
      · exact List.pairwise_cons.2 ⟨h1, h2⟩
      · rename_i h3 h4
        have hdx : cmpD d x < 0 := by have := cmpD_neg x d; omega
        refine List.pairwise_cons.2 ⟨fun y hy => ?_, h⟩
        rcases List.mem_cons.1 hy with rfl | hy
        · exact hdx
        · exact cmpD_trans hdx (h1 y hy)
theorem cmpD_self (x : Dl) : cmpD x x = 0 := cmpL_self _
theorem cmpD_slot {x y : Dl} (h : x.slot = y.slot) : cmpD x y = 0 := by rw [cmpD, h, cmpL_self]
theorem val_none {l : List Dl} {s : List Int} (h : ∀ x ∈ l, x.slot ≠ s) : val l s = 0 := by
  induction l with
  | nil => rfl
  | cons x r ih =>
    rw [val, if_neg (h x (List.mem_cons_self ..))]
    exact ih fun y hy => h y (List.mem_cons_of_mem _ hy)
theorem val_addR {l : List Dl} {d : Dl} (hs : SortedD l) (hw : -9223372036854775808 ≤ d.amount ∧ d.amount ≤ 9223372036854775807) (s : List Int) :
    val (addR l d) s = if s = d.slot then wrap64 (val l s + d.amount) else val l s := by
  induction l with
  | nil =>
    by_cases h : s = d.slot
    · subst h
      simp [addR, val, IntWalk.wrap64_in _ hw]
    · simp [addR, val, h]
      intro e
      exact absurd e.symm h
  | cons x r ih =>
    obtain ⟨h1, h2⟩ := List.pairwise_cons.1 hs
    simp only [addR]
    split
    · rename_i hlt
      have hne : x.slot ≠ d.slot := fun e => by have := cmpD_slot e; omega
      simp only [val, ih h2]
      by_cases h : x.slot = s
      · subst h
        simp [hne]
      · simp [h]
    · split
      · rename_i h3 h4
        have e := cmpD_zero h4
        simp only [val, Dl.with]
        have e1 : ({ x with amount := wrap64 (x.amount + d.amount) } : Dl).slot = x.slot := rfl
        by_cases h : s = d.slot
        · subst h
          simp [e1, e]
        · have : x.slot ≠ s := fun e2 => h (e2.symm.trans e)
          simp [e1, this, h]
      · rename_i h3 h4
        by_cases h : s = d.slot
        · subst h
          have hno : val (x :: r) d.slot = 0 := val_none fun y hy e => by
            have hxd : cmpD d x < 0 := by have := cmpD_neg x d; omega
            have hdy : cmpD d y < 0 := by
              rcases List.mem_cons.1 hy with rfl | hy
              · exact hxd
              · exact cmpD_trans hxd (h1 y hy)
            have := cmpD_slot e.symm
            omega
          rw [hno]
          simp [val, IntWalk.wrap64_in _ hw]
        · have : d.slot ≠ s := fun e => h e.symm
          rw [val, if_neg this, if_neg h]
theorem val_mem {l : List Dl} (hs : SortedD l) {d : Dl} : d ∈ l → val l d.slot = d.amount := by
  induction l with
  | nil => intro h; simp at h
  | cons x r ih =>
    obtain ⟨h1, h2⟩ := List.pairwise_cons.1 hs
    intro h
    rcases List.mem_cons.1 h with rfl | h
    · simp [val]
    · have : x.slot ≠ d.slot := fun e => by have := cmpD_slot e; have := h1 d h; omega
      rw [val, if_neg this]
      exact ih h2 h
theorem mem_val {l : List Dl} {d : Dl} (h : val l d.slot = d.amount) (h0 : d.amount ≠ 0) : d ∈ l := by
  induction l with
  | nil => exact absurd h.symm h0
  | cons x r ih =>
    rw [val] at h
    split at h
    · rename_i e
      rw [Dl.ext2 e h]
      exact List.mem_cons_self ..
    · exact List.mem_cons_of_mem _ (ih h)

/-- All lines of both lists, one after another. -/
def refL (la lb : List Dl) : List Dl := lb.foldl addR (la.foldl (fun l d => addR l (d.with (wrap64 (-d.amount)))) [])
def refD (la lb : List Dl) : List Dl := (refL la lb).filter fun d => d.amount != 0

theorem foldA_spec (f : Dl → Dl) (sign : Int) (hf : ∀ d, (f d).slot = d.slot ∧ (f d).amount = wrap64 (sign * d.amount)) : ∀ (la l : List Dl) (M : List Int → Int), SortedD l → (∀ s, val l s = M s) →
    SortedD (la.foldl (fun l d => addR l (f d)) l) ∧ ∀ s, val (la.foldl (fun l d => addR l (f d)) l) s = addLns sign M la s
  | [], l, M, hs, h => ⟨hs, h⟩
  | d :: r, l, M, hs, h => by
    have hw : -9223372036854775808 ≤ (f d).amount ∧ (f d).amount ≤ 9223372036854775807 := by rw [(hf d).2]; unfold wrap64; omega
    refine foldA_spec f sign hf r (addR l (f d)) (addLn sign M d) (addR_sorted hs) fun s => ?_
    rw [val_addR hs hw, (hf d).1, (hf d).2, addLn, upd]
    by_cases e : s = d.slot
    · subst e; simp [h]
    · simp [e, h]
theorem refD_spec (la lb : List Dl) (hb : ∀ d ∈ lb, -9223372036854775808 ≤ d.amount ∧ d.amount ≤ 9223372036854775807) : SortedD (refD la lb) ∧ ∀ d, d ∈ refD la lb ↔ d.amount ≠ 0 ∧ tot la lb d.slot = d.amount := by
  obtain ⟨s1, v1⟩ := foldA_spec (fun d => d.with (wrap64 (-d.amount))) (-1) (fun d => ⟨rfl, by simp [Dl.with]⟩) la [] (fun _ => 0) List.Pairwise.nil (fun _ => rfl)
  have e : ∀ l, lb.foldl addR l = lb.foldl (fun l d => addR l (d.with (wrap64 (1 * d.amount)))) l := by
    intro l
    induction lb generalizing l with
    | nil => rfl
    | cons d r ih =>
      have hd : d.with (wrap64 (1 * d.amount)) = d := by
        rw [Int.one_mul, IntWalk.wrap64_in _ (hb d (List.mem_cons_self ..))]
        cases d; rfl
      simp only [List.foldl_cons, hd]
      exact ih (fun x hx => hb x (List.mem_cons_of_mem _ hx)) _
  obtain ⟨s2, v2⟩ := foldA_spec (fun d => d.with (wrap64 (1 * d.amount))) 1 (fun d => ⟨rfl, rfl⟩) lb _ _ s1 v1
  rw [← e] at s2
  have v3 : ∀ s, val (refL la lb) s = tot la lb s := fun s => by rw [tot, ← v2 s, ← e]; rfl
  refine ⟨s2.filter _, fun d => ?_⟩
  rw [refD, List.mem_filter]
  constructor
  · rintro ⟨h1, h2⟩
    exact ⟨by simpa using h2, by rw [← v3]; exact val_mem s2 h1⟩
  · rintro ⟨h1, h2⟩
    exact ⟨mem_val (by rw [v3]; exact h2) h1, by simpa using h1⟩

end Go.Proofs.Ytoiipfcmkogcfaa
