/-
  The plain law of the months and of the bills. No program is in sight here.
-/
import Derived.Test.YtcdfjnnkocmeeaaGreatDoorPl
namespace Go.Proofs.YtcdfjnnkocmeeaaGreatDoor
open Go.RowKit

def monthsOf (l : List Ln) (k : Nat) : List Int := (l.take k).map fun x => x.d.month
def inMon (l : List Ln) (k : Nat) (x : Ln) : Bool := (monthsOf l k).any fun m => decide (x.d.month = m)
/-- The lines whose month occurs among the first k lines. -/
def partM (l : List Ln) (k : Nat) : List Dl := (l.filter (inMon l k)).map Ln.d
theorem monthsOf_succ {l : List Ln} {k : Nat} {x : Ln} (hx : l[k]? = some x) : monthsOf l (k + 1) = monthsOf l k ++ [x.d.month] := by
  rw [monthsOf, List.take_add_one, hx, List.map_append]
  rfl
theorem inMon_succ {l : List Ln} {k : Nat} {x : Ln} (hx : l[k]? = some x) (y : Ln) : inMon l (k + 1) y = (inMon l k y || monP x.d.month y) := by
  rw [inMon, monthsOf_succ hx, List.any_append]
  simp [inMon, monP]
theorem partM_seen {l : List Ln} {k : Nat} {x : Ln} (hx : l[k]? = some x) (h : inMon l k x = true) : partM l (k + 1) = partM l k := by
  unfold partM
  congr 2
  funext y
  rw [inMon_succ hx]
  by_cases h1 : inMon l k y = true
  · rw [h1]; rfl
  · rw [Bool.not_eq_true] at h1
    rw [h1]
    simp only [Bool.false_or, monP, decide_eq_false_iff_not]
    intro e
    unfold inMon at h h1
    rw [← e, h1] at h
    exact absurd h (by decide)
theorem flow_split (a : Nat) (p q r : Ln → Bool) : ∀ l : List Ln, (∀ y ∈ l, r y = (p y || q y)) → (∀ y ∈ l, p y = true → q y = false) →
    flowAt a ((l.filter r).map Ln.d) = flowAt a ((l.filter p).map Ln.d) + flowAt a ((l.filter q).map Ln.d)
  | [], _, _ => rfl
  | y :: l, h, hd => by
    have ih := flow_split a p q r l (fun z hz => h z (List.mem_cons_of_mem _ hz)) (fun z hz => hd z (List.mem_cons_of_mem _ hz))
    have h0 := h y (List.mem_cons_self ..)
    have hd0 := hd y (List.mem_cons_self ..)
    have hc : ∀ (x : Ln) (r : List Ln), flowAt a ((x :: r).map Ln.d) = lineAt a x.d + flowAt a (r.map Ln.d) := fun x r => by simp [flowAt]
    simp only [List.filter_cons, h0]
    cases hp : p y
    · cases hq : q y
      · simpa using ih
      · simp only [Bool.or_true, if_true, hc]
        simp only [Bool.false_eq_true, if_false]
        omega
    · have hq := hd0 hp
      rw [hq]
      simp only [Bool.or_false, if_true, hc]
      simp only [Bool.false_eq_true, if_false]
      omega
theorem flow_unseen {l : List Ln} {k : Nat} {x : Ln} (hx : l[k]? = some x) (h : inMon l k x = false) (a : Nat) :
    flowAt a (partM l (k + 1)) = flowAt a (partM l k) + flowAt a ((l.filter (monP x.d.month)).map Ln.d) := by
  refine flow_split a _ _ _ l (fun y _ => inMon_succ hx y) fun y _ hy => ?_
  rw [monP, decide_eq_false_iff_not]
  intro e
  unfold inMon at h hy
  rw [e, h] at hy
  exact absurd hy (by decide)
theorem partM_all (l : List Ln) : partM l l.length = l.map Ln.d := by
  rw [partM, List.filter_eq_self.2]
  intro y hy
  rw [inMon, List.any_eq_true]
  exact ⟨y.d.month, by rw [monthsOf, List.take_length]; exact List.mem_map_of_mem hy, by simp⟩
theorem partM_zero (l : List Ln) : partM l 0 = [] := by simp [partM, inMon, monthsOf]
/-- The sums of the months that occur among the first k lines. -/
def sumsM (l : List Ln) (k : Nat) : List Int := (List.range 336).map fun a => flowAt a (partM l k)
theorem sumsM_len (l : List Ln) (k : Nat) : (sumsM l k).length = 336 := by simp [sumsM]
theorem sumsM_at (l : List Ln) (k : Nat) {a : Nat} (ha : a < 336) : (sumsM l k)[a]? = some (flowAt a (partM l k)) := by simp [sumsM, ha]
theorem sumsM_zero (l : List Ln) : sumsM l 0 = List.replicate 336 0 := by
  apply List.ext_getElem?
  intro i
  by_cases hi : i < 336
  · rw [sumsM_at l 0 hi, partM_zero, List.getElem?_replicate, if_pos hi]; rfl
  · rw [List.getElem?_eq_none (by rw [sumsM_len]; omega), List.getElem?_eq_none (by rw [List.length_replicate]; omega)]
theorem sumsM_all {l : List Ln} (h : (balF (l.map Ln.d)).2 = 0) : sumsM l l.length = (balF (l.map Ln.d)).1 := by
  apply List.ext_getElem?
  intro i
  by_cases hi : i < 336
  · rw [sumsM_at l _ hi, balF_at h hi, partM_all]
  · rw [List.getElem?_eq_none (by rw [sumsM_len]; omega), List.getElem?_eq_none (by rw [balF_len h]; omega)]
/-- .. with the first a accounts of a further month. -/
def sumsN (l : List Ln) (k : Nat) (m : Int) (a : Nat) : List Int := (List.range 336).map fun i => flowAt i (partM l k) + if i < a then flowAt i ((l.filter (monP m)).map Ln.d) else 0
theorem sumsN_len (l : List Ln) (k : Nat) (m : Int) (a : Nat) : (sumsN l k m a).length = 336 := by simp [sumsN]
theorem sumsN_zero (l : List Ln) (k : Nat) (m : Int) : sumsN l k m 0 = sumsM l k := by simp [sumsN, sumsM]
theorem sumsN_at (l : List Ln) (k : Nat) (m : Int) {a : Nat} (ha : a < 336) : (sumsN l k m a)[a]? = some (flowAt a (partM l k)) := by simp [sumsN, ha]
theorem sumsN_set (l : List Ln) (k : Nat) (m : Int) {a : Nat} : (sumsN l k m a).set a (flowAt a (partM l k) + flowAt a ((l.filter (monP m)).map Ln.d)) = sumsN l k m (a + 1) := by
  apply List.ext_getElem?
  intro i
  rw [List.getElem?_set]
  simp only [sumsN_len]
  by_cases h : a = i
  · subst h
    rw [if_pos rfl]
    by_cases ha : a < 336
    · rw [if_pos ha]; simp [sumsN, ha]
    · rw [if_neg ha, List.getElem?_eq_none (by rw [sumsN_len]; omega)]
  · rw [if_neg h]
    by_cases hi : i < 336
    · simp only [sumsN, List.getElem?_map, List.getElem?_range hi, Option.map_some]
      have e : (i < a) = (i < a + 1) := propext ⟨fun h1 => by omega, fun h1 => by omega⟩
      simp only [e]
    · rw [List.getElem?_eq_none (by rw [sumsN_len]; omega), List.getElem?_eq_none (by rw [sumsN_len]; omega)]
theorem sumsN_all {l : List Ln} {k : Nat} {x : Ln} (hx : l[k]? = some x) (h : inMon l k x = false) : sumsN l k x.d.month 336 = sumsM l (k + 1) := by
  apply List.ext_getElem?
  intro i
  by_cases hi : i < 336
  · rw [sumsM_at l _ hi, flow_unseen hx h]
    simp [sumsN, hi]
  · rw [List.getElem?_eq_none (by rw [sumsN_len]; omega), List.getElem?_eq_none (by rw [sumsM_len]; omega)]
theorem month_fault {l : List Ln} (h : faultB (l.map Ln.d) = 0) (p : Ln → Bool) : faultB ((l.filter p).map Ln.d) = 0 := by
  rw [faultB_iff] at h ⊢
  intro x hx
  obtain ⟨y, hy, rfl⟩ := List.mem_map.1 hx
  exact h _ (List.mem_map_of_mem (List.mem_filter.1 hy).1)

/-- What the lines of a bill change. -/
def partOf (a : Int) (x : Dl) : List Int := (if x.payee = a then [x.amount] else []) ++ (if x.payer = a then [wrap64 (-x.amount)] else [])
def partsOf (a : Int) (b : List Ln) : List Int := b.flatMap fun x => partOf a x.d
theorem partsOf_append (a : Int) (b c : List Ln) : partsOf a (b ++ c) = partsOf a b ++ partsOf a c := by simp [partsOf]
theorem partsOf_len (a : Int) : ∀ b : List Ln, (partsOf a b).length ≤ 2 * b.length
  | [] => by simp [partsOf]
  | x :: r => by
    have ih := partsOf_len a r
    have h1 : (partOf a x.d).length ≤ 2 := by unfold partOf; split <;> split <;> simp
    simp only [partsOf, List.flatMap_cons, List.length_append, List.length_cons] at ih ⊢
    omega
theorem inR_neg {n : Int} (h : inR n = true) : wrap64 (-n) = -n ∧ inR (-n) = true := by
  have := inR_un h
  exact ⟨by unfold wrap64; omega, inR_yes (by omega)⟩
theorem partOf_inR {a : Int} {x : Dl} (h : inR x.amount = true) : (partOf a x).all inR = true := by
  unfold partOf
  rw [(inR_neg h).1]
  split <;> split <;> simp [h, (inR_neg h).2]
theorem partOf_sum {a : Nat} {x : Dl} (h : inR x.amount = true) : (partOf a x).sum = lineAt a x := by
  unfold partOf lineAt
  rw [(inR_neg h).1]
  split <;> split <;> simp <;> omega
theorem partsOf_inR {a : Int} {b : List Ln} (h : ∀ x ∈ b, inR x.d.amount = true) : (partsOf a b).all inR = true := by
  induction b with
  | nil => rfl
  | cons x r ih =>
    simp only [partsOf, List.flatMap_cons, List.all_append, Bool.and_eq_true] at ih ⊢
    exact ⟨partOf_inR (h x (List.mem_cons_self ..)), ih fun y hy => h y (List.mem_cons_of_mem _ hy)⟩
theorem partsOf_sum {a : Nat} {b : List Ln} (h : ∀ x ∈ b, inR x.d.amount = true) : (partsOf a b).sum = flowAt a (b.map Ln.d) := by
  induction b with
  | nil => rfl
  | cons x r ih =>
    simp only [partsOf, List.flatMap_cons, List.sum_append, flowAt, List.map_cons, List.sum_cons] at ih ⊢
    rw [partOf_sum (h x (List.mem_cons_self ..)), ih fun y hy => h y (List.mem_cons_of_mem _ hy)]
theorem flow_bill (a : Nat) (m : Int) : ∀ l : List Ln, flowAt a ((l.filter (billP a m)).map Ln.d) = flowAt a ((l.filter (monP m)).map Ln.d)
  | [] => rfl
  | x :: r => by
    have ih := flow_bill a m r
    simp only [List.filter_cons]
    by_cases h1 : monP m x = true
    · by_cases h2 : billP a m x = true
      · rw [if_pos h1, if_pos h2]
        simp only [flowAt, List.map_cons, List.sum_cons] at ih ⊢
        omega
      · rw [if_pos h1, if_neg h2]
        have h3 : x.d.month = m := by simpa [monP] using h1
        have h4 : x.d.payer ≠ (a : Int) ∧ x.d.payee ≠ (a : Int) := by simpa [billP, h3] using h2
        have h5 : lineAt a x.d = 0 := by rw [lineAt, if_neg h4.2, if_neg h4.1]; rfl
        simp only [flowAt, List.map_cons, List.sum_cons] at ih ⊢
        omega
    · have h2 : ¬ billP a m x = true := by
        intro h
        simp only [billP, Bool.and_eq_true] at h
        exact h1 h.1
      rw [if_neg h1, if_neg h2]
      exact ih
/-- The bill's parts sum to the monthly balance. -/
theorem bill_sum {l : List Ln} {a : Nat} {m : Int} (ha : a < 336) (h : (balF ((l.filter (monP m)).map Ln.d)).2 = 0) :
    sumOk (partsOf a (l.filter (billP a m))) = true ∧ (balF ((l.filter (monP m)).map Ln.d)).1[a]? = some (partsOf a (l.filter (billP a m))).sum := by
  have hin : ∀ x ∈ l.filter (billP a m), inR x.d.amount = true := by
    intro x hx
    obtain ⟨h1, h2⟩ := List.mem_filter.1 hx
    have h3 : monP m x = true := by
      simp only [billP, Bool.and_eq_true] at h2
      exact h2.1
    exact (faultB_iff.1 (balF_zero h).1 x.d (List.mem_map_of_mem (List.mem_filter.2 ⟨h1, h3⟩))).2
  have e : (partsOf a (l.filter (billP a m))).sum = flowAt a ((l.filter (monP m)).map Ln.d) := by rw [partsOf_sum hin, flow_bill]
  refine ⟨?_, by rw [e]; exact balF_at h ha⟩
  simp only [sumOk, Bool.and_eq_true]
  exact ⟨partsOf_inR hin, by rw [e]; exact balF_inR h ha⟩

end Go.Proofs.YtcdfjnnkocmeeaaGreatDoor
