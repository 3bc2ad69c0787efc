/-
  The laws of tight bounds that are attained, of the order of the bounds, and of a further bound. No program is in sight here.
-/
import Derived.Test.YtaonicdpeflbbaaTight
namespace Go.Proofs.Ytaonicdpeflbbaa

section
variable {n : Nat} {l l' : List Bd}

theorem Val.cons (h : Val n l) (hlen : l.length ≤ 79) {a b : Nat} (ha : a < n) (hb : b < n) {w : Int} (hw : -1099511627776 ≤ w ∧ w ≤ 1099511627776) : Val n (⟨b, a, w⟩ :: l) where
  n1 := h.n1
  n2 := h.n2
  len := by simp; omega
  ok := by
    intro x hx
    rcases List.mem_cons.1 hx with rfl | hx
    · exact okB_mk (by simp only []; omega)
    · exact h.ok x hx

theorem low_of_sol (h : Val n l) (y : Nat → Int) (hy : Sol l y) : (low n l).2 < 0 := by
  rcases Int.lt_or_le (low n l).2 0 with h0 | h0
  · exact h0
  · exact (low_none h h0 y hy).elim

theorem att_none (h : Val n l) (hlen : l.length ≤ 79) {a b : Nat} (ha : a < n) (hb : b < n) (hl : (low n l).2 < 0) (ht : tb n l a b = none) {big : Int} (hbig : -1099511627776 ≤ big ∧ big ≤ 1099511627776) :
    (low n (⟨b, a, -big⟩ :: l)).2 < 0 := by
  obtain ⟨z, hz, hz0, hzj⟩ := tb_solution h ha _ (low_sol h hl).2.1 big
  have := hzj b hb
  rw [ht] at this
  refine low_of_sol (h.cons hlen ha hb (by omega)) z ?_
  intro x hx
  rcases List.mem_cons.1 hx with rfl | hx
  · simp only [Int.toNat_natCast]; omega
  · exact hz x hx

theorem att_some (h : Val n l) (hlen : l.length ≤ 79) {a b : Nat} (ha : a < n) (hb : b < n) (hl : (low n l).2 < 0) {w : Int} (ht : tb n l a b = some w) (hw : -1099511627776 < w ∧ w < 1099511627776) :
    (low n (⟨b, a, -w⟩ :: l)).2 < 0 ∧ ¬ (low n (⟨b, a, -w - 1⟩ :: l)).2 < 0 := by
  obtain ⟨z, hz, hz0, hzj⟩ := tb_solution h ha _ (low_sol h hl).2.1 0
  have hzb := hzj b hb
  rw [ht] at hzb
  constructor
  · refine low_of_sol (h.cons hlen ha hb (by omega)) z ?_
    intro x hx
    rcases List.mem_cons.1 hx with rfl | hx
    · simp only [Int.toNat_natCast]; omega
    · exact hz x hx
  · intro hlow
    have hs := (low_sol (h.cons hlen ha hb (w := -w - 1) (by omega)) hlow).2.1
    have h1 := hs ⟨b, a, -w - 1⟩ (List.mem_cons_self ..)
    have h2 := tb_holds h ha hb ht (fun v => (low n (⟨b, a, -w - 1⟩ :: l)).1.1.getD v 0) (fun x hx => hs x (List.mem_cons_of_mem _ hx))
    simp only [Int.toNat_natCast] at h1
    omega

theorem Sol.mono (hs : ∀ b, b ∈ l → b ∈ l') {y : Nat → Int} (hy : Sol l' y) : Sol l y := fun b hb => hy b (hs b hb)

/-- A system with more bounds: if it has a solution, so has the smaller one; its greatest solution and its tight bounds are no greater. -/
theorem low_more (h : Val n l) (h' : Val n l') (hs : ∀ b, b ∈ l → b ∈ l') (hl : (low n l').2 < 0) :
    (low n l).2 < 0 ∧ (∀ v, v < n → (low n l').1.1.getD v 0 ≤ (low n l).1.1.getD v 0) ∧
    ∀ a b, a < n → b < n → ∀ w, tb n l a b = some w → ∃ w', tb n l' a b = some w' ∧ w' ≤ w := by
  obtain ⟨s1, s2, s3⟩ := low_sol h' hl
  have hsl := Sol.mono hs s2
  refine ⟨low_of_sol h _ hsl, low_great h _ hsl (fun v hv => (s3 v hv).1), fun a b ha hb w hw => ?_⟩
  obtain ⟨z, hz, hz0, hzj⟩ := tb_solution h' ha _ s2 (w + 1)
  have h1 := hzj b hb
  have h2 := tb_holds h ha hb hw z (Sol.mono hs hz)
  cases e : tb n l' a b with
  | none => rw [e] at h1; simp only [] at h1; omega
  | some w' => rw [e] at h1; simp only [] at h1; exact ⟨w', rfl, by omega⟩

theorem getD_ext {a b : List Int} (h : a.length = b.length) (he : ∀ v, v < a.length → a.getD v 0 = b.getD v 0) : a = b := by
  apply List.ext_getElem h
  intro i h1 h2
  have := he i h1
  simpa [List.getD, List.getElem?_eq_getElem h1, List.getElem?_eq_getElem h2] using this

theorem low_same (h : Val n l) (h' : Val n l') (hs : ∀ b, b ∈ l ↔ b ∈ l') :
    ((low n l).2 < 0 ↔ (low n l').2 < 0) ∧ ((low n l).2 < 0 → (low n l).1.1 = (low n l').1.1) ∧ ∀ a b, a < n → b < n → (low n l).2 < 0 → tb n l a b = tb n l' a b := by
  have hiff : (low n l).2 < 0 ↔ (low n l').2 < 0 := ⟨fun hl => (low_more h' h (fun b hb => (hs b).2 hb) hl).1, fun hl => (low_more h h' (fun b hb => (hs b).1 hb) hl).1⟩
  refine ⟨hiff, fun hl => ?_, fun a b ha hb hl => ?_⟩
  · have e1 := (low_more h' h (fun b hb => (hs b).2 hb) hl).2.1
    have e2 := (low_more h h' (fun b hb => (hs b).1 hb) (hiff.1 hl)).2.1
    have l1 := (low_sol h hl).1
    have l2 := (low_sol h' (hiff.1 hl)).1
    exact getD_ext (by omega) (fun v hv => by have := e1 v (by omega); have := e2 v (by omega); omega)
  · have e1 := (low_more h' h (fun b hb => (hs b).2 hb) hl).2.2 a b ha hb
    have e2 := (low_more h h' (fun b hb => (hs b).1 hb) (hiff.1 hl)).2.2 a b ha hb
    cases e : tb n l a b with
    | none =>
      cases e' : tb n l' a b with
      | none => rfl
      | some w => obtain ⟨w', h1, _⟩ := e1 w e'; rw [e] at h1; cases h1
    | some w =>
      obtain ⟨w', h1, h2⟩ := e2 w e
      obtain ⟨w'', h3, h4⟩ := e1 w' h1
      rw [e] at h3
      injection h3 with h3
      rw [h1]
      congr 1
      omega

theorem checkF_same {n : Int} (h1 : l.length ≤ 4096) (h2 : l'.length ≤ 4096) (hs : ∀ b, b ∈ l ↔ b ∈ l') : checkF n l' = checkF n l := by
  have e : l'.all (okB n) = l.all (okB n) := by
    rw [Bool.eq_iff_iff, List.all_eq_true, List.all_eq_true]
    exact ⟨fun h b hb => h b ((hs b).1 hb), fun h b hb => h b ((hs b).2 hb)⟩
  unfold checkF
  by_cases h0 : n < 1
  · simp [h0]
  · by_cases h3 : 512 < n
    · rw [if_neg h0, if_neg h0, if_pos (.inl h3), if_pos (.inl h3)]
    · rw [if_neg h0, if_neg h0, if_neg (show ¬ (512 < n ∨ 4096 < l'.length) by omega), if_neg (show ¬ (512 < n ∨ 4096 < l.length) by omega), e]
end

end Go.Proofs.Ytaonicdpeflbbaa
