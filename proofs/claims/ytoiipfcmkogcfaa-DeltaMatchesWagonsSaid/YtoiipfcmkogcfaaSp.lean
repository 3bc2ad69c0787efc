/-
  What the chapter's examples come to, in plain Lean. No program is in sight here.
-/
import Derived.Test.YtoiipfcmkogcfaaSa
import Derived.Test.YtoiipfcmkogcfaaSb
namespace Go.Proofs.Ytoiipfcmkogcfaa
open Go.RowKit Go.Lib

theorem strict_ext {l l' : List Int} (h : l.Pairwise (· < ·)) (h' : l'.Pairwise (· < ·)) (hm : ∀ x, x ∈ l ↔ x ∈ l') : l = l' := by
  have hp : l.Perm l' := (List.perm_ext_iff_of_nodup (h.imp (fun h e => by omega)) (h'.imp (fun h e => by omega))).2 hm
  exact List.Perm.eq_of_pairwise (le := (· < ·)) (fun a b _ _ h1 h2 => by omega) h h' hp

theorem cnts_two (a b c : Rp) (k : CK) : cnts [a] [b, c] k = upd (upd (upd (fun _ => 0) a.key (wrap64 (0 + -1))) b.key (wrap64 (upd (fun _ => 0) a.key (wrap64 (0 + -1)) b.key + 1))) c.key (wrap64 (upd (upd (fun _ => 0) a.key (wrap64 (0 + -1))) b.key (wrap64 (upd (fun _ => 0) a.key (wrap64 (0 + -1)) b.key + 1)) c.key + 1)) k := rfl

theorem key_el : earlyR.key ≠ lateR.key := by
  intro h
  have := congrArg Prod.fst h
  revert this
  decide
theorem key_es : earlyR.key ≠ stayR.key := by
  intro h
  have := congrArg Prod.fst h
  revert this
  decide
theorem key_ls : lateR.key ≠ stayR.key := by
  intro h
  have := congrArg Prod.fst h
  revert this
  decide
theorem wrap_m1 : wrap64 (0 + -1) = -1 := by kernel_rfl
theorem wrap_p1 : wrap64 (0 + 1) = 1 := by kernel_rfl
theorem wrap_0 : wrap64 (-1 + 1) = 0 := by kernel_rfl

theorem cnt1 (k : CK) : cnts [earlyR] [lateR, stayR] k = if k = stayR.key then 1 else if k = lateR.key then 1 else if k = earlyR.key then -1 else 0 := by
  simp only [cnts, cntL, List.foldl_cons, List.foldl_nil, cntR, upd, wrap_m1]
  rw [if_neg (Ne.symm key_el), if_neg (Ne.symm key_ls), if_neg (Ne.symm key_es)]
  simp only [wrap_p1]
theorem cnt2 (k : CK) : cnts [earlyR, stayR] [stayR, earlyR] k = 0 := by
  simp only [cnts, cntL, List.foldl_cons, List.foldl_nil, cntR, upd, wrap_m1]
  simp only [if_neg key_es, if_neg (Ne.symm key_es), if_true, wrap_m1, wrap_0]
  by_cases h1 : k = earlyR.key
  · simp [h1]
  · by_cases h2 : k = stayR.key
    · simp [h2, Ne.symm key_es]
    · simp [h1, h2]
theorem cnt3 (k : CK) : cnts [] [tariffR] k = if k = tariffR.key then 1 else 0 := by
  simp only [cnts, cntL, List.foldl_cons, List.foldl_nil, cntR, upd, wrap_p1]

theorem wag1 {l : List Int} {al : Bool} (h : WagSpec (cnts [earlyR] [lateR, stayR]) 4 l al) : l = [1, 3] ∧ al = false := by
  obtain ⟨h1, h2, h3⟩ := h
  refine ⟨strict_ext h1 (by decide) fun x => ?_, ?_⟩
  · rw [h2]
    constructor
    · rintro ⟨a, ha, _, hx, _⟩
      rw [cnt1] at ha
      split at ha
      · rename_i e; rw [e] at hx; rw [← hx]; decide
      · split at ha
        · rename_i e; rw [e] at hx; rw [← hx]; decide
        · split at ha
          · rename_i e; rw [e] at hx; rw [← hx]; decide
          · exact absurd rfl ha
    · intro hx
      simp at hx
      rcases hx with rfl | rfl
      · exact ⟨lateR.key, by rw [cnt1, if_neg key_ls, if_pos rfl]; decide, by decide, by decide, by decide, by decide⟩
      · exact ⟨stayR.key, by rw [cnt1, if_pos rfl]; decide, by decide, by decide, by decide, by decide⟩
  · cases al with
    | false => rfl
    | true =>
      exfalso
      obtain ⟨a, ha, hc⟩ := h3.1 rfl
      rw [cnt1] at ha
      split at ha
      · rename_i e; rw [e] at hc; revert hc; decide
      · split at ha
        · rename_i e; rw [e] at hc; revert hc; decide
        · split at ha
          · rename_i e; rw [e] at hc; revert hc; decide
          · exact absurd rfl ha
theorem wag2 {l : List Int} {al : Bool} {nw : Nat} (h : WagSpec (cnts [earlyR, stayR] [stayR, earlyR]) nw l al) : l = [] ∧ al = false := by
  obtain ⟨h1, h2, h3⟩ := h
  refine ⟨strict_ext h1 List.Pairwise.nil fun x => ?_, ?_⟩
  · rw [h2]
    constructor
    · rintro ⟨a, ha, _⟩
      exact absurd (cnt2 a) ha
    · intro hx; simp at hx
  · cases al with
    | false => rfl
    | true =>
      obtain ⟨a, ha, _⟩ := h3.1 rfl
      exact absurd (cnt2 a) ha
theorem wag3 {l : List Int} {al : Bool} {nw : Nat} (h : WagSpec (cnts [] [tariffR]) nw l al) : l = [] ∧ al = true := by
  obtain ⟨h1, h2, h3⟩ := h
  refine ⟨strict_ext h1 List.Pairwise.nil fun x => ?_, h3.2 ⟨tariffR.key, by rw [cnt3, if_pos rfl]; decide, by decide⟩⟩
  rw [h2]
  constructor
  · rintro ⟨a, ha, hc, _⟩
    rw [cnt3] at ha
    split at ha
    · rename_i e; rw [e] at hc; exact absurd hc (by decide)
    · exact absurd rfl ha
  · intro hx; simp at hx

theorem tot1 : wrap64 (wrap64 (0 + wrap64 (-1 * 100)) + wrap64 (1 * 130)) = 30 := by kernel_rfl
theorem tot2 : wrap64 (0 + wrap64 (1 * 100)) = 100 := by kernel_rfl
theorem tot3 : wrap64 (0 + wrap64 (-1 * 100)) = -100 := by kernel_rfl
def dA : Dl := ⟨1, 0, 0, 1, 0, 16, 0, 0, 30⟩
def dB : Dl := ⟨1, 0, 0, 1, 0, 16, 0, 0, -100⟩
def dC : Dl := ⟨1, 0, 0, 1, 0, 17, 0, 0, 100⟩
theorem slot_nums {d e : Dl} (h : d.slot = e.slot) (h2 : d.amount = e.amount) : d = e := Dl.ext2 h h2
theorem diff1 {l : List Dl} (hs : SortedD l) (h : ∀ d, d ∈ l ↔ d.amount ≠ 0 ∧ tot [(lineL 16 100).d] [(lineL 16 130).d] d.slot = d.amount) : l = [dA] := by
  refine sortedD_ext hs (List.pairwise_singleton _ _) fun d => ?_
  rw [h, List.mem_singleton]
  have e : ∀ s, tot [(lineL 16 100).d] [(lineL 16 130).d] s = if s = dA.slot then 30 else 0 := by
    intro s
    simp only [tot, addLns, List.foldl_cons, List.foldl_nil, addLn, upd]
    have e1 : (lineL 16 100).d.slot = dA.slot := rfl
    have e2 : (lineL 16 130).d.slot = dA.slot := rfl
    rw [e1, e2, if_pos rfl]
    by_cases h : s = dA.slot
    · rw [if_pos h, if_pos h]; exact tot1
    · rw [if_neg h, if_neg h, if_neg h]
  rw [e]
  constructor
  · rintro ⟨h1, h2⟩
    split at h2
    · rename_i h3; exact Dl.ext2 h3 (by rw [← h2]; rfl)
    · exact absurd h2.symm h1
  · rintro rfl
    exact ⟨by decide, by rw [if_pos rfl]; rfl⟩
theorem diff2 {l : List Dl} (hs : SortedD l) (h : ∀ d, d ∈ l ↔ d.amount ≠ 0 ∧ tot [(lineL 16 100).d] [(lineL 17 100).d] d.slot = d.amount) : l = [dB, dC] := by
  have hne : dB.slot ≠ dC.slot := by decide
  refine sortedD_ext hs (by refine List.pairwise_cons.2 ⟨fun y hy => ?_, List.pairwise_singleton _ _⟩; simp at hy; subst hy; decide) fun d => ?_
  rw [h]
  have e : ∀ s, tot [(lineL 16 100).d] [(lineL 17 100).d] s = if s = dC.slot then 100 else if s = dB.slot then -100 else 0 := by
    intro s
    simp only [tot, addLns, List.foldl_cons, List.foldl_nil, addLn, upd]
    have e1 : (lineL 16 100).d.slot = dB.slot := rfl
    have e2 : (lineL 17 100).d.slot = dC.slot := rfl
    rw [e1, e2, if_neg (Ne.symm hne)]
    by_cases h1 : s = dC.slot
    · rw [if_pos h1, if_pos h1]; exact tot2
    · rw [if_neg h1, if_neg h1]
      by_cases h2 : s = dB.slot
      · rw [if_pos h2, if_pos h2]; exact tot3
      · rw [if_neg h2, if_neg h2]
  rw [e]
  simp only [List.mem_cons, List.not_mem_nil, or_false]
  constructor
  · rintro ⟨h1, h2⟩
    split at h2
    · rename_i h3; exact Or.inr (Dl.ext2 h3 (by rw [← h2]; rfl))
    · split at h2
      · rename_i h3; exact Or.inl (Dl.ext2 h3 (by rw [← h2]; rfl))
      · exact absurd h2.symm h1
  · rintro (rfl | rfl)
    · exact ⟨by decide, by rw [if_neg hne, if_pos rfl]; rfl⟩
    · exact ⟨by decide, by rw [if_pos rfl]; rfl⟩

theorem zeros_getD (n j : Nat) : (List.replicate n (0 : Int)).getD j 0 = 0 := by
  simp only [List.getD, List.getElem?_replicate]
  split <;> rfl
def zeros : List Int := List.replicate 336 0
theorem zeros_len : zeros.length = 336 := List.length_replicate
theorem zeros_at (j : Nat) : zeros.getD j 0 = 0 := zeros_getD 336 j
theorem init_zeros {i : Nat} (hi : i < 336) : initP zeros 336 i = [0] := by
  unfold initP
  rw [if_pos hi, zeros_at]
theorem parts1 (i : Nat) (hi : i < 336) : partsP zeros [dA] i = if i = 0 then [0, 15, 15] else if i = 16 then [0, -15, -15] else [0] := by
  have h0 := init_zeros hi
  have h16 : initP zeros 336 16 = [0] := init_zeros (by omega)
  have hz : initP zeros 336 0 = [0] := init_zeros (by omega)
  have e1 : dA.payer.toNat = 16 := rfl
  have e2 : dA.payee.toNat = 0 := rfl
  have e3 : halfD dA = 15 := rfl
  have e4 : dA.amount = 30 := rfl
  simp only [partsP, List.foldl_cons, List.foldl_nil, stepP, e1, e2, e3, e4, putL]
  by_cases h : i = 0
  · rw [if_pos h, if_pos h, if_neg (by omega), hz]
    rfl
  · rw [if_neg h, if_neg h]
    by_cases h2 : i = 16
    · rw [if_pos h2, if_pos h2, h16]
      rfl
    · rw [if_neg h2, if_neg h2, h0]
def outA : List Int := (List.range 336).map fun i => if i = 0 then 30 else if i = 16 then -30 else 0
theorem sums1 : ((List.range 336).map fun i => (partsP zeros [dA] i).sum) = outA := by
  unfold outA
  apply List.map_congr_left
  intro i hi
  rw [parts1 i (List.mem_range.1 hi)]
  by_cases h : i = 0
  · rw [if_pos h, if_pos h]; rfl
  · rw [if_neg h, if_neg h]
    by_cases h2 : i = 16
    · rw [if_pos h2, if_pos h2]; rfl
    · rw [if_neg h2, if_neg h2]; rfl
theorem apply1 : applyF zeros [dA] = (outA, 0) := by
  rw [applyF_ok zeros_len (by decide) (by decide) (fun i hi => ?_), sums1]
  rw [parts1 i hi]
  split
  · decide
  · split <;> decide
theorem outA_len : outA.length = 336 := by unfold outA; rw [List.length_map, List.length_range]
theorem outA_at {i : Nat} (hi : i < 336) : outA[i]? = some (if i = 0 then 30 else if i = 16 then -30 else 0) := by
  unfold outA
  rw [List.getElem?_map, List.getElem?_range hi]
  rfl

end Go.Proofs.Ytoiipfcmkogcfaa
