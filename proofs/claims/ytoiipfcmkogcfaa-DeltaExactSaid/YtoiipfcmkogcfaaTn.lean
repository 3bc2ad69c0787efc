/-
  What follows from Diff and Apply: changes back, no change, and how changes add up. No program is in sight here.
-/
import Derived.Test.YtoiipfcmkogcfaaRf
import Derived.Test.YtoiipfcmkogcfaaKp
import Derived.Test.YtoiipfcmkogcfaaBa
namespace Go.Proofs.Ytoiipfcmkogcfaa
open Go.RowKit

/-- The sum of the amounts at a slot. -/
def sumAt (s : List Int) : List Dl → Int
  | [] => 0
  | x :: r => (if x.slot = s then x.amount else 0) + sumAt s r
theorem sumAt_append (s : List Int) : ∀ l l' : List Dl, sumAt s (l ++ l') = sumAt s l + sumAt s l'
  | [], l' => by simp [sumAt]
  | x :: r, l' => by simp only [List.cons_append, sumAt, sumAt_append s r l']; omega
theorem sumAt_reverse (s : List Int) : ∀ l : List Dl, sumAt s l.reverse = sumAt s l
  | [] => rfl
  | x :: r => by
    rw [List.reverse_cons, sumAt_append, sumAt_reverse s r]
    simp only [sumAt]
    omega
/-- All amounts are within B. -/
def smallD (B : Int) (l : List Dl) : Prop := ∀ x ∈ l, -B ≤ x.amount ∧ x.amount ≤ B
theorem sumAt_le {B : Int} (hB : 0 ≤ B) (s : List Int) : ∀ (l : List Dl) (n : Nat), l.length ≤ n → smallD B l → -(n * B) ≤ sumAt s l ∧ sumAt s l ≤ n * B
  | [], n, _, _ => by
    have : 0 ≤ (n : Int) * B := Int.mul_nonneg (by omega) hB
    simp [sumAt]
    omega
  | x :: r, n, hn, h => by
    obtain ⟨m, rfl⟩ : ∃ m, n = m + 1 := ⟨n - 1, by simp at hn; omega⟩
    have h1 := h x (List.mem_cons_self ..)
    have h2 := sumAt_le hB s r m (by simpa using hn) (fun y hy => h y (List.mem_cons_of_mem _ hy))
    have e : ((m + 1 : Nat) : Int) * B = m * B + B := by rw [Int.natCast_succ, Int.add_mul, Int.one_mul]
    rw [e]
    simp only [sumAt]
    split <;> omega

theorem wrap64_q (x : Int) : ∃ q : Int, wrap64 x = x + 18446744073709551616 * q := by
  refine ⟨-((x + 9223372036854775808) / 18446744073709551616), ?_⟩
  unfold wrap64
  omega
theorem wrap64_range (x : Int) : -9223372036854775808 ≤ wrap64 x ∧ wrap64 x ≤ 9223372036854775807 := by unfold wrap64; omega
theorem addLns_q (sign : Int) (s : List Int) : ∀ (l : List Dl) (M : List Int → Int), -9223372036854775808 ≤ M s ∧ M s ≤ 9223372036854775807 →
    (∃ q : Int, addLns sign M l s = M s + sign * sumAt s l + 18446744073709551616 * q) ∧ -9223372036854775808 ≤ addLns sign M l s ∧ addLns sign M l s ≤ 9223372036854775807
  | [], M, h => ⟨⟨0, by simp [addLns, sumAt]⟩, h⟩
  | d :: r, M, h => by
    have e : addLns sign M (d :: r) = addLns sign (addLn sign M d) r := rfl
    by_cases hs : d.slot = s
    · have e1 : addLn sign M d s = wrap64 (M s + wrap64 (sign * d.amount)) := by rw [addLn, upd, ← hs]; simp
      have hr : -9223372036854775808 ≤ addLn sign M d s ∧ addLn sign M d s ≤ 9223372036854775807 := by rw [e1]; exact wrap64_range _
      obtain ⟨⟨q, hq⟩, hb⟩ := addLns_q sign s r (addLn sign M d) hr
      obtain ⟨q1, h1⟩ := wrap64_q (sign * d.amount)
      obtain ⟨q2, h2⟩ := wrap64_q (M s + wrap64 (sign * d.amount))
      refine ⟨⟨q + q1 + q2, ?_⟩, by rw [e]; exact hb⟩
      rw [e, hq, e1, h2, h1, sumAt, if_pos hs, Int.mul_add]
      omega
    · have e1 : addLn sign M d s = M s := by rw [addLn, upd]; exact if_neg fun h => hs h.symm
      obtain ⟨⟨q, hq⟩, hb⟩ := addLns_q sign s r (addLn sign M d) (by rw [e1]; exact h)
      refine ⟨⟨q, ?_⟩, by rw [e]; exact hb⟩
      rw [e, hq, e1, sumAt, if_neg hs, Int.zero_add]
theorem tot_eq {la lb : List Dl} {s : List Int} (h : -9223372036854775808 ≤ sumAt s lb - sumAt s la ∧ sumAt s lb - sumAt s la ≤ 9223372036854775807) : tot la lb s = sumAt s lb - sumAt s la := by
  obtain ⟨⟨q1, h1⟩, b1⟩ := addLns_q (-1) s la (fun _ => 0) (by simp)
  obtain ⟨⟨q2, h2⟩, b2⟩ := addLns_q 1 s lb (addLns (-1) (fun _ => 0) la) b1
  have e : tot la lb s = addLns 1 (addLns (-1) (fun _ => 0) la) lb s := rfl
  rw [e]
  omega

/-- The list of changes that the sums T give. -/
def IsD (T : List Int → Int) (l : List Dl) : Prop := SortedD l ∧ ∀ d, d ∈ l ↔ d.amount ≠ 0 ∧ T d.slot = d.amount
def dT (la lb : List Dl) (s : List Int) : Int := sumAt s lb - sumAt s la
theorem isD_of {la lb l : List Dl} {B : Int} (hB : 0 ≤ B) (hB2 : B ≤ 1125899906842624) (ha : smallD B la) (hb : smallD B lb) (na : la.length ≤ 60) (nb : lb.length ≤ 60) (h1 : SortedD l) (h2 : ∀ d, d ∈ l ↔ d.amount ≠ 0 ∧ tot la lb d.slot = d.amount) : IsD (dT la lb) l := by
  refine ⟨h1, fun d => ?_⟩
  have e1 := sumAt_le hB d.slot la 60 na ha
  have e2 := sumAt_le hB d.slot lb 60 nb hb
  rw [h2, tot_eq (by omega)]
  rfl

theorem isD_nil {T : List Int → Int} {l : List Dl} (h : IsD T l) (h0 : ∀ s, T s = 0) : l = [] := by
  cases l with
  | nil => rfl
  | cons x r =>
    have := (h.2 x).1 (List.mem_cons_self ..)
    rw [h0] at this
    exact absurd this.2.symm this.1
def Dl.neg (d : Dl) : Dl := d.with (-d.amount)
theorem Dl.neg_slot (d : Dl) : d.neg.slot = d.slot := rfl
theorem Dl.neg_neg (d : Dl) : d.neg.neg = d := by cases d; simp [Dl.neg, Dl.with]
theorem isD_neg {T T' : List Int → Int} {l l' : List Dl} (h : IsD T l) (h' : IsD T' l') (e : ∀ s, T' s = -(T s)) : l = l'.map Dl.neg := by
  refine sortedD_ext h.1 ?_ fun d => ?_
  · exact List.pairwise_map.2 h'.1
  · rw [h.2, List.mem_map]
    constructor
    · rintro ⟨h1, h2⟩
      refine ⟨d.neg, (h'.2 _).2 ⟨?_, ?_⟩, d.neg_neg⟩
      · show -d.amount ≠ 0
        omega
      · rw [Dl.neg_slot, e, h2]; rfl
    · rintro ⟨y, hy, rfl⟩
      obtain ⟨h1, h2⟩ := (h'.2 _).1 hy
      rw [e] at h2
      refine ⟨?_, ?_⟩
      · show -y.amount ≠ 0
        omega
      · rw [Dl.neg_slot]
        show T y.slot = -y.amount
        omega

/-- A sum over the lines, weighed by the slot. -/
def gsum (g : List Int → Int) (l : List Dl) : Int := (l.map fun d => g d.slot * d.amount).sum
theorem sum_single (g : List Int → Int) (a : List Int) (c : Int) : ∀ U : List (List Int), U.Nodup → a ∈ U → (U.map fun s => g s * if a = s then c else 0).sum = g a * c
  | [], _, h => by simp at h
  | s :: r, hn, h => by
    obtain ⟨h1, h2⟩ := List.nodup_cons.1 hn
    have zero : ∀ V : List (List Int), a ∉ V → (V.map fun s => g s * if a = s then c else 0).sum = 0 := by
      intro V hV
      induction V with
      | nil => rfl
      | cons t q ih =>
        simp only [List.map_cons, List.sum_cons]
        rw [if_neg (fun e => hV (by rw [e]; exact List.mem_cons_self ..)), ih (fun e => hV (List.mem_cons_of_mem _ e))]
        simp
    simp only [List.map_cons, List.sum_cons]
    by_cases e : a = s
    · subst e
      rw [if_pos rfl, zero r h1]
      omega
    · rw [if_neg e, sum_single g a c r h2 (by rcases List.mem_cons.1 h with h | h; exact absurd h e; exact h)]
      omega
theorem sum_add {U : List (List Int)} (f g : List Int → Int) : (U.map fun s => f s + g s).sum = (U.map f).sum + (U.map g).sum := by
  induction U with
  | nil => rfl
  | cons s r ih => simp only [List.map_cons, List.sum_cons, ih]; omega
theorem sum_sub {U : List (List Int)} (f g : List Int → Int) : (U.map fun s => f s - g s).sum = (U.map f).sum - (U.map g).sum := by
  induction U with
  | nil => rfl
  | cons s r ih => simp only [List.map_cons, List.sum_cons, ih]; omega
theorem sum_zeros : ∀ U : List (List Int), (U.map fun _ => (0 : Int)).sum = 0
  | [] => rfl
  | _ :: r => by simp only [List.map_cons, List.sum_cons, sum_zeros r]; rfl
theorem gsum_over (g : List Int → Int) {U : List (List Int)} (hU : U.Nodup) : ∀ l : List Dl, (∀ x ∈ l, x.slot ∈ U) → (U.map fun s => g s * sumAt s l).sum = gsum g l
  | [], _ => by
    simp only [sumAt, Int.mul_zero, gsum, List.map_nil, List.sum_nil]
    exact sum_zeros U
  | x :: r, h => by
    have ih := gsum_over g hU r (fun y hy => h y (List.mem_cons_of_mem _ hy))
    have e : (U.map fun s => g s * sumAt s (x :: r)) = U.map fun s => (g s * if x.slot = s then x.amount else 0) + g s * sumAt s r := by
      apply List.map_congr_left
      intro s _
      rw [sumAt, Int.mul_add]
    rw [e, sum_add, sum_single g x.slot x.amount U hU (h x (List.mem_cons_self ..)), ih]
    simp [gsum]
theorem gsum_mk (g T : List Int → Int) : ∀ U : List (List Int), (∀ s ∈ U, ∃ d : Dl, d.slot = s) → gsum g (U.filterMap (mkD T)) = (U.map fun s => g s * T s).sum
  | [], _ => rfl
  | s :: r, h => by
    have ih := gsum_mk g T r (fun t ht => h t (List.mem_cons_of_mem _ ht))
    obtain ⟨d, rfl⟩ := h s (List.mem_cons_self ..)
    simp only [List.filterMap_cons, List.map_cons, List.sum_cons]
    by_cases h0 : T d.slot = 0
    · have e : mkD T d.slot = none := by
        cases d
        simp only [Dl.slot] at h0
        simp [Dl.slot, mkD, h0]
      rw [e, h0, Int.mul_zero, Int.zero_add]
      exact ih
    · have e : mkD T d.slot = some (d.with (T d.slot)) := mkD_of (d := d.with (T d.slot)) rfl h0
      rw [e]
      simp only [gsum, List.map_cons, List.sum_cons]
      rw [← ih]
      rfl
theorem exists_nodup : ∀ l : List (List Int), ∃ U : List (List Int), U.Nodup ∧ ∀ s, s ∈ U ↔ s ∈ l
  | [] => ⟨[], List.nodup_nil, fun _ => Iff.rfl⟩
  | s :: r => by
    obtain ⟨U, h1, h2⟩ := exists_nodup r
    by_cases h : s ∈ U
    · refine ⟨U, h1, fun t => ?_⟩
      rw [List.mem_cons, h2]
      constructor
      · exact Or.inr
      · rintro (rfl | h3)
        · exact (h2 _).1 h
        · exact h3
    · exact ⟨s :: U, List.nodup_cons.2 ⟨h, h1⟩, fun t => by rw [List.mem_cons, List.mem_cons, h2]⟩
theorem perm_gsum (g : List Int → Int) {l l' : List Dl} (h : l.Perm l') : gsum g l = gsum g l' := by
  induction h with
  | nil => rfl
  | cons x _ ih => simp only [gsum, List.map_cons, List.sum_cons] at *; omega
  | swap x y l => simp only [gsum, List.map_cons, List.sum_cons]; omega
  | trans _ _ a b => exact a.trans b
theorem sumAt_none {s : List Int} : ∀ {l : List Dl}, (∀ x ∈ l, x.slot ≠ s) → sumAt s l = 0
  | [], _ => rfl
  | x :: r, h => by rw [sumAt, if_neg (h x (List.mem_cons_self ..)), sumAt_none fun y hy => h y (List.mem_cons_of_mem _ hy)]; rfl
theorem sumAt_mem {s : List Int} {l : List Dl} (h : sumAt s l ≠ 0) : ∃ x ∈ l, x.slot = s := by
  rcases Classical.em (∃ x ∈ l, x.slot = s) with h1 | h1
  · exact h1
  · exact absurd (sumAt_none fun x hx e => h1 ⟨x, hx, e⟩) h
theorem dT_mem {la lb : List Dl} {s : List Int} (h : dT la lb s ≠ 0) : ∃ x, (x ∈ la ∨ x ∈ lb) ∧ x.slot = s := by
  rcases Classical.em (sumAt s lb = 0) with h1 | h1
  · have : sumAt s la ≠ 0 := fun e => h (by rw [dT, h1, e]; rfl)
    obtain ⟨x, hx, e⟩ := sumAt_mem this
    exact ⟨x, Or.inl hx, e⟩
  · obtain ⟨x, hx, e⟩ := sumAt_mem h1
    exact ⟨x, Or.inr hx, e⟩

/-- Changes add up to the difference of the lines. -/
theorem gsum_diff (g : List Int → Int) {la lb l : List Dl} (h : IsD (dT la lb) l) : gsum g l = gsum g lb - gsum g la := by
  obtain ⟨U, hU, hm⟩ := exists_nodup ((la ++ lb).map Dl.slot)
  have hin : ∀ x, x ∈ la ∨ x ∈ lb → x.slot ∈ U := fun x hx => (hm _).2 (List.mem_map.2 ⟨x, List.mem_append.2 hx, rfl⟩)
  have hall : ∀ s, dT la lb s ≠ 0 → s ∈ U := fun s hs => by
    obtain ⟨x, hx, rfl⟩ := dT_mem hs
    exact hin x hx
  have hp : l.Perm (U.filterMap (mkD (dT la lb))) := by
    refine (List.perm_ext_iff_of_nodup ?_ ?_).2 fun d => ?_
    · exact h.1.imp (fun hab e => by subst e; simp [cmpD, cmpL_self] at hab)
    · exact (mk_slots hU).imp fun hab e => hab (by rw [e])
    · rw [h.2, mem_mk hall]
  rw [perm_gsum g hp, gsum_mk g _ U (fun s hs => by
    obtain ⟨d, _, e⟩ := List.mem_map.1 ((hm s).1 hs)
    exact ⟨d, e⟩)]
  have e : (U.map fun s => g s * dT la lb s) = U.map fun s => g s * sumAt s lb - g s * sumAt s la := by
    apply List.map_congr_left
    intro s _
    rw [dT, Int.mul_sub]
  rw [e, sum_sub, gsum_over g hU lb fun x hx => hin x (Or.inr hx), gsum_over g hU la fun x hx => hin x (Or.inl hx)]

/-- What an account gets and pays, by the slot. -/
def gI (i : Nat) (s : List Int) : Int := (if s.getD 6 0 = (i : Int) then 1 else 0) - (if s.getD 5 0 = (i : Int) then 1 else 0)
theorem lineAt_gI (i : Nat) (x : Dl) : lineAt i x = gI i x.slot * x.amount := by
  show (if x.payee = (i : Int) then x.amount else 0) - (if x.payer = (i : Int) then x.amount else 0) = ((if x.payee = (i : Int) then 1 else 0) - (if x.payer = (i : Int) then 1 else 0)) * x.amount
  split <;> split <;> simp
theorem flow_gsum (i : Nat) (l : List Dl) : flowAt i l = gsum (gI i) l := by
  unfold flowAt gsum
  congr 1
  exact List.map_congr_left fun x _ => lineAt_gI i x
theorem flow_diff (i : Nat) {la lb l : List Dl} (h : IsD (dT la lb) l) : flowAt i l = flowAt i lb - flowAt i la := by
  rw [flow_gsum, flow_gsum, flow_gsum, gsum_diff _ h]

theorem stepP_sum (ls : Nat → List Int) {x : Dl} (hx : acctD x = true) (i : Nat) : (stepP ls x i).sum = (ls i).sum + lineAt i x := by
  simp only [acctD, acct, Bool.and_eq_true, decide_eq_true_eq] at hx
  unfold stepP putL lineAt
  by_cases h1 : x.payee = (i : Int)
  · by_cases h2 : x.payer = (i : Int)
    · rw [if_pos (by omega), if_pos (by omega), if_pos h1, if_pos h2, List.sum_append, List.sum_append]
      rw [show x.payer.toNat = i from by omega]
      simp only [List.sum_cons, List.sum_nil]
      omega
    · rw [if_pos (by omega), if_neg (by omega), if_pos h1, if_neg h2, List.sum_append, show x.payee.toNat = i from by omega]
      simp only [List.sum_cons, List.sum_nil]
      omega
  · by_cases h2 : x.payer = (i : Int)
    · rw [if_neg (by omega), if_pos (by omega), if_neg h1, if_pos h2, List.sum_append, show x.payer.toNat = i from by omega]
      simp only [List.sum_cons, List.sum_nil]
      omega
    · rw [if_neg (by omega), if_neg (by omega), if_neg h1, if_neg h2]
      omega
theorem foldP_sum : ∀ (d : List Dl) (ls : Nat → List Int), d.all acctD = true → ∀ i, (d.foldl stepP ls i).sum = (ls i).sum + flowAt i d
  | [], ls, _, i => by simp [flowAt]
  | x :: r, ls, h, i => by
    simp only [List.all_cons, Bool.and_eq_true] at h
    rw [List.foldl_cons, foldP_sum r _ h.2, stepP_sum ls h.1]
    simp only [flowAt, List.map_cons, List.sum_cons]
    omega
theorem partsP_sum (b : List Int) {d : List Dl} (h : d.all acctD = true) {i : Nat} (hi : i < 336) : (partsP b d i).sum = b.getD i 0 + flowAt i d := by
  rw [partsP, foldP_sum d _ h]
  unfold initP
  rw [if_pos hi]
  simp
theorem applyF_at {b : List Int} {d : List Dl} (h : (applyF b d).2 = 0) {i : Nat} (hi : i < 336) : (applyF b d).1.getD i 0 = b.getD i 0 + flowAt i d := by
  obtain ⟨_, h2, _, h4⟩ := applyF_zero h
  rw [h4, ← partsP_sum b h2 hi, List.getD_eq_getElem?_getD]
  simp [hi]
theorem applyF_len2 {b : List Int} {d : List Dl} (h : (applyF b d).2 = 0) : (applyF b d).1.length = 336 := by
  rw [(applyF_zero h).2.2.2]; simp
theorem list_eq336 {l l' : List Int} (h : l.length = 336) (h' : l'.length = 336) (he : ∀ i, i < 336 → l.getD i 0 = l'.getD i 0) : l = l' := by
  apply List.ext_getElem (by omega)
  intro i h1 h2
  have := he i (by omega)
  simpa [List.getD_eq_getElem?_getD, h1, h2] using this

/-- Changes to a second bill, then to a third: the changes to the third. -/
theorem turns_apply {la lb lc dab dbc dac : List Dl} {z : List Int} (hz : ∀ i, i < 336 → z.getD i 0 = 0) (h1 : IsD (dT la lb) dab) (h2 : IsD (dT lb lc) dbc) (h3 : IsD (dT la lc) dac)
    (e1 : (applyF z dab).2 = 0) (e2 : (applyF (applyF z dab).1 dbc).2 = 0) (e3 : (applyF z dac).2 = 0) : (applyF (applyF z dab).1 dbc).1 = (applyF z dac).1 := by
  refine list_eq336 (applyF_len2 e2) (applyF_len2 e3) fun i hi => ?_
  rw [applyF_at e2 hi, applyF_at e1 hi, applyF_at e3 hi, hz i hi, flow_diff i h1, flow_diff i h2, flow_diff i h3]
  omega

/-- Where the amounts are in range, all parts are. -/
theorem stepP_in {ls : Nat → List Int} {x : Dl} (hx : inD x = true) (h : ∀ i, (ls i).all inR = true) : ∀ i, (stepP ls x i).all inR = true := by
  obtain ⟨h1, h2⟩ := halfD_in hx
  have hx' : -18014398509481984 ≤ x.amount ∧ x.amount ≤ 18014398509481984 := by simpa [inD] using hx
  have h3 : -9007199254740992 ≤ x.amount - halfD x ∧ x.amount - halfD x ≤ 9007199254740992 := by
    unfold halfD
    rcases Int.lt_or_le x.amount 0 with h0 | h0
    · have e : x.amount.tdiv 2 = -((-x.amount) / 2) := by
        have e1 : x.amount = -(-x.amount) := by omega
        rw [e1, Int.neg_tdiv, Int.tdiv_eq_ediv_of_nonneg (by omega), Int.neg_neg]
      omega
    · have e : x.amount.tdiv 2 = x.amount / 2 := Int.tdiv_eq_ediv_of_nonneg h0
      omega
  have put : ∀ {ls : Nat → List Int} {j : Nat} {a b : Int}, (∀ i, (ls i).all inR = true) → inR a = true → inR b = true → ∀ i, (putL ls j [a, b] i).all inR = true := by
    intro ls j a b hl ha hb i
    unfold putL
    split
    · rw [List.all_append, hl]
      simp [ha, hb]
    · exact hl i
  unfold stepP
  refine put (put h ?_ ?_) ?_ ?_
  · exact inR_yes (by omega)
  · exact inR_yes (by omega)
  · exact inR_yes (by omega)
  · exact inR_yes (by omega)
theorem foldP_in : ∀ (d : List Dl) (ls : Nat → List Int), d.all inD = true → (∀ i, (ls i).all inR = true) → ∀ i, (d.foldl stepP ls i).all inR = true
  | [], _, _, h => h
  | x :: r, ls, hd, h => by
    simp only [List.all_cons, Bool.and_eq_true] at hd
    exact foldP_in r _ hd.2 (stepP_in hd.1 h)

/-- The changes between two bills, applied to the balances of the first: the balances of the second. -/
theorem exact_apply {la lb d : List Dl} (hd : IsD (dT la lb) d) (ha : smallD 70368744177664 la) (hb : smallD 70368744177664 lb) (na : la.length ≤ 60) (nb : lb.length ≤ 60) (ea : (balF la).2 = 0) (eb : (balF lb).2 = 0) :
    (applyF (balF la).1 d).2 = 0 ∧ (applyF (balF la).1 d).1 = (balF lb).1 := by
  obtain ⟨fa, ra, xa⟩ := balF_zero ea
  obtain ⟨fb, rb, xb⟩ := balF_zero eb
  have aa := (faultB_zero fa).1
  have ab := (faultB_zero fb).1
  rw [xa, xb]
  have hacct : d.all acctD = true := by
    rw [List.all_eq_true]
    intro x hx
    obtain ⟨h1, h2⟩ := (hd.2 x).1 hx
    obtain ⟨y, hy, e⟩ := dT_mem (la := la) (lb := lb) (s := x.slot) (by rw [h2]; exact h1)
    have hyd : acctD y = true := by
      rcases hy with hy | hy
      · exact List.all_eq_true.1 aa y hy
      · exact List.all_eq_true.1 ab y hy
    have e5 : y.payer = x.payer := by
      have := congrArg (fun l : List Int => l.getD 5 0) e
      exact this
    have e6 : y.payee = x.payee := by
      have := congrArg (fun l : List Int => l.getD 6 0) e
      exact this
    rw [acctD, e5, e6] at hyd
    exact hyd
  have hin : d.all inD = true := by
    rw [List.all_eq_true]
    intro x hx
    obtain ⟨_, h2⟩ := (hd.2 x).1 hx
    have e1 := sumAt_le (by decide) x.slot la 60 na ha
    have e2 := sumAt_le (by decide) x.slot lb 60 nb hb
    rw [dT] at h2
    simp only [inD, decide_eq_true_eq]
    omega
  have hlen : (sumsB la).length = 336 := sumsB_len la
  have hat : ∀ i, i < 336 → (partsP (sumsB la) d i).sum = (sumsB lb).getD i 0 := by
    intro i hi
    rw [partsP_sum _ hacct hi, sumsB_get aa, sumsB_get ab, flow_diff i hd]
    omega
  have hok : ∀ i, i < 336 → sumOk (partsP (sumsB la) d i) = true := by
    intro i hi
    rw [sumOk, hat i hi, Bool.and_eq_true]
    refine ⟨?_, rb _ (List.mem_of_getElem? (getD_some (by rw [sumsB_len]; exact hi)))⟩
    refine foldP_in d _ hin (fun j => ?_) i
    unfold initP
    split
    · rename_i hj
      rw [List.all_eq_true]
      intro x hx
      simp at hx
      rw [hx]
      have := ra _ (List.mem_of_getElem? (getD_some (S := sumsB la) (by rw [sumsB_len]; exact hj)))
      simpa [List.getD_eq_getElem?_getD] using this
    · rfl
  rw [applyF_ok hlen hacct hin hok]
  refine ⟨rfl, ?_⟩
  refine list_eq336 (by simp) (sumsB_len lb) fun i hi => ?_
  rw [← hat i hi, List.getD_eq_getElem?_getD]
  simp [hi]

end Go.Proofs.Ytoiipfcmkogcfaa
