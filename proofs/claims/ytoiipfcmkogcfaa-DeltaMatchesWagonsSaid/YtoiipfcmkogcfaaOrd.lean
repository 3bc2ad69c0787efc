/-
  The order of slots: number by number; it is a strict order, and two slots neither of which comes first are one. No program is in sight here.
-/
import Derived.Test.YtoiipfcmkogcfaaTypes
namespace Go.Proofs.Ytoiipfcmkogcfaa

/-- Two lists of numbers compared, number by number. -/
def cmpL : List Int → List Int → Int
  | x :: r, y :: s => if x < y then -1 else if y < x then 1 else cmpL r s
  | _, _ => 0

theorem cmpL_self : ∀ a : List Int, cmpL a a = 0
  | [] => rfl
  | x :: r => by simp [cmpL, cmpL_self r]
theorem cmpL_neg : ∀ a b : List Int, cmpL b a = - cmpL a b
  | [], [] => rfl
  | [], _ :: _ => rfl
  | _ :: _, [] => rfl
  | x :: r, y :: s => by
    simp only [cmpL]
    rcases Int.lt_trichotomy x y with h | h | h
    · rw [if_neg (by omega), if_pos h, if_pos h]; rfl
    · subst h; simp [cmpL_neg r s]
    · rw [if_pos h, if_neg (by omega), if_pos h]
theorem cmpL_trans : ∀ a b c : List Int, cmpL a b < 0 → cmpL b c < 0 → cmpL a c < 0
  | x :: r, y :: s, z :: t, h1, h2 => by
    simp only [cmpL] at *
    by_cases a1 : x < y
    · by_cases b1 : y < z
      · rw [if_pos (by omega)]; omega
      · rw [if_neg b1] at h2
        by_cases b2 : z < y
        · rw [if_pos b2] at h2; omega
        · rw [if_pos (by omega)]; omega
    · rw [if_neg a1] at h1
      by_cases a2 : y < x
      · rw [if_pos a2] at h1; omega
      · rw [if_neg a2] at h1
        have e : x = y := by omega
        subst e
        by_cases b1 : x < z
        · rw [if_pos b1]; omega
        · rw [if_neg b1] at h2
          by_cases b2 : z < x
          · rw [if_pos b2] at h2; omega
          · rw [if_neg b2] at h2
            rw [if_neg b1, if_neg b2]
            exact cmpL_trans r s t h1 h2
  | [], _, _, h1, _ => by simp [cmpL] at h1
  | _ :: _, [], _, h1, _ => by simp [cmpL] at h1
  | _ :: _, _ :: _, [], _, h2 => by simp [cmpL] at h2
theorem cmpL_ntrans : ∀ a b c : List Int, a.length = b.length → b.length = c.length → 0 ≤ cmpL a b → 0 ≤ cmpL b c → 0 ≤ cmpL a c
  | x :: r, y :: s, z :: t, l1, l2, h1, h2 => by
    simp only [cmpL] at *
    by_cases a1 : x < y
    · rw [if_pos a1] at h1; omega
    · rw [if_neg a1] at h1
      by_cases b1 : y < z
      · rw [if_pos b1] at h2; omega
      · rw [if_neg b1] at h2
        rw [if_neg (by omega)]
        by_cases c1 : z < x
        · rw [if_pos c1]; omega
        · rw [if_neg c1]
          rw [if_neg (by omega)] at h1
          rw [if_neg (by omega)] at h2
          exact cmpL_ntrans r s t (by simpa using l1) (by simpa using l2) h1 h2
  | [], _, _, _, _, _, _ => by simp [cmpL]
  | _ :: _, _, [], _, _, _, _ => by simp [cmpL]
  | _ :: _, [], _ :: _, l1, _, _, _ => by simp at l1
theorem cmpL_zero : ∀ a b : List Int, a.length = b.length → cmpL a b = 0 → a = b
  | [], [], _, _ => rfl
  | [], _ :: _, l, _ => by simp at l
  | _ :: _, [], l, _ => by simp at l
  | x :: r, y :: s, l, h => by
    simp only [cmpL] at h
    by_cases a1 : x < y
    · rw [if_pos a1] at h; omega
    · rw [if_neg a1] at h
      by_cases a2 : y < x
      · rw [if_pos a2] at h; omega
      · rw [if_neg a2] at h
        have e : x = y := by omega
        subst e
        rw [cmpL_zero r s (by simpa using l) h]

def cmpD (x y : Dl) : Int := cmpL x.slot y.slot

/-- Sorted strictly: each slot comes before the next. -/
abbrev SortedD (l : List Dl) : Prop := l.Pairwise fun a b => cmpD a b < 0

theorem cmpD_trans {a b c : Dl} (h1 : cmpD a b < 0) (h2 : cmpD b c < 0) : cmpD a c < 0 := cmpL_trans _ _ _ h1 h2
theorem cmpD_neg (a b : Dl) : cmpD b a = - cmpD a b := cmpL_neg _ _
theorem cmpD_zero {a b : Dl} (h : cmpD a b = 0) : a.slot = b.slot := cmpL_zero _ _ rfl h

/-- Two strictly sorted lists with the same members are one. -/
theorem sortedD_ext {l l' : List Dl} (h : SortedD l) (h' : SortedD l') (hm : ∀ x, x ∈ l ↔ x ∈ l') : l = l' := by
  have nd : ∀ {m : List Dl}, SortedD m → m.Nodup := fun hm => hm.imp (fun hab e => by subst e; simp [cmpD, cmpL_self] at hab)
  have hp : l.Perm l' := (List.perm_ext_iff_of_nodup (nd h) (nd h')).2 hm
  refine List.Perm.eq_of_pairwise (le := fun a b => cmpD a b < 0) ?_ h h' hp
  intro a b _ _ h1 h2
  have := cmpD_neg a b
  omega

end Go.Proofs.Ytoiipfcmkogcfaa
