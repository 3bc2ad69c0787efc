/-
  The rounds of improvement as plain functions: a sweep over the bounds, and at most n sweeps. No program is in sight here.
-/
import Derived.Test.YtaonicdpeflbbaaBase
namespace Go.Proofs.Ytaonicdpeflbbaa

section
variable {St : Type} (stp : Nat → Bd → St → St × Bool)

def sweep : List Bd → Nat → St → Int → St × Int
  | [], _, s, last => (s, last)
  | x :: r, k, s, last => sweep r (k + 1) (stp k x s).1 (if (stp k x s).2 then (k : Int) else last)

def runs (l : List Bd) : Nat → St → Int → St × Int
  | 0, s, last => (s, last)
  | m + 1, s, _ => if (sweep stp l 0 s (-1)).2 < 0 then sweep stp l 0 s (-1) else runs l m (sweep stp l 0 s (-1)).1 (sweep stp l 0 s (-1)).2

theorem sweep_drop {l : List Bd} {k : Nat} {x : Bd} (hx : l[k]? = some x) (s : St) (last : Int) :
    sweep stp (l.drop k) k s last = sweep stp (l.drop (k + 1)) (k + 1) (stp k x s).1 (if (stp k x s).2 then (k : Int) else last) := by
  obtain ⟨hk, rfl⟩ := List.getElem?_eq_some_iff.1 hx
  rw [List.drop_eq_getElem_cons hk, sweep]
theorem sweep_end {l : List Bd} {k : Nat} (hk : l.length ≤ k) (s : St) (last : Int) : sweep stp (l.drop k) k s last = (s, last) := by
  rw [List.drop_of_length_le hk, sweep]
theorem runs_stop {l : List Bd} {m : Nat} {s s' : St} {last last' : Int} (hs : sweep stp l 0 s (-1) = (s', last')) (h : last' < 0) : runs stp l (m + 1) s last = (s', last') := by
  rw [runs, hs, if_pos h]
theorem runs_on {l : List Bd} {m : Nat} {s s' : St} {last last' : Int} (hs : sweep stp l 0 s (-1) = (s', last')) (h : ¬ last' < 0) : runs stp l (m + 1) s last = runs stp l m s' last' := by
  rw [runs, hs, if_neg h]
end

/-- One bound of the system lowers a value, and is noted (values, the bounds that lowered them). -/
def lowStp (k : Nat) (b : Bd) (s : List Int × List Int) : (List Int × List Int) × Bool :=
  if Go.RowKit.wrap64 (s.1.getD b.i.toNat 0 + b.w) < s.1.getD b.j.toNat 0 then
    ((s.1.set b.j.toNat (Go.RowKit.wrap64 (s.1.getD b.i.toNat 0 + b.w)), s.2.set b.j.toNat (k : Int)), true)
  else (s, false)

end Go.Proofs.Ytaonicdpeflbbaa
