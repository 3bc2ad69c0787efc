/-
  The length of a slice that is an argument, by its datum.
-/
import Derived.Test.YtoiipfcmkogcfaaProg
import Derived.Deep.Slices
import Derived.Deep.Fields
import Derived.ChangeSame
import Derived.ProofKit
import Derived.Lib.SmallJoins
import Derived.SizedLaws
namespace Go.Proofs.Ytoiipfcmkogcfaa
open Go.RowKit Go.ChangeShapes Go.WideShapes Go.Deep Go.Joins

section
variable {H : Type} {enc : TypeId × Value → H} {w : World} {base : Nat} {spare : Nat → Bool} {held : Bool} {fuel : Nat}
theorem open_len {t e : TypeId} (hu : Try.prog.underlying t = some (.slice e)) {a : Option Addr} {len cap : Nat} {x : DataW H × List MemPlace} (h : DataW.trod enc Try.prog w base spare held fuel t [.slice a len cap] = some x) :
    len = 0 ∨ ∃ elems rest, x.1 = .slice elems rest ∧ elems.length = len := by
  rcases open_slice hu h with ⟨hcs, _⟩ | ⟨ad, len', cap', m, n, D, Pl, hcs, _, _, _, _, hx, _⟩
  · simp at hcs
    exact .inl hcs.2.1
  · simp at hcs
    obtain ⟨rfl, rfl, rfl⟩ := hcs
    right
    rw [hx]
    exact ⟨_, _, rfl, by simp⟩
/-- A slice that is an argument takes no more than the reach. -/
theorem reach_of {ts : List TypeId} {ds : List (DataW H)} (hsz : (DataW.weightsEach Try.prog ts ds).all (· ≤ reachBytes) = true) {j : Nat} {t e : TypeId} {d : DataW H} (ht : ts[j]? = some t) (hd : ds[j]? = some d) (hu : Try.prog.underlying t = some (.slice e))
    {a : Option Addr} {len cap : Nat} {p : List MemPlace} {n : Nat} (hn : Try.prog.bytesOf e = n) (h : DataW.trod enc Try.prog w base spare held fuel t [.slice a len cap] = some (d, p)) : len * n ≤ 140737488351232 := by
  rcases open_len hu h with h0 | ⟨el, re, hde, hel⟩
  · rw [h0]; omega
  · have := sized_slice hsz (j := j) (t := t) (e := e) (elems := el) (spare := re) ht (by rw [hd, ← hde]) hu
    rw [hn] at this
    simp only [reachBytes] at this
    rw [hel, Nat.add_mul] at this
    omega
end

end Go.Proofs.Ytoiipfcmkogcfaa
