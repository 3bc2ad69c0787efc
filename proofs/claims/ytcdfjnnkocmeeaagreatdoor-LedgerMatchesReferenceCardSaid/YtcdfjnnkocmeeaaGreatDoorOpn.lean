/-
  A nil slice that is an argument has neither length nor capacity.
-/
import Derived.Test.YtcdfjnnkocmeeaaGreatDoorArg
namespace Go.Proofs.YtcdfjnnkocmeeaaGreatDoor
open Go.RowKit Go.ChangeShapes Go.WideShapes Go.Deep
theorem open_nil {H : Type} {enc : TypeId × Value → H} {w : World} {base : Nat} {spare : Nat → Bool} {held : Bool} {fuel : Nat} {t e : TypeId} (hu : Tryz.prog.underlying t = some (.slice e)) {a : Option Addr} {len cap : Nat} {x : DataW H × List MemPlace}
    (h : DataW.trod enc Tryz.prog w base spare held fuel t [.slice a len cap] = some x) : a = none → len = 0 ∧ cap = 0 := by
  rcases open_slice hu h with ⟨hcs, _⟩ | ⟨ad, len', cap', m, n, D, Pl, hcs, _, _, _, _, _, _⟩
  · simp at hcs
    exact fun _ => ⟨hcs.2.1, hcs.2.2⟩
  · simp at hcs
    intro h1
    rw [hcs.1] at h1
    cases h1
end Go.Proofs.YtcdfjnnkocmeeaaGreatDoor
