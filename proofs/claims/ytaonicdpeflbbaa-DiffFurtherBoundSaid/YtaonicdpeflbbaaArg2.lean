/-
  An argument that is one bound by value, opened; the length of a slice of bounds by its datum.
-/
import Derived.Test.YtaonicdpeflbbaaArg
import Derived.Lib.SmallJoins
import Derived.SizedLaws
namespace Go.Proofs.Ytaonicdpeflbbaa
open Go.RowKit Go.ChangeShapes Go.WideShapes Go.Deep Go.Joins

section
variable {H : Type} {enc : TypeId × Value → H} {w : World} {base : Nat} {spare : Nat → Bool} {held : Bool} {fuel : Nat}

theorem open_bound {r : Reach} {b0 : Nat} {v : Value} {d : DataW H} {p : List MemPlace} (hv : Value.okWide Try.prog w r b0 36 v) (h : DataW.Trod enc Try.prog w base spare held 36 v d p) :
    ∃ x : Bd, v = .agg #[.int .i64 x.i, .int .i64 x.j, .int .i64 x.w] := by
  obtain ⟨v0, v1, v2, y0, y1, y2, n, rfl, _, _, t0, t1, t2⟩ := open_agg3 Try.underlying36 (by kernel_rfl) (by kernel_rfl) hv h
  obtain ⟨a, e0, _, _⟩ := DataW.trod_int Try.underlying3 t0
  obtain ⟨b, e1, _, _⟩ := DataW.trod_int Try.underlying3 t1
  obtain ⟨c, e2, _, _⟩ := DataW.trod_int Try.underlying3 t2
  simp at e0 e1 e2
  exact ⟨⟨a, b, c⟩, by rw [e0, e1, e2]⟩

theorem open_len {a : Option Addr} {len cap : Nat} {x : DataW H × List MemPlace} (h : DataW.trod enc Try.prog w base spare held fuel 22 [.slice a len cap] = some x) :
    len = 0 ∨ ∃ elems rest, x.1 = .slice elems rest ∧ elems.length = len := by
  rcases open_slice Try.underlying22 h with ⟨hcs, _⟩ | ⟨ad, len', cap', m, n, D, Pl, hcs, _, _, _, _, hx, _⟩
  · simp at hcs
    exact .inl hcs.2.1
  · simp at hcs
    obtain ⟨rfl, rfl, rfl⟩ := hcs
    right
    rw [hx]
    exact ⟨_, _, rfl, by simp⟩
end

end Go.Proofs.Ytaonicdpeflbbaa
