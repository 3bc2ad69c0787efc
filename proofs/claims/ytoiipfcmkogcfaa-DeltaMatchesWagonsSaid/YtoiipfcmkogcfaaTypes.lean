/-
  Changes (api.Delta) and slots as plain data, and how they lie in cells. No program is in sight here.
-/
import Derived.Test.YtoiipfcmkogcfaaBase
namespace Go.Proofs.Ytoiipfcmkogcfaa
open Go.RowKit

/-- A change: its slot and its amount. -/
structure Dl where
  kind : Int
  wagon : Int
  rr : Int
  rn : Int
  part : Int
  payer : Int
  payee : Int
  month : Int
  amount : Int

def Dl.slot (d : Dl) : List Int := [d.kind, d.wagon, d.rr, d.rn, d.part, d.payer, d.payee, d.month]
def Dl.nums (d : Dl) : List Int := [d.kind, d.wagon, d.rr, d.rn, d.part, d.payer, d.payee, d.month, d.amount]
def Dl.cells (d : Dl) : List Value := [.int .i64 d.kind, .int .i64 d.wagon, .int .i64 d.rr, .int .i64 d.rn, .int .i64 d.part, .int .i64 d.payer, .int .i64 d.payee, .int .i64 d.month, .int .i64 d.amount]

theorem Dl.nums_inj {a b : Dl} (h : a.nums = b.nums) : a = b := by
  cases a; cases b
  simp [Dl.nums] at h
  simp [h]
instance : DecidableEq Dl := fun a b => if h : a.nums = b.nums then .isTrue (Dl.nums_inj h) else .isFalse (fun e => h (by rw [e]))
instance : Inhabited Dl := ⟨⟨0, 0, 0, 0, 0, 0, 0, 0, 0⟩⟩

theorem Dl.ext2 {a b : Dl} (h : a.slot = b.slot) (h' : a.amount = b.amount) : a = b := by
  cases a; cases b
  simp [Dl.slot] at h h'
  simp [h, h']
theorem Dl.cells_len (d : Dl) : d.cells.length = 9 := rfl
theorem Dl.cells_one (d : Dl) : ∀ v ∈ d.cells, v.oneCell' = true := by
  intro v hv
  simp [Dl.cells] at hv
  rcases hv with rfl | rfl | rfl | rfl | rfl | rfl | rfl | rfl | rfl <;> rfl

/-- Reading a change: its nine cells. -/
abbrev RdD (w : World) (B : Nat) (A : Option Addr) (l : List Dl) : Prop := RdE Dl.cells 9 w B A l

/-- The nine cells of a change at offset o of block b. -/
def Nine (w : World) (b o : Nat) (x : Dl) : Prop :=
  w.cell? ⟨b, o, none⟩ = some (.int .i64 x.kind) ∧ w.cell? ⟨b, o + 1, none⟩ = some (.int .i64 x.wagon) ∧ w.cell? ⟨b, o + 2, none⟩ = some (.int .i64 x.rr) ∧
  w.cell? ⟨b, o + 3, none⟩ = some (.int .i64 x.rn) ∧ w.cell? ⟨b, o + 4, none⟩ = some (.int .i64 x.part) ∧ w.cell? ⟨b, o + 5, none⟩ = some (.int .i64 x.payer) ∧
  w.cell? ⟨b, o + 6, none⟩ = some (.int .i64 x.payee) ∧ w.cell? ⟨b, o + 7, none⟩ = some (.int .i64 x.month) ∧ w.cell? ⟨b, o + 8, none⟩ = some (.int .i64 x.amount)
theorem Nine.of {w : World} {b o : Nat} {x : Dl} (h : w.rangeAt b o x.cells) : Nine w b o x :=
  ⟨h 0 _ rfl, h 1 _ rfl, h 2 _ rfl, h 3 _ rfl, h 4 _ rfl, h 5 _ rfl, h 6 _ rfl, h 7 _ rfl, h 8 _ rfl⟩

end Go.Proofs.Ytoiipfcmkogcfaa
