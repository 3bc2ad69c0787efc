/-
  Reports as cells, their components, and what two reports must share to be the same. No program is in sight here.
-/
import Derived.Test.YtoiipfcmkogcfaaBase
namespace Go.Proofs.Ytoiipfcmkogcfaa
open Go.RowKit

/-- A component of a report. -/
structure Pt where
  kind : Int
  serial : Int
  fitted : Bool
def Pt.cells (p : Pt) : List Value := [.int .i64 p.kind, .int .i64 p.serial, .bool p.fitted]
def Pt.ok (p : Pt) : Prop := (Lit.int .i64 p.kind).wf = true ∧ (Lit.int .i64 p.serial).wf = true

/-- A report: its numbers, its text, its components and where their slice lies. -/
structure Rp where
  rr : Int
  rn : Int
  br : Int
  bn : Int
  tm : Int
  kd : Int
  cr : Int
  cn : Int
  wg : Int
  pl : Int
  ot : Int
  nu : Int
  fr : Int
  tt : Int
  co : Int
  de : Int
  cl : Int
  we : Int
  am : Int
  tx : ByteArray
  A : Option Addr
  cap : Nat
  pts : List Pt

/-- The numbers, in the order of the content. -/
def Rp.nums (r : Rp) : List Int := [r.rr, r.rn, r.br, r.bn, r.cr, r.cn, r.tm, r.kd, r.wg, r.pl, r.ot, r.nu, r.fr, r.tt, r.co, r.de, r.cl, r.we, r.am]
/-- A report's cells. -/
def Rp.cells (r : Rp) : List Value := [.int .i64 r.rr, .int .i64 r.rn, .int .i64 r.br, .int .i64 r.bn, .int .i64 r.tm, .int .i64 r.kd, .int .i64 r.cr, .int .i64 r.cn, .int .i64 r.wg, .int .i64 r.pl, .int .i64 r.ot, .int .i64 r.nu, .int .i64 r.fr, .int .i64 r.tt, .int .i64 r.co, .int .i64 r.de, .int .i64 r.cl, .int .i64 r.we, .int .i64 r.am, .string r.tx, .slice r.A r.pts.length r.cap]
theorem Rp.cells_len (r : Rp) : r.cells.length = 21 := rfl
/-- The components are read where the report says, below block B. -/
def RdP (w : World) (B : Nat) (r : Rp) : Prop := RdE Pt.cells 3 w B r.A r.pts
def Rp.ok (r : Rp) : Prop := (∀ n ∈ r.nums, (Lit.int .i64 n).wf = true) ∧ r.tx.size ≤ maxLen ∧ ∀ p ∈ r.pts, p.ok

/-- The bytes of a number, from the lowest on. -/
def byteAt (n : Int) (i : Nat) : UInt8 := UInt8.ofNat (n / 2 ^ (8 * i) % 256).toNat
def bytes8 (n : Int) : List UInt8 := (List.range 8).map (byteAt n)
def byteV (b : UInt8) : Value := .int .u8 (b.toNat : Int)
theorem byteV_at (n : Int) (i : Nat) : byteV (byteAt n i) = .int .u8 (n / 2 ^ (8 * i) % 256) := by
  unfold byteV byteAt
  congr 1
  have h0 : 0 ≤ n / 2 ^ (8 * i) % 256 := Int.emod_nonneg _ (by decide)
  have h1 : n / 2 ^ (8 * i) % 256 < 256 := Int.emod_lt_of_pos _ (by decide)
  generalize n / 2 ^ (8 * i) % 256 = x at h0 h1
  rw [UInt8.toNat_ofNat']
  omega
def Pt.bytes (p : Pt) : List UInt8 := bytes8 p.kind ++ bytes8 p.serial ++ [if p.fitted then 1 else 0]
def ptsB (l : List Pt) : List UInt8 := l.flatMap Pt.bytes

/-- What two reports must share to be the same. -/
abbrev CK : Type := List Int × ByteArray × ByteArray
def encC (k : CK) : Value := .agg (k.1.map (Value.int .i64) ++ [Value.string k.2.1, Value.string k.2.2]).toArray
def Rp.key (r : Rp) : CK := (r.nums, r.tx, ⟨(ptsB r.pts).toArray⟩)
theorem encC_inj (a b : CK) (h : encC a = encC b) : a = b := by
  obtain ⟨n, t, s⟩ := a
  obtain ⟨n', t', s'⟩ := b
  simp only [encC, Value.agg.injEq] at h
  have h2 := congrArg Array.toList h
  simp only at h2
  have hl : n.length = n'.length := by
    have := congrArg List.length h2
    simpa using this
  have h3 := List.append_inj h2 (by simp [hl])
  have h4 : n = n' := (List.map_inj_right (fun x y e => by injection e)).1 h3.1
  have h5 := h3.2
  simp at h5
  rw [h4, h5.1, h5.2]
theorem bytes8_len (n : Int) : (bytes8 n).length = 8 := by simp [bytes8]
theorem Pt.bytes_len (p : Pt) : p.bytes.length = 17 := by simp [Pt.bytes, bytes8_len]
theorem ptsB_len : ∀ l : List Pt, (ptsB l).length = 17 * l.length
  | [] => rfl
  | p :: r => by
    have h := ptsB_len r
    have e : ptsB (p :: r) = p.bytes ++ ptsB r := rfl
    rw [e, List.length_append, h, Pt.bytes_len, List.length_cons]
    omega
theorem ptsB_snoc (l : List Pt) (p : Pt) : ptsB (l ++ [p]) = ptsB l ++ p.bytes := by simp [ptsB]

end Go.Proofs.Ytoiipfcmkogcfaa
