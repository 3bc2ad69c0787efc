/-
  A slot as a map's key: it is one, and two slots are one key just if they are equal.
  Conditions: as each theorem states them.
-/
import Derived.Test.YtoiipfcmkogcfaaWj
import Derived.DeepKeys4
namespace Go.Proofs.Ytoiipfcmkogcfaa
open Go.RowKit
def slotV (s : List Int) : Value := .agg (s.map (Value.int .i64)).toArray
theorem lits_int (D : Nat) {n : Int} (h : (Lit.int .i64 n).wf = true) : Try.prog.keyLits (D + 1) 3 [.int .i64 n] = some [.int .i64 n] := by
  unfold Program.keyLits
  simp [Try.underlying3, h]
theorem lits53 (D : Nat) {a b : Int} (ha : (Lit.int .i64 a).wf = true) (hb : (Lit.int .i64 b).wf = true) : Try.prog.keyLits (D + 2) 53 [.int .i64 a, .int .i64 b] = some [.int .i64 a, .int .i64 b] := by
  have c53 : Try.prog.cellsOf 53 = 2 := by kernel_rfl
  have c3 : Try.prog.cellsOf 3 = 1 := by kernel_rfl
  unfold Program.keyLits
  simp [Try.underlying53, c53, c3, lits_int D ha, lits_int D hb]
theorem lits62 (D : Nat) {a b c d e : Int} (ha : (Lit.int .i64 a).wf = true) (hb : (Lit.int .i64 b).wf = true) (hc : (Lit.int .i64 c).wf = true) (hd : (Lit.int .i64 d).wf = true) (he : (Lit.int .i64 e).wf = true) :
    Try.prog.keyLits (D + 3) 62 [.int .i64 a, .int .i64 b, .int .i64 c, .int .i64 d, .int .i64 e] = some [.int .i64 a, .int .i64 b, .int .i64 c, .int .i64 d, .int .i64 e] := by
  have c62 : Try.prog.cellsOf 62 = 5 := by kernel_rfl
  have c53 : Try.prog.cellsOf 53 = 2 := by kernel_rfl
  have c3 : Try.prog.cellsOf 3 = 1 := by kernel_rfl
  unfold Program.keyLits
  simp [Try.underlying62, c62, c53, c3, lits_int (D + 1) ha, lits_int (D + 1) hb, lits53 D hc hd, lits_int (D + 1) he]
theorem slot_key (a b c d e f g h : Int) (H : ∀ n ∈ [a, b, c, d, e, f, g, h], (Lit.int .i64 n).wf = true) : ∃ kl, keyOf Try.prog 83 (slotV [a, b, c, d, e, f, g, h]) = some kl := by
  have c83 : Try.prog.cellsOf 83 = 8 := by kernel_rfl
  have c62 : Try.prog.cellsOf 62 = 5 := by kernel_rfl
  have c3 : Try.prog.cellsOf 3 = 1 := by kernel_rfl
  have k83 : Try.prog.keyType 83 = true := by kernel_rfl
  obtain ⟨n, hn⟩ : ∃ n, Try.prog.types.size + 1 = n + 4 := ⟨Try.prog.types.size - 3, by have : 3 ≤ Try.prog.types.size := of_decide_eq_true (by kernel_rfl); omega⟩
  simp only [List.mem_cons, List.not_mem_nil, or_false, forall_eq_or_imp, forall_eq] at H
  obtain ⟨ha, hb, hc, hd, he, hf, hg, hh⟩ := H
  have hl : Try.prog.keyLits (n + 4) 83 [.int .i64 a, .int .i64 b, .int .i64 c, .int .i64 d, .int .i64 e, .int .i64 f, .int .i64 g, .int .i64 h] = some [.int .i64 a, .int .i64 b, .int .i64 c, .int .i64 d, .int .i64 e, .int .i64 f, .int .i64 g, .int .i64 h] := by
    unfold Program.keyLits
    simp [Try.underlying83, c83, c62, c3, lits62 n ha hb hc hd he, lits_int (n + 2) hf, lits_int (n + 2) hg, lits_int (n + 2) hh]
  unfold keyOf
  simp only [Try.underlying83, k83, hn]
  simp [slotV, Value.formed, Try.underlying83, c83, Value.cells, hl]

theorem slotV_inj {s s' : List Int} (h : slotV s = slotV s') : s = s' := by
  simp only [slotV, Value.agg.injEq] at h
  have h2 := congrArg Array.toList h
  simp only at h2
  exact (List.map_inj_right (fun x y e => by injection e)).1 h2
theorem Try.laidOut : laidOutB Try.prog = true := by kernel_rfl
theorem law83 : Go.WideMaps.KeyLaw Try.prog 83 := deep_law_laid Try.laidOut (m := 4) (by omega) (of_decide_eq_true (by kernel_rfl)) (by kernel_rfl) (by rw [Try.underlying83])

end Go.Proofs.Ytoiipfcmkogcfaa
