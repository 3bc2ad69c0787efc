/-
  A report's content as a map's key.
  Conditions: as each theorem states them.
-/
import Derived.Test.YtoiipfcmkogcfaaRp
import Derived.Test.YtoiipfcmkogcfaaKey
namespace Go.Proofs.Ytoiipfcmkogcfaa
open Go.RowKit
theorem lits_str (D : Nat) {s : ByteArray} (h : s.size ≤ maxLen) : Try.prog.keyLits (D + 1) 9 [.string s] = some [.string s.data.toList] := by
  unfold Program.keyLits
  simp [Try.underlying9, h]
theorem law92 : Go.WideMaps.KeyLaw Try.prog 92 := deep_law_laid Try.laidOut (m := 4) (by omega) (of_decide_eq_true (by kernel_rfl)) (by kernel_rfl) (by rw [Try.underlying92])
theorem content_key (r : Rp) (hok : ∀ n ∈ r.nums, (Lit.int .i64 n).wf = true) (htx : r.tx.size ≤ maxLen) (hp : 17 * r.pts.length ≤ maxLen) : ∃ kl, keyOf Try.prog 92 (encC r.key) = some kl := by
  have c92 : Try.prog.cellsOf 92 = 21 := by kernel_rfl
  have c53 : Try.prog.cellsOf 53 = 2 := by kernel_rfl
  have c3 : Try.prog.cellsOf 3 = 1 := by kernel_rfl
  have c9 : Try.prog.cellsOf 9 = 1 := by kernel_rfl
  have k92 : Try.prog.keyType 92 = true := by kernel_rfl
  obtain ⟨n, hn⟩ : ∃ n, Try.prog.types.size + 1 = n + 3 := ⟨Try.prog.types.size - 2, by have : 3 ≤ Try.prog.types.size := of_decide_eq_true (by kernel_rfl); omega⟩
  simp only [Rp.nums, List.mem_cons, List.not_mem_nil, or_false, forall_eq_or_imp, forall_eq] at hok
  obtain ⟨h0, h1, h2, h3, h4, h5, h6, h7, h8, h9, h10, h11, h12, h13, h14, h15, h16, h17, h18⟩ := hok
  have hs : (⟨(ptsB r.pts).toArray⟩ : ByteArray).size ≤ maxLen := by
    show (ptsB r.pts).toArray.size ≤ maxLen
    rw [List.size_toArray, ptsB_len]
    exact hp
  have hl : Try.prog.keyLits (n + 3) 92 [.int .i64 r.rr, .int .i64 r.rn, .int .i64 r.br, .int .i64 r.bn, .int .i64 r.cr, .int .i64 r.cn, .int .i64 r.tm, .int .i64 r.kd, .int .i64 r.wg, .int .i64 r.pl, .int .i64 r.ot, .int .i64 r.nu, .int .i64 r.fr, .int .i64 r.tt, .int .i64 r.co, .int .i64 r.de, .int .i64 r.cl, .int .i64 r.we, .int .i64 r.am, .string r.tx, .string ⟨(ptsB r.pts).toArray⟩] = some [.int .i64 r.rr, .int .i64 r.rn, .int .i64 r.br, .int .i64 r.bn, .int .i64 r.cr, .int .i64 r.cn, .int .i64 r.tm, .int .i64 r.kd, .int .i64 r.wg, .int .i64 r.pl, .int .i64 r.ot, .int .i64 r.nu, .int .i64 r.fr, .int .i64 r.tt, .int .i64 r.co, .int .i64 r.de, .int .i64 r.cl, .int .i64 r.we, .int .i64 r.am, .string r.tx.data.toList, .string (ptsB r.pts)] := by
    unfold Program.keyLits
    simp [Try.underlying92, c92, c53, c3, c9, lits53 n h0 h1, lits53 n h2 h3, lits53 n h4 h5, lits_int (n + 1) h6, lits_int (n + 1) h7, lits_int (n + 1) h8, lits_int (n + 1) h9, lits_int (n + 1) h10, lits_int (n + 1) h11, lits_int (n + 1) h12, lits_int (n + 1) h13, lits_int (n + 1) h14, lits_int (n + 1) h15, lits_int (n + 1) h16, lits_int (n + 1) h17, lits_int (n + 1) h18, lits_str (n + 1) htx, lits_str (n + 1) hs]
  unfold keyOf
  simp only [Try.underlying92, k92, hn]
  simp [encC, Rp.key, Rp.nums, Value.formed, Try.underlying92, c92, Value.cells, hl]

end Go.Proofs.Ytoiipfcmkogcfaa
