/-
  Arguments that are slices of reports, or a pool, opened.
-/
import Derived.Test.YtoiipfcmkogcfaaArg
import Derived.Test.YtoiipfcmkogcfaaAsz
import Derived.Test.YtoiipfcmkogcfaaRq
namespace Go.Proofs.Ytoiipfcmkogcfaa
open Go.RowKit Go.ChangeShapes Go.WideShapes Go.Deep

section
variable {H : Type} {enc : TypeId × Value → H} {w : World} {base : Nat} {spare : Nat → Bool} {held : Bool} {fuel : Nat}

theorem open_part {cs : List Value} {x : DataW H × List MemPlace} (h : DataW.trod enc Try.prog w base spare held fuel 114 cs = some x) : ∃ p : Pt, p.cells = cs ∧ p.ok := by
  have c3 : Try.prog.cellsOf 3 = 1 := by kernel_rfl
  have c4 : Try.prog.cellsOf 4 = 1 := by kernel_rfl
  have cP : Try.prog.cellsOf 114 = 3 := by kernel_rfl
  obtain ⟨ys, n', _, _, hlen, hys, hf⟩ := DataW.trod_struct Try.underlying114 h
  have hy : ∀ j, j < 3 → ∃ y, ys[j]? = some y := fun j hj => ⟨_, List.getElem?_eq_getElem (by rw [show ys.length = 3 from hys]; exact hj)⟩
  obtain ⟨y0, hy0⟩ := hy 0 (by omega)
  obtain ⟨y1, hy1⟩ := hy 1 (by omega)
  obtain ⟨y2, hy2⟩ := hy 2 (by omega)
  have f0 : DataW.trod enc Try.prog w base spare held n' 3 ((cs.drop 0).take (Try.prog.cellsOf 3)) = ys[0]? := hf 0 _ rfl
  have f1 : DataW.trod enc Try.prog w base spare held n' 3 ((cs.drop 1).take (Try.prog.cellsOf 3)) = ys[1]? := hf 1 _ rfl
  have f2 : DataW.trod enc Try.prog w base spare held n' 4 ((cs.drop 2).take (Try.prog.cellsOf 4)) = ys[2]? := hf 2 _ rfl
  rw [c3, hy0] at f0
  rw [c3, hy1] at f1
  rw [c4, hy2] at f2
  obtain ⟨a, e0, w0⟩ := int_cell Try.underlying3 f0
  obtain ⟨b, e1, w1⟩ := int_cell Try.underlying3 f1
  obtain ⟨c, e2, _⟩ := DataW.trod_bool Try.underlying4 f2
  have hl : cs.length = 3 := hlen.trans cP
  refine ⟨⟨a, b, c⟩, ?_, w0, w1⟩
  have h0 := at1 e0
  have h1 := at1 e1
  have h2 := at1 e2
  apply List.ext_getElem?
  intro j
  rcases (show j = 0 ∨ j = 1 ∨ j = 2 ∨ 3 ≤ j by omega) with rfl | rfl | rfl | h3
  · rw [h0]; rfl
  · rw [h1]; rfl
  · rw [h2]; rfl
  · rw [List.getElem?_eq_none (by simp [Pt.cells]; omega), List.getElem?_eq_none (by omega)]

theorem open_parts {a : Option Addr} {len cap : Nat} {x : DataW H × List MemPlace} (h : DataW.trod enc Try.prog w base spare held fuel 54 [.slice a len cap] = some x) :
    ∃ l : List Pt, l.length = len ∧ len ≤ maxLen ∧ RdE Pt.cells 3 w w.heap.size a l ∧ ∀ p ∈ l, p.ok :=
  open_rows (en := Pt.cells) (k := 3) (ok := Pt.ok) Try.underlying54 (by kernel_rfl) (by decide) (fun x _ => rfl) (fun n cs x hx => open_part hx) h

theorem slice_cell {t e : TypeId} (ht : Try.prog.underlying t = some (.slice e)) {cs : List Value} {y : DataW H × List MemPlace} (h : DataW.trod enc Try.prog w base spare held fuel t cs = some y) : ∃ a len cap, cs = [.slice a len cap] := by
  rcases open_slice ht h with ⟨hcs, _⟩ | ⟨ad, len', cap', m, n, D, Pl, hcs, _⟩
  · exact ⟨_, _, _, hcs⟩
  · exact ⟨_, _, _, hcs⟩

set_option maxRecDepth 100000 in
theorem open_report {cs : List Value} {x : DataW H × List MemPlace} (h : DataW.trod enc Try.prog w base spare held fuel 58 cs = some x) : ∃ r : Rp, r.cells = cs ∧ r.ok ∧ RdP w w.heap.size r := by
  have c3 : Try.prog.cellsOf 3 = 1 := by kernel_rfl
  have c9 : Try.prog.cellsOf 9 = 1 := by kernel_rfl
  have c53 : Try.prog.cellsOf 53 = 2 := by kernel_rfl
  have c56 : Try.prog.cellsOf 56 = 16 := by kernel_rfl
  have c58 : Try.prog.cellsOf 58 = 21 := by kernel_rfl
  have cS : Try.prog.cellsOf 54 = 1 := by kernel_rfl
  obtain ⟨ys, n', _, _, hlen, hys, hf⟩ := DataW.trod_struct Try.underlying58 h
  have hy : ∀ j, j < 4 → ∃ y, ys[j]? = some y := fun j hj => ⟨_, List.getElem?_eq_getElem (by rw [show ys.length = 4 from hys]; exact hj)⟩
  obtain ⟨y0, hy0⟩ := hy 0 (by omega)
  obtain ⟨y1, hy1⟩ := hy 1 (by omega)
  obtain ⟨y2, hy2⟩ := hy 2 (by omega)
  obtain ⟨y3, hy3⟩ := hy 3 (by omega)
  have f0 : DataW.trod enc Try.prog w base spare held n' 53 ((cs.drop 0).take (Try.prog.cellsOf 53)) = ys[0]? := hf 0 _ rfl
  have f1 : DataW.trod enc Try.prog w base spare held n' 53 ((cs.drop 2).take (Try.prog.cellsOf 53)) = ys[1]? := hf 1 _ rfl
  have f2 : DataW.trod enc Try.prog w base spare held n' 3 ((cs.drop 4).take (Try.prog.cellsOf 3)) = ys[2]? := hf 2 _ rfl
  have f3 : DataW.trod enc Try.prog w base spare held n' 56 ((cs.drop 5).take (Try.prog.cellsOf 56)) = ys[3]? := hf 3 _ rfl
  rw [c53, hy0] at f0
  rw [c53, hy1] at f1
  rw [c3, hy2] at f2
  rw [c56, hy3] at f3
  obtain ⟨rr, rn, k0, k1, v0, v1⟩ := open_ref f0
  obtain ⟨br, bn, k2, k3, v2, v3⟩ := open_ref f1
  obtain ⟨tm, k4, v4⟩ := int_cell Try.underlying3 f2
  obtain ⟨zs, n2, _, _, hlen2, hzs, hg⟩ := DataW.trod_struct Try.underlying56 f3
  have hz : ∀ j, j < 15 → ∃ z, zs[j]? = some z := fun j hj => ⟨_, List.getElem?_eq_getElem (by rw [show zs.length = 15 from hzs]; exact hj)⟩
  have num : ∀ (j o : Nat) (z : DataW H × List MemPlace), zs[j]? = some z → DataW.trod enc Try.prog w base spare held n2 3 ((((cs.drop 5).take 16).drop o).take (Try.prog.cellsOf 3)) = zs[j]? → ∃ n, ((cs.drop 5).take 16)[o]? = some (.int .i64 n) ∧ (Lit.int .i64 n).wf = true := fun j o z hzj hh => by
    rw [c3, hzj] at hh
    obtain ⟨n, e, v⟩ := int_cell Try.underlying3 hh
    exact ⟨n, at1 e, v⟩
  obtain ⟨z0, hz0⟩ := hz 0 (by omega)
  obtain ⟨kd, k5, v5⟩ := num 0 0 z0 hz0 (hg 0 _ rfl)
  obtain ⟨z1, hz1⟩ := hz 1 (by omega)
  have g1 : DataW.trod enc Try.prog w base spare held n2 53 ((((cs.drop 5).take 16).drop 1).take (Try.prog.cellsOf 53)) = zs[1]? := hg 1 _ rfl
  rw [c53, hz1] at g1
  obtain ⟨cr, cn, k6, k7, v6, v7⟩ := open_ref g1
  obtain ⟨z2, hz2⟩ := hz 2 (by omega)
  obtain ⟨wg, k8, v8⟩ := num 2 3 z2 hz2 (hg 2 _ rfl)
  obtain ⟨z3, hz3⟩ := hz 3 (by omega)
  obtain ⟨pl, k9, v9⟩ := num 3 4 z3 hz3 (hg 3 _ rfl)
  obtain ⟨z4, hz4⟩ := hz 4 (by omega)
  obtain ⟨ot, k10, v10⟩ := num 4 5 z4 hz4 (hg 4 _ rfl)
  obtain ⟨z5, hz5⟩ := hz 5 (by omega)
  obtain ⟨nu, k11, v11⟩ := num 5 6 z5 hz5 (hg 5 _ rfl)
  obtain ⟨z6, hz6⟩ := hz 6 (by omega)
  obtain ⟨fr, k12, v12⟩ := num 6 7 z6 hz6 (hg 6 _ rfl)
  obtain ⟨z7, hz7⟩ := hz 7 (by omega)
  obtain ⟨tt, k13, v13⟩ := num 7 8 z7 hz7 (hg 7 _ rfl)
  obtain ⟨z8, hz8⟩ := hz 8 (by omega)
  obtain ⟨co, k14, v14⟩ := num 8 9 z8 hz8 (hg 8 _ rfl)
  obtain ⟨z9, hz9⟩ := hz 9 (by omega)
  obtain ⟨de, k15, v15⟩ := num 9 10 z9 hz9 (hg 9 _ rfl)
  obtain ⟨z10, hz10⟩ := hz 10 (by omega)
  obtain ⟨cl, k16, v16⟩ := num 10 11 z10 hz10 (hg 10 _ rfl)
  obtain ⟨z11, hz11⟩ := hz 11 (by omega)
  obtain ⟨we, k17, v17⟩ := num 11 12 z11 hz11 (hg 11 _ rfl)
  obtain ⟨z12, hz12⟩ := hz 12 (by omega)
  obtain ⟨am, k18, v18⟩ := num 12 13 z12 hz12 (hg 12 _ rfl)
  obtain ⟨z13, hz13⟩ := hz 13 (by omega)
  have g13 : DataW.trod enc Try.prog w base spare held n2 9 ((((cs.drop 5).take 16).drop 14).take (Try.prog.cellsOf 9)) = zs[13]? := hg 13 _ rfl
  rw [c9, hz13] at g13
  obtain ⟨tx, k19, _, v19⟩ := DataW.trod_string Try.underlying9 g13
  obtain ⟨z14, hz14⟩ := hz 14 (by omega)
  have g14 : DataW.trod enc Try.prog w base spare held n2 54 ((((cs.drop 5).take 16).drop 15).take (Try.prog.cellsOf 54)) = zs[14]? := hg 14 _ rfl
  rw [cS, hz14] at g14
  obtain ⟨a, len, cap, k20⟩ := slice_cell Try.underlying54 g14
  rw [k20] at g14
  obtain ⟨pts, rfl, _, hpr, hpo⟩ := open_parts g14
  have hl : cs.length = 21 := hlen.trans c58
  refine ⟨⟨rr, rn, br, bn, tm, kd, cr, cn, wg, pl, ot, nu, fr, tt, co, de, cl, we, am, tx, a, cap, pts⟩, ?_, ⟨?_, v19, hpo⟩, hpr⟩
  · have a0 : cs[0]? = some (.int .i64 rr) := by simpa using atS k0
    have a1 : cs[1]? = some (.int .i64 rn) := by simpa using atS k1
    have a2 : cs[2]? = some (.int .i64 br) := by simpa using atS k2
    have a3 : cs[3]? = some (.int .i64 bn) := by simpa using atS k3
    have a4 : cs[4]? = some (.int .i64 tm) := at1 k4
    have a5 : cs[5]? = some (.int .i64 kd) := atS k5
    have a6 : cs[6]? = some (.int .i64 cr) := atS (atS k6)
    have a7 : cs[7]? = some (.int .i64 cn) := atS (atS k7)
    have a8 : cs[8]? = some (.int .i64 wg) := atS k8
    have a9 : cs[9]? = some (.int .i64 pl) := atS k9
    have a10 : cs[10]? = some (.int .i64 ot) := atS k10
    have a11 : cs[11]? = some (.int .i64 nu) := atS k11
    have a12 : cs[12]? = some (.int .i64 fr) := atS k12
    have a13 : cs[13]? = some (.int .i64 tt) := atS k13
    have a14 : cs[14]? = some (.int .i64 co) := atS k14
    have a15 : cs[15]? = some (.int .i64 de) := atS k15
    have a16 : cs[16]? = some (.int .i64 cl) := atS k16
    have a17 : cs[17]? = some (.int .i64 we) := atS k17
    have a18 : cs[18]? = some (.int .i64 am) := atS k18
    have a19 : cs[19]? = some (.string tx) := atS (at1 k19)
    have a20 : cs[20]? = some (.slice a pts.length cap) := by have h20 := at1 k20; exact atS h20
    apply List.ext_getElem?
    intro j
    by_cases hj : j < 21
    · rcases (show j = 0 ∨ j = 1 ∨ j = 2 ∨ j = 3 ∨ j = 4 ∨ j = 5 ∨ j = 6 ∨ j = 7 ∨ j = 8 ∨ j = 9 ∨ j = 10 ∨ j = 11 ∨ j = 12 ∨ j = 13 ∨ j = 14 ∨ j = 15 ∨ j = 16 ∨ j = 17 ∨ j = 18 ∨ j = 19 ∨ j = 20 by omega) with rfl | rfl | rfl | rfl | rfl | rfl | rfl | rfl | rfl | rfl | rfl | rfl | rfl | rfl | rfl | rfl | rfl | rfl | rfl | rfl | rfl
      · rw [a0]; rfl
      · rw [a1]; rfl
      · rw [a2]; rfl
      · rw [a3]; rfl
      · rw [a4]; rfl
      · rw [a5]; rfl
      · rw [a6]; rfl
      · rw [a7]; rfl
      · rw [a8]; rfl
      · rw [a9]; rfl
      · rw [a10]; rfl
      · rw [a11]; rfl
      · rw [a12]; rfl
      · rw [a13]; rfl
      · rw [a14]; rfl
      · rw [a15]; rfl
      · rw [a16]; rfl
      · rw [a17]; rfl
      · rw [a18]; rfl
      · rw [a19]; rfl
      · rw [a20]; rfl
    · rw [List.getElem?_eq_none (by simp [Rp.cells]; omega), List.getElem?_eq_none (by omega)]
  · simp only [Rp.nums, List.mem_cons, List.not_mem_nil, or_false, forall_eq_or_imp, forall_eq]
    exact ⟨v0, v1, v2, v3, v6, v7, v4, v5, v8, v9, v10, v11, v12, v13, v14, v15, v16, v17, v18⟩

theorem open_reports {a : Option Addr} {len cap : Nat} {x : DataW H × List MemPlace} (h : DataW.trod enc Try.prog w base spare held fuel 48 [.slice a len cap] = some x) :
    ∃ l : List Rp, l.length = len ∧ len ≤ maxLen ∧ RdE Rp.cells 21 w w.heap.size a l ∧ ∀ r ∈ l, r.ok ∧ RdP w w.heap.size r :=
  open_rows (en := Rp.cells) (k := 21) (ok := fun r : Rp => r.ok ∧ RdP w w.heap.size r) Try.underlying48 (by kernel_rfl) (by decide) (fun x _ => rfl) (fun n cs x hx => open_report hx) h
end
end Go.Proofs.Ytoiipfcmkogcfaa
