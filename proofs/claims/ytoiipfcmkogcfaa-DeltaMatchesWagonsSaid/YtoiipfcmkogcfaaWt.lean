/-
  delta.contentOf gives what two reports must share to be the same.
  Conditions: as each theorem states them.
-/
import Derived.Test.YtoiipfcmkogcfaaRp
import Derived.Test.YtoiipfcmkogcfaaProg
import Derived.Laws.IdiomStrings
import Derived.Laws.BytesArg
import Derived.Deep.AppendLies
import Derived.Deep.DeepCutAuto
import Derived.Test.YtoiipfcmkogcfaaFresh
import Derived.Test.YtoiipfcmkogcfaaWr
import Derived.Test.YtoiipfcmkogcfaaWn
namespace Go.Proofs.Ytoiipfcmkogcfaa
open Go.RowKit Go.Lib

theorem row_setCells {g : Nat} {t : TypeId} : ∀ (vs pre post : List Value) (w : World), Row w g t (pre ++ post).toArray → vs.length = post.length → Row (w.setCells g pre.length vs) g t (pre ++ vs).toArray
  | [], pre, post, w, h, hl => by
    have : post = [] := List.eq_nil_of_length_eq_zero (by simpa using hl.symm)
    subst this
    exact h
  | v :: r, pre, [], w, h, hl => by simp at hl
  | v :: r, pre, p :: ps, w, h, hl => by
    rw [World.setCells]
    have h1 := h.set pre.length v
    have e : (pre ++ p :: ps).toArray.setIfInBounds pre.length v = ((pre ++ [v]) ++ ps).toArray := by simp
    rw [e] at h1
    have := row_setCells r (pre ++ [v]) ps _ h1 (by simpa using hl)
    simpa using this
theorem below_setCells {a : World} {B g : Nat} (hg : B ≤ g) : ∀ (vs : List Value) (o : Nat) (w : World), Below B a w → Below B a (w.setCells g o vs)
  | [], _, _, h => h
  | v :: r, o, _, h => below_setCells hg r (o + 1) _ (h.setCell (p := ⟨g, o, none⟩) hg v)
theorem conv_own {w : World} {base : Nat} {v : Value} {bs : List UInt8} (h : w.ownsRow base 5 1 v bs.length (bs.map byteV)) : (convert 112 9 v).run Try.prog w = .ok (.string ⟨bs.toArray⟩) w := by
  rcases h.2 with ⟨rfl, e⟩ | ⟨g, cap, cur, rfl, _, hh, hnc, _, hsz, htake⟩
  · have : bs = [] := List.eq_nil_of_length_eq_zero e
    subst this
    exact run_convert_bytes_nil (P := Try.prog) (w := w) 112 5 Try.underlying112 Try.underlying5 0 0 9 Try.underlying9
  · refine run_convert_bytes_back w 112 9 5 ⟨g, 0, none⟩ cap bs Try.underlying112 Try.underlying5 Try.underlying9 (fun j hj => ?_)
    have hr : Row w g 5 cur := hh
    rw [show (⟨g, 0, none⟩ : Addr).add j = ⟨g, 0 + j, none⟩ from Addr.add_mid g 0 j, Nat.zero_add, hr.cell]
    have h1 : (bs.map byteV)[j]? = some (.int .u8 (bs[j].toNat : Int)) := by simp [hj, byteV]
    rw [← htake, List.getElem?_take_of_lt (by omega)] at h1
    simpa using h1
theorem info5 : ∃ i, Try.prog.info? 5 = some i ∧ i.zero = some (.int .u8 0) ∧ i.size = 1 ∧ i.bytes = 1 := info_of rfl (by kernel_rfl) (by kernel_rfl)
theorem take8 (n : Int) {j : Nat} (h : j < 8) : (bytes8 n).take (j + 1) = (bytes8 n).take j ++ [byteAt n j] := by
  rw [List.take_add_one]
  simp [bytes8, h]
theorem Try.size56 : (Try.prog.info? 56).map (·.size) = some 16 := by kernel_rfl
theorem Try.size92 : (Try.prog.info? 92).map (·.size) = some 21 := by kernel_rfl
theorem Try.size58 : (Try.prog.info? 58).map (·.size) = some 21 := by kernel_rfl

set_option maxRecDepth 100000 in
set_option maxHeartbeats 1000000 in
theorem content_any (r : Rp) (w : World) (hp : RdP w w.heap.size r) (hn : r.pts.length ≤ 1000000000) :
    Calls Try.prog 31 #[.agg r.cells.toArray] w fun e w' => e = .returned (encC r.key) ∧ Below w.heap.size w w' := by
  have Hp := Lib.hid hp
  clear hp
  go_enter Try.func31, Try.ntmps31
  go_upto_region 1 with fail
  obtain ⟨Z, hZ⟩ : ∃ Z : Array Value, Z = #[Value.int IntKind.i64 0, Value.int IntKind.i64 0, Value.int IntKind.i64 0, Value.int IntKind.i64 0, Value.int IntKind.i64 0, Value.int IntKind.i64 0, Value.int IntKind.i64 0, Value.int IntKind.i64 0,
          Value.int IntKind.i64 0, Value.int IntKind.i64 0, Value.int IntKind.i64 0, Value.int IntKind.i64 0, Value.int IntKind.i64 0, Value.int IntKind.i64 0, Value.int IntKind.i64 0, Value.int IntKind.i64 0,
          Value.int IntKind.i64 0, Value.int IntKind.i64 0, Value.int IntKind.i64 0, Value.string { data := #[] }, Value.string { data := #[] }] := ⟨_, rfl⟩
  have hZs : Z.size = 21 := by rw [hZ]; rfl
  rw [← hZ]
  obtain ⟨W0, hW0⟩ : ∃ W0, W0 = (w.alloc (Obj.cells r.cells.toArray 58)).alloc (Obj.cells Z 92) := ⟨_, rfl⟩
  have hr1 : Row W0 w.heap.size 58 r.cells.toArray := by rw [hW0]; exact (Row.new _ _ _).alloc _
  have hr2 : Row W0 (w.heap.size + 1) 92 Z := by rw [hW0]; exact Row.new1 _ _ _ _
  have hB0 : Below w.heap.size w W0 := by rw [hW0]; exact ((Below.refl _ _).alloc (Nat.le_refl _) _).alloc (by simp) _
  have hs0 : W0.heap.size = w.heap.size + 2 := by rw [hW0]; simp
  rw [← hW0]
  clear hW0
  obtain ⟨ic, hic⟩ : ∃ ic : List Value, ic = r.cells.drop 5 := ⟨_, rfl⟩
  have hicl : (Try.prog.info? 56).map (·.size) = some ic.length := by rw [Try.size56, hic]; rfl
  have hic1 : ∀ v ∈ ic, v.oneCell' = true := by rw [hic]; intro v hv; simp [Rp.cells] at hv; rcases hv with rfl | rfl | rfl | rfl | rfl | rfl | rfl | rfl | rfl | rfl | rfl | rfl | rfl | rfl | rfl | rfl <;> rfl
  have hicr : W0.rangeAt w.heap.size 5 ic := fun j v hv => by rw [hr1.cell]; rw [hic] at hv; simpa using hv
  have hicn : 16 = ic.length := by rw [hic]; rfl
  have Hic := Lib.hid hic
  have Hs0 := Lib.hid hs0
  have HB0 := Lib.hid hB0
  clear hic hs0 hB0 hZ
  go_upto_region 2 with (first | (refine wpList_load_mid rfl 56 _ rfl _ _ rfl _ _ hicr Try.underlying56 rfl hicl ?_) | (refine wpList_store_fresh rfl 56 _ _ rfl ic rfl rfl (by simp [← hicn]) hicl hic1 ?_))
  obtain ⟨W1, hW1⟩ : ∃ W1, W1 = W0.alloc (.cells ic.toArray 56) := ⟨_, rfl⟩
  obtain ⟨I, hI⟩ : ∃ I, I = W0.heap.size := ⟨_, rfl⟩
  have hri : Row W1 I 56 (r.cells.drop 5).toArray := by rw [hW1, hI, ← Hic.out]; exact Row.new _ _ _
  have hB1 : Below W0.heap.size W0 W1 := by rw [hW1]; exact (Below.refl _ _).alloc (Nat.le_refl _) _
  replace hr1 := hr1.below hB1 hr1.lt
  replace hr2 := hr2.below hB1 hr2.lt
  have hBw : Below w.heap.size w W1 := HB0.out.trans (hB1.mono HB0.out.size)
  have hI2 : w.heap.size + 2 = I := by rw [hI]; exact Hs0.out.symm
  have hsz1 : W1.heap.size = I + 1 := by rw [hW1, hI]; simp
  rw [← hW1, ← hI]
  have HBw := Lib.hid hBw
  have HI2 := Lib.hid hI2
  have Hsz1 := Lib.hid hsz1
  clear hW1 hI hicr hicl hic1 hicn Hic hB1 hBw hI2 hsz1
  have a0 : W1.cell? ⟨w.heap.size, 0, none⟩ = some (.int .i64 r.rr) := by rw [hr1.cell]; rfl
  have a1 : W1.cell? ⟨w.heap.size, 1, none⟩ = some (.int .i64 r.rn) := by rw [hr1.cell]; rfl
  have a2 : W1.cell? ⟨w.heap.size, 2, none⟩ = some (.int .i64 r.br) := by rw [hr1.cell]; rfl
  have a3 : W1.cell? ⟨w.heap.size, 3, none⟩ = some (.int .i64 r.bn) := by rw [hr1.cell]; rfl
  have a4 : W1.cell? ⟨w.heap.size, 4, none⟩ = some (.int .i64 r.tm) := by rw [hr1.cell]; rfl
  have b0 : W1.cell? ⟨I, 0, none⟩ = some (.int .i64 r.kd) := by rw [hri.cell]; rfl
  have b1 : W1.cell? ⟨I, 1, none⟩ = some (.int .i64 r.cr) := by rw [hri.cell]; rfl
  have b2 : W1.cell? ⟨I, 2, none⟩ = some (.int .i64 r.cn) := by rw [hri.cell]; rfl
  have b3 : W1.cell? ⟨I, 3, none⟩ = some (.int .i64 r.wg) := by rw [hri.cell]; rfl
  have b4 : W1.cell? ⟨I, 4, none⟩ = some (.int .i64 r.pl) := by rw [hri.cell]; rfl
  have b5 : W1.cell? ⟨I, 5, none⟩ = some (.int .i64 r.ot) := by rw [hri.cell]; rfl
  have b6 : W1.cell? ⟨I, 6, none⟩ = some (.int .i64 r.nu) := by rw [hri.cell]; rfl
  have b7 : W1.cell? ⟨I, 7, none⟩ = some (.int .i64 r.fr) := by rw [hri.cell]; rfl
  have b8 : W1.cell? ⟨I, 8, none⟩ = some (.int .i64 r.tt) := by rw [hri.cell]; rfl
  have b9 : W1.cell? ⟨I, 9, none⟩ = some (.int .i64 r.co) := by rw [hri.cell]; rfl
  have b10 : W1.cell? ⟨I, 10, none⟩ = some (.int .i64 r.de) := by rw [hri.cell]; rfl
  have b11 : W1.cell? ⟨I, 11, none⟩ = some (.int .i64 r.cl) := by rw [hri.cell]; rfl
  have b12 : W1.cell? ⟨I, 12, none⟩ = some (.int .i64 r.we) := by rw [hri.cell]; rfl
  have b13 : W1.cell? ⟨I, 13, none⟩ = some (.int .i64 r.am) := by rw [hri.cell]; rfl
  have b14 : W1.cell? ⟨I, 14, none⟩ = some (.string r.tx) := by rw [hri.cell]; rfl
  have b15 : W1.cell? ⟨I, 15, none⟩ = some (.slice r.A r.pts.length r.cap) := by rw [hri.cell]; rfl
  obtain ⟨cc, hcc⟩ : ∃ cc : List Value, cc = [Value.int .i64 r.rr, Value.int .i64 r.rn, Value.int .i64 r.br, Value.int .i64 r.bn, Value.int .i64 r.cr, Value.int .i64 r.cn, Value.int .i64 r.tm, Value.int .i64 r.kd, Value.int .i64 r.wg, Value.int .i64 r.pl, Value.int .i64 r.ot, Value.int .i64 r.nu, Value.int .i64 r.fr, Value.int .i64 r.tt, Value.int .i64 r.co, Value.int .i64 r.de, Value.int .i64 r.cl, Value.int .i64 r.we, Value.int .i64 r.am, Value.string r.tx, Value.string { data := #[] }] := ⟨_, rfl⟩
  have hcl : (Try.prog.info? 92).map (·.size) = some cc.length := by rw [Try.size92, hcc]; rfl
  have hc1 : ∀ v ∈ cc, v.oneCell' = true := by rw [hcc]; intro v hv; simp at hv; rcases hv with rfl | rfl | rfl | rfl | rfl | rfl | rfl | rfl | rfl | rfl | rfl | rfl | rfl | rfl | rfl | rfl | rfl | rfl | rfl | rfl | rfl <;> rfl
  have Hcc := Lib.hid hcc
  have Hcl := Lib.hid hcl
  have Hc1 := Lib.hid hc1
  clear hcc
  have Hr1 := Lib.hid hr1
  have Hr2 := Lib.hid hr2
  have Hri := Lib.hid hri
  clear hcl hc1 hr1 hr2 hri
  obtain ⟨B0, hB0⟩ : ∃ B0, B0 = W1.heap.size + 1 := ⟨_, rfl⟩
  simp only [Act.put]
  go_cut [4] (fun s4 wx => s4 = .pointer (some ⟨W1.heap.size, 0, none⟩) ∧ wx = W1.alloc (.cells cc.toArray 92))
  case first =>
    go_wp2_with (first | (show wpList _ _ _ (⟨none, Op.store 92 _ _, _, _, _, _⟩ :: _) _ _; refine wpList_store_fresh rfl 92 _ _ rfl cc rfl (by rw [Hcc.out]; rfl) (by rw [Hcc.out]; rfl) Hcl.out Hc1.out ?_))
    go_meet
    exact ⟨rfl, rfl⟩
  case rest =>
    obtain ⟨rfl, rfl⟩ := hcut
    have hbA : Below W1.heap.size W1 (W1.alloc (.cells cc.toArray 92)) := (Below.refl _ _).alloc (Nat.le_refl _) _
    obtain ⟨Wc, hWc⟩ : ∃ Wc, Wc = W1.alloc (.cells cc.toArray 92) := ⟨_, rfl⟩
    obtain ⟨C, hC⟩ : ∃ C, C = W1.heap.size := ⟨_, rfl⟩
    have hrC : Row Wc C 92 cc.toArray := by rw [hWc, hC]; exact Row.new _ _ _
    have hr2c : Row Wc (w.heap.size + 1) 92 Z := by rw [hWc]; exact Hr2.out.alloc _
    have hric : Row Wc I 56 (r.cells.drop 5).toArray := by rw [hWc]; exact Hri.out.alloc _
    have hbc : Below w.heap.size w Wc := by rw [hWc]; exact HBw.out.alloc HBw.out.size _
    have hszc : Wc.heap.size = C + 1 := by rw [hWc, hC]; simp
    have hIC : I < C := by rw [hC, Hsz1.out]; omega
    have hwI : w.heap.size + 2 = I := HI2.out
    rw [← hWc]
    rw [← hC]
    have e15 : Wc.cell? ⟨I, 15, none⟩ = some (.slice r.A r.pts.length r.cap) := by rw [hric.cell]; rfl
    have HrC := Lib.hid hrC
    have Hr2c := Lib.hid hr2c
    have Hbc := Lib.hid hbc
    have Hszc := Lib.hid hszc
    clear a0 a1 a2 a3 a4 b0 b1 b2 b3 b4 b5 b6 b7 b8 b9 b10 b11 b12 b13 b14 b15 hbA hWc hC hrC hr2c hric hbc hszc hB0 Hr1 Hr2 Hri HBw Hsz1
    go_wp2_with fail
    go_loopw [5, 52] (fun v i wr => ∃ k : Nat, k ≤ r.pts.length ∧ i = .int .i64 k ∧ wr.ownsRow Wc.heap.size 5 1 v (ptsB (r.pts.take k)).length ((ptsB (r.pts.take k)).map byteV) ∧ Below Wc.heap.size Wc wr)
      (fun _ i _ => r.pts.length - (intOf i).toNat)
    case atStart => exact ⟨0, Nat.zero_le _, rfl, by simpa [ptsB] using World.ownsRow_nil _ _ _ _, Below.refl _ _⟩
    case round =>
      obtain ⟨k, hk, rfl, hown, hbel⟩ := hrel
      by_cases hlt : k < r.pts.length
      · obtain ⟨p, hpp⟩ : ∃ p, r.pts[k]? = some p := ⟨_, List.getElem?_eq_getElem hlt⟩
        obtain ⟨q, off, hA, hqw, c0⟩ := Hp.out k p hpp
        have d0 : wr.cell? ⟨q, off + k * 3, none⟩ = some (.int .i64 p.kind) := (hbel.cell (p := ⟨q, _, none⟩) (Nat.lt_of_lt_of_le hqw Hbc.out.size)).trans ((Hbc.out.cell (p := ⟨q, _, none⟩) hqw).trans (c0 0 _ rfl))
        have d1 : wr.cell? ⟨q, off + k * 3 + 1, none⟩ = some (.int .i64 p.serial) := (hbel.cell (p := ⟨q, _, none⟩) (Nat.lt_of_lt_of_le hqw Hbc.out.size)).trans ((Hbc.out.cell (p := ⟨q, _, none⟩) hqw).trans (c0 1 _ rfl))
        have d2 : wr.cell? ⟨q, off + k * 3 + 2, none⟩ = some (.bool p.fitted) := (hbel.cell (p := ⟨q, _, none⟩) (Nat.lt_of_lt_of_le hqw Hbc.out.size)).trans ((Hbc.out.cell (p := ⟨q, _, none⟩) hqw).trans (c0 2 _ rfl))
        have i0 : (0 : Int) ≤ (k : Int) := by omega
        have i1 : (k : Int) < (r.pts.length : Int) := by omega
        have Hpp := Lib.hid hpp
        have Hown := Lib.hid hown
        have Hbel := Lib.hid hbel
        clear hpp hown hbel c0
        rw [hA]
        go_wp2_with fail
        obtain ⟨W2, hW2⟩ : ∃ W2, W2 = (wr.alloc (Obj.cells #[Value.int IntKind.i64 p.kind, Value.int IntKind.i64 p.serial, Value.bool p.fitted] 114)).alloc (Obj.cells #[Value.int IntKind.i64 p.kind, Value.int IntKind.i64 p.serial] 3) := ⟨_, rfl⟩
        have hrX : Row W2 wr.heap.size 114 #[Value.int IntKind.i64 p.kind, Value.int IntKind.i64 p.serial, Value.bool p.fitted] := by rw [hW2]; exact (Row.new _ _ _).alloc _
        have hrY : Row W2 (wr.heap.size + 1) 3 (ints [p.kind, p.serial]) := by rw [hW2]; exact Row.new1 _ _ _ _
        have hown2 := (Hown.out.alloc (Obj.cells #[Value.int IntKind.i64 p.kind, Value.int IntKind.i64 p.serial, Value.bool p.fitted] 114)).alloc (Obj.cells #[Value.int IntKind.i64 p.kind, Value.int IntKind.i64 p.serial] 3)
        rw [← hW2] at hown2
        have hbel2 : Below Wc.heap.size Wc W2 := by rw [hW2]; exact (Hbel.out.alloc Hbel.out.size _).alloc (Nat.le_trans Hbel.out.size (by simp)) _
        obtain ⟨bs, hbs⟩ : ∃ bs, bs = ptsB (r.pts.take k) := ⟨_, rfl⟩
        rw [← hbs] at hown2
        have hbl : bs.length ≤ 17000000000 := by rw [hbs, ptsB_len]; simp; omega
        have HW2 := Lib.hid hW2
        rw [← hW2]
        have HrX := Lib.hid hrX
        have HrY := Lib.hid hrY
        have Hown2 := Lib.hid hown2
        have Hbel2 := Lib.hid hbel2
        have Hbs := Lib.hid hbs
        have Hbl := Lib.hid hbl
        obtain ⟨X, hX⟩ : ∃ X, X = wr.heap.size := ⟨_, rfl⟩
        rw [← hX] at HrX HrY ⊢
        have hXc : Wc.heap.size ≤ X := by rw [hX]; exact Hbel.out.size
        clear hrX hrY hown2 hbel2 hbs hbl hW2 hX Hown Hbel d0 d1 d2 i0 i1
        go_loopw [5, 62] (fun v i wr => ∃ m : Nat, m ≤ 2 ∧ i = .int .i64 m ∧ wr.ownsRow Wc.heap.size 5 1 v (bs ++ ([p.kind, p.serial].take m).flatMap bytes8).length ((bs ++ ([p.kind, p.serial].take m).flatMap bytes8).map byteV) ∧ Below Wc.heap.size Wc wr ∧
            Row wr X 114 #[Value.int IntKind.i64 p.kind, Value.int IntKind.i64 p.serial, Value.bool p.fitted] ∧ Row wr (X + 1) 3 (ints [p.kind, p.serial]))
          (fun _ i _ => 2 - (intOf i).toNat)
        case atStart => exact ⟨0, by omega, rfl, by simpa using Hown2.out, Hbel2.out, HrX.out, HrY.out⟩
        case round =>
          obtain ⟨m, hm, rfl, hown, hbel, hrX, hrY⟩ := hrel
          by_cases hlt2 : m < 2
          · obtain ⟨n, hnn⟩ : ∃ n, [p.kind, p.serial][m]? = some n := ⟨_, List.getElem?_eq_getElem (by simpa using hlt2)⟩
            have d0 : wr.cell? ⟨X + 1, m, none⟩ = some (.int .i64 n) := by rw [hrY.cell]; rcases (show m = 0 ∨ m = 1 by omega) with rfl | rfl <;> (simp at hnn; subst hnn; rfl)
            obtain ⟨bs2, hbs2⟩ : ∃ bs2, bs2 = bs ++ ([p.kind, p.serial].take m).flatMap bytes8 := ⟨_, rfl⟩
            have hsucc : bs ++ ([p.kind, p.serial].take (m + 1)).flatMap bytes8 = bs2 ++ bytes8 n := by
              rw [hbs2, List.take_add_one, hnn]; simp
            have hbl2 : bs2.length ≤ 17000000016 := by
              rw [hbs2, List.length_append]
              have h1 := Hbl.out
              have h2 : (([p.kind, p.serial].take m).flatMap bytes8).length ≤ 16 := by
                rcases (show m = 0 ∨ m = 1 by omega) with rfl | rfl <;> simp [bytes8_len]
              omega
            rw [← hbs2] at hown
            have Hsucc := Lib.hid hsucc
            have Hbl2 := Lib.hid hbl2
            have Hown := Lib.hid hown
            have Hbel := Lib.hid hbel
            have HrX := Lib.hid hrX
            have HrY := Lib.hid hrY
            have i0 : (0 : Int) ≤ (m : Int) := by omega
            have i1 : (m : Int) < 2 := by omega
            clear hnn hbs2 hsucc hbl2 hown hbel hrX hrY
            go_wp2_with fail
            go_loopw [5, 66] (fun v i wr => ∃ j : Nat, j ≤ 8 ∧ i = .int .i64 j ∧ wr.ownsRow Wc.heap.size 5 1 v (bs2 ++ (bytes8 n).take j).length ((bs2 ++ (bytes8 n).take j).map byteV) ∧ Below Wc.heap.size Wc wr ∧
                Row wr X 114 #[Value.int IntKind.i64 p.kind, Value.int IntKind.i64 p.serial, Value.bool p.fitted] ∧ Row wr (X + 1) 3 (ints [p.kind, p.serial]))
              (fun _ i _ => 8 - (intOf i).toNat)
            case atStart => exact ⟨0, by omega, rfl, by simpa using Hown.out, Hbel.out, HrX.out, HrY.out⟩
            case round =>
              obtain ⟨j, hj, rfl, hown, hbel, hrX, hrY⟩ := hrel
              by_cases hlt3 : j < 8
              · have Hown := Lib.hid hown
                have Hbel := Lib.hid hbel
                have HrX := Lib.hid hrX
                have HrY := Lib.hid hrY
                have i2 : (0 : Int) ≤ (j : Int) := by omega
                have i3 : (j : Int) < 8 := by omega
                clear hown hbel hrX hrY
                obtain ⟨bs3, hbs3⟩ : ∃ bs3, bs3 = bs2 ++ (bytes8 n).take j := ⟨_, rfl⟩
                have hbl3 : bs3.length ≤ 17000000024 := by
                  rw [hbs3, List.length_append]
                  have h1 := Hbl2.out
                  have h2 : ((bytes8 n).take j).length ≤ 8 := by simp; omega
                  omega
                have hsucc3 : bs2 ++ (bytes8 n).take (j + 1) = bs3 ++ [byteAt n j] := by rw [hbs3, take8 n hlt3, List.append_assoc]
                have Hown3 : Hid (wr.ownsRow Wc.heap.size 5 1 u5 bs3.length (bs3.map byteV)) := by rw [hbs3]; exact Hown.out
                have Hl1 := Lib.hid (le_maxLen (show bs3.length + 1 ≤ 140737488355328 by omega))
                have Hl2 := Lib.hid (show (bs3.length + 1) * 1 ≤ 140737488355328 by omega)
                have Hsucc3 := Lib.hid hsucc3
                obtain ⟨i5, hi5, hz5, hs5, hb5⟩ := info5
                have Hi5 := Lib.hid hi5
                have Hz5 := Lib.hid hz5
                have Hs5 := Lib.hid hs5
                have Hb5 := Lib.hid hb5
                clear hbs3 hbl3 hsucc3 Hown hi5 hz5 hs5 hb5
                go_wp2_with (first
                  | (at_builtin; refine wpList_append_own _ rfl _ _ 112 rfl Wc.heap.size 5 i5 (.int .u8 0) 1 1 Try.underlying112 Hi5.out Hz5.out Hs5.out Hb5.out rfl (by decide) u5 _ _ rfl (Hown3.out.alloc _) ⟨wr.heap.size, 0, none⟩ 1 1 [.int .u8 (n / 2 ^ (8 * j) % 256)] rfl rfl (World.news_of_block (heap_alloc_new wr _)) (by intro u hu; simp at hu; subst hu; rfl) Hl1.out Hl2.out (Nat.le_trans Hbel.out.size (Nat.le_of_lt (by simp))) ?_
                     intro v2 w5 hown5 hgrow5 hiff5)
                  | go_in)
                go_roundw
                case rel =>
                  have hX1 := ownsRow_ne Hown3.out HrX.out (by decide)
                  have hY1 := ownsRow_ne Hown3.out HrY.out (by decide)
                  refine ⟨j + 1, by omega, by go_num, ?_, (Hbel.out.alloc Hbel.out.size _).grown hgrow5 (Nat.le_trans Hbel.out.size (Nat.le_of_lt (by simp))) (fun k' hk' => (Hown3.out.lt k' hk').1), (HrX.out.alloc _).grown hgrow5 (fun e => hX1 e.symm), (HrY.out.alloc _).grown hgrow5 (fun e => hY1 e.symm)⟩
                  rw [Hsucc3.out, List.length_append, List.map_append, List.map_cons, List.map_nil, byteV_at]
                  exact hown5
                case measure => simp [intOf]; omega
              · obtain rfl : j = 8 := by omega
                have e8 : (bytes8 n).take 8 = bytes8 n := List.take_of_length_le (by simp [bytes8_len])
                rw [e8] at hown
                have Hown := Lib.hid hown
                have Hbel := Lib.hid hbel
                have HrX := Lib.hid hrX
                have HrY := Lib.hid hrY
                clear hown hbel hrX hrY e8
                go_wp2
                go_roundw
                case rel =>
                  refine ⟨m + 1, by omega, by go_num, ?_, Hbel.out, HrX.out, HrY.out⟩
                  rw [Hsucc.out]
                  exact Hown.out
                case measure => simp [intOf]; omega
          · obtain rfl : m = 2 := by omega
            obtain ⟨bs3, hbs3⟩ : ∃ bs3, bs3 = bs ++ ([p.kind, p.serial].take 2).flatMap bytes8 := ⟨_, rfl⟩
            have hbl3 : bs3.length ≤ 17000000016 := by
              rw [hbs3, List.length_append]
              have h1 := Hbl.out
              simp [bytes8_len]
              omega
            rw [← hbs3] at hown
            have Hown3 := Lib.hid hown
            have Hbel := Lib.hid hbel
            have Hbs3 := Lib.hid hbs3
            have d2 : wr.cell? ⟨X, 2, none⟩ = some (.bool p.fitted) := by rw [hrX.cell]; rfl
            have Hl1 := Lib.hid (le_maxLen (show bs3.length + 1 ≤ 140737488355328 by omega))
            have Hl2 := Lib.hid (show (bs3.length + 1) * 1 ≤ 140737488355328 by omega)
            obtain ⟨i5, hi5, hz5, hs5, hb5⟩ := info5
            have Hi5 := Lib.hid hi5
            have Hz5 := Lib.hid hz5
            have Hs5 := Lib.hid hs5
            have Hb5 := Lib.hid hb5
            clear hi5 hz5 hs5 hb5 hown hbel hrX hrY hbs3 hbl3
            cases hf : p.fitted
            · have Hf := Lib.hid hf
              rw [hf] at d2
              clear hf
              go_wp2_with (first
                | (at_builtin; refine wpList_append_own _ rfl _ _ 112 rfl Wc.heap.size 5 i5 (.int .u8 0) 1 1 Try.underlying112 Hi5.out Hz5.out Hs5.out Hb5.out rfl (by decide) u5 _ _ rfl (Hown3.out.alloc _) ⟨wr.heap.size, 0, none⟩ 1 1 [.int .u8 0] rfl rfl (World.news_of_block (heap_alloc_new wr _)) (by intro u hu; simp at hu; subst hu; rfl) Hl1.out Hl2.out (Nat.le_trans Hbel.out.size (Nat.le_of_lt (by simp))) ?_
                   intro v2 w5 hown5 hgrow5 hiff5)
                | go_in)
              go_roundw
              case rel =>
                refine ⟨k + 1, by omega, by go_num, ?_, (Hbel.out.alloc Hbel.out.size _).grown hgrow5 (Nat.le_trans Hbel.out.size (Nat.le_of_lt (by simp))) (fun k' hk' => (Hown3.out.lt k' hk').1)⟩
                have e : ptsB (r.pts.take (k + 1)) = bs3 ++ [0] := by
                  rw [List.take_add_one, Hpp.out, Option.toList_some, ptsB_snoc, ← Hbs.out, Hbs3.out, Pt.bytes, Hf.out]
                  simp
                rw [e, List.length_append, List.map_append]
                exact hown5
              case measure => simp [intOf]; omega
            · have Hf := Lib.hid hf
              rw [hf] at d2
              clear hf
              go_wp2_with (first
                | (at_builtin; refine wpList_append_own _ rfl _ _ 112 rfl Wc.heap.size 5 i5 (.int .u8 0) 1 1 Try.underlying112 Hi5.out Hz5.out Hs5.out Hb5.out rfl (by decide) u5 _ _ rfl (Hown3.out.alloc _) ⟨wr.heap.size, 0, none⟩ 1 1 [.int .u8 1] rfl rfl (World.news_of_block (heap_alloc_new wr _)) (by intro u hu; simp at hu; subst hu; rfl) Hl1.out Hl2.out (Nat.le_trans Hbel.out.size (Nat.le_of_lt (by simp))) ?_
                   intro v2 w5 hown5 hgrow5 hiff5)
                | go_in)
              go_roundw
              case rel =>
                refine ⟨k + 1, by omega, by go_num, ?_, (Hbel.out.alloc Hbel.out.size _).grown hgrow5 (Nat.le_trans Hbel.out.size (Nat.le_of_lt (by simp))) (fun k' hk' => (Hown3.out.lt k' hk').1)⟩
                have e : ptsB (r.pts.take (k + 1)) = bs3 ++ [1] := by
                  rw [List.take_add_one, Hpp.out, Option.toList_some, ptsB_snoc, ← Hbs.out, Hbs3.out, Pt.bytes, Hf.out]
                  simp
                rw [e, List.length_append, List.map_append]
                exact hown5
              case measure => simp [intOf]; omega
      · obtain rfl : k = r.pts.length := by omega
        rw [List.take_length] at hown
        have hconv := conv_own hown
        have hrC := HrC.out.below hbel HrC.out.lt
        have hr2 := Hr2c.out.below hbel Hr2c.out.lt
        obtain ⟨S, hS⟩ : ∃ S : ByteArray, S = ⟨(ptsB r.pts).toArray⟩ := ⟨_, rfl⟩
        rw [← hS] at hconv
        have HS := Lib.hid hS
        have c20 : wr.cell? ⟨C, 20, none⟩ = some (.string { data := #[] }) := by rw [hrC.cell, Hcc.out]; rfl
        have f20 : wr.frozen? ⟨C, 20, none⟩ = false := hrC.frozen 20
        obtain ⟨c2, hc2⟩ : ∃ c2, c2 = cc.set 20 (.string S) := ⟨_, rfl⟩
        have hc2l : c2.length = cc.length := by rw [hc2]; simp
        have hc2s : (Try.prog.info? 92).map (·.size) = some c2.length := by rw [hc2l]; exact Hcl.out
        have hc21 : ∀ v ∈ c2, v.oneCell' = true := by
          intro v hv
          rw [hc2] at hv
          rcases List.mem_or_eq_of_mem_set hv with h | rfl
          · exact Hc1.out v h
          · rfl
        have hrC2 : Row (wr.setCell ⟨C, 20, none⟩ (.string S)) C 92 c2.toArray := by
          have := hrC.set 20 (.string S)
          rw [hc2]
          simpa using this
        have hrg2 : (wr.setCell ⟨C, 20, none⟩ (.string S)).rangeAt C 0 c2 := fun j v hv => by rw [Nat.zero_add, hrC2.cell]; simpa using hv
        have hne : w.heap.size + 1 ≠ C := by omega
        have hr22 : Row (wr.setCell ⟨C, 20, none⟩ (.string S)) (w.heap.size + 1) 92 Z := hr2.far hne _
        have h21 : cc.length = 21 := by rw [Hcc.out]; rfl
        have hth : (wr.setCell ⟨C, 20, none⟩ (.string S)).there (w.heap.size + 1) 0 c2.toArray.size := fun j hj => by
          have hj' : j < 21 := by simpa [hc2l, h21] using hj
          refine ⟨?_, hr22.frozen _⟩
          rw [Nat.zero_add, hr22.cell, Array.getElem?_eq_getElem (by omega)]
          rfl
        have hsz2 : (Try.prog.info? 92).map (·.size) = some c2.toArray.size := by simpa using hc2s
        have hbel2 : Below w.heap.size w (wr.setCell ⟨C, 20, none⟩ (.string S)) := (Hbc.out.trans (hbel.mono Hbc.out.size)).setCell (p := ⟨C, 20, none⟩) (by show w.heap.size ≤ C; omega) _
        have Hc21 := Lib.hid hc21
        have Hc2s := Lib.hid hc2s
        have Hrg2 := Lib.hid hrg2
        have Hr22 := Lib.hid hr22
        have Hth := Lib.hid hth
        have Hsz2 := Lib.hid hsz2
        have Hbel2 := Lib.hid hbel2
        have Hc2 := Lib.hid hc2
        have Hc2l := Lib.hid hc2l
        have H21 := Lib.hid h21
        clear hS hown hbel hrC hr2 hc2 hc2l hc2s hc21 hrC2 hrg2 hr22 hth hsz2 hbel2 h21
        go_wp2_with (first
          | (show wpList _ _ _ (⟨some 89, Op.load 92 _, _, _, _, _⟩ :: _) _ _; refine wpList_load_mid rfl 92 _ rfl _ _ rfl _ _ Hrg2.out Try.underlying92 rfl Hc2s.out ?_)
          | (show wpList _ _ _ (⟨none, Op.store 92 _ _, _, _, _, _⟩ :: _) _ _; refine wpList_store_mid rfl 92 _ _ rfl _ _ c2.toArray rfl rfl Hth.out Hsz2.out (all_oneCell_toArray Hc21.out) ?_))
        have hfin : Row ((wr.setCell ⟨C, 20, none⟩ (.string S)).setCells (w.heap.size + 1) 0 c2) (w.heap.size + 1) 92 c2.toArray := by
          have := row_setCells c2 [] Z.toList _ (by simpa using Hr22.out) (by rw [Hc2l.out, H21.out, Array.length_toList, hZs])
          simpa using this
        have hkey : encC r.key = .agg c2.toArray := by
          rw [Hc2.out, Hcc.out, HS.out]
          rfl
        refine bodyPost_ret (results_cell_row rfl _ _ (w.heap.size + 1) 92 c2.toArray (0, 0) _ rfl hfin Try.underlying92 rfl Hsz2.out) rfl ⟨by rw [hkey], ?_⟩
        exact below_setCells (by omega) c2 0 _ Hbel2.out

end Go.Proofs.Ytoiipfcmkogcfaa
