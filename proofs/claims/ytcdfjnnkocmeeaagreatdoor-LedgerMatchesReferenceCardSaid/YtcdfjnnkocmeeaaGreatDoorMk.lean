/-
  merkle.Root of no leaves: the pad.
  Conditions: as each theorem states them.
-/
import Derived.Test.YtcdfjnnkocmeeaaGreatDoorTg
import Derived.Test.YtcdfjnnkocmeeaaGreatDoorBd
namespace Go.Proofs.YtcdfjnnkocmeeaaGreatDoor
open Go.RowKit Go.Lib

theorem row_far {g b : Nat} {t : TypeId} {cs : Array Value} : ∀ (vs : List Value) (o : Nat) {w : World}, Row w g t cs → g ≠ b → Row (w.setCells b o vs) g t cs
  | [], _, _, h, _ => h
  | v :: r, o, _, h, hg => row_far r (o + 1) (h.far (p := ⟨b, o, none⟩) hg v) hg
theorem KT.below' {w w' : World} {B : Nat} (h : KT w) (hb : Below B w w') (hB : 1 < B) : KT w' :=
  ⟨Nat.lt_of_lt_of_le h.1 hb.size, fun i hi => (hb.cell (p := ⟨1, i, none⟩) hB).trans (h.2 i hi)⟩
theorem row_range {w : World} {g : Nat} {t : TypeId} {cs : List Value} (h : Row w g t cs.toArray) : w.rangeAt g 0 cs := by
  intro j v hv
  rw [Nat.zero_add, h.cell, List.getElem?_toArray]
  exact hv
theorem results_row_tmp {fn : Func} {p q : Tmp} {ty : TypeId} (h : fn.results = #[.cell p ty, .tmp q]) (tmps : Array Value) (w : World) (g : Nat) (t : TypeId) (cs : List Value) (d : TypeDesc)
    (hp : tmps.getD p undef = .pointer (some ⟨g, 0, none⟩)) (hg : Row w g t cs.toArray) (hu : Tryz.prog.underlying ty = some d) (hd : d.isRow = true) (hi : (Tryz.prog.info? ty).map (·.size) = some cs.length) :
    (results fn tmps).run Tryz.prog w = .ok (.tuple #[.agg cs.toArray, tmps.getD q undef]) w := by
  have hp' : tmps[p]?.getD undef = .pointer (some ⟨g, 0, none⟩) := by simpa using hp
  simp [results, h, hp', asAddr, run_loadVar_mid w g 0 ty cs d (row_range hg) hu hd hi]
def padD : List Int := shaF [3, 112, 97, 100]
theorem padD_len : padD.length = 32 := shaF_len _

theorem info40 : ∃ i z, Tryz.prog.info? 40 = some i ∧ i.zero = some z ∧ i.size = 32 ∧ i.bytes = 32 ∧ z.cells.size = 32 := by
  have h : ((Tryz.prog.info? 40).any fun i => i.size == 32 && i.bytes == 32 && (i.zero.any fun z => z.cells.size == 32)) = true := by kernel_rfl
  cases hi : Tryz.prog.info? 40 with
  | none => rw [hi] at h; cases h
  | some i =>
    rw [hi] at h
    simp only [Option.any_some, Bool.and_eq_true, beq_iff_eq] at h
    cases hz : i.zero with
    | none => rw [hz] at h; simp at h
    | some z =>
      rw [hz] at h
      exact ⟨i, z, rfl, hz, h.1.1, h.1.2, by simpa using h.2⟩
theorem make77 (w : World) : (Instr.makeSlice 77 (.int .i64 0) (.int .i64 0)).run Tryz.prog w = .ok (.slice (some ⟨w.heap.size, 0, none⟩) 0 0) (w.alloc (.cells #[] 40)) := by
  obtain ⟨i, z, hi, hz, hs, hb, hc⟩ := info40
  have h := run_makeSlice w 77 40 i z Tryz.underlying77 hi hz .i64 .i64 0 0 (by omega) (by omega) (by rw [hs]; decide) (by rw [hb]; omega) (by omega)
  rw [h]
  have e : madeCells z.cells ((0 : Int).toNat * i.size) = #[] := by simp [madeCells]
  rw [e]
  rfl

set_option maxRecDepth 100000 in
theorem at_any (p : List Int) (k : Int) (w : World) (hp : p.length = 32) (hk : 0 ≤ k) : Calls Tryz.prog 81 #[.slice none 0 0, .int .i64 k, .agg (y8 p).toArray] w fun e w' => e = .returned (.agg (y8 p).toArray) ∧ Below w.heap.size w w' := by
  have hrg : ∀ z : Array Value, ((w.alloc (.cells (y8 p).toArray 40)).alloc (.cells z 40)).rangeAt w.heap.size 0 (y8 p) := by
    intro z j v hv
    rw [Nat.zero_add, ((Row.new w 40 (y8 p).toArray).alloc _).cell, List.getElem?_toArray]
    exact hv
  have hr : Row ((w.alloc (.cells (y8 p).toArray 40)).alloc (.cells (y8 (List.replicate 32 0)).toArray 40)) (w.heap.size + 1) 40 (y8 (List.replicate 32 0)).toArray := Row.new1 w _ 40 _
  have Hth := Lib.hid (row_there hr (n := (y8 p).toArray.size) (by rw [List.size_toArray, y8_len, hp]; simp [y8]))
  have Hsz := Lib.hid (size40 hp)
  have Hrg := Lib.hid hrg
  have Hr := Lib.hid hr
  have Hp := Lib.hid hp
  have Hb := Lib.hid (((Below.refl w.heap.size w).alloc (Nat.le_refl _) (.cells (y8 p).toArray 40)).alloc (by simp) (.cells (y8 (List.replicate 32 0)).toArray 40))
  clear hr hrg hp
  go_enter Tryz.func81, Tryz.ntmps81
  go_wp2_with (first
    | (show wpList _ _ _ (⟨some 15, Op.load 40 _, _, _, _, _⟩ :: _) _ _; refine wpList_load_mid rfl 40 _ rfl w.heap.size 0 rfl (y8 p) _ (Hrg.out _) Tryz.underlying40 rfl (by simpa using Hsz.out) ?_)
    | (show wpList _ _ _ (⟨none, Op.store 40 _ _, _, _, _, _⟩ :: _) _ _; refine wpList_store_mid rfl 40 _ _ rfl (w.heap.size + 1) 0 (y8 p).toArray rfl rfl Hth.out Hsz.out (all_oneCell_toArray (y8_one _)) ?_))
  have hfin := row_put Hr.out (vs := y8 p) (by rw [y8_len, Hp.out]; simp [y8])
  exact bodyPost_ret (results_cell_row rfl _ _ (w.heap.size + 1) 40 (y8 p).toArray (0, 0) _ rfl hfin Tryz.underlying40 rfl Hsz.out) rfl ⟨rfl, below_cells _ _ Hb.out (Nat.le_succ _)⟩

set_option maxRecDepth 100000 in
theorem node1_any (p q : List Int) (b4 b5 b6 : Nat) (w : World) (hp : p.length = 32) (hq : q.length = 32) (h4 : w.cell? ⟨b4, 0, none⟩ = some (.int .i64 0)) (h5 : w.cell? ⟨b5, 0, none⟩ = some (.int .i64 0)) (h6 : Row w b6 40 (y8 q).toArray) (l4 : b4 < w.heap.size) (l5 : b5 < w.heap.size) :
    Calls Tryz.prog 80 #[.int .i64 0, .slice none 0 0, .agg (y8 p).toArray, .pointer (some ⟨b4, 0, none⟩), .pointer (some ⟨b5, 0, none⟩), .pointer (some ⟨b6, 0, none⟩)] w fun e w' => e = .returned (.tuple #[]) ∧ Row w' b6 40 (y8 p).toArray ∧ Below b6 w w' ∧ ∀ g t cs, g ≠ b6 → Row w g t cs → Row w' g t cs := by
  have hl6 := h6.lt
  have hrg : (w.alloc (.cells (y8 p).toArray 40)).rangeAt w.heap.size 0 (y8 p) := by
    intro j v hv
    rw [Nat.zero_add, (Row.new w 40 (y8 p).toArray).cell, List.getElem?_toArray]
    exact hv
  have h4a : (w.alloc (.cells (y8 p).toArray 40)).cell? ⟨b4, 0, none⟩ = some (.int .i64 0) := (World.cell?_of_block (w := w) (Below.heap_alloc w _ b4 l4)).trans h4
  have h5a : (w.alloc (.cells (y8 p).toArray 40)).cell? ⟨b5, 0, none⟩ = some (.int .i64 0) := (World.cell?_of_block (w := w) (Below.heap_alloc w _ b5 l5)).trans h5
  have h6a : Row (w.alloc (.cells (y8 p).toArray 40)) b6 40 (y8 q).toArray := h6.alloc _
  have hba : Below b6 w (w.alloc (.cells (y8 p).toArray 40)) := (Below.refl _ _).alloc (Nat.le_of_lt hl6) _
  have Hsz := Lib.hid (size40 hp)
  have Hrg := Lib.hid hrg
  have H6 := Lib.hid h6a
  have Hb := Lib.hid hba
  have Hp := Lib.hid hp
  have Hq := Lib.hid hq
  clear h6 hrg h6a hba hp hq h4 h5
  go_enter Tryz.func80, Tryz.ntmps80
  go_wp2_with (first
    | (show wpList _ _ _ (⟨some 14, Op.load 40 _, _, _, _, _⟩ :: _) _ _; refine wpList_load_mid rfl 40 _ rfl w.heap.size 0 rfl (y8 p) _ Hrg.out Tryz.underlying40 rfl (by simpa using Hsz.out) ?_))
  refine (at_any p 0 _ Hp.out (by decide)).mono ?_
  rintro e w2 ⟨rfl, hb2⟩
  have h62 : Row w2 b6 40 (y8 q).toArray := H6.out.below hb2 H6.out.lt
  have Hth := Lib.hid (row_there h62 (n := (y8 p).toArray.size) (by rw [List.size_toArray, y8_len, y8_len, Hp.out, Hq.out]; decide))
  have H62 := Lib.hid h62
  have Hb2 := Lib.hid (below_on Hb.out hb2 (by simp; omega))
  have Hkeep : Hid (∀ g t cs, Row w g t cs → Row w2 g t cs) := Lib.hid (fun g t cs h => (h.alloc _).below hb2 (h.alloc _).lt)
  clear h62 hb2 h4a h5a
  go_wp2_with (show wpList _ _ _ (⟨none, Op.store 40 _ _, _, _, _, _⟩ :: _) _ _; refine wpList_store_mid rfl 40 _ _ rfl b6 0 (y8 p).toArray rfl rfl Hth.out Hsz.out (all_oneCell_toArray (y8_one _)) ?_)
  go_end0
  exact ⟨rfl, row_put H62.out (by rw [y8_len, y8_len, Hp.out, Hq.out]), below_cells _ _ Hb2.out (Nat.le_refl _), fun g t cs hg h => row_far _ _ (Hkeep.out g t cs h) hg⟩

set_option maxRecDepth 100000 in
theorem levels_nil (q : List Int) (b4 b5 b6 : Nat) (w : World) (hq : q.length = 32) (h4 : w.cell? ⟨b4, 0, none⟩ = some (.int .i64 0)) (h5 : w.cell? ⟨b5, 0, none⟩ = some (.int .i64 0)) (h6 : Row w b6 40 (y8 q).toArray) (l4 : b4 < b6) (l5 : b5 < b6) (hk : KT w) (hk6 : 1 < b6) :
    Calls Tryz.prog 79 #[.slice none 0 0, .int .i64 0, .func (.func 80) #[] #[.pointer (some ⟨b4, 0, none⟩), .pointer (some ⟨b5, 0, none⟩), .pointer (some ⟨b6, 0, none⟩)]] w fun e w' => e = .returned (.tuple #[]) ∧ Row w' b6 40 (y8 padD).toArray ∧ Below b6 w w' := by
  have Hk := Lib.hid hk
  have H4 := Lib.hid h4
  have H5 := Lib.hid h5
  have H6 := Lib.hid h6
  have Hq := Lib.hid hq
  clear hk h4 h5 h6 hq
  go_enter Tryz.func79, Tryz.ntmps79
  go_wp2_with fail
  refine (pad_any w Hk.out).mono ?_
  rintro e w2 ⟨rfl, hb2⟩
  rw [show shaF [3, 112, 97, 100] = padD from rfl]
  have h6w : Row w2 b6 40 (y8 q).toArray := H6.out.below hb2 H6.out.lt
  have hb6 : Below b6 w w2 := hb2.mono (Nat.le_of_lt H6.out.lt)
  have H6w := Lib.hid h6w
  have Hb6 := Lib.hid hb6
  have hpr : Row (w2.alloc (.cells (y8 (List.replicate 32 0)).toArray 40)) w2.heap.size 40 (y8 (List.replicate 32 0)).toArray := Row.new _ _ _
  have Hth := Lib.hid (row_there hpr (n := (y8 padD).toArray.size) (by rw [List.size_toArray, y8_len, y8_len, padD_len]; simp))
  have Hsz := Lib.hid (size40 padD_len)
  have Hpr := Lib.hid (row_put hpr (vs := y8 padD) (by rw [y8_len, y8_len, padD_len]; simp))
  clear hb2 h6w hb6 hpr
  go_wp2_with (show wpList _ _ _ (⟨none, Op.store 40 _ _, _, _, _, _⟩ :: _) _ _; refine wpList_store_mid rfl 40 _ _ rfl w2.heap.size 0 (y8 padD).toArray rfl rfl Hth.out Hsz.out (all_oneCell_toArray (y8_one _)) ?_)
  obtain ⟨pb, hpb⟩ : ∃ pb, pb = w2.heap.size := ⟨_, rfl⟩
  have g1 := Hpr.out
  have g2 : ∀ z : Array Value, Row ((w2.alloc (.cells z 40)).setCells w2.heap.size 0 (y8 padD)) b6 40 (y8 q).toArray := fun z => (H6w.out.alloc _).below (below_cells _ _ (Below.refl w2.heap.size _) (Nat.le_refl _)) H6w.out.lt
  have g3 : ∀ z : Array Value, Below b6 w ((w2.alloc (.cells z 40)).setCells w2.heap.size 0 (y8 padD)) := fun z => below_cells _ _ (Hb6.out.alloc (Nat.le_of_lt H6w.out.lt) _) (Nat.le_of_lt H6w.out.lt)
  have g4 : b6 < pb := by rw [hpb]; exact H6w.out.lt
  rw [← hpb] at g1 g2 g3 ⊢
  refine (?_ : ∀ w1 : World, Row w1 pb 40 (y8 padD).toArray ∧ Row w1 b6 40 (y8 q).toArray ∧ Below b6 w w1 → Code.wp _ _ _ _ w1) _ ⟨g1, g2 _, g3 _⟩
  clear g1 g2 g3 Hpr H6w Hb6 Hth hpb
  rintro w3 ⟨r1, r2, b1⟩
  have R1 := Lib.hid r1
  have R2 := Lib.hid r2
  have B1 := Lib.hid b1
  clear r1 r2 b1
  go_loopw [6, 15] (fun row i wr => (i = .int .i64 0 ∧ row = .slice none 0 0 ∧ Row wr pb 40 (y8 padD).toArray ∧ Row wr b6 40 (y8 q).toArray ∧ Below b6 w wr) ∨ (i = .int .i64 1 ∧ Row wr b6 40 (y8 padD).toArray ∧ Below b6 w wr))
    (fun _ i _ => 1 - (intOf i).toNat)
  case atStart => exact Or.inl ⟨rfl, rfl, R1.out, R2.out, B1.out⟩
  case round =>
    rcases hrel with ⟨rfl, rfl, r1, r2, b1⟩ | ⟨rfl, r2, b1⟩
    · have hrg : wr.rangeAt pb 0 (y8 padD) := by
        intro j v hv
        rw [Nat.zero_add, r1.cell, List.getElem?_toArray]
        exact hv
      have Hrg := Lib.hid hrg
      have R1 := Lib.hid r1
      have R2 := Lib.hid r2
      have B1 := Lib.hid b1
      clear r1 r2 b1 hrg
      go_wp2_with (show wpList _ _ _ (⟨some 21, Op.load 40 _, _, _, _, _⟩ :: _) _ _; refine wpList_load_mid rfl 40 _ rfl pb 0 rfl (y8 padD) _ Hrg.out Tryz.underlying40 rfl (by simpa using Hsz.out) ?_)
      refine (node1_any padD q b4 b5 b6 wr padD_len Hq.out ((B1.out.cell (p := ⟨b4, 0, none⟩) l4).trans H4.out) ((B1.out.cell (p := ⟨b5, 0, none⟩) l5).trans H5.out) R2.out (Nat.lt_trans l4 R2.out.lt) (Nat.lt_trans l5 R2.out.lt)).mono ?_
      rintro e w5 ⟨rfl, r6, hb5, hkeep⟩
      have r5 : Row w5 pb 40 (y8 padD).toArray := hkeep pb 40 _ (by omega) R1.out
      have b5w : Below b6 w w5 := B1.out.trans hb5
      have R5 := Lib.hid r5
      have R6 := Lib.hid r6
      have B5 := Lib.hid b5w
      clear r5 r6 b5w hb5 hkeep R1 R2 B1 Hrg
      have hmk := fun w : World => make77 w
      go_wp2_with fail
      clear hmk
      obtain ⟨nx, hnx⟩ : ∃ nx : Value, nx = .slice (some ⟨w5.heap.size, 0, none⟩) 0 0 := ⟨_, rfl⟩
      have r5 : Row (w5.alloc (.cells #[] 40)) pb 40 (y8 padD).toArray := R5.out.alloc _
      have r6 : Row (w5.alloc (.cells #[] 40)) b6 40 (y8 padD).toArray := R6.out.alloc _
      have b7 : Below b6 w (w5.alloc (.cells #[] 40)) := B5.out.alloc (Nat.le_of_lt R6.out.lt) _
      rw [← hnx]
      refine (?_ : ∀ w1 : World, Row w1 pb 40 (y8 padD).toArray ∧ Row w1 b6 40 (y8 padD).toArray ∧ Below b6 w w1 → Code.wp _ _ _ _ w1) _ ⟨r5, r6, b7⟩
      clear r5 r6 b7 R5 R6 B5 hnx
      rintro w6 ⟨r5, r6, b7⟩
      have R5 := Lib.hid r5
      have R6 := Lib.hid r6
      have B7 := Lib.hid b7
      clear r5 r6 b7
      go_loopw [9, 10] (fun _ i wr => i = .int .i64 0 ∧ wr = w6) (fun _ _ _ => 0)
      case atStart => exact ⟨rfl, rfl⟩
      case round =>
        obtain ⟨rfl, rfl⟩ := hrel
        have hrg : wr.rangeAt pb 0 (y8 padD) := by
          intro j v hv
          rw [Nat.zero_add, R5.out.cell, List.getElem?_toArray]
          exact hv
        have Hrg := Lib.hid hrg
        clear hrg
        go_wp2_with (first
          | (show wpList _ _ _ (⟨some 48, Op.load 40 _, _, _, _, _⟩ :: _) _ _; refine wpList_load_mid rfl 40 _ rfl pb 0 rfl (y8 padD) _ Hrg.out Tryz.underlying40 rfl (by simpa using Hsz.out) ?_)
          | (show wpList _ _ _ (⟨some 49, Op.load 40 _, _, _, _, _⟩ :: _) _ _; refine wpList_load_mid rfl 40 _ rfl pb 0 rfl (y8 padD) _ Hrg.out Tryz.underlying40 rfl (by simpa using Hsz.out) ?_))
        refine (parent_any padD padD wr padD_len padD_len (Hk.out.below' B7.out hk6)).mono ?_
        rintro e w8 ⟨rfl, hb8⟩
        obtain ⟨D, hD⟩ : ∃ D, D = shaF (4 :: [110, 111, 100, 101] ++ (padD ++ padD)) := ⟨_, rfl⟩
        have hDl : D.length = 32 := by rw [hD, shaF_len]
        rw [← hD]
        have r5 : Row w8 pb 40 (y8 padD).toArray := R5.out.below hb8 R5.out.lt
        have r6 : Row w8 b6 40 (y8 padD).toArray := R6.out.below hb8 R6.out.lt
        have b8 : Below b6 w w8 := below_on B7.out hb8 (Nat.le_of_lt R6.out.lt)
        have Hth := Lib.hid (row_there r5 (n := (y8 D).toArray.size) (by rw [List.size_toArray, y8_len, y8_len, hDl, padD_len]; exact Nat.le_refl _))
        have HszD := Lib.hid (size40 hDl)
        have R6' := Lib.hid r6
        have B8 := Lib.hid b8
        clear r5 r6 b8 hb8 hD hDl
        go_wp2_with (show wpList _ _ _ (⟨none, Op.store 40 _ _, _, _, _, _⟩ :: _) _ _; refine wpList_store_mid rfl 40 _ _ rfl pb 0 (y8 D).toArray rfl rfl Hth.out HszD.out (all_oneCell_toArray (y8_one _)) ?_)
        go_roundw
        case rel => exact Or.inr ⟨rfl, row_far _ _ R6'.out (by omega), below_cells _ _ B8.out (Nat.le_of_lt g4)⟩
        case measure => simp [intOf]
    · go_wp2
      go_end0
      exact ⟨rfl, r2, b1⟩

set_option maxRecDepth 100000 in
theorem node_nil (w : World) (hk : KT w) : Calls Tryz.prog 57 #[.slice none 0 0, .int .i64 0, .int .i64 0] w fun e w' => e = .returned (.tuple #[.agg (y8 padD).toArray, .bool true]) ∧ Below w.heap.size w w' := by
  have Hk := Lib.hid hk
  clear hk
  go_enter Tryz.func57, Tryz.ntmps57
  go_wp2
  go_quiet (fail)
  go_wp2_with fail
  have g0 : ∀ z : Array Value, Row ((((w.alloc (.cells #[.int .i64 0] 3)).alloc (.cells #[.int .i64 0] 3)).alloc (.cells z 40)).drewN nq) w.heap.size 3 #[.int .i64 0] := fun z => (((Row.new w 3 #[.int .i64 0]).alloc _).alloc _).drewN nq
  have g1 : ∀ z : Array Value, Row ((((w.alloc (.cells #[.int .i64 0] 3)).alloc (.cells #[.int .i64 0] 3)).alloc (.cells z 40)).drewN nq) (w.heap.size + 1) 3 #[.int .i64 0] := fun z => ((Row.new1 w _ 3 #[.int .i64 0]).alloc _).drewN nq
  have g2 : Row ((((w.alloc (.cells #[.int .i64 0] 3)).alloc (.cells #[.int .i64 0] 3)).alloc (.cells (y8 (List.replicate 32 0)).toArray 40)).drewN nq) (w.heap.size + 1 + 1) 40 (y8 (List.replicate 32 0)).toArray := by
    have h := Row.new1 (w.alloc (.cells #[.int .i64 0] 3)) (.cells #[.int .i64 0] 3) 40 (y8 (List.replicate 32 0)).toArray
    rw [show (w.alloc (.cells #[.int .i64 0] 3)).heap.size = w.heap.size + 1 from by simp] at h
    exact h.drewN nq
  have g3 : Below w.heap.size w ((((w.alloc (.cells #[.int .i64 0] 3)).alloc (.cells #[.int .i64 0] 3)).alloc (.cells (y8 (List.replicate 32 0)).toArray 40)).drewN nq) := Below.drewsN ((((Below.refl _ _).alloc (Nat.le_refl _) _).alloc (by simp) _).alloc (by simp; omega) _) nq
  refine (?_ : ∀ w1 : World, Row w1 w.heap.size 3 #[.int .i64 0] ∧ Row w1 (w.heap.size + 1) 3 #[.int .i64 0] ∧ Row w1 (w.heap.size + 1 + 1) 40 (y8 (List.replicate 32 0)).toArray ∧ Below w.heap.size w w1 → Calls _ _ _ w1 _) _ ⟨g0 _, g1 _, g2, g3⟩
  clear g0 g1 g2 g3
  rintro w1 ⟨r0, r1, r2, b1⟩
  refine (levels_nil (List.replicate 32 0) w.heap.size (w.heap.size + 1) (w.heap.size + 1 + 1) w1 (by simp) (r0.cell 0) (r1.cell 0) r2 (by omega) (by omega) (Hk.out.below b1 (Nat.le_refl _)) (by have := Hk.out.1; omega)).mono ?_
  rintro e w2 ⟨rfl, r3, b2⟩
  have hb : Below w.heap.size w w2 := below_on b1 b2 (by omega)
  have hrg : w2.rangeAt (w.heap.size + 1 + 1) 0 (y8 padD) := by
    intro j v hv
    rw [Nat.zero_add, r3.cell, List.getElem?_toArray]
    exact hv
  have Hrg := Lib.hid hrg
  have Hth := Lib.hid (row_there r3 (n := (y8 padD).toArray.size) (by simp))
  have Hsz := Lib.hid (size40 padD_len)
  have Hr := Lib.hid (row_put r3 (vs := y8 padD) rfl)
  have Hb := Lib.hid hb
  clear hrg r0 r1 r2 r3 b1 b2 hb
  go_wp2_with (first
    | (show wpList _ _ _ (⟨some 35, Op.load 40 _, _, _, _, _⟩ :: _) _ _; refine wpList_load_mid rfl 40 _ rfl (w.heap.size + 1 + 1) 0 rfl (y8 padD) _ Hrg.out Tryz.underlying40 rfl (by simpa using Hsz.out) ?_)
    | (show wpList _ _ _ (⟨none, Op.store 40 _ _, _, _, _, _⟩ :: _) _ _; refine wpList_store_mid rfl 40 _ _ rfl (w.heap.size + 1 + 1) 0 (y8 padD).toArray rfl rfl Hth.out Hsz.out (all_oneCell_toArray (y8_one _)) ?_))
  exact bodyPost_ret (results_row_tmp rfl _ _ (w.heap.size + 1 + 1) 40 (y8 padD) _ rfl Hr.out Tryz.underlying40 rfl (by simpa using Hsz.out)) rfl ⟨rfl, below_cells _ _ Hb.out (by omega)⟩

set_option maxRecDepth 100000 in
theorem depth0 (w : World) : Calls Tryz.prog 58 #[.int .i64 0] w fun e w' => e = .returned (.int .i64 0) ∧ w' = w := by
  go_enter Tryz.func58, Tryz.ntmps58
  go_wp2_with go_in
  go_ret
  exact ⟨by kernel_rfl, rfl⟩

/-- The commitment to no leaves. -/
def rootOf (l : List Int) : List Value := .int .i64 0 :: y8 l
theorem rootOf_one (l : List Int) : (rootOf l).toArray.all (·.oneCell') = true := all_oneCell_toArray (fun v hv => by
  rcases List.mem_cons.1 hv with rfl | h
  · rfl
  · exact y8_one _ v h)
theorem rootOf_len {l : List Int} (h : l.length = 32) : (rootOf l).length = 33 := by simp [rootOf, y8_len, h]
theorem build42 (n : Int) : ∀ (l : List Int) (w : World), l.length = 32 → (Instr.build 42 #[(0, .int .i64 n), (1, .agg (y8 l).toArray)]).run Tryz.prog w = .ok (.agg (.int .i64 n :: y8 l).toArray) w
  | [a0, a1, a2, a3, a4, a5, a6, a7, a8, a9, a10, a11, a12, a13, a14, a15, a16, a17, a18, a19, a20, a21, a22, a23, a24, a25, a26, a27, a28, a29, a30, a31], w, _ => by kernel_rfl
def rootL : List Value := rootOf padD
theorem rootL_eq {l : List Int} (h : padD = l) : rootL = rootOf l := by rw [rootL, h]
set_option maxRecDepth 100000 in
set_option maxHeartbeats 400000 in
theorem root_nil (w : World) (hk : KT w) : Calls Tryz.prog 45 #[.slice none 0 0] w fun e w' => e = .returned (.tuple #[.agg rootL.toArray, .int .i64 0]) ∧ Below w.heap.size w w' := by
  have Hk := Lib.hid hk
  clear hk
  go_enter Tryz.func45, Tryz.ntmps45
  go_wp2_with fail
  refine (depth0 _).mono ?_
  rintro e w1 ⟨rfl, rfl⟩
  go_wp2_with fail
  refine (?_ : ∀ w1 : World, (∃ z : Array Value, Row w1 w.heap.size 42 z ∧ z.size = 33) ∧ Below w.heap.size w w1 → Calls _ _ _ w1 _) _ ⟨⟨_, Row.new _ _ _, rfl⟩, (Below.refl _ _).alloc (Nat.le_refl _) _⟩
  rintro w1 ⟨⟨z1, r1, hz1⟩, b1⟩
  obtain ⟨z0, rfl⟩ : ∃ z0 : List Value, z1 = z0.toArray := ⟨z1.toList, by simp⟩
  have hz0 : z0.length = 33 := by simpa using hz1
  have r0 := r1
  clear r1 hz1
  refine (node_nil w1 (Hk.out.below b1 (Nat.le_refl _))).mono ?_
  obtain ⟨pd, hpd, hpl⟩ : ∃ pd, padD = pd ∧ pd.length = 32 := ⟨_, rfl, padD_len⟩
  rw [hpd]
  have Hpd := Lib.hid hpd
  clear hpd
  rintro e w2 ⟨rfl, b2⟩
  have r2 : Row w2 w.heap.size 42 z0.toArray := r0.below b2 r0.lt
  have hb : Below w.heap.size w w2 := below_on b1 b2 (Nat.le_of_lt r0.lt)
  have hpr : Row (w2.alloc (.cells (y8 (List.replicate 32 0)).toArray 40)) w2.heap.size 40 (y8 (List.replicate 32 0)).toArray := Row.new _ _ _
  have Hth := Lib.hid (row_there hpr (n := (y8 pd).toArray.size) (by rw [List.size_toArray, y8_len, y8_len, hpl]; simp))
  have Hsz := Lib.hid (size40 hpl)
  have hpr2 := row_put hpr (vs := y8 pd) (by rw [y8_len, y8_len, hpl]; simp)
  have hrt : Row ((w2.alloc (.cells (y8 (List.replicate 32 0)).toArray 40)).setCells w2.heap.size 0 (y8 pd)) w.heap.size 42 z0.toArray := row_far _ _ (r2.alloc _) (Nat.ne_of_lt r2.lt)
  have hbt : Below w.heap.size w ((w2.alloc (.cells (y8 (List.replicate 32 0)).toArray 40)).setCells w2.heap.size 0 (y8 pd)) := below_cells _ _ (hb.alloc hb.size _) hb.size
  have Hrg := Lib.hid (row_range hpr2)
  have Hth2 := Lib.hid (row_there hrt (n := (rootOf pd).toArray.size) (by rw [List.size_toArray, rootOf_len hpl, hz0]; exact Nat.le_refl _))
  have Hsz2 : Hid ((Tryz.prog.info? 42).map (·.size) = some (rootOf pd).toArray.size) := Lib.hid (by rw [List.size_toArray, rootOf_len hpl]; kernel_rfl)
  have Hr := Lib.hid (row_put hrt (vs := rootOf pd) (by rw [rootOf_len hpl, hz0]))
  have Hb := Lib.hid hbt
  clear r0 b1 b2 r2 hb hpr hpr2 hrt hbt hz0
  go_wp2_with (first
    | (show wpList _ _ _ (⟨none, Op.store 40 _ _, _, _, _, _⟩ :: _) _ _; refine wpList_store_mid rfl 40 _ _ rfl w2.heap.size 0 (y8 pd).toArray rfl rfl Hth.out Hsz.out (all_oneCell_toArray (y8_one _)) ?_)
    | (show wpList _ _ _ (⟨some 20, Op.load 40 _, _, _, _, _⟩ :: _) _ _; refine wpList_load_mid rfl 40 _ rfl w2.heap.size 0 rfl (y8 pd) _ Hrg.out Tryz.underlying40 rfl (by simpa using Hsz.out) ?_)
    | (show wpList _ _ _ (⟨some 21, Op.build 42 _, _, _, _, _⟩ :: _) _ _; refine wpList_build2 rfl 42 0 1 _ _ rfl (.int .i64 0) (.agg (y8 pd).toArray) rfl rfl (build42 0 pd _ hpl) ?_)
    | (show wpList _ _ _ (⟨none, Op.store 42 _ _, _, _, _, _⟩ :: _) _ _; refine wpList_store_mid rfl 42 _ _ rfl w.heap.size 0 (rootOf pd).toArray rfl rfl Hth2.out Hsz2.out (rootOf_one pd) ?_))
  exact bodyPost_ret (results_row_tmp rfl _ _ w.heap.size 42 (rootOf pd) _ rfl Hr.out Tryz.underlying42 rfl (by simpa using Hsz2.out)) rfl ⟨by rw [rootL_eq Hpd.out]; rfl, below_cells _ _ Hb.out (Nat.le_refl _)⟩

end Go.Proofs.YtcdfjnnkocmeeaaGreatDoor
