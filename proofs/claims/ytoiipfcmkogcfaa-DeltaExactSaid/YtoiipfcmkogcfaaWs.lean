/-
  The reference's Diff computes refD.
  Conditions: as each theorem states them.
-/
import Derived.Test.YtoiipfcmkogcfaaWr
namespace Go.Proofs.Ytoiipfcmkogcfaa
open Go.RowKit Go.Lib

def negD (d : Dl) : Dl := d.with (wrap64 (-d.amount))
def LA (l : List Dl) : List Dl := l.foldl (fun l d => addR l (negD d)) []
theorem foldA_len (f : Dl → Dl) : ∀ (l l0 : List Dl), (l.foldl (fun l d => addR l (f d)) l0).length ≤ l0.length + l.length
  | [], l0 => by simp
  | d :: r, l0 => by
    have := foldA_len f r (addR l0 (f d))
    have := addR_len l0 (f d)
    simp only [List.foldl_cons, List.length_cons]
    omega
theorem take_succ_map {l : List Ln} {k : Nat} {x : Ln} (hx : l[k]? = some x) : (l.take (k + 1)).map Ln.d = (l.take k).map Ln.d ++ [x.d] := by
  rw [List.take_add_one, hx]
  simp

/-- What the loads of a round read. -/
theorem ln_load {U : World} {b o : Nat} {x : Ln} (h : U.rangeAt b o x.cells) : (loadCellsFrom ⟨b, o, none⟩ 0 x.cells.length #[]).run Try.prog U = .ok x.cells.toArray U :=
  run_loadCells_list (P := Try.prog) U ⟨b, o, none⟩ x.cells (fun j v hv => by rw [Addr.add_mid]; exact h j v hv)

def LB (m l : List Dl) : List Dl := l.foldl addR (LA m)
theorem bd2 {L a b k : Nat} (h : L ≤ a + k) (hk : k < b) (hn : (a + b) * 72 ≤ 140737488355328) : (L + 1) * 72 ≤ 140737488355328 := Nat.le_trans (Nat.mul_le_mul_right _ (by omega)) hn
theorem bd1 {L a b k : Nat} (h : L ≤ k) (hk : k < a) (hn : (a + b) * 72 ≤ 140737488355328) : (L + 1) * 72 ≤ 140737488355328 := Nat.le_trans (Nat.mul_le_mul_right _ (by omega)) hn
theorem LA_len (m : List Dl) : (LA m).length ≤ m.length := by
  have := foldA_len negD m []
  simpa [LA] using this
theorem LB_len (m l : List Dl) : (LB m l).length ≤ m.length + l.length := by
  have h1 := foldA_len (fun d => d) l (LA m)
  have h2 := LA_len m
  have h3 : (LB m l).length ≤ (LA m).length + l.length := h1
  omega
theorem LB_snoc (m l : List Dl) (d : Dl) : LB m (l ++ [d]) = addR (LB m l) (d.with d.amount) := by
  rw [LB, List.foldl_append]
  rfl

set_option maxRecDepth 100000 in
set_option maxHeartbeats 1000000 in
theorem refDiff_any (la lb : List Ln) (A B : Option Addr) (ca cb : Nat) (w : World) (ha : RdE Ln.cells 44 w w.heap.size A la) (hb : RdE Ln.cells 44 w w.heap.size B lb) (oka : ∀ x ∈ la, x.ok) (okb : ∀ x ∈ lb, x.ok) (hn : (la.length + lb.length) * 72 ≤ 140737488355328) :
    Calls Try.prog 13 #[.slice A la.length ca, .slice B lb.length cb] w fun e w' => ∃ (A' : Option Addr) (c' : Nat), e = .returned (.slice A' (refD (la.map Ln.d) (lb.map Ln.d)).length c') ∧ Below w.heap.size w w' ∧ RdD w' w'.heap.size A' (refD (la.map Ln.d) (lb.map Ln.d)) := by
  have Ha := Lib.hid ha
  have Hb := Lib.hid hb
  have Hoka := Lib.hid oka
  have Hokb := Lib.hid okb
  clear ha hb oka okb
  have hna : (la.length : Int) ≤ 4611686018427387904 := by omega
  have hnb : (lb.length : Int) ≤ 4611686018427387904 := by omega
  go_enter Try.func13, Try.ntmps13
  go_wp2_with fail
  go_loopw [5, 6] (fun v i wr => ∃ k : Nat, k ≤ la.length ∧ i = .int .i64 k ∧ wr.ownsRow w.heap.size 70 9 v (LA ((la.take k).map Ln.d)).length (flat Dl.cells (LA ((la.take k).map Ln.d))) ∧ Below w.heap.size w wr)
    (fun _ i _ => la.length - (intOf i).toNat)
  case atStart => exact ⟨0, Nat.zero_le _, rfl, by simpa [LA, flat] using World.ownsRow_nil _ _ _ _, Below.refl _ _⟩
  case round =>
    obtain ⟨k, hk, rfl, hown, hbel⟩ := hrel
    by_cases hlt : k < la.length
    · obtain ⟨x, hx⟩ : ∃ x, la[k]? = some x := ⟨_, List.getElem?_eq_getElem hlt⟩
      obtain ⟨b, off, rfl, hbw, c0⟩ := Ha.out k x hx
      obtain ⟨x1, x2, x3⟩ := Hoka.out x (List.mem_of_getElem? hx)
      have hs : (Try.prog.info? 68).map (·.size) = some x.cells.length := by rw [Try.size68]; simp [Ln.cells, Dl.cells, x1]
      have hlen : (44 : Nat) = x.cells.length := by simp [Ln.cells, Dl.cells, x1]
      have hrng : ∀ U : World, Below w.heap.size w U → U.rangeAt b (off + k * x.cells.length) x.cells := fun U hU j v hv => by rw [← hlen]; exact (hU.cell (p := ⟨b, _, none⟩) hbw).trans (c0 j v hv)
      have hS : ∀ U : World, Below w.heap.size w U → (loadCellsFrom ⟨b, off + k * x.cells.length, none⟩ 0 x.cells.length #[]).run Try.prog U = .ok x.cells.toArray U ∧ U.cell? ⟨b, off + k * x.cells.length + 8, none⟩ = some (.int .i64 x.d.amount) := fun U hU => ⟨ln_load (hrng U hU), hrng U hU 8 _ rfl⟩
      obtain ⟨L, hL⟩ : ∃ L, L = LA ((la.take k).map Ln.d) := ⟨_, rfl⟩
      have hLl : L.length ≤ k := by rw [hL]; refine Nat.le_trans (foldA_len negD _ _) ?_; simp; omega
      rw [← hL] at hown
      have HL := Lib.hid hL
      have Hx := Lib.hid hx
      have Hown := Lib.hid hown
      have Hbel := Lib.hid hbel
      have HS := Lib.hid hS
      have S0 := hS wr.drew hbel.drew
      have i0 : (0 : Int) ≤ (k : Int) := by omega
      have i1 : (k : Int) < (la.length : Int) := by omega
      obtain ⟨nn, hnn⟩ : ∃ nn, nn = wrap64 (-x.d.amount) := ⟨_, rfl⟩
      have hnw : IntKind.i64.wrap (-x.d.amount) = nn := by rw [hnn, IntWalk.i64_left]
      have Hnn := Lib.hid hnn
      have hbd : (L.length + 1) * 72 ≤ 140737488355328 := bd1 hLl hlt hn
      have Hbd := Lib.hid hbd
      clear c0 hrng hS hL hx hown hbel hnn hbd hLl
      go_wp2_with fail
      go_region_held3 (fun U => (loadCellsFrom ⟨b, off + k * x.cells.length, none⟩ 0 x.cells.length #[]).run Try.prog U = .ok x.cells.toArray U ∧ U.cell? ⟨b, off + k * x.cells.length + 8, none⟩ = some (.int .i64 x.d.amount))
        (first | exact S0 | exact S1 | exact S2)
        (first
          | (go_at_call 30
             refine (change_any x nn _).mono ?_
             rintro e w1 ⟨rfl, hb1⟩
             have hbel1 : Below w.heap.size w w1 := (Hbel.out.drew).trans (hb1.mono Hbel.out.size)
             have S1 := HS.out w1 hbel1
             have hown1 : w1.ownsRow w.heap.size 70 9 _ _ _ := Hown.out.kept (row := none) ⟨hb1.os, hb1.tape, hb1.output, hb1.size, fun i hi _ => hb1.block i hi⟩ (by
              cases h : Value.ownBlock _ with
              | none => exact Or.inl rfl
              | some g => exact Or.inr (by simp))
             have Hown1 := Lib.hid hown1
             have Hbel1 := Lib.hid hbel1
             clear hown1 hbel1 hb1)
          | (go_at_call 29
             refine (add29_any L _ (x.d.with nn) w.heap.size _ Hown1.out Hbel1.out.size Hbd.out).mono ?_
             rintro e w2 ⟨v2, rfl, hown2, hb2⟩
             have hbel2 : Below w.heap.size w w2 := Hbel1.out.trans hb2
             have S2 := HS.out w2 hbel2
             have Hown2 := Lib.hid hown2
             have Hbel2 := Lib.hid hbel2
             clear hown2 hbel2 hb2))
      go_wp2
      go_roundw
      case rel =>
        refine ⟨k + 1, by omega, by go_num, ?_, Hbel2.out⟩
        rw [take_succ_map Hx.out, LA, List.foldl_append, ← LA, List.foldl_cons, List.foldl_nil, ← HL.out, negD, ← Hnn.out]
        exact Hown2.out
      case measure => simp [intOf]; omega
    · obtain rfl : k = la.length := by omega
      rw [List.take_length] at hown
      have Hown0 := Lib.hid hown
      have Hbel0 := Lib.hid hbel
      clear hown hbel
      go_wp2_with fail
      go_loopw [5, 7] (fun v i wr => ∃ k : Nat, k ≤ lb.length ∧ i = .int .i64 k ∧ wr.ownsRow w.heap.size 70 9 v (LB (la.map Ln.d) ((lb.take k).map Ln.d)).length (flat Dl.cells (LB (la.map Ln.d) ((lb.take k).map Ln.d))) ∧ Below w.heap.size w wr)
        (fun _ i _ => lb.length - (intOf i).toNat)
      case atStart => exact ⟨0, Nat.zero_le _, rfl, Hown0.out, Hbel0.out⟩
      case round =>
        obtain ⟨k, hk, rfl, hown, hbel⟩ := hrel
        by_cases hlt : k < lb.length
        · obtain ⟨x, hx⟩ : ∃ x, lb[k]? = some x := ⟨_, List.getElem?_eq_getElem hlt⟩
          obtain ⟨b, off, rfl, hbw, c0⟩ := Hb.out k x hx
          obtain ⟨x1, x2, x3⟩ := Hokb.out x (List.mem_of_getElem? hx)
          have hs : (Try.prog.info? 68).map (·.size) = some x.cells.length := by rw [Try.size68]; simp [Ln.cells, Dl.cells, x1]
          have hlen : (44 : Nat) = x.cells.length := by simp [Ln.cells, Dl.cells, x1]
          have hrng : ∀ U : World, Below w.heap.size w U → U.rangeAt b (off + k * x.cells.length) x.cells := fun U hU j v hv => by rw [← hlen]; exact (hU.cell (p := ⟨b, _, none⟩) hbw).trans (c0 j v hv)
          have hS : ∀ U : World, Below w.heap.size w U → (loadCellsFrom ⟨b, off + k * x.cells.length, none⟩ 0 x.cells.length #[]).run Try.prog U = .ok x.cells.toArray U ∧ U.cell? ⟨b, off + k * x.cells.length + 8, none⟩ = some (.int .i64 x.d.amount) := fun U hU => ⟨ln_load (hrng U hU), hrng U hU 8 _ rfl⟩
          have h44 : ∀ U : World, (sizeOf 68).run Try.prog U = .ok x.cells.length U := fun U => by rw [Try.sizeOf68 U, ← hlen]
          obtain ⟨L, hL⟩ : ∃ L, L = LB (la.map Ln.d) ((lb.take k).map Ln.d) := ⟨_, rfl⟩
          have hLl : L.length ≤ la.length + k := by rw [hL]; refine Nat.le_trans (LB_len _ _) ?_; simp; omega
          rw [← hL] at hown
          have HL := Lib.hid hL
          have Hx := Lib.hid hx
          have Hown := Lib.hid hown
          have Hbel := Lib.hid hbel
          have HS := Lib.hid hS
          have S0 := hS wr.drew hbel.drew
          have i0 : (0 : Int) ≤ (k : Int) := by omega
          have i1 : (k : Int) < (lb.length : Int) := by omega
          have hbd : (L.length + 1) * 72 ≤ 140737488355328 := bd2 hLl hlt hn
          have Hbd := Lib.hid hbd
          clear hlen c0 hrng hS hL hx hown hbel hbd hLl
          go_wp2_with fail
          go_region_held3 (fun U => (loadCellsFrom ⟨b, off + k * x.cells.length, none⟩ 0 x.cells.length #[]).run Try.prog U = .ok x.cells.toArray U ∧ U.cell? ⟨b, off + k * x.cells.length + 8, none⟩ = some (.int .i64 x.d.amount))
            (first | exact S0 | exact S1 | exact S2)
            (first
              | (go_at_call 30
                 refine (change_any x x.d.amount _).mono ?_
                 rintro e w1 ⟨rfl, hb1⟩
                 have hbel1 : Below w.heap.size w w1 := (Hbel.out.drew).trans (hb1.mono Hbel.out.size)
                 have S1 := HS.out w1 hbel1
                 have hown1 : w1.ownsRow w.heap.size 70 9 _ _ _ := Hown.out.kept (row := none) ⟨hb1.os, hb1.tape, hb1.output, hb1.size, fun i hi _ => hb1.block i hi⟩ (by
                  cases h : Value.ownBlock _ with
                  | none => exact Or.inl rfl
                  | some g => exact Or.inr (by simp))
                 have Hown1 := Lib.hid hown1
                 have Hbel1 := Lib.hid hbel1
                 clear hown1 hbel1 hb1)
              | (go_at_call 29
                 refine (add29_any L _ (x.d.with x.d.amount) w.heap.size _ Hown1.out Hbel1.out.size Hbd.out).mono ?_
                 rintro e w2 ⟨v2, rfl, hown2, hb2⟩
                 have hbel2 : Below w.heap.size w w2 := Hbel1.out.trans hb2
                 have S2 := HS.out w2 hbel2
                 have Hown2 := Lib.hid hown2
                 have Hbel2 := Lib.hid hbel2
                 clear hown2 hbel2 hb2))
          go_wp2
          go_roundw
          case rel =>
            refine ⟨k + 1, by omega, by go_num, ?_, Hbel2.out⟩
            rw [take_succ_map Hx.out, LB_snoc, ← HL.out]
            exact Hown2.out
          case measure => simp [intOf]; omega
        · obtain rfl : k = lb.length := by omega
          rw [List.take_length] at hown
          have Hown := Lib.hid hown
          have Hbel := Lib.hid hbel
          clear hown hbel
          go_wp2_with fail
          obtain ⟨L, hL⟩ : ∃ L, L = LB (la.map Ln.d) (lb.map Ln.d) := ⟨_, rfl⟩
          have hLl : L.length ≤ la.length + lb.length := by rw [hL]; refine Nat.le_trans (LB_len _ _) ?_; simp
          have hown' := Hown.out
          rw [← hL] at hown'
          obtain ⟨A1, c1, hv1, hrd⟩ := RdE.of_own Dl.cells_len hown'
          subst hv1
          obtain ⟨W, hW⟩ : ∃ W, W = wr := ⟨_, rfl⟩
          have Hrd : Hid (RdD W W.heap.size A1 L) := by rw [hW]; exact hrd
          have HWw : Hid (Below w.heap.size w W) := by rw [hW]; exact Hbel.out
          have hB0 : Below W.heap.size W wr := by rw [hW]; exact Below.refl _ _
          have HB0 := Lib.hid hB0
          have HL := Lib.hid hL
          have hLi : (L.length : Int) ≤ 4611686018427387904 := by omega
          have hL72 : L.length * 72 ≤ 140737488355328 := Nat.le_trans (Nat.mul_le_mul_right _ hLl) hn
          have HL72 := Lib.hid hL72
          clear hown' hrd hW hL hLl hL72 hB0
          go_loopw [8, 9] (fun o i wr => ∃ k : Nat, k ≤ L.length ∧ i = .int .i64 k ∧ wr.ownsRow W.heap.size 70 9 o ((L.take k).filter fun d => d.amount != 0).length (flat Dl.cells ((L.take k).filter fun d => d.amount != 0)) ∧ Below W.heap.size W wr)
            (fun _ i _ => L.length - (intOf i).toNat)
          case atStart => exact ⟨0, Nat.zero_le _, rfl, by simpa [flat] using World.ownsRow_nil _ _ _ _, HB0.out⟩
          case round =>
            obtain ⟨k, hk, rfl, hown, hbel⟩ := hrel
            by_cases hlt : k < L.length
            · obtain ⟨x, hx⟩ : ∃ x, L[k]? = some x := ⟨_, List.getElem?_eq_getElem hlt⟩
              obtain ⟨b, off, rfl, hbw, c0⟩ := Hrd.out k x hx
              obtain ⟨p0, p1, p2, p3, p4, p5, p6, p7, p8⟩ := Nine.of (w := wr) (fun j v hv => (hbel.cell (p := ⟨b, _, none⟩) hbw).trans (c0 j v hv))
              have i0 : (0 : Int) ≤ (k : Int) := by omega
              have i1 : (k : Int) < (L.length : Int) := by omega
              have hfl : ((L.take k).filter fun d => d.amount != 0).length + 1 ≤ L.length := by
                have := List.length_filter_le (fun d : Dl => d.amount != 0) (L.take k)
                simp at this
                omega
              have Hl1 := Lib.hid (le_maxLen (Nat.le_trans (Nat.le_mul_of_pos_right _ (by decide : 0 < 72)) (Nat.le_trans (Nat.mul_le_mul_right 72 hfl) HL72.out)))
              have Hl2 := Lib.hid (Nat.le_trans (Nat.mul_le_mul_right 72 hfl) HL72.out)
              have Hx := Lib.hid hx
              have Hown := Lib.hid hown
              have Hbel := Lib.hid hbel
              have hsnoc : (L.take (k + 1)).filter (fun d => d.amount != 0) = (L.take k).filter (fun d => d.amount != 0) ++ if x.amount = 0 then [] else [x] := by
                rw [List.take_add_one, hx, List.filter_append]
                by_cases h : x.amount = 0 <;> simp [h]
              have Hsnoc := Lib.hid hsnoc
              clear c0 hx hown hbel hfl hsnoc
              obtain ⟨n, hnn⟩ : ∃ n, n = x.amount := ⟨_, rfl⟩
              rw [← hnn] at p8
              have Hnn := Lib.hid hnn
              clear hnn
              by_cases h0 : n = 0
              · subst h0
                go_wp2
                go_roundw
                case rel =>
                  refine ⟨k + 1, by omega, by go_num, ?_, Hbel.out⟩
                  rw [Hsnoc.out, if_pos Hnn.out.symm, List.append_nil]
                  exact Hown.out
                case measure => simp [intOf]; omega
              · have hne : (n == 0) = false := by simp [h0]
                obtain ⟨ii, z0, hi, hz, hsz, hby, hzs⟩ := info70
                have Hi := Lib.hid hi
                have Hz := Lib.hid hz
                have Hsz := Lib.hid hsz
                have Hby := Lib.hid hby
                have Hzs := Lib.hid hzs
                have hbs := Hbel.out.size
                clear hi hz hsz hby hzs
                go_wp2_with (first
                  | (at_builtin; refine wpList_append_own _ rfl _ _ 24 rfl W.heap.size 70 ii z0 9 72 Try.underlying24 Hi.out Hz.out Hsz.out Hby.out Hzs.out (by decide) _ _ _ rfl (Hown.out.alloc _) ⟨wr.heap.size, 0, none⟩ 1 1 (Dl.cells (x.with n)) rfl rfl (World.news_of_block (heap_alloc_new wr _)) (Dl.cells_one _) Hl1.out Hl2.out (Nat.le_trans hbs (Nat.le_of_lt (by simp))) ?_
                     intro v2 w5 hown5 hgrow5 hiff5)
                  | go_in)
                go_roundw
                case rel =>
                  refine ⟨k + 1, by omega, by go_num, ?_, (Hbel.out.alloc hbs _).grown hgrow5 (Nat.le_trans hbs (Nat.le_of_lt (by simp))) (fun k' hk' => (Hown.out.lt k' hk').1)⟩
                  have e : x.with n = x := by rw [Hnn.out]; rfl
                  rw [e] at hown5
                  rw [Hsnoc.out, if_neg (by rw [← Hnn.out]; exact h0), flat_append, List.length_append]
                  simpa [flat] using hown5
                case measure => simp [intOf]; omega
            · obtain rfl : k = L.length := by omega
              rw [List.take_length] at hown
              obtain ⟨A2, c2, hv2, hrd2⟩ := RdE.of_own Dl.cells_len hown
              subst hv2
              have Hrd2 := Lib.hid hrd2
              have Hbel := Lib.hid hbel
              clear hown hrd2 hbel
              go_wp2
              go_ret
              have e : refD (la.map Ln.d) (lb.map Ln.d) = L.filter fun d => d.amount != 0 := by rw [HL.out]; rfl
              rw [e]
              exact ⟨A2, c2, rfl, HWw.out.trans (Hbel.out.mono HWw.out.size), Hrd2.out⟩

end Go.Proofs.Ytoiipfcmkogcfaa
