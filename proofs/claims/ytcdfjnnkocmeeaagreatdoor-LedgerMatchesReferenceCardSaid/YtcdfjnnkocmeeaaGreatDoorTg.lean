/-
  digest.Tagged, merkle.Pad, merkle.Parent.
  Conditions: as each theorem states them.
-/
import Derived.Test.YtcdfjnnkocmeeaaGreatDoorSm
import Derived.Laws.IdiomStrings
namespace Go.Proofs.YtcdfjnnkocmeeaaGreatDoor
open Go.RowKit Go.Lib

/-- The bytes of a string, as numbers. -/
def numsB (s : ByteArray) : List Int := s.data.toList.map fun b => (b.toNat : Int)
/-- A string turned into bytes: a new block. -/
theorem wpList_bytes {ops : Array Oper} {rest : List Oper} {o : Oper} {a : Act} {Q : Exit → Act → World → Prop} (w : World) (hgd : o.guard = none) (x : Operand) (ho : o.op = .convert 9 102 x) (s : ByteArray) (hx : a.eval x = .string s)
    (h : ∀ cap w', RdY w' (w.heap.size + 1) (some ⟨w.heap.size, 0, none⟩) (numsB s) → Kept w.heap.size w w' → w'.heap.size = w.heap.size + 1 → wpList Tryz.prog ops Q rest (a.put o.dst (.slice (some ⟨w.heap.size, 0, none⟩) s.size cap)) w') : wpList Tryz.prog ops Q (o :: rest) a w := by
  refine wpList_plain hgd fun K hK => ?_
  have hrun := run_bytes_of_string (P := Tryz.prog) w 9 102 5 s Tryz.underlying9 Tryz.underlying102 Tryz.underlying5
  unfold Oper.wp
  simp [execOp, ho, hx, hrun, Result.andThen]
  refine hK _ _ (h _ _ ?_ ⟨fun B b hb hB => hb.drew.alloc hB _, fun g t cs hr hg => hr.drew.alloc _, by simp⟩ (by simp))
  intro k v hv
  refine ⟨w.heap.size, 0, rfl, Nat.lt_succ_self _, ?_⟩
  rw [numsB, List.getElem?_map] at hv
  cases hb : s.data.toList[k]? with
  | none => rw [hb] at hv; cases hv
  | some b =>
    rw [hb] at hv
    cases hv
    have hk : k < s.data.size := by simpa using (List.getElem?_eq_some_iff.1 hb).1
    have e := bytesRow_at s (grownCap w s.size 0 5) k hk
    have hb2 : s.data[k] = b := by
      obtain ⟨h1, h2⟩ := List.getElem?_eq_some_iff.1 hb
      simpa using h2
    rw [hb2] at e
    rw [Nat.zero_add]
    exact (World.cell?_alloc_mark w.drew _ _ _ _).trans e

theorem row_cells {g : Nat} {t : TypeId} : ∀ (vs pre post : List Value) (w : World), Row w g t (pre ++ post).toArray → vs.length = post.length → Row (w.setCells g pre.length vs) g t (pre ++ vs).toArray
  | [], pre, post, w, h, hl => by
    have : post = [] := List.eq_nil_of_length_eq_zero (by simpa using hl.symm)
    subst this
    exact h
  | v :: r, pre, [], w, h, hl => by simp at hl
  | v :: r, pre, p :: ps, w, h, hl => by
    have h1 := h.set pre.length v
    rw [show (pre ++ p :: ps).toArray.setIfInBounds pre.length v = ((pre ++ [v]) ++ ps).toArray from by simp] at h1
    have := row_cells r (pre ++ [v]) ps _ h1 (by simpa using hl)
    rw [World.setCells]
    simpa using this
theorem row_put {w : World} {g : Nat} {t : TypeId} {cs vs : List Value} (h : Row w g t cs.toArray) (hl : vs.length = cs.length) : Row (w.setCells g 0 vs) g t vs.toArray := by
  simpa using row_cells vs [] cs w (by simpa using h) hl
theorem row_there {w : World} {g : Nat} {t : TypeId} {cs : List Value} {n : Nat} (h : Row w g t cs.toArray) (hn : n ≤ cs.length) : w.there g 0 n := by
  intro j hj
  have hj2 : j < cs.length := by omega
  exact ⟨by rw [Nat.zero_add, h.cell, List.getElem?_toArray, List.getElem?_eq_getElem hj2]; rfl, by rw [Nat.zero_add]; exact h.frozen j⟩
theorem shaF_len (m : List Int) : (shaF m).length = 32 := by simp [shaF, digN]
theorem y8_len (l : List Int) : (y8 l).length = l.length := by simp [y8]
theorem size40 {l : List Int} (h : l.length = 32) : (Tryz.prog.info? 40).map (·.size) = some (y8 l).toArray.size := by
  rw [List.size_toArray, y8_len, h]; kernel_rfl

/-- What Tagged's three parts are. -/
def tagPs (b1 b2 c2 : Nat) (t : List Int) (p : Pc) : List Pc := [⟨some ⟨b1, 0, none⟩, 1, [(t.length : Int)]⟩, ⟨some ⟨b2, 0, none⟩, c2, t⟩, p]
theorem tagPs_flat (b1 b2 c2 : Nat) (t : List Int) (p : Pc) : flatP (tagPs b1 b2 c2 t p) = (t.length : Int) :: (t ++ p.l) := by simp [flatP, tagPs]
theorem tagPs_ok {w : World} {b1 b2 c2 : Nat} {t : List Int} {p : Pc} {B : Nat} (h1 : w.cell? ⟨b1, 0, none⟩ = some (.int .u8 (t.length : Int))) (hb1 : b1 < B) (h2 : RdY w B (some ⟨b2, 0, none⟩) t) (hb2 : b2 < B) (h3 : PcOk w B p) : ∀ q ∈ tagPs b1 b2 c2 t p, PcOk w B q := by
  intro q hq
  simp only [tagPs, List.mem_cons, List.not_mem_nil, or_false] at hq
  rcases hq with rfl | rfl | rfl
  · refine ⟨fun k x hx => ?_, Or.inr ⟨b1, 0, rfl, hb1⟩⟩
    cases k with
    | zero => simp at hx; subst hx; exact ⟨b1, 0, rfl, hb1, h1⟩
    | succ k => simp at hx
  · exact ⟨h2, Or.inr ⟨b2, 0, rfl, hb2⟩⟩
  · exact h3
theorem tagPs_cells {w : World} {b b1 b2 c2 : Nat} {t : List Int} {p : Pc} {B : Nat} (hr : Row w b 102 #[.slice (some ⟨b1, 0, none⟩) 1 1, .slice (some ⟨b2, 0, none⟩) t.length c2, p.v]) (hb : b < B) : ∀ (k : Nat) q, (tagPs b1 b2 c2 t p)[k]? = some q → ∃ b' off, some (⟨b, 0, none⟩ : Addr) = some ⟨b', off, none⟩ ∧ b' < B ∧ w.cell? ⟨b', off + k, none⟩ = some q.v := by
  intro k q hq
  refine ⟨b, 0, rfl, hb, ?_⟩
  rw [Nat.zero_add, hr.cell]
  match k, hq with
  | 0, hq => simp [tagPs] at hq; subst hq; rfl
  | 1, hq => simp [tagPs] at hq; subst hq; rfl
  | 2, hq => simp [tagPs] at hq; subst hq; rfl
  | k + 3, hq => simp [tagPs] at hq
theorem RdY.below {w w' : World} {B B0 : Nat} {A : Option Addr} {l : List Int} (h : RdY w B A l) (hb : Below B0 w w') (hB : B ≤ B0) : RdY w' B A l := by
  intro k x hx
  obtain ⟨b, off, e, h1, c⟩ := h k x hx
  exact ⟨b, off, e, h1, (hb.cell (p := ⟨b, off + k, none⟩) (Nat.lt_of_lt_of_le h1 hB)).trans c⟩
theorem RdY.more {w : World} {B B' : Nat} {A : Option Addr} {l : List Int} (h : RdY w B A l) (hB : B ≤ B') : RdY w B' A l := by
  intro k x hx
  obtain ⟨b, off, e, h1, c⟩ := h k x hx
  exact ⟨b, off, e, Nat.lt_of_lt_of_le h1 hB, c⟩
theorem PcOk.below {w w' : World} {B B0 B' : Nat} {p : Pc} (h : PcOk w B p) (hb : Below B0 w w') (hB : B ≤ B0) (hB' : B ≤ B') : PcOk w' B' p :=
  ⟨(h.1.below hb hB).more hB', by
    rcases h.2 with h2 | ⟨b, off, e, h3⟩
    · exact Or.inl h2
    · exact Or.inr ⟨b, off, e, Nat.lt_of_lt_of_le h3 hB'⟩⟩

set_option maxRecDepth 100000 in
set_option maxHeartbeats 1000000 in
theorem padTag_any (p : Pc) (w : World) (hp : PcOk w w.heap.size p) (hpl : p.l.length ≤ 1000000) (hk : KT w) : Calls Tryz.prog 40 #[.string ⟨#[112, 97, 100]⟩, .slice p.A p.l.length p.c] w fun e w' => e = .returned (.agg (y8 (shaF (3 :: [112, 97, 100] ++ p.l))).toArray) ∧ Below w.heap.size w w' := by
  have Hk := Lib.hid hk
  have Hp := Lib.hid hp
  clear hk hp
  have hex : ({ data := #[112, 97, 100] } : ByteArray).extract 0 3 = { data := #[112, 97, 100] } := by rfl
  go_enter Tryz.func40, Tryz.ntmps40
  go_wp2_with (refine wpList_bytes _ rfl _ rfl ⟨#[112, 97, 100]⟩ rfl ?_; intro cap3 w3 hrd3 hk3 hsz3)
  obtain ⟨w4, hw4⟩ : ∃ w4, w4 = w3.alloc (.cells #[.slice (some ⟨w.heap.size + 1, 0, none⟩) 1 1, .slice (some ⟨w.heap.size + 1 + 1, 0, none⟩) 3 cap3, .slice p.A p.l.length p.c] 102) := ⟨_, rfl⟩
  have hs3 : w3.heap.size = w.heap.size + 1 + 1 + 1 := by rw [hsz3]; simp
  have hb3 : Below w.heap.size w w3 := hk3.below _ _ (((Below.refl _ _).alloc (Nat.le_refl _) _).alloc (by simp) _) (by simp; omega)
  have hr3 : Row w3 w.heap.size 40 (y8 (List.replicate 32 0)).toArray := hk3.row _ _ _ ((Row.new w 40 _).alloc _) (by simp; omega)
  have hc3 : w3.cell? ⟨w.heap.size + 1, 0, none⟩ = some (.int .u8 3) := (hk3.row _ _ _ (Row.new1 w _ 5 #[.int .u8 3]) (by simp)).cell 0
  have hb4 : Below w.heap.size w w4 := by rw [hw4]; exact hb3.alloc (by omega) _
  have hb34 : Below w3.heap.size w3 w4 := by rw [hw4]; exact (Below.refl _ _).alloc (Nat.le_refl _) _
  have hr4 : Row w4 w.heap.size 40 (y8 (List.replicate 32 0)).toArray := by rw [hw4]; exact hr3.alloc _
  have hs4 : w4.heap.size = w.heap.size + 1 + 1 + 1 + 1 := by rw [hw4]; simp [hs3]
  have hps : Row w4 (w.heap.size + 1 + 1 + 1) 102 #[.slice (some ⟨w.heap.size + 1, 0, none⟩) 1 1, .slice (some ⟨w.heap.size + 1 + 1, 0, none⟩) 3 cap3, p.v] := by rw [hw4, ← hs3]; exact Row.new _ _ _
  have hc4 : w4.cell? ⟨w.heap.size + 1, 0, none⟩ = some (.int .u8 ((numsB ⟨#[112, 97, 100]⟩).length : Int)) := (hb34.cell (p := ⟨w.heap.size + 1, 0, none⟩) (by simp; omega)).trans hc3
  have hrd4 : RdY w4 w4.heap.size (some ⟨w.heap.size + 1 + 1, 0, none⟩) (numsB ⟨#[112, 97, 100]⟩) := by
    have h := (RdY.below hrd3 hb34 (by simp; omega)).more (B' := w4.heap.size) (by simp; omega)
    simpa using h
  have hpo : PcOk w4 w4.heap.size p := PcOk.below Hp.out hb4 (Nat.le_refl _) (by omega)
  have Hok := Lib.hid (tagPs_ok (c2 := cap3) hc4 (by omega) hrd4 (by omega) hpo)
  have Hcs := Lib.hid (tagPs_cells (t := numsB ⟨#[112, 97, 100]⟩) (p := p) hps (B := w4.heap.size) (by omega))
  have Hb4 := Lib.hid hb4
  have Hr4 := Lib.hid hr4
  have Hkt := Lib.hid (Hk.out.below hb4 (Nat.le_refl _))
  rw [← hw4]
  clear hw4 hrd3 hk3 hsz3 hs3 hb3 hr3 hc3 hb4 hb34 hr4 hs4 hps hc4 hrd4 hpo
  refine (sum_any (tagPs (w.heap.size + 1) (w.heap.size + 1 + 1) cap3 (numsB ⟨#[112, 97, 100]⟩) p) (some ⟨w.heap.size + 1 + 1 + 1, 0, none⟩) 3 w4 Hcs.out Hok.out (by rw [tagPs_flat]; simp [numsB]; omega) (by simp [tagPs]) Hkt.out).mono ?_
  rw [tagPs_flat]
  rintro e w5 ⟨rfl, hb5⟩
  rw [show numsB ⟨#[112, 97, 100]⟩ = [112, 97, 100] from rfl, show (([112, 97, 100] : List Int).length : Int) = 3 from rfl]
  have hr5 : Row w5 w.heap.size 40 (y8 (List.replicate 32 0)).toArray := Hr4.out.below hb5 Hr4.out.lt
  have hb : Below w.heap.size w w5 := Hb4.out.trans (hb5.mono Hb4.out.size)
  obtain ⟨D, hD⟩ : ∃ D, D = shaF (3 :: ([112, 97, 100] ++ p.l)) := ⟨_, rfl⟩
  have hDl : D.length = 32 := by rw [hD, shaF_len]
  rw [← hD]
  have Hth := Lib.hid (row_there hr5 (n := (y8 D).toArray.size) (by rw [List.size_toArray, y8_len, hDl]; simp [y8]))
  have Hsz := Lib.hid (size40 hDl)
  have Hr5 := Lib.hid hr5
  have Hb := Lib.hid hb
  have HD := Lib.hid hD
  have HDl := Lib.hid hDl
  clear hr5 hb hb5 hD hDl
  go_wp2_with (refine wpList_store_mid rfl 40 _ _ rfl w.heap.size 0 (y8 D).toArray rfl rfl Hth.out Hsz.out (all_oneCell_toArray (y8_one _)) ?_)
  have hfin : Row (w5.setCells w.heap.size 0 (y8 D)) w.heap.size 40 (y8 D).toArray := row_put Hr5.out (by rw [y8_len, HDl.out]; simp [y8])
  refine bodyPost_ret (results_cell_row rfl _ _ w.heap.size 40 (y8 D).toArray (0, 0) _ rfl hfin Tryz.underlying40 rfl Hsz.out) rfl ⟨?_, ?_⟩
  · rw [HD.out]; rfl
  · exact below_cells _ _ Hb.out (Nat.le_refl _)

set_option maxRecDepth 100000 in
set_option maxHeartbeats 1000000 in
theorem nodeTag_any (p : Pc) (w : World) (hp : PcOk w w.heap.size p) (hpl : p.l.length ≤ 1000000) (hk : KT w) : Calls Tryz.prog 40 #[.string ⟨#[110, 111, 100, 101]⟩, .slice p.A p.l.length p.c] w fun e w' => e = .returned (.agg (y8 (shaF (4 :: [110, 111, 100, 101] ++ p.l))).toArray) ∧ Below w.heap.size w w' := by
  have Hk := Lib.hid hk
  have Hp := Lib.hid hp
  clear hk hp
  have hex : ({ data := #[110, 111, 100, 101] } : ByteArray).extract 0 4 = { data := #[110, 111, 100, 101] } := by rfl
  go_enter Tryz.func40, Tryz.ntmps40
  go_wp2_with (refine wpList_bytes _ rfl _ rfl ⟨#[110, 111, 100, 101]⟩ rfl ?_; intro cap3 w3 hrd3 hk3 hsz3)
  obtain ⟨w4, hw4⟩ : ∃ w4, w4 = w3.alloc (.cells #[.slice (some ⟨w.heap.size + 1, 0, none⟩) 1 1, .slice (some ⟨w.heap.size + 1 + 1, 0, none⟩) 4 cap3, .slice p.A p.l.length p.c] 102) := ⟨_, rfl⟩
  have hs3 : w3.heap.size = w.heap.size + 1 + 1 + 1 := by rw [hsz3]; simp
  have hb3 : Below w.heap.size w w3 := hk3.below _ _ (((Below.refl _ _).alloc (Nat.le_refl _) _).alloc (by simp) _) (by simp; omega)
  have hr3 : Row w3 w.heap.size 40 (y8 (List.replicate 32 0)).toArray := hk3.row _ _ _ ((Row.new w 40 _).alloc _) (by simp; omega)
  have hc3 : w3.cell? ⟨w.heap.size + 1, 0, none⟩ = some (.int .u8 4) := (hk3.row _ _ _ (Row.new1 w _ 5 #[.int .u8 4]) (by simp)).cell 0
  have hb4 : Below w.heap.size w w4 := by rw [hw4]; exact hb3.alloc (by omega) _
  have hb34 : Below w3.heap.size w3 w4 := by rw [hw4]; exact (Below.refl _ _).alloc (Nat.le_refl _) _
  have hr4 : Row w4 w.heap.size 40 (y8 (List.replicate 32 0)).toArray := by rw [hw4]; exact hr3.alloc _
  have hs4 : w4.heap.size = w.heap.size + 1 + 1 + 1 + 1 := by rw [hw4]; simp [hs3]
  have hps : Row w4 (w.heap.size + 1 + 1 + 1) 102 #[.slice (some ⟨w.heap.size + 1, 0, none⟩) 1 1, .slice (some ⟨w.heap.size + 1 + 1, 0, none⟩) 4 cap3, p.v] := by rw [hw4, ← hs3]; exact Row.new _ _ _
  have hc4 : w4.cell? ⟨w.heap.size + 1, 0, none⟩ = some (.int .u8 ((numsB ⟨#[110, 111, 100, 101]⟩).length : Int)) := (hb34.cell (p := ⟨w.heap.size + 1, 0, none⟩) (by simp; omega)).trans hc3
  have hrd4 : RdY w4 w4.heap.size (some ⟨w.heap.size + 1 + 1, 0, none⟩) (numsB ⟨#[110, 111, 100, 101]⟩) := by
    have h := (RdY.below hrd3 hb34 (by simp; omega)).more (B' := w4.heap.size) (by simp; omega)
    simpa using h
  have hpo : PcOk w4 w4.heap.size p := PcOk.below Hp.out hb4 (Nat.le_refl _) (by omega)
  have Hok := Lib.hid (tagPs_ok (c2 := cap3) hc4 (by omega) hrd4 (by omega) hpo)
  have Hcs := Lib.hid (tagPs_cells (t := numsB ⟨#[110, 111, 100, 101]⟩) (p := p) hps (B := w4.heap.size) (by omega))
  have Hb4 := Lib.hid hb4
  have Hr4 := Lib.hid hr4
  have Hkt := Lib.hid (Hk.out.below hb4 (Nat.le_refl _))
  rw [← hw4]
  clear hw4 hrd3 hk3 hsz3 hs3 hb3 hr3 hc3 hb4 hb34 hr4 hs4 hps hc4 hrd4 hpo
  refine (sum_any (tagPs (w.heap.size + 1) (w.heap.size + 1 + 1) cap3 (numsB ⟨#[110, 111, 100, 101]⟩) p) (some ⟨w.heap.size + 1 + 1 + 1, 0, none⟩) 3 w4 Hcs.out Hok.out (by rw [tagPs_flat]; simp [numsB]; omega) (by simp [tagPs]) Hkt.out).mono ?_
  rw [tagPs_flat]
  rintro e w5 ⟨rfl, hb5⟩
  rw [show numsB ⟨#[110, 111, 100, 101]⟩ = [110, 111, 100, 101] from rfl, show (([110, 111, 100, 101] : List Int).length : Int) = 4 from rfl]
  have hr5 : Row w5 w.heap.size 40 (y8 (List.replicate 32 0)).toArray := Hr4.out.below hb5 Hr4.out.lt
  have hb : Below w.heap.size w w5 := Hb4.out.trans (hb5.mono Hb4.out.size)
  obtain ⟨D, hD⟩ : ∃ D, D = shaF (4 :: ([110, 111, 100, 101] ++ p.l)) := ⟨_, rfl⟩
  have hDl : D.length = 32 := by rw [hD, shaF_len]
  rw [← hD]
  have Hth := Lib.hid (row_there hr5 (n := (y8 D).toArray.size) (by rw [List.size_toArray, y8_len, hDl]; simp [y8]))
  have Hsz := Lib.hid (size40 hDl)
  have Hr5 := Lib.hid hr5
  have Hb := Lib.hid hb
  have HD := Lib.hid hD
  have HDl := Lib.hid hDl
  clear hr5 hb hb5 hD hDl
  go_wp2_with (refine wpList_store_mid rfl 40 _ _ rfl w.heap.size 0 (y8 D).toArray rfl rfl Hth.out Hsz.out (all_oneCell_toArray (y8_one _)) ?_)
  have hfin : Row (w5.setCells w.heap.size 0 (y8 D)) w.heap.size 40 (y8 D).toArray := row_put Hr5.out (by rw [y8_len, HDl.out]; simp [y8])
  refine bodyPost_ret (results_cell_row rfl _ _ w.heap.size 40 (y8 D).toArray (0, 0) _ rfl hfin Tryz.underlying40 rfl Hsz.out) rfl ⟨?_, ?_⟩
  · rw [HD.out]; rfl
  · exact below_cells _ _ Hb.out (Nat.le_refl _)

/-- A row of bytes is appended. -/
theorem wpList_add {ops : Array Oper} {rest : List Oper} {o : Oper} {a : Act} {Q : Exit → Act → World → Prop} (W0 : World) (hgd : o.guard = none) (s x : Operand)
    (ho : o.op = .call { callee := .builtin .append, args := #[s, x], argTypes := #[102, 102] }) (base : Nat) (v : Value) (n : Nat) (xs : List Int) (hs : a.eval s = v) (hown : W0.ownsRow base 5 1 v n (y8 xs))
    (l : List Int) (b off m c : Nat) (hx : a.eval x = .slice (some ⟨b, off, none⟩) m c) (hm : l.length = m) (hsrc : ∀ j y, l[j]? = some y → W0.cell? ⟨b, off + j, none⟩ = some (.int .u8 y)) (hn : n + m ≤ 1099511627776) (hbase : base ≤ W0.heap.size)
    (h : ∀ A c w', w'.ownsRow base 5 1 (.slice A (n + m) c) (n + m) (y8 (xs ++ l)) → Kept base W0 w' → wpList Tryz.prog ops Q rest (a.put o.dst (.slice A (n + m) c)) w') : wpList Tryz.prog ops Q (o :: rest) a W0 := by
  obtain ⟨i5, hi5, hz5, hs5, hby5⟩ := info5
  have hlt := hown.lt
  refine wpList_append_own _ hgd s x 102 ho base 5 i5 (.int .u8 0) 1 1 Tryz.underlying102 hi5 hz5 hs5 hby5 rfl (by decide) v n _ hs hown ⟨b, off, none⟩ m c (y8 l) hx (by rw [y8_len, hm, Nat.mul_one]) (fun j u hu => ?_) (y8_one l) (by simp only [maxLen]; omega) (by omega) hbase ?_
  · rw [Addr.add_mid]
    rw [y8, List.getElem?_map] at hu
    cases hj : l[j]? with
    | none => rw [hj] at hu; cases hu
    | some y => rw [hj] at hu; cases hu; exact hsrc j y hj
  intro v' w' hown' hg _
  obtain ⟨A, c', rfl⟩ := own_slice hown'
  refine h A c' w' (by simpa [y8] using hown') ⟨fun B a' hb hB => ?_, fun g t cs hr hgb => ?_, hg.size⟩
  · exact hb.grown hg (by omega) (fun k hk => by have := (hlt k hk).1; omega)
  · exact hr.grown hg (fun e => by have := (hlt g e.symm).1; omega)
theorem row_bytes {w : World} {g : Nat} {t : TypeId} {l : List Int} (h : Row w g t (y8 l).toArray) : ∀ j y, l[j]? = some y → w.cell? ⟨g, 0 + j, none⟩ = some (.int .u8 y) := by
  intro j y hy
  rw [Nat.zero_add, h.cell, List.getElem?_toArray, y8, List.getElem?_map, hy]
  rfl
theorem made64 (w : World) : (Instr.makeSlice 102 (.int .i64 0) (.int .i64 64)).run Tryz.prog w = .ok (.slice (some ⟨w.heap.size, 0, none⟩) 0 64) (w.alloc (.cells (Array.replicate 64 (Value.int .u8 0)) 5)) := by
  obtain ⟨i, hi, hz, hs, hb⟩ := info5
  have h := run_makeSlice w 102 5 i (.int .u8 0) Tryz.underlying102 hi hz .i64 .i64 0 64 (by omega) (by omega) (by rw [hs]; decide) (by rw [hb]; omega) (by omega)
  rw [hs] at h
  rw [h]
  have e : madeCells (Value.int .u8 0).cells ((64 : Int).toNat * 1) = Array.replicate 64 (Value.int .u8 0) := by
    apply Array.ext
    · simp [madeCells]
    · intro i h1 h2
      simp [madeCells, Value.cells, Nat.mod_one]
  rw [e]
  rfl

set_option maxRecDepth 100000 in
theorem pad_any (w : World) (hk : KT w) : Calls Tryz.prog 20 #[] w fun e w' => e = .returned (.agg (y8 (shaF [3, 112, 97, 100])).toArray) ∧ Below w.heap.size w w' := by
  have Hk := Lib.hid (hk.below ((Below.refl w.heap.size w).alloc (Nat.le_refl _) (.cells (y8 (List.replicate 32 0)).toArray 40)) (Nat.le_refl _))
  clear hk
  go_enter Tryz.func20, Tryz.ntmps20
  go_wp2_with fail
  refine (padTag_any ⟨none, 0, []⟩ (w.alloc (.cells (y8 (List.replicate 32 0)).toArray 40)) ⟨fun k x hx => by simp at hx, Or.inl ⟨rfl, rfl, rfl⟩⟩ (by simp) Hk.out).mono ?_
  rintro e w5 ⟨rfl, hb5⟩
  have hr5 : Row w5 w.heap.size 40 (y8 (List.replicate 32 0)).toArray := (Row.new w 40 (y8 (List.replicate 32 0)).toArray).below hb5 (by simp)
  have hb : Below w.heap.size w w5 := ((Below.refl _ _).alloc (Nat.le_refl _) _).trans (hb5.mono (by simp))
  obtain ⟨D, hD⟩ : ∃ D, D = shaF (3 :: [112, 97, 100] ++ []) := ⟨_, rfl⟩
  have hDl : D.length = 32 := by rw [hD, shaF_len]
  rw [← hD]
  have Hth := Lib.hid (row_there hr5 (n := (y8 D).toArray.size) (by rw [List.size_toArray, y8_len, hDl]; simp [y8]))
  have Hsz := Lib.hid (size40 hDl)
  have Hr5 := Lib.hid hr5
  have Hb := Lib.hid hb
  have HD := Lib.hid hD
  have HDl := Lib.hid hDl
  clear hr5 hb hb5 hD hDl
  go_wp2_with (refine wpList_store_mid rfl 40 _ _ rfl w.heap.size 0 (y8 D).toArray rfl rfl Hth.out Hsz.out (all_oneCell_toArray (y8_one _)) ?_)
  have hfin : Row (w5.setCells w.heap.size 0 (y8 D)) w.heap.size 40 (y8 D).toArray := row_put Hr5.out (by rw [y8_len, HDl.out]; simp [y8])
  refine bodyPost_ret (results_cell_row rfl _ _ w.heap.size 40 (y8 D).toArray (0, 0) _ rfl hfin Tryz.underlying40 rfl Hsz.out) rfl ⟨?_, ?_⟩
  · rw [HD.out]; rfl
  · exact below_cells _ _ Hb.out (Nat.le_refl _)

set_option maxRecDepth 100000 in
set_option maxHeartbeats 1000000 in
theorem parent_any (l r : List Int) (w : World) (hl : l.length = 32) (hr : r.length = 32) (hk : KT w) : Calls Tryz.prog 117 #[.agg (y8 l).toArray, .agg (y8 r).toArray] w fun e w' => e = .returned (.agg (y8 (shaF (4 :: [110, 111, 100, 101] ++ (l ++ r)))).toArray) ∧ Below w.heap.size w w' := by
  have Hk := Lib.hid hk
  have Hl := Lib.hid hl
  have Hr := Lib.hid hr
  clear hk hl hr
  have hmk := made64
  go_enter Tryz.func117, Tryz.ntmps117
  go_upto_region 2 with fail
  clear hmk
  have h0 : ∀ (z : Array Value) (y : Array Value), Row ((((w.alloc (.cells (y8 l).toArray 40)).alloc (.cells (y8 r).toArray 40)).alloc (.cells z 40)).alloc (.cells y 5)) w.heap.size 40 (y8 l).toArray := fun z y => (((Row.new w 40 _).alloc _).alloc _).alloc _
  have h1 : ∀ (z : Array Value) (y : Array Value), Row ((((w.alloc (.cells (y8 l).toArray 40)).alloc (.cells (y8 r).toArray 40)).alloc (.cells z 40)).alloc (.cells y 5)) (w.heap.size + 1) 40 (y8 r).toArray := fun z y => ((Row.new1 w _ 40 _).alloc _).alloc _
  have h2 := (Row.new1 (w.alloc (.cells (y8 l).toArray 40)) (.cells (y8 r).toArray 40) 40 (y8 (List.replicate 32 0)).toArray).alloc (.cells (Array.replicate 64 (Value.int .u8 0)) 5)
  have h3 : Below w.heap.size w ((((w.alloc (.cells (y8 l).toArray 40)).alloc (.cells (y8 r).toArray 40)).alloc (.cells (y8 (List.replicate 32 0)).toArray 40)).alloc (.cells (Array.replicate 64 (Value.int .u8 0)) 5)) := ((((Below.refl _ _).alloc (Nat.le_refl _) _).alloc (by simp) _).alloc (by simp; omega) _).alloc (by simp; omega) _
  have hsz : (((w.alloc (.cells (y8 l).toArray 40)).alloc (.cells (y8 r).toArray 40)).alloc (.cells (y8 (List.replicate 32 0)).toArray 40)).heap.size = w.heap.size + 1 + 1 + 1 := by simp
  have h4 := World.ownsRow_made (base := w.heap.size + 1 + 1 + 1) (e := 5) (size := 1) (((w.alloc (.cells (y8 l).toArray 40)).alloc (.cells (y8 r).toArray 40)).alloc (.cells (y8 (List.replicate 32 0)).toArray 40)) (Array.replicate 64 (Value.int .u8 0)) 64 (by rw [hsz]; exact Nat.le_refl _) (by decide) (by simp)
  rw [hsz] at h4
  have h5 : ((((w.alloc (.cells (y8 l).toArray 40)).alloc (.cells (y8 r).toArray 40)).alloc (.cells (y8 (List.replicate 32 0)).toArray 40)).alloc (.cells (Array.replicate 64 (Value.int .u8 0)) 5)).heap.size = w.heap.size + 1 + 1 + 1 + 1 := by simp
  rw [show (w.alloc (.cells (y8 l).toArray 40)).heap.size = w.heap.size + 1 from by simp] at h2
  refine (?_ : ∀ w1 : World, Row w1 w.heap.size 40 (y8 l).toArray ∧ Row w1 (w.heap.size + 1) 40 (y8 r).toArray ∧ Row w1 (w.heap.size + 1 + 1) 40 (y8 (List.replicate 32 0)).toArray ∧ Below w.heap.size w w1 ∧ w1.ownsRow (w.heap.size + 1 + 1 + 1) 5 1 (.slice (some ⟨w.heap.size + 1 + 1 + 1, 0, none⟩) 0 64) 0 (y8 []) ∧ w1.heap.size = w.heap.size + 1 + 1 + 1 + 1 → Code.wp _ _ _ _ w1) _ ⟨h0 _ _, h1 _ _, h2, h3, h4, h5⟩
  clear h0 h1 h2 h3 h4 h5 hsz
  rintro w1 ⟨r0, r1, r2, b1, o1, s1⟩
  have hs1 : w.heap.size + 1 + 1 + 1 ≤ w1.heap.size := by omega
  have R0 := Lib.hid r0
  have R1 := Lib.hid r1
  have R2 := Lib.hid r2
  have B1 := Lib.hid b1
  have O1 := Lib.hid o1
  clear r0 r1 r2 b1 o1 s1
  go_upto_region 3 with (at_builtin; refine wpList_add w1 rfl _ _ rfl (w.heap.size + 1 + 1 + 1) (.slice (some ⟨w.heap.size + 1 + 1 + 1, 0, none⟩) 0 64) 0 [] rfl O1.out l w.heap.size 0 32 32 rfl Hl.out (row_bytes R0.out) (by decide) hs1 ?_; intro A2 c2 w2 hown2 hk2)
  have hs2 : w.heap.size + 1 + 1 + 1 ≤ w2.heap.size := Nat.le_trans hs1 hk2.size
  have S1 := Lib.hid (hk2.row _ _ _ R1.out (by omega))
  have S2 := Lib.hid (hk2.row _ _ _ R2.out (by omega))
  have SB := Lib.hid (hk2.below _ _ B1.out (by omega))
  have O2 : Hid (w2.ownsRow (w.heap.size + 1 + 1 + 1) 5 1 (.slice A2 32 c2) 32 (y8 l)) := Lib.hid (by simpa using hown2)
  clear hk2 hown2 R0 R1 R2 B1 O1 hs1
  go_upto_region 4 with (at_builtin; refine wpList_add w2 rfl _ _ rfl (w.heap.size + 1 + 1 + 1) (.slice A2 32 c2) 32 l rfl O2.out r (w.heap.size + 1) 0 32 32 rfl Hr.out (row_bytes S1.out) (by decide) hs2 ?_; intro A3 c3 w3 hown3 hk3)
  have Hr8 := Lib.hid (hk3.row _ _ _ S2.out (by omega))
  have Hb8 := Lib.hid (hk3.below _ _ SB.out (by omega))
  obtain ⟨g, hgA, _, hgc⟩ := own_bytes hown3 (by decide)
  have hgl : g < w3.heap.size := (hown3.lt g (by rw [hgA]; rfl)).2
  have hlr : (l ++ r).length = 64 := by rw [List.length_append, Hl.out, Hr.out]
  have hpc : PcOk w3 w3.heap.size ⟨A3, c3, l ++ r⟩ := ⟨fun k x hx => ⟨g, 0, hgA, hgl, by rw [Nat.zero_add]; exact hgc k x hx⟩, Or.inr ⟨g, 0, hgA, hgl⟩⟩
  have Hpc := Lib.hid hpc
  have Hlr := Lib.hid hlr
  have Hkt := Lib.hid (Hk.out.below Hb8.out (Nat.le_refl _))
  clear hk3 hown3 hgA hgc hgl hlr hpc S1 S2 SB O2 hs2
  go_wp2_with fail
  have hcall := nodeTag_any ⟨A3, c3, l ++ r⟩ w3 Hpc.out (by rw [Hlr.out]; decide) Hkt.out
  rw [Hlr.out] at hcall
  refine hcall.mono ?_
  clear hcall
  rintro e w5 ⟨rfl, hb5⟩
  have hr5 : Row w5 (w.heap.size + 1 + 1) 40 (y8 (List.replicate 32 0)).toArray := Hr8.out.below hb5 Hr8.out.lt
  have hb : Below w.heap.size w w5 := Hb8.out.trans (hb5.mono Hb8.out.size)
  obtain ⟨D, hD⟩ : ∃ D, D = shaF (4 :: [110, 111, 100, 101] ++ (l ++ r)) := ⟨_, rfl⟩
  have hDl : D.length = 32 := by rw [hD, shaF_len]
  rw [← hD]
  have Hth := Lib.hid (row_there hr5 (n := (y8 D).toArray.size) (by rw [List.size_toArray, y8_len, hDl]; simp [y8]))
  have Hsz := Lib.hid (size40 hDl)
  have Hr5 := Lib.hid hr5
  have Hb := Lib.hid hb
  have HD := Lib.hid hD
  have HDl := Lib.hid hDl
  clear hr5 hb hb5 hD hDl
  go_wp2_with (refine wpList_store_mid rfl 40 _ _ rfl (w.heap.size + 1 + 1) 0 (y8 D).toArray rfl rfl Hth.out Hsz.out (all_oneCell_toArray (y8_one _)) ?_)
  have hfin : Row (w5.setCells (w.heap.size + 1 + 1) 0 (y8 D)) (w.heap.size + 1 + 1) 40 (y8 D).toArray := row_put Hr5.out (by rw [y8_len, HDl.out]; simp [y8])
  refine bodyPost_ret (results_cell_row rfl _ _ (w.heap.size + 1 + 1) 40 (y8 D).toArray (0, 0) _ rfl hfin Tryz.underlying40 rfl Hsz.out) rfl ⟨?_, ?_⟩
  · rw [HD.out]; rfl
  · exact below_cells _ _ Hb.out (by omega)

end Go.Proofs.YtcdfjnnkocmeeaaGreatDoor
