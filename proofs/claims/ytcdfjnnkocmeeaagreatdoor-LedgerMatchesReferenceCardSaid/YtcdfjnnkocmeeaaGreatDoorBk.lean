/-
  digest.block as a function of numbers.
  Conditions: as each theorem states them.
-/
import Derived.Test.YtcdfjnnkocmeeaaGreatDoorRt
import Derived.Test.YtcdfjnnkocmeeaaGreatDoorFresh
import Derived.StillTailTactics
import Derived.Deep.QuietTactic
import Derived.Deep.RegionWith
import Derived.BigQuiet
import Derived.Deep.DeepCutAuto
import Derived.Maps.RangeWalk
namespace Go.Proofs.YtcdfjnnkocmeeaaGreatDoor
open Go.RowKit Go.Lib

def u32s (L : List Int) : Array Value := (L.map (Value.int .u32)).toArray
def padW (L : List Int) : List Int := (List.range 64).map fun i => L.getD i 0
/-- A slice reads as bytes. -/
def RdY (w : World) (B : Nat) (A : Option Addr) (l : List Int) : Prop :=
  ∀ k x, l[k]? = some x → ∃ b off, A = some ⟨b, off, none⟩ ∧ b < B ∧ w.cell? ⟨b, off + k, none⟩ = some (.int .u8 x)
theorem Row.new2 (w : World) (t t2 : TypeId) (xs ys zs : Array Value) : Row (((w.alloc (.cells xs t)).alloc (.cells ys t)).alloc (.cells zs t2)) w.heap.size t xs ∧ Row (((w.alloc (.cells xs t)).alloc (.cells ys t)).alloc (.cells zs t2)) (w.heap.size + 1) t ys ∧ Row (((w.alloc (.cells xs t)).alloc (.cells ys t)).alloc (.cells zs t2)) (w.heap.size + 1 + 1) t2 zs := by
  refine ⟨((Row.new w t xs).alloc _).alloc _, ?_, ?_⟩
  · have h := Row.new (w.alloc (.cells xs t)) t ys
    rw [show (w.alloc (.cells xs t)).heap.size = w.heap.size + 1 from by simp] at h
    exact h.alloc _
  · have h := Row.new ((w.alloc (.cells xs t)).alloc (.cells ys t)) t2 zs
    rw [show ((w.alloc (.cells xs t)).alloc (.cells ys t)).heap.size = w.heap.size + 1 + 1 from by simp] at h
    exact h
structure H8 where
  a : Int
  b : Int
  c : Int
  d : Int
  e : Int
  f : Int
  g : Int
  h : Int
def H8.l (x : H8) : List Int := [x.a, x.b, x.c, x.d, x.e, x.f, x.g, x.h]

theorem u32s_at {L : List Int} {i : Nat} {v : Int} (h : L[i]? = some v) : (u32s L)[i]? = some (.int .u32 v) := by
  simp [u32s, h]
theorem u32s_set (L : List Int) (i : Nat) (v : Int) : (u32s L).setIfInBounds i (.int .u32 v) = u32s (L.set i v) := by
  simp [u32s, List.map_set]
theorem padW_at (L : List Int) {i : Nat} (h : i < 64) : (padW L)[i]? = some (L.getD i 0) := by simp [padW, h]
theorem padW_set {L : List Int} (_h : L.length < 64) (v : Int) : (padW L).set L.length v = padW (L ++ [v]) := by
  apply List.ext_getElem
  · simp [padW]
  · intro i h1 h2
    simp only [padW, List.getElem_set, List.getElem_map, List.getElem_range, List.getD_eq_getElem?_getD]
    by_cases e : L.length = i
    · subst e; simp
    · rw [if_neg e]
      by_cases e2 : i < L.length
      · rw [List.getElem?_append_left e2]
      · rw [List.getElem?_eq_none (by omega), List.getElem?_eq_none (by simp; omega)]

/-- The constants of the rounds. -/
def kT : List Int := [1116352408, 1899447441, 3049323471, 3921009573, 961987163, 1508970993, 2453635748, 2870763221, 3624381080, 310598401, 607225278, 1426881987, 1925078388, 2162078206, 2614888103, 3248222580, 3835390401, 4022224774, 264347078, 604807628, 770255983, 1249150122, 1555081692, 1996064986, 2554220882, 2821834349, 2952996808, 3210313671, 3336571891, 3584528711, 113926993, 338241895, 666307205, 773529912, 1294757372, 1396182291, 1695183700, 1986661051, 2177026350, 2456956037, 2730485921, 2820302411, 3259730800, 3345764771, 3516065817, 3600352804, 4094571909, 275423344, 430227734, 506948616, 659060556, 883997877, 958139571, 1322822218, 1537002063, 1747873779, 1955562222, 2024104815, 2227730452, 2361852424, 2428436474, 2756734187, 3204031479, 3329325298]
/-- The variable digest.k reads as the constants. -/
def KT (w : World) : Prop := 1 < w.heap.size ∧ ∀ i, i < 64 → w.cell? ⟨1, i, none⟩ = some (.int .u32 (kT.getD i 0))
def tF (y : H8) (kk wk : Int) : Int := ((y.h + bits BinOp.xor IntKind.u32 (bits BinOp.xor IntKind.u32 (rotG y.e (-6)) (rotG y.e (-11))) (rotG y.e (-25)) + bits BinOp.xor IntKind.u32 (bits BinOp.and IntKind.u32 y.e y.f) (bits BinOp.and IntKind.u32 (bits BinOp.xor IntKind.u32 (if IntKind.u32.signed = true then -1 else IntKind.u32.max) y.e) y.g) + kk) % 4294967296 + wk) % 4294967296
def uF (y : H8) : Int := (bits BinOp.xor IntKind.u32 (bits BinOp.xor IntKind.u32 (rotG y.a (-2)) (rotG y.a (-13))) (rotG y.a (-22)) + bits BinOp.xor IntKind.u32 (bits BinOp.xor IntKind.u32 (bits BinOp.and IntKind.u32 y.a y.b) (bits BinOp.and IntKind.u32 y.a y.c)) (bits BinOp.and IntKind.u32 y.b y.c)) % 4294967296
def roundF (y : H8) (kk wk : Int) : H8 := ⟨(tF y kk wk + uF y) % 4294967296, y.a, y.b, y.c, (y.d + tF y kk wk) % 4294967296, y.e, y.f, y.g⟩
def rounds (W : List Int) (x : H8) : Nat → H8
  | 0 => x
  | n + 1 => roundF (rounds W x n) (kT.getD n 0) (W.getD n 0)
/-- The two states added, as far as word k. -/
def plusN (x y : List Int) (k : Nat) : List Int := (List.range 8).map fun i => if i < k then (x.getD i 0 + y.getD i 0) % 4294967296 else x.getD i 0
theorem plusN_at {x y : List Int} {k : Nat} (_hx : x.length = 8) (hk : k < 8) : (plusN x y k)[k]? = some (x.getD k 0) := by simp [plusN, hk]
theorem plusN_step {x y : List Int} {k : Nat} (_hx : x.length = 8) (_hk : k < 8) : (plusN x y k).set k ((x.getD k 0 + y.getD k 0) % 4294967296) = plusN x y (k + 1) := by
  apply List.ext_getElem
  · simp [plusN]
  · intro i h1 h2
    simp only [plusN, List.getElem_set, List.getElem_map, List.getElem_range]
    by_cases e : k = i
    · subst e; simp
    · rw [if_neg e]
      by_cases e2 : i < k
      · rw [if_pos e2, if_pos (by omega)]
      · rw [if_neg e2, if_neg (by omega)]
def plusH (x y : H8) : H8 := ⟨(x.a + y.a) % 4294967296, (x.b + y.b) % 4294967296, (x.c + y.c) % 4294967296, (x.d + y.d) % 4294967296, (x.e + y.e) % 4294967296, (x.f + y.f) % 4294967296, (x.g + y.g) % 4294967296, (x.h + y.h) % 4294967296⟩
theorem eight {w : World} {g : Nat} {t : TypeId} {x : H8} (h : Row w g t (u32s x.l)) : w.cell? ⟨g, 0, none⟩ = some (.int .u32 x.a) ∧ w.cell? ⟨g, 1, none⟩ = some (.int .u32 x.b) ∧ w.cell? ⟨g, 2, none⟩ = some (.int .u32 x.c) ∧ w.cell? ⟨g, 3, none⟩ = some (.int .u32 x.d) ∧
    w.cell? ⟨g, 4, none⟩ = some (.int .u32 x.e) ∧ w.cell? ⟨g, 5, none⟩ = some (.int .u32 x.f) ∧ w.cell? ⟨g, 6, none⟩ = some (.int .u32 x.g) ∧ w.cell? ⟨g, 7, none⟩ = some (.int .u32 x.h) :=
  ⟨h.cell 0, h.cell 1, h.cell 2, h.cell 3, h.cell 4, h.cell 5, h.cell 6, h.cell 7⟩
/-- A state is stored, word by word. -/
def put8 (w : World) (g : Nat) (z : H8) : World := (((((((w.setCell ⟨g, 0, none⟩ (.int .u32 z.a)).setCell ⟨g, 1, none⟩ (.int .u32 z.b)).setCell ⟨g, 2, none⟩ (.int .u32 z.c)).setCell ⟨g, 3, none⟩ (.int .u32 z.d)).setCell ⟨g, 4, none⟩ (.int .u32 z.e)).setCell ⟨g, 5, none⟩ (.int .u32 z.f)).setCell ⟨g, 6, none⟩ (.int .u32 z.g)).setCell ⟨g, 7, none⟩ (.int .u32 z.h)
theorem row8 {w : World} {g : Nat} {t : TypeId} {y : H8} (h : Row w g t (u32s y.l)) (z : H8) : Row (put8 w g z) g t (u32s z.l) := by
  have h' := (((((((h.set 0 (.int .u32 z.a)).set 1 (.int .u32 z.b)).set 2 (.int .u32 z.c)).set 3 (.int .u32 z.d)).set 4 (.int .u32 z.e)).set 5 (.int .u32 z.f)).set 6 (.int .u32 z.g)).set 7 (.int .u32 z.h)
  simp only [u32s_set, H8.l, List.set_cons_zero, List.set_cons_succ] at h'
  exact h'
theorem far8 {w : World} {g g' : Nat} {t : TypeId} {cs : Array Value} (h : Row w g' t cs) (hne : g' ≠ g) (z : H8) : Row (put8 w g z) g' t cs :=
  (((((((h.far (p := ⟨g, 0, none⟩) hne _).far (p := ⟨g, 1, none⟩) hne _).far (p := ⟨g, 2, none⟩) hne _).far (p := ⟨g, 3, none⟩) hne _).far (p := ⟨g, 4, none⟩) hne _).far (p := ⟨g, 5, none⟩) hne _).far (p := ⟨g, 6, none⟩) hne _).far (p := ⟨g, 7, none⟩) hne _
theorem below8 {a w : World} {B g : Nat} (h : Below B a w) (hg : B ≤ g) (z : H8) : Below B a (put8 w g z) :=
  (((((((h.setCell (p := ⟨g, 0, none⟩) hg _).setCell (p := ⟨g, 1, none⟩) hg _).setCell (p := ⟨g, 2, none⟩) hg _).setCell (p := ⟨g, 3, none⟩) hg _).setCell (p := ⟨g, 4, none⟩) hg _).setCell (p := ⟨g, 5, none⟩) hg _).setCell (p := ⟨g, 6, none⟩) hg _).setCell (p := ⟨g, 7, none⟩) hg _
/-- Four bytes as a word. -/
def word4 (a b c d : Int) : Int := bits .or .u32 (bits .or .u32 (bits .or .u32 (IntKind.u32.wrap (IntKind.u32.wrap a * 16777216)) (IntKind.u32.wrap (IntKind.u32.wrap b * 65536))) (IntKind.u32.wrap (IntKind.u32.wrap c * 256))) (IntKind.u32.wrap d)
def word (bs : List Int) (k : Nat) : Int := word4 (bs.getD (4 * k) 0) (bs.getD (4 * k + 1) 0) (bs.getD (4 * k + 2) 0) (bs.getD (4 * k + 3) 0)
theorem word_at {bs : List Int} {k : Nat} {a b c d : Int} (h0 : bs[4 * k]? = some a) (h1 : bs[4 * k + 1]? = some b) (h2 : bs[4 * k + 2]? = some c) (h3 : bs[4 * k + 3]? = some d) : word bs k = word4 a b c d := by
  simp [word, List.getD_eq_getElem?_getD, h0, h1, h2, h3]
theorem Row.setw {w : World} {g : Nat} {L : List Int} (h : Row w g 167 (u32s (padW L))) {n : Nat} (hn : L.length = n) (h64 : n < 64) (v : Int) : Row (w.setCell ⟨g, n, none⟩ (.int .u32 v)) g 167 (u32s (padW (L ++ [v]))) := by
  subst hn
  rw [← padW_set h64, ← u32s_set]
  exact h.set _ _
/-- The next word of the schedule. -/
def sig0 (x : Int) : Int := bits .xor .u32 (bits .xor .u32 (rotF x 25) (rotF x 14)) (x / 8)
def sig1 (y : Int) : Int := bits .xor .u32 (bits .xor .u32 (rotF y 15) (rotF y 13)) (y / 1024)
def nextF (a x b y : Int) : Int := (a + sig0 x + b + sig1 y) % 4294967296
def nextW (L : List Int) : Int := nextF (L.getD (L.length - 16) 0) (L.getD (L.length - 15) 0) (L.getD (L.length - 7) 0) (L.getD (L.length - 2) 0)
def schedN (L : List Int) : Nat → List Int
  | 0 => L
  | n + 1 => schedN L n ++ [nextW (schedN L n)]
theorem schedN_len (L : List Int) : ∀ n, (schedN L n).length = L.length + n
  | 0 => rfl
  | n + 1 => by rw [schedN, List.length_append, schedN_len L n]; rfl
theorem range_step (f : Nat → Int) (k : Nat) : (List.range k).map f ++ [f k] = (List.range (k + 1)).map f := by rw [List.range_succ, List.map_append]; rfl

/-- The state behind a block. -/
def blockF (bs : List Int) (x : H8) : H8 := plusH x (rounds (schedN ((List.range 16).map (word bs)) 48) x 64)

set_option maxRecDepth 100000 in
set_option maxHeartbeats 4000000 in
theorem block_any (x : H8) (bs : List Int) (A : Option Addr) (c : Nat) (w : World) (hb : RdY w w.heap.size A bs) (hl : bs.length = 64) (hk : KT w) :
    Calls Tryz.prog 67 #[.agg #[.int .u32 x.a, .int .u32 x.b, .int .u32 x.c, .int .u32 x.d, .int .u32 x.e, .int .u32 x.f, .int .u32 x.g, .int .u32 x.h], .slice A 64 c] w fun e w' => e = .returned (.agg (u32s (blockF bs x).l)) ∧ Below w.heap.size w w' := by
  have Hb := Lib.hid hb
  have Hl := Lib.hid hl
  have Hk := Lib.hid hk
  clear hb hl hk
  go_enter Tryz.func67, Tryz.ntmps67
  go_wp2
  obtain ⟨hb, hhb⟩ : ∃ hb, hb = w.heap.size := ⟨_, rfl⟩
  have hR := Row.new2 w 129 167 (u32s x.l) (u32s [0, 0, 0, 0, 0, 0, 0, 0]) (u32s (padW []))
  have hb1 : Below hb w (((w.alloc (.cells (u32s x.l) 129)).alloc (.cells (u32s [0, 0, 0, 0, 0, 0, 0, 0]) 129)).alloc (.cells (u32s (padW [])) 167)) := by rw [hhb]; exact (((Below.refl _ _).alloc (Nat.le_refl _) _).alloc (by simp) _).alloc (by simp; omega) _
  have hrd : RdY w hb A bs := by rw [hhb]; exact Hb.out
  rw [← hhb] at hR ⊢
  have Hhb := Lib.hid hhb
  have Hrd := Lib.hid hrd
  clear hrd hhb
  refine (?_ : ∀ w1 : World, (Row w1 hb 129 (u32s x.l) ∧ Row w1 (hb + 1) 129 (u32s [0, 0, 0, 0, 0, 0, 0, 0]) ∧ Row w1 (hb + 1 + 1) 167 (u32s (padW []))) ∧ Below hb w w1 → Code.wp _ _ _ _ w1) _ ⟨hR, hb1⟩
  clear hR hb1
  rintro w1 ⟨⟨r0, r1, r2⟩, hb1⟩
  have Hr0 := Lib.hid r0
  have Hr1 := Lib.hid r1
  have Hr2 := Lib.hid r2
  have Hb1 := Lib.hid hb1
  clear r0 r1 r2 hb1
  go_loopw [6, 19] (fun _ i wr => ∃ k : Nat, k ≤ 16 ∧ i = .int .i64 k ∧ Row wr hb 129 (u32s x.l) ∧ Row wr (hb + 1) 129 (u32s [0, 0, 0, 0, 0, 0, 0, 0]) ∧ Row wr (hb + 1 + 1) 167 (u32s (padW ((List.range k).map (word bs)))) ∧ Below hb w wr)
    (fun _ i _ => 16 - (intOf i).toNat)
  case atStart => exact ⟨0, Nat.zero_le _, rfl, Hr0.out, Hr1.out, Hr2.out, Hb1.out⟩
  case round =>
    obtain ⟨k, hk, rfl, r0, r1, r2, hbel⟩ := hrel
    by_cases hlt : k < 16
    · obtain ⟨b0, hb0⟩ : ∃ v, bs[4 * k]? = some v := ⟨_, List.getElem?_eq_getElem (by rw [Hl.out]; omega)⟩
      obtain ⟨b1, hb1⟩ : ∃ v, bs[4 * k + 1]? = some v := ⟨_, List.getElem?_eq_getElem (by rw [Hl.out]; omega)⟩
      obtain ⟨b2, hb2⟩ : ∃ v, bs[4 * k + 2]? = some v := ⟨_, List.getElem?_eq_getElem (by rw [Hl.out]; omega)⟩
      obtain ⟨b3, hb3⟩ : ∃ v, bs[4 * k + 3]? = some v := ⟨_, List.getElem?_eq_getElem (by rw [Hl.out]; omega)⟩
      obtain ⟨q, off, rfl, hqw, c0⟩ := Hrd.out _ _ hb0
      obtain ⟨q1, off1, e1, _, c1⟩ := Hrd.out _ _ hb1
      obtain ⟨q2, off2, e2, _, c2⟩ := Hrd.out _ _ hb2
      obtain ⟨q3, off3, e3, _, c3⟩ := Hrd.out _ _ hb3
      cases e1
      cases e2
      cases e3
      have d0 := (hbel.cell (p := ⟨q, off + 4 * k, none⟩) hqw).trans c0
      have d1 := (hbel.cell (p := ⟨q, off + (4 * k + 1), none⟩) hqw).trans c1
      have d2 := (hbel.cell (p := ⟨q, off + (4 * k + 2), none⟩) hqw).trans c2
      have d3 := (hbel.cell (p := ⟨q, off + (4 * k + 3), none⟩) hqw).trans c3
      have i0 : (0 : Int) ≤ (k : Int) := by omega
      have i1 : (k : Int) < 16 := by omega
      have ec : wr.cell? ⟨hb + 1 + 1, k, none⟩ = some (.int .u32 (((List.range k).map (word bs)).getD k 0)) := (r2.cell k).trans (u32s_at (padW_at _ (by omega)))
      have ef : wr.frozen? ⟨hb + 1 + 1, k, none⟩ = false := r2.frozen k
      have Hword := Lib.hid (word_at hb0 hb1 hb2 hb3)
      have R0 := Lib.hid r0
      have R1 := Lib.hid r1
      have R2 := Lib.hid r2
      have Hbel := Lib.hid hbel
      clear r0 r1 r2 hbel c0 c1 c2 c3 hb0 hb1 hb2 hb3
      have wq0 : IntKind.i64.wrap (4 * (k : Int)) = 4 * (k : Int) := by rw [IntWalk.i64_left]; unfold wrap64; omega
      have tq0 : (4 * (k : Int)).toNat = 4 * k := by omega
      have zq0 : 0 ≤ 4 * (k : Int) := by omega
      have lq0 : 4 * (k : Int) < 64 := by omega
      have wq1 : IntKind.i64.wrap (4 * (k : Int) + 1) = 4 * (k : Int) + 1 := by rw [IntWalk.i64_left]; unfold wrap64; omega
      have tq1 : (4 * (k : Int) + 1).toNat = 4 * k + 1 := by omega
      have zq1 : 0 ≤ 4 * (k : Int) + 1 := by omega
      have lq1 : 4 * (k : Int) + 1 < 64 := by omega
      have wq2 : IntKind.i64.wrap (4 * (k : Int) + 2) = 4 * (k : Int) + 2 := by rw [IntWalk.i64_left]; unfold wrap64; omega
      have tq2 : (4 * (k : Int) + 2).toNat = 4 * k + 2 := by omega
      have zq2 : 0 ≤ 4 * (k : Int) + 2 := by omega
      have lq2 : 4 * (k : Int) + 2 < 64 := by omega
      have wq3 : IntKind.i64.wrap (4 * (k : Int) + 3) = 4 * (k : Int) + 3 := by rw [IntWalk.i64_left]; unfold wrap64; omega
      have tq3 : (4 * (k : Int) + 3).toNat = 4 * k + 3 := by omega
      have zq3 : 0 ≤ 4 * (k : Int) + 3 := by omega
      have lq3 : 4 * (k : Int) + 3 < 64 := by omega
      have tk : (k : Int).toNat = k := by omega
      have i64 : (k : Int) < 64 := by omega
      go_upto_region 5 with fail
      go_still_tail 35, (by kernel_rfl)
      go_wp2
      go_roundw
      case rel =>
        refine ⟨k + 1, by omega, by go_num, R0.out.drew.far (p := ⟨_, _, none⟩) (by simp; omega) _, R1.out.drew.far (p := ⟨_, _, none⟩) (by simp) _, ?_, Hbel.out.drew.setCell (p := ⟨_, _, none⟩) (by simp; omega) _⟩
        rw [← range_step (word bs) k, Hword.out]
        exact R2.out.drew.setw (by simp) (by omega) _
      case measure => simp [intOf]; omega
    · obtain rfl : k = 16 := by omega
      rw [show ((16 : Nat) : Int) = 16 from rfl]
      have Hr0 := Lib.hid r0
      have Hr1 := Lib.hid r1
      have Hr2 := Lib.hid r2
      have Hb1 := Lib.hid hbel
      clear r0 r1 r2 hbel hk hlt
      go_wp2_with fail
      have hL0 : ((List.range 16).map (word bs)).length = 16 := by simp
      obtain ⟨L0, hL0e⟩ : ∃ L0, L0 = (List.range 16).map (word bs) := ⟨_, rfl⟩
      rw [← hL0e] at hL0 Hr2
      have HL0 := Lib.hid hL0
      have HL0e := Lib.hid hL0e
      clear hL0 hL0e
      go_loopw [7] (fun i wr => ∃ k : Nat, 16 ≤ k ∧ k ≤ 64 ∧ i = .int .i64 k ∧ Row wr hb 129 (u32s x.l) ∧ Row wr (hb + 1) 129 (u32s [0, 0, 0, 0, 0, 0, 0, 0]) ∧ Row wr (hb + 1 + 1) 167 (u32s (padW (schedN L0 (k - 16)))) ∧ Below hb w wr)
        (fun i _ => 64 - (intOf i).toNat)
      case atStart => exact ⟨16, Nat.le_refl _, by omega, rfl, Hr0.out, Hr1.out, Hr2.out, Hb1.out⟩
      case round =>
        obtain ⟨k, hk0, hk, rfl, r0, r1, r2, hbel⟩ := hrel
        by_cases hlt : k < 64
        · obtain ⟨L, hL⟩ : ∃ L, L = schedN L0 (k - 16) := ⟨_, rfl⟩
          have hLl : L.length = k := by rw [hL, schedN_len, HL0.out]; omega
          rw [← hL] at r2
          have hn : nextW L = nextF (L.getD (k - 16) 0) (L.getD (k - 15) 0) (L.getD (k - 7) 0) (L.getD (k - 2) 0) := by rw [nextW, hLl]
          have c16 : wr.cell? ⟨hb + 1 + 1, k - 16, none⟩ = some (.int .u32 (L.getD (k - 16) 0)) := (r2.cell _).trans (u32s_at (padW_at _ (by omega)))
          have c15 : wr.cell? ⟨hb + 1 + 1, k - 15, none⟩ = some (.int .u32 (L.getD (k - 15) 0)) := (r2.cell _).trans (u32s_at (padW_at _ (by omega)))
          have c7 : wr.cell? ⟨hb + 1 + 1, k - 7, none⟩ = some (.int .u32 (L.getD (k - 7) 0)) := (r2.cell _).trans (u32s_at (padW_at _ (by omega)))
          have c2 : wr.cell? ⟨hb + 1 + 1, k - 2, none⟩ = some (.int .u32 (L.getD (k - 2) 0)) := (r2.cell _).trans (u32s_at (padW_at _ (by omega)))
          have ck : wr.cell? ⟨hb + 1 + 1, k, none⟩ = some (.int .u32 (L.getD k 0)) := (r2.cell _).trans (u32s_at (padW_at _ hlt))
          have fk : wr.frozen? ⟨hb + 1 + 1, k, none⟩ = false := r2.frozen k
          generalize L.getD (k - 16) 0 = va at c16 hn
          generalize L.getD (k - 15) 0 = vx at c15 hn
          generalize L.getD (k - 7) 0 = vb at c7 hn
          generalize L.getD (k - 2) 0 = vy at c2 hn
          have Hn := Lib.hid hn
          have HL := Lib.hid hL
          have HLl := Lib.hid hLl
          have R0 := Lib.hid r0
          have R1 := Lib.hid r1
          have R2 := Lib.hid r2
          have Hbel := Lib.hid hbel
          clear hn hL hLl r0 r1 r2 hbel
          have i0 : (16 : Int) ≤ (k : Int) := by omega
          have i1 : (k : Int) < 64 := by omega
          have ww16 : IntKind.i64.wrap ((k : Int) - 16) = (k : Int) - 16 := by rw [IntWalk.i64_left]; unfold wrap64; omega
          have wt16 : ((k : Int) - 16).toNat = k - 16 := by omega
          have wz16 : 0 ≤ (k : Int) - 16 := by omega
          have wl16 : (k : Int) - 16 < 64 := by omega
          have ww15 : IntKind.i64.wrap ((k : Int) - 15) = (k : Int) - 15 := by rw [IntWalk.i64_left]; unfold wrap64; omega
          have wt15 : ((k : Int) - 15).toNat = k - 15 := by omega
          have wz15 : 0 ≤ (k : Int) - 15 := by omega
          have wl15 : (k : Int) - 15 < 64 := by omega
          have ww7 : IntKind.i64.wrap ((k : Int) - 7) = (k : Int) - 7 := by rw [IntWalk.i64_left]; unfold wrap64; omega
          have wt7 : ((k : Int) - 7).toNat = k - 7 := by omega
          have wz7 : 0 ≤ (k : Int) - 7 := by omega
          have wl7 : (k : Int) - 7 < 64 := by omega
          have ww2 : IntKind.i64.wrap ((k : Int) - 2) = (k : Int) - 2 := by rw [IntWalk.i64_left]; unfold wrap64; omega
          have wt2 : ((k : Int) - 2).toNat = k - 2 := by omega
          have wz2 : 0 ≤ (k : Int) - 2 := by omega
          have wl2 : (k : Int) - 2 < 64 := by omega
          have wtk : (k : Int).toNat = k := by omega
          have wy7 : 7 ≤ (k : Int) := by omega
          have wv7 : (k : Int) < 64 + 7 := by omega
          have wy16 : 16 ≤ (k : Int) := by omega
          have wv16 : (k : Int) < 64 + 16 := by omega
          go_upto_region 10 with fail
          go_quiet (fail)
          go_wp2_with fail
          refine (rot7 vx _).mono ?_
          rintro e w' ⟨rfl, rfl⟩
          go_wp2_with fail
          refine (rot18 vx _).mono ?_
          rintro e w' ⟨rfl, rfl⟩
          go_wp2_with fail
          refine (rot17 vy _).mono ?_
          rintro e w' ⟨rfl, rfl⟩
          go_wp2_with fail
          refine (rot19 vy _).mono ?_
          rintro e w' ⟨rfl, rfl⟩
          go_upto_region 13 with fail
          rw [show bits BinOp.xor IntKind.u32 (bits BinOp.xor IntKind.u32 (rotF vx 25) (rotF vx 14)) (vx / 8) = sig0 vx from rfl, show bits BinOp.xor IntKind.u32 (bits BinOp.xor IntKind.u32 (rotF vy 15) (rotF vy 13)) (vy / 1024) = sig1 vy from rfl]
          obtain ⟨w2, hw2⟩ : ∃ w2, w2 = wr.drewN nq := ⟨_, rfl⟩
          have e16 : w2.cell? ⟨hb + 1 + 1, k - 16, none⟩ = some (.int .u32 va) := by rw [hw2]; exact c16
          have e7 : w2.cell? ⟨hb + 1 + 1, k - 7, none⟩ = some (.int .u32 vb) := by rw [hw2]; exact c7
          have ek : w2.cell? ⟨hb + 1 + 1, k, none⟩ = some (.int .u32 (L.getD k 0)) := by rw [hw2]; exact ck
          have gk : w2.frozen? ⟨hb + 1 + 1, k, none⟩ = false := by rw [hw2]; exact fk
          have S0 : Hid (Row w2 hb 129 (u32s x.l)) := by rw [hw2]; exact R0
          have S1 : Hid (Row w2 (hb + 1) 129 (u32s [0, 0, 0, 0, 0, 0, 0, 0])) := by rw [hw2]; exact R1
          have S2 : Hid (Row w2 (hb + 1 + 1) 167 (u32s (padW L))) := by rw [hw2]; exact R2
          have SB : Hid (Below hb w w2) := by rw [hw2]; exact Lib.hid (Below.drewsN Hbel.out _)
          rw [← hw2]
          clear hw2 c16 c15 c7 c2 ck fk R0 R1 R2 Hbel
          go_still_tail 15, (by kernel_rfl)
          go_wp2
          go_roundw
          case rel =>
            refine ⟨k + 1, by omega, by omega, by go_num, S0.out.drew.far (p := ⟨_, _, none⟩) (by simp; omega) _, S1.out.drew.far (p := ⟨_, _, none⟩) (by simp) _, ?_, SB.out.drew.setCell (p := ⟨_, _, none⟩) (by simp; omega) _⟩
            have e : schedN L0 (k + 1 - 16) = L ++ [nextW L] := by
              rw [show k + 1 - 16 = (k - 16) + 1 from by omega, schedN, ← HL.out]
            rw [e, Hn.out]
            exact S2.out.drew.setw HLl.out (by omega) _
          case measure => simp [intOf]; omega
        · obtain rfl : k = 64 := by omega
          rw [show ((64 : Nat) : Int) = 64 from rfl]
          have Hr0 := Lib.hid r0
          have Hr1 := Lib.hid r1
          have Hr2 := Lib.hid r2
          have Hb1 := Lib.hid hbel
          clear r0 r1 r2 hbel hk hk0 hlt
          obtain ⟨h0, h1, h2, h3, h4, h5, h6, h7⟩ := eight Hr0.out
          have hh0 : hb < wr.heap.size := Hr0.out.lt
          go_wp2_with fail
          obtain ⟨sb, hsb⟩ : ∃ sb, sb = wr.heap.size := ⟨_, rfl⟩
          obtain ⟨W, hW⟩ : ∃ W, W = schedN L0 48 := ⟨_, rfl⟩
          have hr0 : Row (wr.alloc (.cells (u32s x.l) 129)) hb 129 (u32s x.l) := Hr0.out.alloc _
          have hr1 : Row (wr.alloc (.cells (u32s x.l) 129)) (hb + 1) 129 (u32s [0, 0, 0, 0, 0, 0, 0, 0]) := Hr1.out.alloc _
          have hr2 : Row (wr.alloc (.cells (u32s x.l) 129)) (hb + 1 + 1) 167 (u32s (padW W)) := by rw [hW]; exact Hr2.out.alloc _
          have hr3 : Row (wr.alloc (.cells (u32s x.l) 129)) sb 129 (u32s x.l) := by rw [hsb]; exact Row.new _ _ _
          have hbb : Below hb w (wr.alloc (.cells (u32s x.l) 129)) := Hb1.out.alloc (Nat.le_of_lt hh0) _
          have hsb2 : hb + 1 + 1 < sb := by rw [hsb]; exact Hr2.out.lt
          rw [← hsb]
          refine (?_ : ∀ w1 : World, (Row w1 hb 129 (u32s x.l) ∧ Row w1 (hb + 1) 129 (u32s [0, 0, 0, 0, 0, 0, 0, 0]) ∧ Row w1 (hb + 1 + 1) 167 (u32s (padW W)) ∧ Row w1 sb 129 (u32s x.l)) ∧ Below hb w w1 → Code.wp _ _ _ _ w1) _ ⟨⟨hr0, hr1, hr2, hr3⟩, hbb⟩
          clear hr0 hr1 hr2 hr3 hbb hsb Hr0 Hr1 Hr2 Hb1 h0 h1 h2 h3 h4 h5 h6 h7 hh0
          rintro w1 ⟨⟨r0, r1, r2, r3⟩, hb1⟩
          have Hr0 := Lib.hid r0
          have Hr1 := Lib.hid r1
          have Hr2 := Lib.hid r2
          have Hr3 := Lib.hid r3
          have Hb1 := Lib.hid hb1
          have HW := Lib.hid hW
          clear r0 r1 r2 r3 hb1 hW
          go_loopw [102] (fun i wr => ∃ k : Nat, k ≤ 64 ∧ i = .int .i64 k ∧ Row wr hb 129 (u32s x.l) ∧ Row wr (hb + 1) 129 (u32s [0, 0, 0, 0, 0, 0, 0, 0]) ∧ Row wr (hb + 1 + 1) 167 (u32s (padW W)) ∧ Row wr sb 129 (u32s (rounds W x k).l) ∧ Below hb w wr)
            (fun i _ => 64 - (intOf i).toNat)
          case atStart => exact ⟨0, Nat.zero_le _, rfl, Hr0.out, Hr1.out, Hr2.out, Hr3.out, Hb1.out⟩
          case round =>
            obtain ⟨k, hk, rfl, r0, r1, r2, r3, hbel⟩ := hrel
            by_cases hlt : k < 64
            · obtain ⟨y, hy⟩ : ∃ y, y = rounds W x k := ⟨_, rfl⟩
              rw [← hy] at r3
              obtain ⟨h0, h1, h2, h3, h4, h5, h6, h7⟩ := eight r3
              have hK : wr.cell? ⟨1, k, none⟩ = some (.int .u32 (kT.getD k 0)) := (hbel.cell (p := ⟨1, k, none⟩) (by have := Hk.out.1; rw [Hhb.out]; exact this)).trans (Hk.out.2 k hlt)
              have hWk : wr.cell? ⟨hb + 1 + 1, k, none⟩ = some (.int .u32 (W.getD k 0)) := (r2.cell _).trans (u32s_at (padW_at _ hlt))
              have hst : rounds W x (k + 1) = roundF y (kT.getD k 0) (W.getD k 0) := by rw [hy]; rfl
              generalize kT.getD k 0 = kk at hK hst
              generalize W.getD k 0 = wk at hWk hst
              have Hst := Lib.hid hst
              have R0 := Lib.hid r0
              have R1 := Lib.hid r1
              have R2 := Lib.hid r2
              have R3 := Lib.hid r3
              have Hbel := Lib.hid hbel
              clear hst hy r0 r1 r2 r3 hbel
              have i0 : (0 : Int) ≤ (k : Int) := by omega
              have i1 : (k : Int) < 64 := by omega
              have tk : (k : Int).toNat = k := by omega
              go_upto_region 18 with fail
              go_quiet (fail)
              obtain ⟨w2, hw⟩ : ∃ w2, w2 = wr.drewN nq := ⟨_, rfl⟩
              have h0 : w2.cell? ⟨sb, 0, none⟩ = some (.int .u32 y.a) := by rw [hw]; exact h0
              have h1 : w2.cell? ⟨sb, 1, none⟩ = some (.int .u32 y.b) := by rw [hw]; exact h1
              have h2 : w2.cell? ⟨sb, 2, none⟩ = some (.int .u32 y.c) := by rw [hw]; exact h2
              have h3 : w2.cell? ⟨sb, 3, none⟩ = some (.int .u32 y.d) := by rw [hw]; exact h3
              have h4 : w2.cell? ⟨sb, 4, none⟩ = some (.int .u32 y.e) := by rw [hw]; exact h4
              have h5 : w2.cell? ⟨sb, 5, none⟩ = some (.int .u32 y.f) := by rw [hw]; exact h5
              have h6 : w2.cell? ⟨sb, 6, none⟩ = some (.int .u32 y.g) := by rw [hw]; exact h6
              have h7 : w2.cell? ⟨sb, 7, none⟩ = some (.int .u32 y.h) := by rw [hw]; exact h7
              have hK : w2.cell? ⟨1, k, none⟩ = some (.int .u32 kk) := by rw [hw]; exact hK
              have hWk : w2.cell? ⟨hb + 1 + 1, k, none⟩ = some (.int .u32 wk) := by rw [hw]; exact hWk
              have R0 : Hid (Row w2 hb 129 (u32s x.l)) := by rw [hw]; exact R0
              have R1 : Hid (Row w2 (hb + 1) 129 (u32s [0, 0, 0, 0, 0, 0, 0, 0])) := by rw [hw]; exact R1
              have R2 : Hid (Row w2 (hb + 1 + 1) 167 (u32s (padW W))) := by rw [hw]; exact R2
              have R3 : Hid (Row w2 sb 129 (u32s y.l)) := by rw [hw]; exact R3
              have Hbel : Hid (Below hb w w2) := by rw [hw]; exact Lib.hid (Below.drewsN Hbel.out _)
              rw [← hw]
              clear hw
              go_upto_region 19 with fail
              go_quiet ((go_at_call 88; exact Calls.quiet_of_same (rot_gen _ _ _ (by kernel_rfl))))
              obtain ⟨w3, hw⟩ : ∃ w3, w3 = w2.drewN nq := ⟨_, rfl⟩
              have h0 : w3.cell? ⟨sb, 0, none⟩ = some (.int .u32 y.a) := by rw [hw]; exact h0
              have h1 : w3.cell? ⟨sb, 1, none⟩ = some (.int .u32 y.b) := by rw [hw]; exact h1
              have h2 : w3.cell? ⟨sb, 2, none⟩ = some (.int .u32 y.c) := by rw [hw]; exact h2
              have h3 : w3.cell? ⟨sb, 3, none⟩ = some (.int .u32 y.d) := by rw [hw]; exact h3
              have h4 : w3.cell? ⟨sb, 4, none⟩ = some (.int .u32 y.e) := by rw [hw]; exact h4
              have h5 : w3.cell? ⟨sb, 5, none⟩ = some (.int .u32 y.f) := by rw [hw]; exact h5
              have h6 : w3.cell? ⟨sb, 6, none⟩ = some (.int .u32 y.g) := by rw [hw]; exact h6
              have h7 : w3.cell? ⟨sb, 7, none⟩ = some (.int .u32 y.h) := by rw [hw]; exact h7
              have hK : w3.cell? ⟨1, k, none⟩ = some (.int .u32 kk) := by rw [hw]; exact hK
              have hWk : w3.cell? ⟨hb + 1 + 1, k, none⟩ = some (.int .u32 wk) := by rw [hw]; exact hWk
              have R0 : Hid (Row w3 hb 129 (u32s x.l)) := by rw [hw]; exact R0
              have R1 : Hid (Row w3 (hb + 1) 129 (u32s [0, 0, 0, 0, 0, 0, 0, 0])) := by rw [hw]; exact R1
              have R2 : Hid (Row w3 (hb + 1 + 1) 167 (u32s (padW W))) := by rw [hw]; exact R2
              have R3 : Hid (Row w3 sb 129 (u32s y.l)) := by rw [hw]; exact R3
              have Hbel : Hid (Below hb w w3) := by rw [hw]; exact Lib.hid (Below.drewsN Hbel.out _)
              rw [← hw]
              clear hw
              rw [show ((y.h + bits BinOp.xor IntKind.u32 (bits BinOp.xor IntKind.u32 (rotG y.e (-6)) (rotG y.e (-11))) (rotG y.e (-25)) + bits BinOp.xor IntKind.u32 (bits BinOp.and IntKind.u32 y.e y.f) (bits BinOp.and IntKind.u32 (bits BinOp.xor IntKind.u32 (if IntKind.u32.signed = true then -1 else IntKind.u32.max) y.e) y.g) + kk) % 4294967296 + wk) % 4294967296 = tF y kk wk from rfl]
              go_upto_region 20 with fail
              go_quiet ((go_at_call 88; exact Calls.quiet_of_same (rot_gen _ _ _ (by kernel_rfl))))
              obtain ⟨w4, hw⟩ : ∃ w4, w4 = w3.drewN nq := ⟨_, rfl⟩
              have h0 : w4.cell? ⟨sb, 0, none⟩ = some (.int .u32 y.a) := by rw [hw]; exact h0
              have h1 : w4.cell? ⟨sb, 1, none⟩ = some (.int .u32 y.b) := by rw [hw]; exact h1
              have h2 : w4.cell? ⟨sb, 2, none⟩ = some (.int .u32 y.c) := by rw [hw]; exact h2
              have h3 : w4.cell? ⟨sb, 3, none⟩ = some (.int .u32 y.d) := by rw [hw]; exact h3
              have h4 : w4.cell? ⟨sb, 4, none⟩ = some (.int .u32 y.e) := by rw [hw]; exact h4
              have h5 : w4.cell? ⟨sb, 5, none⟩ = some (.int .u32 y.f) := by rw [hw]; exact h5
              have h6 : w4.cell? ⟨sb, 6, none⟩ = some (.int .u32 y.g) := by rw [hw]; exact h6
              have h7 : w4.cell? ⟨sb, 7, none⟩ = some (.int .u32 y.h) := by rw [hw]; exact h7
              have hK : w4.cell? ⟨1, k, none⟩ = some (.int .u32 kk) := by rw [hw]; exact hK
              have hWk : w4.cell? ⟨hb + 1 + 1, k, none⟩ = some (.int .u32 wk) := by rw [hw]; exact hWk
              have R0 : Hid (Row w4 hb 129 (u32s x.l)) := by rw [hw]; exact R0
              have R1 : Hid (Row w4 (hb + 1) 129 (u32s [0, 0, 0, 0, 0, 0, 0, 0])) := by rw [hw]; exact R1
              have R2 : Hid (Row w4 (hb + 1 + 1) 167 (u32s (padW W))) := by rw [hw]; exact R2
              have R3 : Hid (Row w4 sb 129 (u32s y.l)) := by rw [hw]; exact R3
              have Hbel : Hid (Below hb w w4) := by rw [hw]; exact Lib.hid (Below.drewsN Hbel.out _)
              rw [← hw]
              clear hw
              rw [show (bits BinOp.xor IntKind.u32 (bits BinOp.xor IntKind.u32 (rotG y.a (-2)) (rotG y.a (-13))) (rotG y.a (-22)) + bits BinOp.xor IntKind.u32 (bits BinOp.xor IntKind.u32 (bits BinOp.and IntKind.u32 y.a y.b) (bits BinOp.and IntKind.u32 y.a y.c)) (bits BinOp.and IntKind.u32 y.b y.c)) % 4294967296 = uF y from rfl]
              have g0 : w4.frozen? ⟨sb, 0, none⟩ = false := R3.out.frozen 0
              have g1 : w4.frozen? ⟨sb, 1, none⟩ = false := R3.out.frozen 1
              have g2 : w4.frozen? ⟨sb, 2, none⟩ = false := R3.out.frozen 2
              have g3 : w4.frozen? ⟨sb, 3, none⟩ = false := R3.out.frozen 3
              have g4 : w4.frozen? ⟨sb, 4, none⟩ = false := R3.out.frozen 4
              have g5 : w4.frozen? ⟨sb, 5, none⟩ = false := R3.out.frozen 5
              have g6 : w4.frozen? ⟨sb, 6, none⟩ = false := R3.out.frozen 6
              have g7 : w4.frozen? ⟨sb, 7, none⟩ = false := R3.out.frozen 7
              generalize htt : tF y kk wk = tt
              generalize huu : uF y = uu
              have Htt := Lib.hid htt
              have Huu := Lib.hid huu
              clear htt huu
              go_wp2
              obtain ⟨zz, hzz⟩ : ∃ zz : H8, zz = ⟨(tt + uu) % 4294967296, y.a, y.b, y.c, (y.d + tt) % 4294967296, y.e, y.f, y.g⟩ := ⟨_, rfl⟩
              rw [show (((((((w4.setCell { block := sb, off := 0 } (Value.int IntKind.u32 ((tt + uu) % 4294967296))).setCell { block := sb, off := 1 } (Value.int IntKind.u32 y.a)).setCell { block := sb, off := 2 } (Value.int IntKind.u32 y.b)).setCell { block := sb, off := 3 } (Value.int IntKind.u32 y.c)).setCell { block := sb, off := 4 } (Value.int IntKind.u32 ((y.d + tt) % 4294967296))).setCell { block := sb, off := 5 } (Value.int IntKind.u32 y.e)).setCell { block := sb, off := 6 } (Value.int IntKind.u32 y.f)).setCell { block := sb, off := 7 } (Value.int IntKind.u32 y.g) = put8 w4 sb zz from by rw [hzz]; rfl]
              have Hzz := Lib.hid hzz
              clear hzz
              go_roundw
              case rel =>
                refine ⟨k + 1, by omega, by go_num, far8 R0.out (by omega) _, far8 R1.out (by omega) _, far8 R2.out (by omega) _, ?_, below8 Hbel.out (by omega) _⟩
                rw [Hst.out, roundF, Htt.out, Huu.out, ← Hzz.out]
                exact row8 R3.out _
              case measure => simp [intOf]; omega
            · obtain rfl : k = 64 := by omega
              rw [show ((64 : Nat) : Int) = 64 from rfl]
              obtain ⟨y, hy⟩ : ∃ y, y = rounds W x 64 := ⟨_, rfl⟩
              rw [← hy] at r3
              have Hr0 := Lib.hid r0
              have Hr1 := Lib.hid r1
              have Hr3 := Lib.hid r3
              have Hb1 := Lib.hid hbel
              have Hy := Lib.hid hy
              clear r0 r1 r2 r3 hbel hk hlt hy
              go_wp2_with fail
              go_loopw [182] (fun i wr => ∃ k : Nat, k ≤ 8 ∧ i = .int .i64 k ∧ Row wr hb 129 (u32s (plusN x.l y.l k)) ∧ Row wr (hb + 1) 129 (u32s [0, 0, 0, 0, 0, 0, 0, 0]) ∧ Row wr sb 129 (u32s y.l) ∧ Below hb w wr)
                (fun i _ => 8 - (intOf i).toNat)
              case atStart => exact ⟨0, Nat.zero_le _, rfl, Hr0.out, Hr1.out, Hr3.out, Hb1.out⟩
              case round =>
                obtain ⟨k, hk, rfl, r0, r1, r3, hbel⟩ := hrel
                by_cases hlt : k < 8
                · have hx0 : (plusN x.l y.l k)[k]? = some (x.l.getD k 0) := plusN_at rfl hlt
                  have hy0 : y.l[k]? = some (y.l.getD k 0) := by
                    rw [List.getD_eq_getElem?_getD, List.getElem?_eq_getElem (show k < y.l.length from hlt)]; rfl
                  have h1 : wr.cell? ⟨hb, k, none⟩ = some (.int .u32 (x.l.getD k 0)) := (r0.cell _).trans (u32s_at hx0)
                  have h2 : wr.cell? ⟨sb, k, none⟩ = some (.int .u32 (y.l.getD k 0)) := (r3.cell _).trans (u32s_at hy0)
                  have f1 : wr.frozen? ⟨hb, k, none⟩ = false := r0.frozen k
                  have hst := plusN_step (x := x.l) (y := y.l) rfl hlt
                  generalize x.l.getD k 0 = vx at h1 hst
                  generalize y.l.getD k 0 = vy at h2 hst
                  have Hst := Lib.hid hst
                  have R0 := Lib.hid r0
                  have R1 := Lib.hid r1
                  have R3 := Lib.hid r3
                  have Hbel := Lib.hid hbel
                  clear hst r0 r1 r3 hbel hx0 hy0
                  have i0 : (0 : Int) ≤ (k : Int) := by omega
                  have i1 : (k : Int) < 8 := by omega
                  have tk : (k : Int).toNat = k := by omega
                  go_upto_region 26 with fail
                  go_still_tail 8, (by kernel_rfl)
                  go_wp2
                  go_roundw
                  case rel =>
                    refine ⟨k + 1, by omega, by go_num, ?_, R1.out.drew.far (p := ⟨_, _, none⟩) (by simp) _, R3.out.drew.far (p := ⟨_, _, none⟩) (by simp; omega) _, Hbel.out.drew.setCell (p := ⟨_, _, none⟩) (by simp) _⟩
                    rw [← Hst.out, ← u32s_set]
                    exact R0.out.drew.set k _
                  case measure => simp [intOf]; omega
                · obtain rfl : k = 8 := by omega
                  rw [show ((8 : Nat) : Int) = 8 from rfl]
                  obtain ⟨z, hz⟩ : ∃ z : H8, z = plusH x y := ⟨_, rfl⟩
                  have r0' : Row wr hb 129 (u32s z.l) := by rw [hz]; exact r0
                  obtain ⟨h0, h1, h2, h3, h4, h5, h6, h7⟩ := eight r0'
                  obtain ⟨k0, k1, k2, k3, k4, k5, k6, k7⟩ := eight (x := ⟨0, 0, 0, 0, 0, 0, 0, 0⟩) r1
                  have g0 : wr.frozen? ⟨hb + 1, 0, none⟩ = false := r1.frozen 0
                  have g1 : wr.frozen? ⟨hb + 1, 1, none⟩ = false := r1.frozen 1
                  have g2 : wr.frozen? ⟨hb + 1, 2, none⟩ = false := r1.frozen 2
                  have g3 : wr.frozen? ⟨hb + 1, 3, none⟩ = false := r1.frozen 3
                  have g4 : wr.frozen? ⟨hb + 1, 4, none⟩ = false := r1.frozen 4
                  have g5 : wr.frozen? ⟨hb + 1, 5, none⟩ = false := r1.frozen 5
                  have g6 : wr.frozen? ⟨hb + 1, 6, none⟩ = false := r1.frozen 6
                  have g7 : wr.frozen? ⟨hb + 1, 7, none⟩ = false := r1.frozen 7
                  have Hz := Lib.hid hz
                  have Hbel := Lib.hid hbel
                  have HY := Lib.hid Hy
                  clear r0 r1 r3 r0' hbel hz
                  go_wp2_with fail
                  refine bodyPost_ret (v := .agg #[.int .u32 z.a, .int .u32 z.b, .int .u32 z.c, .int .u32 z.d, .int .u32 z.e, .int .u32 z.f, .int .u32 z.g, .int .u32 z.h]) ?_ rfl ⟨?_, ?_⟩
                  · simp [results, Tryz.results67, go_sem, k0, k1, k2, k3, k4, k5, k6, k7]
                  · rw [blockF, ← HL0e.out, ← HW.out, ← HY.out, ← Hz.out]; rfl
                  · exact (below8 Hbel.out (Nat.le_succ _) z).mono (Nat.le_of_eq Hhb.out.symm)

end Go.Proofs.YtcdfjnnkocmeeaaGreatDoor
