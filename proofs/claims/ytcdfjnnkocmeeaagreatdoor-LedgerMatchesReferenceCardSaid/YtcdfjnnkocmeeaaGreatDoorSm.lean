/-
  digest.sum as a function of numbers.
  Conditions: as each theorem states them.
-/
import Derived.Test.YtcdfjnnkocmeeaaGreatDoorPu
namespace Go.Proofs.YtcdfjnnkocmeeaaGreatDoor
open Go.RowKit Go.Lib

/-- A part: where its slice lies, and its bytes. -/
structure Pc where
  A : Option Addr
  c : Nat
  l : List Int
def Pc.v (p : Pc) : Value := .slice p.A p.l.length p.c
def PcOk (w : World) (B : Nat) (p : Pc) : Prop := RdY w B p.A p.l ∧ ((p.A = none ∧ p.l = [] ∧ p.c = 0) ∨ ∃ b off, p.A = some ⟨b, off, none⟩ ∧ b < B)
def flatP (ps : List Pc) : List Int := (ps.map (·.l)).flatten
theorem flatP_step {ps : List Pc} {k : Nat} {p : Pc} (h : ps[k]? = some p) : flatP (ps.take (k + 1)) = flatP (ps.take k) ++ p.l := by
  rw [flatP, List.take_add_one, h]
  simp [flatP]
theorem flatP_le {ps : List Pc} {k : Nat} : (flatP (ps.take k)).length ≤ (flatP ps).length := by
  have e : flatP ps = flatP (ps.take k) ++ flatP (ps.drop k) := by
    conv => lhs; rw [← List.take_append_drop k ps]
    rw [flatP, List.map_append, List.flatten_append]; rfl
  rw [e, List.length_append]
  omega

/-- How many zeros are laid behind the end. -/
def padJ (n : Nat) : Nat := (119 - n % 64) % 64
/-- The length in bits, byte by byte. -/
def lenB (NN : Int) (t : Nat) : Int := NN / 2 ^ (56 - 8 * t) % 256
def lens (NN : Int) : List Int := (List.range 8).map (lenB NN)
theorem lens_step (NN : Int) {t : Nat} (h : t < 8) : (lens NN).take (t + 1) = (lens NN).take t ++ [lenB NN t] := by
  rw [List.take_add_one, lens, List.getElem?_map, List.getElem?_range h]; rfl
def iv0 : H8 := ⟨1779033703, 3144134277, 1013904242, 2773480762, 1359893119, 2600822924, 528734635, 1541459225⟩
/-- The state behind t blocks. -/
def hashN (M : List Int) : Nat → H8
  | 0 => iv0
  | t + 1 => blockF ((M.drop (64 * t)).take 64) (hashN M t)
theorem own_bytes {w : World} {base n c : Nat} {A : Option Addr} {M : List Int} (h : w.ownsRow base 5 1 (.slice A n c) n (y8 M)) (hn : 0 < n) : ∃ g, A = some ⟨g, 0, none⟩ ∧ (n ≤ c ∧ c ≤ maxLen) ∧ ∀ j x, M[j]? = some x → w.cell? ⟨g, j, none⟩ = some (.int .u8 x) := by
  have hl : M.length = n := by simpa [y8] using h.1
  rcases h.2 with ⟨e, e2⟩ | ⟨g, cap, cur, e, _, hh, h1, h1', _⟩
  · omega
  · simp only [Value.slice.injEq, true_and] at e
    obtain ⟨rfl, rfl⟩ := e
    refine ⟨g, rfl, ⟨h1, h1'⟩, fun j x hx => ?_⟩
    have hj := (List.getElem?_eq_some_iff.1 hx).1
    rw [h.cellAt j (by omega), y8, List.getElem?_map, hx]
    rfl
theorem KT.below {w w' : World} {B : Nat} (h : KT w) (hb : Below B w w') (hB : w.heap.size ≤ B) : KT w' :=
  ⟨Nat.lt_of_lt_of_le h.1 (Nat.le_trans (Nat.le_refl _) hb.size), fun i hi => (hb.cell (p := ⟨1, i, none⟩) (Nat.lt_of_lt_of_le h.1 hB)).trans (h.2 i hi)⟩
theorem below_on {B B' : Nat} {a b c : World} (h : Below B a b) (h' : Below B' b c) (hB : B ≤ B') : Below B a c := h.trans (h'.mono hB)
/-- Byte k of the digest. -/
def digB (z : H8) (k : Nat) : Int := z.l.getD (k / 4) 0 / 2 ^ (24 - 8 * (k % 4)) % 256
def digN (z : H8) (k : Nat) : List Int := (List.range 32).map fun i => if i < k then digB z i else 0
theorem digN_at {z : H8} {k : Nat} (h : k < 32) : (digN z k)[k]? = some ((digN z k).getD k 0) := by simp [digN, h]
theorem digN_step {z : H8} {k : Nat} (_h : k < 32) : (digN z k).set k (digB z k) = digN z (k + 1) := by
  apply List.ext_getElem
  · simp [digN]
  · intro i h1 h2
    simp only [digN, List.getElem_set, List.getElem_map, List.getElem_range]
    by_cases e : k = i
    · subst e; simp
    · rw [if_neg e]
      by_cases e2 : i < k
      · rw [if_pos e2, if_pos (by omega)]
      · rw [if_neg e2, if_neg (by omega)]
theorem row_same {g : Nat} {t : TypeId} {cs : Array Value} : ∀ (vs : List Value) (o : Nat) (w : World), Row w g t cs → (∀ j v, vs[j]? = some v → cs[o + j]? = some v) → Row (w.setCells g o vs) g t cs
  | [], _, _, h, _ => h
  | v :: r, o, w, h, hv => by
    have h0 := hv 0 v rfl
    have h1 := h.set o v
    rw [show cs.setIfInBounds o v = cs from by
      apply Array.ext_getElem?
      intro i
      rw [Array.getElem?_setIfInBounds]
      by_cases e : o = i
      · subst e
        rw [Nat.add_zero] at h0
        rw [if_pos rfl, if_pos (Array.getElem?_eq_some_iff.1 h0).1, h0]
      · rw [if_neg e]] at h1
    exact row_same r (o + 1) _ h1 fun j u hu => by
      have := hv (j + 1) u hu
      rwa [show o + 1 + j = o + (j + 1) from by omega]
theorem below_cells {a : World} {B g : Nat} : ∀ (vs : List Value) (o : Nat) {w : World}, Below B a w → B ≤ g → Below B a (w.setCells g o vs)
  | [], _, _, h, _ => h
  | v :: r, o, _, h, hg => below_cells r (o + 1) (h.setCell (p := ⟨g, o, none⟩) hg v) hg
/-- The message with its end. -/
def msgF (m : List Int) : List Int := m ++ [128] ++ List.replicate (padJ m.length) 0 ++ lens ((m.length : Int) * 8)
/-- The digest of bytes. -/
def shaF (m : List Int) : List Int := digN (hashN (msgF m) ((msgF m).length / 64)) 32
def vLen : Value → Nat
  | .slice _ n _ => n
  | _ => 0

set_option maxRecDepth 100000 in
set_option maxHeartbeats 4000000 in
theorem sum_any (ps : List Pc) (P : Option Addr) (cap : Nat) (w : World) (hp : ∀ (k : Nat) p, ps[k]? = some p → ∃ b off, P = some ⟨b, off, none⟩ ∧ b < w.heap.size ∧ w.cell? ⟨b, off + k, none⟩ = some p.v) (hok : ∀ p ∈ ps, PcOk w w.heap.size p) (hl : (flatP ps).length ≤ 1073741824) (hpl : ps.length ≤ 1073741824) (hk : KT w) :
    Calls Tryz.prog 48 #[.slice P ps.length cap] w fun e w' => e = .returned (.agg (y8 (shaF (flatP ps))).toArray) ∧ Below w.heap.size w w' := by
  have Hp := Lib.hid hp
  have Hok := Lib.hid hok
  have Hl := Lib.hid hl
  have Hk := Lib.hid hk
  clear hp hok hl hk
  go_enter Tryz.func48, Tryz.ntmps48
  go_wp2
  obtain ⟨rb, hrb⟩ : ∃ rb, rb = w.heap.size := ⟨_, rfl⟩
  have hr0 := Row.new w 40 (y8 (List.replicate 32 0)).toArray
  have hb0 : Below rb w (w.alloc (.cells (y8 (List.replicate 32 0)).toArray 40)) := by rw [hrb]; exact (Below.refl _ _).alloc (Nat.le_refl _) _
  have hsz0 : rb + 1 ≤ (w.alloc (.cells (y8 (List.replicate 32 0)).toArray 40)).heap.size := by rw [hrb]; simp
  rw [← hrb] at hr0 ⊢
  have Hrb := Lib.hid hrb
  have hnil : (w.alloc (.cells (y8 (List.replicate 32 0)).toArray 40)).ownsRow (rb + 1) 5 1 (.slice none 0 0) 0 [] := World.ownsRow_nil _ _ _ _
  refine (?_ : ∀ w1 : World, Row w1 rb 40 (y8 (List.replicate 32 0)).toArray ∧ w1.ownsRow (rb + 1) 5 1 (.slice none 0 0) 0 [] ∧ Below rb w w1 ∧ rb + 1 ≤ w1.heap.size → Code.wp _ _ _ _ w1) _ ⟨hr0, hnil, hb0, hsz0⟩
  clear hr0 hb0 hsz0 hrb hnil
  rintro w1 ⟨r0, rn, hb1, hs1⟩
  have Hr0 := Lib.hid r0
  have Hrn := Lib.hid rn
  have Hb1 := Lib.hid hb1
  clear r0 rn hb1
  obtain ⟨i5, hi5, hz5, hs5, hby5⟩ := info5
  have Hi5 := Lib.hid hi5
  have Hz5 := Lib.hid hz5
  have Hs5 := Lib.hid hs5
  have Hby5 := Lib.hid hby5
  clear hi5 hz5 hs5 hby5
  go_loopw [3, 12] (fun m i wr => ∃ k : Nat, k ≤ ps.length ∧ i = .int .i64 k ∧ Row wr rb 40 (y8 (List.replicate 32 0)).toArray ∧ wr.ownsRow (rb + 1) 5 1 m (flatP (ps.take k)).length (y8 (flatP (ps.take k))) ∧ Below rb w wr ∧ rb + 1 ≤ wr.heap.size)
    (fun _ i _ => ps.length - (intOf i).toNat)
  case atStart => exact ⟨0, Nat.zero_le _, rfl, Hr0.out, Hrn.out, Hb1.out, hs1⟩
  case round =>
    obtain ⟨k, hk, rfl, r0, rn, hbel, hsz⟩ := hrel
    by_cases hlt : k < ps.length
    · obtain ⟨p, hpk⟩ : ∃ p, ps[k]? = some p := ⟨_, List.getElem?_eq_getElem hlt⟩
      obtain ⟨q, off, rfl, hqw, c0⟩ := Hp.out k p hpk
      have d0 := (hbel.cell (p := ⟨q, off + k, none⟩) (by rw [Hrb.out]; exact hqw)).trans c0
      obtain ⟨hrd, hA⟩ := Hok.out p (List.mem_of_getElem? hpk)
      have hstep := flatP_step hpk
      have hle : (flatP (ps.take k)).length + p.l.length ≤ 1073741824 := by
        have h1 := flatP_le (ps := ps) (k := k + 1)
        rw [hstep, List.length_append] at h1
        have := Hl.out
        omega
      have i0 : (0 : Int) ≤ (k : Int) := by omega
      have i1 : (k : Int) < (ps.length : Int) := by omega
      have Hstep := Lib.hid hstep
      have R0 := Lib.hid r0
      have Rn := Lib.hid rn
      have Hbel := Lib.hid hbel
      have Hrd := Lib.hid hrd
      clear r0 rn hbel hstep hpk c0 hrd
      obtain ⟨A, c, l⟩ := p
      simp only [Pc.v] at d0 hA Hrd hle Hstep
      rcases hA with ⟨rfl, rfl, rfl⟩ | ⟨b2, off2, rfl, hb2⟩
      · simp only [List.length_nil] at d0
        go_wp2_with (at_builtin; refine wpList_append_own_none rfl _ _ 102 rfl (rb + 1) 5 i5 1 Tryz.underlying102 Hi5.out u3 _ _ rfl Rn.out rfl ?_)
        go_roundw
        case rel => exact ⟨k + 1, by omega, by go_num, R0.out, by rw [Hstep.out, List.append_nil]; exact Rn.out, Hbel.out, hsz⟩
        case measure => simp [intOf]; omega
      · have hnews : ∀ (jj : Nat) (u : Value), (y8 l)[jj]? = some u → wr.cell? ((⟨b2, off2, none⟩ : Addr).add jj) = some u := by
          intro jj u hu
          rw [Addr.add_mid]
          rw [y8, List.getElem?_map] at hu
          cases hx : l[jj]? with
          | none => rw [hx] at hu; cases hu
          | some x =>
            rw [hx] at hu
            cases hu
            obtain ⟨b3, off3, e3, h3, c3⟩ := Hrd.out jj x hx
            cases e3
            exact (Hbel.out.cell (p := ⟨b2, off2 + jj, none⟩) (by rw [Hrb.out]; exact hb2)).trans c3
        have Hnews := Lib.hid hnews
        have Hsz := Lib.hid hsz
        have Hown0 := Lib.hid Rn.out.lt
        have Hl63 : Hid ((flatP (ps.take k)).length + l.length ≤ maxLen) := Lib.hid (by simp only [maxLen]; omega)
        have Hl47 : Hid (((flatP (ps.take k)).length + l.length) * 1 ≤ 140737488355328) := Lib.hid (by omega)
        clear hnews hsz
        go_wp2_with (at_builtin; refine wpList_append_own _ rfl _ _ 102 rfl (rb + 1) 5 i5 (.int .u8 0) 1 1 Tryz.underlying102 Hi5.out Hz5.out Hs5.out Hby5.out rfl (by decide) u3 _ _ rfl Rn.out ⟨b2, off2, none⟩ l.length c (y8 l) rfl (by simp [y8]) Hnews.out (y8_one l) Hl63.out Hl47.out Hsz.out ?_; intro v' w6 hown6 hgrow6 hiff6)
        go_roundw
        case rel =>
          refine ⟨k + 1, by omega, by go_num, R0.out.grown hgrow6 (fun e => by have := (Hown0.out rb e.symm).1; omega), ?_, Hbel.out.grown hgrow6 (by have := Hsz.out; omega) (fun k' hk' => by have := (Hown0.out k' hk').1; omega), Nat.le_trans Hsz.out hgrow6.size⟩
          rw [Hstep.out, List.length_append, y8, List.map_append]
          exact hown6
        case measure => simp [intOf]; omega
    · have hkl : k = ps.length := by omega
      subst hkl
      obtain ⟨m0, hm0⟩ : ∃ m0, m0 = flatP ps := ⟨_, rfl⟩
      rw [List.take_length, ← hm0] at rn
      have hml : m0.length ≤ 1073741824 := by rw [hm0]; exact Hl.out
      obtain ⟨A3, c3, rfl⟩ := own_slice rn
      have Hm0 := Lib.hid hm0
      have R0 := Lib.hid r0
      have Rn := Lib.hid rn
      have Hbel := Lib.hid hbel
      clear r0 rn hbel hm0 hk hlt
      have hmi : (m0.length : Int) ≤ 1073741824 := by omega
      go_wp2_with (at_builtin; refine wpList_push wr rfl _ _ rfl (rb + 1) (.slice A3 m0.length c3) m0.length m0 rfl Rn.out 128 rfl (by omega) hsz ?_; intro A4 c4 w4 hown4 hk4)
      have HR4 := Lib.hid (hk4.row _ _ _ R0.out (Nat.lt_succ_self rb))
      have HB4 := Lib.hid (hk4.below _ _ Hbel.out (Nat.le_succ rb))
      have HS4 : rb + 1 ≤ w4.heap.size := Nat.le_trans hsz hk4.size
      have Hown4 := Lib.hid hown4
      clear hown4 hk4 R0 Rn Hbel hsz hs1
      go_loopw [3] (fun m wr => ∃ (j q : Nat) (A : Option Addr) (c : Nat), j ≤ padJ m0.length ∧ Hid (q = m0.length + 1 + j) ∧ q ≤ 1073741900 ∧ m = .slice A q c ∧ wr.ownsRow (rb + 1) 5 1 (.slice A q c) q (y8 (m0 ++ [128] ++ List.replicate j 0)) ∧ Row wr rb 40 (y8 (List.replicate 32 0)).toArray ∧ Below rb w wr ∧ rb + 1 ≤ wr.heap.size)
        (fun m _ => m0.length + 1 + padJ m0.length - vLen m)
      case atStart => exact ⟨0, m0.length + 1, A4, c4, Nat.zero_le _, Lib.hid rfl, by omega, rfl, by simpa using Hown4.out, HR4.out, HB4.out, HS4⟩
      case round =>
        obtain ⟨j, q, A, c, hj, hq, hqb, rfl, rn, r0, hbel, hsz⟩ := hrel
        have hj2 : j ≤ 63 := by unfold padJ at hj; omega
        have qi : (q : Int) ≤ 1073741900 := by omega
        by_cases hlt : j < padJ m0.length
        · have hne : ((q : Int) % 64 != 56) = true := by
            rw [bne_iff_ne]
            unfold padJ at hlt
            have := hq.out
            omega
          have Rn := Lib.hid rn
          have R0 := Lib.hid r0
          have Hbel := Lib.hid hbel
          clear rn r0 hbel
          go_wp2_with (at_builtin; refine wpList_push wr rfl _ _ rfl (rb + 1) (.slice A q c) q _ rfl Rn.out 0 rfl (by omega) hsz ?_; intro A5 c5 w5 hown5 hk5)
          go_roundw
          case rel =>
            refine ⟨j + 1, q + 1, A5, c5, by omega, Lib.hid (by have := hq.out; omega), by have := hq.out; omega, rfl, ?_, hk5.row _ _ _ R0.out (Nat.lt_succ_self rb), hk5.below _ _ Hbel.out (Nat.le_succ rb), Nat.le_trans hsz hk5.size⟩
            rw [List.replicate_succ', ← List.append_assoc]
            exact hown5
          case measure => simp [vLen]; have := hq.out; omega
        · have hjp : j = padJ m0.length := by omega
          have heq : ((q : Int) % 64 != 56) = false := by
            rw [bne_eq_false_iff_eq]
            unfold padJ at hjp
            have := hq.out
            omega
          obtain ⟨M1, hM1⟩ : ∃ M1, M1 = m0 ++ [128] ++ List.replicate j 0 := ⟨_, rfl⟩
          rw [← hM1] at rn
          have HM1 := Lib.hid hM1
          have Hjp := Lib.hid hjp
          have Rn := Lib.hid rn
          have R0 := Lib.hid r0
          have Hbel := Lib.hid hbel
          clear rn r0 hbel hM1 hjp hlt hj hj2
          go_wp2_with fail
          have hNi : (m0.length : Int) * 8 ≤ 8589934592 := by omega
          obtain ⟨NN, hNN⟩ : ∃ NN : Int, NN = (m0.length : Int) * 8 := ⟨_, rfl⟩
          have hNN0 : 0 ≤ NN := by omega
          rw [← hNN]
          have HNN := Lib.hid hNN
          clear hNN
          obtain ⟨q0, hq0⟩ : ∃ q0, q0 = q := ⟨_, rfl⟩
          have Hq0 := Lib.hid hq0
          have hsz4 := hsz
          clear hq0
          go_loopw [3, 7] (fun m i wr => ∃ (t q : Nat) (iv : Int) (A : Option Addr) (c : Nat), t ≤ 8 ∧ Hid (q = q0 + t) ∧ Hid (iv = 56 - 8 * (t : Int)) ∧ q ≤ 1073742000 ∧ i = .int .i64 iv ∧ m = .slice A q c ∧ wr.ownsRow (rb + 1) 5 1 (.slice A q c) q (y8 (M1 ++ (lens NN).take t)) ∧ Row wr rb 40 (y8 (List.replicate 32 0)).toArray ∧ Below rb w wr ∧ rb + 1 ≤ wr.heap.size)
            (fun _ i _ => (intOf i + 8).toNat)
          case atStart => exact ⟨0, q, 56, A, c, Nat.zero_le _, Lib.hid (by have := Hq0.out; omega), Lib.hid rfl, by omega, rfl, rfl, by simpa using Rn.out, R0.out, Hbel.out, hsz4⟩
          case round =>
            obtain ⟨t, q, iv, A, c, ht, hq, hiv, hqb, rfl, rfl, rn, r0, hbel, hsz⟩ := hrel
            by_cases hlt : t < 8
            · have iv0 : 0 ≤ iv := by have := hiv.out; omega
              have iv1 : iv ≤ 56 := by have := hiv.out; omega
              have hiv2 : iv = 56 - 8 * (t : Int) := hiv.out
              have hit : iv.toNat = 56 - 8 * t := by omega
              have Hb : Hid (NN / 2 ^ iv.toNat % 256 = lenB NN t) := Lib.hid (by rw [lenB, hit])
              clear hiv2 hit
              have Rn := Lib.hid rn
              have R0 := Lib.hid r0
              have Hbel := Lib.hid hbel
              clear rn r0 hbel
              go_upto_region 14 with fail
              go_wp2_with (at_builtin; refine wpList_push wr rfl _ _ rfl (rb + 1) (.slice A q c) q _ rfl Rn.out (NN / 2 ^ iv.toNat % 256) rfl (by omega) hsz ?_; intro A5 c5 w5 hown5 hk5)
              go_roundw
              case rel =>
                refine ⟨t + 1, q + 1, iv - 8, A5, c5, by omega, Lib.hid (by have := hq.out; omega), Lib.hid (by have := hiv.out; omega), by have := hq.out; have := Hq0.out; omega, by go_num, rfl, ?_, hk5.row _ _ _ R0.out (Nat.lt_succ_self rb), hk5.below _ _ Hbel.out (Nat.le_succ rb), Nat.le_trans hsz hk5.size⟩
                rw [lens_step NN hlt, ← List.append_assoc, ← Hb.out]
                exact hown5
              case measure => simp [intOf]; omega
            · obtain rfl : t = 8 := by omega
              have hiv0 : iv = -8 := by have := hiv.out; omega
              subst hiv0
              obtain ⟨M, hM⟩ : ∃ M, M = M1 ++ lens NN := ⟨_, rfl⟩
              rw [List.take_of_length_le (show (lens NN).length ≤ 8 from by simp [lens]), ← hM] at rn
              have hMl : M.length = q := by
                have h1 := rn.1
                simpa [y8] using h1
              obtain ⟨nb, hnb⟩ : ∃ nb, q = 64 * nb ∧ 0 < nb := by
                refine ⟨q / 64, ?_⟩
                have h1 := hq.out
                have h2 := Hq0.out
                rw [bne_eq_false_iff_eq] at heq
                omega
              have HM := Lib.hid hM
              have HMl := Lib.hid hMl
              have Rn := Lib.hid rn
              have R0 := Lib.hid r0
              have Hbel := Lib.hid hbel
              clear rn r0 hbel hM hMl ht hlt
              go_wp2_with fail
              obtain ⟨hb, hhb⟩ : ∃ hb, hb = wr.heap.size := ⟨_, rfl⟩
              have h0 : Row (wr.alloc (.cells (u32s iv0.l) 129)) hb 129 (u32s iv0.l) := by rw [hhb]; exact Row.new _ _ _
              have h1 : Row (wr.alloc (.cells (u32s iv0.l) 129)) rb 40 (y8 (List.replicate 32 0)).toArray := R0.out.alloc _
              have h2 : (wr.alloc (.cells (u32s iv0.l) 129)).ownsRow (rb + 1) 5 1 (.slice A q c) q (y8 M) := Rn.out.alloc _
              have h3 : Below rb w (wr.alloc (.cells (u32s iv0.l) 129)) := Hbel.out.alloc (by omega) _
              have h4 : rb + 1 ≤ hb := by rw [hhb]; exact hsz
              have h5 : ∀ k, (Value.slice A q c).ownBlock = some k → k < hb := fun k hk => by rw [hhb]; exact (Rn.out.lt k hk).2
              rw [← hhb]
              refine (?_ : ∀ w1 : World, Row w1 hb 129 (u32s iv0.l) ∧ Row w1 rb 40 (y8 (List.replicate 32 0)).toArray ∧ w1.ownsRow (rb + 1) 5 1 (.slice A q c) q (y8 M) ∧ Below rb w w1 → Code.wp _ _ _ _ w1) _ ⟨h0, h1, h2, h3⟩
              clear h0 h1 h2 h3 hhb R0 Rn Hbel
              rintro w5 ⟨r5, r6, rn, hb5⟩
              obtain ⟨g, hgA, hgc, hgcell⟩ := own_bytes rn (by omega)
              subst hgA
              have hgh : g < hb := h5 g rfl
              have Hcell := Lib.hid hgcell
              have R5 := Lib.hid r5
              have R6 := Lib.hid r6
              have HB5 := Lib.hid hb5
              obtain ⟨rfl, hnb0⟩ := hnb
              clear r5 r6 rn hb5 hgcell h5 hsz
              go_loopw [3] (fun m wr => ∃ (t n : Nat) (A' : Option Addr) (c' : Nat), t ≤ nb ∧ Hid (n = 64 * (nb - t)) ∧ n ≤ 1073742000 ∧ c' ≤ c ∧ m = .slice A' n c' ∧ (t < nb → A' = some ⟨g, 64 * t, none⟩ ∧ c' + 64 * t = c) ∧ Row wr hb 129 (u32s (hashN M t).l) ∧ Row wr rb 40 (y8 (List.replicate 32 0)).toArray ∧ Below hb w5 wr)
                (fun m _ => vLen m)
              case atStart => exact ⟨0, 64 * nb, _, c, Nat.zero_le _, Lib.hid rfl, hqb, Nat.le_refl _, rfl, fun _ => ⟨rfl, rfl⟩, R5.out, R6.out, Below.refl _ _⟩
              case round =>
                obtain ⟨t, n, A', c', ht, hn, hn1, hcc, rfl, hA', rh, r0, hbel⟩ := hrel
                by_cases hlt : t < nb
                · obtain ⟨rfl, hc'⟩ := hA' hlt
                  have hn64 : 64 ≤ n := by have := hn.out; omega
                  have hnc : n ≤ c' := by have := hn.out; have := hgc.1; omega
                  have hcm : c ≤ maxLen := hgc.2
                  have hcm' : c' ≤ maxLen := Nat.le_trans hcc hcm
                  simp only [maxLen] at hcm'
                  have j1 : (64 : Int) ≤ (n : Int) := by omega
                  have j2 : (n : Int) ≤ (c' : Int) := by omega
                  have j3 : (c' : Int) ≤ 9223372036854775807 := by omega
                  have j4 : (n : Int) ≤ 1073742000 := by omega
                  have j5 : (64 : Int) ≤ (c' : Int) := by omega
                  obtain ⟨y, hy⟩ : ∃ y, y = hashN M t := ⟨_, rfl⟩
                  obtain ⟨bs, hbs⟩ : ∃ bs, bs = (M.drop (64 * t)).take 64 := ⟨_, rfl⟩
                  have hbl : bs.length = 64 := by
                    rw [hbs, List.length_take, List.length_drop, HMl.out]
                    have := hn.out
                    omega
                  have hst : hashN M (t + 1) = blockF bs y := by rw [hashN, ← hy, ← hbs]
                  have hrd : RdY wr wr.heap.size (some ⟨g, 64 * t, none⟩) bs := by
                    intro k x hx
                    have hk64 : k < 64 := by rw [← hbl]; exact (List.getElem?_eq_some_iff.1 hx).1
                    rw [hbs, List.getElem?_take_of_lt hk64, List.getElem?_drop] at hx
                    exact ⟨g, 64 * t, rfl, Nat.lt_trans hgh rh.lt, (hbel.cell (p := ⟨g, 64 * t + k, none⟩) hgh).trans (Hcell.out _ x hx)⟩
                  rw [← hy] at rh
                  obtain ⟨h0, h1, h2, h3, h4', h5, h6, h7⟩ := eight rh
                  have hkt : KT wr := (Hk.out.below (below_on HB5.out hbel (by omega)) (by rw [Hrb.out]; exact Nat.le_refl _))
                  have Hst := Lib.hid hst
                  have Hbs := Lib.hid hbs
                  have Hbl := Lib.hid hbl
                  have Hrd : Hid (RdY wr.drew wr.drew.heap.size (some ⟨g, 64 * t, none⟩) bs) := Lib.hid hrd
                  have Hkt : Hid (KT wr.drew) := Lib.hid hkt
                  have Rh : Hid (Row wr.drew hb 129 (u32s y.l)) := Lib.hid rh
                  have R0 : Hid (Row wr.drew rb 40 (y8 (List.replicate 32 0)).toArray) := Lib.hid r0
                  have Hbel : Hid (Below hb w5 wr.drew) := Lib.hid hbel.drew
                  clear hst hbs hbl hrd hkt rh r0 hbel hy hA' hcm hcm'
                  go_upto_region 18 with fail
                  go_still_tail 3, (by kernel_rfl)
                  change wpList _ _ _ _ _ wr.drew
                  generalize wr.drew = w6 at *
                  go_wp2_with fail
                  refine (block_any y bs _ _ w6 Hrd.out Hbl.out Hkt.out).mono ?_
                  rintro e w7 ⟨rfl, hb7⟩
                  obtain ⟨z, hz⟩ : ∃ z, z = blockF bs y := ⟨_, rfl⟩
                  rw [← hz]
                  have rh7 : Row w7 hb 129 (u32s y.l) := Rh.out.below hb7 Rh.out.lt
                  obtain ⟨k0, k1, k2, k3, k4, k5, k6, k7⟩ := eight rh7
                  have g0 : w7.frozen? ⟨hb, 0, none⟩ = false := rh7.frozen 0
                  have g1 : w7.frozen? ⟨hb, 1, none⟩ = false := rh7.frozen 1
                  have g2 : w7.frozen? ⟨hb, 2, none⟩ = false := rh7.frozen 2
                  have g3 : w7.frozen? ⟨hb, 3, none⟩ = false := rh7.frozen 3
                  have g4 : w7.frozen? ⟨hb, 4, none⟩ = false := rh7.frozen 4
                  have g5 : w7.frozen? ⟨hb, 5, none⟩ = false := rh7.frozen 5
                  have g6 : w7.frozen? ⟨hb, 6, none⟩ = false := rh7.frozen 6
                  have g7 : w7.frozen? ⟨hb, 7, none⟩ = false := rh7.frozen 7
                  have r07 : Row w7 rb 40 (y8 (List.replicate 32 0)).toArray := R0.out.below hb7 R0.out.lt
                  have hbel7 : Below hb w5 w7 := below_on Hbel.out hb7 (Nat.le_of_lt Rh.out.lt)
                  have Rh7 := Lib.hid rh7
                  have R07 := Lib.hid r07
                  have Hbel7 := Lib.hid hbel7
                  have Hz := Lib.hid hz
                  clear hb7 rh7 r07 hbel7 hz h0 h1 h2 h3 h4' h5 h6 h7 Rh R0 Hbel Hrd Hkt
                  rw [show u32s z.l = #[.int .u32 z.a, .int .u32 z.b, .int .u32 z.c, .int .u32 z.d, .int .u32 z.e, .int .u32 z.f, .int .u32 z.g, .int .u32 z.h] from rfl]
                  go_wp2_with fail
                  rw [show (((((((w7.setCell { block := hb, off := 0 } (Value.int IntKind.u32 z.a)).setCell { block := hb, off := 1 } (Value.int IntKind.u32 z.b)).setCell { block := hb, off := 2 } (Value.int IntKind.u32 z.c)).setCell { block := hb, off := 3 } (Value.int IntKind.u32 z.d)).setCell { block := hb, off := 4 } (Value.int IntKind.u32 z.e)).setCell { block := hb, off := 5 } (Value.int IntKind.u32 z.f)).setCell { block := hb, off := 6 } (Value.int IntKind.u32 z.g)).setCell { block := hb, off := 7 } (Value.int IntKind.u32 z.h) = put8 w7 hb z from rfl]
                  refine ⟨⟨t + 1, n - 64, _, c' - 64, by omega, Lib.hid (by have := hn.out; omega), by omega, by omega, rfl, fun h => ?_, ?_, far8 R07.out (by omega) _, below8 Hbel7.out (Nat.le_refl _) _⟩, by simp only [vLen]; omega⟩
                  · have hne : ¬ c' = 64 := by have := hn.out; have := hgc.1; omega
                    rw [if_neg hne, Nat.mul_add]
                    exact ⟨rfl, by omega⟩
                  · rw [Hst.out, ← Hz.out]
                    exact row8 Rh7.out _
                · have htn : t = nb := by omega
                  have hn0 : n = 0 := by have := hn.out; omega
                  subst hn0
                  obtain ⟨z, hz⟩ : ∃ z, z = hashN M nb := ⟨_, rfl⟩
                  rw [htn, ← hz] at rh
                  have Hz2 : Hid (z = hashN (msgF m0) ((msgF m0).length / 64)) := Lib.hid (by rw [hz, msgF, ← Hjp.out, ← HM1.out, ← HNN.out, ← HM.out, HMl.out, Nat.mul_div_cancel_left _ (by decide)])
                  have Rh := Lib.hid rh
                  have R0 := Lib.hid r0
                  have Hbel : Hid (Below rb w wr) := Lib.hid (below_on HB5.out hbel (by omega))
                  clear rh r0 hbel hA' hz htn
                  go_wp2_with fail
                  go_loopw [55] (fun i wr => ∃ k : Nat, k ≤ 32 ∧ i = .int .i64 k ∧ Row wr hb 129 (u32s z.l) ∧ Row wr rb 40 (y8 (digN z k)).toArray ∧ Below rb w wr)
                    (fun i _ => 32 - (intOf i).toNat)
                  case atStart => exact ⟨0, Nat.zero_le _, rfl, Rh.out, R0.out, Hbel.out⟩
                  case round =>
                    obtain ⟨k, hk, rfl, rh, r0, hbel⟩ := hrel
                    by_cases hlt : k < 32
                    · have hk4 : k / 4 < z.l.length := by show k / 4 < 8; omega
                      have hc : wr.cell? ⟨hb, k / 4, none⟩ = some (.int .u32 (z.l.getD (k / 4) 0)) := (rh.cell _).trans (u32s_at (by rw [List.getD_eq_getElem?_getD, List.getElem?_eq_getElem hk4]; rfl))
                      have hr : wr.cell? ⟨rb, k, none⟩ = some (.int .u8 ((digN z k).getD k 0)) := by
                        rw [r0.cell, y8, List.getElem?_toArray, List.getElem?_map, digN_at hlt]; rfl
                      have fr : wr.frozen? ⟨rb, k, none⟩ = false := r0.frozen k
                      have hst := digN_step (z := z) hlt
                      have Hst := Lib.hid hst
                      have Rh := Lib.hid rh
                      have R0 := Lib.hid r0
                      have Hbel := Lib.hid hbel
                      clear hst rh r0 hbel
                      have i0 : (0 : Int) ≤ (k : Int) := by omega
                      have i1 : (k : Int) < 32 := by omega
                      have t1 : ((k : Int) / 4).toNat = k / 4 := by omega
                      have z1 : (0 : Int) ≤ (k : Int) / 4 := by omega
                      have z2 : (k : Int) / 4 < 8 := by omega
                      have z3 : (0 : Int) ≤ (k : Int) % 4 := by omega
                      have z4 : (k : Int) % 4 ≤ 3 := by omega
                      go_wp2
                      go_roundw
                      case rel =>
                        refine ⟨k + 1, by omega, by go_num, Rh.out.far (p := ⟨_, _, none⟩) (by simp; omega) _, ?_, Hbel.out.setCell (p := ⟨_, _, none⟩) (by simp) _⟩
                        have e : z.l[k / 4] / 2 ^ (24 - 8 * (k % 4)) % 256 = digB z k := by
                          rw [digB, List.getD_eq_getElem?_getD, List.getElem?_eq_getElem hk4]; rfl
                        rw [e, ← Hst.out]
                        have h := R0.out.set k (.int .u8 (digB z k))
                        rw [show (y8 (digN z k)).toArray.setIfInBounds k (.int .u8 (digB z k)) = (y8 ((digN z k).set k (digB z k))).toArray from by simp [y8, List.map_set]] at h
                        exact h
                      case measure => simp [intOf]; omega
                    · obtain rfl : k = 32 := by omega
                      have hrg : wr.rangeAt rb 0 (y8 (digN z 32)) := by
                        intro j v hv
                        rw [Nat.zero_add, r0.cell, List.getElem?_toArray]
                        exact hv
                      have hl32 : (y8 (digN z 32)).length = 32 := by simp [y8, digN]
                      have hs32 : (Tryz.prog.info? 40).map (·.size) = some (y8 (digN z 32)).length := by rw [hl32]; kernel_rfl
                      have hth : wr.there rb 0 (y8 (digN z 32)).toArray.size := by
                        intro j hj
                        exact ⟨by rw [Nat.zero_add, r0.cell, Array.getElem?_eq_getElem hj]; rfl, by rw [Nat.zero_add]; exact r0.frozen j⟩
                      have Hrg := Lib.hid hrg
                      have Hs32 := Lib.hid hs32
                      have Hth := Lib.hid hth
                      have R0 := Lib.hid r0
                      have Hbel := Lib.hid hbel
                      clear hrg hl32 hs32 hth r0 rh hbel
                      go_wp2_with (first
                        | (refine wpList_load_mid rfl 40 _ rfl _ _ rfl _ _ Hrg.out Tryz.underlying40 rfl Hs32.out ?_)
                        | (refine wpList_store_mid rfl 40 _ _ rfl rb 0 (y8 (digN z 32)).toArray rfl rfl Hth.out (by simpa using Hs32.out) (all_oneCell_toArray (y8_one _)) ?_))
                      have hfin : Row (wr.setCells rb 0 (y8 (digN z 32))) rb 40 (y8 (digN z 32)).toArray := row_same _ _ _ R0.out (fun j v hv => by rw [Nat.zero_add, List.getElem?_toArray]; exact hv)
                      refine bodyPost_ret (results_cell_row rfl _ _ rb 40 (y8 (digN z 32)).toArray (0, 0) _ rfl hfin Tryz.underlying40 rfl (by simpa using Hs32.out)) rfl ⟨?_, ?_⟩
                      · rw [shaF, ← Hm0.out, ← Hz2.out]
                      · exact (below_cells _ _ Hbel.out (Nat.le_refl _)).mono (Nat.le_of_eq Hrb.out.symm)

end Go.Proofs.YtcdfjnnkocmeeaaGreatDoor
