/-
  ledger.Balances computes balF.
  Conditions: as each theorem states them.
-/
import Derived.Test.YtcdfjnnkocmeeaaGreatDoorBa
import Derived.Test.YtcdfjnnkocmeeaaGreatDoorWk
import Derived.Test.YtcdfjnnkocmeeaaGreatDoorFresh
import Derived.Test.YtcdfjnnkocmeeaaGreatDoorPu
import Derived.Deep.RegionLaw
import Derived.StillTailTactics
import Derived.Maps.RangeWalk
import Derived.Deep.QuietTactic
import Derived.BigQuiet
import Derived.Deep.DeepCutAuto
namespace Go.Proofs.YtcdfjnnkocmeeaaGreatDoor
open Go.RowKit Go.Lib

theorem made_one (v : Value) (n : Nat) : madeCells #[v] n = Array.replicate n v := by
  apply Array.ext
  · simp [madeCells]
  · intro i h1 h2
    simp [madeCells, Nat.mod_one]
/-- A list is read. -/
theorem own_fresh {w : World} {base : Nat} {t : TypeId} {A : Option Addr} {n c : Nat} {l : List Value} (h : w.ownsRow base t 1 (.slice A n c) n l) : ∀ b o s, A = some ⟨b, o, s⟩ → base ≤ b := by
  rcases h.2 with ⟨e, _⟩ | ⟨g, cap, cur, e, hb, _⟩
  · simp at e
    intro b o s h1
    rw [e.1] at h1
    cases h1
  · simp at e
    intro b o s h1
    rw [e.1] at h1
    injection h1 with h1
    injection h1 with h1
    omega
/-- Balances' result, and that its block is new. -/
def BalFresh (w : World) (l : List Dl) (e : Ending) (w' : World) : Prop :=
  ∃ (A' : Option Addr) (c' : Nat), e = .returned (.tuple #[.slice A' (balF l).1.length c', .int .i64 (balF l).2]) ∧ Below w.heap.size w w' ∧ RdI w' w'.heap.size A' (balF l).1 ∧ ∀ b o s, A' = some ⟨b, o, s⟩ → w.heap.size ≤ b
theorem BalFresh.nil {w : World} {l : List Dl} {w' : World} {n : Int} (h : balF l = ([], n)) (hb : Below w.heap.size w w') : BalFresh w l (.returned (.tuple #[.slice none 0 0, .int .i64 n])) w' :=
  ⟨Option.none, 0, by rw [h]; rfl, hb, by rw [h]; intro k x hx; simp at hx, fun b o s h => by cases h⟩
theorem BalFresh.res {w : World} {l : List Dl} {e : Ending} {w' : World} (h : BalFresh w l e w') : BalRes w l e w' := by
  obtain ⟨A, c, h1, h2, h3, _⟩ := h
  exact ⟨A, c, h1, h2, h3⟩
theorem own_ints {w : World} {base : Nat} {t : TypeId} {v : Value} {l : List Int} (h : w.ownsRow base t 1 v l.length (l.map (.int .i64))) : ∃ A c, v = .slice A l.length c ∧ RdI w w.heap.size A l := by
  rcases h.2 with ⟨rfl, e⟩ | ⟨g, cap, cur, rfl, _, hh, hnc, _, hsz, htake⟩
  · have : l = [] := List.eq_nil_of_length_eq_zero e
    subst this
    exact ⟨none, 0, rfl, fun k x hx => by simp at hx⟩
  · refine ⟨_, cap, rfl, fun k x hx => ⟨g, 0, rfl, (Array.getElem?_eq_some_iff.1 hh).1, ?_⟩⟩
    have hr : Row w g t cur := hh
    rw [Nat.zero_add, hr.cell]
    have hk := (List.getElem?_eq_some_iff.1 hx).1
    have h1 : (l.map (Value.int .i64))[k]? = some (.int .i64 x) := by simp [hx]
    rw [← htake, List.getElem?_take_of_lt (by omega)] at h1
    simpa using h1

theorem clip_any (A : Option Addr) (n c : Nat) (w : World) (h : n ≤ c) (hm : c ≤ maxLen) :
    Calls Tryz.prog 24 #[.slice A n c] w fun e w' => e = .returned (.slice A n n) ∧ w' = w := by
  have h1 : (n : Int) ≤ (c : Int) := by omega
  have h2 : (c : Int) ≤ 9223372036854775807 := by simp only [maxLen] at hm; omega
  clear hm
  go_enter Tryz.func24, Tryz.ntmps24
  go_wp2
  go_ret
  exact ⟨rfl, rfl⟩

theorem add37_any (sb i : Nat) (t : TypeId) (S : List Int) (s n : Int) (w : World) (hr : Row w sb t (sumArr S)) (hs : S[i]? = some s) (hn : inR n = true) :
    Calls Tryz.prog 23 #[.pointer (some ⟨sb, i * 2, none⟩), .int .i64 n] w fun e w' => e = .returned (.tuple #[]) ∧ w' = (w.setCell ⟨sb, i * 2 + 1, none⟩ (.int .u64 (loS (s + n)))).setCell ⟨sb, i * 2, none⟩ (.int .u64 (hiS (s + n))) := by
  have hhi : w.cell? ⟨sb, i * 2, none⟩ = some (.int .u64 (hiS s)) := (hr.cell _).trans (sumArr_hi hs)
  have hlo : w.cell? ⟨sb, i * 2 + 1, none⟩ = some (.int .u64 (loS s)) := (hr.cell _).trans (sumArr_lo hs)
  have f0 : w.frozen? ⟨sb, i * 2, none⟩ = false := hr.frozen _
  have f1 : w.frozen? ⟨sb, i * 2 + 1, none⟩ = false := hr.frozen _
  have l0 : 0 ≤ loS s := by unfold loS; omega
  have x0 : 0 ≤ IntKind.u64.wrap n := by rw [u64wrap]; omega
  have Hn := Lib.hid hn
  have Hr := Lib.hid hr
  have Hs := Lib.hid hs
  clear hn hr hs
  go_enter Tryz.func23, Tryz.ntmps23
  go_wp2_with (simp only [add64 _ _ l0 x0])
  go_end0
  exact ⟨rfl, by rw [lo_step, hi_step Hn.out]⟩

theorem all_step2 {α : Type} {p : α → Prop} {l : List α} {k : Nat} {x : α} (h : ∀ j, j < k → ∀ x, l[j]? = some x → p x) (hx : l[k]? = some x) (hk : p x) : ∀ j, j < k + 1 → ∀ x, l[j]? = some x → p x := by
  intro j hj y hy
  rcases Nat.lt_succ_iff_lt_or_eq.1 hj with h1 | rfl
  · exact h j h1 y hy
  · rw [hx] at hy; injection hy with hy; rw [← hy]; exact hk
theorem info3' : ∃ i, Tryz.prog.info? 3 = some i ∧ i.zero = some (.int .i64 0) ∧ i.size = 1 ∧ i.bytes = 8 := info_of rfl (by kernel_rfl) (by kernel_rfl)
theorem make24c (w : World) : (Instr.makeSlice 24 (.int .i64 0) (.int .i64 336)).run Tryz.prog w = .ok (.slice (some ⟨w.heap.size, 0, none⟩) 0 336) (w.alloc (.cells (Array.replicate 336 (Value.int .i64 0)) 3)) := by
  obtain ⟨i, hi, hz, hs, hb⟩ := info3'
  have h := run_makeSlice w 24 3 i (.int .i64 0) Tryz.underlying24 hi hz .i64 .i64 0 336 (by omega) (by omega) (by rw [hs]; decide) (by rw [hb]; omega) (by omega)
  rw [hs] at h
  rw [h, show (Value.int .i64 0).cells = #[Value.int .i64 0] from rfl, made_one]
  rfl
theorem own_cap {w : World} {base n : Nat} {t : TypeId} {A : Option Addr} {c : Nat} {xs : List Value} (h : w.ownsRow base t 1 (.slice A n c) n xs) : n ≤ c ∧ c ≤ maxLen := by
  rcases h.2 with ⟨e, e2⟩ | ⟨g, cap, cur, e, _, _, h1, h2, _⟩
  · simp at e
    omega
  · simp at e
    obtain ⟨_, _, rfl⟩ := e
    exact ⟨h1, h2⟩
theorem run_index_agg {P : Program} {t e : TypeId} {n sz : Nat} {cs : Array Value} {i : Nat} {w : World} (h : P.underlying t = some (.array n e)) (ha : ∀ w, (isAgg e).run P w = .ok true w) (hs : (P.info? e).map (·.size) = some sz) (hi : i < n) :
    (Instr.index t (.agg cs) (.int .i64 (i : Int))).run P w = .ok (.agg (cs.extract (i * sz) (i * sz + sz))) w := by
  have hz : ∀ w, (sizeOf e).run P w = .ok sz w := by
    intro w
    cases hi : P.info? e with
    | none => rw [hi] at hs; cases hs
    | some i =>
      rw [hi] at hs
      simp only [Option.map_some, Option.some.injEq] at hs
      simp [sizeOf, typeInfo, hi, hs]
  have h1 : (0 : Int) ≤ (i : Int) ∧ (i : Int) < (n : Int) := by omega
  simp [Instr.index, run_underlying h, asIntOf, h1, go_sem, hz, part, ha]
  intro h; omega
theorem index61 {S : List Int} {k : Nat} {x : Int} {w : World} (hx : S[k]? = some x) (hk : k < 336) : (Instr.index 61 (.agg (flat sumV S).toArray) (.int .i64 (k : Int))).run Tryz.prog w = .ok (.agg #[.int .u64 (hiS x), .int .u64 (loS x)]) w := by
  have h0 := flat_at sumV_len S k x hx 0 _ rfl
  have h1 := flat_at sumV_len S k x hx 1 _ rfl
  rw [run_index_agg Tryz.underlying61 (fun w => by simp [isAgg, run_underlying Tryz.underlying60]) (sz := 2) (by kernel_rfl) hk]
  congr 2
  obtain ⟨b0, e0⟩ := List.getElem?_eq_some_iff.1 h0
  obtain ⟨b1, e1⟩ := List.getElem?_eq_some_iff.1 h1
  apply Array.ext
  · simp; omega
  · intro i h2 h3
    rcases (show i = 0 ∨ i = 1 by simp at h3; omega) with rfl | rfl
    · simpa using e0
    · simpa using e1
theorem zero61 : Tryz.zeroCells61 = sumArr (List.replicate 336 0) := by rw [← sumArr_zero]; kernel_rfl
theorem Row.set2 {w : World} {g : Nat} {t : TypeId} {S : List Int} {i : Nat} (h : Row w g t (sumArr S)) (hi : i < S.length) (x : Int) : Row ((w.setCell ⟨g, i * 2 + 1, none⟩ (.int .u64 (loS x))).setCell ⟨g, i * 2, none⟩ (.int .u64 (hiS x))) g t (sumArr (S.set i x)) := by
  rw [← sumArr_set hi]
  exact (h.set _ _).set _ _

set_option maxRecDepth 100000 in
set_option maxHeartbeats 2000000 in
theorem balances_fresh (l : List Ln) (A : Option Addr) (c : Nat) (w : World) (hl : RdE Ln.cells 44 w w.heap.size A l) (hok : ∀ x ∈ l, x.ok) (hn : l.length ≤ 4611686018427387904) :
    Calls Tryz.prog 9 #[.slice A l.length c] w (BalFresh w (l.map Ln.d)) := by
  have Hl := Lib.hid hl
  have Hok := Lib.hid hok
  clear hl hok
  go_enter Tryz.func9, Tryz.ntmps9
  go_wp2
  obtain ⟨sb, hsb⟩ : ∃ sb, sb = w.heap.size := ⟨_, rfl⟩
  obtain ⟨w1, hw1⟩ : ∃ w1, w1 = w.alloc (.cells Tryz.zeroCells61 61) := ⟨_, rfl⟩
  have hr1 : Row w1 sb 61 (sumArr (sumsB (((l.map Ln.d).take 0)))) := by rw [hw1, hsb, zero61]; exact Row.new _ _ _
  have hb1 : Below sb w w1 := by rw [hw1, hsb]; exact (Below.refl _ _).alloc (Nat.le_refl _) _
  rw [← hw1]
  have hl2 : RdE Ln.cells 44 w sb A l := by rw [hsb]; exact Hl.out
  have Hl2 := Lib.hid hl2
  have Hsb := Lib.hid hsb
  rw [← hsb]
  clear hw1 hl2 hsb Hl
  go_loopw [13] (fun i wr => ∃ k : Nat, k ≤ l.length ∧ i = .int .i64 k ∧ Hid (∀ j, j < k → ∀ x, (l.map Ln.d)[j]? = some x → acctD x = true ∧ inR x.amount = true) ∧ Row wr sb 61 (sumArr (sumsB ((l.map Ln.d).take k))) ∧ Below sb w wr)
    (fun i _ => l.length - (intOf i).toNat)
  case atStart => exact ⟨0, Nat.zero_le _, rfl, Lib.hid (fun j hj => absurd hj (by omega)), hr1, hb1⟩
  case round =>
    obtain ⟨k, hk, rfl, hfa, hrow, hbel⟩ := hrel
    by_cases hlt : k < l.length
    · obtain ⟨x, hx⟩ : ∃ x, l[k]? = some x := ⟨_, List.getElem?_eq_getElem hlt⟩
      obtain ⟨b, off, rfl, hbw, c0⟩ := Hl2.out k x hx
      obtain ⟨x1, x2, x3⟩ := Hok.out x (List.mem_of_getElem? hx)
      have hxd : (l.map Ln.d)[k]? = some x.d := by simp [hx]
      have hs : (Tryz.prog.info? 44).map (·.size) = some x.cells.length := by rw [Tryz.size44]; simp [Ln.cells, Dl.cells, x1]
      have hlen : (44 : Nat) = x.cells.length := by simp [Ln.cells, Dl.cells, x1]
      have Hlen := Lib.hid hlen
      have hrg : wr.rangeAt b (off + k * 44) x.cells := fun j v hv => (hbel.cell (p := ⟨b, _, none⟩) hbw).trans (c0 j v hv)
      have Hs0 := Lib.hid hs
      clear hs
      clear hlen
      have hone : ∀ v ∈ x.cells, v.oneCell' = true := by
        intro v hv
        rcases List.mem_append.1 hv with h | h
        · exact Dl.cells_one _ v h
        · exact x2 v h
      have i0 : (0 : Int) ≤ (k : Int) := by omega
      have i1 : (k : Int) < (l.length : Int) := by omega
      have Hxd := Lib.hid hxd
      have Hrow := Lib.hid hrow
      have Hbel := Lib.hid hbel
      clear hx hxd hrow hbel c0 x1 x2 x3 hr1 hb1
      go_upto_region 5 with (first | (refine wpList_load_mid rfl 44 _ rfl _ _ rfl _ _ hrg Tryz.underlying44 rfl Hs0.out ?_) | (refine wpList_store_fresh rfl 44 _ _ rfl x.cells rfl rfl (by simp [← Hlen.out]) Hs0.out hone ?_))
      clear hrg hone
      obtain ⟨W, hW⟩ : ∃ W, W = wr.alloc (.cells x.cells.toArray 44) := ⟨_, rfl⟩
      obtain ⟨lb, hlb⟩ : ∃ lb, lb = wr.heap.size := ⟨_, rfl⟩
      have hrl : Row W lb 44 x.cells.toArray := by rw [hW, hlb]; exact Row.new _ _ _
      have hrs : Row W sb 61 (sumArr (sumsB ((l.map Ln.d).take k))) := by rw [hW]; exact Hrow.out.alloc _
      have hbW : Below sb w W := by rw [hW]; exact Hbel.out.alloc (Nat.le_of_lt Hrow.out.lt) _
      have c1 : W.cell? ⟨lb, 5, none⟩ = some (.int .i64 x.d.payer) := by rw [hrl.cell]; rfl
      have c2 : W.cell? ⟨lb, 6, none⟩ = some (.int .i64 x.d.payee) := by rw [hrl.cell]; rfl
      have c4 : W.cell? ⟨lb, 8, none⟩ = some (.int .i64 x.d.amount) := by rw [hrl.cell]; rfl
      rw [← hW, ← hlb]
      have hsl : sb ≠ lb := by rw [hlb]; exact Nat.ne_of_lt Hrow.out.lt
      obtain ⟨y, hy⟩ : ∃ y, y = x.d.payer := ⟨_, rfl⟩
      obtain ⟨z, hz⟩ : ∃ z, z = x.d.payee := ⟨_, rfl⟩
      obtain ⟨n, hnn⟩ : ∃ n, n = x.d.amount := ⟨_, rfl⟩
      have hac : acctD x.d = (acct y && acct z) := by rw [acctD, hy, hz]
      rw [← hy] at c1
      rw [← hz] at c2
      rw [← hnn] at c4
      have Hac := Lib.hid hac
      have Hy := Lib.hid hy
      have Hz := Lib.hid hz
      have Hnn := Lib.hid hnn
      have Hrl := Lib.hid hrl
      have Hrs := Lib.hid hrs
      have HbW := Lib.hid hbW
      clear hW hlb hrl hrs hbW Hrow Hbel hac hy hz hnn
      go_frame
      go_cut [30] (fun v wx => v = .bool (!(acct y && acct z)) ∧ wx = W)
      case first =>
        rcases Int.lt_trichotomy y z with h | h | h
        · have h2 : ¬ z < y := by omega
          by_cases h3 : y < 0
          · skip
            have E := Lib.hid (show (acct y && acct z) = false by simp [acct]; omega)
            go_wp2_with fail
            go_meet
            exact ⟨by rw [E.out]; rfl, rfl⟩
          · by_cases h4 : z < 336
            · skip
              have E := Lib.hid (show (acct y && acct z) = true by simp [acct]; omega)
              go_wp2_with fail
              go_meet
              exact ⟨by rw [E.out]; simp; omega, rfl⟩
            · skip
              have E := Lib.hid (show (acct y && acct z) = false by simp [acct]; omega)
              go_wp2_with fail
              go_meet
              exact ⟨by rw [E.out]; rfl, rfl⟩
        · obtain rfl := h
          by_cases h3 : y < 0
          · skip
            have E := Lib.hid (show (acct y && acct y) = false by simp [acct]; omega)
            go_wp2_with fail
            go_meet
            exact ⟨by rw [E.out]; rfl, rfl⟩
          · by_cases h4 : y < 336
            · skip
              have E := Lib.hid (show (acct y && acct y) = true by simp [acct]; omega)
              go_wp2_with fail
              go_meet
              exact ⟨by rw [E.out]; simp; omega, rfl⟩
            · skip
              have E := Lib.hid (show (acct y && acct y) = false by simp [acct]; omega)
              go_wp2_with fail
              go_meet
              exact ⟨by rw [E.out]; rfl, rfl⟩
        · have h2 : ¬ y < z := by omega
          by_cases h3 : z < 0
          · skip
            have E := Lib.hid (show (acct y && acct z) = false by simp [acct]; omega)
            go_wp2_with fail
            go_meet
            exact ⟨by rw [E.out]; rfl, rfl⟩
          · by_cases h4 : y < 336
            · skip
              have E := Lib.hid (show (acct y && acct z) = true by simp [acct]; omega)
              go_wp2_with fail
              go_meet
              exact ⟨by rw [E.out]; simp; omega, rfl⟩
            · skip
              have E := Lib.hid (show (acct y && acct z) = false by simp [acct]; omega)
              go_wp2_with fail
              go_meet
              exact ⟨by rw [E.out]; rfl, rfl⟩
      case rest =>
        obtain ⟨rfl, rfl⟩ := hcut
        by_cases hac : (acct y && acct z) = true
        · rw [hac]
          obtain ⟨ha1, ha2⟩ : acct y = true ∧ acct z = true := by simpa using hac
          have hy1 : 0 ≤ y ∧ y < 336 := by simpa [acct] using ha1
          have hz1 : 0 ≤ z ∧ z < 336 := by simpa [acct] using ha2
          obtain ⟨hy1, hy2⟩ := hy1
          obtain ⟨hz1, hz2⟩ := hz1
          have Hat := Lib.hid hac
          clear hac ha1 ha2
          by_cases hr : inR n = true
          · have hr' := inR_un hr
            obtain ⟨hr1, hr2⟩ := hr'
            have Hr := Lib.hid hr
            clear hr
            obtain ⟨i, rfl⟩ := Int.eq_ofNat_of_zero_le hy1
            obtain ⟨j, rfl⟩ := Int.eq_ofNat_of_zero_le hz1
            have hi : i < 336 := by omega
            have hj : j < 336 := by omega
            go_upto_region 9 with fail
            go_still_tail 5, (by kernel_rfl)
            change wpList _ _ _ _ _ wc.drew
            have HrsD : Hid (Row wc.drew sb 61 (sumArr (sumsB ((l.map Ln.d).take k)))) := Hrs
            have HbD : Hid (Below sb w wc.drew) := Lib.hid (Below.drew HbW.out)
            have HlD : Hid (Row wc.drew lb 44 x.cells.toArray) := Hrl
            have d1 : wc.drew.cell? ⟨lb, 5, none⟩ = some (.int .i64 i) := c1
            have d2 : wc.drew.cell? ⟨lb, 6, none⟩ = some (.int .i64 j) := c2
            have d4 : wc.drew.cell? ⟨lb, 8, none⟩ = some (.int .i64 n) := c4
            clear c1 c2 c4 Hrs HbW Hrl
            generalize wc.drew = w2 at *
            have hsz : (sumsB ((l.map Ln.d).take k)).length = 336 := sumsB_len _
            have Hsz := Lib.hid hsz
            clear hsz
            have hnr : inR (-n) = true := by simp [inR]; omega
            have Hnr := Lib.hid hnr
            clear hnr
            go_wp2_with fail
            refine (add37_any sb j 61 _ _ n w2 HrsD.out (getD_some (by rw [Hsz.out]; exact hj)) Hr.out).mono ?_
            rintro e w3 ⟨rfl, hw3⟩
            have hr3 : Row w3 sb 61 (sumArr (addAt (sumsB ((l.map Ln.d).take k)) j n)) := by rw [hw3]; exact HrsD.out.set2 (by rw [Hsz.out]; exact hj) _
            have hb3 : Below sb w w3 := by rw [hw3]; exact (HbD.out.setCell (p := ⟨sb, _, none⟩) (Nat.le_refl _) _).setCell (p := ⟨sb, _, none⟩) (Nat.le_refl _) _
            have hl3 : Row w3 lb 44 x.cells.toArray := by rw [hw3]; exact (HlD.out.far (p := ⟨sb, _, none⟩) hsl.symm _).far (p := ⟨sb, _, none⟩) hsl.symm _
            have c1 : w3.cell? ⟨lb, 5, none⟩ = some (.int .i64 i) := by rw [hl3.cell]; simp [Ln.cells, Dl.cells, Hy.out]
            have c4 : w3.cell? ⟨lb, 8, none⟩ = some (.int .i64 n) := by rw [hl3.cell]; simp [Ln.cells, Dl.cells, Hnn.out]
            have Hr3 := Lib.hid hr3
            have Hb3 := Lib.hid hb3
            have Hl3 := Lib.hid hl3
            clear hw3 hr3 hb3 hl3 HrsD HbD HlD d1 d2 d4
            have wn : IntKind.i64.wrap (-n) = -n := by rw [IntWalk.i64_left]; unfold wrap64; omega
            go_upto_region 10 with fail
            go_still_tail 6, (by kernel_rfl)
            change wpList _ _ _ _ _ w3.drew
            have HrsD : Hid (Row w3.drew sb 61 (sumArr (addAt (sumsB ((l.map Ln.d).take k)) j n))) := Hr3
            have HbD : Hid (Below sb w w3.drew) := Lib.hid (Below.drew Hb3.out)
            have d1 : w3.drew.cell? ⟨lb, 5, none⟩ = some (.int .i64 i) := c1
            have d4 : w3.drew.cell? ⟨lb, 8, none⟩ = some (.int .i64 n) := c4
            clear c1 c4 Hr3 Hb3 Hl3
            generalize w3.drew = w4 at *
            go_wp2_with fail
            refine (add37_any sb i 61 _ _ (-n) w4 HrsD.out (getD_some (by rw [addAt_len, Hsz.out]; exact hi)) Hnr.out).mono ?_
            rintro e w5 ⟨rfl, hw5⟩
            have hr5 : Row w5 sb 61 (sumArr (addAt (addAt (sumsB ((l.map Ln.d).take k)) j n) i (-n))) := by rw [hw5]; exact HrsD.out.set2 (by rw [addAt_len, Hsz.out]; exact hi) _
            have hb5 : Below sb w w5 := by rw [hw5]; exact (HbD.out.setCell (p := ⟨sb, _, none⟩) (Nat.le_refl _) _).setCell (p := ⟨sb, _, none⟩) (Nat.le_refl _) _
            have Hr5 := Lib.hid hr5
            have Hb5 := Lib.hid hb5
            clear hw5 hr5 hb5 HrsD HbD d1 d4
            go_wp2
            go_roundw
            case rel =>
              refine ⟨k + 1, by omega, by go_num, Lib.hid (all_step2 hfa.out Hxd.out ?_), ?_, Hb5.out⟩
              · exact ⟨by rw [Hac.out, Hat.out], by rw [← Hnn.out]; exact Hr.out⟩
              · have e : sumsB ((l.map Ln.d).take (k + 1)) = addAt (addAt (sumsB ((l.map Ln.d).take k)) j n) i (-n) := by
                  rw [sumsB, List.take_add_one, Hxd.out]
                  simp only [Option.toList_some, List.foldl_append, List.foldl_cons, List.foldl_nil]
                  rw [← sumsB, stepB, ← Hy.out, ← Hz.out, ← Hnn.out, Int.toNat_natCast, Int.toNat_natCast]
                rw [e]
                exact Hr5.out
            case measure => simp [intOf]; omega
          · by_cases hr1 : n < -9007199254740992
            · go_wp2
              go_ret2
              exact BalFresh.nil (balF_fault ((faultB_at hfa.out Hxd.out).2 (by rw [Hac.out, Hat.out]) (by rw [← Hnn.out]; simpa using hr)) (by decide)) (HbW.out.mono (Nat.le_of_eq Hsb.out.symm))
            · have hr2 : 9007199254740992 < n := by have := inR_not hr; omega
              go_wp2
              go_ret2
              exact BalFresh.nil (balF_fault ((faultB_at hfa.out Hxd.out).2 (by rw [Hac.out, Hat.out]) (by rw [← Hnn.out]; simpa using hr)) (by decide)) (HbW.out.mono (Nat.le_of_eq Hsb.out.symm))
        · have hf : (acct y && acct z) = false := by simpa using hac
          rw [hf]
          clear hac
          go_wp2
          go_ret2
          exact BalFresh.nil (balF_fault ((faultB_at hfa.out Hxd.out).1 (by rw [Hac.out, hf])) (by decide)) (HbW.out.mono (Nat.le_of_eq Hsb.out.symm))
    · have hkl : k = l.length := by omega
      subst hkl
      rw [List.take_of_length_le (by simp)] at hrow
      have hfz : faultB (l.map Ln.d) = 0 := faultB_ok fun j hj => hfa.out j (by simpa using hj)
      obtain ⟨S, hS⟩ : ∃ S, S = sumsB (l.map Ln.d) := ⟨_, rfl⟩
      rw [← hS] at hrow
      have hSl : S.length = 336 := by rw [hS, sumsB_len]
      have hSb : ∀ (i : Nat) (x : Int), S[i]? = some x → -(18014398509481984 * (l.length : Int)) ≤ x ∧ x ≤ 18014398509481984 * (l.length : Int) := by
        intro i x hx
        have e : S.getD i 0 = x := by rw [List.getD_eq_getElem?_getD, hx]; rfl
        rw [hS, sumsB_get (faultB_zero hfz).1] at e
        have := flowAt_le i _ (faultB_zero hfz).2
        rw [e] at this
        simpa using this
      obtain ⟨cs, hcs⟩ : ∃ cs, cs = flat sumV S := ⟨_, rfl⟩
      have hrg : wr.rangeAt sb 0 cs := by
        intro j v hv
        rw [Nat.zero_add, hrow.cell, sumArr, ← hcs]
        simpa using hv
      have hcl : cs.length = 672 := by rw [hcs, flat_length sumV_len, hSl]
      have hs : (Tryz.prog.info? 61).map (·.size) = some cs.length := by rw [hcl]; kernel_rfl
      have Hfz := Lib.hid hfz
      have HS := Lib.hid hS
      have HSl := Lib.hid hSl
      have HSb := Lib.hid hSb
      have Hcs := Lib.hid hcs
      have Hcl := Lib.hid hcl
      have Hs := Lib.hid hs
      have hrg2 : (wr.alloc (.cells (Array.replicate 336 (Value.int .i64 0)) 3)).rangeAt sb 0 cs := fun j v hv => (World.cell?_of_block (w := wr) (Below.heap_alloc wr _ sb hrow.lt)).trans (hrg j v hv)
      have Hrg := Lib.hid hrg2
      have Hbel := Lib.hid hbel
      have Hrow := Lib.hid hrow
      have hmk : (Instr.makeSlice 24 (.int .i64 0) (.int .i64 336)).run Tryz.prog wr = .ok (.slice (some ⟨wr.heap.size, 0, none⟩) 0 336) (wr.alloc (.cells (Array.replicate 336 (Value.int .i64 0)) 3)) := make24c wr
      clear hfa hfz hS hSl hSb hcs hcl hrg hbel hrow hrg2 hs
      go_wp2_with (refine wpList_load_mid rfl 61 _ rfl _ _ rfl _ _ Hrg.out Tryz.underlying61 rfl Hs.out ?_)
      obtain ⟨ob, hob⟩ : ∃ ob, ob = wr.heap.size := ⟨_, rfl⟩
      obtain ⟨w2, hw2⟩ : ∃ w2, w2 = wr.alloc (.cells (Array.replicate 336 (Value.int .i64 0)) 3) := ⟨_, rfl⟩
      have hsbo : sb ≤ ob := by rw [hob]; exact Nat.le_of_lt Hrow.out.lt
      have hown : w2.ownsRow ob 3 1 (.slice (some ⟨ob, 0, none⟩) 0 336) 0 [] := by
        rw [hw2, hob]
        exact ⟨rfl, Or.inr ⟨wr.heap.size, 336, Array.replicate 336 (Value.int .i64 0), rfl, Nat.le_refl _, heap_alloc_new _ _, Nat.zero_le _, (by decide : 336 ≤ maxLen), by simp, by simp⟩⟩
      have hb2 : Below sb w w2 := by rw [hw2]; exact Hbel.out.alloc (Nat.le_of_lt Hrow.out.lt) _
      have hob2 : ob ≤ w2.heap.size := by rw [hw2, hob]; simp
      rw [← hw2, ← hob]
      have Hown := Lib.hid hown
      have Hb2 := Lib.hid hb2
      clear hmk hw2 hob hown hb2
      go_loopw [7, 55] (fun o i wx => ∃ k : Nat, k ≤ 336 ∧ i = .int .i64 k ∧ Hid (∀ j, j < k → ∀ x, S[j]? = some x → inR x = true) ∧ wx.ownsRow ob 3 1 o k ((S.take k).map (.int .i64)) ∧ Below sb w wx ∧ ob ≤ wx.heap.size)
        (fun _ i _ => 336 - (intOf i).toNat)
      case atStart => exact ⟨0, Nat.zero_le _, rfl, Lib.hid (fun j hj => absurd hj (by omega)), by simpa using Hown.out, Hb2.out, hob2⟩
      case round =>
        obtain ⟨k, hk, rfl, hin, hown, hbel, hobx⟩ := hrel
        by_cases hlt : k < 336
        · obtain ⟨x, hx⟩ : ∃ x, S[k]? = some x := ⟨_, List.getElem?_eq_getElem (by rw [HSl.out]; exact hlt)⟩
          obtain ⟨xb1, xb2⟩ := HSb.out k x hx
          have i0 : (0 : Int) ≤ (k : Int) := by omega
          have i1 : (k : Int) < 336 := by omega
          have hix := fun w => index61 (w := w) hx hlt
          rw [← Hcs.out] at hix
          have hix1 := hix wr
          have Hx := Lib.hid hx
          have Hown := Lib.hid hown
          have Hbel := Lib.hid hbel
          clear hx hown hbel hix
          by_cases hrg : -9223372036854775808 ≤ x ∧ x ≤ 9223372036854775807
          · have e1 : IntKind.i64.wrap (loS x) = x := by rw [i64wrap_of]; unfold wrap64; omega
            have e2 : IntKind.u64.wrap (x / 9223372036854775808) = hiS x := by rw [u64wrap]; unfold hiS; omega
            by_cases hr : inR x = true
            · obtain ⟨hr1, hr2⟩ := inR_un hr
              have Hr := Lib.hid hr
              clear hr
              obtain ⟨W, hW⟩ : ∃ W, W = wr.alloc (.cells #[.int .u64 (hiS x), .int .u64 (loS x)] 60) := ⟨_, rfl⟩
              have hown1 : W.ownsRow ob 3 1 u7 k ((S.take k).map (.int .i64)) := by rw [hW]; exact Hown.out.alloc _
              have hb1 : Below sb w W := by rw [hW]; exact Hbel.out.alloc (Nat.le_trans hsbo hobx) _
              have hob1 : ob ≤ W.heap.size := by rw [hW]; simp; omega
              have hc0 : W.cell? ⟨wr.heap.size, 0, none⟩ = some (.int .u64 (hiS x)) := by rw [hW]; exact (Row.new wr 60 _).cell 0
              have hown2 := hown1.alloc (.cells #[.int .i64 x] 3)
              have hnews : ∀ (jj : Nat) (u : Value), ([Value.int .i64 x])[jj]? = some u → (W.alloc (.cells #[.int .i64 x] 3)).cell? ((⟨W.heap.size, 0, none⟩ : Addr).add jj) = some u := World.news_of_block (heap_alloc_new W _)
              have hobA : ob ≤ (W.alloc (.cells #[.int .i64 x] 3)).heap.size := by simp; omega
              have Hown2 := Lib.hid hown2
              have Hown0 := Lib.hid hown1.lt
              have Hnews := Lib.hid hnews
              have Hb1 := Lib.hid hb1
              have HobA := Lib.hid hobA
              obtain ⟨i3, hi3', hz3, hs3, hby3⟩ := info3'
              have Hi3 := Lib.hid hi3'
              have Hz3 := Lib.hid hz3
              have Hs3 := Lib.hid hs3
              have Hby3 := Lib.hid hby3
              have hl63 : k + 1 ≤ maxLen := by simp only [maxLen]; omega
              have Hl63 := Lib.hid hl63
              clear hi3' hz3 hs3 hby3 hown1 hown2 hnews hl63 hb1 hobA
              go_upto_region 17 with fail
              rw [← hW]
              clear hW Hown Hbel hobx
              go_wp2_with (at_builtin; refine wpList_append_own _ rfl _ _ 24 rfl ob 3 i3 (.int .i64 0) 1 8 Tryz.underlying24 Hi3.out Hz3.out Hs3.out Hby3.out rfl (by decide) _ k _ rfl Hown2.out ⟨W.heap.size, 0, none⟩ 1 1 [.int .i64 x] rfl rfl Hnews.out (one_ints [x]) Hl63.out (by omega) HobA.out ?_; intro v' w6 hown6 hgrow6 hiff6)
              go_roundw
              case rel =>
                refine ⟨k + 1, by omega, by go_num, Lib.hid (all_step2 hin.out Hx.out Hr.out), ?_, ((Hb1.out.alloc (Nat.le_trans hsbo hob1) _).grown hgrow6 (by simp; omega) (fun k' hk' => Nat.le_trans hsbo (Hown0.out k' hk').1)), ?_⟩
                · rw [List.take_add_one, Hx.out]
                  simpa using hown6
                · have := hgrow6.size
                  simp at this
                  omega
              case measure => simp [intOf]; omega
            · have hr' := inR_not hr
              have hbf : balF (l.map Ln.d) = ([], 3) := balF_over Hfz.out (by rw [← HS.out]; exact Hx.out) (by simpa using hr)
              have Hbf := Lib.hid hbf
              have hbw : Below w.heap.size w (wr.alloc (.cells #[.int .u64 (hiS x), .int .u64 (loS x)] 60)) := (Hbel.out.alloc (Nat.le_trans hsbo hobx) _).mono (Nat.le_of_eq Hsb.out.symm)
              have Hbw := Lib.hid hbw
              clear hr hbf hbw
              by_cases h1 : x < -9007199254740992
              · go_wp2
                go_ret2
                exact BalFresh.nil Hbf.out Hbw.out
              · have h2 : 9007199254740992 < x := by omega
                go_wp2
                go_ret2
                exact BalFresh.nil Hbf.out Hbw.out
          · have e1 : IntKind.i64.wrap (loS x) = wrap64 x := i64wrap_of _
            have e2 : ¬ hiS x = IntKind.u64.wrap (wrap64 x / 9223372036854775808) := by rw [u64wrap]; unfold hiS wrap64; omega
            have hr : inR x = false := inR_no (by omega)
            have hbf : balF (l.map Ln.d) = ([], 3) := balF_over Hfz.out (by rw [← HS.out]; exact Hx.out) hr
            have Hbf := Lib.hid hbf
            have hbw : Below w.heap.size w (wr.alloc (.cells #[.int .u64 (hiS x), .int .u64 (loS x)] 60)) := (Hbel.out.alloc (Nat.le_trans hsbo hobx) _).mono (Nat.le_of_eq Hsb.out.symm)
            have Hbw := Lib.hid hbw
            generalize wrap64 x = T at e1 e2
            clear hbf hbw hr hrg
            go_wp2
            go_ret2
            exact BalFresh.nil Hbf.out Hbw.out
        · obtain rfl : k = 336 := by omega
          have e : balF (l.map Ln.d) = (S, 0) := by rw [balF_ok Hfz.out (by rw [← HS.out]; exact hin.out), HS.out]
          have hown2 : wr.ownsRow ob 3 1 u7 S.length (S.map (.int .i64)) := by
            rw [List.take_of_length_le (by rw [HSl.out]; exact Nat.le_refl _)] at hown
            rw [HSl.out]
            exact hown
          obtain ⟨Ao, co, rfl, hro⟩ := own_ints hown2
          have hcap := own_cap hown2
          have hfr := own_fresh hown2
          rw [HSl.out] at hcap ⊢
          have He := Lib.hid e
          have Hfr := Lib.hid hfr
          have Hro := Lib.hid hro
          have Hbel := Lib.hid hbel
          clear hown hown2 e hro hbel hfr
          go_wp2_with fail
          refine (clip_any Ao 336 co wr hcap.1 hcap.2).mono ?_
          rintro e w7 ⟨rfl, rfl⟩
          go_wp2
          go_ret2
          refine ⟨Ao, 336, by rw [He.out, HSl.out]; rfl, Hbel.out.mono (Nat.le_of_eq Hsb.out.symm), ?_, ?_⟩
          · rw [He.out]
            exact Hro.out
          · intro b o s hA
            have := Hfr.out b o s hA
            have := Hsb.out
            omega

theorem balances_any (l : List Ln) (A : Option Addr) (c : Nat) (w : World) (hl : RdE Ln.cells 44 w w.heap.size A l) (hok : ∀ x ∈ l, x.ok) (hn : l.length ≤ 4611686018427387904) :
    Calls Tryz.prog 9 #[.slice A l.length c] w (BalRes w (l.map Ln.d)) := (balances_fresh l A c w hl hok hn).mono fun _ _ h => h.res
end Go.Proofs.YtcdfjnnkocmeeaaGreatDoor
