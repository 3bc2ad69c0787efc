/-
  The reference's Wagons, walked.
  Conditions: as each theorem states them.
-/
import Derived.Test.YtoiipfcmkogcfaaRw
import Derived.Test.YtoiipfcmkogcfaaRr
namespace Go.Proofs.Ytoiipfcmkogcfaa
open Go.RowKit Go.Lib

theorem info4' : ∃ i, Try.prog.info? 4 = some i ∧ i.zero = some (.bool false) ∧ i.size = 1 ∧ i.bytes = 1 := by
  have h : ((Try.prog.info? 4).any fun i => i.size == 1 && i.bytes == 1 && (match i.zero with | some (.bool false) => true | _ => false)) = true := by kernel_rfl
  cases hi : Try.prog.info? 4 with
  | none => rw [hi] at h; cases h
  | some i =>
    rw [hi] at h
    simp only [Option.any_some, Bool.and_eq_true, beq_iff_eq] at h
    refine ⟨i, rfl, ?_, h.1.1, h.1.2⟩
    have h2 := h.2
    split at h2
    · assumption
    · cases h2
theorem made_one' (v : Value) (n : Nat) : madeCells #[v] n = Array.replicate n v := by
  apply Array.ext
  · simp [madeCells]
  · intro i h1 h2
    simp [madeCells, Nat.mod_one]
theorem make72n (n : Nat) (hn : n ≤ 140737488351232) (w : World) : (Instr.makeSlice 72 (.int .i64 (n : Int)) (.int .i64 (n : Int))).run Try.prog w = .ok (.slice (some ⟨w.heap.size, 0, none⟩) n n) (w.alloc (.cells (Array.replicate n (Value.bool false)) 4)) := by
  obtain ⟨i, hi, hz, hs, hb⟩ := info4'
  have h := run_make w 72 4 i (.bool false) Try.underlying72 hi hz .i64 .i64 n n (by omega) (by omega) (by rw [hb]; omega) (by omega)
  rw [hs] at h
  rw [h, show (Value.bool false).cells = #[Value.bool false] from rfl, made_one', Int.toNat_natCast, Nat.mul_one]

theorem info3' : ∃ i, Try.prog.info? 3 = some i ∧ i.zero = some (.int .i64 0) ∧ i.size = 1 ∧ i.bytes = 8 := by
  have h : ((Try.prog.info? 3).any fun i => i.size == 1 && i.bytes == 8 && (match i.zero with | some (.int .i64 0) => true | _ => false)) = true := by kernel_rfl
  cases hi : Try.prog.info? 3 with
  | none => rw [hi] at h; cases h
  | some i =>
    rw [hi] at h
    simp only [Option.any_some, Bool.and_eq_true, beq_iff_eq] at h
    refine ⟨i, rfl, ?_, h.1.1, h.1.2⟩
    have h2 := h.2
    split at h2
    · assumption
    · cases h2
theorem wpList_append_int {ops : Array Oper} {rest : List Oper} {o : Oper} {a : Act} {W : World} {Q : Exit → Act → World → Prop} (hgd : o.guard = none) (s x : Operand)
    (ho : o.op = .call { callee := .builtin .append, args := #[s, x], argTypes := #[23, 23] })
    (ob : Nat) (v : Value) (L : List Int) (hs : a.eval s = v) (hown : W.ownsRow ob 3 1 v L.length (L.map (.int .i64))) (y : Int)
    (hx : a.eval x = .slice (some ⟨W.heap.size, 0, none⟩) 1 1) (hL : L.length ≤ 3518437208790) (hob : ob ≤ W.heap.size)
    (h : ∀ v' w', w'.ownsRow ob 3 1 v' (L ++ [y]).length ((L ++ [y]).map (.int .i64)) → Below ob W w' → W.grownBy w' v.ownBlock ∨ True → ob ≤ w'.heap.size → wpList Try.prog ops Q rest (a.put o.dst v') w') : wpList Try.prog ops Q (o :: rest) a (W.alloc (.cells #[.int .i64 y] 3)) := by
  obtain ⟨i3, hi3, hz3, hs3, hby3⟩ := info3'
  have hown2 := hown.alloc (.cells #[.int .i64 y] 3)
  have hnews : ∀ (jj : Nat) (u : Value), ([Value.int .i64 y])[jj]? = some u → (W.alloc (.cells #[.int .i64 y] 3)).cell? ((⟨W.heap.size, 0, none⟩ : Addr).add jj) = some u := World.news_of_block (heap_alloc_new W _)
  have hobA : ob ≤ (W.alloc (.cells #[.int .i64 y] 3)).heap.size := by simp; omega
  refine wpList_append_own _ hgd s x 23 ho ob 3 i3 (.int .i64 0) 1 8 Try.underlying23 hi3 hz3 hs3 hby3 rfl (by decide) v L.length _ hs hown2 ⟨W.heap.size, 0, none⟩ 1 1 [.int .i64 y] hx rfl hnews (fun u hu => by simp at hu; subst hu; rfl) (by simp only [maxLen]; omega) (by omega) hobA ?_
  intro v' w' h1 h2 _
  refine h v' w' (by simpa using h1) (((Below.refl ob W).alloc hob _).grown h2 hobA (fun k' hk' => (hown.lt k' hk').1)) (Or.inr trivial) (Nat.le_trans hobA h2.size)
theorem own_intsW {w : World} {base : Nat} {t : TypeId} {v : Value} {l : List Int} (h : w.ownsRow base t 1 v l.length (l.map (.int .i64))) : ∃ A c, v = .slice A l.length c ∧ RdI w w.heap.size A l := by
  rcases h.2 with ⟨rfl, e⟩ | ⟨g, cap, cur, rfl, _, hh, hnc, _, hsz, htake⟩
  · have : l = [] := List.eq_nil_of_length_eq_zero e
    subst this
    exact ⟨none, 0, rfl, fun k x hx => by simp at hx⟩
  · refine ⟨_, cap, rfl, fun k x hx => ⟨g, 0, rfl, (Array.getElem?_eq_some_iff.1 hh).1, ?_⟩⟩
    have hr : Row w g t cur := hh
    rw [Nat.zero_add, hr.cell]
    have hk := (List.getElem?_eq_some_iff.1 hx).1
    have h1 : (l.map (Value.int .i64))[k]? = some (.int .i64 x) := by simp [hx]
    rw [← htake, List.getElem?_take_of_lt (by omega)] at h1
    simpa using h1
/-- A slice of reports that the call owns reads as its list, in a block of its own. -/
theorem rps_own {w : World} {base : Nat} {v : Value} {l : List Rp} (h : w.ownsRow base 58 21 v l.length (flat Rp.cells l)) : ∃ A c, v = .slice A l.length c ∧ RdE Rp.cells 21 w w.heap.size A l ∧ ∀ b o s, A = some ⟨b, o, s⟩ → base ≤ b := by
  obtain ⟨A, c, rfl, hr⟩ := RdE.of_own Rp.cells_len h
  refine ⟨A, c, rfl, hr, fun b o s hA => ?_⟩
  subst hA
  exact (h.lt b rfl).1

set_option maxRecDepth 100000 in
set_option maxHeartbeats 4000000 in
theorem refWagons_any (pc : List Value) (WA : Option Addr) (nw wc : Nat) (old new : List Rp) (A B : Option Addr) (ca cb : Nat) (w : World) (hpc : pc[3]? = some (.slice WA nw wc)) (ho : RdF w w.heap.size A old) (hn : RdF w w.heap.size B new)
    (lo : old.length ≤ 40) (ln : new.length ≤ 40) (nlo : A = none → old = [] ∧ ca = 0) (nln : B = none → new = [] ∧ cb = 0) (hnw : nw ≤ 3518437208780) :
    Calls Try.prog 17 #[.agg pc.toArray, .slice A old.length ca, .slice B new.length cb] w fun e w' => ∃ (A' : Option Addr) (c' : Nat), e = .returned (.tuple #[.slice A' (hitsTo old new nw).length c', .bool (allTo old new (old ++ new).length)]) ∧ Below w.heap.size w w' ∧ RdI w' w'.heap.size A' (hitsTo old new nw) := by
  have Ho := Lib.hid ho
  have Hn := Lib.hid hn
  have Nlo := Lib.hid nlo
  have Nln := Lib.hid nln
  clear ho hn nlo nln
  go_enter Try.func17, Try.ntmps17
  go_upto_region 1 with fail
  have hrow1 : Row (w.alloc (.cells pc.toArray 47)) w.heap.size 47 pc.toArray := Row.new _ _ _
  have hb0 : Below w.heap.size w (w.alloc (.cells pc.toArray 47)) := (Below.refl _ _).alloc (Nat.le_refl _) _
  have c3 : (w.alloc (.cells pc.toArray 47)).cell? ⟨w.heap.size, 3, none⟩ = some (.slice WA nw wc) := (hrow1.cell 3).trans (by rw [List.getElem?_toArray]; exact hpc)
  refine (?_ : ∀ w1 : World, w1.cell? ⟨w.heap.size, 3, none⟩ = some (.slice WA nw wc) ∧ Below w.heap.size w w1 → Code.wp _ _ _ _ w1) _ ⟨c3, hb0⟩
  clear hrow1 hb0 c3
  rintro w1 ⟨c3, hb0⟩
  have Hb0 := Lib.hid hb0
  clear hb0
  have hmk := make72n nw (by omega)
  go_upto_region 3 with fail
  clear hmk
  obtain ⟨hb, hhb⟩ : ∃ hb, hb = w1.heap.size := ⟨_, rfl⟩
  obtain ⟨w2, hw2⟩ : ∃ w2, w2 = w1.alloc (.cells (Array.replicate nw (Value.bool false)) 4) := ⟨_, rfl⟩
  have hrow2 : Row w2 hb 4 (hitRow old new nw 0) := by rw [hw2, hhb, ← hitRow_zero]; exact Row.new _ _ _
  have hb2 : Below w.heap.size w w2 := by rw [hw2]; exact Hb0.out.alloc Hb0.out.size _
  have hwhb : w.heap.size ≤ hb := by rw [hhb]; exact Hb0.out.size
  rw [← hw2, ← hhb]
  obtain ⟨ob, hob⟩ : ∃ ob, ob = w2.heap.size := ⟨_, rfl⟩
  have hobhb : hb < ob := by rw [hob]; exact hrow2.lt
  have hown0 : (w2.alloc (.cells #[] 58)).ownsRow ob 58 21 (.slice (some ⟨w2.heap.size, 0, none⟩) 0 0) 0 [] := own_empty w2 ob 58 21 (Nat.le_of_eq hob)
  have hrow3 : Row (w2.alloc (.cells #[] 58)) hb 4 (hitRow old new nw 0) := hrow2.alloc _
  have hb3 : Below w.heap.size w (w2.alloc (.cells #[] 58)) := hb2.alloc hb2.size _
  have hob3 : ob ≤ (w2.alloc (.cells #[] 58)).heap.size := by simp; omega
  have Hown0 := Lib.hid hown0
  have Hrow3 := Lib.hid hrow3
  have Hb3 := Lib.hid hb3
  have Hob3 := Lib.hid hob3
  have Hwhb := Lib.hid hwhb
  have Hobhb := Lib.hid hobhb
  have Ho3 := Lib.hid ((Ho.out.row.below hb3).more hb3.size)
  have Hn0 := Lib.hid Hn.out.row
  have H63 : Hid (0 + old.length ≤ 1000) := Lib.hid (by omega)
  have H64 : Hid (0 + old.length + new.length ≤ 1000) := Lib.hid (by omega)
  clear hw2 hrow2 hb2 hwhb hob hobhb hown0 hrow3 hb3 hob3 hhb Hb0 c3
  go_wp2_with (first
    | (show wpList _ _ _ (⟨some 22, _, _, _, _, _⟩ :: _) _ _
       refine wpList_append_rps rfl _ _ rfl ob _ 0 [] rfl Hown0.out old A ca Ho3.out Nlo.out rfl H63.out Hob3.out ?_
       intro v1 w3 hown1 hg1
       have hb4 : Below w.heap.size w w3 := Hb3.out.grown hg1 Hb3.out.size (fun k hk => by have := (Hown0.out.lt k hk).1; have := Hobhb.out; have := Hwhb.out; omega)
       have Hrow4 := Lib.hid (Hrow3.out.grown hg1 (fun e => by have := (Hown0.out.lt hb e.symm).1; have := Hobhb.out; omega))
       have Hob4 : Hid (ob ≤ w3.heap.size) := Lib.hid (Nat.le_trans Hob3.out hg1.size)
       have Hown1 := Lib.hid hown1
       have Hb4 := Lib.hid hb4
       have Hn4 := Lib.hid ((Hn0.out.below hb4).more hb4.size)
       clear hown1 hg1 hb4)
    | (show wpList _ _ _ (⟨some 24, _, _, _, _, _⟩ :: _) _ _
       refine wpList_append_rps rfl _ _ rfl ob _ (0 + old.length) _ rfl Hown1.out new B cb Hn4.out Nln.out rfl H64.out Hob4.out ?_
       intro v2 w4 hown2 hg2
       have hb5 : Below w.heap.size w w4 := Hb4.out.grown hg2 Hb4.out.size (fun k hk => by have := (Hown1.out.lt k hk).1; have := Hobhb.out; have := Hwhb.out; omega)
       have Hrow5 := Lib.hid (Hrow4.out.grown hg2 (fun e => by have := (Hown1.out.lt hb e.symm).1; have := Hobhb.out; omega))
       have Hown2 := Lib.hid hown2
       have Hb5 := Lib.hid hb5
       clear hown2 hg2 hb5)
    | fail)
  have hown3 := Hown2.out
  rw [Nat.zero_add, ← List.length_append, List.nil_append, ← flat_append] at hown3
  obtain ⟨A3, c3, rfl, hr3, hf3⟩ := rps_own hown3
  have Hlen : Hid ((old ++ new).length ≤ 80) := Lib.hid (by rw [List.length_append]; omega)
  have Hne3 : Hid (∀ b o s, A3 = some ⟨b, o, s⟩ → b ≠ hb) := Lib.hid (fun b o s h => by have := hf3 b o s h; have := Hobhb.out; omega)
  have Hr3 := Lib.hid hr3
  have Hpts : Hid (∀ r ∈ old ++ new, RdP w w.heap.size r ∧ r.pts.length ≤ 1000) := Lib.hid (fun r hr => (List.mem_append.1 hr).elim (fun h => ⟨Ho.out.pts r h, Ho.out.few r h⟩) (fun h => ⟨Hn.out.pts r h, Hn.out.few r h⟩))
  obtain ⟨both, hboth⟩ : ∃ both, both = old ++ new := ⟨_, rfl⟩
  have Hboth := Lib.hid hboth
  rw [← hboth] at Hlen Hr3 Hpts ⊢
  clear hown3 hr3 hf3 Hown2 Hown1 Hown0 Hrow3 Hrow4 Hb3 Hb4 Hob3 Hob4 Ho3 Hn0 Hn4 hboth
  go_loopw [9, 11] (fun al i wr => ∃ k : Nat, k ≤ both.length ∧ i = .int .i64 k ∧ al = .bool (allTo old new k) ∧ Hid (Row wr hb 4 (hitRow old new nw k) ∧ Below w.heap.size w wr ∧ RdE Rp.cells 21 wr wr.heap.size A3 both))
    (fun _ i _ => both.length - (intOf i).toNat)
  case atStart => exact ⟨0, Nat.zero_le _, rfl, by simp [allTo], Lib.hid ⟨Hrow5.out, Hb5.out, Hr3.out⟩⟩
  case round =>
    obtain ⟨k, hk, rfl, rfl, hrel⟩ := hrel
    by_cases hlt : k < both.length
    · obtain ⟨r, hr⟩ : ∃ r, both[k]? = some r := ⟨_, List.getElem?_eq_getElem hlt⟩
      obtain ⟨hrow, hbel, hrd⟩ := hrel.out
      obtain ⟨b, off, rfl, hbw, cx⟩ := hrd k r hr
      have i0 : (0 : Int) ≤ (k : Int) := by omega
      have i1 : (k : Int) < (both.length : Int) := by omega
      have i9 : (both.length : Int) ≤ 80 := by have := Hlen.out; omega
      obtain ⟨rc, hrc⟩ : ∃ rc, rc = r.cells := ⟨_, rfl⟩
      have Hrc := Lib.hid hrc
      have Hrg : Hid (wr.rangeAt b (off + k * 21) rc) := Lib.hid (by rw [hrc]; exact cx)
      have Hlr : Hid ((Try.prog.info? 58).map (·.size) = some rc.length) := Lib.hid (by rw [hrc]; kernel_rfl)
      have Hone : Hid (∀ v ∈ rc, v.oneCell' = true) := Lib.hid (by rw [hrc]; exact Rp.cells_one)
      have Hrlen : Hid (21 = rc.length) := Lib.hid (by rw [hrc]; rfl)
      have Hr' : Hid ((old ++ new)[k]? = some r) := Lib.hid (by rw [← Hboth.out]; exact hr)
      have Hrp := Lib.hid (Hpts.out r (List.mem_of_getElem? hr))
      obtain ⟨rb, hrb⟩ : ∃ rb, rb = wr.heap.size := ⟨_, rfl⟩
      have hI : Row (wr.alloc (.cells rc.toArray 58)) rb 58 rc.toArray ∧ Row (wr.alloc (.cells rc.toArray 58)) hb 4 (hitRow old new nw k) ∧ Below w.heap.size w (wr.alloc (.cells rc.toArray 58)) ∧ RdE Rp.cells 21 (wr.alloc (.cells rc.toArray 58)) (wr.alloc (.cells rc.toArray 58)).heap.size (some ⟨b, off, none⟩) both := by
        have hb1 : Below wr.heap.size wr (wr.alloc (.cells rc.toArray 58)) := (Below.refl _ _).alloc (Nat.le_refl _) _
        exact ⟨by rw [hrb]; exact Row.new _ _ _, hrow.alloc _, hbel.alloc hbel.size _, (hrd.below hb1).more hb1.size⟩
      have HI := Lib.hid hI
      have Hrbn : Hid (rb ≠ hb) := Lib.hid (by have := hrow.lt; omega)
      clear hr hrow hbel hrd cx hrc hI hrel hbw
      go_upto_region 8 with (first
        | (show wpList _ _ _ (⟨some 34, Op.load 58 _, _, _, _, _⟩ :: _) _ _; refine wpList_load_mid rfl 58 _ rfl b (off + k * 21) rfl rc _ Hrg.out Try.underlying58 rfl Hlr.out ?_)
        | (show wpList _ _ _ (⟨none, Op.store 58 _ _, _, _, _, _⟩ :: _) _ _; refine wpList_store_fresh rfl 58 _ _ rfl rc rfl rfl (by simp [← Hrlen.out]) Hlr.out Hone.out ?_))
      rw [← hrb]
      clear hrb
      obtain ⟨wv, hwv⟩ : ∃ wv, wv = wr.alloc (.cells rc.toArray 58) := ⟨_, rfl⟩
      rw [← hwv] at HI ⊢
      obtain ⟨x1, hx1⟩ : ∃ x : Int, x = (cntS old r : Int) := ⟨_, rfl⟩
      obtain ⟨x2, hx2⟩ : ∃ x : Int, x = (cntS new r : Int) := ⟨_, rfl⟩
      obtain ⟨C, hC⟩ : ∃ C : World → Prop, C = fun U => Row U rb 58 rc.toArray ∧ Row U hb 4 (hitRow old new nw k) ∧ Below w.heap.size w U ∧ RdE Rp.cells 21 U U.heap.size (some ⟨b, off, none⟩) both := ⟨_, rfl⟩
      have HC0 : Hid (∀ n, C (wv.drewN n)) := Lib.hid (by rw [hC]; exact fun n => ⟨HI.out.1.drewN n, HI.out.2.1.drewN n, Below.drewsN HI.out.2.2.1 n, HI.out.2.2.2⟩)
      have HCr : Hid (∀ U, C U → U.rangeAt rb 0 rc) := Lib.hid (by rw [hC]; exact fun U h => row_rangeQ h.1)
      have HC1 : Hid (∀ U, C U → Calls Try.prog 35 #[.slice A old.length ca, .agg rc.toArray] U fun e U' => e = .returned (.int .i64 x1) ∧ C U') := Lib.hid (by
        rw [hC, hx1]
        intro U h
        rw [Hrc.out] at h ⊢
        refine (count_any old A ca r U ((Ho.out.below h.2.2.1).more h.2.2.1.size) (RdE.more (RdE.below Hrp.out.1 h.2.2.1) h.2.2.1.size) (by omega)).mono ?_
        rintro e U' ⟨rfl, hb'⟩
        exact ⟨rfl, h.1.below hb' h.1.lt, h.2.1.below hb' h.2.1.lt, below_onF h.2.2.1 hb' h.2.2.1.size, (h.2.2.2.below hb').more hb'.size⟩)
      have HC2 : Hid (∀ U, C U → Calls Try.prog 35 #[.slice B new.length cb, .agg rc.toArray] U fun e U' => e = .returned (.int .i64 x2) ∧ C U') := Lib.hid (by
        rw [hC, hx2]
        intro U h
        rw [Hrc.out] at h ⊢
        refine (count_any new B cb r U ((Hn.out.below h.2.2.1).more h.2.2.1.size) (RdE.more (RdE.below Hrp.out.1 h.2.2.1) h.2.2.1.size) (by omega)).mono ?_
        rintro e U' ⟨rfl, hb'⟩
        exact ⟨rfl, h.1.below hb' h.1.lt, h.2.1.below hb' h.2.1.lt, below_onF h.2.2.1 hb' h.2.2.1.size, (h.2.2.2.below hb').more hb'.size⟩)
      have HCo : Hid (∀ U, C U → Row U rb 58 rc.toArray ∧ Row U hb 4 (hitRow old new nw k) ∧ Below w.heap.size w U ∧ RdE Rp.cells 21 U U.heap.size (some ⟨b, off, none⟩) both) := Lib.hid (by rw [hC]; exact fun U h => h)
      have Hdif : Hid (difR old new r = (x1 != x2)) := Lib.hid (by rw [hx1, hx2, difR, Bool.eq_iff_iff]; simp; omega)
      clear hC hx1 hx2 hwv
      refine wp_region_quietC C (by kernel_rfl) (by kernel_rfl) (HC0.out 1) ?_
      refine wpQuiet_step (fun K hK => ?_); go_simp; apply Exists.intro; refine ⟨fun _ _ => rfl, hK _ ?_⟩; clear hK K
      refine wpQuiet_valK (by go_simp) (.agg rc.toArray) (fun U hU => run_load_mid (op := ⟨some 36, _, _, _, _, _⟩) 58 _ rfl rb 0 (by go_simp) _ _ (HCr.out U hU) Try.underlying58 rfl Hlr.out) ?_
      intro K hK
      go_simp
      refine hK _ ?_
      clear hK K
      refine wpQuiet_callK (op := ⟨some 37, _, _, _, _, _⟩) (by go_simp) 35 #[.slice A old.length ca, .agg rc.toArray] (.int .i64 x1) (fun U hU => by go_simp) HC1.out ?_
      intro K hK
      go_simp
      refine hK _ ?_
      clear hK K
      refine wpQuiet_step (fun K hK => ?_); go_simp; apply Exists.intro; refine ⟨fun _ _ => rfl, hK _ ?_⟩; clear hK K
      refine wpQuiet_valK (by go_simp) (.agg rc.toArray) (fun U hU => run_load_mid (op := ⟨some 39, _, _, _, _, _⟩) 58 _ rfl rb 0 (by go_simp) _ _ (HCr.out U hU) Try.underlying58 rfl Hlr.out) ?_
      intro K hK
      go_simp
      refine hK _ ?_
      clear hK K
      refine wpQuiet_callK (op := ⟨some 40, _, _, _, _, _⟩) (by go_simp) 35 #[.slice B new.length cb, .agg rc.toArray] (.int .i64 x2) (fun U hU => by go_simp) HC2.out ?_
      intro K hK
      go_simp
      refine hK _ ?_
      clear hK K
      refine wpQuiet_step (fun K hK => ?_); go_simp; apply Exists.intro; refine ⟨fun _ _ => rfl, hK _ ?_⟩; clear hK K
      refine wpQuiet_nil ?_
      intro wq hU
      have HU := Lib.hid (HCo.out wq hU)
      clear hU HC0 HCr HC1 HC2 HCo HI
      by_cases hxy : x1 = x2
      · have Hd : Hid (difR old new r = false) := Lib.hid (by rw [Hdif.out, hxy]; simp)
        have e1 : (x1 == x2) = true := by simpa using hxy
        clear hxy
        go_wp2
        go_roundw
        case rel => exact ⟨k + 1, by omega, by go_num, by rw [allTo_succ Hr'.out, Hd.out]; simp, Lib.hid ⟨by rw [hitRow_skip Hr'.out (.inl Hd.out)]; exact HU.out.2.1, HU.out.2.2⟩⟩
        case measure => simp [intOf]; omega
      · have Hd : Hid (difR old new r = true) := Lib.hid (by rw [Hdif.out]; simpa using hxy)
        have e1 : (x1 == x2) = false := by simpa using hxy
        clear hxy
        go_wp2_with (first
          | (show wpList _ _ _ (⟨some 42, Op.load 58 _, _, _, _, _⟩ :: _) _ _; refine wpList_load_mid rfl 58 _ rfl rb 0 rfl rc _ (row_rangeQ HU.out.1) Try.underlying58 rfl Hlr.out ?_)
          | fail)
        have hcall := common36_any r wq
        rw [← Hrc.out] at hcall
        refine hcall.mono ?_
        clear hcall
        rintro e wz ⟨rfl, hbz⟩
        have HZ := Lib.hid (show Row wz rb 58 rc.toArray ∧ Row wz hb 4 (hitRow old new nw k) ∧ Below w.heap.size w wz ∧ RdE Rp.cells 21 wz wz.heap.size (some ⟨b, off, none⟩) both from ⟨HU.out.1.below hbz HU.out.1.lt, HU.out.2.1.below hbz HU.out.2.1.lt, below_onF HU.out.2.2.1 hbz HU.out.2.2.1.size, (HU.out.2.2.2.below hbz).more hbz.size⟩)
        clear hbz HU
        rw [show decide (r.kd = 11 ∨ r.kd = 12 ∨ r.kd = 13 ∨ r.kd = 10) = comK r.kd from rfl]
        by_cases hcm : comK r.kd = true
        · rw [hcm]
          have Hcm := Lib.hid hcm
          clear hcm
          go_wp2
          go_roundw
          case rel => exact ⟨k + 1, by omega, by go_num, by rw [allTo_succ Hr'.out, Hd.out, Hcm.out]; simp, Lib.hid ⟨by rw [hitRow_skip Hr'.out (.inr (.inl Hcm.out))]; exact HZ.out.2.1, HZ.out.2.2⟩⟩
          case measure => simp [intOf]; omega
        · rw [Bool.not_eq_true] at hcm
          rw [hcm]
          have Hcm := Lib.hid hcm
          obtain ⟨wg, hwg⟩ : ∃ wg, wg = r.wg := ⟨_, rfl⟩
          have c8 : wz.cell? ⟨rb, 8, none⟩ = some (.int .i64 wg) := by rw [hwg]; exact (HZ.out.1.cell 8).trans (by rw [Hrc.out]; rfl)
          have Hwg := Lib.hid hwg
          have Hal : Hid (allTo old new (k + 1) = allTo old new k) := Lib.hid (by rw [allTo_succ Hr'.out, Hcm.out]; simp)
          clear hcm hwg
          by_cases w1 : wg < 0
          · go_wp2
            go_roundw
            case rel => exact ⟨k + 1, by omega, by go_num, by rw [Hal.out], Lib.hid ⟨by rw [hitRow_skip Hr'.out (.inr (.inr (.inl (by rw [← Hwg.out]; exact w1))))]; exact HZ.out.2.1, HZ.out.2.2⟩⟩
            case measure => simp [intOf]; omega
          · by_cases w2 : (nw : Int) ≤ wg
            · go_wp2
              go_roundw
              case rel => exact ⟨k + 1, by omega, by go_num, by rw [Hal.out], Lib.hid ⟨by rw [hitRow_skip Hr'.out (.inr (.inr (.inr (by rw [← Hwg.out]; exact w2))))]; exact HZ.out.2.1, HZ.out.2.2⟩⟩
              case measure => simp [intOf]; omega
            · obtain ⟨i, rfl⟩ : ∃ i : Nat, wg = (i : Int) := ⟨wg.toNat, by omega⟩
              have hi : i < nw := by omega
              have ii0 : (0 : Int) ≤ (i : Int) := by omega
              have ii1 : (i : Int) < (nw : Int) := by omega
              have ci : wz.cell? ⟨hb, i, none⟩ = some (.bool (hitTo old new k i)) := (HZ.out.2.1.cell i).trans (hitRow_at old new k hi)
              have fi : wz.frozen? ⟨hb, i, none⟩ = false := HZ.out.2.1.frozen i
              clear w1 w2
              go_wp2
              go_roundw
              case rel =>
                refine ⟨k + 1, by omega, by go_num, by rw [Hal.out], Lib.hid ⟨?_, ?_, ?_⟩⟩
                · rw [← hitRow_set Hr'.out Hd.out Hcm.out Hwg.out.symm]
                  exact HZ.out.2.1.set i _
                · exact HZ.out.2.2.1.setCell (p := ⟨hb, i, none⟩) Hwhb.out _
                · intro j y hy
                  obtain ⟨b', o', e', hlt', cy⟩ := HZ.out.2.2.2 j y hy
                  have hbne : b' ≠ hb := Hne3.out b' o' none e'
                  exact ⟨b', o', e', by simpa using hlt', fun jj v hv => (World.cell?_of_block (w := wz) (a := ⟨b', _, none⟩) (Below.heap_setCell wz ⟨hb, i, none⟩ _ b' hbne)).trans (cy jj v hv)⟩
              case measure => simp [intOf]; omega
    · obtain rfl : k = both.length := by omega
      obtain ⟨hrow, hbel, _⟩ := hrel.out
      obtain ⟨ob2, hob2⟩ : ∃ ob2, ob2 = wr.heap.size := ⟨_, rfl⟩
      have Hrow := Lib.hid hrow
      have Hbel := Lib.hid hbel
      have Hob2 : Hid (ob2 ≤ wr.heap.size) := Lib.hid (Nat.le_of_eq hob2)
      have Hhb2 : Hid (hb < ob2) := Lib.hid (by rw [hob2]; exact hrow.lt)
      have Hwob2 : Hid (w.heap.size ≤ ob2) := Lib.hid (by rw [hob2]; exact hbel.size)
      clear hrel hrow hbel hob2
      go_wp2_with fail
      go_loopw [13, 14] (fun v i wx => ∃ k : Nat, k ≤ nw ∧ i = .int .i64 k ∧ Hid (wx.ownsRow ob2 3 1 v (hitsTo old new k).length ((hitsTo old new k).map (.int .i64)) ∧ Row wx hb 4 (hitRow old new nw both.length) ∧ Below w.heap.size w wx ∧ ob2 ≤ wx.heap.size))
        (fun _ i _ => nw - (intOf i).toNat)
      case atStart => exact ⟨0, Nat.zero_le _, rfl, Lib.hid ⟨World.ownsRow_nil _ _ _ _, Hrow.out, Hbel.out, Hob2.out⟩⟩
      case round =>
        obtain ⟨k, hk, rfl, hrel⟩ := hrel
        by_cases hlt2 : k < nw
        · have i0 : (0 : Int) ≤ (k : Int) := by omega
          have i1 : (k : Int) < (nw : Int) := by omega
          have ck : wr.cell? ⟨hb, k, none⟩ = some (.bool (hitTo old new both.length k)) := (hrel.out.2.1.cell k).trans (hitRow_at old new _ hlt2)
          have Hs := Lib.hid (hitsTo_succ old new k)
          have Hlk : Hid ((hitsTo old new k).length ≤ 3518437208790) := Lib.hid (by
            have : (hitsTo old new k).length ≤ k := by
              unfold hitsTo
              rw [List.length_map]
              exact Nat.le_trans (List.length_filter_le _ _) (by simp)
            omega)
          have i2 : (k : Int) ≤ 3518437208780 := by omega
          have Hown := Lib.hid hrel.out.1
          have HR := Lib.hid hrel.out.2
          by_cases hh : hitTo old new both.length k = true
          · rw [hh] at ck
            rw [← Hboth.out, if_pos hh] at Hs
            clear hh hrel
            go_wp2_with (first
              | (show wpList _ _ _ (⟨some 74, _, _, _, _, _⟩ :: _) _ _
                 refine wpList_append_int rfl _ _ rfl ob2 _ _ rfl Hown.out (k : Int) rfl Hlk.out HR.out.2.2 ?_
                 intro v8 w8 hown8 hb8 _ hob8
                 have Hown8 := Lib.hid hown8
                 have Hb8 := Lib.hid hb8
                 have Hob8 := Lib.hid hob8
                 clear hown8 hb8 hob8)
              | fail)
            go_roundw
            case rel => exact ⟨k + 1, by omega, by go_num, Lib.hid ⟨by rw [Hs.out]; exact Hown8.out, HR.out.1.below Hb8.out Hhb2.out, HR.out.2.1.trans (Hb8.out.mono Hwob2.out), Hob8.out⟩⟩
            case measure => simp [intOf]; omega
          · rw [Bool.not_eq_true] at hh
            rw [hh] at ck
            rw [← Hboth.out, hh] at Hs
            clear hh hrel
            go_wp2
            go_roundw
            case rel => exact ⟨k + 1, by omega, by go_num, Lib.hid ⟨by rw [Hs.out]; simpa using Hown.out, HR.out⟩⟩
            case measure => simp [intOf]; omega
        · obtain rfl : k = nw := by omega
          obtain ⟨A9, c9, rfl, hr9⟩ := own_intsW hrel.out.1
          have Hr9 := Lib.hid hr9
          have HB9 := Lib.hid hrel.out.2.2.1
          clear hr9 hrel
          go_wp2
          go_ret2
          exact ⟨A9, c9, by rw [← Hboth.out]; rfl, HB9.out, Hr9.out⟩
end Go.Proofs.Ytoiipfcmkogcfaa
