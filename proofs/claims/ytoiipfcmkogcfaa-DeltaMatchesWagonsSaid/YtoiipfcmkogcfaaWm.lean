/-
  delta.Diff: the sorted list of the slots' sums that are not 0.
  Conditions: as each theorem states them.
-/
import Derived.Test.YtoiipfcmkogcfaaWl
import Derived.Test.YtoiipfcmkogcfaaRg
import Derived.Test.YtoiipfcmkogcfaaWi
namespace Go.Proofs.Ytoiipfcmkogcfaa
open Go.RowKit Go.Lib

/-- The sums of all slots. -/
def tot (la lb : List Dl) : List Int → Int := addLns 1 (addLns (-1) (fun _ => 0) la) lb

/-- The change at a slot, where its sum is not 0. -/
def mkD (M : List Int → Int) : List Int → Option Dl
  | [a, b, c, d, e, f, g, h] => if M [a, b, c, d, e, f, g, h] = 0 then none else some ⟨a, b, c, d, e, f, g, h, M [a, b, c, d, e, f, g, h]⟩
  | _ => none
theorem mkD_some {M : List Int → Int} {s : List Int} {d : Dl} (h : mkD M s = some d) : d.slot = s ∧ M s = d.amount ∧ d.amount ≠ 0 := by
  unfold mkD at h
  split at h
  · split at h
    · cases h
    · injection h with h
      subst h
      exact ⟨rfl, rfl, by assumption⟩
  · cases h
theorem mkD_of {M : List Int → Int} {d : Dl} (h : M d.slot = d.amount) (h0 : d.amount ≠ 0) : mkD M d.slot = some d := by
  cases d
  simp only [Dl.slot] at h
  simp only at h0
  simp [Dl.slot, mkD, h, h0]
theorem mem_mk {M : List Int → Int} {dn : List (List Int)} (hall : ∀ a, M a ≠ 0 → a ∈ dn) (d : Dl) : d ∈ dn.filterMap (mkD M) ↔ d.amount ≠ 0 ∧ M d.slot = d.amount := by
  rw [List.mem_filterMap]
  constructor
  · rintro ⟨s, _, h⟩
    obtain ⟨rfl, h1, h2⟩ := mkD_some h
    exact ⟨h2, h1⟩
  · rintro ⟨h1, h2⟩
    exact ⟨d.slot, hall _ (by omega), mkD_of h2 h1⟩
theorem mk_slots {M : List Int → Int} : ∀ {dn : List (List Int)}, dn.Nodup → (dn.filterMap (mkD M)).Pairwise fun a b => a.slot ≠ b.slot
  | [], _ => List.Pairwise.nil
  | s :: r, h => by
    obtain ⟨h1, h2⟩ := List.nodup_cons.1 h
    have ih := mk_slots (M := M) h2
    cases hs : mkD M s with
    | none => rw [List.filterMap_cons_none hs]; exact ih
    | some d =>
      rw [List.filterMap_cons_some hs]
      refine List.pairwise_cons.2 ⟨fun b hb e => ?_, ih⟩
      obtain ⟨s', hs', hb'⟩ := List.mem_filterMap.1 hb
      rw [(mkD_some hs).1, (mkD_some hb').1] at e
      exact h1 (e ▸ hs')
theorem info70 : ∃ i z, Try.prog.info? 70 = some i ∧ i.zero = some z ∧ i.size = 9 ∧ i.bytes = 72 ∧ z.cells.size = 9 := by
  have h : ((Try.prog.info? 70).any fun i => i.size == 9 && i.bytes == 72 && (i.zero.any fun z => z.cells.size == 9)) = true := by kernel_rfl
  cases hi : Try.prog.info? 70 with
  | none => rw [hi] at h; cases h
  | some i =>
    rw [hi] at h
    simp only [Option.any_some, Bool.and_eq_true, beq_iff_eq] at h
    obtain ⟨⟨h1, h2⟩, h3⟩ := h
    cases hz : i.zero with
    | none => rw [hz] at h3; cases h3
    | some z => rw [hz] at h3; exact ⟨i, z, rfl, hz, h1, h2, by simpa using h3⟩
theorem slot_len {s : List Int} {kl : Lit} (h : keyOf Try.prog 83 (slotV s) = some kl) : s.length = 8 := by
  have c83 : Try.prog.cellsOf 83 = 8 := by kernel_rfl
  unfold keyOf at h
  simp only [Try.underlying83] at h
  simp [slotV, Value.formed, Try.underlying83, c83] at h
  omega

set_option maxRecDepth 100000 in
set_option maxHeartbeats 1000000 in
theorem diff_any (la lb : List Ln) (A B : Option Addr) (ca cb : Nat) (w : World) (ha : RdE Ln.cells 44 w w.heap.size A la) (hb : RdE Ln.cells 44 w w.heap.size B lb) (oka : ∀ x ∈ la, x.ok) (okb : ∀ x ∈ lb, x.ok) (hn : (la.length + lb.length) * 72 ≤ 140737488355328) :
    Calls Try.prog 12 #[.slice A la.length ca, .slice B lb.length cb] w fun e w' => ∃ (l : List Dl) (A' : Option Addr) (c' : Nat), e = .returned (.slice A' l.length c') ∧ Below w.heap.size w w' ∧ RdD w' w'.heap.size A' l ∧
      SortedD l ∧ ∀ d, d ∈ l ↔ d.amount ≠ 0 ∧ tot (la.map Ln.d) (lb.map Ln.d) d.slot = d.amount := by
  have Ha := Lib.hid ha
  have Hb := Lib.hid hb
  have Hoka := Lib.hid oka
  have Hokb := Lib.hid okb
  clear ha hb oka okb
  have hmk : ∀ w0 : World, (Instr.makeMap 81 none).run Try.prog w0 = .ok (.map (some w0.heap.size)) (w0.alloc (.map #[] 0)) := fun w0 => run_makeMap _ _
  go_enter Try.func12, Try.ntmps12
  go_wp2_with fail
  obtain ⟨W1, hW1⟩ : ∃ W1, W1 = (w.alloc (Obj.map #[] 0)).alloc (Obj.cells #[Value.map (some w.heap.size)] 81) := ⟨_, rfl⟩
  rw [← hW1]
  have hB1 : Below w.heap.size w W1 := by rw [hW1]; exact ((Below.refl _ _).alloc (Nat.le_refl _) _).alloc (by simp) _
  have hs1 : W1.heap.size = w.heap.size + 2 := by rw [hW1]; simp
  have hm1 : MapAt slotV 83 W1 w.heap.size 0 (fun _ => 0) := by
    rw [hW1]
    exact (MapAt.made w (fun _ => rfl)).grown ((Below.refl _ _).alloc (Nat.le_refl _) _)
  have hc1 : W1.cell? ⟨w.heap.size + 1, 0, none⟩ = some (.map (some w.heap.size)) := by
    rw [hW1, (Row.new1 w _ _ _).cell]
    rfl
  clear hW1
  refine (add_any la A ca (-1) W1 w.heap.size (w.heap.size + 1) 0 (fun _ => 0) ((Ha.out.below hB1).more (by omega)) Hoka.out hm1 hc1 (by omega) (by have : maxLen = 9223372036854775807 := rfl; omega)).mono ?_
  rintro e w2 ⟨rfl, hg2, hm2⟩
  have hB2 : Below w.heap.size w w2 := hB1.grown hg2 (by omega) (fun k hk => by cases hk; exact Nat.le_refl _)
  have hs2 : w.heap.size + 2 ≤ w2.heap.size := by have := hg2.size; omega
  have hc2 : w2.cell? ⟨w.heap.size + 1, 0, none⟩ = some (.map (some w.heap.size)) := hg2.cell hc1 (by simp)
  have Hm2 := Lib.hid hm2
  have Hg2 := Lib.hid hg2
  have HB1 := Lib.hid hB1
  have HB2 := Lib.hid hB2
  have Hc2 := Lib.hid hc2
  clear hm2 hg2 hB1 hB2 hc2 hm1 hc1
  go_wp2_with fail
  refine (add_any lb B cb 1 w2 w.heap.size (w.heap.size + 1) _ _ ((Hb.out.below HB2.out).more (by omega)) Hokb.out Hm2.out Hc2.out (by omega) (by have : maxLen = 9223372036854775807 := rfl; omega)).mono ?_
  rintro e w3 ⟨rfl, hg3, hm3⟩
  have HB3 := Lib.hid (HB2.out.grown hg3 (by omega) (fun k hk => by cases hk; exact Nat.le_refl _))
  have hs3 : w.heap.size + 2 ≤ w3.heap.size := by have := hg3.size; omega
  have hc3 : w3.cell? ⟨w.heap.size + 1, 0, none⟩ = some (.map (some w.heap.size)) := hg3.cell Hc2.out (by simp)
  obtain ⟨M, hM⟩ : ∃ M, M = addLns 1 (addLns (-1) (fun _ => 0) (la.map Ln.d)) (lb.map Ln.d) := ⟨_, rfl⟩
  rw [← hM] at hm3
  obtain ⟨w4, hr4, hR4, hg4, hs4⟩ := hm3.range Try.underlying81
  have HR4 := Lib.hid hR4
  have Hg4 := Lib.hid hg4
  have Hg3 := Lib.hid hg3
  have HM := Lib.hid hM
  have HB4 := Lib.hid (HB3.out.grown hg4 (by omega) (fun k hk => by cases hk))
  clear hM hm3 hg3 hg4 hR4
  go_wp2_with fail
  go_loopw [7] (fun o wr => ∃ dn, Rng slotV 83 wr w.heap.size w3.heap.size (la.length + lb.length) M dn ∧ wr.ownsRow w4.heap.size 70 9 o (dn.filterMap (mkD M)).length (flat Dl.cells (dn.filterMap (mkD M))) ∧ Below w.heap.size w wr ∧ w4.heap.size ≤ wr.heap.size)
    (fun _ wr => wr.rangeLeft w.heap.size w3.heap.size)
  case atStart => exact ⟨[], by simpa using HR4.out, by simpa [flat] using World.ownsRow_nil _ _ _ _, HB4.out, Nat.le_refl _⟩
  case round =>
    obtain ⟨dn, hR, ho, hB, hBB⟩ := hrel
    have HBB := Lib.hid hBB
    clear hBB
    rcases hR.next (fun _ _ => slotV_inj) with ⟨hnext, hall⟩ | ⟨s, kl, w5, hnot, hkey, hnext, hR5, hlt5, hg5, hs5, hent⟩
    · have Hall := Lib.hid hall
      have HR := Lib.hid hR
      have Ho := Lib.hid ho
      have HB := Lib.hid hB
      clear hall hR ho hB
      go_wp2_with fail
      refine (sort_any w4.heap.size _ _ wr Ho.out (by have h1 := HR.out.few; have h2 := List.length_filterMap_le (mkD M) dn; omega)).mono ?_
      rintro e w5 ⟨rfl, hb5, l', hp, hs5, A', c', rfl, hrd⟩
      have Hrd := Lib.hid hrd
      have Hb5 := Lib.hid hb5
      have Hp := Lib.hid hp
      have Hs5 := Lib.hid hs5
      clear hrd hb5 hp hs5
      go_wp2
      go_ret
      refine ⟨l', A', c', rfl, HB.out.trans (Hb5.out.mono HB4.out.size), Hrd.out, ?_, fun d => ?_⟩
      · have h1 : l'.Pairwise fun a b => a.slot ≠ b.slot := (Hp.out.symm.pairwise_iff (fun h e => h e.symm)).1 (mk_slots HR.out.nodup)
        refine (Hs5.out.and h1).imp fun {x y} hxy => ?_
        have h2 := cmpD_neg x y
        rcases Int.lt_trichotomy (cmpD x y) 0 with h | h | h
        · exact h
        · exact absurd (cmpD_zero h) hxy.2
        · have h3 := hxy.1
          omega
      · rw [Hp.out.mem_iff, mem_mk Hall.out, HM.out, tot]
    · obtain ⟨a, b, c, d, e, f, g, h, rfl⟩ : ∃ a b c d e f g h, s = [a, b, c, d, e, f, g, h] := by
        have := slot_len hkey
        match s, this with
        | [a, b, c, d, e, f, g, h], _ => exact ⟨a, b, c, d, e, f, g, h, rfl⟩
      have HR := Lib.hid hR
      have HR5 := Lib.hid hR5
      have Hg5 := Lib.hid hg5
      have Ho := Lib.hid ho
      have Hnot := Lib.hid hnot
      have Hlt5 := Lib.hid hlt5
      have Hs5 := Lib.hid hs5
      have HB := Lib.hid hB
      clear hR hR5 hg5 ho hnot hlt5 hB hkey hs5
      obtain ⟨m, hm⟩ : ∃ m, m = M [a, b, c, d, e, f, g, h] := ⟨_, rfl⟩
      rw [← hm] at hnext hent
      have Hm := Lib.hid hm
      clear hm
      simp only [slotV, List.map_cons, List.map_nil] at hnext hent
      by_cases h0 : m = 0
      · subst h0
        go_wp2
        go_roundw
        case rel =>
          refine ⟨_, HR5.out.kept (World.grownBy_alloc _ _ none) (by simp) (by simp), ?_, ?_, by have := HBB.out; have := Hs5.out; simp; omega⟩
          · rw [List.filterMap_append, List.filterMap_cons_none (by simp [mkD, ← Hm.out]), List.filterMap_nil, List.append_nil]
            exact (Ho.out.kept Hg5.out (by right; intro e; have := Ho.out.lt _ e; have := HR.out.lt; omega)).alloc _
          · exact (HB.out.grown Hg5.out HB.out.size (fun k hk => by cases hk; exact HB3.out.size)).alloc (Nat.le_trans HB.out.size (Nat.le_of_eq Hs5.out.symm)) _
        case measure =>
          rw [rangeLeft_kept (Below.heap_alloc _ _ _ (by have := HR5.out.ltb; exact this)) (Below.heap_alloc _ _ _ HR5.out.lt)]
          exact Hlt5.out
      · have hne : (m == 0) = false := by simp [h0]
        have ho5 := Lib.hid (Ho.out.kept Hg5.out (by right; intro e; have := Ho.out.lt _ e; have := HR.out.lt; omega))
        obtain ⟨i0, z0, hi, hz, hsz, hby, hzs⟩ := info70
        have Hi := Lib.hid hi
        have Hz := Lib.hid hz
        have Hsz := Lib.hid hsz
        have Hby := Lib.hid hby
        have Hzs := Lib.hid hzs
        clear hi hz hsz hby hzs
        have hfew : (dn.filterMap (mkD M)).length + 1 ≤ la.length + lb.length := by
          have h1 := HR5.out.few
          have h2 := List.length_filterMap_le (mkD M) dn
          simp at h1
          omega
        have hb4 : w4.heap.size ≤ w5.heap.size := by rw [Hs5.out]; exact HBB.out
        obtain ⟨d0, hd0⟩ : ∃ d0 : Dl, d0 = ⟨a, b, c, d, e, f, g, h, m⟩ := ⟨_, rfl⟩
        have hnews : ∀ (j : Nat) (u : Value), (Dl.cells ⟨a, b, c, d, e, f, g, h, m⟩)[j]? = some u → ((w5.alloc (Obj.cells #[Value.int IntKind.i64 a, Value.int IntKind.i64 b, Value.int IntKind.i64 c, Value.int IntKind.i64 d, Value.int IntKind.i64 e, Value.int IntKind.i64 f, Value.int IntKind.i64 g, Value.int IntKind.i64 h] 83)).alloc
            (Obj.cells #[Value.int IntKind.i64 a, Value.int IntKind.i64 b, Value.int IntKind.i64 c, Value.int IntKind.i64 d, Value.int IntKind.i64 e, Value.int IntKind.i64 f, Value.int IntKind.i64 g, Value.int IntKind.i64 h, Value.int IntKind.i64 m] 70)).cell? ((⟨w5.heap.size + 1, 0, none⟩ : Addr).add j) = some u := by
          intro j u hu
          rw [show (⟨w5.heap.size + 1, 0, none⟩ : Addr).add j = ⟨w5.heap.size + 1, 0 + j, none⟩ from by simp [Addr.add]; intro h; exact h.symm, (Row.new1 w5 _ _ _).cell, Nat.zero_add]
          simpa [Dl.cells] using hu
        have Hnews := Lib.hid hnews
        have hlen63 : (dn.filterMap (mkD M)).length + 1 ≤ maxLen := by simp only [maxLen]; omega
        have hlen72 : ((dn.filterMap (mkD M)).length + 1) * 72 ≤ 140737488355328 := by omega
        have Hlen63 := Lib.hid hlen63
        have Hlen72 := Lib.hid hlen72
        have hown5 := Lib.hid ((ho5.out.alloc (Obj.cells #[Value.int IntKind.i64 a, Value.int IntKind.i64 b, Value.int IntKind.i64 c, Value.int IntKind.i64 d, Value.int IntKind.i64 e, Value.int IntKind.i64 f, Value.int IntKind.i64 g, Value.int IntKind.i64 h] 83)).alloc
            (Obj.cells #[Value.int IntKind.i64 a, Value.int IntKind.i64 b, Value.int IntKind.i64 c, Value.int IntKind.i64 d, Value.int IntKind.i64 e, Value.int IntKind.i64 f, Value.int IntKind.i64 g, Value.int IntKind.i64 h, Value.int IntKind.i64 m] 70))
        clear hnews hlen63 hlen72
        go_wp2_with (first
          | (at_builtin; refine wpList_append_own _ rfl _ _ 24 rfl w4.heap.size 70 i0 z0 9 72 Try.underlying24 Hi.out Hz.out Hsz.out Hby.out Hzs.out (by decide) _ _ _ rfl hown5.out ⟨w5.heap.size + 1, 0, none⟩ 1 1 (Dl.cells ⟨a, b, c, d, e, f, g, h, m⟩) rfl rfl
              Hnews.out (Dl.cells_one _) Hlen63.out Hlen72.out (by simp; omega) ?_
             intro v' w6 hown6 hgrow6 hiff6)
          | go_in)
        have hr6 : ∀ k, (some k : Option Nat) = Value.ownBlock _ → _ := fun k hk => Ho.out.lt k hk.symm
        go_roundw
        case rel =>
          refine ⟨_, (HR5.out.kept ((World.grownBy_alloc _ _ none).trans (World.grownBy_alloc _ _ none)) (by simp) (by simp)).kept hgrow6 ?_ ?_, ?_, ?_, ?_⟩
          · intro e; have := hr6 _ e; have := HR.out.ltb; have := HR4.out.ltb; omega
          · intro e; have := hr6 _ e; have := HR4.out.lt; omega
          · rw [List.filterMap_append, List.filterMap_cons_some (show mkD M [a, b, c, d, e, f, g, h] = some ⟨a, b, c, d, e, f, g, h, m⟩ from by simp [mkD, ← Hm.out, h0]), List.filterMap_nil, List.length_append, flat_append]
            simpa [flat, ← Hm.out] using hown6
          · refine Below.grown (((HB.out.grown Hg5.out HB.out.size (fun k hk => by cases hk; exact HB3.out.size)).alloc (Nat.le_trans HB.out.size (Nat.le_of_eq Hs5.out.symm)) _).alloc ?_ _) hgrow6 ?_ ?_
            · have := HB.out.size; have := Hs5.out; simp; omega
            · have := HB.out.size; have := Hs5.out; simp; omega
            · intro k hk; have := hr6 _ hk.symm; have := HB4.out.size; omega
          · have := hgrow6.size; simp at this; omega
        case measure =>
          refine Nat.lt_of_le_of_lt (Nat.le_of_eq ?_) Hlt5.out
          rw [rangeLeft_kept (hgrow6.block _ ?_ ?_) (hgrow6.block _ ?_ ?_), rangeLeft_kept (Below.heap_alloc _ _ _ ?_) (Below.heap_alloc _ _ _ ?_), rangeLeft_kept (Below.heap_alloc _ _ _ HR5.out.ltb) (Below.heap_alloc _ _ _ HR5.out.lt)]
          · simp; have := HR5.out.ltb; omega
          · simp; have := HR5.out.lt; omega
          · simp; have := HR5.out.ltb; omega
          · intro e; have := hr6 _ e; have := HR.out.ltb; have := HR4.out.ltb; omega
          · simp; have := HR5.out.lt; omega
          · intro e; have := hr6 _ e; have := HR4.out.lt; omega

end Go.Proofs.Ytoiipfcmkogcfaa
