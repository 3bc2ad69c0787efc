/-
  Diff's closure adds a list of lines into the map of slots.
  Conditions: as each theorem states them.
-/
import Derived.Test.YtoiipfcmkogcfaaWk
import Derived.Test.YtoiipfcmkogcfaaKey
import Derived.Test.YtoiipfcmkogcfaaFresh
import Derived.Maps.AppendAt
import Derived.Deep.RegionHeld3
import Derived.Deep.AppendLies
namespace Go.Proofs.Ytoiipfcmkogcfaa
open Go.RowKit Go.Lib

/-- What one line adds. -/
def addLn (sign : Int) (M : List Int → Int) (d : Dl) : List Int → Int := upd M d.slot (wrap64 (M d.slot + wrap64 (sign * d.amount)))
def addLns (sign : Int) (M : List Int → Int) (l : List Dl) : List Int → Int := l.foldl (addLn sign) M

theorem MapAt.grown {α : Type} {enc : α → Value} {K : TypeId} {w w' : World} {b n : Nat} {M : α → Int} (h : MapAt enc K w b n M) (hb : Below w.heap.size w w') : MapAt enc K w' b n M := h.same (hb.block b h.lt)
theorem MapAt.far {α : Type} {enc : α → Value} {K : TypeId} {w : World} {b n : Nat} {M : α → Int} (h : MapAt enc K w b n M) {b' o : Nat} {v : Value} (hc : w.cell? ⟨b', o, none⟩ = some v) : b' ≠ b := by
  rintro rfl
  obtain ⟨es, clock, hb, _⟩ := h
  simp [World.cell?, hb] at hc

theorem ln_cells (x : Ln) : x.cells = x.d.cells ++ x.rest := rfl
theorem slot_wf {d : Dl} (h : ∀ n ∈ d.nums, (Lit.int .i64 n).wf = true) : ∃ kl, keyOf Try.prog 83 (slotV d.slot) = some kl := by
  refine slot_key _ _ _ _ _ _ _ _ fun n hn => h n ?_
  simp [Dl.nums] at hn ⊢
  rcases hn with h | h | h | h | h | h | h | h <;> simp [h]

set_option maxRecDepth 100000 in
set_option maxHeartbeats 1000000 in
theorem add_any (l : List Ln) (A : Option Addr) (cp : Nat) (sign : Int) (w : World) (g c n : Nat) (M : List Int → Int) (hl : RdE Ln.cells 44 w w.heap.size A l) (hok : ∀ x ∈ l, x.ok)
    (hm : MapAt slotV 83 w g n M) (hc : w.cell? ⟨c, 0, none⟩ = some (.map (some g))) (_hcl : c < w.heap.size) (hn : n + l.length < maxLen) :
    Calls Try.prog 25 #[.slice A l.length cp, .int .i64 sign, .pointer (some ⟨c, 0, none⟩)] w fun e w' => e = .returned (.tuple #[]) ∧ w.grownBy w' (some g) ∧ MapAt slotV 83 w' g (n + l.length) (addLns sign M (l.map Ln.d)) := by
  have hcg : c ≠ g := hm.far hc
  have hmax : (l.length : Int) ≤ 9223372036854775807 := by have : maxLen = 9223372036854775807 := rfl; omega
  have Hok := Lib.hid hok
  have Hl := Lib.hid hl
  clear hok hl
  go_enter Try.func25, Try.ntmps25
  go_wp2
  go_loopw [9] (fun i wr => ∃ k : Nat, k ≤ l.length ∧ i = .int .i64 k ∧ w.grownBy wr (some g) ∧ MapAt slotV 83 wr g (n + k) (addLns sign M ((l.take k).map Ln.d)))
    (fun i _ => l.length - (intOf i).toNat)
  case atStart => exact ⟨0, Nat.zero_le _, rfl, World.grownBy.refl _ _, by simpa [addLns] using hm⟩
  case round =>
    obtain ⟨k, hk, rfl, hg, hmr⟩ := hrel
    by_cases hlt : k < l.length
    · obtain ⟨x, hx⟩ : ∃ x, l[k]? = some x := ⟨_, List.getElem?_eq_getElem hlt⟩
      obtain ⟨b, off, rfl, hbw, c0⟩ := Hl.out k x hx
      obtain ⟨x1, x2, x3⟩ := Hok.out x (List.mem_of_getElem? hx)
      have hbg : b ≠ g := hm.far (c0 0 _ rfl)
      have hs : (Try.prog.info? 68).map (·.size) = some x.cells.length := by rw [Try.size68]; simp [Ln.cells, Dl.cells, x1]
      have hlen : (44 : Nat) = x.cells.length := by simp [Ln.cells, Dl.cells, x1]
      have hrow : wr.rangeAt b (off + k * x.cells.length) x.cells := by
       rw [← hlen]
       exact fun j v hv => hg.cell (c0 j v hv) (by simpa using hbg)
      have hcr : wr.cell? ⟨c, 0, none⟩ = some (.map (some g)) := hg.cell hc (by simpa using hcg)
      have hone : ∀ v ∈ x.cells, v.oneCell' = true := by
        intro v hv
        rcases List.mem_append.1 hv with h | h
        · exact Dl.cells_one _ v h
        · exact x2 v h
      have i0 : (0 : Int) ≤ (k : Int) := by omega
      have i1 : (k : Int) < (l.length : Int) := by omega
      have Hx := Lib.hid hx
      have Hc := Lib.hid hc
      clear hx hc
      go_wp2_with (first | (refine wpList_load_mid rfl 68 _ rfl _ _ rfl _ _ hrow Try.underlying68 rfl hs ?_) | (refine wpList_store_fresh rfl 68 _ _ rfl x.cells rfl rfl (by simp [hlen]) hs hone ?_))
      obtain ⟨W, hW⟩ : ∃ W, W = wr.alloc (.cells x.cells.toArray 68) := ⟨_, rfl⟩
      have hr : Row W wr.heap.size 68 x.cells.toArray := by rw [hW]; exact Row.new _ _ _
      have hgW : w.grownBy W (some g) := by rw [hW]; exact hg.trans (World.grownBy_alloc _ _ _)
      have hmW : MapAt slotV 83 W.drew g (n + k) (addLns sign M (List.map Ln.d (List.take k l))) := by rw [hW]; exact hmr.grown ((Below.refl _ _).alloc (Nat.le_refl _) _).drew
      have hgr : g ≠ wr.heap.size := Nat.ne_of_lt hmr.lt
      obtain ⟨kl, hkl⟩ := slot_wf x3
      obtain ⟨m, hmm⟩ : ∃ m, m = addLns sign M (List.map Ln.d (List.take k l)) x.d.slot := ⟨_, rfl⟩
      obtain ⟨v0, st, W1, W2, hr1, hm1, hg1, hr2, hm2, hg2⟩ := hmW.entry2 law83 Try.underlying81 (fun _ _ => slotV_inj) hkl (v := wrap64 (m + wrap64 (sign * x.d.amount))) (by omega) (wrap64_wf _)
      have hL0 := hmW.look law83 Try.underlying81 (fun _ _ => slotV_inj) hkl
      have hL1 := hm1.look law83 Try.underlying81 (fun _ _ => slotV_inj) hkl
      rw [← hmm] at hL0 hL1
      have hcell : ∀ U : World, W.drew.grownBy U (some g) → U.cell? ⟨c, 0, none⟩ = some (.map (some g)) ∧ U.cell? ⟨wr.heap.size, 0, none⟩ = some (.int .i64 x.d.kind) ∧ U.cell? ⟨wr.heap.size, 1, none⟩ = some (.int .i64 x.d.wagon) ∧ U.cell? ⟨wr.heap.size, 2, none⟩ = some (.int .i64 x.d.rr) ∧
          U.cell? ⟨wr.heap.size, 3, none⟩ = some (.int .i64 x.d.rn) ∧ U.cell? ⟨wr.heap.size, 4, none⟩ = some (.int .i64 x.d.part) ∧ U.cell? ⟨wr.heap.size, 5, none⟩ = some (.int .i64 x.d.payer) ∧ U.cell? ⟨wr.heap.size, 6, none⟩ = some (.int .i64 x.d.payee) ∧
          U.cell? ⟨wr.heap.size, 7, none⟩ = some (.int .i64 x.d.month) ∧ U.cell? ⟨wr.heap.size, 8, none⟩ = some (.int .i64 x.d.amount) := by
        intro U hU
        have hrU := hr.drew.grown hU (by simpa using hgr.symm)
        refine ⟨(World.grownBy.trans hgW ⟨hU.os, hU.tape, hU.output, hU.size, hU.block⟩).cell Hc.out (by simpa using hcg), ?_, ?_, ?_, ?_, ?_, ?_, ?_, ?_, ?_⟩ <;> (rw [hrU.cell]; rfl)
      have S0 := hcell W.drew (World.grownBy.refl _ _)
      have S1 := hcell W1 hg1
      have S2 := hcell W2 hg2
      have hL0' : (Instr.lookup 81 (.map (some g)) (.agg #[.int .i64 x.d.kind, .int .i64 x.d.wagon, .int .i64 x.d.rr, .int .i64 x.d.rn, .int .i64 x.d.part, .int .i64 x.d.payer, .int .i64 x.d.payee, .int .i64 x.d.month]) false).run Try.prog W.drew = .ok (.int .i64 m) W.drew := hL0
      have hL1' : (Instr.lookup 81 (.map (some g)) (.agg #[.int .i64 x.d.kind, .int .i64 x.d.wagon, .int .i64 x.d.rr, .int .i64 x.d.rn, .int .i64 x.d.part, .int .i64 x.d.payer, .int .i64 x.d.payee, .int .i64 x.d.month]) false).run Try.prog W1 = .ok (.int .i64 m) W1 := hL1
      have hE : (Instr.mapEntry 81 (.map (some g)) (.agg #[.int .i64 x.d.kind, .int .i64 x.d.wagon, .int .i64 x.d.rr, .int .i64 x.d.rn, .int .i64 x.d.part, .int .i64 x.d.payer, .int .i64 x.d.payee, .int .i64 x.d.month])).run Try.prog W.drew = .ok (.tuple #[v0, st]) W1 := hr1
      have hr2' : (Instr.entryStore 81 (.map (some g)) st (.int .i64 (IntKind.i64.wrap (m + IntKind.i64.wrap (sign * x.d.amount))))).run Try.prog W1 = .ok () W2 := by
        rw [← IntWalk.i64_left, ← IntWalk.i64_left] at hr2
        exact hr2
      rw [← hW]
      have Hkl := Lib.hid hkl
      have Hm1 := Lib.hid hm1
      have Hm2 := Lib.hid hm2
      have HgW := Lib.hid hgW
      have Hg2 := Lib.hid hg2
      have Hm := Lib.hid hm
      have Hhmr := Lib.hid hmr
      have Hmm := Lib.hid hmm
      clear hr hr2 hW hkl hmW hgW hL0 hL1 hmr hrow hcr c0 hs hone hmm hm hr1 hm1 hm2 hg1 hg2 hcell
      go_region_held3 (fun U => U.cell? ⟨c, 0, none⟩ = some (.map (some g)) ∧ U.cell? ⟨wr.heap.size, 0, none⟩ = some (.int .i64 x.d.kind) ∧ U.cell? ⟨wr.heap.size, 1, none⟩ = some (.int .i64 x.d.wagon) ∧ U.cell? ⟨wr.heap.size, 2, none⟩ = some (.int .i64 x.d.rr) ∧
          U.cell? ⟨wr.heap.size, 3, none⟩ = some (.int .i64 x.d.rn) ∧ U.cell? ⟨wr.heap.size, 4, none⟩ = some (.int .i64 x.d.part) ∧ U.cell? ⟨wr.heap.size, 5, none⟩ = some (.int .i64 x.d.payer) ∧ U.cell? ⟨wr.heap.size, 6, none⟩ = some (.int .i64 x.d.payee) ∧
          U.cell? ⟨wr.heap.size, 7, none⟩ = some (.int .i64 x.d.month) ∧ U.cell? ⟨wr.heap.size, 8, none⟩ = some (.int .i64 x.d.amount))
        (first | exact S0 | exact S1 | exact S2) (fail)
      all_goals
        go_wp2
        go_roundw
        case rel =>
          refine ⟨k + 1, by omega, by go_num, World.grownBy.trans HgW.out ⟨Hg2.out.os, Hg2.out.tape, Hg2.out.output, Hg2.out.size, Hg2.out.block⟩, ?_⟩
          have := Hm2.out
          rw [Nat.add_assoc] at this
          rw [List.take_add_one, Hx.out]
          simp only [Option.toList_some, List.map_append, List.map_cons, List.map_nil, addLns, List.foldl_append, List.foldl_cons, List.foldl_nil]
          rw [addLn, ← addLns, ← Hmm.out]
          exact this
        case measure => simp [intOf]; omega
    · have hkl : k = l.length := by omega
      subst hkl
      go_wp2
      go_end0
      rw [List.take_length] at hmr
      exact ⟨rfl, hg, hmr⟩

end Go.Proofs.Ytoiipfcmkogcfaa
