/-
  delta.Apply computes applyF.
  Conditions: as each theorem states them.
-/
import Derived.Test.YtoiipfcmkogcfaaAp
import Derived.Deep.RegionLaw
import Derived.Deep.QuietTactic
import Derived.BigQuiet
import Derived.Deep.DeepCutAuto
namespace Go.Proofs.Ytoiipfcmkogcfaa
open Go.RowKit Go.Lib

theorem info_of {t : TypeId} {n m : Nat} {v : Value} (_hv : v.cells = #[v]) (h : ((Try.prog.info? t).any fun i => i.size == n && i.bytes == m) = true) (hz : (Try.prog.info? t).bind (·.zero) = some v) : ∃ i, Try.prog.info? t = some i ∧ i.zero = some v ∧ i.size = n ∧ i.bytes = m := by
  cases hi : Try.prog.info? t with
  | none => rw [hi] at h; cases h
  | some i =>
    rw [hi] at h hz
    simp only [Option.any_some, Bool.and_eq_true, beq_iff_eq] at h
    exact ⟨i, rfl, by simpa using hz, h.1, h.2⟩
theorem info3 : ∃ i, Try.prog.info? 3 = some i ∧ i.zero = some (.int .i64 0) ∧ i.size = 1 ∧ i.bytes = 8 := info_of rfl (by kernel_rfl) (by kernel_rfl)
theorem info23 : ∃ i, Try.prog.info? 23 = some i ∧ i.zero = some (.slice none 0 0) ∧ i.size = 1 ∧ i.bytes = 24 := info_of rfl (by kernel_rfl) (by kernel_rfl)
theorem made_one (v : Value) (n : Nat) : madeCells #[v] n = Array.replicate n v := by
  apply Array.ext
  · simp [madeCells]
  · intro i h1 h2
    simp [madeCells, Nat.mod_one]
theorem make78 (w : World) : (Instr.makeSlice 78 (.int .i64 336) (.int .i64 336)).run Try.prog w = .ok (.slice (some ⟨w.heap.size, 0, none⟩) 336 336) (w.alloc (.cells (Array.replicate 336 (Value.slice none 0 0)) 23)) := by
  obtain ⟨i, hi, hz, hs, hb⟩ := info23
  have h := run_makeSlice w 78 23 i (.slice none 0 0) Try.underlying78 hi hz .i64 .i64 336 336 (by omega) (by omega) (by rw [hs]; decide) (by rw [hb]; omega) (by omega)
  rw [hs] at h
  rw [h, show (Value.slice none 0 0).cells = #[Value.slice none 0 0] from rfl, made_one]
  rfl
theorem make23 (w : World) : (Instr.makeSlice 23 (.int .i64 336) (.int .i64 336)).run Try.prog w = .ok (.slice (some ⟨w.heap.size, 0, none⟩) 336 336) (w.alloc (.cells (Array.replicate 336 (Value.int .i64 0)) 3)) := by
  obtain ⟨i, hi, hz, hs, hb⟩ := info3
  have h := run_makeSlice w 23 3 i (.int .i64 0) Try.underlying23 hi hz .i64 .i64 336 336 (by omega) (by omega) (by rw [hs]; decide) (by rw [hb]; omega) (by omega)
  rw [hs] at h
  rw [h, show (Value.int .i64 0).cells = #[Value.int .i64 0] from rfl, made_one]
  rfl

set_option maxRecDepth 100000 in
set_option maxHeartbeats 8000000 in
theorem apply_any (A D : Option Addr) (b : List Int) (d : List Dl) (cb cd : Nat) (w : World) (hb : RdI w w.heap.size A b) (hd : RdD w w.heap.size D d) (hm : b.length ≤ 4611686018427387904) (hn : d.length * 72 ≤ 140737488355328) :
    Calls Try.prog 9 #[.slice A b.length cb, .slice D d.length cd] w (ApplyRes w b d) := by
  by_cases hlen : b.length = 336
  · have Hb := Lib.hid hb
    have Hd := Lib.hid hd
    have Hlen := Lib.hid hlen
    rw [hlen]
    clear hb hd hlen hm
    go_enter Try.func9, Try.ntmps9
    go_wp2
    go_loopw [24] (fun i wr => ∃ k : Nat, k ≤ d.length ∧ i = .int .i64 k ∧ Hid (∀ j, j < k → ∀ x, d[j]? = some x → acctD x = true) ∧ Below w.heap.size w wr)
      (fun i _ => d.length - (intOf i).toNat)
    case atStart => exact ⟨0, Nat.zero_le _, rfl, Lib.hid (fun j hj => absurd hj (by omega)), Below.refl _ _⟩
    case round =>
      obtain ⟨k, hk, rfl, hok, hbel⟩ := hrel
      by_cases hlt : k < d.length
      · obtain ⟨x, hx⟩ : ∃ x, d[k]? = some x := ⟨_, List.getElem?_eq_getElem hlt⟩
        obtain ⟨q, off, rfl, hqw, c0⟩ := Hd.out k x hx
        have hrow : wr.rangeAt q (off + k * 9) x.cells := fun j v hv => (hbel.cell (p := ⟨q, _, none⟩) hqw).trans (c0 j v hv)
        obtain ⟨p0, p1, p2, p3, p4, p5, p6, p7, p8⟩ := Nine.of hrow
        clear c0 hrow
        have Hx := Lib.hid hx
        clear hx
        have i0 : (0 : Int) ≤ (k : Int) := by omega
        have i1 : (k : Int) < (d.length : Int) := by omega
        go_wp2_with fail
        refine (account_any x.payer _).mono ?_
        rintro e w1 ⟨rfl, rfl⟩
        by_cases ha : acct x.payer = true
        · rw [ha]
          have Ha := Lib.hid ha
          clear ha
          go_wp2_with fail
          refine (account_any x.payee _).mono ?_
          rintro e w1 ⟨rfl, rfl⟩
          by_cases ha2 : acct x.payee = true
          · rw [ha2]
            have Ha2 := Lib.hid ha2
            clear ha2
            go_wp2
            go_roundw
            case rel => exact ⟨k + 1, by omega, by go_num, Lib.hid (all_step hok.out Hx.out (by rw [acctD, Ha.out, Ha2.out]; rfl)), hbel.alloc hbel.size _⟩
            case measure => simp [intOf]; omega
          · have hf : acct x.payee = false := by simpa using ha2
            rw [hf]
            go_wp2
            go_ret2
            exact ApplyRes.nil (applyF_acct Hlen.out (all_false_at Hx.out (by rw [acctD, hf, Bool.and_false]))) (hbel.alloc hbel.size _)
        · have hf : acct x.payer = false := by simpa using ha
          rw [hf]
          go_wp2
          go_ret2
          exact ApplyRes.nil (applyF_acct Hlen.out (all_false_at Hx.out (by rw [acctD, hf, Bool.false_and]))) (hbel.alloc hbel.size _)
      · have hkl : k = d.length := by omega
        subst hkl
        have hacct : d.all acctD = true := all_true_of hok.out
        have Hacct := Lib.hid hacct
        clear hacct hok
        have hmk := make78
        go_wp2_with fail
        clear hmk
        obtain ⟨w2, hw2⟩ : ∃ w2, w2 = wr.alloc (.cells (Array.replicate 336 (Value.slice none 0 0)) 23) := ⟨_, rfl⟩
        have hP2 : Parts w2 (wr.heap.size + 1) wr.heap.size (initP b 0) := by rw [hw2]; exact Parts.made wr
        have hB2 : Below w.heap.size w w2 := by rw [hw2]; exact hbel.alloc hbel.size _
        obtain ⟨pb, hpb⟩ : ∃ pb, pb = wr.heap.size := ⟨_, rfl⟩
        have hpw : w.heap.size ≤ pb := by rw [hpb]; exact hbel.size
        rw [← hw2]
        rw [← hpb] at hP2 ⊢
        clear hw2 hbel hpb
        go_loopw [44] (fun i wr => ∃ k : Nat, k ≤ 336 ∧ i = .int .i64 k ∧ Parts wr (pb + 1) pb (initP b k) ∧ Below w.heap.size w wr)
          (fun i _ => 336 - (intOf i).toNat)
        case atStart => exact ⟨0, Nat.zero_le _, rfl, hP2, hB2⟩
        case round =>
          obtain ⟨k, hk, rfl, hP, hbel⟩ := hrel
          by_cases hlt : k < 336
          · obtain ⟨x, hx⟩ : ∃ x, b[k]? = some x := ⟨_, List.getElem?_eq_getElem (by have := Hlen.out; omega)⟩
            obtain ⟨q, off, rfl, hqw, c0⟩ := Hb.out k x hx
            have d0 := (hbel.cell (p := ⟨q, off + k, none⟩) hqw).trans c0
            obtain ⟨v, hv, hf, hov, _⟩ := hP.at hlt
            have i0 : (0 : Int) ≤ (k : Int) := by omega
            have i1 : (k : Int) < 336 := by omega
            have hplt := hP.lt
            have hqlt : q < wr.heap.size := Nat.lt_of_lt_of_le hqw hbel.size
            have Hx := Lib.hid hx
            have HP := Lib.hid hP
            have Hov := Lib.hid hov
            clear hx hP hov c0
            go_wp2
            go_roundw
            case rel =>
              refine ⟨k + 1, by omega, by go_num, ?_, (hbel.setCell (p := ⟨pb, k, none⟩) hpw _).alloc (by simp [World.setCell]; exact hbel.size) _⟩
              rw [← initP_succ b k Hx.out, ← World.setCell_alloc_past _ _ _ _ hplt]
              refine HP.out.set hlt hv (World.grownBy_alloc _ _ none) (by simp) ?_ ?_
              · exact ⟨rfl, Or.inr ⟨wr.heap.size, 1, #[.int .i64 x], rfl, hplt, heap_alloc_new _ _, Nat.le_refl _, (by decide : 1 ≤ maxLen), rfl, rfl⟩⟩
              · intro g hg
                simp [Value.ownBlock] at hg
                omega
            case measure => simp [intOf]; omega
          · obtain rfl : k = 336 := by omega
            rw [show ((336 : Nat) : Int) = 336 from rfl]
            have HP := Lib.hid hP
            have Hbel := Lib.hid hbel
            clear hP hbel hP2 hB2
            go_wp2_with fail
            go_loopw [57] (fun i wr => ∃ k : Nat, k ≤ d.length ∧ i = .int .i64 k ∧ Hid (∀ j, j < k → ∀ x, d[j]? = some x → inD x = true) ∧ Parts wr (pb + 1) pb ((d.take k).foldl stepP (initP b 336)) ∧ Below w.heap.size w wr)
              (fun i _ => d.length - (intOf i).toNat)
            case atStart => exact ⟨0, Nat.zero_le _, rfl, Lib.hid (fun j hj => absurd hj (by omega)), HP.out, Hbel.out⟩
            case round =>
              obtain ⟨k, hk, rfl, hok, hP, hbel⟩ := hrel
              by_cases hlt : k < d.length
              · obtain ⟨x, hx⟩ : ∃ x, d[k]? = some x := ⟨_, List.getElem?_eq_getElem hlt⟩
                obtain ⟨q, off, rfl, hqw, c0⟩ := Hd.out k x hx
                have hrow : wr.rangeAt q (off + k * 9) x.cells := fun j v hv => (hbel.cell (p := ⟨q, _, none⟩) hqw).trans (c0 j v hv)
                obtain ⟨p0, p1, p2, p3, p4, p5, p6, p7, p8⟩ := Nine.of hrow
                have hacc : acctD x = true := by have := List.all_eq_true.1 Hacct.out x (List.mem_of_getElem? hx); exact this
                clear c0 hrow
                have Hx := Lib.hid hx
                have HP := Lib.hid hP
                clear hx hP
                have i0 : (0 : Int) ≤ (k : Int) := by omega
                have i1 : (k : Int) < (d.length : Int) := by omega
                by_cases hin : inD x = true
                · have hin' : -18014398509481984 ≤ x.amount ∧ x.amount ≤ 18014398509481984 := by simpa [inD] using hin
                  obtain ⟨hin1, hin2⟩ := hin'
                  obtain ⟨hf1, hf2⟩ := halfD_in hin
                  obtain ⟨ha1, ha2⟩ : acct x.payer = true ∧ acct x.payee = true := by simpa [acctD] using hacc
                  obtain ⟨i, hi⟩ : ∃ i : Nat, x.payer = (i : Int) := ⟨x.payer.toNat, by simp [acct] at ha1; omega⟩
                  obtain ⟨j, hj⟩ : ∃ j : Nat, x.payee = (j : Int) := ⟨x.payee.toNat, by simp [acct] at ha2; omega⟩
                  have hi3 : i < 336 := by simp [acct] at ha1; omega
                  have hj3 : j < 336 := by simp [acct] at ha2; omega
                  obtain ⟨n, hnn⟩ : ∃ n, n = x.amount := ⟨_, rfl⟩
                  obtain ⟨hh, hhh⟩ : ∃ hh, hh = halfD x := ⟨_, rfl⟩
                  rw [← hhh] at hf1 hf2
                  have hq : n.tdiv 2 = hh := by rw [hnn, hhh]; rfl
                  rw [hi] at p5
                  rw [hj] at p6
                  rw [← hnn] at p8 hin1 hin2
                  have Hhh := Lib.hid hhh
                  have Hnn := Lib.hid hnn
                  have Hi := Lib.hid hi
                  have Hj := Lib.hid hj
                  have Hacc := Lib.hid hacc
                  have Hin := Lib.hid hin
                  clear hhh hnn hi hj hacc hin ha1 ha2
                  have w1 : IntKind.i64.wrap hh = hh := by rw [IntWalk.i64_left]; unfold wrap64; omega
                  have w2' : IntKind.i64.wrap (-hh) = -hh := by rw [IntWalk.i64_left]; unfold wrap64; omega
                  have w3 : IntKind.i64.wrap (hh - n) = hh - n := by rw [IntWalk.i64_left]; unfold wrap64; omega
                  have w4 : IntKind.i64.wrap (n - hh) = n - hh := by rw [IntWalk.i64_left]; unfold wrap64; omega
                  have ii0 : (0 : Int) ≤ (i : Int) := by omega
                  have ii1 : (i : Int) < 336 := by omega
                  have jj0 : (0 : Int) ≤ (j : Int) := by omega
                  have jj1 : (j : Int) < 336 := by omega
                  have hX : pb < wr.heap.size := HP.out.lt
                  have foldlen : ∀ q, ((d.take k).foldl stepP (initP b 336) q).length ≤ 1 + 4 * d.length := fun q => Nat.le_trans (foldP_len (d.take k) _ q 1 (initP_len b 336 q)) (by simp; omega)
                  have Hbelr := Lib.hid hbel
                  clear hbel
                  go_upto_region 21 with fail
                  go_cut [] (fun wx => Parts wx (pb + 1) pb (putL ((d.take k).foldl stepP (initP b 336)) i [-hh, hh - n]) ∧ Below w.heap.size w wx ∧ Row wx wr.heap.size 70 #[.int .i64 x.kind, .int .i64 x.wagon, .int .i64 x.rr, .int .i64 x.rn, .int .i64 x.part, .int .i64 i, .int .i64 j, .int .i64 x.month, .int .i64 n])
                  case first =>
                    obtain ⟨W0, hW0⟩ : ∃ W0, W0 = wr.alloc (.cells #[.int .i64 x.kind, .int .i64 x.wagon, .int .i64 x.rr, .int .i64 x.rn, .int .i64 x.part, .int .i64 i, .int .i64 j, .int .i64 x.month, .int .i64 n] 70) := ⟨_, rfl⟩
                    have hr0 : Row W0 wr.heap.size 70 #[.int .i64 x.kind, .int .i64 x.wagon, .int .i64 x.rr, .int .i64 x.rn, .int .i64 x.part, .int .i64 i, .int .i64 j, .int .i64 x.month, .int .i64 n] := by rw [hW0]; exact Row.new _ _ _
                    have hP0 : Parts W0 (pb + 1) pb ((d.take k).foldl stepP (initP b 336)) := by rw [hW0]; exact HP.out.kept (World.grownBy_alloc _ _ none)
                    have hbel0 : Below w.heap.size w W0 := by rw [hW0]; exact Hbelr.out.alloc Hbelr.out.size _
                    rw [← hW0]
                    have hXW : wr.heap.size < W0.heap.size := hr0.lt
                    have HP0 := Lib.hid hP0
                    have Hbel0 := Lib.hid hbel0
                    clear hW0 hP0 hbel0
                    have hpX : pb ≠ wr.heap.size := by omega
                    have c5 : W0.cell? ⟨wr.heap.size, 5, none⟩ = some (.int .i64 i) := hr0.cell 5
                    obtain ⟨v, hv, hfv, hov, hvp⟩ := HP0.out.at hi3
                    have hlen := foldlen i
                    have hplt0 : pb < W0.heap.size := by omega
                    obtain ⟨i3, hi3', hz3, hs3, hby3⟩ := info3
                    have Hi3 := Lib.hid hi3'
                    have Hz3 := Lib.hid hz3
                    have Hs3 := Lib.hid hs3
                    have Hby3 := Lib.hid hby3
                    clear hi3' hz3 hs3 hby3
                    have hovA : ((W0.alloc (.cells #[.int .i64 (-hh), .int .i64 (hh - n)] 3)).drew).ownsRow (pb + 1) 3 1 v _ _ := hov.alloc _
                    have hnews : ∀ (jj : Nat) (u : Value), ([Value.int .i64 (-hh), .int .i64 (hh - n)])[jj]? = some u → ((W0.alloc (.cells #[.int .i64 (-hh), .int .i64 (hh - n)] 3)).drew).cell? ((⟨W0.heap.size, 0, none⟩ : Addr).add jj) = some u := World.news_of_block (w := (W0.alloc (.cells #[.int .i64 (-hh), .int .i64 (hh - n)] 3)).drew) (heap_alloc_new W0 _)
                    have hrA : Row ((W0.alloc (.cells #[.int .i64 (-hh), .int .i64 (hh - n)] 3)).drew) wr.heap.size 70 #[.int .i64 x.kind, .int .i64 x.wagon, .int .i64 x.rr, .int .i64 x.rn, .int .i64 x.part, .int .i64 i, .int .i64 j, .int .i64 x.month, .int .i64 n] := hr0.alloc _
                    have hPA : Parts ((W0.alloc (.cells #[.int .i64 (-hh), .int .i64 (hh - n)] 3)).drew) (pb + 1) pb _ := (HP0.out.kept (World.grownBy_alloc W0 _ none)).drew
                    have hvX := ownsRow_ne hovA hrA (by decide)
                    have hlt0 : pb + 1 ≤ (W0.alloc (.cells #[.int .i64 (-hh), .int .i64 (hh - n)] 3)).drew.heap.size := by simp; omega
                    have HovA := Lib.hid hovA
                    have Hnews := Lib.hid hnews
                    have HrA := Lib.hid hrA
                    have HPA := Lib.hid hPA
                    have HvX := Lib.hid hvX
                    have Hvp := Lib.hid hvp
                    have Hlt0 := Lib.hid hlt0
                    have cA : (W0.alloc (.cells #[.int .i64 (-hh), .int .i64 (hh - n)] 3)).drew.cell? ⟨pb, i, none⟩ = some v := (World.cell?_of_block (w := W0) (Below.heap_alloc W0 _ pb (by omega))).trans hv
                    have fA : (W0.alloc (.cells #[.int .i64 (-hh), .int .i64 (hh - n)] 3)).drew.frozen? ⟨pb, i, none⟩ = false := (World.frozen?_of_block (w := W0) (Below.heap_alloc W0 _ pb (by omega))).trans hfv
                    have CA := Lib.hid cA
                    have FA := Lib.hid fA
                    have hl63 : ((d.take k).foldl stepP (initP b 336) i).length + 8 ≤ maxLen := by simp only [maxLen]; omega
                    have hl47 : (((d.take k).foldl stepP (initP b 336) i).length + 8) * 8 ≤ 140737488355328 := by omega
                    clear hovA hnews hrA hPA hvX hvp hov hlt0 cA fA
                    go_region_law ((
                      refine step_append_lies _ rfl _ _ 23 rfl (pb + 1) 3 i3 (.int .i64 0) 1 8 Try.underlying23 Hi3.out Hz3.out Hs3.out Hby3.out rfl (by decide) v _ _ (by rfl) HovA.out ⟨W0.heap.size, 0, none⟩ 2 2 [.int .i64 (-hh), .int .i64 (hh - n)] (by rfl) rfl Hnews.out (one_ints [-hh, hh - n]) (by decide) (by omega) (by omega) Hlt0.out _ rfl ?_
                      intro g cap w1 hown1 hgrow1 hat hlt1
                      have K1 : w1.cell? ⟨wr.heap.size, 5, none⟩ = some (.int .i64 i) := hgrow1.cell (HrA.out.cell 5) (fun e => HvX.out e.symm)
                      have K2 : w1.cell? ⟨pb, i, none⟩ = some v := hgrow1.cell CA.out (fun e => Hvp.out e.symm)
                      have K3 : w1.frozen? ⟨pb, i, none⟩ = false := (hgrow1.frozen_far ⟨pb, i, none⟩ (by have := Hlt0.out; exact this) (fun e => Hvp.out e.symm)).trans FA.out))
                    all_goals
                      go_wp2_with fail
                      go_meet
                      have hown2 : w1.ownsRow (pb + 1) 3 1 (.slice (some ⟨g, 0, none⟩) (((d.take k).foldl stepP (initP b 336) i).length + 2) cap) (((d.take k).foldl stepP (initP b 336) i ++ [-hh, hh - n]).length) (((d.take k).foldl stepP (initP b 336) i ++ [-hh, hh - n]).map (.int .i64)) := by simpa using hown1
                      have hvp := HovA.out.lt
                      refine ⟨HPA.out.set hi3 CA.out hgrow1 (fun _ hk => hk) hown2 ?_, (((Hbel0.out.alloc Hbel0.out.size _).drew).grown hgrow1 (by have := Hbel0.out.size; simp; omega) (fun k' hk' => by have := hvp k' hk'; omega)).setCell (p := ⟨pb, _, none⟩) hpw _, (HrA.out.grown hgrow1 (fun e => HvX.out e.symm)).far (by simpa using hpX.symm) _⟩
                      intro g' hg'
                      have : g = g' := by simpa [Value.ownBlock] using hg'
                      subst this
                      rcases hat with h | h
                      · exact Or.inl h
                      · exact Or.inr (by omega)
                  case rest =>
                    obtain ⟨hPc, hbc, hrc⟩ := hcut
                    obtain ⟨ls, hls⟩ : ∃ ls, ls = putL ((d.take k).foldl stepP (initP b 336)) i [-hh, hh - n] := ⟨_, rfl⟩
                    rw [← hls] at hPc
                    have lslen : ∀ q, (ls q).length ≤ 1 + 4 * d.length + 2 := fun q => by
                      have h1 := putL_len ((d.take k).foldl stepP (initP b 336)) i (-hh) (hh - n) q
                      have h2 := foldlen q
                      rw [hls]
                      omega
                    have Hls := Lib.hid hls
                    have HPc := Lib.hid hPc
                    have Hbc := Lib.hid hbc
                    clear hls hPc hbc
                    go_upto_region 22 with fail
                    obtain ⟨W0, hW0⟩ : ∃ W0, W0 = wc := ⟨_, rfl⟩
                    rw [← hW0]
                    have hr0 : Row W0 wr.heap.size 70 #[.int .i64 x.kind, .int .i64 x.wagon, .int .i64 x.rr, .int .i64 x.rn, .int .i64 x.part, .int .i64 i, .int .i64 j, .int .i64 x.month, .int .i64 n] := by rw [hW0]; exact hrc
                    have HP0 : Hid (Parts W0 (pb + 1) pb ls) := by rw [hW0]; exact HPc
                    have Hbel0 : Hid (Below w.heap.size w W0) := by rw [hW0]; exact Hbc
                    clear hrc
                    have hXW : wr.heap.size < W0.heap.size := hr0.lt
                    have hpX : pb ≠ wr.heap.size := by omega
                    have c6 : W0.cell? ⟨wr.heap.size, 6, none⟩ = some (.int .i64 j) := hr0.cell 6
                    clear hW0
                    obtain ⟨v, hv, hfv, hov, hvp⟩ := HP0.out.at hj3
                    have hlen := lslen j
                    have hplt0 : pb < W0.heap.size := by omega
                    obtain ⟨i3, hi3', hz3, hs3, hby3⟩ := info3
                    have Hi3 := Lib.hid hi3'
                    have Hz3 := Lib.hid hz3
                    have Hs3 := Lib.hid hs3
                    have Hby3 := Lib.hid hby3
                    clear hi3' hz3 hs3 hby3
                    have hovA : ((W0.alloc (.cells #[.int .i64 (hh), .int .i64 (n - hh)] 3)).drew).ownsRow (pb + 1) 3 1 v _ _ := hov.alloc _
                    have hnews : ∀ (jj : Nat) (u : Value), ([Value.int .i64 (hh), .int .i64 (n - hh)])[jj]? = some u → ((W0.alloc (.cells #[.int .i64 (hh), .int .i64 (n - hh)] 3)).drew).cell? ((⟨W0.heap.size, 0, none⟩ : Addr).add jj) = some u := World.news_of_block (w := (W0.alloc (.cells #[.int .i64 (hh), .int .i64 (n - hh)] 3)).drew) (heap_alloc_new W0 _)
                    have hrA : Row ((W0.alloc (.cells #[.int .i64 (hh), .int .i64 (n - hh)] 3)).drew) wr.heap.size 70 #[.int .i64 x.kind, .int .i64 x.wagon, .int .i64 x.rr, .int .i64 x.rn, .int .i64 x.part, .int .i64 i, .int .i64 j, .int .i64 x.month, .int .i64 n] := hr0.alloc _
                    have hPA : Parts ((W0.alloc (.cells #[.int .i64 (hh), .int .i64 (n - hh)] 3)).drew) (pb + 1) pb _ := (HP0.out.kept (World.grownBy_alloc W0 _ none)).drew
                    have hvX := ownsRow_ne hovA hrA (by decide)
                    have hlt0 : pb + 1 ≤ (W0.alloc (.cells #[.int .i64 (hh), .int .i64 (n - hh)] 3)).drew.heap.size := by simp; omega
                    have HovA := Lib.hid hovA
                    have Hnews := Lib.hid hnews
                    have HrA := Lib.hid hrA
                    have HPA := Lib.hid hPA
                    have HvX := Lib.hid hvX
                    have Hvp := Lib.hid hvp
                    have Hlt0 := Lib.hid hlt0
                    have cA : (W0.alloc (.cells #[.int .i64 (hh), .int .i64 (n - hh)] 3)).drew.cell? ⟨pb, j, none⟩ = some v := (World.cell?_of_block (w := W0) (Below.heap_alloc W0 _ pb (by omega))).trans hv
                    have fA : (W0.alloc (.cells #[.int .i64 (hh), .int .i64 (n - hh)] 3)).drew.frozen? ⟨pb, j, none⟩ = false := (World.frozen?_of_block (w := W0) (Below.heap_alloc W0 _ pb (by omega))).trans hfv
                    have CA := Lib.hid cA
                    have FA := Lib.hid fA
                    have hl63 : (ls j).length + 8 ≤ maxLen := by simp only [maxLen]; omega
                    have hl47 : ((ls j).length + 8) * 8 ≤ 140737488355328 := by omega
                    clear hovA hnews hrA hPA hvX hvp hov hlt0 cA fA
                    go_region_law ((
                      refine step_append_lies _ rfl _ _ 23 rfl (pb + 1) 3 i3 (.int .i64 0) 1 8 Try.underlying23 Hi3.out Hz3.out Hs3.out Hby3.out rfl (by decide) v _ _ (by rfl) HovA.out ⟨W0.heap.size, 0, none⟩ 2 2 [.int .i64 (hh), .int .i64 (n - hh)] (by rfl) rfl Hnews.out (one_ints [hh, n - hh]) (by decide) (by omega) (by omega) Hlt0.out _ rfl ?_
                      intro g cap w1 hown1 hgrow1 hat hlt1
                      have K1 : w1.cell? ⟨wr.heap.size, 6, none⟩ = some (.int .i64 j) := hgrow1.cell (HrA.out.cell 6) (fun e => HvX.out e.symm)
                      have K2 : w1.cell? ⟨pb, j, none⟩ = some v := hgrow1.cell CA.out (fun e => Hvp.out e.symm)
                      have K3 : w1.frozen? ⟨pb, j, none⟩ = false := (hgrow1.frozen_far ⟨pb, j, none⟩ (by have := Hlt0.out; exact this) (fun e => Hvp.out e.symm)).trans FA.out))
                    all_goals
                      have hown2 : w1.ownsRow (pb + 1) 3 1 (.slice (some ⟨g, 0, none⟩) ((ls j).length + 2) cap) ((ls j ++ [hh, n - hh]).length) ((ls j ++ [hh, n - hh]).map (.int .i64)) := by simpa using hown1
                      have hvp := HovA.out.lt
                      have hPd : Parts (w1.setCell ⟨pb, j, none⟩ (.slice (some ⟨g, 0, none⟩) ((ls j).length + 2) cap)) (pb + 1) pb (putL ls j [hh, n - hh]) := HPA.out.set hj3 CA.out hgrow1 (fun _ hk => hk) hown2 (by
                        intro g' hg'
                        have : g = g' := by simpa [Value.ownBlock] using hg'
                        subst this
                        rcases hat with h | h
                        · exact Or.inl h
                        · exact Or.inr (by omega))
                      have hbd : Below w.heap.size w (w1.setCell ⟨pb, j, none⟩ (.slice (some ⟨g, 0, none⟩) ((ls j).length + 2) cap)) := (((Hbel0.out.alloc Hbel0.out.size _).drew).grown hgrow1 (by have := Hbel0.out.size; simp; omega) (fun k' hk' => by have := hvp k' hk'; omega)).setCell (p := ⟨pb, _, none⟩) hpw _
                      have HPd := Lib.hid hPd
                      have Hbd := Lib.hid hbd
                      clear hPd hbd hown1 hown2 hgrow1
                      go_wp2
                      go_roundw
                      case rel =>
                        refine ⟨k + 1, by omega, by go_num, Lib.hid (all_step hok.out Hx.out Hin.out), ?_, Hbd.out⟩
                        rw [List.take_add_one, Hx.out]
                        simp only [Option.toList_some, List.foldl_append, List.foldl_cons, List.foldl_nil]
                        rw [← stepP_eq _ x Hi.out Hj.out Hhh.out Hnn.out, ← Hls.out]
                        exact HPd.out
                      case measure => simp [intOf]; omega
                · have hin' : ¬ (-18014398509481984 ≤ x.amount ∧ x.amount ≤ 18014398509481984) := by simpa [inD] using hin
                  have hf : inD x = false := by simpa using hin
                  have hb1 : Below w.heap.size w (wr.alloc (.cells x.cells.toArray 70)) := hbel.alloc hbel.size _
                  by_cases hlo : x.amount < -18014398509481984
                  · go_wp2
                    go_ret2
                    exact ApplyRes.nil (applyF_in Hlen.out Hacct.out (all_false_at Hx.out hf)) hb1
                  · have hhi : 18014398509481984 < x.amount := by omega
                    go_wp2
                    go_ret2
                    exact ApplyRes.nil (applyF_in Hlen.out Hacct.out (all_false_at Hx.out hf)) hb1
              · have hkl : k = d.length := by omega
                subst hkl
                have hinall : d.all inD = true := all_true_of hok.out
                have Hinall := Lib.hid hinall
                rw [List.take_length] at hP
                change Parts wr (pb + 1) pb (partsP b d) at hP
                have HP := Lib.hid hP
                have Hbelr := Lib.hid hbel
                clear hinall hok hP hbel
                have hmk := make23
                go_wp2_with fail
                clear hmk
                obtain ⟨W, hW⟩ : ∃ W, W = wr := ⟨_, rfl⟩
                obtain ⟨ob, hob⟩ : ∃ ob, ob = wr.heap.size := ⟨_, rfl⟩
                obtain ⟨ls, hls⟩ : ∃ ls, ls = partsP b d := ⟨_, rfl⟩
                have hrd : ∀ i, i < 336 → ∃ A c, W.cell? ⟨pb, i, none⟩ = some (.slice A (ls i).length c) ∧ RdI W ob A (ls i) := by
                  intro i hi
                  obtain ⟨v, hv, _, ho, _⟩ := HP.out.at hi
                  obtain ⟨A, c, rfl, hr⟩ := own_ints ho
                  rw [hW, hob, hls]
                  exact ⟨A, c, hv, hr⟩
                have hpo : pb < ob := by rw [hob]; exact HP.out.lt
                have hwo : w.heap.size ≤ ob := by rw [hob]; exact Hbelr.out.size
                have hWo : Below w.heap.size w W := by rw [hW]; exact Hbelr.out
                have hlsl : ∀ q, (ls q).length ≤ 4611686018427387904 := fun q => by
                  have := partsP_len b d q
                  rw [hls]
                  omega
                obtain ⟨wst, hwst⟩ : ∃ wst, wst = wr.alloc (.cells (Array.replicate 336 (Value.int .i64 0)) 3) := ⟨_, rfl⟩
                have hst : Below ob W wst := by rw [hwst, hob, hW]; exact (Below.refl _ _).alloc (Nat.le_refl _) _
                have hrow0 : Row wst ob 3 (ints (outs ls 0)) := by rw [hwst, hob, outs_zero ls]; exact Row.new _ _ _
                rw [← hwst]
                rw [← hob]
                have Hrd := Lib.hid hrd
                have HWo := Lib.hid hWo
                have Hlsl := Lib.hid hlsl
                have Hst := Lib.hid hst
                have Hrow0 := Lib.hid hrow0
                have Hls := Lib.hid hls
                clear HP Hbelr hW hob hrd hWo hlsl hls hwst hst hrow0
                go_loopw [110] (fun i wr => ∃ k : Nat, k ≤ 336 ∧ i = .int .i64 k ∧ Hid (∀ j, j < k → sumOk (ls j) = true) ∧ Row wr ob 3 (ints (outs ls k)) ∧ Below ob W wr)
                  (fun i _ => 336 - (intOf i).toNat)
                case atStart => exact ⟨0, Nat.zero_le _, rfl, Lib.hid (fun j hj => absurd hj (by omega)), Hrow0.out, Hst.out⟩
                case round =>
                  obtain ⟨k, hk, rfl, hok, hrow, hbel⟩ := hrel
                  by_cases hlt : k < 336
                  · obtain ⟨A1, c1, hcell, hrdk⟩ := Hrd.out k hlt
                    have d0 := (hbel.cell (p := ⟨pb, k, none⟩) hpo).trans hcell
                    have hrw : RdI wr wr.heap.size A1 (ls k) := (hrdk.below hbel).more (Nat.le_of_lt hrow.lt)
                    have i0 : (0 : Int) ≤ (k : Int) := by omega
                    have i1 : (k : Int) < 336 := by omega
                    have Hrow := Lib.hid hrow
                    have Hbel := Lib.hid hbel
                    have Hrw := Lib.hid hrw
                    clear hrow hbel hrw hrdk hcell
                    go_wp2_with fail
                    refine (moneySum_any A1 (ls k) c1 wr Hrw.out (Hlsl.out k)).mono ?_
                    rintro e w1 ⟨rfl, hb1⟩
                    have hbw : Below ob W w1 := Hbel.out.trans (hb1.mono (Nat.le_of_lt Hrow.out.lt))
                    have hrow1 : Row w1 ob 3 (ints (outs ls k)) := Hrow.out.below hb1 Hrow.out.lt
                    by_cases hs : sumOk (ls k) = true
                    · rw [okPair_yes hs]
                      have e1 : w1.cell? ⟨ob, k, none⟩ = some (.int .i64 ((outs ls k).getD k 0)) := by rw [hrow1.cell]; exact ints_at (by rw [outs_len]; exact hlt)
                      have e2 : w1.frozen? ⟨ob, k, none⟩ = false := hrow1.frozen k
                      have Hs := Lib.hid hs
                      have Hbw := Lib.hid hbw
                      have Hrow1 := Lib.hid hrow1
                      clear hs hbw hrow1 hb1
                      obtain ⟨S, hS⟩ : ∃ S, S = (ls k).sum := ⟨_, rfl⟩
                      rw [← hS]
                      have HS := Lib.hid hS
                      clear hS
                      go_wp2
                      go_roundw
                      case rel =>
                        refine ⟨k + 1, by omega, by go_num, Lib.hid (fun j hj => ?_), ?_, Hbw.out.setCell (p := ⟨ob, k, none⟩) (Nat.le_refl _) _⟩
                        · rcases Nat.lt_succ_iff_lt_or_eq.1 hj with h | rfl
                          · exact hok.out j h
                          · exact Hs.out
                        · have := Hrow1.out.set k (.int .i64 S)
                          rw [ints_set, HS.out, outs_set ls hlt] at this
                          rw [HS.out]
                          exact this
                      case measure => simp [intOf]; omega
                    · rw [okPair_no hs]
                      have Hs := Lib.hid hs
                      have Hbw := Lib.hid hbw
                      clear hs hbw hrow1 hb1
                      go_wp2
                      go_ret2
                      exact ApplyRes.nil (applyF_bad Hlen.out Hacct.out Hinall.out hlt (by rw [← Hls.out]; exact Hs.out)) (HWo.out.trans (Hbw.out.mono hwo))
                  · obtain rfl : k = 336 := by omega
                    have Hrow := Lib.hid hrow
                    have Hbel := Lib.hid hbel
                    clear hrow hbel
                    go_wp2
                    go_ret2
                    have e : applyF b d = (outs ls 336, 0) := by
                      rw [applyF_ok Hlen.out Hacct.out Hinall.out (fun i hi => by rw [← Hls.out]; exact hok.out i hi), outs_all, Hls.out]
                    refine ⟨some ⟨ob, 0, none⟩, 336, by rw [e]; rw [outs_len]; rfl, HWo.out.trans (Hbel.out.mono hwo), ?_⟩
                    rw [e]
                    exact row_reads Hrow.out
  · have Hlen := Lib.hid hlen
    go_enter Try.func9, Try.ntmps9
    go_wp2
    go_ret2
    exact ApplyRes.nil (applyF_len d hlen) (Below.refl _ _)

end Go.Proofs.Ytoiipfcmkogcfaa
