/-
  The reference's Apply computes applyF.
  Conditions: as each theorem states them.
-/
import Derived.Test.YtoiipfcmkogcfaaWn
import Derived.Test.YtoiipfcmkogcfaaWe
namespace Go.Proofs.Ytoiipfcmkogcfaa
open Go.RowKit Go.Lib

theorem Below.grownNone {w w' : World} (h : Below w.heap.size w w') : w.grownBy w' none := ⟨h.os, h.tape, h.output, h.size, fun k hk _ => h.block k hk⟩

set_option maxRecDepth 100000 in
set_option maxHeartbeats 8000000 in
theorem refApply_any (A D : Option Addr) (b : List Int) (d : List Dl) (cb cd : Nat) (w : World) (hb : RdI w w.heap.size A b) (hd : RdD w w.heap.size D d) (_hm : b.length ≤ 4611686018427387904) (hn : d.length * 72 ≤ 140737488355328) :
    Calls Try.prog 10 #[.slice A b.length cb, .slice D d.length cd] w (ApplyRes w b d) := by
  by_cases hlen : b.length = 336
  · have Hb := Lib.hid hb
    have Hd := Lib.hid hd
    have Hlen := Lib.hid hlen
    rw [hlen]
    clear hb hd hlen _hm
    go_enter Try.func10, Try.ntmps10
    go_wp2
    go_loopw [6] (fun i wr => ∃ k : Nat, k ≤ d.length ∧ i = .int .i64 k ∧ Hid (∀ j, j < k → ∀ x, d[j]? = some x → acctD x = true) ∧ Below w.heap.size w wr)
      (fun i _ => d.length - (intOf i).toNat)
    case atStart => exact ⟨0, Nat.zero_le _, rfl, Lib.hid (fun j hj => absurd hj (by omega)), Below.refl _ _⟩
    case round =>
      obtain ⟨k, hk, rfl, hok, hbel⟩ := hrel
      by_cases hlt : k < d.length
      · obtain ⟨x, hx⟩ : ∃ x, d[k]? = some x := ⟨_, List.getElem?_eq_getElem hlt⟩
        obtain ⟨q, off, rfl, hqw, c0⟩ := Hd.out k x hx
        have hrow : wr.rangeAt q (off + k * 9) x.cells := fun j v hv => (hbel.cell (p := ⟨q, _, none⟩) hqw).trans (c0 j v hv)
        obtain ⟨p0, p1, p2, p3, p4, p5, p6, p7, p8⟩ := Nine.of hrow
        clear c0 hrow
        have Hx := Lib.hid hx
        clear hx
        have i0 : (0 : Int) ≤ (k : Int) := by omega
        have i1 : (k : Int) < (d.length : Int) := by omega
        go_wp2_with fail
        refine (account33_any x.payer _).mono ?_
        rintro e w1 ⟨rfl, rfl⟩
        by_cases ha : acct x.payer = true
        · rw [ha]
          have Ha := Lib.hid ha
          clear ha
          go_wp2_with fail
          refine (account33_any x.payee _).mono ?_
          rintro e w1 ⟨rfl, rfl⟩
          by_cases ha2 : acct x.payee = true
          · rw [ha2]
            have Ha2 := Lib.hid ha2
            clear ha2
            go_wp2
            go_roundw
            case rel => exact ⟨k + 1, by omega, by go_num, Lib.hid (all_step hok.out Hx.out (by rw [acctD, Ha.out, Ha2.out]; rfl)), hbel⟩
            case measure => simp [intOf]; omega
          · have hf : acct x.payee = false := by simpa using ha2
            rw [hf]
            go_wp2
            go_ret2
            exact ApplyRes.nil (applyF_acct Hlen.out (all_false_at Hx.out (by rw [acctD, hf, Bool.and_false]))) hbel
        · have hf : acct x.payer = false := by simpa using ha
          rw [hf]
          go_wp2
          go_ret2
          exact ApplyRes.nil (applyF_acct Hlen.out (all_false_at Hx.out (by rw [acctD, hf, Bool.false_and]))) hbel
      · have hkl : k = d.length := by omega
        subst hkl
        have hacct : d.all acctD = true := all_true_of hok.out
        have Hacct := Lib.hid hacct
        clear hacct hok
        have hmk := make78
        go_wp2_with fail
        clear hmk
        obtain ⟨w2, hw2⟩ : ∃ w2, w2 = wr.alloc (.cells (Array.replicate 336 (Value.slice none 0 0)) 23) := ⟨_, rfl⟩
        have hP2 : Parts w2 (wr.heap.size + 1) wr.heap.size (initP b 0) := by rw [hw2]; exact Parts.made wr
        have hB2 : Below w.heap.size w w2 := by rw [hw2]; exact hbel.alloc hbel.size _
        obtain ⟨pb, hpb⟩ : ∃ pb, pb = wr.heap.size := ⟨_, rfl⟩
        have hpw : w.heap.size ≤ pb := by rw [hpb]; exact hbel.size
        rw [← hw2]
        rw [← hpb] at hP2 ⊢
        clear hw2 hbel hpb
        go_loopw [8] (fun i wr => ∃ k : Nat, k ≤ 336 ∧ i = .int .i64 k ∧ Parts wr (pb + 1) pb (initP b k) ∧ Below w.heap.size w wr)
          (fun i _ => 336 - (intOf i).toNat)
        case atStart => exact ⟨0, Nat.zero_le _, rfl, hP2, hB2⟩
        case round =>
          obtain ⟨k, hk, rfl, hP, hbel⟩ := hrel
          by_cases hlt : k < 336
          · obtain ⟨x, hx⟩ : ∃ x, b[k]? = some x := ⟨_, List.getElem?_eq_getElem (by have := Hlen.out; omega)⟩
            obtain ⟨q, off, rfl, hqw, c0⟩ := Hb.out k x hx
            have d0 := (hbel.cell (p := ⟨q, off + k, none⟩) hqw).trans c0
            obtain ⟨v, hv, hf, hov, _⟩ := hP.at hlt
            have i0 : (0 : Int) ≤ (k : Int) := by omega
            have i1 : (k : Int) < 336 := by omega
            have hplt := hP.lt
            have hqlt : q < wr.heap.size := Nat.lt_of_lt_of_le hqw hbel.size
            have Hx := Lib.hid hx
            have HP := Lib.hid hP
            have Hov := Lib.hid hov
            clear hx hP hov c0
            go_wp2
            go_roundw
            case rel =>
              refine ⟨k + 1, by omega, by go_num, ?_, (hbel.setCell (p := ⟨pb, k, none⟩) hpw _).alloc (by simp [World.setCell]; exact hbel.size) _⟩
              rw [← initP_succ b k Hx.out, ← World.setCell_alloc_past _ _ _ _ hplt]
              refine HP.out.set hlt hv (World.grownBy_alloc _ _ none) (by simp) ?_ ?_
              · exact ⟨rfl, Or.inr ⟨wr.heap.size, 1, #[.int .i64 x], rfl, hplt, heap_alloc_new _ _, Nat.le_refl _, (by decide : 1 ≤ maxLen), rfl, rfl⟩⟩
              · intro g hg
                simp [Value.ownBlock] at hg
                omega
            case measure => simp [intOf]; omega
          · obtain rfl : k = 336 := by omega
            rw [show ((336 : Nat) : Int) = 336 from rfl]
            have HP := Lib.hid hP
            have Hbel := Lib.hid hbel
            clear hP hbel hP2 hB2
            go_wp2_with fail
            go_loopw [9] (fun i wr => ∃ k : Nat, k ≤ d.length ∧ i = .int .i64 k ∧ Hid (∀ j, j < k → ∀ x, d[j]? = some x → inD x = true) ∧ Parts wr (pb + 1) pb ((d.take k).foldl stepP (initP b 336)) ∧ Below w.heap.size w wr)
              (fun i _ => d.length - (intOf i).toNat)
            case atStart => exact ⟨0, Nat.zero_le _, rfl, Lib.hid (fun j hj => absurd hj (by omega)), HP.out, Hbel.out⟩
            case round =>
              obtain ⟨k, hk, rfl, hok, hP, hbel⟩ := hrel
              by_cases hlt : k < d.length
              · obtain ⟨x, hx⟩ : ∃ x, d[k]? = some x := ⟨_, List.getElem?_eq_getElem hlt⟩
                obtain ⟨q, off, rfl, hqw, c0⟩ := Hd.out k x hx
                have hrow : wr.rangeAt q (off + k * 9) x.cells := fun j v hv => (hbel.cell (p := ⟨q, _, none⟩) hqw).trans (c0 j v hv)
                obtain ⟨p0, p1, p2, p3, p4, p5, p6, p7, p8⟩ := Nine.of hrow
                have hacc : acctD x = true := by have := List.all_eq_true.1 Hacct.out x (List.mem_of_getElem? hx); exact this
                clear c0 hrow
                have Hx := Lib.hid hx
                have HP := Lib.hid hP
                clear hx hP
                have i0 : (0 : Int) ≤ (k : Int) := by omega
                have i1 : (k : Int) < (d.length : Int) := by omega
                by_cases hin : inD x = true
                · have hin' : -18014398509481984 ≤ x.amount ∧ x.amount ≤ 18014398509481984 := by simpa [inD] using hin
                  obtain ⟨hin1, hin2⟩ := hin'
                  obtain ⟨hf1, hf2⟩ := halfD_in hin
                  obtain ⟨ha1, ha2⟩ : acct x.payer = true ∧ acct x.payee = true := by simpa [acctD] using hacc
                  obtain ⟨i, hi⟩ : ∃ i : Nat, x.payer = (i : Int) := ⟨x.payer.toNat, by simp [acct] at ha1; omega⟩
                  obtain ⟨j, hj⟩ : ∃ j : Nat, x.payee = (j : Int) := ⟨x.payee.toNat, by simp [acct] at ha2; omega⟩
                  have hi3 : i < 336 := by simp [acct] at ha1; omega
                  have hj3 : j < 336 := by simp [acct] at ha2; omega
                  obtain ⟨n, hnn⟩ : ∃ n, n = x.amount := ⟨_, rfl⟩
                  obtain ⟨hh, hhh⟩ : ∃ hh, hh = halfD x := ⟨_, rfl⟩
                  rw [← hhh] at hf1 hf2
                  have hq : n.tdiv 2 = hh := by rw [hnn, hhh]; rfl
                  rw [hi] at p5
                  rw [hj] at p6
                  rw [← hnn] at p8 hin1 hin2
                  have Hhh := Lib.hid hhh
                  have Hnn := Lib.hid hnn
                  have Hi := Lib.hid hi
                  have Hj := Lib.hid hj
                  have Hacc := Lib.hid hacc
                  have Hin := Lib.hid hin
                  clear hhh hnn hi hj hacc hin ha1 ha2
                  have w1 : IntKind.i64.wrap hh = hh := by rw [IntWalk.i64_left]; unfold wrap64; omega
                  have w2' : IntKind.i64.wrap (-hh) = -hh := by rw [IntWalk.i64_left]; unfold wrap64; omega
                  have w3 : IntKind.i64.wrap (hh - n) = hh - n := by rw [IntWalk.i64_left]; unfold wrap64; omega
                  have w4 : IntKind.i64.wrap (n - hh) = n - hh := by rw [IntWalk.i64_left]; unfold wrap64; omega
                  have ii0 : (0 : Int) ≤ (i : Int) := by omega
                  have ii1 : (i : Int) < 336 := by omega
                  have jj0 : (0 : Int) ≤ (j : Int) := by omega
                  have jj1 : (j : Int) < 336 := by omega
                  have hqpb : q < pb := Nat.lt_of_lt_of_le hqw hpw
                  have foldlen : ∀ q, ((d.take k).foldl stepP (initP b 336) q).length ≤ 1 + 4 * d.length := fun q => Nat.le_trans (foldP_len (d.take k) _ q 1 (initP_len b 336 q)) (by simp; omega)
                  have Hbelr := Lib.hid hbel
                  clear hbel
                  go_upto_region 20 with fail
                  go_cut [] (fun wx => Parts wx (pb + 1) pb (putL ((d.take k).foldl stepP (initP b 336)) i [-hh, hh - n]) ∧ Below w.heap.size w wx)
                  case first =>
                    obtain ⟨W0, hW0⟩ : ∃ W0, W0 = wr := ⟨_, rfl⟩
                    rw [← hW0]
                    rw [← hW0] at p5
                    have HP0 : Hid (Parts W0 (pb + 1) pb ((d.take k).foldl stepP (initP b 336))) := by rw [hW0]; exact HP
                    have Hbel0 : Hid (Below w.heap.size w W0) := by rw [hW0]; exact Hbelr
                    clear hW0
                    obtain ⟨v, hv, hfv, hov, hvp⟩ := HP0.out.at hi3
                    have hlen := foldlen i
                    have hplt0 : pb < W0.heap.size := HP0.out.lt
                    have hqlt0 : q < W0.heap.size := by omega
                    have hpq : pb ≠ q := by omega
                    have hqp : q ≠ pb := by omega
                    obtain ⟨i3, hi3', hz3, hs3, hby3⟩ := info3
                    have Hi3 := Lib.hid hi3'
                    have Hz3 := Lib.hid hz3
                    have Hs3 := Lib.hid hs3
                    have Hby3 := Lib.hid hby3
                    clear hi3' hz3 hs3 hby3
                    have hovA : ((W0.alloc (.cells #[.int .i64 (-hh), .int .i64 (hh - n)] 3)).drew).ownsRow (pb + 1) 3 1 v _ _ := hov.alloc _
                    have hnews : ∀ (jj : Nat) (u : Value), ([Value.int .i64 (-hh), .int .i64 (hh - n)])[jj]? = some u → ((W0.alloc (.cells #[.int .i64 (-hh), .int .i64 (hh - n)] 3)).drew).cell? ((⟨W0.heap.size, 0, none⟩ : Addr).add jj) = some u := World.news_of_block (w := (W0.alloc (.cells #[.int .i64 (-hh), .int .i64 (hh - n)] 3)).drew) (heap_alloc_new W0 _)
                    have hPA : Parts ((W0.alloc (.cells #[.int .i64 (-hh), .int .i64 (hh - n)] 3)).drew) (pb + 1) pb _ := (HP0.out.kept (World.grownBy_alloc W0 _ none)).drew
                    have hvX : v.ownBlock ≠ some q := fun e => by have := hov.lt q e; omega
                    have hlt0 : pb + 1 ≤ (W0.alloc (.cells #[.int .i64 (-hh), .int .i64 (hh - n)] 3)).drew.heap.size := by simp; omega
                    have HovA := Lib.hid hovA
                    have Hnews := Lib.hid hnews
                    have HPA := Lib.hid hPA
                    have HvX := Lib.hid hvX
                    have Hvp := Lib.hid hvp
                    have Hlt0 := Lib.hid hlt0
                    have cA : (W0.alloc (.cells #[.int .i64 (-hh), .int .i64 (hh - n)] 3)).drew.cell? ⟨pb, i, none⟩ = some v := (World.cell?_of_block (w := W0) (Below.heap_alloc W0 _ pb (by omega))).trans hv
                    have fA : (W0.alloc (.cells #[.int .i64 (-hh), .int .i64 (hh - n)] 3)).drew.frozen? ⟨pb, i, none⟩ = false := (World.frozen?_of_block (w := W0) (Below.heap_alloc W0 _ pb (by omega))).trans hfv
                    have cQ : (W0.alloc (.cells #[.int .i64 (-hh), .int .i64 (hh - n)] 3)).drew.cell? ⟨q, off + k * 9 + 5, none⟩ = some (.int .i64 i) := (World.cell?_of_block (w := W0) (Below.heap_alloc W0 _ q (by omega))).trans p5
                    have CA := Lib.hid cA
                    have FA := Lib.hid fA
                    have CQ := Lib.hid cQ
                    have hl63 : (((d.take k).foldl stepP (initP b 336)) i).length + 8 ≤ maxLen := by simp only [maxLen]; omega
                    have hl47 : ((((d.take k).foldl stepP (initP b 336)) i).length + 8) * 8 ≤ 140737488355328 := by omega
                    clear hovA hnews hPA hvX hvp hov hlt0 cA fA cQ
                    go_region_law ((
                      refine step_append_lies _ rfl _ _ 23 rfl (pb + 1) 3 i3 (.int .i64 0) 1 8 Try.underlying23 Hi3.out Hz3.out Hs3.out Hby3.out rfl (by decide) v _ _ (by rfl) HovA.out ⟨W0.heap.size, 0, none⟩ 2 2 [.int .i64 (-hh), .int .i64 (hh - n)] (by rfl) rfl Hnews.out (one_ints [-hh, hh - n]) (by decide) (by omega) (by omega) Hlt0.out _ rfl ?_
                      intro g cap w1 hown1 hgrow1 hat hlt1
                      have K1 : w1.cell? ⟨q, off + k * 9 + 5, none⟩ = some (.int .i64 i) := hgrow1.cell CQ.out (fun e => HvX.out e.symm)
                      have K2 : w1.cell? ⟨pb, i, none⟩ = some v := hgrow1.cell CA.out (fun e => Hvp.out e.symm)
                      have K3 : w1.frozen? ⟨pb, i, none⟩ = false := (hgrow1.frozen_far ⟨pb, i, none⟩ (by have := Hlt0.out; exact this) (fun e => Hvp.out e.symm)).trans FA.out))
                    all_goals
                      go_wp2_with fail
                      go_meet
                      have hown2 : w1.ownsRow (pb + 1) 3 1 (.slice (some ⟨g, 0, none⟩) ((((d.take k).foldl stepP (initP b 336)) i).length + 2) cap) ((((d.take k).foldl stepP (initP b 336)) i ++ [-hh, hh - n]).length) ((((d.take k).foldl stepP (initP b 336)) i ++ [-hh, hh - n]).map (.int .i64)) := by simpa using hown1
                      have hvp := HovA.out.lt
                      have hPd : Parts (w1.setCell ⟨pb, i, none⟩ (.slice (some ⟨g, 0, none⟩) ((((d.take k).foldl stepP (initP b 336)) i).length + 2) cap)) (pb + 1) pb (putL (((d.take k).foldl stepP (initP b 336))) i [-hh, hh - n]) := HPA.out.set hi3 CA.out hgrow1 (fun _ hk => hk) hown2 (by
                        intro g' hg'
                        have : g = g' := by simpa [Value.ownBlock] using hg'
                        subst this
                        rcases hat with h | h
                        · exact Or.inl h
                        · exact Or.inr (by omega))
                      have hbd : Below w.heap.size w (w1.setCell ⟨pb, i, none⟩ (.slice (some ⟨g, 0, none⟩) ((((d.take k).foldl stepP (initP b 336)) i).length + 2) cap)) := (((Hbel0.out.alloc Hbel0.out.size _).drew).grown hgrow1 (by have := Hbel0.out.size; simp; omega) (fun k' hk' => by have := hvp k' hk'; omega)).setCell (p := ⟨pb, _, none⟩) hpw _
                      exact ⟨hPd, hbd⟩
                  case rest =>
                    obtain ⟨hPc, hbc⟩ := hcut
                    obtain ⟨ls, hls⟩ : ∃ ls, ls = putL ((d.take k).foldl stepP (initP b 336)) i [-hh, hh - n] := ⟨_, rfl⟩
                    rw [← hls] at hPc
                    have lslen : ∀ q, (ls q).length ≤ 1 + 4 * d.length + 2 := fun q => by
                      have h1 := putL_len ((d.take k).foldl stepP (initP b 336)) i (-hh) (hh - n) q
                      have h2 := foldlen q
                      rw [hls]
                      omega
                    have p6c : wc.cell? ⟨q, off + k * 9 + 6, none⟩ = some (.int .i64 j) := (hbc.cell (p := ⟨q, _, none⟩) hqw).trans ((Hbelr.out.cell (p := ⟨q, _, none⟩) hqw).symm.trans p6)
                    have Hls := Lib.hid hls
                    have HP0 := Lib.hid hPc
                    have Hbel0 := Lib.hid hbc
                    clear hls hPc hbc
                    go_upto_region 21 with fail
                    obtain ⟨W0, hW0⟩ : ∃ W0, W0 = wc := ⟨_, rfl⟩
                    rw [← hW0]
                    rw [← hW0] at HP0 Hbel0 p6c
                    clear hW0
                    obtain ⟨v, hv, hfv, hov, hvp⟩ := HP0.out.at hj3
                    have hlen := lslen j
                    have hplt0 : pb < W0.heap.size := HP0.out.lt
                    have hqlt0 : q < W0.heap.size := by omega
                    have hpq : pb ≠ q := by omega
                    have hqp : q ≠ pb := by omega
                    obtain ⟨i3, hi3', hz3, hs3, hby3⟩ := info3
                    have Hi3 := Lib.hid hi3'
                    have Hz3 := Lib.hid hz3
                    have Hs3 := Lib.hid hs3
                    have Hby3 := Lib.hid hby3
                    clear hi3' hz3 hs3 hby3
                    have hovA : ((W0.alloc (.cells #[.int .i64 (hh), .int .i64 (n - hh)] 3)).drew).ownsRow (pb + 1) 3 1 v _ _ := hov.alloc _
                    have hnews : ∀ (jj : Nat) (u : Value), ([Value.int .i64 (hh), .int .i64 (n - hh)])[jj]? = some u → ((W0.alloc (.cells #[.int .i64 (hh), .int .i64 (n - hh)] 3)).drew).cell? ((⟨W0.heap.size, 0, none⟩ : Addr).add jj) = some u := World.news_of_block (w := (W0.alloc (.cells #[.int .i64 (hh), .int .i64 (n - hh)] 3)).drew) (heap_alloc_new W0 _)
                    have hPA : Parts ((W0.alloc (.cells #[.int .i64 (hh), .int .i64 (n - hh)] 3)).drew) (pb + 1) pb _ := (HP0.out.kept (World.grownBy_alloc W0 _ none)).drew
                    have hvX : v.ownBlock ≠ some q := fun e => by have := hov.lt q e; omega
                    have hlt0 : pb + 1 ≤ (W0.alloc (.cells #[.int .i64 (hh), .int .i64 (n - hh)] 3)).drew.heap.size := by simp; omega
                    have HovA := Lib.hid hovA
                    have Hnews := Lib.hid hnews
                    have HPA := Lib.hid hPA
                    have HvX := Lib.hid hvX
                    have Hvp := Lib.hid hvp
                    have Hlt0 := Lib.hid hlt0
                    have cA : (W0.alloc (.cells #[.int .i64 (hh), .int .i64 (n - hh)] 3)).drew.cell? ⟨pb, j, none⟩ = some v := (World.cell?_of_block (w := W0) (Below.heap_alloc W0 _ pb (by omega))).trans hv
                    have fA : (W0.alloc (.cells #[.int .i64 (hh), .int .i64 (n - hh)] 3)).drew.frozen? ⟨pb, j, none⟩ = false := (World.frozen?_of_block (w := W0) (Below.heap_alloc W0 _ pb (by omega))).trans hfv
                    have cQ : (W0.alloc (.cells #[.int .i64 (hh), .int .i64 (n - hh)] 3)).drew.cell? ⟨q, off + k * 9 + 6, none⟩ = some (.int .i64 j) := (World.cell?_of_block (w := W0) (Below.heap_alloc W0 _ q (by omega))).trans p6c
                    have CA := Lib.hid cA
                    have FA := Lib.hid fA
                    have CQ := Lib.hid cQ
                    have hl63 : (ls j).length + 8 ≤ maxLen := by simp only [maxLen]; omega
                    have hl47 : ((ls j).length + 8) * 8 ≤ 140737488355328 := by omega
                    clear hovA hnews hPA hvX hvp hov hlt0 cA fA cQ
                    go_region_law ((
                      refine step_append_lies _ rfl _ _ 23 rfl (pb + 1) 3 i3 (.int .i64 0) 1 8 Try.underlying23 Hi3.out Hz3.out Hs3.out Hby3.out rfl (by decide) v _ _ (by rfl) HovA.out ⟨W0.heap.size, 0, none⟩ 2 2 [.int .i64 (hh), .int .i64 (n - hh)] (by rfl) rfl Hnews.out (one_ints [hh, n - hh]) (by decide) (by omega) (by omega) Hlt0.out _ rfl ?_
                      intro g cap w1 hown1 hgrow1 hat hlt1
                      have K1 : w1.cell? ⟨q, off + k * 9 + 6, none⟩ = some (.int .i64 j) := hgrow1.cell CQ.out (fun e => HvX.out e.symm)
                      have K2 : w1.cell? ⟨pb, j, none⟩ = some v := hgrow1.cell CA.out (fun e => Hvp.out e.symm)
                      have K3 : w1.frozen? ⟨pb, j, none⟩ = false := (hgrow1.frozen_far ⟨pb, j, none⟩ (by have := Hlt0.out; exact this) (fun e => Hvp.out e.symm)).trans FA.out))
                    all_goals
                      have hown2 : w1.ownsRow (pb + 1) 3 1 (.slice (some ⟨g, 0, none⟩) ((ls j).length + 2) cap) ((ls j ++ [hh, n - hh]).length) ((ls j ++ [hh, n - hh]).map (.int .i64)) := by simpa using hown1
                      have hvp := HovA.out.lt
                      have hPd : Parts (w1.setCell ⟨pb, j, none⟩ (.slice (some ⟨g, 0, none⟩) ((ls j).length + 2) cap)) (pb + 1) pb (putL (ls) j [hh, n - hh]) := HPA.out.set hj3 CA.out hgrow1 (fun _ hk => hk) hown2 (by
                        intro g' hg'
                        have : g = g' := by simpa [Value.ownBlock] using hg'
                        subst this
                        rcases hat with h | h
                        · exact Or.inl h
                        · exact Or.inr (by omega))
                      have hbd : Below w.heap.size w (w1.setCell ⟨pb, j, none⟩ (.slice (some ⟨g, 0, none⟩) ((ls j).length + 2) cap)) := (((Hbel0.out.alloc Hbel0.out.size _).drew).grown hgrow1 (by have := Hbel0.out.size; simp; omega) (fun k' hk' => by have := hvp k' hk'; omega)).setCell (p := ⟨pb, _, none⟩) hpw _
                      have HPd := Lib.hid hPd
                      have Hbd := Lib.hid hbd
                      clear hPd hbd hown1 hown2 hgrow1
                      go_wp2
                      go_roundw
                      case rel =>
                        refine ⟨k + 1, by omega, by go_num, Lib.hid (all_step hok.out Hx.out Hin.out), ?_, Hbd.out⟩
                        rw [List.take_add_one, Hx.out]
                        simp only [Option.toList_some, List.foldl_append, List.foldl_cons, List.foldl_nil]
                        rw [← stepP_eq _ x Hi.out Hj.out Hhh.out Hnn.out, ← Hls.out]
                        exact HPd.out
                      case measure => simp [intOf]; omega
                · have hin' : ¬ (-18014398509481984 ≤ x.amount ∧ x.amount ≤ 18014398509481984) := by simpa [inD] using hin
                  have hf : inD x = false := by simpa using hin
                  have hb1 : Below w.heap.size w wr := hbel
                  by_cases hlo : x.amount < -18014398509481984
                  · go_wp2
                    go_ret2
                    exact ApplyRes.nil (applyF_in Hlen.out Hacct.out (all_false_at Hx.out hf)) hb1
                  · have hhi : 18014398509481984 < x.amount := by omega
                    go_wp2
                    go_ret2
                    exact ApplyRes.nil (applyF_in Hlen.out Hacct.out (all_false_at Hx.out hf)) hb1
              · have hkl : k = d.length := by omega
                subst hkl
                have hinall : d.all inD = true := all_true_of hok.out
                have Hinall := Lib.hid hinall
                rw [List.take_length] at hP
                change Parts wr (pb + 1) pb (partsP b d) at hP
                have HP := Lib.hid hP
                have Hbelr := Lib.hid hbel
                clear hinall hok hP hbel
                obtain ⟨W, hW⟩ : ∃ W, W = wr := ⟨_, rfl⟩
                obtain ⟨ob, hob⟩ : ∃ ob, ob = wr.heap.size := ⟨_, rfl⟩
                obtain ⟨ls, hls⟩ : ∃ ls, ls = partsP b d := ⟨_, rfl⟩
                have hrd : ∀ i, i < 336 → ∃ A c, W.cell? ⟨pb, i, none⟩ = some (.slice A (ls i).length c) ∧ RdI W ob A (ls i) := by
                  intro i hi
                  obtain ⟨v, hv, _, ho, _⟩ := HP.out.at hi
                  obtain ⟨A, c, rfl, hr⟩ := own_ints ho
                  rw [hW, hob, hls]
                  exact ⟨A, c, hv, hr⟩
                have hpo : pb < ob := by rw [hob]; exact HP.out.lt
                have hwo : w.heap.size ≤ ob := by rw [hob]; exact Hbelr.out.size
                have hWo : Below w.heap.size w W := by rw [hW]; exact Hbelr.out
                have hlsl : ∀ q, (ls q).length ≤ 4611686018427387904 := fun q => by
                  have := partsP_len b d q
                  rw [hls]
                  omega
                have hst : Below ob W wr := by rw [hW]; exact Below.refl _ _
                have Hrd := Lib.hid hrd
                have HWo := Lib.hid hWo
                have Hlsl := Lib.hid hlsl
                have Hst := Lib.hid hst
                have Hls := Lib.hid hls
                have hobr : ob ≤ wr.heap.size := by rw [hob]; exact Nat.le_refl _
                clear HP Hbelr hW hob hrd hWo hlsl hls hst
                go_wp2_with fail
                go_loopw [12, 13] (fun o i wr => ∃ k : Nat, k ≤ 336 ∧ i = .int .i64 k ∧ Hid (∀ j, j < k → sumOk (ls j) = true) ∧ wr.ownsRow ob 3 1 o k (((List.range k).map fun i => (ls i).sum).map (.int .i64)) ∧ Below ob W wr ∧ ob ≤ wr.heap.size)
                  (fun _ i _ => 336 - (intOf i).toNat)
                case atStart => exact ⟨0, Nat.zero_le _, rfl, Lib.hid (fun j hj => absurd hj (by omega)), World.ownsRow_nil _ _ _ _, Hst.out, hobr⟩
                case round =>
                  obtain ⟨k, hk, rfl, hok, hown, hbel, hobw⟩ := hrel
                  by_cases hlt : k < 336
                  · obtain ⟨A1, c1, hcell, hrdk⟩ := Hrd.out k hlt
                    have d0 := (hbel.cell (p := ⟨pb, k, none⟩) hpo).trans hcell
                    have hrw : RdI wr wr.heap.size A1 (ls k) := (hrdk.below hbel).more hobw
                    have i0 : (0 : Int) ≤ (k : Int) := by omega
                    have i1 : (k : Int) < 336 := by omega
                    have Hown := Lib.hid hown
                    have Hbel := Lib.hid hbel
                    have Hrw := Lib.hid hrw
                    clear hown hbel hrw hrdk hcell
                    go_wp2_with fail
                    refine (refSum_any A1 (ls k) c1 wr Hrw.out (Hlsl.out k)).mono ?_
                    rintro e w1 ⟨rfl, hb1⟩
                    have hbw : Below ob W w1 := Hbel.out.trans (hb1.mono hobw)
                    by_cases hs : sumOk (ls k) = true
                    · rw [okPair_yes hs]
                      obtain ⟨S, hS⟩ : ∃ S, S = (ls k).sum := ⟨_, rfl⟩
                      rw [← hS]
                      have HS := Lib.hid hS
                      have Hs := Lib.hid hs
                      have Hbw := Lib.hid hbw
                      have hown1 : w1.ownsRow ob 3 1 _ k _ := Hown.out.kept (Below.grownNone hb1) (by
                        rcases ho : Value.ownBlock _ with _ | g
                        · exact Or.inl rfl
                        · exact Or.inr (by simp))
                      have hown2 := hown1.alloc (.cells #[.int .i64 S] 3)
                      have hnews : ∀ (jj : Nat) (u : Value), ([Value.int .i64 S])[jj]? = some u → (w1.alloc (.cells #[.int .i64 S] 3)).cell? ((⟨w1.heap.size, 0, none⟩ : Addr).add jj) = some u := World.news_of_block (heap_alloc_new w1 _)
                      have hob1 : ob ≤ (w1.alloc (.cells #[.int .i64 S] 3)).heap.size := by have := hb1.size; simp; omega
                      have hob2 : ob ≤ w1.heap.size := by have := hb1.size; omega
                      have Hown2 := Lib.hid hown2
                      have Hnews := Lib.hid hnews
                      have Hob1 := Lib.hid hob1
                      have Hown0 := Lib.hid (Hown.out.lt)
                      obtain ⟨i3, hi3', hz3, hs3, hby3⟩ := info3
                      have Hi3 := Lib.hid hi3'
                      have Hz3 := Lib.hid hz3
                      have Hs3 := Lib.hid hs3
                      have Hby3 := Lib.hid hby3
                      have hl63 : k + 1 ≤ maxLen := by simp only [maxLen]; omega
                      have Hl63 := Lib.hid hl63
                      clear hi3' hz3 hs3 hby3 hs hbw hb1 hS hown1 hown2 hnews hob1 hl63
                      go_wp2_with (first
                        | (at_builtin; refine wpList_append_own _ rfl _ _ 23 rfl ob 3 i3 (.int .i64 0) 1 8 Try.underlying23 Hi3.out Hz3.out Hs3.out Hby3.out rfl (by decide) _ k _ rfl Hown2.out ⟨w1.heap.size, 0, none⟩ 1 1 [.int .i64 S] rfl rfl Hnews.out (one_ints [S]) Hl63.out (by omega) Hob1.out ?_
                           intro v' w6 hown6 hgrow6 hiff6)
                        | go_in)
                      go_roundw
                      case rel =>
                        refine ⟨k + 1, by omega, by go_num, Lib.hid (fun j hj => ?_), ?_, ((Hbw.out.alloc hob2 _).grown hgrow6 (by simp; omega) (fun k' hk' => (Hown0.out k' hk').1)), ?_⟩
                        · rcases Nat.lt_succ_iff_lt_or_eq.1 hj with h | rfl
                          · exact hok.out j h
                          · exact Hs.out
                        · rw [List.range_succ]
                          simpa [HS.out] using hown6
                        · have := hgrow6.size
                          simp at this
                          omega
                      case measure => simp [intOf]; omega
                    · rw [okPair_no hs]
                      have Hs := Lib.hid hs
                      have Hbw := Lib.hid hbw
                      clear hs hbw hb1
                      go_wp2
                      go_ret2
                      exact ApplyRes.nil (applyF_bad Hlen.out Hacct.out Hinall.out hlt (by rw [← Hls.out]; exact Hs.out)) (HWo.out.trans (Hbw.out.mono hwo))
                  · obtain rfl : k = 336 := by omega
                    have Hown := Lib.hid hown
                    have Hbel := Lib.hid hbel
                    clear hown hbel
                    obtain ⟨Ao, co, rfl, hro⟩ := own_ints (l := (List.range 336).map fun i => (ls i).sum) (by simpa using Hown.out)
                    have Hro := Lib.hid hro
                    clear hro
                    go_wp2
                    go_ret2
                    have e : applyF b d = ((List.range 336).map fun i => (ls i).sum, 0) := by
                      rw [applyF_ok Hlen.out Hacct.out Hinall.out (fun i hi => by rw [← Hls.out]; exact hok.out i hi), Hls.out]
                    refine ⟨Ao, co, by rw [e]; rfl, HWo.out.trans (Hbel.out.mono hwo), ?_⟩
                    rw [e]
                    exact Hro.out
  · have Hlen := Lib.hid hlen
    go_enter Try.func10, Try.ntmps10
    go_wp2
    go_ret2
    exact ApplyRes.nil (applyF_len d hlen) (Below.refl _ _)

end Go.Proofs.Ytoiipfcmkogcfaa
