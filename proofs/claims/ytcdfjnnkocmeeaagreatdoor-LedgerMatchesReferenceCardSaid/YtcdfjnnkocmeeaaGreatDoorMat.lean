/-
  The law LedgerMatchesReference returns true for whatever lines, account and month are read.
  Conditions: as each theorem states them.
-/
import Derived.Test.YtcdfjnnkocmeeaaGreatDoorRc
namespace Go.Proofs.YtcdfjnnkocmeeaaGreatDoor
open Go.RowKit Go.Lib

set_option maxRecDepth 100000 in
set_option maxHeartbeats 8000000 in
theorem matches_any (l : List Ln) (A : Option Addr) (c : Nat) (a m : Int) (w : World) (hk : KT w) (hc : CB w) (hl : RdE Ln.cells 44 w w.heap.size A l) (hok : ∀ x ∈ l, x.ok) (htp : ∀ x ∈ l, x.tp) :
    Calls Tryz.prog 3 #[.slice A l.length c, .int .i64 a, .int .i64 m] w fun e w' => e = .returned (.bool true) ∧ Below w.heap.size w w' := by
  have Hl := Lib.hid hl
  have Hok := Lib.hid hok
  have Htp := Lib.hid htp
  have Hk := Lib.hid hk
  have Hc := Lib.hid hc
  clear hl hok hk hc htp
  go_enter Tryz.func3, Tryz.ntmps3
  go_wp2_with fail
  refine (sane_any w Hk.out Hc.out).mono ?_
  rintro e w1 ⟨rfl, hb1⟩
  have Hb1 := Lib.hid hb1
  clear hb1
  by_cases h1 : 200 < l.length
  · go_wp2
    go_ret
    exact ⟨rfl, Hb1.out⟩
  have i1 : (l.length : Int) ≤ 200 := by omega
  go_wp2_with fail
  have hcall := balances_any l A c w1 ((Hl.out.below Hb1.out).more Hb1.out.size) Hok.out (by omega)
  refine hcall.mono ?_
  clear hcall
  rintro e w2 ⟨A2, c2, rfl, hb2, hr2⟩
  have Hb2 := Lib.hid (below_onF Hb1.out hb2 Hb1.out.size)
  have Hr2 := Lib.hid hr2
  clear hb2 hr2
  go_wp2_with fail
  have hcall := refBalances_any l A c w2 ((Hl.out.below Hb2.out).more Hb2.out.size) Hok.out (by omega)
  refine hcall.mono ?_
  clear hcall
  rintro e w3 ⟨A3, c3, rfl, hb3, hr3⟩
  have Hb3 := Lib.hid (below_onF Hb2.out hb3 Hb2.out.size)
  have Hr2 := Lib.hid ((Hr2.out.below hb3).more hb3.size)
  have Hr3 := Lib.hid hr3
  clear hb3 hr3
  go_wp2_with fail
  have hcall := monthly_any l A c m w3 ((Hl.out.below Hb3.out).more Hb3.out.size) Hok.out (by omega)
  refine hcall.mono ?_
  clear hcall
  rintro e w4 ⟨A4, c4, rfl, hb4, hr4⟩
  have Hb4 := Lib.hid (below_onF Hb3.out hb4 Hb3.out.size)
  have Hr2 := Lib.hid ((Hr2.out.below hb4).more hb4.size)
  have Hr3 := Lib.hid ((Hr3.out.below hb4).more hb4.size)
  have Hr4 := Lib.hid hr4
  clear hb4 hr4
  go_wp2_with fail
  have hcall := refMonthly_any l A c m w4 ((Hl.out.below Hb4.out).more Hb4.out.size) Hok.out (by omega)
  refine hcall.mono ?_
  clear hcall
  rintro e w5 ⟨A5, c5, rfl, hb5, hr5⟩
  have Hb5 := Lib.hid (below_onF Hb4.out hb5 Hb4.out.size)
  have Hr2 := Lib.hid ((Hr2.out.below hb5).more hb5.size)
  have Hr3 := Lib.hid ((Hr3.out.below hb5).more hb5.size)
  have Hr4 := Lib.hid ((Hr4.out.below hb5).more hb5.size)
  have Hr5 := Lib.hid hr5
  clear hb5 hr5
  have hx1 : (balF (l.map Ln.d)).1.length ≤ 4611686018427387904 := by
    by_cases h : (balF (l.map Ln.d)).2 = 0
    · rw [balF_len h]; decide
    · rw [balF_bad h]; decide
  have hx2 : (balF ((l.filter (monP m)).map Ln.d)).1.length ≤ 4611686018427387904 := by
    by_cases h : (balF ((l.filter (monP m)).map Ln.d)).2 = 0
    · rw [balF_len h]; decide
    · rw [balF_bad h]; decide
  have X1 := Lib.hid hx1
  have X2 := Lib.hid hx2
  clear hx1 hx2
  generalize balF (l.map Ln.d) = B1 at Hr2 Hr3 X1 ⊢
  generalize balF ((l.filter (monP m)).map Ln.d) = B2 at Hr4 Hr5 X2 ⊢
  obtain ⟨L1, n1⟩ := B1
  obtain ⟨L2, n2⟩ := B2
  simp only at Hr2 Hr3 Hr4 Hr5 X1 X2 ⊢
  go_wp2_with fail
  have hcall := sameInts_any A2 A3 L1 L1 c2 c3 w5 Hr2.out Hr3.out X1.out
  rw [decide_eq_true (rfl : L1 = L1)] at hcall
  refine hcall.mono ?_
  clear hcall
  rintro e w6 ⟨rfl, hb6⟩
  have Hb6 := Lib.hid (below_onF Hb5.out hb6 Hb5.out.size)
  have Hr4 := Lib.hid ((Hr4.out.below hb6).more hb6.size)
  have Hr5 := Lib.hid ((Hr5.out.below hb6).more hb6.size)
  clear hb6
  go_wp2_with fail
  have hcall := sameInts_any A4 A5 L2 L2 c4 c5 w6 Hr4.out Hr5.out X2.out
  rw [decide_eq_true (rfl : L2 = L2)] at hcall
  refine hcall.mono ?_
  clear hcall
  rintro e w7 ⟨rfl, hb7⟩
  have Hb7 := Lib.hid (below_onF Hb6.out hb7 Hb6.out.size)
  clear hb7
  go_wp2_with fail
  have hcall := bill_any l A c a m w7 ((Hl.out.below Hb7.out).more Hb7.out.size) Hok.out (by omega)
  refine hcall.mono ?_
  clear hcall
  rintro e w8 hf
  obtain ⟨A8, c8, rfl, hr8, hb8⟩ := hf.reads (filter_ok Hok.out)
  have Hb8 := Lib.hid (below_onF Hb7.out hb8 Hb7.out.size)
  have Hr8 := Lib.hid hr8
  clear hf hr8 hb8
  go_wp2_with fail
  have hcall := refBill_any l A c a m w8 ((Hl.out.below Hb8.out).more Hb8.out.size) Hok.out (by omega)
  refine hcall.mono ?_
  clear hcall
  rintro e w9 ⟨A9, c9, rfl, hr9, hb9⟩
  have Hb9 := Lib.hid (below_onF Hb8.out hb9 Hb8.out.size)
  have Hr8 := Lib.hid ((Hr8.out.below hb9).more hb9.size)
  have Hr9 := Lib.hid hr9
  clear hr9 hb9
  go_wp2_with fail
  have hcall := same14_any A8 A9 _ c8 c9 w9 Hr8.out Hr9.out (filter_ok Hok.out) (fun x hx => Htp.out x (List.mem_filter.1 hx).1) (by have := List.length_filter_le (billP a m) l; omega)
  refine hcall.mono ?_
  clear hcall
  rintro e w10 ⟨rfl, q, rfl⟩
  have Hb10 := Lib.hid (Below.drewsN Hb9.out q)
  go_wp2
  go_ret
  exact ⟨rfl, Hb10.out⟩
end Go.Proofs.YtcdfjnnkocmeeaaGreatDoor
