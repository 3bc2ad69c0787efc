/-
  What diff.rounds returns, for whatever improvement closure that meets a contract of its own.
  Conditions: as each theorem states them.
-/
import Derived.Test.YtaonicdpeflbbaaProg
import Derived.Test.YtaonicdpeflbbaaRuns
namespace Go.Proofs.Ytaonicdpeflbbaa
open Go.RowKit

set_option maxHeartbeats 400000 in
theorem rounds_any {St : Type} (stp : Nat → Bd → St → St × Bool) (I : St → World → Prop) (f : FuncId) (caps : Array Value) (n : Nat) (A : Option Addr) (l : List Bd) (cap : Nat) (B : Nat)
    (hn : n ≤ 512) (hl : l.length ≤ 4096) (hR : ∀ s w, I s w → RdB w B A l) (hA : ∀ s w o, I s w → I s (w.alloc o))
    (hstep : ∀ s w (k : Nat) x, l[k]? = some x → I s w → Calls Try.prog f (#[.int .i64 k, .agg #[.int .i64 x.i, .int .i64 x.j, .int .i64 x.w]] ++ caps) w fun e w' => e = .returned (.bool (stp k x s).2) ∧ I (stp k x s).1 w')
    (hcf : ∀ (args : Array Value) (w : World), Sem.run Try.prog (callFunc f args) w = .ok (.enter f args) w)
    (s0 : St) (w : World) (h : I s0 w) :
    Calls Try.prog 28 #[.int .i64 n, .slice A l.length cap, .func (.func f) #[] caps] w fun e w' => e = .returned (.int .i64 (runs stp l n s0 (-1)).2) ∧ I (runs stp l n s0 (-1)).1 w' := by
  have HR := Lib.hid hR
  have HA := Lib.hid hA
  have HS := Lib.hid hstep
  clear hR hA hstep
  go_enter Try.func28, Try.ntmps28
  go_wp2
  go_step3
  go_wp2
  go_step3
  go_wp2
  go_loopw [7, 8, 9, 11] (fun la _ _ i wr => ∃ k : Nat, ∃ s : St, ∃ last : Int, k ≤ n ∧ i = .int .i64 k ∧ la = .int .i64 last ∧ Hid (runs stp l (n - k) s last = runs stp l n s0 (-1)) ∧ I s wr)
    (fun _ _ _ i _ => n - (intOf i).toNat)
  case atStart => exact ⟨0, s0, -1, Nat.zero_le _, rfl, rfl, rfl, h⟩
  case round =>
    obtain ⟨k, s, last, hk, rfl, rfl, hruns, hI⟩ := hrel
    by_cases hlt : k < n
    · go_wp2
      obtain ⟨wo, rfl⟩ : ∃ wo : World, wo = wr := ⟨_, rfl⟩
      obtain ⟨sp, hsp⟩ : ∃ p, p = sweep stp l 0 s (-1) := ⟨_, rfl⟩
      have Hsp := Lib.hid hsp
      clear hsp
      go_loopw [7, 8, 9, 15] (fun la _ _ i wr => ∃ j : Nat, ∃ t : St, ∃ lst : Int, j ≤ l.length ∧ i = .int .i64 j ∧ la = .int .i64 lst ∧ Hid (sweep stp (l.drop j) j t lst = sp) ∧ I t wr)
        (fun _ _ _ i _ => l.length - (intOf i).toNat)
      case atStart => exact ⟨0, s, -1, Nat.zero_le _, rfl, rfl, Hsp.out.symm, hI⟩
      case round =>
        obtain ⟨j, t, lst, hj, rfl, rfl, hsw, hJ⟩ := hrel
        by_cases hjl : j < l.length
        · obtain ⟨x, hx⟩ : ∃ x, l[j]? = some x := ⟨_, List.getElem?_eq_getElem hjl⟩
          obtain ⟨b, off, rfl, hbw, c0, c1, c2⟩ := HR.out t wr hJ j x hx
          have Hx := Lib.hid hx
          clear hx
          go_wp2_with fail
          refine (HS.out t _ j x Hx.out (HA.out t _ _ hJ)).mono ?_
          rintro e w1 ⟨rfl, hI1⟩
          cases hbb : (stp j x t).2
          all_goals
            have Hbb := Lib.hid hbb
            clear hbb
            go_wp2
            go_roundw
            case rel => exact ⟨j + 1, (stp j x t).1, _, by omega, by go_num, rfl, by rw [← hsw.out, sweep_drop stp Hx.out, Hbb.out]; rfl, hI1⟩
            case measure => simp [intOf]; omega
        · have he : sweep stp (l.drop j) j t lst = (t, lst) := sweep_end stp (by omega) t lst
          have hsp : sweep stp l 0 s (-1) = (t, lst) := by rw [← Hsp.out, ← hsw.out, he]
          by_cases hlst : lst < 0
          · have hr : runs stp l n s0 (-1) = (t, lst) := by
              rw [← hruns.out, show n - k = (n - k - 1) + 1 from by omega, runs_stop stp hsp hlst]
            have Hr := Lib.hid hr
            clear hr he hsp
            go_wp2
            rw [Exit.noGoto_ret]
            go_ret
            rw [Hr.out]
            exact ⟨rfl, hJ⟩
          · have hr : runs stp l (n - (k + 1)) t lst = runs stp l n s0 (-1) := by
              rw [← hruns.out, show n - k = (n - (k + 1)) + 1 from by omega, runs_on stp hsp hlst]
            have Hr := Lib.hid hr
            clear hr he hsp
            go_wp2
            go_roundw
            case rel => exact ⟨k + 1, t, lst, by omega, by go_num, rfl, Hr.out, hJ⟩
            case measure => simp [intOf]; omega
    · have hr : runs stp l n s0 (-1) = (s, last) := by
        rw [← hruns.out, show n - k = 0 from by omega, runs]
      have Hr := Lib.hid hr
      clear hr
      go_wp2
      rw [Exit.noGoto_ret]
      go_ret
      rw [Hr.out]
      exact ⟨rfl, hI⟩

end Go.Proofs.Ytaonicdpeflbbaa
