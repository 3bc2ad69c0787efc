/-
  money.Add of two numbers; ref31.Same of two lists of lines; the law's own small functions.
  Conditions: as each theorem states them.
-/
import Derived.Test.YtcdfjnnkocmeeaaGreatDoorMo
import Derived.Test.YtcdfjnnkocmeeaaGreatDoorBd
namespace Go.Proofs.YtcdfjnnkocmeeaaGreatDoor
open Go.RowKit Go.Lib

theorem inL_any (l : List Int) (A : Option Addr) (c : Nat) (w : World) (h : RdI w w.heap.size A l) (hn : l.length ≤ 4611686018427387904) :
    Calls Tryz.prog 33 #[.slice A l.length c] w fun e w' => e = .returned (.bool (l.all inR)) ∧ w' = w := by
  have H := Lib.hid h
  clear h
  go_enter Tryz.func33, Tryz.ntmps33
  go_wp2
  go_loopw [7] (fun i wr => ∃ k : Nat, k ≤ l.length ∧ i = .int .i64 k ∧ Hid ((l.take k).all inR = true) ∧ wr = w)
    (fun i _ => l.length - (intOf i).toNat)
  case atStart => exact ⟨0, Nat.zero_le _, rfl, Lib.hid (by simp), rfl⟩
  case round =>
    obtain ⟨k, hk, rfl, hok, rfl⟩ := hrel
    by_cases hlt : k < l.length
    · obtain ⟨x, hx⟩ : ∃ x, l[k]? = some x := ⟨_, List.getElem?_eq_getElem hlt⟩
      obtain ⟨b, off, rfl, hbw, c0⟩ := H.out k x hx
      have Hx := Lib.hid hx
      have i0 : (0 : Int) ≤ (k : Int) := by omega
      have i1 : (k : Int) < (l.length : Int) := by omega
      clear hx
      by_cases ha : inR x = true
      · have hi := inR_un ha
        have Ha := Lib.hid ha
        clear ha
        go_wp2
        go_roundw
        case rel => 
          refine ⟨k + 1, by omega, by go_num, Lib.hid ?_, trivial⟩
          obtain ⟨hk', e⟩ := List.getElem?_eq_some_iff.1 Hx.out
          rw [List.take_add_one, Hx.out, List.all_append, hok.out]
          simp [Ha.out]
        case measure => simp [intOf]; omega
      · have hi := inR_not ha
        have Hf : Hid (l.all inR = false) := Lib.hid (all_false_at Hx.out (by simpa using ha))
        clear ha
        go_wp2
        all_goals (go_ret; exact ⟨ret_bool Hf.out.symm, rfl⟩)
    · obtain rfl : k = l.length := by omega
      rw [List.take_length] at hok
      go_wp2
      go_ret
      exact ⟨ret_bool hok.out.symm, rfl⟩

def addF (a b : Int) : Array Value := okPair (inR a && inR b && inR (a + b)) (a + b)
set_option maxRecDepth 100000 in
theorem add_any (a b : Int) (w : World) (h1 : -9007199254740992 ≤ a ∧ a ≤ 9007199254740992) (h2 : -9007199254740992 ≤ b ∧ b ≤ 9007199254740992) : Calls Tryz.prog 17 #[.int .i64 a, .int .i64 b] w fun e w' => e = .returned (.tuple (okPair (inR (a + b)) (a + b))) ∧ Below w.heap.size w w' := by
  have ha : inR a = true := inR_yes h1
  have hb : inR b = true := inR_yes h2
  have Ha := Lib.hid ha
  have Hb := Lib.hid hb
  clear ha hb
  have hr : RdI (w.alloc (.cells #[.int .i64 a, .int .i64 b] 3)) (w.alloc (.cells #[.int .i64 a, .int .i64 b] 3)).heap.size (some ⟨w.heap.size, 0, none⟩) [a, b] := by
    intro k x hx
    have hr := Row.new w 3 #[Value.int .i64 a, .int .i64 b]
    rcases k with _ | _ | k
    · simp at hx; subst hx; exact ⟨_, _, rfl, by simp, hr.cell 0⟩
    · simp at hx; subst hx; exact ⟨_, _, rfl, by simp, hr.cell 1⟩
    · simp at hx
  have Hr := Lib.hid hr
  clear hr
  go_enter Tryz.func17, Tryz.ntmps17
  go_wp2_with fail
  refine (inL_any [a, b] _ 2 _ Hr.out (by simp)).mono ?_
  rintro e w1 ⟨rfl, rfl⟩
  rw [show ([a, b].all inR) = true by simp [Ha.out, Hb.out]]
  have w0 : IntKind.i64.wrap (a + b) = a + b := by rw [IntWalk.i64_left]; unfold wrap64; omega
  go_wp2_with fail
  refine (ranged_any (a + b) _).mono ?_
  rintro e w2 ⟨rfl, hb2⟩
  have hb1 : Below w.heap.size w w2 := below_onF ((Below.refl w.heap.size w).alloc (Nat.le_refl _) _) hb2 (by simp)
  have Hb1 := Lib.hid hb1
  clear hb2 hb1
  by_cases hs : inR (a + b) = true
  · rw [okPair_yes hs]
    have Hs := Lib.hid hs
    clear hs
    go_wp2_with fail
    go_ret2
    exact ⟨by rw [okPair_yes Hs.out]; rfl, Hb1.out⟩
  · rw [okPair_no hs]
    have Hs := Lib.hid hs
    clear hs
    go_wp2_with fail
    go_ret2
    exact ⟨by rw [okPair_no Hs.out]; rfl, Hb1.out⟩

def lineRest : List Value := List.replicate 3 (.int .i64 0) ++ List.replicate 32 (.int .u8 0)
def lineL (m p q a : Int) : Ln := ⟨⟨0, 0, 0, 0, 0, p, q, m, a⟩, lineRest⟩
theorem build_line (m p q a : Int) (w : World) : (Instr.build 44 #[(1, .int .i64 p), (2, .int .i64 q), (3, .int .i64 m), (4, .int .i64 a)]).run Tryz.prog w = .ok (.agg (lineL m p q a).cells.toArray) w := by kernel_rfl
theorem lineL_one (m p q a : Int) : ∀ v ∈ (lineL m p q a).cells, v.oneCell' = true := by
  intro v hv
  rcases List.mem_append.1 hv with h | h
  · exact Dl.cells_one _ v h
  · simp only [lineL, lineRest, List.mem_append, List.mem_replicate] at h
    rcases h with ⟨_, rfl⟩ | ⟨_, rfl⟩ <;> rfl
theorem lineL_size (m p q a : Int) : (Tryz.prog.info? 44).map (·.size) = some (lineL m p q a).cells.length := Tryz.size44
set_option maxRecDepth 100000 in
theorem line_any (m p q a : Int) (w : World) : Calls Tryz.prog 21 #[.int .i64 m, .int .i64 p, .int .i64 q, .int .i64 a] w fun e w' => e = .returned (.agg (lineL m p q a).cells.toArray) ∧ Below w.heap.size w w' := by
  go_enter Tryz.func21, Tryz.ntmps21
  go_wp2_with (first
    | (show wpList _ _ _ (⟨some 13, Op.build 44 _, _, _, _, _⟩ :: _) _ _; refine wpList_build4 rfl 44 1 2 3 4 _ _ _ _ rfl _ _ _ _ rfl rfl rfl rfl (build_line m p q a _) ?_)
    | (show wpList _ _ _ (⟨none, Op.store 44 _ _, _, _, _, _⟩ :: _) _ _; refine wpList_store_fresh rfl 44 _ _ rfl (lineL m p q a).cells rfl rfl rfl (lineL_size m p q a) (lineL_one m p q a) ?_))
  refine bodyPost_ret (results_cell_row rfl _ _ w.heap.size 44 (lineL m p q a).cells.toArray (0, 0) _ rfl (Row.new w 44 _) Tryz.underlying44 rfl (lineL_size m p q a)) rfl ⟨rfl, ?_⟩
  exact (Below.refl _ _).alloc (Nat.le_refl _) _
end Go.Proofs.YtcdfjnnkocmeeaaGreatDoor
