/-
  calendar.Month at minute 44640; editions of no reports; derive.Charge of no reports.
  Conditions: as each theorem states them.
-/
import Derived.Test.YtcdfjnnkocmeeaaGreatDoorCal
import Derived.WalkMore
namespace Go.Proofs.YtcdfjnnkocmeeaaGreatDoor
open Go.RowKit Go.Lib

theorem month_any (w : World) (hc : CB w) : Calls Tryz.prog 37 #[.int .i64 44640] w fun e w' => e = .returned (.tuple #[.int .i64 1, .int .i64 0]) ∧ Below w.heap.size w w' := by
  have Hc := Lib.hid hc
  clear hc
  go_enter Tryz.func37, Tryz.ntmps37
  go_wp2_with fail
  refine (dateOf_any w Hc.out).mono ?_
  rintro e w1 ⟨rfl, hb⟩
  have Hb := Lib.hid hb
  clear hb
  go_wp2_with fail
  exact bodyPost_ret (by simp [results, Tryz.results37, go_sem, asAddr]) rfl ⟨rfl, Hb.out.alloc Hb.out.size _⟩

theorem valid_any (k p : Int) (w : World) (h1 : 0 ≤ k) (h2 : k < 16) (h3 : 1 ≤ p) (h4 : p ≤ 6) : Calls Tryz.prog 68 #[.int .i64 k, .int .i64 p] w fun e w' => e = .returned (.bool true) ∧ w' = w := by
  go_enter Tryz.func68, Tryz.ntmps68
  go_wp2_with fail
  exact bodyPost_ret (by simp [results, Tryz.results68, go_sem, asAddr]) rfl ⟨rfl, rfl⟩

theorem insert_nil (f : Value) (w : World) : Calls Tryz.prog 156 #[.slice none 0 0, .int .i64 0, .int .i64 0, f] w fun e w' => e = .returned (.tuple #[]) ∧ w' = w := by
  go_enter Tryz.func156, Tryz.ntmps156
  go_wp2_with go_in
  go_loop [8] (fun i => i = .int .i64 1) (fun _ => 0)
  case atStart => rfl
  case round =>
    obtain rfl := hrel
    go_wp2_with fail
    go_end0
    exact ⟨rfl, rfl⟩

theorem stable_nil (f : Value) (w : World) : Calls Tryz.prog 123 #[.slice none 0 0, .int .i64 0, f] w fun e w' => e = .returned (.tuple #[]) ∧ w' = w := by
  go_enter Tryz.func123, Tryz.ntmps123
  go_wp2_with go_in
  go_loop [7, 8] (fun a b => a = .int .i64 0 ∧ b = .int .i64 20) (fun _ _ => 0)
  case atStart => exact ⟨rfl, rfl⟩
  case round =>
    obtain ⟨rfl, rfl⟩ := hrel
    go_wp2_with fail
    refine (insert_nil f w).mono ?_
    rintro e w1 ⟨rfl, rfl⟩
    go_wp2_with fail
    go_loop [6] (fun a => a = .int .i64 20) (fun _ => 0)
    case atStart => rfl
    case round =>
      obtain rfl := hrel
      go_wp2_with fail
      go_end0
      exact ⟨rfl, rfl⟩

theorem sort_nil (f : Value) (w : World) : Calls Tryz.prog 89 #[.slice none 0 0, f] w fun e w' => e = .returned (.tuple #[]) ∧ w' = w := by
  go_enter Tryz.func89, Tryz.ntmps89
  go_wp2_with fail
  refine (stable_nil f w).mono ?_
  rintro e w1 ⟨rfl, rfl⟩
  go_wp2_with fail
  go_end0
  exact ⟨rfl, rfl⟩

set_option maxRecDepth 100000 in
theorem editions_nil (k p : Int) (w : World) : Calls Tryz.prog 69 #[.slice none 0 0, .int .i64 k, .int .i64 p] w fun e w' => e = .returned (.slice none 0 0) ∧ w' = w := by
  go_enter Tryz.func69, Tryz.ntmps69
  go_wp2_with fail
  go_loop [6, 12] (fun s i => s = .slice none 0 0 ∧ i = .int .i64 0) (fun _ _ => 0)
  case atStart => exact ⟨rfl, rfl⟩
  case round =>
    obtain ⟨rfl, rfl⟩ := hrel
    go_wp2_with fail
    refine (sort_nil _ w).mono ?_
    rintro e w1 ⟨rfl, rfl⟩
    go_wp2_with fail
    go_ret
    exact ⟨rfl, rfl⟩

set_option maxRecDepth 100000 in
theorem inforce_nil (k p a : Int) (w : World) (h1 : 0 ≤ k) (h2 : k < 16) (h3 : 1 ≤ p) (h4 : p ≤ 6) (h5 : 0 ≤ a) (h6 : a ≤ 1073741824) : Calls Tryz.prog 49 #[.slice none 0 0, .int .i64 k, .int .i64 p, .int .i64 a] w fun e w' => e = .returned (.tuple #[.agg #[.string ⟨#[]⟩, .int .i64 0, .slice none 0 0], .int .i64 220]) ∧ Below w.heap.size w w' := by
  have n1 : ¬ a < 0 := by omega
  have n2 : ¬ 1073741824 < a := by omega
  go_enter Tryz.func49, Tryz.ntmps49
  go_wp2_with fail
  go_step3
  go_wp2_with fail
  refine (valid_any _ _ _ h1 h2 h3 h4).mono ?_
  rintro e w1 ⟨rfl, rfl⟩
  go_wp2_with fail
  go_step3
  go_wp2_with fail
  refine (editions_nil _ _ _).mono ?_
  rintro e w1 ⟨rfl, rfl⟩
  go_wp2_with fail
  go_loop [11, 35] (fun f i => f = .bool false ∧ i = .int .i64 0) (fun _ _ => 0)
  case atStart => exact ⟨rfl, rfl⟩
  case round =>
    obtain ⟨rfl, rfl⟩ := hrel
    go_wp2_with fail
    have h0 := Row.new1 w (.cells #[Value.string ⟨#[]⟩, .int .i64 0, .slice none 0 0] 106) 106 #[Value.string ⟨#[]⟩, .int .i64 0, .slice none 0 0]
    have h1 : Row ((w.alloc (.cells #[Value.string ⟨#[]⟩, .int .i64 0, .slice none 0 0] 106)).alloc (.cells #[Value.string ⟨#[]⟩, .int .i64 0, .slice none 0 0] 106)) w.heap.size 106 [Value.string ⟨#[]⟩, .int .i64 0, .slice none 0 0].toArray := (Row.new w 106 #[Value.string ⟨#[]⟩, .int .i64 0, .slice none 0 0]).alloc _
    exact bodyPost_ret (results_row_tmp (ty := 106) rfl _ _ w.heap.size 106 [Value.string ⟨#[]⟩, .int .i64 0, .slice none 0 0] _ rfl h1 Tryz.underlying106 rfl (by kernel_rfl)) rfl ⟨rfl, ((Below.refl _ _).alloc (Nat.le_refl _) _).alloc (by simp) _⟩

def tar0 : Array Value := #[Value.string ⟨#[]⟩, .int .i64 0, .slice none 0 0]

theorem program_nil (k p a : Int) (w : World) (h1 : 0 ≤ k) (h2 : k < 16) (h3 : 1 ≤ p) (h4 : p ≤ 6) (h5 : 0 ≤ a) (h6 : a ≤ 1073741824) : Calls Tryz.prog 42 #[.slice none 0 0, .int .i64 k, .int .i64 p, .int .i64 a] w fun e w' => e = .returned (.tuple #[.slice none 0 0, .int .i64 220]) ∧ Below w.heap.size w w' := by
  go_enter Tryz.func42, Tryz.ntmps42
  go_wp2_with fail
  refine (inforce_nil k p a w h1 h2 h3 h4 h5 h6).mono ?_
  rintro e w1 ⟨rfl, hb⟩
  have Hb := Lib.hid hb
  clear hb
  go_wp2_with fail
  go_ret2
  exact ⟨rfl, Hb.out.alloc Hb.out.size _⟩

end Go.Proofs.YtcdfjnnkocmeeaaGreatDoor
