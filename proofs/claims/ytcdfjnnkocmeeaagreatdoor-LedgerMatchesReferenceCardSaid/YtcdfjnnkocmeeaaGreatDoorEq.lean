/-
  A line is equal to itself in the model: every cell of it is a number of its type.
  Conditions: as each theorem states them.
-/
import Derived.Test.YtcdfjnnkocmeeaaGreatDoorAd
import Derived.DeepKeys
namespace Go.Proofs.YtcdfjnnkocmeeaaGreatDoor
open Go.RowKit Go.Lib

/-- A line whose every cell is a number. -/
def Ln.tp (x : Ln) : Prop := (∀ n ∈ x.d.nums, (Lit.int .i64 n).wf = true) ∧ ∃ (c e n : Int) (bs : List Int), x.rest = .int .i64 c :: .int .i64 e :: .int .i64 n :: y8 bs ∧ bs.length = 32 ∧ (Lit.int .i64 c).wf = true ∧ (Lit.int .i64 e).wf = true ∧ (Lit.int .i64 n).wf = true ∧ ∀ b ∈ bs, (Lit.int .u8 b).wf = true

theorem mapM_ex {α β : Type} {f : α → Option β} : ∀ is : List α, (∀ i ∈ is, ∃ y, f i = some y) → ∃ ys, is.mapM f = some ys
  | [], _ => ⟨[], rfl⟩
  | i :: is, h => by
    obtain ⟨y, hy⟩ := h i (List.mem_cons_self ..)
    obtain ⟨ys, hys⟩ := mapM_ex is fun j hj => h j (List.mem_cons_of_mem _ hj)
    exact ⟨y :: ys, by rw [List.mapM_cons]; simp [hy, hys]⟩
theorem lits_int (D : Nat) {n : Int} (h : (Lit.int .i64 n).wf = true) : ∃ la, Tryz.prog.keyLits (D + 1) 3 [.int .i64 n] = some la := by
  unfold Program.keyLits
  exact ⟨[.int .i64 n], by simp [Tryz.underlying3, h]⟩
theorem lits_err (D : Nat) {n : Int} (h : (Lit.int .i64 n).wf = true) : ∃ la, Tryz.prog.keyLits (D + 1) 25 [.int .i64 n] = some la := by
  unfold Program.keyLits
  exact ⟨[.int .i64 n], by simp [Tryz.underlying25, h]⟩
theorem lits_u8 (D : Nat) {n : Int} (h : (Lit.int .u8 n).wf = true) : ∃ la, Tryz.prog.keyLits (D + 1) 5 [.int .u8 n] = some la := by
  unfold Program.keyLits
  exact ⟨[.int .u8 n], by simp [Tryz.underlying5, h]⟩
theorem lits40 (D : Nat) {bs : List Int} (hl : bs.length = 32) (h : ∀ b ∈ bs, (Lit.int .u8 b).wf = true) : ∃ la, Tryz.prog.keyLits (D + 2) 40 (y8 bs) = some la := by
  have c40 : Tryz.prog.cellsOf 40 = 32 := by kernel_rfl
  have c5 : Tryz.prog.cellsOf 5 = 1 := by kernel_rfl
  obtain ⟨ys, hys⟩ := mapM_ex (f := fun i => Tryz.prog.keyLits (D + 1) 5 (((y8 bs).drop (i * 1)).take 1)) (List.range 32) fun i hi => by
    have hi' : i < bs.length := by rw [hl]; exact List.mem_range.1 hi
    have e : ((y8 bs).drop (i * 1)).take 1 = [.int .u8 bs[i]] := by
      rw [Nat.mul_one, List.drop_eq_getElem_cons (by simpa [y8] using hi')]
      simp [y8]
    rw [e]
    exact lits_u8 D (h _ (List.getElem_mem _))
  refine ⟨ys.flatten, ?_⟩
  unfold Program.keyLits
  simp only [Tryz.underlying40, c40, c5]
  rw [if_pos (by simp [y8, hl]), hys]
  rfl
theorem struct_ex {P : Program} {D : Nat} {t : TypeId} {fs : Array Field} {cs : List Value} (hu : P.underlying t = some (.struct fs)) (hl : cs.length = P.cellsOf t) (hb : fs.all (·.name != "_") = true)
    (h : ∀ f ∈ fs.toList, ∃ y, P.keyLits D f.type ((cs.drop f.offset).take (P.cellsOf f.type)) = some y) : ∃ la, P.keyLits (D + 1) t cs = some la := by
  obtain ⟨ys, hys⟩ := mapM_ex _ h
  refine ⟨ys.flatten, ?_⟩
  unfold Program.keyLits
  simp only [hu]
  rw [if_pos ⟨hl, hb⟩, hys]
  rfl
theorem lits36 (D : Nat) {a b : Int} (ha : (Lit.int .i64 a).wf = true) (hb : (Lit.int .i64 b).wf = true) : ∃ la, Tryz.prog.keyLits (D + 2) 36 [.int .i64 a, .int .i64 b] = some la := by
  refine struct_ex Tryz.underlying36 (by kernel_rfl) (by kernel_rfl) ?_
  intro f hf
  simp at hf
  have c3 : Tryz.prog.cellsOf 3 = 1 := by kernel_rfl
  rcases hf with rfl | rfl
  · simp [c3]; exact lits_int D ha
  · simp [c3]; exact lits_int D hb
theorem lits38 (D : Nat) {a b c d e : Int} (ha : (Lit.int .i64 a).wf = true) (hb : (Lit.int .i64 b).wf = true) (hc : (Lit.int .i64 c).wf = true) (hd : (Lit.int .i64 d).wf = true) (he : (Lit.int .i64 e).wf = true) : ∃ la, Tryz.prog.keyLits (D + 3) 38 [.int .i64 a, .int .i64 b, .int .i64 c, .int .i64 d, .int .i64 e] = some la := by
  refine struct_ex Tryz.underlying38 (by kernel_rfl) (by kernel_rfl) ?_
  intro f hf
  simp at hf
  have c3 : Tryz.prog.cellsOf 3 = 1 := by kernel_rfl
  have c36 : Tryz.prog.cellsOf 36 = 2 := by kernel_rfl
  rcases hf with rfl | rfl | rfl | rfl
  · simp [c3]; exact lits_int (D + 1) ha
  · simp [c3]; exact lits_int (D + 1) hb
  · simp [c36]; exact lits36 D hc hd
  · simp [c3]; exact lits_int (D + 1) he
theorem lits42 (D : Nat) {n : Int} {bs : List Int} (hn : (Lit.int .i64 n).wf = true) (hl : bs.length = 32) (h : ∀ b ∈ bs, (Lit.int .u8 b).wf = true) : ∃ la, Tryz.prog.keyLits (D + 3) 42 (.int .i64 n :: y8 bs) = some la := by
  have c42 : Tryz.prog.cellsOf 42 = 33 := by kernel_rfl
  have c3 : Tryz.prog.cellsOf 3 = 1 := by kernel_rfl
  have c40 : Tryz.prog.cellsOf 40 = 32 := by kernel_rfl
  refine struct_ex Tryz.underlying42 (by rw [c42]; simp [y8, hl]) (by kernel_rfl) ?_
  intro f hf
  simp at hf
  rcases hf with rfl | rfl
  · simp [c3]; exact lits_int (D + 1) hn
  · simp only [List.drop_succ_cons, List.drop_zero, c40]
    rw [List.take_of_length_le (by simp [y8, hl])]
    exact lits40 D hl h
theorem lits44 (D : Nat) {x : Ln} (hx : x.tp) : ∃ la, Tryz.prog.keyLits (D + 4) 44 x.cells = some la := by
  obtain ⟨hd, c, e, n, bs, hr, hl, hc, he, hn, hb⟩ := hx
  obtain ⟨⟨q0, q1, q2, q3, q4, q5, q6, q7, q8⟩, rest⟩ := x
  simp only [Dl.nums, List.mem_cons, List.not_mem_nil, or_false, forall_eq_or_imp, forall_eq] at hd
  obtain ⟨h0, h1, h2, h3, h4, h5, h6, h7, h8⟩ := hd
  simp only at hr
  subst hr
  have c44 : Tryz.prog.cellsOf 44 = 44 := by kernel_rfl
  have c38 : Tryz.prog.cellsOf 38 = 5 := by kernel_rfl
  have c42 : Tryz.prog.cellsOf 42 = 33 := by kernel_rfl
  have c25 : Tryz.prog.cellsOf 25 = 1 := by kernel_rfl
  have c3 : Tryz.prog.cellsOf 3 = 1 := by kernel_rfl
  refine struct_ex Tryz.underlying44 (by rw [c44]; simp [Ln.cells, Dl.cells, y8, hl]) (by kernel_rfl) ?_
  intro f hf
  simp at hf
  simp only [Ln.cells, Dl.cells, List.cons_append, List.nil_append]
  rcases hf with rfl | rfl | rfl | rfl | rfl | rfl | rfl | rfl
  · simp [c38]; exact lits38 D h0 h1 h2 h3 h4
  · simp [c3]; exact lits_int (D + 2) h5
  · simp [c3]; exact lits_int (D + 2) h6
  · simp [c3]; exact lits_int (D + 2) h7
  · simp [c3]; exact lits_int (D + 2) h8
  · simp [c3]; exact lits_int (D + 2) hc
  · simp [c25]; exact lits_err (D + 2) he
  · simp only [List.drop_succ_cons, List.drop_zero, c42]
    rw [List.take_of_length_le (by simp [y8, hl])]
    exact lits42 D hn hl hb
/-- A typed line is equal to itself. -/
theorem eq44_refl {x : Ln} (hx : x.tp) (w : World) : (Op.equalIn 10000 44 (.agg x.cells.toArray) (.agg x.cells.toArray)).run Tryz.prog w = .ok true w := by
  obtain ⟨la, hla⟩ := lits44 0 hx
  have hlen : x.cells.length = 44 := by
    obtain ⟨_, c, e, n, bs, hr, hl, _⟩ := hx
    simp [Ln.cells, Dl.cells, hr, y8, hl]
  have c44 : Tryz.prog.cellsOf 44 = 44 := by kernel_rfl
  have hf : (Value.agg x.cells.toArray).formed Tryz.prog 44 = true := by simp [Value.formed, Tryz.underlying44, c44, hlen]
  obtain ⟨r, h1, h2⟩ := run_equalIn_deep (P := Tryz.prog) 9995 5 44 (by kernel_rfl) w _ _ (.agg x.cells.toArray) (.agg x.cells.toArray) la la hf hf (by simpa [Value.cells] using hla) (by simpa [Value.cells] using hla)
  rw [h1, h2.2 rfl]
end Go.Proofs.YtcdfjnnkocmeeaaGreatDoor
