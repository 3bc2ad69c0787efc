/-
  A pool that is an argument: its wagons' slice, and how long it can be.
-/
import Derived.Test.YtoiipfcmkogcfaaArp
namespace Go.Proofs.Ytoiipfcmkogcfaa
open Go.RowKit Go.ChangeShapes Go.WideShapes Go.Deep

theorem sized_agg {H : Type} {P : Program} {ts : List TypeId} {ds : List (DataW H)} (h : (DataW.weightsEach P ts ds).all (· ≤ reachBytes) = true) {j : Nat} {t : TypeId} {fs : Array Field} {parts : List (DataW H)} (ht : ts[j]? = some t) (hd : ds[j]? = some (.agg parts))
    (hu : P.underlying t = some (.struct fs)) : (DataW.weightsEach P (fs.toList.map (·.type)) parts).all (· ≤ reachBytes) = true := by
  rw [List.all_eq_true]
  intro n hn
  exact List.all_eq_true.1 h _ (DataW.weights_mem_each ht hd n (by simp [DataW.weights, hu]; exact hn))

section
variable {H : Type} {enc : TypeId × Value → H} {w : World} {base : Nat} {spare : Nat → Bool} {held : Bool} {fuel : Nat}
theorem open_pool {cs : List Value} {d : DataW H} {p : List MemPlace} (h : DataW.trod enc Try.prog w base spare held fuel 47 cs = some (d, p)) {ts : List TypeId} {ds : List (DataW H)} (hsz : (DataW.weightsEach Try.prog ts ds).all (· ≤ reachBytes) = true) (ht : ts[0]? = some 47) (hd : ds[0]? = some d) :
    ∃ WA nw wc, cs[3]? = some (.slice WA nw wc) ∧ nw ≤ 3518437208780 := by
  have cF : Try.prog.cellsOf 42 = 4 := by kernel_rfl
  have cW : Try.prog.cellsOf 38 = 1 := by kernel_rfl
  obtain ⟨ys, n', _, hx, hlen, hys, hf⟩ := DataW.trod_struct Try.underlying47 h
  obtain ⟨y1, hy1⟩ : ∃ y, ys[1]? = some y := ⟨_, List.getElem?_eq_getElem (by rw [show ys.length = 5 from hys]; omega)⟩
  have f1 : DataW.trod enc Try.prog w base spare held n' 42 ((cs.drop 2).take (Try.prog.cellsOf 42)) = ys[1]? := hf 1 _ rfl
  rw [cF, hy1] at f1
  obtain ⟨zs, n2, _, hx2, hlen2, hzs, hg⟩ := DataW.trod_struct Try.underlying42 f1
  obtain ⟨z1, hz1⟩ : ∃ z, zs[1]? = some z := ⟨_, List.getElem?_eq_getElem (by rw [show zs.length = 4 from hzs]; omega)⟩
  have g1 : DataW.trod enc Try.prog w base spare held n2 38 ((((cs.drop 2).take 4).drop 1).take (Try.prog.cellsOf 38)) = zs[1]? := hg 1 _ rfl
  rw [cW, hz1] at g1
  obtain ⟨a, len, cap, hc⟩ := slice_cell Try.underlying38 g1
  refine ⟨a, len, cap, by have := atS (at1 hc); exact this, ?_⟩
  rw [hc] at g1
  have hd0 : d = .agg (ys.map (·.1)) := by injection hx
  have hs1 := sized_agg hsz ht (hd.trans (congrArg some hd0)) Try.underlying47
  have hd1 : (ys.map (·.1))[1]? = some (.agg (zs.map (·.1))) := by
    rw [List.getElem?_map, hy1, hx2]
    rfl
  have hs2 := sized_agg (j := 1) hs1 rfl hd1 Try.underlying42
  rcases open_len Try.underlying38 g1 with h0 | ⟨el, re, hde, hel⟩
  · omega
  · have hd2 : (zs.map (·.1))[1]? = some (.slice el re) := by
      rw [List.getElem?_map, hz1]
      simp [hde]
    have := sized_slice (j := 1) hs2 rfl hd2 Try.underlying38
    rw [show Try.prog.bytesOf 172 = 40 by kernel_rfl] at this
    simp only [reachBytes] at this
    omega
end
end Go.Proofs.Ytoiipfcmkogcfaa
