/-
  The bytes of the components name them; counting reports by their keys. No program is in sight here.
-/
import Derived.Test.YtoiipfcmkogcfaaRp
namespace Go.Proofs.Ytoiipfcmkogcfaa
open Go.RowKit

theorem byteAt_eq {n m : Int} {i : Nat} (h : byteAt n i = byteAt m i) : n / 2 ^ (8 * i) % 256 = m / 2 ^ (8 * i) % 256 := by
  have h1 := byteV_at n i
  rw [h, byteV_at] at h1
  injection h1 with _ h1
  exact h1.symm
theorem wf_range {n : Int} (h : (Lit.int .i64 n).wf = true) : -9223372036854775808 ≤ n ∧ n ≤ 9223372036854775807 := by
  simpa [Lit.wf, IntKind.min, IntKind.max, IntKind.signed, IntKind.bits] using h
theorem bytes8_inj {n m : Int} (hn : (Lit.int .i64 n).wf = true) (hm : (Lit.int .i64 m).wf = true) (h : bytes8 n = bytes8 m) : n = m := by
  have hn := wf_range hn
  have hm := wf_range hm
  have e : ∀ i, i < 8 → n / 2 ^ (8 * i) % 256 = m / 2 ^ (8 * i) % 256 := by
    intro i hi
    apply byteAt_eq
    have h1 : (bytes8 n)[i]? = (bytes8 m)[i]? := by rw [h]
    simpa [bytes8, hi] using h1
  have e0 : n % 256 = m % 256 := by have := e 0 (by omega); simpa using this
  have e1 : n / 256 % 256 = m / 256 % 256 := e 1 (by omega)
  have e2 : n / 65536 % 256 = m / 65536 % 256 := e 2 (by omega)
  have e3 : n / 16777216 % 256 = m / 16777216 % 256 := e 3 (by omega)
  have e4 : n / 4294967296 % 256 = m / 4294967296 % 256 := e 4 (by omega)
  have e5 : n / 1099511627776 % 256 = m / 1099511627776 % 256 := e 5 (by omega)
  have e6 : n / 281474976710656 % 256 = m / 281474976710656 % 256 := e 6 (by omega)
  have e7 : n / 72057594037927936 % 256 = m / 72057594037927936 % 256 := e 7 (by omega)
  have q7 : n / 72057594037927936 = m / 72057594037927936 := by omega
  have q6 : n / 281474976710656 = m / 281474976710656 := by omega
  clear e6 e7
  have q5 : n / 1099511627776 = m / 1099511627776 := by omega
  clear e5 q7
  have q4 : n / 4294967296 = m / 4294967296 := by omega
  clear e4 q6
  have q3 : n / 16777216 = m / 16777216 := by omega
  clear e3 q5
  have q2 : n / 65536 = m / 65536 := by omega
  clear e2 q4
  have q1 : n / 256 = m / 256 := by omega
  clear q2 q3 e1
  omega
theorem Pt.bytes_inj {p q : Pt} (hp : p.ok) (hq : q.ok) (h : p.bytes = q.bytes) : p = q := by
  unfold Pt.bytes at h
  have h1 := List.append_inj h (by simp [bytes8_len])
  have h2 := List.append_inj h1.1 (by simp [bytes8_len])
  have e1 := bytes8_inj hp.1 hq.1 h2.1
  have e2 := bytes8_inj hp.2 hq.2 h2.2
  have e3 := h1.2
  obtain ⟨k, s, f⟩ := p
  obtain ⟨k', s', f'⟩ := q
  simp only at e1 e2 e3
  subst e1 e2
  have : f = f' := by cases f <;> cases f' <;> simp_all
  rw [this]
theorem ptsB_inj : ∀ {l l' : List Pt}, (∀ p ∈ l, p.ok) → (∀ p ∈ l', p.ok) → ptsB l = ptsB l' → l = l'
  | [], [], _, _, _ => rfl
  | [], q :: s, _, _, h => by
    have := congrArg List.length h
    rw [ptsB_len, ptsB_len] at this
    simp at this
  | p :: r, [], _, _, h => by
    have := congrArg List.length h
    rw [ptsB_len, ptsB_len] at this
    simp at this
  | p :: r, q :: s, hl, hl', h => by
    have e : p.bytes ++ ptsB r = q.bytes ++ ptsB s := h
    have h1 := List.append_inj e (by rw [Pt.bytes_len, Pt.bytes_len])
    rw [Pt.bytes_inj (hl p (List.mem_cons_self ..)) (hl' q (List.mem_cons_self ..)) h1.1,
      ptsB_inj (fun x hx => hl x (List.mem_cons_of_mem _ hx)) (fun x hx => hl' x (List.mem_cons_of_mem _ hx)) h1.2]
/-- Two reports are the same: their numbers, texts and components are. -/
def sameR (r s : Rp) : Bool := decide (r.nums = s.nums) && decide (r.tx = s.tx) && decide (r.pts.map (fun p => (p.kind, p.serial, p.fitted)) = s.pts.map (fun p => (p.kind, p.serial, p.fitted)))
theorem Pt.trip_inj {p q : Pt} (h : (p.kind, p.serial, p.fitted) = (q.kind, q.serial, q.fitted)) : p = q := by
  obtain ⟨k, s, f⟩ := p
  obtain ⟨k', s', f'⟩ := q
  simp at h
  simp [h]
theorem sameR_iff {r s : Rp} (hr : r.ok) (hs : s.ok) : sameR r s = true ↔ r.key = s.key := by
  have hinj : r.pts.map (fun p => (p.kind, p.serial, p.fitted)) = s.pts.map (fun p => (p.kind, p.serial, p.fitted)) ↔ r.pts = s.pts := by
    constructor
    · intro h
      exact (List.map_inj_right (fun p q e => Pt.trip_inj e)).1 h
    · intro h; rw [h]
  simp only [sameR, Bool.and_eq_true, decide_eq_true_eq, hinj]
  constructor
  · rintro ⟨⟨h1, h2⟩, h3⟩
    simp only [Rp.key, h1, h2, h3]
  · intro h
    simp only [Rp.key, Prod.mk.injEq] at h
    obtain ⟨h1, h2, h3⟩ := h
    refine ⟨⟨h1, h2⟩, ptsB_inj hr.2.2 hs.2.2 ?_⟩
    have := congrArg (fun b : ByteArray => b.data.toList) h3
    simpa using this
/-- How often a report occurs. -/
def cntS (l : List Rp) (r : Rp) : Nat := l.countP fun x => sameR x r

end Go.Proofs.Ytoiipfcmkogcfaa
