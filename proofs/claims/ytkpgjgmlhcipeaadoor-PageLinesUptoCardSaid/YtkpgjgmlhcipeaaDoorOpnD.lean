/- Arguments opened: slices of rows of int16. -/
import Derived.Test.YtkpgjgmlhcipeaaDoorLeaf
import Derived.Test.YtkpgjgmlhcipeaaDoorSomA
namespace Go.Proofs.YtkpgjgmlhcipeaaDoor
open Go.RowKit
section
variable {H : Type} {enc : TypeId × Value → H} {W : World} {base : Nat} {A : Option Addr} {len cap : Nat}
theorem int16_of {n : Int} (h : (Lit.int .i16 n).wf = true) : S16 n := by
  simp [Lit.wf, IntKind.min, IntKind.max, IntKind.signed, IntKind.bits] at h
  exact ⟨h.1, by omega⟩
/-- A slice that is read, as a list. -/
theorem Rd.sl {P : Program} {t e : TypeId} {α : Type} (encα : α → List Value) (ok : α → Prop) (d : α) (R : Rd enc P W base (fun _ => true) true t [.slice A len cap]) (ht : P.underlying t = some (.slice e)) {sz by_ : Nat} (hs : P.cellsOf e = sz) (hb : P.bytesOf e = by_) {k : Nat} {ps : List (Nat × TypeId)} (hl : leaves P k e = some ps) (hps : ∃ q, (0, q) ∈ ps)
    (el : ∀ cell : Nat → Option Value, (∀ p ∈ ps, ∃ c, cell p.1 = some c ∧ Rd enc P W base (fun _ => true) true p.2 [c]) → ∃ a : α, ok a ∧ ∀ r v, (encα a)[r]? = some v → cell r = some v) :
    ∃ L : List α, len = L.length ∧ (∀ a ∈ L, ok a) ∧ Sl sz encα W (.slice A len cap) L ∧ len * by_ ≤ 140737488351232 ∧ cap * by_ ≤ 140737488351232 := by
  obtain ⟨A', len', cap', e, h1, h2, h5, h3, h4⟩ := R.slice ht hs hb hl hps
  cases e
  have h2' := h2 rfl
  by_cases h0 : 0 < len
  · obtain ⟨b, off, rfl, _, hc⟩ := h4 h0
    have key : ∀ i, i < len → ∃ a : α, ok a ∧ ∀ r v, (encα a)[r]? = some v → W.cell? ⟨b, off + i * sz + r, none⟩ = some v := fun i hi => el (fun r => W.cell? ⟨b, off + i * sz + r, none⟩) (hc i hi)
    haveI : Inhabited α := ⟨d⟩
    obtain ⟨p, hp⟩ := Deep.choose_lt key
    have hll : ((List.range len).map p).length = len := by simp
    refine ⟨(List.range len).map p, by simp, fun a ha => ?_, ⟨_, cap, by rw [hll], by rw [hll]; exact h1, (fun h => by cases h), fun _ => ⟨b, off, rfl, fun i a ha r v hv => ?_⟩⟩, h5, h2'⟩
    · obtain ⟨i, hi, rfl⟩ := List.mem_map.1 ha
      exact (hp i (List.mem_range.1 hi)).1
    · rw [List.getElem?_map] at ha
      by_cases hin : i < len
      · rw [List.getElem?_range hin] at ha
        simp at ha
        subst ha
        exact (hp i hin).2 r v hv
      · rw [List.getElem?_eq_none (by simp; omega)] at ha
        simp at ha
  · have e0 : len = 0 := by omega
    subst e0
    refine ⟨[], rfl, by simp, ⟨A, cap, rfl, by simp, (fun h => ⟨rfl, (h3 h).2⟩), fun h => by simp at h⟩, h5, h2'⟩
theorem Rd.h16 {v : Value} (R : Rd enc Tryd.prog W base (fun _ => true) true 69 [v]) : ∃ L : List Int, (∀ a ∈ L, S16 a) ∧ Sl 1 encH W v L := by
  obtain ⟨A, len, cap, rfl, -⟩ := R.slice Tryd.underlying69 (sz := 1) (by_ := 2) (by kernel_rfl) (by kernel_rfl) (k := 3) (ps := [(0, 66)]) (by kernel_rfl) ⟨66, by simp⟩
  obtain ⟨L, h1, h2, h3, h4, _⟩ := Rd.sl encH S16 0 R Tryd.underlying69 (sz := 1) (by_ := 2) (by kernel_rfl) (by kernel_rfl) (k := 3) (ps := [(0, 66)]) (by kernel_rfl) ⟨66, by simp⟩ (fun cell hc => by
    obtain ⟨c, e0, r0⟩ := hc (0, 66) (by simp)
    obtain ⟨n, k0, w0⟩ := r0.int Tryd.underlying66
    cases k0
    refine ⟨n, int16_of w0, fun r v hv => ?_⟩
    match r, hv with
    | 0, hv => simp [encH] at hv; subst hv; exact e0)
  exact ⟨L, h2, h3⟩
theorem Rd.rows16 (R : Rd enc Tryd.prog W base (fun _ => true) true 53 [.slice A len cap]) : ∃ rs : List (List Int), Rows16 W (.slice A len cap) rs ∧ (∀ r ∈ rs, ∀ n ∈ r, S16 n) ∧ rs.length ≤ 20000000000000 := by
  obtain ⟨L, h1, h2, h3, h4, _⟩ := Rd.sl (fun p : Value × List Int => [p.1]) (fun p => Sl 1 encH W p.1 p.2 ∧ ∀ n ∈ p.2, S16 n) (.slice none 0 0, []) R Tryd.underlying53 (sz := 1) (by_ := 24) (by kernel_rfl) (by kernel_rfl) (k := 3) (ps := [(0, 69)]) (by kernel_rfl) ⟨69, by simp⟩ (fun cell hc => by
    obtain ⟨c, e0, r0⟩ := hc (0, 69) (by simp)
    obtain ⟨q, k1, k2⟩ := Rd.h16 r0
    refine ⟨(c, q), ⟨k2, k1⟩, fun r v hv => ?_⟩
    match r, hv with
    | 0, hv => simp at hv; subst hv; exact e0)
  refine ⟨L.map (·.2), ⟨L.map (·.1), by simp, ?_, ?_⟩, ?_, by simp; omega⟩
  · obtain ⟨A', cap', e, h5, h6, h7⟩ := h3
    refine ⟨A', cap', by rw [e, List.length_map], by simpa using h5, by simpa using h6, fun hl => ?_⟩
    obtain ⟨b, off, e2, hc⟩ := h7 (by simpa using hl)
    refine ⟨b, off, e2, fun i a hi r v hv => ?_⟩
    rw [List.getElem?_map] at hi
    cases hz : L[i]? with
    | none => rw [hz] at hi; cases hi
    | some p =>
      rw [hz] at hi
      obtain rfl : p.1 = a := by simpa using hi
      exact hc i p hz r v hv
  · intro i U r hU hr
    rw [List.getElem?_map] at hU hr
    cases hz : L[i]? with
    | none => rw [hz] at hU; cases hU
    | some p =>
      rw [hz] at hU hr
      obtain rfl : p.1 = U := by simpa using hU
      obtain rfl : p.2 = r := by simpa using hr
      exact (h2 p (List.mem_of_getElem? hz)).1
  · intro r hr n hn
    obtain ⟨p, hp, rfl⟩ := List.mem_map.1 hr
    exact (h2 p hp).2 n hn
theorem Rd.quads16 (R : Rd enc Tryd.prog W base (fun _ => true) true 52 [.slice A len cap]) : ∃ L : List Q4t, Sl 4 encQ W (.slice A len cap) L ∧ (∀ q ∈ L, S16 q.1 ∧ S16 q.2.1 ∧ S16 q.2.2.1 ∧ S16 q.2.2.2) ∧ L.length ≤ 20000000000000 := by
  obtain ⟨L, h1, h2, h3, h4, _⟩ := Rd.sl encQ (fun q => S16 q.1 ∧ S16 q.2.1 ∧ S16 q.2.2.1 ∧ S16 q.2.2.2) (0, 0, 0, 0) R Tryd.underlying52 (sz := 4) (by_ := 8) (by kernel_rfl) (by kernel_rfl) (k := 3) (ps := [(0, 66), (1, 66), (2, 66), (3, 66)]) (by kernel_rfl) ⟨66, by simp⟩ (fun cell hc => by
    obtain ⟨c0, e0, r0⟩ := hc (0, 66) (by simp)
    obtain ⟨n0, k0, w0⟩ := r0.int Tryd.underlying66
    obtain ⟨c1, e1, r1⟩ := hc (1, 66) (by simp)
    obtain ⟨n1, k1, w1⟩ := r1.int Tryd.underlying66
    obtain ⟨c2, e2, r2⟩ := hc (2, 66) (by simp)
    obtain ⟨n2, k2, w2⟩ := r2.int Tryd.underlying66
    obtain ⟨c3, e3, r3⟩ := hc (3, 66) (by simp)
    obtain ⟨n3, k3, w3⟩ := r3.int Tryd.underlying66
    cases k0; cases k1; cases k2; cases k3
    refine ⟨(n0, n1, n2, n3), ⟨int16_of w0, int16_of w1, int16_of w2, int16_of w3⟩, fun r v hv => ?_⟩
    match r, hv with
    | 0, hv => simp [encQ] at hv; subst hv; exact e0
    | 1, hv => simp [encQ] at hv; subst hv; exact e1
    | 2, hv => simp [encQ] at hv; subst hv; exact e2
    | 3, hv => simp [encQ] at hv; subst hv; exact e3)
  exact ⟨L, h3, h2, by omega⟩
end
end Go.Proofs.YtkpgjgmlhcipeaaDoor
