/- Arguments opened: slices as lists, graphs as plain data. -/
import Derived.Test.YtjgloineooadoaaGreatDoorMgZ12
namespace Go.Proofs.YtjgloineooadoaaGreatDoor
open Go.RowKit
section
variable {H : Type} {enc : TypeId × Value → H} {W : World} {base : Nat} {A : Option Addr} {len cap : Nat}
theorem byte_of {n : Int} (h : (Lit.int .u8 n).wf = true) : ∃ m : Nat, n = m ∧ m < 256 := by
  simp [Lit.wf, IntKind.min, IntKind.max, IntKind.signed, IntKind.bits] at h
  exact ⟨n.toNat, by omega, by omega⟩
theorem int_of {n : Int} (h : (Lit.int .i64 n).wf = true) : -9223372036854775808 ≤ n ∧ n ≤ 9223372036854775807 := by
  simp [Lit.wf, IntKind.min, IntKind.max, IntKind.signed, IntKind.bits] at h
  exact ⟨h.1, by omega⟩
/-- A slice that is read, as a list. -/
theorem Rd.sl {P : Program} {t e : TypeId} {α : Type} (encα : α → List Value) (ok : α → Prop) (d : α) (R : Rd enc P W base (fun _ => true) true t [.slice A len cap]) (ht : P.underlying t = some (.slice e)) {sz by_ : Nat} (hs : P.cellsOf e = sz) (hb : P.bytesOf e = by_) {k : Nat} {ps : List (Nat × TypeId)} (hl : leaves P k e = some ps) (hps : ∃ q, (0, q) ∈ ps)
    (el : ∀ cell : Nat → Option Value, (∀ p ∈ ps, ∃ c, cell p.1 = some c ∧ Rd enc P W base (fun _ => true) true p.2 [c]) → ∃ a : α, ok a ∧ ∀ r v, (encα a)[r]? = some v → cell r = some v) :
    ∃ L : List α, len = L.length ∧ (∀ a ∈ L, ok a) ∧ Sl sz encα W (.slice A len cap) L ∧ len * by_ ≤ 140737488351232 ∧ cap * by_ ≤ 140737488351232 := by
  obtain ⟨A', len', cap', e, h1, h2, h5, h3, h4⟩ := R.slice ht hs hb hl hps
  cases e
  have h2' := h2 rfl
  by_cases h0 : 0 < len
  · obtain ⟨b, off, rfl, _, hc⟩ := h4 h0
    have key : ∀ i, i < len → ∃ a : α, ok a ∧ ∀ r v, (encα a)[r]? = some v → W.cell? ⟨b, off + i * sz + r, none⟩ = some v := fun i hi => el (fun r => W.cell? ⟨b, off + i * sz + r, none⟩) (hc i hi)
    haveI : Inhabited α := ⟨d⟩
    obtain ⟨p, hp⟩ := Deep.choose_lt key
    have hll : ((List.range len).map p).length = len := by simp
    refine ⟨(List.range len).map p, by simp, fun a ha => ?_, ⟨_, cap, by rw [hll], by rw [hll]; exact h1, (fun h => by cases h), fun _ => ⟨b, off, rfl, fun i a ha r v hv => ?_⟩⟩, h5, h2'⟩
    · obtain ⟨i, hi, rfl⟩ := List.mem_map.1 ha
      exact (hp i (List.mem_range.1 hi)).1
    · rw [List.getElem?_map] at ha
      by_cases hin : i < len
      · rw [List.getElem?_range hin] at ha
        simp at ha
        subst ha
        exact (hp i hin).2 r v hv
      · rw [List.getElem?_eq_none (by simp; omega)] at ha
        simp at ha
  · have e0 : len = 0 := by omega
    subst e0
    refine ⟨[], rfl, by simp, ⟨A, cap, rfl, by simp, (fun h => ⟨rfl, (h3 h).2⟩), fun h => by simp at h⟩, h5, h2'⟩
theorem Rd.ints (R : Rd enc Tryz.prog W base (fun _ => true) true 29 [.slice A len cap]) : ∃ L : List Int, len = L.length ∧ (∀ a ∈ L, -9223372036854775808 ≤ a ∧ a ≤ 9223372036854775807) ∧ Ints W (.slice A len cap) L ∧ L.length ≤ 17592186043904 := by
  obtain ⟨L, h1, h2, h3, h4, _⟩ := Rd.sl encI (fun a => -9223372036854775808 ≤ a ∧ a ≤ 9223372036854775807) 0 R Tryz.underlying29 (sz := 1) (by_ := 8) (by kernel_rfl) (by kernel_rfl) (k := 3) (ps := [(0, 3)]) (by kernel_rfl) ⟨3, by simp⟩ (fun cell hc => by
    obtain ⟨c, e0, r0⟩ := hc (0, 3) (by simp)
    obtain ⟨n, k0, w0⟩ := r0.int Tryz.underlying3
    cases k0
    refine ⟨n, int_of w0, fun r v hv => ?_⟩
    match r, hv with
    | 0, hv => simp [encI] at hv; subst hv; exact e0)
  exact ⟨L, h1, h2, h3, by omega⟩
theorem Rd.arcs (R : Rd enc Tryz.prog W base (fun _ => true) true 26 [.slice A len cap]) : ∃ L : List Arc, len = L.length ∧ Arcs W (.slice A len cap) L ∧ L.length ≤ 5864062014634 ∧ ∀ a ∈ L, (-9223372036854775808 ≤ a.1 ∧ a.1 ≤ 9223372036854775807) ∧ (-9223372036854775808 ≤ a.2.1 ∧ a.2.1 ≤ 9223372036854775807) ∧ (-9223372036854775808 ≤ a.2.2 ∧ a.2.2 ≤ 9223372036854775807) := by
  obtain ⟨L, h1, h2, h3, h4, _⟩ := Rd.sl encA (fun a => (-9223372036854775808 ≤ a.1 ∧ a.1 ≤ 9223372036854775807) ∧ (-9223372036854775808 ≤ a.2.1 ∧ a.2.1 ≤ 9223372036854775807) ∧ (-9223372036854775808 ≤ a.2.2 ∧ a.2.2 ≤ 9223372036854775807)) (0, 0, 0) R Tryz.underlying26 (sz := 3) (by_ := 24) (by kernel_rfl) (by kernel_rfl) (k := 3) (ps := [(0, 3), (1, 3), (2, 3)]) (by kernel_rfl) ⟨3, by simp⟩ (fun cell hc => by
    obtain ⟨c, e0, r0⟩ := hc (0, 3) (by simp)
    obtain ⟨n0, k0, w0⟩ := r0.int Tryz.underlying3
    cases k0
    obtain ⟨c, e1, r1⟩ := hc (1, 3) (by simp)
    obtain ⟨n1, k1, w1⟩ := r1.int Tryz.underlying3
    cases k1
    obtain ⟨c, e2, r2⟩ := hc (2, 3) (by simp)
    obtain ⟨n2, k2, w2⟩ := r2.int Tryz.underlying3
    cases k2
    refine ⟨(n0, n1, n2), ⟨int_of w0, int_of w1, int_of w2⟩, fun r v hv => ?_⟩
    match r, hv with
    | 0, hv => simp [encA] at hv; subst hv; exact e0
    | 1, hv => simp [encA] at hv; subst hv; exact e1
    | 2, hv => simp [encA] at hv; subst hv; exact e2)
  exact ⟨L, h1, h3, by omega, h2⟩
theorem Rd.tris (R : Rd enc Tryz.prog W base (fun _ => true) true 22 [.slice A len cap]) : ∃ T : List Tri, len = T.length ∧ Tris W (.slice A len cap) T ∧ Small T ∧ T.length ≤ 1000000000000000 := by
  obtain ⟨L, h1, h2, h3, h4, _⟩ := Rd.sl encT (fun t => t.1 ≤ 255 ∧ t.2.1 ≤ 255 ∧ t.2.2 ≤ 255) (0, 0, 0) R Tryz.underlying22 (sz := 3) (by_ := 3) (by kernel_rfl) (by kernel_rfl) (k := 3) (ps := [(0, 5), (1, 5), (2, 5)]) (by kernel_rfl) ⟨5, by simp⟩ (fun cell hc => by
    obtain ⟨c, e0, r0⟩ := hc (0, 5) (by simp)
    obtain ⟨n0, k0, w0⟩ := r0.int Tryz.underlying5
    cases k0
    obtain ⟨c, e1, r1⟩ := hc (1, 5) (by simp)
    obtain ⟨n1, k1, w1⟩ := r1.int Tryz.underlying5
    cases k1
    obtain ⟨c, e2, r2⟩ := hc (2, 5) (by simp)
    obtain ⟨n2, k2, w2⟩ := r2.int Tryz.underlying5
    cases k2
    obtain ⟨m0, rfl, l0⟩ := byte_of w0
    obtain ⟨m1, rfl, l1⟩ := byte_of w1
    obtain ⟨m2, rfl, l2⟩ := byte_of w2
    refine ⟨(m0, m1, m2), ⟨by simp only; omega, by simp only; omega, by simp only; omega⟩, fun r v hv => ?_⟩
    match r, hv with
    | 0, hv => simp [encT] at hv; subst hv; exact e0
    | 1, hv => simp [encT] at hv; subst hv; exact e1
    | 2, hv => simp [encT] at hv; subst hv; exact e2)
  exact ⟨L, h1, h3, h2, by omega⟩
/-- A graph as plain data, by value. -/
theorem Rd.raw {cs : Array Value} (hs : cs.size = Tryz.prog.cellsOf 24) (R : Rd enc Tryz.prog W base (fun _ => true) true 24 cs.toList) :
    ∃ (N : Nat) (V : Value) (T : List Tri), cs = #[.int .u8 (N : Int), V] ∧ N ≤ 255 ∧ Tris W V T ∧ Small T ∧ T.length ≤ 1000000000000000 := by
  have hc2 : Tryz.prog.cellsOf 24 = 2 := by kernel_rfl
  obtain ⟨c0, e0, r0⟩ := Rd.cells (ps := [(0, 5), (1, 22)]) 3 R (by kernel_rfl) (0, 5) (by simp)
  obtain ⟨c1, e1, r1⟩ := Rd.cells (ps := [(0, 5), (1, 22)]) 3 R (by kernel_rfl) (1, 22) (by simp)
  obtain ⟨n0, k0, w0⟩ := r0.int Tryz.underlying5
  cases k0
  obtain ⟨m0, rfl, l0⟩ := byte_of w0
  obtain ⟨A, len, cap, rfl, _⟩ := r1.slice (sz := 3) (by_ := 3) Tryz.underlying22 (by kernel_rfl) (by kernel_rfl) (k := 3) (ps := [(0, 5), (1, 5), (2, 5)]) (by kernel_rfl) ⟨5, by simp⟩
  obtain ⟨T, hl, h1, h2, h3⟩ := Rd.tris r1
  refine ⟨m0, _, T, ?_, by omega, h1, h2, h3⟩
  rw [hc2] at hs
  apply Array.ext
  · simpa using hs
  · intro i hi _
    have : i = 0 ∨ i = 1 := by omega
    rcases this with rfl | rfl
    · simpa [Array.getElem?_toList, hi] using e0
    · simpa [Array.getElem?_toList, hi] using e1
end
end Go.Proofs.YtjgloineooadoaaGreatDoor
/- Arguments opened: two bytes, three bytes, by value. -/
namespace Go.Proofs.YtjgloineooadoaaGreatDoor
open Go.RowKit
section
variable {H : Type} {enc : TypeId × Value → H} {W : World} {base : Nat}
theorem Rd.two {cs : Array Value} (hs : cs.size = Tryz.prog.cellsOf 44) (R : Rd enc Tryz.prog W base (fun _ => true) true 44 cs.toList) :
    ∃ a b : Nat, a ≤ 255 ∧ b ≤ 255 ∧ cs = #[.int .u8 (a : Nat), .int .u8 (b : Nat)] := by
  have hc2 : Tryz.prog.cellsOf 44 = 2 := by kernel_rfl
  have hs2 : cs.size = 2 := by rw [hs, hc2]
  obtain ⟨c0, e0, r0⟩ := R.cells (ps := [(0, 5), (1, 5)]) 3 (by kernel_rfl) (0, 5) (by simp)
  obtain ⟨c1, e1, r1⟩ := R.cells (ps := [(0, 5), (1, 5)]) 3 (by kernel_rfl) (1, 5) (by simp)
  obtain ⟨n0, k0, w0⟩ := r0.int Tryz.underlying5
  obtain ⟨n1, k1, w1⟩ := r1.int Tryz.underlying5
  obtain ⟨m0, rfl, l0⟩ := byte_of w0
  obtain ⟨m1, rfl, l1⟩ := byte_of w1
  cases k0; cases k1
  obtain ⟨l⟩ := cs
  match l, hs2 with
  | [x, y], _ =>
    simp at e0 e1
    subst e0 e1
    exact ⟨m0, m1, by omega, by omega, rfl⟩
end
end Go.Proofs.YtjgloineooadoaaGreatDoor
