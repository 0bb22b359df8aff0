/- Arguments opened: a graph with slices of numbers, by value. -/
import Derived.Test.YtjgloineooadoaaGreatDoorMgZ19
namespace Go.Proofs.YtjgloineooadoaaGreatDoor
open Go.RowKit
section
variable {H : Type} {enc : TypeId × Value → H} {W : World} {base : Nat}
theorem Rd.intsV {v : Value} (R : Rd enc Tryz.prog W base (fun _ => true) true 29 [v]) : ∃ L : List Int, (∀ a ∈ L, -9223372036854775808 ≤ a ∧ a ≤ 9223372036854775807) ∧ Ints W v L ∧ L.length ≤ 17592186043904 := by
  obtain ⟨A, len, cap, rfl, _⟩ := R.slice (sz := 1) (by_ := 8) Tryz.underlying29 (by kernel_rfl) (by kernel_rfl) (k := 3) (ps := [(0, 3)]) (by kernel_rfl) ⟨3, by simp⟩
  obtain ⟨L, -, h1, h2, h3⟩ := Rd.ints R
  exact ⟨L, h1, h2, h3⟩
theorem Rd.trisV {v : Value} (R : Rd enc Tryz.prog W base (fun _ => true) true 22 [v]) : ∃ T : List Tri, Tris W v T ∧ Small T ∧ T.length ≤ 1000000000000000 := by
  obtain ⟨A, len, cap, rfl, _⟩ := R.slice (sz := 3) (by_ := 3) Tryz.underlying22 (by kernel_rfl) (by kernel_rfl) (k := 3) (ps := [(0, 5), (1, 5), (2, 5)]) (by kernel_rfl) ⟨5, by simp⟩
  obtain ⟨T, -, h1, h2, h3⟩ := Rd.tris R
  exact ⟨T, h1, h2, h3⟩
theorem Rd.proofV {cs : Array Value} (hs : cs.size = Tryz.prog.cellsOf 50) (R : Rd enc Tryz.prog W base (fun _ => true) true 50 cs.toList) :
    ∃ (N : Nat) (V VX VF VY : Value) (T : List Tri) (xs fs ys : List Int), cs = #[.int .u8 (N : Int), V, VX, VF, VY] ∧ N ≤ 255 ∧ (Tris W V T ∧ Small T ∧ T.length ≤ 1000000000000000) ∧ (Ints W VX xs ∧ xs.length ≤ 17592186043904) ∧ (Ints W VF fs ∧ fs.length ≤ 17592186043904) ∧ (Ints W VY ys ∧ ys.length ≤ 17592186043904) := by
  have hc : Tryz.prog.cellsOf 50 = 5 := by kernel_rfl
  have hs2 : cs.size = 5 := by rw [hs, hc]
  have hps : leaves Tryz.prog 4 50 = some [(0, 5), (1, 22), (2, 29), (3, 29), (4, 29)] := by kernel_rfl
  obtain ⟨c0, e0, r0⟩ := R.cells 4 hps (0, 5) (by simp)
  obtain ⟨c1, e1, r1⟩ := R.cells 4 hps (1, 22) (by simp)
  obtain ⟨c2, e2, r2⟩ := R.cells 4 hps (2, 29) (by simp)
  obtain ⟨c3, e3, r3⟩ := R.cells 4 hps (3, 29) (by simp)
  obtain ⟨c4, e4, r4⟩ := R.cells 4 hps (4, 29) (by simp)
  obtain ⟨n0, k0, w0⟩ := r0.int Tryz.underlying5
  cases k0
  obtain ⟨m0, rfl, l0⟩ := byte_of w0
  obtain ⟨T, t1, t2, t3⟩ := Rd.trisV r1
  obtain ⟨xs, -, x1, x2⟩ := Rd.intsV r2
  obtain ⟨fs, -, f1, f2⟩ := Rd.intsV r3
  obtain ⟨ys, -, y1, y2⟩ := Rd.intsV r4
  refine ⟨m0, _, _, _, _, T, xs, fs, ys, ?_, by omega, ⟨t1, t2, t3⟩, ⟨x1, x2⟩, ⟨f1, f2⟩, ⟨y1, y2⟩⟩
  obtain ⟨l⟩ := cs
  match l, hs2 with
  | [a, b, c, d, e], _ =>
    simp at e0 e1 e2 e3 e4
    subst e0 e1 e2 e3 e4
    rfl
theorem Rd.caseV {cs : Array Value} (hs : cs.size = Tryz.prog.cellsOf 46) (R : Rd enc Tryz.prog W base (fun _ => true) true 46 cs.toList) :
    ∃ (N a b : Nat) (V VX VF : Value) (T : List Tri) (xs fs : List Int), cs = #[.int .u8 (N : Int), V, VX, VF, .int .u8 (a : Int), .int .u8 (b : Int)] ∧ (N ≤ 255 ∧ a ≤ 255 ∧ b ≤ 255) ∧ (Tris W V T ∧ Small T ∧ T.length ≤ 1000000000000000) ∧ (Ints W VX xs ∧ xs.length ≤ 17592186043904) ∧ (Ints W VF fs ∧ fs.length ≤ 17592186043904) := by
  have hc : Tryz.prog.cellsOf 46 = 6 := by kernel_rfl
  have hs2 : cs.size = 6 := by rw [hs, hc]
  have hps : leaves Tryz.prog 4 46 = some [(0, 5), (1, 22), (2, 29), (3, 29), (4, 5), (5, 5)] := by kernel_rfl
  obtain ⟨c0, e0, r0⟩ := R.cells 4 hps (0, 5) (by simp)
  obtain ⟨c1, e1, r1⟩ := R.cells 4 hps (1, 22) (by simp)
  obtain ⟨c2, e2, r2⟩ := R.cells 4 hps (2, 29) (by simp)
  obtain ⟨c3, e3, r3⟩ := R.cells 4 hps (3, 29) (by simp)
  obtain ⟨c4, e4, r4⟩ := R.cells 4 hps (4, 5) (by simp)
  obtain ⟨c5, e5, r5⟩ := R.cells 4 hps (5, 5) (by simp)
  obtain ⟨n0, k0, w0⟩ := r0.int Tryz.underlying5
  cases k0
  obtain ⟨m0, rfl, l0⟩ := byte_of w0
  obtain ⟨n4, k4, w4⟩ := r4.int Tryz.underlying5
  cases k4
  obtain ⟨m4, rfl, l4⟩ := byte_of w4
  obtain ⟨n5, k5, w5⟩ := r5.int Tryz.underlying5
  cases k5
  obtain ⟨m5, rfl, l5⟩ := byte_of w5
  obtain ⟨T, t1, t2, t3⟩ := Rd.trisV r1
  obtain ⟨xs, -, x1, x2⟩ := Rd.intsV r2
  obtain ⟨fs, -, f1, f2⟩ := Rd.intsV r3
  refine ⟨m0, m4, m5, _, _, _, T, xs, fs, ?_, ⟨by omega, by omega, by omega⟩, ⟨t1, t2, t3⟩, ⟨x1, x2⟩, ⟨f1, f2⟩⟩
  obtain ⟨l⟩ := cs
  match l, hs2 with
  | [a, b, c, d, e, f], _ =>
    simp at e0 e1 e2 e3 e4 e5
    subst e0 e1 e2 e3 e4 e5
    rfl
end
end Go.Proofs.YtjgloineooadoaaGreatDoor
