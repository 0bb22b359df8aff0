/- Slices of pairs of bytes, and of numbers, opened. -/
import Derived.Test.YtmnfefebbadflaaRFrom
import Derived.Test.YtmnfefebbadflaaRWake
import Derived.Test.YtmnfefebbadflaaLeaf
namespace Go.Proofs.Ytmnfefebbadflaa
open Go.RowKit
section
variable {H : Type} {enc : TypeId × Value → H} {W : World} {A : Option Addr} {len cap : Nat}
theorem byte_of {n : Int} (h : (Lit.int .u8 n).wf = true) : ∃ m : Nat, n = m ∧ m < 256 := by
  simp [Lit.wf, IntKind.min, IntKind.max, IntKind.signed, IntKind.bits] at h
  exact ⟨n.toNat, by omega, by omega⟩
theorem int_of {n : Int} (h : (Lit.int .i64 n).wf = true) : -9223372036854775808 ≤ n ∧ n ≤ 9223372036854775807 := by
  simp [Lit.wf, IntKind.min, IntKind.max, IntKind.signed, IntKind.bits] at h
  exact ⟨h.1, by omega⟩
theorem leaves52 : leaves Try.prog 3 52 = some [(0, 5), (1, 5)] := by kernel_rfl
/-- A slice of pairs of bytes. -/
theorem open_pairs (R : Rd enc Try.prog W 0 (fun _ => true) true 47 [.slice A len cap]) :
    len ≤ cap ∧ cap ≤ 140737488351232 ∧ (A = none → len = 0 ∧ cap = 0) ∧ ∃ p : Nat → Nat × Nat, (∀ i, i < len → (p i).1 < 256 ∧ (p i).2 < 256) ∧
      (0 < len → ∃ b off, A = some ⟨b, off, none⟩ ∧ ∀ i, i < len → W.cell? ⟨b, off + i * 2, none⟩ = some (.int .u8 ((p i).1 : Nat)) ∧ W.cell? ⟨b, off + i * 2 + 1, none⟩ = some (.int .u8 ((p i).2 : Nat))) := by
  obtain ⟨A', len', cap', e, h1, h2, _, h3, h4⟩ := R.slice (sz := 2) (by_ := 2) Try.underlying47 (by kernel_rfl) (by kernel_rfl) leaves52 ⟨5, by simp⟩
  cases e
  have h2' := h2 rfl
  refine ⟨h1, by omega, h3, ?_⟩
  by_cases hl : 0 < len
  · obtain ⟨b, off, rfl, _, hc⟩ := h4 hl
    have key : ∀ i, i < len → ∃ q : Nat × Nat, (q.1 < 256 ∧ q.2 < 256) ∧ W.cell? ⟨b, off + i * 2, none⟩ = some (.int .u8 (q.1 : Nat)) ∧ W.cell? ⟨b, off + i * 2 + 1, none⟩ = some (.int .u8 (q.2 : Nat)) := by
      intro i hi
      obtain ⟨c0, e0, r0⟩ := hc i hi (0, 5) (by simp)
      obtain ⟨c1, e1, r1⟩ := hc i hi (1, 5) (by simp)
      obtain ⟨n0, k0, w0⟩ := r0.int Try.underlying5
      obtain ⟨n1, k1, w1⟩ := r1.int Try.underlying5
      obtain ⟨m0, rfl, l0⟩ := byte_of w0
      obtain ⟨m1, rfl, l1⟩ := byte_of w1
      cases k0; cases k1
      exact ⟨(m0, m1), ⟨l0, l1⟩, e0, e1⟩
    obtain ⟨p, hp⟩ := Deep.choose_lt key
    exact ⟨p, fun i hi => (hp i hi).1, fun _ => ⟨b, off, rfl, fun i hi => (hp i hi).2⟩⟩
  · exact ⟨fun _ => (0, 0), fun i hi => absurd hi (by omega), fun h => absurd h hl⟩
end
end Go.Proofs.Ytmnfefebbadflaa
