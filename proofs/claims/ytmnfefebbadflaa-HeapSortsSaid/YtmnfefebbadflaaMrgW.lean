/- The law HeapMerges of what came in. -/
import Derived.Test.YtmnfefebbadflaaMrgC
import Derived.Test.YtmnfefebbadflaaLeaf
namespace Go.Proofs.Ytmnfefebbadflaa
open Go.RowKit
theorem Rd.i8s {H : Type} {enc : TypeId × Value → H} {W : World} {A : Option Addr} {len cap : Nat} (R : Rd enc Try.prog W 0 (fun _ => true) true 61 [.slice A len cap]) :
    len ≤ cap ∧ cap ≤ 140737488351232 ∧ (0 < len → ∃ b off, A = some ⟨b, off, none⟩ ∧ ∀ i, i < len → ∃ k : Int, -128 ≤ k ∧ k ≤ 127 ∧ W.cell? ⟨b, off + i, none⟩ = some (.int .i8 k)) := by
  obtain ⟨A', len', cap', e, h1, h2, h5, h3, h4⟩ := R.slice Try.underlying61 (sz := 1) (by_ := 1) (by kernel_rfl) (by kernel_rfl) (k := 3) (ps := [(0, 29)]) (by kernel_rfl) ⟨29, by simp⟩
  cases e
  refine ⟨h1, by have := h2 rfl; omega, fun h => ?_⟩
  obtain ⟨b, off, e1, _, hc⟩ := h4 h
  refine ⟨b, off, e1, fun i hi => ?_⟩
  obtain ⟨c, e0, r0⟩ := hc i hi (0, 29) (by simp)
  obtain ⟨n, k0, w0⟩ := r0.int Try.underlying29
  cases k0
  simp [Lit.wf, IntKind.min, IntKind.max, IntKind.signed, IntKind.bits] at w0
  exact ⟨n, w0.1, by omega, by simpa using e0⟩
theorem merges_rd {H : Type} {enc : TypeId × Value → H} (A0 : Option Addr) (l0 c0 : Nat) (A1 : Option Addr) (l1 c1 : Nat) (W : World) (R0 : Rd enc Try.prog W 0 (fun _ => true) true 61 [.slice A0 l0 c0]) (R1 : Rd enc Try.prog W 0 (fun _ => true) true 61 [.slice A1 l1 c1]) :
    Calls Try.prog 9 #[.slice A0 l0 c0, .slice A1 l1 c1] W fun e w' => e = .returned (.bool true) ∧ Below W.heap.size W w' := by
  obtain ⟨h1, h2, h3⟩ := R0.i8s
  obtain ⟨k1, k2, k3⟩ := R1.i8s
  exact merges_walk A0 A1 l0 c0 l1 c1 W h1 k1 h2 k2 h3 k3
end Go.Proofs.Ytmnfefebbadflaa
