/- The law HeapSorts of what came in. -/
import Derived.Test.YtmnfefebbadflaaSrtA
import Derived.Test.YtmnfefebbadflaaMrgW
namespace Go.Proofs.Ytmnfefebbadflaa
open Go.RowKit
theorem Rd.strs {H : Type} {enc : TypeId × Value → H} {W : World} {A : Option Addr} {len cap : Nat} (R : Rd enc Try.prog W 0 (fun _ => true) true 66 [.slice A len cap]) :
    len ≤ cap ∧ cap ≤ 140737488351232 ∧ (0 < len → ∃ b off, A = some ⟨b, off, none⟩ ∧ ∀ i, i < len → ∃ s : ByteArray, W.cell? ⟨b, off + i, none⟩ = some (.string s)) := by
  obtain ⟨A', len', cap', e, h1, h2, h5, h3, h4⟩ := R.slice Try.underlying66 (sz := 1) (by_ := 16) (by kernel_rfl) (by kernel_rfl) (k := 3) (ps := [(0, 9)]) (by kernel_rfl) ⟨9, by simp⟩
  cases e
  refine ⟨h1, by have := h2 rfl; omega, fun h => ?_⟩
  obtain ⟨b, off, e1, _, hc⟩ := h4 h
  refine ⟨b, off, e1, fun i hi => ?_⟩
  obtain ⟨c, e0, r0⟩ := hc i hi (0, 9) (by simp)
  obtain ⟨s, k0, _⟩ := r0.string Try.underlying9
  cases k0
  exact ⟨s, by simpa using e0⟩
theorem sorts_rd {H : Type} {enc : TypeId × Value → H} (A0 : Option Addr) (l0 c0 : Nat) (A1 : Option Addr) (l1 c1 : Nat) (W : World) (R0 : Rd enc Try.prog W 0 (fun _ => true) true 61 [.slice A0 l0 c0]) (R1 : Rd enc Try.prog W 0 (fun _ => true) true 66 [.slice A1 l1 c1]) :
    Calls Try.prog 10 #[.slice A0 l0 c0, .slice A1 l1 c1] W fun e w' => e = .returned (.bool true) ∧ Below W.heap.size W w' := by
  obtain ⟨h1, h2, h3⟩ := R0.i8s
  obtain ⟨k1, k2, k3⟩ := R1.strs
  exact sorts_walk A0 A1 l0 c0 l1 c1 W h1 k1 h2 k2 h3 k3
end Go.Proofs.Ytmnfefebbadflaa
