/- The law FlowFlows returns true at every input that can be read. -/
import Derived.Test.YtimffpnfhkobkaaGLFflA
namespace Go.Proofs.Ytimffpnfhkobkaa
open Go.RowKit
theorem ffl_walk {H : Type} {enc : TypeId × Value → H} (cs0 : Array Value) (A1 : Option Addr) (l1 c1 : Nat) (W : World) (hs0 : cs0.size = Try.prog.cellsOf 38) (R0 : Rd enc Try.prog W 0 (fun _ => true) true 38 cs0.toList) (R1 : Rd enc Try.prog W 0 (fun _ => true) true 56 [.slice A1 l1 c1]) :
    Calls Try.prog 8 #[.agg cs0, .slice A1 l1 c1] W fun e w' => e = .returned (.bool true) ∧ Below W.heap.size W w' := by
  obtain ⟨N, V, T, rfl, hN, h, hs, hl⟩ := R0.raw hs0
  obtain ⟨Y, rfl, hy, hsy, hyl⟩ := Rd.duos R1
  exact flows_core N hN h hs hl hy hsy hyl
end Go.Proofs.Ytimffpnfhkobkaa
