/- The law FlowBest returns true at every input that can be read. -/
import Derived.Test.YtimffpnfhkobkaaGLBesA
namespace Go.Proofs.Ytimffpnfhkobkaa
open Go.RowKit
theorem bes_walk {H : Type} {enc : TypeId × Value → H} (cs0 : Array Value) (A1 : Option Addr) (l1 c1 : Nat) (W : World) (hs0 : cs0.size = Try.prog.cellsOf 38) (R0 : Rd enc Try.prog W 0 (fun _ => true) true 38 cs0.toList) (R1 : Rd enc Try.prog W 0 (fun _ => true) true 26 [.slice A1 l1 c1]) :
    Calls Try.prog 10 #[.agg cs0, .slice A1 l1 c1] W fun e w' => e = .returned (.bool true) ∧ Below W.heap.size W w' := by
  obtain ⟨N, V, T, rfl, hN, h, hs, hl⟩ := R0.raw hs0
  obtain ⟨xs, -, -, hx, hxl⟩ := R1.ints
  exact best_core N hN h hs hl hx (by omega)
end Go.Proofs.Ytimffpnfhkobkaa
