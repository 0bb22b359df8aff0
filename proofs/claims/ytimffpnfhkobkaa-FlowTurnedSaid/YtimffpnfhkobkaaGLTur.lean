/- The law FlowTurned returns true at every input that can be read. -/
import Derived.Test.YtimffpnfhkobkaaGLTurA
namespace Go.Proofs.Ytimffpnfhkobkaa
open Go.RowKit
theorem tur_walk {H : Type} {enc : TypeId × Value → H} (cs0 cs1 : Array Value) (W : World) (hs0 : cs0.size = Try.prog.cellsOf 38) (R0 : Rd enc Try.prog W 0 (fun _ => true) true 38 cs0.toList) (hs1 : cs1.size = Try.prog.cellsOf 38) (R1 : Rd enc Try.prog W 0 (fun _ => true) true 38 cs1.toList) :
    Calls Try.prog 12 #[.agg cs0, .agg cs1] W fun e w' => e = .returned (.bool true) ∧ Below W.heap.size W w' := by
  obtain ⟨N, V, T, rfl, hN, h, hs, hl⟩ := R0.raw hs0
  obtain ⟨N', V', T', rfl, hN', h', hs', hl'⟩ := R1.raw hs1
  exact turned_core N N' hN hN' h hs hl h' hs' hl'
end Go.Proofs.Ytimffpnfhkobkaa
