/- The law DagMoved returns true at every input that can be read. -/
import Derived.Test.YtimffpnfhkobkaaLMoved
namespace Go.Proofs.Ytimffpnfhkobkaa
open Go.RowKit
theorem move_walk {H : Type} {enc : TypeId × Value → H} (cs0 : Array Value) (A1 : Option Addr) (l1 c1 : Nat) (a2 : Int) (W : World) (hs0 : cs0.size = Try.prog.cellsOf 38) (R0 : Rd enc Try.prog W 0 (fun _ => true) true 38 cs0.toList) (R1 : Rd enc Try.prog W 0 (fun _ => true) true 26 [.slice A1 l1 c1]) (w2 : (Lit.int .i16 a2).wf = true) :
    Calls Try.prog 7 #[.agg cs0, .slice A1 l1 c1, .int .i16 a2] W fun e w' => e = .returned (.bool true) ∧ Below W.heap.size W w' := by
  obtain ⟨N, V, T, rfl, hN, h, hs, hl⟩ := R0.raw hs0
  obtain ⟨xs, -, -, hx, hxl⟩ := R1.ints
  have hb : -32768 ≤ a2 ∧ a2 ≤ 32767 := (by simpa [Lit.wf] using w2 : IntKind.i16.min ≤ a2 ∧ a2 ≤ IntKind.i16.max)
  exact moved_core N a2 hb.1 hb.2 hN h hs hl hx (by omega)
end Go.Proofs.Ytimffpnfhkobkaa
