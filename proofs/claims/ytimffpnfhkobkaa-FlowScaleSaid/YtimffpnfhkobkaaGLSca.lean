/- The law FlowScale returns true at every input that can be read. -/
import Derived.Test.YtimffpnfhkobkaaGLScaA
import Derived.Test.YtimffpnfhkobkaaMgG18
namespace Go.Proofs.Ytimffpnfhkobkaa
open Go.RowKit
theorem sca_walk {H : Type} {enc : TypeId × Value → H} (cs0 : Array Value) (a1 : Int) (cs2 : Array Value) (W : World) (hs0 : cs0.size = Try.prog.cellsOf 38) (R0 : Rd enc Try.prog W 0 (fun _ => true) true 38 cs0.toList) (w1 : (Lit.int .u8 a1).wf = true) (hs2 : cs2.size = Try.prog.cellsOf 69) (R2 : Rd enc Try.prog W 0 (fun _ => true) true 69 cs2.toList) :
    Calls Try.prog 11 #[.agg cs0, .int .u8 a1, .agg cs2] W fun e w' => e = .returned (.bool true) ∧ Below W.heap.size W w' := by
  obtain ⟨N, V, T, rfl, hN, h, hs, hl⟩ := R0.raw hs0
  obtain ⟨bb, rfl, hbb⟩ := byte_of w1
  obtain ⟨a, b, c, ha, hb, hc, rfl⟩ := Rd.three hs2 R2
  exact scale_core N bb a b c hN (by omega) ha hb hc h hs hl
end Go.Proofs.Ytimffpnfhkobkaa
