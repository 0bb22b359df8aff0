/- The law CertSolves returns true at every input that can be read. -/
import Derived.Test.YtjgloineooadoaaGreatDoorZCSoA
import Derived.Test.YtjgloineooadoaaGreatDoorMgZ19
namespace Go.Proofs.YtjgloineooadoaaGreatDoor
open Go.RowKit
theorem csol_walk {H : Type} {enc : TypeId × Value → H} (cs0 : Array Value) (a1 a2 : Int) (W : World) (hs0 : cs0.size = Tryz.prog.cellsOf 24) (R0 : Rd enc Tryz.prog W 0 (fun _ => true) true 24 cs0.toList) (w1 : (Lit.int .i16 a1).wf = true) (w2 : (Lit.int .u8 a2).wf = true) {m0 : Int} (hM : W.cell? ⟨0, 0, none⟩ = some (.int .i64 m0)) :
    Calls Tryz.prog 3 #[.agg cs0, .int .i16 a1, .int .u8 a2] W fun e w' => e = .returned (.bool true) ∧ Below W.heap.size W w' := by
  obtain ⟨N, V, T, rfl, hN, h, hs, hl⟩ := R0.raw hs0
  have hb : -32768 ≤ a1 ∧ a1 ≤ 32767 := by simpa [Lit.wf, IntKind.min, IntKind.max, IntKind.signed, IntKind.bits] using w1
  obtain ⟨a, rfl, ha⟩ := byte_of w2
  exact certSolves_core N a1 a hN hb (by omega) h hs hl hM
end Go.Proofs.YtjgloineooadoaaGreatDoor
