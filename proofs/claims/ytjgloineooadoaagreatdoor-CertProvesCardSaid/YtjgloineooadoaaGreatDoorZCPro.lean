/- The law CertProves returns true at every input that can be read. -/
import Derived.Test.YtjgloineooadoaaGreatDoorZCPrA
import Derived.Test.YtjgloineooadoaaGreatDoorZOpn3
namespace Go.Proofs.YtjgloineooadoaaGreatDoor
open Go.RowKit
theorem cpro_walk {H : Type} {enc : TypeId × Value → H} (cs0 : Array Value) (W : World) (hs0 : cs0.size = Tryz.prog.cellsOf 50) (R0 : Rd enc Tryz.prog W 0 (fun _ => true) true 50 cs0.toList) {m0 : Int} (hM : W.cell? ⟨0, 0, none⟩ = some (.int .i64 m0)) :
    Calls Tryz.prog 6 #[.agg cs0] W fun e w' => e = .returned (.bool true) ∧ Below W.heap.size W w' := by
  obtain ⟨N, V, VX, VF, VY, T, xs, fs, ys, rfl, hN, ⟨h, hs, hl⟩, ⟨x1, x2⟩, ⟨f1, f2⟩, ⟨y1, y2⟩⟩ := R0.proofV hs0
  exact certProves_core N hN h hs hl x1 f1 y1 x2 f2 y2 hM
end Go.Proofs.YtjgloineooadoaaGreatDoor
