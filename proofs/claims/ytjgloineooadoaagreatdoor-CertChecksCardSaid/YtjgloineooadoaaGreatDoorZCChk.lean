/- The law CertChecks returns true at every input that can be read. -/
import Derived.Test.YtjgloineooadoaaGreatDoorZCChA
import Derived.Test.YtjgloineooadoaaGreatDoorZOpn3
namespace Go.Proofs.YtjgloineooadoaaGreatDoor
open Go.RowKit
theorem cchk_walk {H : Type} {enc : TypeId × Value → H} (cs0 : Array Value) (W : World) (hs0 : cs0.size = Tryz.prog.cellsOf 46) (R0 : Rd enc Tryz.prog W 0 (fun _ => true) true 46 cs0.toList) {m0 : Int} (hM : W.cell? ⟨0, 0, none⟩ = some (.int .i64 m0)) :
    Calls Tryz.prog 5 #[.agg cs0] W fun e w' => e = .returned (.bool true) ∧ Below W.heap.size W w' := by
  obtain ⟨N, a, b, V, VX, VF, T, xs, fs, rfl, ⟨hN, ha, hb⟩, ⟨h, hs, hl⟩, ⟨x1, x2⟩, ⟨f1, f2⟩⟩ := R0.caseV hs0
  exact certChecks_core N a b hN ha hb h hs hl x1 f1 x2 f2 hM
end Go.Proofs.YtjgloineooadoaaGreatDoor
