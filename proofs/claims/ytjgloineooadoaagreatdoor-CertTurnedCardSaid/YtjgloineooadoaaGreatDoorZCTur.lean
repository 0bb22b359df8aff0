/- The law CertTurned returns true at every input that can be read. -/
import Derived.Test.YtjgloineooadoaaGreatDoorZCTuA
import Derived.Test.YtjgloineooadoaaGreatDoorMgZ19
namespace Go.Proofs.YtjgloineooadoaaGreatDoor
open Go.RowKit
theorem ctur_walk {H : Type} {enc : TypeId × Value → H} (cs0 cs1 : Array Value) (W : World) (hs0 : cs0.size = Tryz.prog.cellsOf 24) (R0 : Rd enc Tryz.prog W 0 (fun _ => true) true 24 cs0.toList) (hs1 : cs1.size = Tryz.prog.cellsOf 24) (R1 : Rd enc Tryz.prog W 0 (fun _ => true) true 24 cs1.toList) {m0 : Int} (hM : W.cell? ⟨0, 0, none⟩ = some (.int .i64 m0)) :
    Calls Tryz.prog 4 #[.agg cs0, .agg cs1] W fun e w' => e = .returned (.bool true) ∧ Below W.heap.size W w' := by
  obtain ⟨N, V, T, rfl, hN, h, hs, hl⟩ := R0.raw hs0
  obtain ⟨N', V', T', rfl, hN', h', hs', hl'⟩ := R1.raw hs1
  exact certTurned_core N N' hN hN' h hs hl h' hs' hl' hM
end Go.Proofs.YtjgloineooadoaaGreatDoor
