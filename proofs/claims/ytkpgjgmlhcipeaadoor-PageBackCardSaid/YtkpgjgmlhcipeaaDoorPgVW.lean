/- The law PageBack returns true at every text that can be read. -/
import Derived.Test.YtkpgjgmlhcipeaaDoorPgV
namespace Go.Proofs.YtkpgjgmlhcipeaaDoor
open Go.RowKit
theorem pback_walk (a0 : ByteArray) (w0 : a0.size ≤ 140737488351232) (W : World) {m0 : Int} (hM : W.cell? ⟨0, 0, none⟩ = some (.int .i64 m0)) (hT : Tab W) :
    Calls Tryd.prog 9 #[.string a0] W fun e w' => e = .returned (.bool true) ∧ Below W.heap.size W w' :=
  pback_core a0 w0 hM hT
end Go.Proofs.YtkpgjgmlhcipeaaDoor
