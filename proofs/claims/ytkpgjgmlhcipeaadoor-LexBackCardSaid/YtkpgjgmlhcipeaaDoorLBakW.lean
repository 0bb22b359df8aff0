/- The law LexBack returns true at every input that can be read. -/
import Derived.Test.YtkpgjgmlhcipeaaDoorLOneW
import Derived.Test.YtkpgjgmlhcipeaaDoorLBak
namespace Go.Proofs.YtkpgjgmlhcipeaaDoor
open Go.RowKit
theorem back_walk (a0 : ByteArray) (a1 : Int) (w0 : a0.size ≤ 140737488351232) (w1 : (Lit.int .i64 a1).wf = true) (W : World) {m0 : Int} (hM : W.cell? ⟨0, 0, none⟩ = some (.int .i64 m0)) (hT : Tab W) :
    Calls Tryd.prog 5 #[.string a0, .int .i64 a1] W fun e w' => e = .returned (.bool true) ∧ Below W.heap.size W w' :=
  back_core a0 a1 w0 (i64_of w1).1 (i64_of w1).2 hM hT
end Go.Proofs.YtkpgjgmlhcipeaaDoor
