/- The laws LexTells and LexLong return true at every input that can be read. -/
import Derived.Test.YtkpgjgmlhcipeaaDoorLTel
import Derived.Test.YtkpgjgmlhcipeaaDoorLLng
namespace Go.Proofs.YtkpgjgmlhcipeaaDoor
open Go.RowKit
theorem tells_walk (a0 : ByteArray) (a1 : Int) (w0 : a0.size ≤ 140737488351232) (_w1 : (Lit.int .i64 a1).wf = true) (W : World) {m0 : Int} (hM : W.cell? ⟨0, 0, none⟩ = some (.int .i64 m0)) (hT : Tab W) :
    Calls Tryd.prog 4 #[.string a0, .int .i64 a1] W fun e w' => e = .returned (.bool true) ∧ Below W.heap.size W w' :=
  tells_core a0 a1 w0 hM hT
theorem long_walk (a0 : ByteArray) (a1 : Bool) (w0 : a0.size ≤ 140737488351232) (W : World) {m0 : Int} (hM : W.cell? ⟨0, 0, none⟩ = some (.int .i64 m0)) (hT : Tab W) :
    Calls Tryd.prog 6 #[.string a0, .bool a1] W fun e w' => e = .returned (.bool true) ∧ Below W.heap.size W w' :=
  long_core a0 a1 w0 hM hT
end Go.Proofs.YtkpgjgmlhcipeaaDoor
