/- The law PageMany returns true at every three numbers. -/
import Derived.Test.YtkpgjgmlhcipeaaDoorPgZ
namespace Go.Proofs.YtkpgjgmlhcipeaaDoor
open Go.RowKit
theorem pmany_walk (a0 a1 a2 : Int) (w0 : (Lit.int .u16 a0).wf = true) (w1 : (Lit.int .u16 a1).wf = true) (w2 : (Lit.int .u16 a2).wf = true) (W : World) {m0 : Int} (hM : W.cell? ⟨0, 0, none⟩ = some (.int .i64 m0)) (hT : Tab W) :
    Calls Tryd.prog 11 #[.int .u16 a0, .int .u16 a1, .int .u16 a2] W fun e w' => e = .returned (.bool true) ∧ Below W.heap.size W w' := by
  have h : ∀ a : Int, (Lit.int .u16 a).wf = true → 0 ≤ a := fun a h => by
    have : 0 ≤ a ∧ a ≤ 65535 := (by simpa [Lit.wf] using h : IntKind.u16.min ≤ a ∧ a ≤ IntKind.u16.max)
    exact this.1
  exact pmany_core a0 a1 a2 (h a0 w0) (h a1 w1) (h a2 w2) hM hT
end Go.Proofs.YtkpgjgmlhcipeaaDoor
