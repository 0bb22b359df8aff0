/- The law LexOne returns true at every input that can be read. -/
import Derived.Test.YtkpgjgmlhcipeaaDoorLOne
namespace Go.Proofs.YtkpgjgmlhcipeaaDoor
open Go.RowKit
theorem i64_of {n : Int} (h : (Lit.int .i64 n).wf = true) : -9223372036854775808 ≤ n ∧ n ≤ 9223372036854775807 := by
  simp [Lit.wf, IntKind.min, IntKind.max, IntKind.signed, IntKind.bits] at h
  exact ⟨h.1, by omega⟩
theorem one_walk (a0 : Int) (a1 : ByteArray) (w0 : (Lit.int .i64 a0).wf = true) (_w1 : a1.size ≤ 140737488351232) (W : World) {m0 : Int} (hM : W.cell? ⟨0, 0, none⟩ = some (.int .i64 m0)) (hT : Tab W) :
    Calls Tryd.prog 3 #[.int .i64 a0, .string a1] W fun e w' => e = .returned (.bool true) ∧ Below W.heap.size W w' :=
  one_core a0 a1 (i64_of w0).1 (i64_of w0).2 hM hT
end Go.Proofs.YtkpgjgmlhcipeaaDoor
