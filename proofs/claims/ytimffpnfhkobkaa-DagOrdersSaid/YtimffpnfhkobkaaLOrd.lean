/- The law DagOrders returns true at every input that can be read. -/
import Derived.Test.YtimffpnfhkobkaaLOrds
namespace Go.Proofs.Ytimffpnfhkobkaa
open Go.RowKit
theorem ord_walk {H : Type} {enc : TypeId × Value → H} (a0 : Int) (A1 : Option Addr) (l1 c1 : Nat) (W : World) (w0 : (Lit.int .i64 a0).wf = true) (R1 : Rd enc Try.prog W 0 (fun _ => true) true 22 [.slice A1 l1 c1]) :
    Calls Try.prog 3 #[.int .i64 a0, .slice A1 l1 c1] W fun e w' => e = .returned (.bool true) ∧ Below W.heap.size W w' := by
  obtain ⟨L, rfl, h, hl, _⟩ := R1.arcs
  exact orders_core a0 (int_of w0) h hl
end Go.Proofs.Ytimffpnfhkobkaa
