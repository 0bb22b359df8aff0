/-
  No cell of these rows narrows 'for every input' (looked for: loops, veiled, ifaces, maps, wideKeys, modest, calm, conditions, laid).
  DERIVED. THE GIVEN ROWS OF THIS SEAT. 10 by the template 'for every input the law returns true; each argument reads behind the call as it read before'; 0 by the template 'total and deterministic' (their statements: YtimffpnfhkobkaaTotals.lean).
  GIVEN WITH THE SEED: the statements are not yours to turn. If you find one false, say at which input.
  Laid BY PROGRAM, IN A SANDBOX (cutbox-rows.mjs): the forced cells as the released guide's own fill.sh prints them over the translation b1be2c4e3d98134b… (all of the seat's roots in one cut). By AI agents, Wed Nov 11 2026. No macro, syntax, notation, axiom, sorry.
-/
import Derived.Test.YtimffpnfhkobkaaChecked
import GoSem.Claim
import GoSem.ClaimJoined
import GoSem.ClaimMapViews
import Derived.JoinedTies
import Derived.KernelRfl
namespace Go.Proofs.Ytimffpnfhkobkaa
/- THE CELL 'sum', in the pinned program and in every row, IS THE sha256 OF THE DUMP (.gsa) THAT YtimffpnfhkobkaaProg.lean LOADS. Nothing in Lean hashes anything: it is a label: what it is worth is what the hold of that sum in a sandbox is worth. -/
noncomputable def Try.pinned : Pinned := { name := "ytimffpnfhkobkaa", sum := "b1be2c4e3d98134bbf6de137152e66af53381572c14b5e25ba24033f310c1b93", checked := Try.checked }
namespace Rows
def none {H : Type} : Left H := { results := [], args := [] }

/-- 'muntinlaw03.DagOrders': WHATEVER THE INPUT: true; the input reads as it did. -/
def dagOrdersSpec : ChangeSpec := { name := "dagOrders", fn := fun _ => fun
  | [d1, d2] => { results := [.lit (.bool true)], args := [d1, d2] }
  | _ => none }
def dagOrdersRow : OpenClaim := { program := "ytimffpnfhkobkaa", sum := "b1be2c4e3d98134bbf6de137152e66af53381572c14b5e25ba24033f310c1b93", func := "muntin/muntinlaw03.DagOrders", spec := "dagOrders", unfollowed := true, recurses := true, apart := false }
def DagOrdersSaid : Prop := dagOrdersRow.holds Try.pinned (OpenSpec.ofChange dagOrdersSpec)

/-- ITS FALSE NEIGHBOUR: 'it returns false'. Refute it at one input. -/
def dagOrdersWrong : ChangeSpec := { name := "dagOrders", fn := fun _ => fun
  | [d1, d2] => { results := [.lit (.bool false)], args := [d1, d2] }
  | _ => none }
def DagOrdersWrongFalsely : Prop := dagOrdersRow.holds Try.pinned (OpenSpec.ofChange dagOrdersWrong)

/-- 'muntinlaw03.DagCosts': WHATEVER THE INPUT: true; the input reads as it did. -/
def dagCostsSpec : ChangeSpec := { name := "dagCosts", fn := fun _ => fun
  | [d1, d2] => { results := [.lit (.bool true)], args := [d1, d2] }
  | _ => none }
def dagCostsRow : OpenClaim := { program := "ytimffpnfhkobkaa", sum := "b1be2c4e3d98134bbf6de137152e66af53381572c14b5e25ba24033f310c1b93", func := "muntin/muntinlaw03.DagCosts", spec := "dagCosts", unfollowed := true, recurses := true, apart := false }
def DagCostsSaid : Prop := dagCostsRow.holds Try.pinned (OpenSpec.ofChange dagCostsSpec)

/-- ITS FALSE NEIGHBOUR: 'it returns false'. Refute it at one input. -/
def dagCostsWrong : ChangeSpec := { name := "dagCosts", fn := fun _ => fun
  | [d1, d2] => { results := [.lit (.bool false)], args := [d1, d2] }
  | _ => none }
def DagCostsWrongFalsely : Prop := dagCostsRow.holds Try.pinned (OpenSpec.ofChange dagCostsWrong)

/-- 'muntinlaw03.DagRanks': WHATEVER THE INPUT: true; the input reads as it did. -/
def dagRanksSpec : ChangeSpec := { name := "dagRanks", fn := fun _ => fun
  | [d1, d2] => { results := [.lit (.bool true)], args := [d1, d2] }
  | _ => none }
def dagRanksRow : OpenClaim := { program := "ytimffpnfhkobkaa", sum := "b1be2c4e3d98134bbf6de137152e66af53381572c14b5e25ba24033f310c1b93", func := "muntin/muntinlaw03.DagRanks", spec := "dagRanks", unfollowed := true, recurses := true, apart := false }
def DagRanksSaid : Prop := dagRanksRow.holds Try.pinned (OpenSpec.ofChange dagRanksSpec)

/-- ITS FALSE NEIGHBOUR: 'it returns false'. Refute it at one input. -/
def dagRanksWrong : ChangeSpec := { name := "dagRanks", fn := fun _ => fun
  | [d1, d2] => { results := [.lit (.bool false)], args := [d1, d2] }
  | _ => none }
def DagRanksWrongFalsely : Prop := dagRanksRow.holds Try.pinned (OpenSpec.ofChange dagRanksWrong)

/-- 'muntinlaw03.DagMany': WHATEVER THE INPUT: true; the input reads as it did. -/
def dagManySpec : ChangeSpec := { name := "dagMany", fn := fun _ => fun
  | [d1, d2] => { results := [.lit (.bool true)], args := [d1, d2] }
  | _ => none }
def dagManyRow : OpenClaim := { program := "ytimffpnfhkobkaa", sum := "b1be2c4e3d98134bbf6de137152e66af53381572c14b5e25ba24033f310c1b93", func := "muntin/muntinlaw03.DagMany", spec := "dagMany", unfollowed := true, recurses := true, apart := false }
def DagManySaid : Prop := dagManyRow.holds Try.pinned (OpenSpec.ofChange dagManySpec)

/-- ITS FALSE NEIGHBOUR: 'it returns false'. Refute it at one input. -/
def dagManyWrong : ChangeSpec := { name := "dagMany", fn := fun _ => fun
  | [d1, d2] => { results := [.lit (.bool false)], args := [d1, d2] }
  | _ => none }
def DagManyWrongFalsely : Prop := dagManyRow.holds Try.pinned (OpenSpec.ofChange dagManyWrong)

/-- 'muntinlaw03.DagMoved': WHATEVER THE INPUT: true; the input reads as it did. -/
def dagMovedSpec : ChangeSpec := { name := "dagMoved", fn := fun _ => fun
  | [d1, d2, d3] => { results := [.lit (.bool true)], args := [d1, d2, d3] }
  | _ => none }
def dagMovedRow : OpenClaim := { program := "ytimffpnfhkobkaa", sum := "b1be2c4e3d98134bbf6de137152e66af53381572c14b5e25ba24033f310c1b93", func := "muntin/muntinlaw03.DagMoved", spec := "dagMoved", unfollowed := true, recurses := true, apart := false }
def DagMovedSaid : Prop := dagMovedRow.holds Try.pinned (OpenSpec.ofChange dagMovedSpec)

/-- ITS FALSE NEIGHBOUR: 'it returns false'. Refute it at one input. -/
def dagMovedWrong : ChangeSpec := { name := "dagMoved", fn := fun _ => fun
  | [d1, d2, d3] => { results := [.lit (.bool false)], args := [d1, d2, d3] }
  | _ => none }
def DagMovedWrongFalsely : Prop := dagMovedRow.holds Try.pinned (OpenSpec.ofChange dagMovedWrong)

/-- 'muntinlaw05.FlowFlows': WHATEVER THE INPUT: true; the input reads as it did. -/
def flowFlowsSpec : ChangeSpec := { name := "flowFlows", fn := fun _ => fun
  | [d1, d2] => { results := [.lit (.bool true)], args := [d1, d2] }
  | _ => none }
def flowFlowsRow : OpenClaim := { program := "ytimffpnfhkobkaa", sum := "b1be2c4e3d98134bbf6de137152e66af53381572c14b5e25ba24033f310c1b93", func := "muntin/muntinlaw05.FlowFlows", spec := "flowFlows", unfollowed := true, recurses := true, apart := false }
def FlowFlowsSaid : Prop := flowFlowsRow.holds Try.pinned (OpenSpec.ofChange flowFlowsSpec)

/-- ITS FALSE NEIGHBOUR: 'it returns false'. Refute it at one input. -/
def flowFlowsWrong : ChangeSpec := { name := "flowFlows", fn := fun _ => fun
  | [d1, d2] => { results := [.lit (.bool false)], args := [d1, d2] }
  | _ => none }
def FlowFlowsWrongFalsely : Prop := flowFlowsRow.holds Try.pinned (OpenSpec.ofChange flowFlowsWrong)

/-- 'muntinlaw05.FlowSolves': WHATEVER THE INPUT: true; the input reads as it did. -/
def flowSolvesSpec : ChangeSpec := { name := "flowSolves", fn := fun _ => fun
  | [d1, d2] => { results := [.lit (.bool true)], args := [d1, d2] }
  | _ => none }
def flowSolvesRow : OpenClaim := { program := "ytimffpnfhkobkaa", sum := "b1be2c4e3d98134bbf6de137152e66af53381572c14b5e25ba24033f310c1b93", func := "muntin/muntinlaw05.FlowSolves", spec := "flowSolves", unfollowed := true, recurses := true, apart := false }
def FlowSolvesSaid : Prop := flowSolvesRow.holds Try.pinned (OpenSpec.ofChange flowSolvesSpec)

/-- ITS FALSE NEIGHBOUR: 'it returns false'. Refute it at one input. -/
def flowSolvesWrong : ChangeSpec := { name := "flowSolves", fn := fun _ => fun
  | [d1, d2] => { results := [.lit (.bool false)], args := [d1, d2] }
  | _ => none }
def FlowSolvesWrongFalsely : Prop := flowSolvesRow.holds Try.pinned (OpenSpec.ofChange flowSolvesWrong)

/-- 'muntinlaw05.FlowBest': WHATEVER THE INPUT: true; the input reads as it did. -/
def flowBestSpec : ChangeSpec := { name := "flowBest", fn := fun _ => fun
  | [d1, d2] => { results := [.lit (.bool true)], args := [d1, d2] }
  | _ => none }
def flowBestRow : OpenClaim := { program := "ytimffpnfhkobkaa", sum := "b1be2c4e3d98134bbf6de137152e66af53381572c14b5e25ba24033f310c1b93", func := "muntin/muntinlaw05.FlowBest", spec := "flowBest", unfollowed := true, recurses := true, apart := false }
def FlowBestSaid : Prop := flowBestRow.holds Try.pinned (OpenSpec.ofChange flowBestSpec)

/-- ITS FALSE NEIGHBOUR: 'it returns false'. Refute it at one input. -/
def flowBestWrong : ChangeSpec := { name := "flowBest", fn := fun _ => fun
  | [d1, d2] => { results := [.lit (.bool false)], args := [d1, d2] }
  | _ => none }
def FlowBestWrongFalsely : Prop := flowBestRow.holds Try.pinned (OpenSpec.ofChange flowBestWrong)

/-- 'muntinlaw05.FlowScale': WHATEVER THE INPUT: true; the input reads as it did. -/
def flowScaleSpec : ChangeSpec := { name := "flowScale", fn := fun _ => fun
  | [d1, d2, d3] => { results := [.lit (.bool true)], args := [d1, d2, d3] }
  | _ => none }
def flowScaleRow : OpenClaim := { program := "ytimffpnfhkobkaa", sum := "b1be2c4e3d98134bbf6de137152e66af53381572c14b5e25ba24033f310c1b93", func := "muntin/muntinlaw05.FlowScale", spec := "flowScale", unfollowed := true, recurses := true, apart := false }
def FlowScaleSaid : Prop := flowScaleRow.holds Try.pinned (OpenSpec.ofChange flowScaleSpec)

/-- ITS FALSE NEIGHBOUR: 'it returns false'. Refute it at one input. -/
def flowScaleWrong : ChangeSpec := { name := "flowScale", fn := fun _ => fun
  | [d1, d2, d3] => { results := [.lit (.bool false)], args := [d1, d2, d3] }
  | _ => none }
def FlowScaleWrongFalsely : Prop := flowScaleRow.holds Try.pinned (OpenSpec.ofChange flowScaleWrong)

/-- 'muntinlaw05.FlowTurned': WHATEVER THE INPUT: true; the input reads as it did. -/
def flowTurnedSpec : ChangeSpec := { name := "flowTurned", fn := fun _ => fun
  | [d1, d2] => { results := [.lit (.bool true)], args := [d1, d2] }
  | _ => none }
def flowTurnedRow : OpenClaim := { program := "ytimffpnfhkobkaa", sum := "b1be2c4e3d98134bbf6de137152e66af53381572c14b5e25ba24033f310c1b93", func := "muntin/muntinlaw05.FlowTurned", spec := "flowTurned", unfollowed := true, recurses := true, apart := false }
def FlowTurnedSaid : Prop := flowTurnedRow.holds Try.pinned (OpenSpec.ofChange flowTurnedSpec)

/-- ITS FALSE NEIGHBOUR: 'it returns false'. Refute it at one input. -/
def flowTurnedWrong : ChangeSpec := { name := "flowTurned", fn := fun _ => fun
  | [d1, d2] => { results := [.lit (.bool false)], args := [d1, d2] }
  | _ => none }
def FlowTurnedWrongFalsely : Prop := flowTurnedRow.holds Try.pinned (OpenSpec.ofChange flowTurnedWrong)

/- THE SECOND FORM. 'bulk': how many values and letters a reading holds, each counted each time it is reached (what is shared counts as often as it is met; a slice's spare places count too). A statement '..UptoSaid' is the law's where the arguments, and the package variables that the reading takes, are together of bulk at most 1048576: NARROWER than '..Said'. Prove '..Said' where nothing that the law and all that it calls make is longer than what came in: it says more and counts as full. Else prove '..UptoSaid'. A law counts once. -/
mutual
def uptoBulk {H : Type} : DataW H → Nat
  | .lit (.string bytes) => bytes.length + 1
  | .lit _ => 1
  | .nil => 1
  | .ptr d => uptoBulk d + 1
  | .slice elems spare => uptoBulkAll elems + uptoBulkAll spare + 1
  | .agg parts => uptoBulkAll parts + 1
  | .iface _ d => uptoBulk d + 1
  | .map entries => uptoBulkEntries entries + 1
  | .held _ => 1
def uptoBulkAll {H : Type} : List (DataW H) → Nat
  | [] => 0
  | d :: r => uptoBulk d + uptoBulkAll r
def uptoBulkEntries {H : Type} : List (Lit × DataW H) → Nat
  | [] => 0
  | x :: r => uptoBulkEntry x + uptoBulkEntries r
def uptoBulkEntry {H : Type} : Lit × DataW H → Nat
  | (.string bytes, d) => bytes.length + uptoBulk d + 1
  | (_, d) => uptoBulk d + 1
 end
def uptoSmall : (H : Type) → List (DataW H) → Bool := fun _ ds => decide (uptoBulkAll ds ≤ 1048576)
def OpenSpec.upto (s : _root_.Go.ChangeSpec) : _root_.Go.OpenSpec := { _root_.Go.OpenSpec.ofChange s with cond := some uptoSmall }

/-- 'muntinlaw03.DagOrders', WHERE WHAT IT READS IS OF BULK AT MOST 1048576: true; the input reads as it did. -/
def dagOrdersUptoRow : OpenClaim := { program := "ytimffpnfhkobkaa", sum := "b1be2c4e3d98134bbf6de137152e66af53381572c14b5e25ba24033f310c1b93", func := "muntin/muntinlaw03.DagOrders", spec := "dagOrders", unfollowed := true, recurses := true, apart := false, narrowed := true }
def DagOrdersUptoSaid : Prop := dagOrdersUptoRow.holds Try.pinned (OpenSpec.upto dagOrdersSpec)

/-- 'muntinlaw03.DagCosts', WHERE WHAT IT READS IS OF BULK AT MOST 1048576: true; the input reads as it did. -/
def dagCostsUptoRow : OpenClaim := { program := "ytimffpnfhkobkaa", sum := "b1be2c4e3d98134bbf6de137152e66af53381572c14b5e25ba24033f310c1b93", func := "muntin/muntinlaw03.DagCosts", spec := "dagCosts", unfollowed := true, recurses := true, apart := false, narrowed := true }
def DagCostsUptoSaid : Prop := dagCostsUptoRow.holds Try.pinned (OpenSpec.upto dagCostsSpec)

/-- 'muntinlaw03.DagRanks', WHERE WHAT IT READS IS OF BULK AT MOST 1048576: true; the input reads as it did. -/
def dagRanksUptoRow : OpenClaim := { program := "ytimffpnfhkobkaa", sum := "b1be2c4e3d98134bbf6de137152e66af53381572c14b5e25ba24033f310c1b93", func := "muntin/muntinlaw03.DagRanks", spec := "dagRanks", unfollowed := true, recurses := true, apart := false, narrowed := true }
def DagRanksUptoSaid : Prop := dagRanksUptoRow.holds Try.pinned (OpenSpec.upto dagRanksSpec)

/-- 'muntinlaw03.DagMany', WHERE WHAT IT READS IS OF BULK AT MOST 1048576: true; the input reads as it did. -/
def dagManyUptoRow : OpenClaim := { program := "ytimffpnfhkobkaa", sum := "b1be2c4e3d98134bbf6de137152e66af53381572c14b5e25ba24033f310c1b93", func := "muntin/muntinlaw03.DagMany", spec := "dagMany", unfollowed := true, recurses := true, apart := false, narrowed := true }
def DagManyUptoSaid : Prop := dagManyUptoRow.holds Try.pinned (OpenSpec.upto dagManySpec)

/-- 'muntinlaw03.DagMoved', WHERE WHAT IT READS IS OF BULK AT MOST 1048576: true; the input reads as it did. -/
def dagMovedUptoRow : OpenClaim := { program := "ytimffpnfhkobkaa", sum := "b1be2c4e3d98134bbf6de137152e66af53381572c14b5e25ba24033f310c1b93", func := "muntin/muntinlaw03.DagMoved", spec := "dagMoved", unfollowed := true, recurses := true, apart := false, narrowed := true }
def DagMovedUptoSaid : Prop := dagMovedUptoRow.holds Try.pinned (OpenSpec.upto dagMovedSpec)

/-- 'muntinlaw05.FlowFlows', WHERE WHAT IT READS IS OF BULK AT MOST 1048576: true; the input reads as it did. -/
def flowFlowsUptoRow : OpenClaim := { program := "ytimffpnfhkobkaa", sum := "b1be2c4e3d98134bbf6de137152e66af53381572c14b5e25ba24033f310c1b93", func := "muntin/muntinlaw05.FlowFlows", spec := "flowFlows", unfollowed := true, recurses := true, apart := false, narrowed := true }
def FlowFlowsUptoSaid : Prop := flowFlowsUptoRow.holds Try.pinned (OpenSpec.upto flowFlowsSpec)

/-- 'muntinlaw05.FlowSolves', WHERE WHAT IT READS IS OF BULK AT MOST 1048576: true; the input reads as it did. -/
def flowSolvesUptoRow : OpenClaim := { program := "ytimffpnfhkobkaa", sum := "b1be2c4e3d98134bbf6de137152e66af53381572c14b5e25ba24033f310c1b93", func := "muntin/muntinlaw05.FlowSolves", spec := "flowSolves", unfollowed := true, recurses := true, apart := false, narrowed := true }
def FlowSolvesUptoSaid : Prop := flowSolvesUptoRow.holds Try.pinned (OpenSpec.upto flowSolvesSpec)

/-- 'muntinlaw05.FlowBest', WHERE WHAT IT READS IS OF BULK AT MOST 1048576: true; the input reads as it did. -/
def flowBestUptoRow : OpenClaim := { program := "ytimffpnfhkobkaa", sum := "b1be2c4e3d98134bbf6de137152e66af53381572c14b5e25ba24033f310c1b93", func := "muntin/muntinlaw05.FlowBest", spec := "flowBest", unfollowed := true, recurses := true, apart := false, narrowed := true }
def FlowBestUptoSaid : Prop := flowBestUptoRow.holds Try.pinned (OpenSpec.upto flowBestSpec)

/-- 'muntinlaw05.FlowScale', WHERE WHAT IT READS IS OF BULK AT MOST 1048576: true; the input reads as it did. -/
def flowScaleUptoRow : OpenClaim := { program := "ytimffpnfhkobkaa", sum := "b1be2c4e3d98134bbf6de137152e66af53381572c14b5e25ba24033f310c1b93", func := "muntin/muntinlaw05.FlowScale", spec := "flowScale", unfollowed := true, recurses := true, apart := false, narrowed := true }
def FlowScaleUptoSaid : Prop := flowScaleUptoRow.holds Try.pinned (OpenSpec.upto flowScaleSpec)

/-- 'muntinlaw05.FlowTurned', WHERE WHAT IT READS IS OF BULK AT MOST 1048576: true; the input reads as it did. -/
def flowTurnedUptoRow : OpenClaim := { program := "ytimffpnfhkobkaa", sum := "b1be2c4e3d98134bbf6de137152e66af53381572c14b5e25ba24033f310c1b93", func := "muntin/muntinlaw05.FlowTurned", spec := "flowTurned", unfollowed := true, recurses := true, apart := false, narrowed := true }
def FlowTurnedUptoSaid : Prop := flowTurnedUptoRow.holds Try.pinned (OpenSpec.upto flowTurnedSpec)

end Rows
end Go.Proofs.Ytimffpnfhkobkaa
