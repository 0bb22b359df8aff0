/-
  No cell of these rows narrows 'for every input' (looked for: loops, veiled, ifaces, maps, wideKeys, modest, calm, conditions, laid).
  DERIVED. THE GIVEN ROWS OF THIS SEAT. 8 by the template 'for every input the law returns true; each argument reads behind the call as it read before'; 0 by the template 'total and deterministic' (their statements: YtmnfefebbadflaaTotals.lean).
  GIVEN WITH THE SEED: the statements are not yours to turn. If you find one false, say at which input.
  Laid BY PROGRAM, IN A SANDBOX (cutbox-rows.mjs): the forced cells as the released guide's own fill.sh prints them over the translation 8f4bcdfbd6e11753… (all of the seat's roots in one cut). By AI agents, Wed Nov 11 2026. No macro, syntax, notation, axiom, sorry.
-/
import Derived.Test.YtmnfefebbadflaaChecked
import GoSem.Claim
import GoSem.ClaimJoined
import GoSem.ClaimMapViews
import Derived.JoinedTies
import Derived.KernelRfl
namespace Go.Proofs.Ytmnfefebbadflaa
/- THE CELL 'sum', in the pinned program and in every row, IS THE sha256 OF THE DUMP (.gsa) THAT YtmnfefebbadflaaProg.lean LOADS. Nothing in Lean hashes anything: it is a label: what it is worth is what the hold of that sum in a sandbox is worth. -/
noncomputable def Try.pinned : Pinned := { name := "ytmnfefebbadflaa", sum := "8f4bcdfbd6e11753c4b2fff01b150d2f43c5804c7f196c1d4339eb01ec855bab", checked := Try.checked }
namespace Rows
def none {H : Type} : Left H := { results := [], args := [] }

/-- 'muntinlaw02.HeapPlays': WHATEVER THE INPUT: true; the input reads as it did. -/
def heapPlaysSpec : ChangeSpec := { name := "heapPlays", fn := fun _ => fun
  | [d] => { results := [.lit (.bool true)], args := [d] }
  | _ => none }
def heapPlaysRow : OpenClaim := { program := "ytmnfefebbadflaa", sum := "8f4bcdfbd6e11753c4b2fff01b150d2f43c5804c7f196c1d4339eb01ec855bab", func := "muntin/muntinlaw02.HeapPlays", spec := "heapPlays", unfollowed := true, recurses := true, apart := false }
def HeapPlaysSaid : Prop := heapPlaysRow.holds Try.pinned (OpenSpec.ofChange heapPlaysSpec)

/-- ITS FALSE NEIGHBOUR: 'it returns false'. Refute it at one input. -/
def heapPlaysWrong : ChangeSpec := { name := "heapPlays", fn := fun _ => fun
  | [d] => { results := [.lit (.bool false)], args := [d] }
  | _ => none }
def HeapPlaysWrongFalsely : Prop := heapPlaysRow.holds Try.pinned (OpenSpec.ofChange heapPlaysWrong)

/-- 'muntinlaw02.HeapLeast': WHATEVER THE INPUT: true; the input reads as it did. -/
def heapLeastSpec : ChangeSpec := { name := "heapLeast", fn := fun _ => fun
  | [d] => { results := [.lit (.bool true)], args := [d] }
  | _ => none }
def heapLeastRow : OpenClaim := { program := "ytmnfefebbadflaa", sum := "8f4bcdfbd6e11753c4b2fff01b150d2f43c5804c7f196c1d4339eb01ec855bab", func := "muntin/muntinlaw02.HeapLeast", spec := "heapLeast", unfollowed := true, recurses := true, apart := false }
def HeapLeastSaid : Prop := heapLeastRow.holds Try.pinned (OpenSpec.ofChange heapLeastSpec)

/-- ITS FALSE NEIGHBOUR: 'it returns false'. Refute it at one input. -/
def heapLeastWrong : ChangeSpec := { name := "heapLeast", fn := fun _ => fun
  | [d] => { results := [.lit (.bool false)], args := [d] }
  | _ => none }
def HeapLeastWrongFalsely : Prop := heapLeastRow.holds Try.pinned (OpenSpec.ofChange heapLeastWrong)

/-- 'muntinlaw18.ReachOrder': WHATEVER THE INPUT: true; the input reads as it did. -/
def reachOrderSpec : ChangeSpec := { name := "reachOrder", fn := fun _ => fun
  | [d] => { results := [.lit (.bool true)], args := [d] }
  | _ => none }
def reachOrderRow : OpenClaim := { program := "ytmnfefebbadflaa", sum := "8f4bcdfbd6e11753c4b2fff01b150d2f43c5804c7f196c1d4339eb01ec855bab", func := "muntin/muntinlaw18.ReachOrder", spec := "reachOrder", apart := false }
def ReachOrderSaid : Prop := reachOrderRow.holds Try.pinned (OpenSpec.ofChange reachOrderSpec)

/-- ITS FALSE NEIGHBOUR: 'it returns false'. Refute it at one input. -/
def reachOrderWrong : ChangeSpec := { name := "reachOrder", fn := fun _ => fun
  | [d] => { results := [.lit (.bool false)], args := [d] }
  | _ => none }
def ReachOrderWrongFalsely : Prop := reachOrderRow.holds Try.pinned (OpenSpec.ofChange reachOrderWrong)

/-- 'muntinlaw18.ReachTells': WHATEVER THE INPUT: true; the input reads as it did. -/
def reachTellsSpec : ChangeSpec := { name := "reachTells", fn := fun _ => fun
  | [d1, d2, d3] => { results := [.lit (.bool true)], args := [d1, d2, d3] }
  | _ => none }
def reachTellsRow : OpenClaim := { program := "ytmnfefebbadflaa", sum := "8f4bcdfbd6e11753c4b2fff01b150d2f43c5804c7f196c1d4339eb01ec855bab", func := "muntin/muntinlaw18.ReachTells", spec := "reachTells", apart := false }
def ReachTellsSaid : Prop := reachTellsRow.holds Try.pinned (OpenSpec.ofChange reachTellsSpec)

/-- ITS FALSE NEIGHBOUR: 'it returns false'. Refute it at one input. -/
def reachTellsWrong : ChangeSpec := { name := "reachTells", fn := fun _ => fun
  | [d1, d2, d3] => { results := [.lit (.bool false)], args := [d1, d2, d3] }
  | _ => none }
def ReachTellsWrongFalsely : Prop := reachTellsRow.holds Try.pinned (OpenSpec.ofChange reachTellsWrong)

/-- 'muntinlaw18.ReachNil': WHATEVER THE INPUT: true; the input reads as it did. -/
def reachNilSpec : ChangeSpec := { name := "reachNil", fn := fun _ => fun
  | [d1, d2] => { results := [.lit (.bool true)], args := [d1, d2] }
  | _ => none }
def reachNilRow : OpenClaim := { program := "ytmnfefebbadflaa", sum := "8f4bcdfbd6e11753c4b2fff01b150d2f43c5804c7f196c1d4339eb01ec855bab", func := "muntin/muntinlaw18.ReachNil", spec := "reachNil", apart := false }
def ReachNilSaid : Prop := reachNilRow.holds Try.pinned (OpenSpec.ofChange reachNilSpec)

/-- ITS FALSE NEIGHBOUR: 'it returns false'. Refute it at one input. -/
def reachNilWrong : ChangeSpec := { name := "reachNil", fn := fun _ => fun
  | [d1, d2] => { results := [.lit (.bool false)], args := [d1, d2] }
  | _ => none }
def ReachNilWrongFalsely : Prop := reachNilRow.holds Try.pinned (OpenSpec.ofChange reachNilWrong)

/-- 'muntinlaw18.ReachTwice': WHATEVER THE INPUT: true; the input reads as it did. -/
def reachTwiceSpec : ChangeSpec := { name := "reachTwice", fn := fun _ => fun
  | [d1, d2] => { results := [.lit (.bool true)], args := [d1, d2] }
  | _ => none }
def reachTwiceRow : OpenClaim := { program := "ytmnfefebbadflaa", sum := "8f4bcdfbd6e11753c4b2fff01b150d2f43c5804c7f196c1d4339eb01ec855bab", func := "muntin/muntinlaw18.ReachTwice", spec := "reachTwice", apart := false }
def ReachTwiceSaid : Prop := reachTwiceRow.holds Try.pinned (OpenSpec.ofChange reachTwiceSpec)

/-- ITS FALSE NEIGHBOUR: 'it returns false'. Refute it at one input. -/
def reachTwiceWrong : ChangeSpec := { name := "reachTwice", fn := fun _ => fun
  | [d1, d2] => { results := [.lit (.bool false)], args := [d1, d2] }
  | _ => none }
def ReachTwiceWrongFalsely : Prop := reachTwiceRow.holds Try.pinned (OpenSpec.ofChange reachTwiceWrong)

/-- 'muntinlaw02.HeapMerges': WHATEVER THE INPUT: true; the input reads as it did. -/
def heapMergesSpec : ChangeSpec := { name := "heapMerges", fn := fun _ => fun
  | [d1, d2] => { results := [.lit (.bool true)], args := [d1, d2] }
  | _ => none }
def heapMergesRow : OpenClaim := { program := "ytmnfefebbadflaa", sum := "8f4bcdfbd6e11753c4b2fff01b150d2f43c5804c7f196c1d4339eb01ec855bab", func := "muntin/muntinlaw02.HeapMerges", spec := "heapMerges", unfollowed := true, recurses := true, apart := false }
def HeapMergesSaid : Prop := heapMergesRow.holds Try.pinned (OpenSpec.ofChange heapMergesSpec)

/-- ITS FALSE NEIGHBOUR: 'it returns false'. Refute it at one input. -/
def heapMergesWrong : ChangeSpec := { name := "heapMerges", fn := fun _ => fun
  | [d1, d2] => { results := [.lit (.bool false)], args := [d1, d2] }
  | _ => none }
def HeapMergesWrongFalsely : Prop := heapMergesRow.holds Try.pinned (OpenSpec.ofChange heapMergesWrong)

/-- 'muntinlaw02.HeapSorts': WHATEVER THE INPUT: true; the input reads as it did. -/
def heapSortsSpec : ChangeSpec := { name := "heapSorts", fn := fun _ => fun
  | [d1, d2] => { results := [.lit (.bool true)], args := [d1, d2] }
  | _ => none }
def heapSortsRow : OpenClaim := { program := "ytmnfefebbadflaa", sum := "8f4bcdfbd6e11753c4b2fff01b150d2f43c5804c7f196c1d4339eb01ec855bab", func := "muntin/muntinlaw02.HeapSorts", spec := "heapSorts", unfollowed := true, recurses := true, apart := false }
def HeapSortsSaid : Prop := heapSortsRow.holds Try.pinned (OpenSpec.ofChange heapSortsSpec)

/-- ITS FALSE NEIGHBOUR: 'it returns false'. Refute it at one input. -/
def heapSortsWrong : ChangeSpec := { name := "heapSorts", fn := fun _ => fun
  | [d1, d2] => { results := [.lit (.bool false)], args := [d1, d2] }
  | _ => none }
def HeapSortsWrongFalsely : Prop := heapSortsRow.holds Try.pinned (OpenSpec.ofChange heapSortsWrong)

/- THE SECOND FORM. 'bulk': how many values and letters a reading holds, each counted each time it is reached (what is shared counts as often as it is met; a slice's spare places count too). A statement '..UptoSaid' is the law's where the arguments, and the package variables that the reading takes, are together of bulk at most 1048576: NARROWER than '..Said'. Prove '..Said' where nothing that the law and all that it calls make is longer than what came in: it says more and counts as full. Else prove '..UptoSaid'. A law counts once. -/
mutual
def uptoBulk {H : Type} : DataW H → Nat
  | .lit (.string bytes) => bytes.length + 1
  | .lit _ => 1
  | .nil => 1
  | .ptr d => uptoBulk d + 1
  | .slice elems spare => uptoBulkAll elems + uptoBulkAll spare + 1
  | .agg parts => uptoBulkAll parts + 1
  | .iface _ d => uptoBulk d + 1
  | .map entries => uptoBulkEntries entries + 1
  | .held _ => 1
def uptoBulkAll {H : Type} : List (DataW H) → Nat
  | [] => 0
  | d :: r => uptoBulk d + uptoBulkAll r
def uptoBulkEntries {H : Type} : List (Lit × DataW H) → Nat
  | [] => 0
  | x :: r => uptoBulkEntry x + uptoBulkEntries r
def uptoBulkEntry {H : Type} : Lit × DataW H → Nat
  | (.string bytes, d) => bytes.length + uptoBulk d + 1
  | (_, d) => uptoBulk d + 1
 end
def uptoSmall : (H : Type) → List (DataW H) → Bool := fun _ ds => decide (uptoBulkAll ds ≤ 1048576)
def OpenSpec.upto (s : _root_.Go.ChangeSpec) : _root_.Go.OpenSpec := { _root_.Go.OpenSpec.ofChange s with cond := some uptoSmall }

/-- 'muntinlaw02.HeapPlays', WHERE WHAT IT READS IS OF BULK AT MOST 1048576: true; the input reads as it did. -/
def heapPlaysUptoRow : OpenClaim := { program := "ytmnfefebbadflaa", sum := "8f4bcdfbd6e11753c4b2fff01b150d2f43c5804c7f196c1d4339eb01ec855bab", func := "muntin/muntinlaw02.HeapPlays", spec := "heapPlays", unfollowed := true, recurses := true, apart := false, narrowed := true }
def HeapPlaysUptoSaid : Prop := heapPlaysUptoRow.holds Try.pinned (OpenSpec.upto heapPlaysSpec)

/-- 'muntinlaw02.HeapLeast', WHERE WHAT IT READS IS OF BULK AT MOST 1048576: true; the input reads as it did. -/
def heapLeastUptoRow : OpenClaim := { program := "ytmnfefebbadflaa", sum := "8f4bcdfbd6e11753c4b2fff01b150d2f43c5804c7f196c1d4339eb01ec855bab", func := "muntin/muntinlaw02.HeapLeast", spec := "heapLeast", unfollowed := true, recurses := true, apart := false, narrowed := true }
def HeapLeastUptoSaid : Prop := heapLeastUptoRow.holds Try.pinned (OpenSpec.upto heapLeastSpec)

/-- 'muntinlaw18.ReachOrder', WHERE WHAT IT READS IS OF BULK AT MOST 1048576: true; the input reads as it did. -/
def reachOrderUptoRow : OpenClaim := { program := "ytmnfefebbadflaa", sum := "8f4bcdfbd6e11753c4b2fff01b150d2f43c5804c7f196c1d4339eb01ec855bab", func := "muntin/muntinlaw18.ReachOrder", spec := "reachOrder", apart := false, narrowed := true }
def ReachOrderUptoSaid : Prop := reachOrderUptoRow.holds Try.pinned (OpenSpec.upto reachOrderSpec)

/-- 'muntinlaw18.ReachTells', WHERE WHAT IT READS IS OF BULK AT MOST 1048576: true; the input reads as it did. -/
def reachTellsUptoRow : OpenClaim := { program := "ytmnfefebbadflaa", sum := "8f4bcdfbd6e11753c4b2fff01b150d2f43c5804c7f196c1d4339eb01ec855bab", func := "muntin/muntinlaw18.ReachTells", spec := "reachTells", apart := false, narrowed := true }
def ReachTellsUptoSaid : Prop := reachTellsUptoRow.holds Try.pinned (OpenSpec.upto reachTellsSpec)

/-- 'muntinlaw18.ReachNil', WHERE WHAT IT READS IS OF BULK AT MOST 1048576: true; the input reads as it did. -/
def reachNilUptoRow : OpenClaim := { program := "ytmnfefebbadflaa", sum := "8f4bcdfbd6e11753c4b2fff01b150d2f43c5804c7f196c1d4339eb01ec855bab", func := "muntin/muntinlaw18.ReachNil", spec := "reachNil", apart := false, narrowed := true }
def ReachNilUptoSaid : Prop := reachNilUptoRow.holds Try.pinned (OpenSpec.upto reachNilSpec)

/-- 'muntinlaw18.ReachTwice', WHERE WHAT IT READS IS OF BULK AT MOST 1048576: true; the input reads as it did. -/
def reachTwiceUptoRow : OpenClaim := { program := "ytmnfefebbadflaa", sum := "8f4bcdfbd6e11753c4b2fff01b150d2f43c5804c7f196c1d4339eb01ec855bab", func := "muntin/muntinlaw18.ReachTwice", spec := "reachTwice", apart := false, narrowed := true }
def ReachTwiceUptoSaid : Prop := reachTwiceUptoRow.holds Try.pinned (OpenSpec.upto reachTwiceSpec)

/-- 'muntinlaw02.HeapMerges', WHERE WHAT IT READS IS OF BULK AT MOST 1048576: true; the input reads as it did. -/
def heapMergesUptoRow : OpenClaim := { program := "ytmnfefebbadflaa", sum := "8f4bcdfbd6e11753c4b2fff01b150d2f43c5804c7f196c1d4339eb01ec855bab", func := "muntin/muntinlaw02.HeapMerges", spec := "heapMerges", unfollowed := true, recurses := true, apart := false, narrowed := true }
def HeapMergesUptoSaid : Prop := heapMergesUptoRow.holds Try.pinned (OpenSpec.upto heapMergesSpec)

/-- 'muntinlaw02.HeapSorts', WHERE WHAT IT READS IS OF BULK AT MOST 1048576: true; the input reads as it did. -/
def heapSortsUptoRow : OpenClaim := { program := "ytmnfefebbadflaa", sum := "8f4bcdfbd6e11753c4b2fff01b150d2f43c5804c7f196c1d4339eb01ec855bab", func := "muntin/muntinlaw02.HeapSorts", spec := "heapSorts", unfollowed := true, recurses := true, apart := false, narrowed := true }
def HeapSortsUptoSaid : Prop := heapSortsUptoRow.holds Try.pinned (OpenSpec.upto heapSortsSpec)

end Rows
end Go.Proofs.Ytmnfefebbadflaa
