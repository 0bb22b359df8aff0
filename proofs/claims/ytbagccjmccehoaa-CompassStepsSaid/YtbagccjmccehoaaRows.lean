/-
  No cell of these rows narrows 'for every input' (looked for: loops, veiled, ifaces, maps, wideKeys, modest, calm, conditions, laid).
  DERIVED. THE GIVEN ROWS OF THIS SEAT. 10 by the template 'for every input the law returns true; each argument reads behind the call as it read before'; 0 by the template 'total and deterministic' (their statements: YtbagccjmccehoaaTotals.lean).
  GIVEN WITH THE SEED: the statements are not yours to turn. If you find one false, say at which input.
  Laid BY PROGRAM, IN A SANDBOX (cutbox-rows.mjs): the forced cells as the released guide's own fill.sh prints them over the translation 394f6ff8874f4e39… (all of the seat's roots in one cut). By AI agents, Wed Nov 11 2026. No macro, syntax, notation, axiom, sorry.
-/
import Derived.Test.YtbagccjmccehoaaChecked
import GoSem.Claim
import GoSem.ClaimJoined
import GoSem.ClaimMapViews
import Derived.JoinedTies
import Derived.KernelRfl
namespace Go.Proofs.Ytbagccjmccehoaa
/- THE CELL 'sum', in the pinned program and in every row, IS THE sha256 OF THE DUMP (.gsa) THAT YtbagccjmccehoaaProg.lean LOADS. Nothing in Lean hashes anything: it is a label: what it is worth is what the hold of that sum in a sandbox is worth. -/
noncomputable def Try.pinned : Pinned := { name := "ytbagccjmccehoaa", sum := "394f6ff8874f4e39111711e1dd557c311e29492f8a951ba623fed3c5605565b5", checked := Try.checked }
namespace Rows
def none {H : Type} : Left H := { results := [], args := [] }

/-- 'muntinlaw12.FaceTells': WHATEVER THE INPUT: true; the input reads as it did. -/
def faceTellsSpec : ChangeSpec := { name := "faceTells", fn := fun _ => fun
  | [d1, d2, d3] => { results := [.lit (.bool true)], args := [d1, d2, d3] }
  | _ => none }
def faceTellsRow : OpenClaim := { program := "ytbagccjmccehoaa", sum := "394f6ff8874f4e39111711e1dd557c311e29492f8a951ba623fed3c5605565b5", func := "muntin/muntinlaw12.FaceTells", spec := "faceTells", plainKeys := false, apart := false }
def FaceTellsSaid : Prop := faceTellsRow.holds Try.pinned (OpenSpec.ofChange faceTellsSpec)

/-- ITS FALSE NEIGHBOUR: 'it returns false'. Refute it at one input. -/
def faceTellsWrong : ChangeSpec := { name := "faceTells", fn := fun _ => fun
  | [d1, d2, d3] => { results := [.lit (.bool false)], args := [d1, d2, d3] }
  | _ => none }
def FaceTellsWrongFalsely : Prop := faceTellsRow.holds Try.pinned (OpenSpec.ofChange faceTellsWrong)

/-- 'muntinlaw12.FaceOnce': WHATEVER THE INPUT: true; the input reads as it did. -/
def faceOnceSpec : ChangeSpec := { name := "faceOnce", fn := fun _ => fun
  | [d] => { results := [.lit (.bool true)], args := [d] }
  | _ => none }
def faceOnceRow : OpenClaim := { program := "ytbagccjmccehoaa", sum := "394f6ff8874f4e39111711e1dd557c311e29492f8a951ba623fed3c5605565b5", func := "muntin/muntinlaw12.FaceOnce", spec := "faceOnce", plainKeys := false, apart := false }
def FaceOnceSaid : Prop := faceOnceRow.holds Try.pinned (OpenSpec.ofChange faceOnceSpec)

/-- ITS FALSE NEIGHBOUR: 'it returns false'. Refute it at one input. -/
def faceOnceWrong : ChangeSpec := { name := "faceOnce", fn := fun _ => fun
  | [d] => { results := [.lit (.bool false)], args := [d] }
  | _ => none }
def FaceOnceWrongFalsely : Prop := faceOnceRow.holds Try.pinned (OpenSpec.ofChange faceOnceWrong)

/-- 'muntinlaw12.FaceSums': WHATEVER THE INPUT: true; the input reads as it did. -/
def faceSumsSpec : ChangeSpec := { name := "faceSums", fn := fun _ => fun
  | [d] => { results := [.lit (.bool true)], args := [d] }
  | _ => none }
def faceSumsRow : OpenClaim := { program := "ytbagccjmccehoaa", sum := "394f6ff8874f4e39111711e1dd557c311e29492f8a951ba623fed3c5605565b5", func := "muntin/muntinlaw12.FaceSums", spec := "faceSums", plainKeys := false, apart := false }
def FaceSumsSaid : Prop := faceSumsRow.holds Try.pinned (OpenSpec.ofChange faceSumsSpec)

/-- ITS FALSE NEIGHBOUR: 'it returns false'. Refute it at one input. -/
def faceSumsWrong : ChangeSpec := { name := "faceSums", fn := fun _ => fun
  | [d] => { results := [.lit (.bool false)], args := [d] }
  | _ => none }
def FaceSumsWrongFalsely : Prop := faceSumsRow.holds Try.pinned (OpenSpec.ofChange faceSumsWrong)

/-- 'muntinlaw12.FaceTurns': WHATEVER THE INPUT: true; the input reads as it did. -/
def faceTurnsSpec : ChangeSpec := { name := "faceTurns", fn := fun _ => fun
  | [d1, d2, d3] => { results := [.lit (.bool true)], args := [d1, d2, d3] }
  | _ => none }
def faceTurnsRow : OpenClaim := { program := "ytbagccjmccehoaa", sum := "394f6ff8874f4e39111711e1dd557c311e29492f8a951ba623fed3c5605565b5", func := "muntin/muntinlaw12.FaceTurns", spec := "faceTurns", plainKeys := false, apart := false }
def FaceTurnsSaid : Prop := faceTurnsRow.holds Try.pinned (OpenSpec.ofChange faceTurnsSpec)

/-- ITS FALSE NEIGHBOUR: 'it returns false'. Refute it at one input. -/
def faceTurnsWrong : ChangeSpec := { name := "faceTurns", fn := fun _ => fun
  | [d1, d2, d3] => { results := [.lit (.bool false)], args := [d1, d2, d3] }
  | _ => none }
def FaceTurnsWrongFalsely : Prop := faceTurnsRow.holds Try.pinned (OpenSpec.ofChange faceTurnsWrong)

/-- 'muntinlaw01.CompassTurns': WHATEVER THE INPUT: true; the input reads as it did. -/
def compassTurnsSpec : ChangeSpec := { name := "compassTurns", fn := fun _ => fun
  | [d1, d2, d3] => { results := [.lit (.bool true)], args := [d1, d2, d3] }
  | _ => none }
def compassTurnsRow : OpenClaim := { program := "ytbagccjmccehoaa", sum := "394f6ff8874f4e39111711e1dd557c311e29492f8a951ba623fed3c5605565b5", func := "muntin/muntinlaw01.CompassTurns", spec := "compassTurns", inPlace := ["internal/bytealg.IndexByteString", "internal/bytealg.IndexString"], named := ["internal/bytealg.MaxLen"], plainKeys := false, apart := false }
def CompassTurnsSaid : Prop := compassTurnsRow.holds Try.pinned (OpenSpec.ofChange compassTurnsSpec)

/-- ITS FALSE NEIGHBOUR: 'it returns false'. Refute it at one input. -/
def compassTurnsWrong : ChangeSpec := { name := "compassTurns", fn := fun _ => fun
  | [d1, d2, d3] => { results := [.lit (.bool false)], args := [d1, d2, d3] }
  | _ => none }
def CompassTurnsWrongFalsely : Prop := compassTurnsRow.holds Try.pinned (OpenSpec.ofChange compassTurnsWrong)

/-- 'muntinlaw01.CompassRound': WHATEVER THE INPUT: true; the input reads as it did. -/
def compassRoundSpec : ChangeSpec := { name := "compassRound", fn := fun _ => fun
  | [d1, d2] => { results := [.lit (.bool true)], args := [d1, d2] }
  | _ => none }
def compassRoundRow : OpenClaim := { program := "ytbagccjmccehoaa", sum := "394f6ff8874f4e39111711e1dd557c311e29492f8a951ba623fed3c5605565b5", func := "muntin/muntinlaw01.CompassRound", spec := "compassRound", inPlace := ["internal/bytealg.IndexByteString", "internal/bytealg.IndexString"], named := ["internal/bytealg.MaxLen"], plainKeys := false, apart := false }
def CompassRoundSaid : Prop := compassRoundRow.holds Try.pinned (OpenSpec.ofChange compassRoundSpec)

/-- ITS FALSE NEIGHBOUR: 'it returns false'. Refute it at one input. -/
def compassRoundWrong : ChangeSpec := { name := "compassRound", fn := fun _ => fun
  | [d1, d2] => { results := [.lit (.bool false)], args := [d1, d2] }
  | _ => none }
def CompassRoundWrongFalsely : Prop := compassRoundRow.holds Try.pinned (OpenSpec.ofChange compassRoundWrong)

/-- 'muntinlaw01.CompassLetters': WHATEVER THE INPUT: true; the input reads as it did. -/
def compassLettersSpec : ChangeSpec := { name := "compassLetters", fn := fun _ => fun
  | [d1, d2] => { results := [.lit (.bool true)], args := [d1, d2] }
  | _ => none }
def compassLettersRow : OpenClaim := { program := "ytbagccjmccehoaa", sum := "394f6ff8874f4e39111711e1dd557c311e29492f8a951ba623fed3c5605565b5", func := "muntin/muntinlaw01.CompassLetters", spec := "compassLetters", inPlace := ["internal/bytealg.IndexByteString", "internal/bytealg.IndexString"], named := ["internal/bytealg.MaxLen"], plainKeys := false, apart := false }
def CompassLettersSaid : Prop := compassLettersRow.holds Try.pinned (OpenSpec.ofChange compassLettersSpec)

/-- ITS FALSE NEIGHBOUR: 'it returns false'. Refute it at one input. -/
def compassLettersWrong : ChangeSpec := { name := "compassLetters", fn := fun _ => fun
  | [d1, d2] => { results := [.lit (.bool false)], args := [d1, d2] }
  | _ => none }
def CompassLettersWrongFalsely : Prop := compassLettersRow.holds Try.pinned (OpenSpec.ofChange compassLettersWrong)

/-- 'muntinlaw01.CompassBetween': WHATEVER THE INPUT: true; the input reads as it did. -/
def compassBetweenSpec : ChangeSpec := { name := "compassBetween", fn := fun _ => fun
  | [d1, d2, d3] => { results := [.lit (.bool true)], args := [d1, d2, d3] }
  | _ => none }
def compassBetweenRow : OpenClaim := { program := "ytbagccjmccehoaa", sum := "394f6ff8874f4e39111711e1dd557c311e29492f8a951ba623fed3c5605565b5", func := "muntin/muntinlaw01.CompassBetween", spec := "compassBetween", inPlace := ["internal/bytealg.IndexByteString", "internal/bytealg.IndexString"], named := ["internal/bytealg.MaxLen"], plainKeys := false, apart := false }
def CompassBetweenSaid : Prop := compassBetweenRow.holds Try.pinned (OpenSpec.ofChange compassBetweenSpec)

/-- ITS FALSE NEIGHBOUR: 'it returns false'. Refute it at one input. -/
def compassBetweenWrong : ChangeSpec := { name := "compassBetween", fn := fun _ => fun
  | [d1, d2, d3] => { results := [.lit (.bool false)], args := [d1, d2, d3] }
  | _ => none }
def CompassBetweenWrongFalsely : Prop := compassBetweenRow.holds Try.pinned (OpenSpec.ofChange compassBetweenWrong)

/-- 'muntinlaw01.CompassSteps': WHATEVER THE INPUT: true; the input reads as it did. -/
def compassStepsSpec : ChangeSpec := { name := "compassSteps", fn := fun _ => fun
  | [d1, d2] => { results := [.lit (.bool true)], args := [d1, d2] }
  | _ => none }
def compassStepsRow : OpenClaim := { program := "ytbagccjmccehoaa", sum := "394f6ff8874f4e39111711e1dd557c311e29492f8a951ba623fed3c5605565b5", func := "muntin/muntinlaw01.CompassSteps", spec := "compassSteps", inPlace := ["internal/bytealg.IndexByteString", "internal/bytealg.IndexString"], named := ["internal/bytealg.MaxLen"], plainKeys := false, apart := false }
def CompassStepsSaid : Prop := compassStepsRow.holds Try.pinned (OpenSpec.ofChange compassStepsSpec)

/-- ITS FALSE NEIGHBOUR: 'it returns false'. Refute it at one input. -/
def compassStepsWrong : ChangeSpec := { name := "compassSteps", fn := fun _ => fun
  | [d1, d2] => { results := [.lit (.bool false)], args := [d1, d2] }
  | _ => none }
def CompassStepsWrongFalsely : Prop := compassStepsRow.holds Try.pinned (OpenSpec.ofChange compassStepsWrong)

/-- 'muntinlaw12.FaceSplits': WHATEVER THE INPUT: true; the input reads as it did. -/
def faceSplitsSpec : ChangeSpec := { name := "faceSplits", fn := fun _ => fun
  | [d1, d2] => { results := [.lit (.bool true)], args := [d1, d2] }
  | _ => none }
def faceSplitsRow : OpenClaim := { program := "ytbagccjmccehoaa", sum := "394f6ff8874f4e39111711e1dd557c311e29492f8a951ba623fed3c5605565b5", func := "muntin/muntinlaw12.FaceSplits", spec := "faceSplits", recurses := true, plainKeys := false, apart := false }
def FaceSplitsSaid : Prop := faceSplitsRow.holds Try.pinned (OpenSpec.ofChange faceSplitsSpec)

/-- ITS FALSE NEIGHBOUR: 'it returns false'. Refute it at one input. -/
def faceSplitsWrong : ChangeSpec := { name := "faceSplits", fn := fun _ => fun
  | [d1, d2] => { results := [.lit (.bool false)], args := [d1, d2] }
  | _ => none }
def FaceSplitsWrongFalsely : Prop := faceSplitsRow.holds Try.pinned (OpenSpec.ofChange faceSplitsWrong)

/- THE SECOND FORM. 'bulk': how many values and letters a reading holds, each counted each time it is reached (what is shared counts as often as it is met; a slice's spare places count too). A statement '..UptoSaid' is the law's where the arguments, and the package variables that the reading takes, are together of bulk at most 1048576: NARROWER than '..Said'. Prove '..Said' where nothing that the law and all that it calls make is longer than what came in: it says more and counts as full. Else prove '..UptoSaid'. A law counts once. -/
mutual
def uptoBulk {H : Type} : DataW H → Nat
  | .lit (.string bytes) => bytes.length + 1
  | .lit _ => 1
  | .nil => 1
  | .ptr d => uptoBulk d + 1
  | .slice elems spare => uptoBulkAll elems + uptoBulkAll spare + 1
  | .agg parts => uptoBulkAll parts + 1
  | .iface _ d => uptoBulk d + 1
  | .map entries => uptoBulkEntries entries + 1
  | .held _ => 1
def uptoBulkAll {H : Type} : List (DataW H) → Nat
  | [] => 0
  | d :: r => uptoBulk d + uptoBulkAll r
def uptoBulkEntries {H : Type} : List (Lit × DataW H) → Nat
  | [] => 0
  | x :: r => uptoBulkEntry x + uptoBulkEntries r
def uptoBulkEntry {H : Type} : Lit × DataW H → Nat
  | (.string bytes, d) => bytes.length + uptoBulk d + 1
  | (_, d) => uptoBulk d + 1
 end
def uptoSmall : (H : Type) → List (DataW H) → Bool := fun _ ds => decide (uptoBulkAll ds ≤ 1048576)
def OpenSpec.upto (s : _root_.Go.ChangeSpec) : _root_.Go.OpenSpec := { _root_.Go.OpenSpec.ofChange s with cond := some uptoSmall }

/-- 'muntinlaw12.FaceTells', WHERE WHAT IT READS IS OF BULK AT MOST 1048576: true; the input reads as it did. -/
def faceTellsUptoRow : OpenClaim := { program := "ytbagccjmccehoaa", sum := "394f6ff8874f4e39111711e1dd557c311e29492f8a951ba623fed3c5605565b5", func := "muntin/muntinlaw12.FaceTells", spec := "faceTells", plainKeys := false, apart := false, narrowed := true }
def FaceTellsUptoSaid : Prop := faceTellsUptoRow.holds Try.pinned (OpenSpec.upto faceTellsSpec)

/-- 'muntinlaw12.FaceOnce', WHERE WHAT IT READS IS OF BULK AT MOST 1048576: true; the input reads as it did. -/
def faceOnceUptoRow : OpenClaim := { program := "ytbagccjmccehoaa", sum := "394f6ff8874f4e39111711e1dd557c311e29492f8a951ba623fed3c5605565b5", func := "muntin/muntinlaw12.FaceOnce", spec := "faceOnce", plainKeys := false, apart := false, narrowed := true }
def FaceOnceUptoSaid : Prop := faceOnceUptoRow.holds Try.pinned (OpenSpec.upto faceOnceSpec)

/-- 'muntinlaw12.FaceSums', WHERE WHAT IT READS IS OF BULK AT MOST 1048576: true; the input reads as it did. -/
def faceSumsUptoRow : OpenClaim := { program := "ytbagccjmccehoaa", sum := "394f6ff8874f4e39111711e1dd557c311e29492f8a951ba623fed3c5605565b5", func := "muntin/muntinlaw12.FaceSums", spec := "faceSums", plainKeys := false, apart := false, narrowed := true }
def FaceSumsUptoSaid : Prop := faceSumsUptoRow.holds Try.pinned (OpenSpec.upto faceSumsSpec)

/-- 'muntinlaw12.FaceTurns', WHERE WHAT IT READS IS OF BULK AT MOST 1048576: true; the input reads as it did. -/
def faceTurnsUptoRow : OpenClaim := { program := "ytbagccjmccehoaa", sum := "394f6ff8874f4e39111711e1dd557c311e29492f8a951ba623fed3c5605565b5", func := "muntin/muntinlaw12.FaceTurns", spec := "faceTurns", plainKeys := false, apart := false, narrowed := true }
def FaceTurnsUptoSaid : Prop := faceTurnsUptoRow.holds Try.pinned (OpenSpec.upto faceTurnsSpec)

/-- 'muntinlaw01.CompassTurns', WHERE WHAT IT READS IS OF BULK AT MOST 1048576: true; the input reads as it did. -/
def compassTurnsUptoRow : OpenClaim := { program := "ytbagccjmccehoaa", sum := "394f6ff8874f4e39111711e1dd557c311e29492f8a951ba623fed3c5605565b5", func := "muntin/muntinlaw01.CompassTurns", spec := "compassTurns", inPlace := ["internal/bytealg.IndexByteString", "internal/bytealg.IndexString"], named := ["internal/bytealg.MaxLen"], plainKeys := false, apart := false, narrowed := true }
def CompassTurnsUptoSaid : Prop := compassTurnsUptoRow.holds Try.pinned (OpenSpec.upto compassTurnsSpec)

/-- 'muntinlaw01.CompassRound', WHERE WHAT IT READS IS OF BULK AT MOST 1048576: true; the input reads as it did. -/
def compassRoundUptoRow : OpenClaim := { program := "ytbagccjmccehoaa", sum := "394f6ff8874f4e39111711e1dd557c311e29492f8a951ba623fed3c5605565b5", func := "muntin/muntinlaw01.CompassRound", spec := "compassRound", inPlace := ["internal/bytealg.IndexByteString", "internal/bytealg.IndexString"], named := ["internal/bytealg.MaxLen"], plainKeys := false, apart := false, narrowed := true }
def CompassRoundUptoSaid : Prop := compassRoundUptoRow.holds Try.pinned (OpenSpec.upto compassRoundSpec)

/-- 'muntinlaw01.CompassLetters', WHERE WHAT IT READS IS OF BULK AT MOST 1048576: true; the input reads as it did. -/
def compassLettersUptoRow : OpenClaim := { program := "ytbagccjmccehoaa", sum := "394f6ff8874f4e39111711e1dd557c311e29492f8a951ba623fed3c5605565b5", func := "muntin/muntinlaw01.CompassLetters", spec := "compassLetters", inPlace := ["internal/bytealg.IndexByteString", "internal/bytealg.IndexString"], named := ["internal/bytealg.MaxLen"], plainKeys := false, apart := false, narrowed := true }
def CompassLettersUptoSaid : Prop := compassLettersUptoRow.holds Try.pinned (OpenSpec.upto compassLettersSpec)

/-- 'muntinlaw01.CompassBetween', WHERE WHAT IT READS IS OF BULK AT MOST 1048576: true; the input reads as it did. -/
def compassBetweenUptoRow : OpenClaim := { program := "ytbagccjmccehoaa", sum := "394f6ff8874f4e39111711e1dd557c311e29492f8a951ba623fed3c5605565b5", func := "muntin/muntinlaw01.CompassBetween", spec := "compassBetween", inPlace := ["internal/bytealg.IndexByteString", "internal/bytealg.IndexString"], named := ["internal/bytealg.MaxLen"], plainKeys := false, apart := false, narrowed := true }
def CompassBetweenUptoSaid : Prop := compassBetweenUptoRow.holds Try.pinned (OpenSpec.upto compassBetweenSpec)

/-- 'muntinlaw01.CompassSteps', WHERE WHAT IT READS IS OF BULK AT MOST 1048576: true; the input reads as it did. -/
def compassStepsUptoRow : OpenClaim := { program := "ytbagccjmccehoaa", sum := "394f6ff8874f4e39111711e1dd557c311e29492f8a951ba623fed3c5605565b5", func := "muntin/muntinlaw01.CompassSteps", spec := "compassSteps", inPlace := ["internal/bytealg.IndexByteString", "internal/bytealg.IndexString"], named := ["internal/bytealg.MaxLen"], plainKeys := false, apart := false, narrowed := true }
def CompassStepsUptoSaid : Prop := compassStepsUptoRow.holds Try.pinned (OpenSpec.upto compassStepsSpec)

/-- 'muntinlaw12.FaceSplits', WHERE WHAT IT READS IS OF BULK AT MOST 1048576: true; the input reads as it did. -/
def faceSplitsUptoRow : OpenClaim := { program := "ytbagccjmccehoaa", sum := "394f6ff8874f4e39111711e1dd557c311e29492f8a951ba623fed3c5605565b5", func := "muntin/muntinlaw12.FaceSplits", spec := "faceSplits", recurses := true, plainKeys := false, apart := false, narrowed := true }
def FaceSplitsUptoSaid : Prop := faceSplitsUptoRow.holds Try.pinned (OpenSpec.upto faceSplitsSpec)

end Rows
end Go.Proofs.Ytbagccjmccehoaa
