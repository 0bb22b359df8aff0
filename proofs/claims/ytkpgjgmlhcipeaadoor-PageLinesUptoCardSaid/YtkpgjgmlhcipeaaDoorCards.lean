/-
  DERIVED. GIVEN WITH THE SEED: THE CARDS: each row of YtkpgjgmlhcipeaaDoorRows.lean that lists a variable, with what it lists TIED to the program's text (the seventh form; the later family's looks); each row that meets fmt, with fmt's text TOLD by the authors' own Lean function (tested against real Go, not proved from fmt's source: count such statements apart). THE CARD IS WHAT COUNTS. Prove the row's statement (the work); the ties are given (YtkpgjgmlhcipeaaDoorTie.lean); close each card by the builder's one call (the guide's Derived/Test/ToyasCard.lean, 'card_holds'). Laid BY PROGRAM, IN A SANDBOX (cutbox-door.mjs). By AI agents, Wed Nov 11 2026. No macro, syntax, notation, axiom, sorry.
-/
import Derived.Test.YtkpgjgmlhcipeaaDoorRows
import GoSem.ClaimSeven
namespace Go.Proofs.YtkpgjgmlhcipeaaDoor
namespace Rows

/-- THE TIED CARD OF 'muntinlaw07.LexOne'. -/
def lexOneCard : Claim7 := { stood := { row := lexOneRow, standIns := [], harness := (true, "3c540d4d9b7f976d97238be6b75d1549f247c24b98aa9026544a9294f4d84bba"), looks := true }, kinds := [], alts := [], laidByText := true, laidKinds := [.data, .data, .data, .data, .sentinel, .sentinel, .pinned], laidTests := true, laidLooks := .later }
def LexOneCardSaid : Prop := Claim7.holds Tryd.pinned (.plain (OpenSpec.ofChange lexOneSpec)) lexOneCard

/-- THE TIED CARD OF 'muntinlaw07.LexTells'. -/
def lexTellsCard : Claim7 := { stood := { row := lexTellsRow, standIns := [], harness := (true, "3c540d4d9b7f976d97238be6b75d1549f247c24b98aa9026544a9294f4d84bba"), looks := true }, kinds := [], alts := [], laidByText := true, laidKinds := [.data, .data, .data, .data, .sentinel, .sentinel, .pinned], laidTests := true, laidLooks := .later }
def LexTellsCardSaid : Prop := Claim7.holds Tryd.pinned (.plain (OpenSpec.ofChange lexTellsSpec)) lexTellsCard

/-- THE TIED CARD OF 'muntinlaw07.LexBack'. -/
def lexBackCard : Claim7 := { stood := { row := lexBackRow, standIns := [], harness := (true, "3c540d4d9b7f976d97238be6b75d1549f247c24b98aa9026544a9294f4d84bba"), looks := true }, kinds := [], alts := [], laidByText := true, laidKinds := [.data, .data, .data, .data, .sentinel, .sentinel, .pinned], laidTests := true, laidLooks := .later }
def LexBackCardSaid : Prop := Claim7.holds Tryd.pinned (.plain (OpenSpec.ofChange lexBackSpec)) lexBackCard

/-- THE TIED CARD OF 'muntinlaw07.LexLong'. -/
def lexLongCard : Claim7 := { stood := { row := lexLongRow, standIns := [], harness := (true, "3c540d4d9b7f976d97238be6b75d1549f247c24b98aa9026544a9294f4d84bba"), looks := true }, kinds := [], alts := [], laidByText := true, laidKinds := [.data, .data, .data, .data, .sentinel, .sentinel, .pinned], laidTests := true, laidLooks := .later }
def LexLongCardSaid : Prop := Claim7.holds Tryd.pinned (.plain (OpenSpec.ofChange lexLongSpec)) lexLongCard

/-- THE TIED CARD OF 'muntinlaw28.PageTells'. -/
def pageTellsCard : Claim7 := { stood := { row := pageTellsRow, standIns := [], harness := (true, "3c540d4d9b7f976d97238be6b75d1549f247c24b98aa9026544a9294f4d84bba"), looks := true }, kinds := [], alts := [], laidByText := true, laidKinds := [.data, .data, .data, .data, .sentinel, .sentinel, .pinned], laidTests := true, laidLooks := .later }
def PageTellsCardSaid : Prop := Claim7.holds Tryd.pinned (.plain (OpenSpec.ofChange pageTellsSpec)) pageTellsCard

/-- THE TIED CARD OF 'muntinlaw28.PagePrints'. -/
def pagePrintsCard : Claim7 := { stood := { row := pagePrintsRow, standIns := [], harness := (true, "3c540d4d9b7f976d97238be6b75d1549f247c24b98aa9026544a9294f4d84bba"), looks := true }, kinds := [], alts := [], laidByText := true, laidKinds := [.data, .data, .data, .data, .sentinel, .sentinel, .pinned], laidTests := true, laidLooks := .later }
def PagePrintsCardSaid : Prop := Claim7.holds Tryd.pinned (.plain (OpenSpec.ofChange pagePrintsSpec)) pagePrintsCard

/-- THE TIED CARD OF 'muntinlaw28.PageBack'. -/
def pageBackCard : Claim7 := { stood := { row := pageBackRow, standIns := [], harness := (true, "3c540d4d9b7f976d97238be6b75d1549f247c24b98aa9026544a9294f4d84bba"), looks := true }, kinds := [], alts := [], laidByText := true, laidKinds := [.data, .data, .data, .data, .sentinel, .sentinel, .pinned], laidTests := true, laidLooks := .later }
def PageBackCardSaid : Prop := Claim7.holds Tryd.pinned (.plain (OpenSpec.ofChange pageBackSpec)) pageBackCard

/-- THE TIED CARD OF 'muntinlaw28.PageLines'. -/
def pageLinesCard : Claim7 := { stood := { row := pageLinesRow, standIns := [], harness := (true, "3c540d4d9b7f976d97238be6b75d1549f247c24b98aa9026544a9294f4d84bba"), looks := true }, kinds := [], alts := [], laidByText := true, laidKinds := [.data, .data, .data, .data, .sentinel, .sentinel, .pinned], laidTests := true, laidLooks := .later }
def PageLinesCardSaid : Prop := Claim7.holds Tryd.pinned (.plain (OpenSpec.ofChange pageLinesSpec)) pageLinesCard

/-- THE TIED CARD OF 'muntinlaw28.PageMany'. -/
def pageManyCard : Claim7 := { stood := { row := pageManyRow, standIns := [], harness := (true, "3c540d4d9b7f976d97238be6b75d1549f247c24b98aa9026544a9294f4d84bba"), looks := true }, kinds := [], alts := [], laidByText := true, laidKinds := [.data, .data, .data, .data, .sentinel, .sentinel, .pinned], laidTests := true, laidLooks := .later }
def PageManyCardSaid : Prop := Claim7.holds Tryd.pinned (.plain (OpenSpec.ofChange pageManySpec)) pageManyCard

/-- THE SECOND FORM's CARD OF 'muntinlaw07.LexOne'. -/
def lexOneUptoCard : Claim7 := { stood := { row := lexOneUptoRow, standIns := [], harness := (true, "3c540d4d9b7f976d97238be6b75d1549f247c24b98aa9026544a9294f4d84bba"), looks := true }, kinds := [], alts := [], laidByText := true, laidKinds := [.data, .data, .data, .data, .sentinel, .sentinel, .pinned], laidTests := true, laidLooks := .later }
def LexOneUptoCardSaid : Prop := Claim7.holds Tryd.pinned (.plain (OpenSpec.upto lexOneSpec)) lexOneUptoCard

/-- THE SECOND FORM's CARD OF 'muntinlaw07.LexTells'. -/
def lexTellsUptoCard : Claim7 := { stood := { row := lexTellsUptoRow, standIns := [], harness := (true, "3c540d4d9b7f976d97238be6b75d1549f247c24b98aa9026544a9294f4d84bba"), looks := true }, kinds := [], alts := [], laidByText := true, laidKinds := [.data, .data, .data, .data, .sentinel, .sentinel, .pinned], laidTests := true, laidLooks := .later }
def LexTellsUptoCardSaid : Prop := Claim7.holds Tryd.pinned (.plain (OpenSpec.upto lexTellsSpec)) lexTellsUptoCard

/-- THE SECOND FORM's CARD OF 'muntinlaw07.LexBack'. -/
def lexBackUptoCard : Claim7 := { stood := { row := lexBackUptoRow, standIns := [], harness := (true, "3c540d4d9b7f976d97238be6b75d1549f247c24b98aa9026544a9294f4d84bba"), looks := true }, kinds := [], alts := [], laidByText := true, laidKinds := [.data, .data, .data, .data, .sentinel, .sentinel, .pinned], laidTests := true, laidLooks := .later }
def LexBackUptoCardSaid : Prop := Claim7.holds Tryd.pinned (.plain (OpenSpec.upto lexBackSpec)) lexBackUptoCard

/-- THE SECOND FORM's CARD OF 'muntinlaw07.LexLong'. -/
def lexLongUptoCard : Claim7 := { stood := { row := lexLongUptoRow, standIns := [], harness := (true, "3c540d4d9b7f976d97238be6b75d1549f247c24b98aa9026544a9294f4d84bba"), looks := true }, kinds := [], alts := [], laidByText := true, laidKinds := [.data, .data, .data, .data, .sentinel, .sentinel, .pinned], laidTests := true, laidLooks := .later }
def LexLongUptoCardSaid : Prop := Claim7.holds Tryd.pinned (.plain (OpenSpec.upto lexLongSpec)) lexLongUptoCard

/-- THE SECOND FORM's CARD OF 'muntinlaw28.PageTells'. -/
def pageTellsUptoCard : Claim7 := { stood := { row := pageTellsUptoRow, standIns := [], harness := (true, "3c540d4d9b7f976d97238be6b75d1549f247c24b98aa9026544a9294f4d84bba"), looks := true }, kinds := [], alts := [], laidByText := true, laidKinds := [.data, .data, .data, .data, .sentinel, .sentinel, .pinned], laidTests := true, laidLooks := .later }
def PageTellsUptoCardSaid : Prop := Claim7.holds Tryd.pinned (.plain (OpenSpec.upto pageTellsSpec)) pageTellsUptoCard

/-- THE SECOND FORM's CARD OF 'muntinlaw28.PagePrints'. -/
def pagePrintsUptoCard : Claim7 := { stood := { row := pagePrintsUptoRow, standIns := [], harness := (true, "3c540d4d9b7f976d97238be6b75d1549f247c24b98aa9026544a9294f4d84bba"), looks := true }, kinds := [], alts := [], laidByText := true, laidKinds := [.data, .data, .data, .data, .sentinel, .sentinel, .pinned], laidTests := true, laidLooks := .later }
def PagePrintsUptoCardSaid : Prop := Claim7.holds Tryd.pinned (.plain (OpenSpec.upto pagePrintsSpec)) pagePrintsUptoCard

/-- THE SECOND FORM's CARD OF 'muntinlaw28.PageBack'. -/
def pageBackUptoCard : Claim7 := { stood := { row := pageBackUptoRow, standIns := [], harness := (true, "3c540d4d9b7f976d97238be6b75d1549f247c24b98aa9026544a9294f4d84bba"), looks := true }, kinds := [], alts := [], laidByText := true, laidKinds := [.data, .data, .data, .data, .sentinel, .sentinel, .pinned], laidTests := true, laidLooks := .later }
def PageBackUptoCardSaid : Prop := Claim7.holds Tryd.pinned (.plain (OpenSpec.upto pageBackSpec)) pageBackUptoCard

/-- THE SECOND FORM's CARD OF 'muntinlaw28.PageLines'. -/
def pageLinesUptoCard : Claim7 := { stood := { row := pageLinesUptoRow, standIns := [], harness := (true, "3c540d4d9b7f976d97238be6b75d1549f247c24b98aa9026544a9294f4d84bba"), looks := true }, kinds := [], alts := [], laidByText := true, laidKinds := [.data, .data, .data, .data, .sentinel, .sentinel, .pinned], laidTests := true, laidLooks := .later }
def PageLinesUptoCardSaid : Prop := Claim7.holds Tryd.pinned (.plain (OpenSpec.upto pageLinesSpec)) pageLinesUptoCard

/-- THE SECOND FORM's CARD OF 'muntinlaw28.PageMany'. -/
def pageManyUptoCard : Claim7 := { stood := { row := pageManyUptoRow, standIns := [], harness := (true, "3c540d4d9b7f976d97238be6b75d1549f247c24b98aa9026544a9294f4d84bba"), looks := true }, kinds := [], alts := [], laidByText := true, laidKinds := [.data, .data, .data, .data, .sentinel, .sentinel, .pinned], laidTests := true, laidLooks := .later }
def PageManyUptoCardSaid : Prop := Claim7.holds Tryd.pinned (.plain (OpenSpec.upto pageManySpec)) pageManyUptoCard
end Rows
end Go.Proofs.YtkpgjgmlhcipeaaDoor
