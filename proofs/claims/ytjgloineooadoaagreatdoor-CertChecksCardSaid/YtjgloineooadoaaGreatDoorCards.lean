/-
  DERIVED. GIVEN WITH THE SEED: THE CARDS: each row of YtjgloineooadoaaGreatDoorRows.lean that lists a variable, with what it lists TIED to the program's text (the seventh form; the later family's looks); each row that meets fmt, with fmt's text TOLD by the authors' own Lean function (tested against real Go, not proved from fmt's source: count such statements apart). THE CARD IS WHAT COUNTS. Prove the row's statement (the work); the ties are given (YtjgloineooadoaaGreatDoorTie.lean); close each card by the builder's one call (the guide's Derived/Test/ToyasCard.lean, 'card_holds'). Laid BY PROGRAM, IN A SANDBOX (cutbox-door.mjs). By AI agents, Wed Nov 11 2026. No macro, syntax, notation, axiom, sorry.
-/
import Derived.Test.YtjgloineooadoaaGreatDoorRows
import GoSem.ClaimSeven
namespace Go.Proofs.YtjgloineooadoaaGreatDoor
namespace Rows

/-- THE TIED CARD OF 'muntinlaw06.CertSolves'. -/
def certSolvesCard : Claim7 := { stood := { row := certSolvesRow, standIns := [], harness := (true, "b34bb50135591c7773c7f98a2336b7274a30598076aa3afcafa4f4b221f63561"), looks := true }, kinds := [], alts := [], laidByText := true, laidKinds := [.data, .data, .data, .data, .sentinel, .sentinel, .pinned], laidTests := true, laidLooks := .later }
def CertSolvesCardSaid : Prop := Claim7.holds Tryz.pinned (.plain (OpenSpec.ofChange certSolvesSpec)) certSolvesCard

/-- THE TIED CARD OF 'muntinlaw06.CertTurned'. -/
def certTurnedCard : Claim7 := { stood := { row := certTurnedRow, standIns := [], harness := (true, "b34bb50135591c7773c7f98a2336b7274a30598076aa3afcafa4f4b221f63561"), looks := true }, kinds := [], alts := [], laidByText := true, laidKinds := [.data, .data, .data, .data, .sentinel, .sentinel, .pinned], laidTests := true, laidLooks := .later }
def CertTurnedCardSaid : Prop := Claim7.holds Tryz.pinned (.plain (OpenSpec.ofChange certTurnedSpec)) certTurnedCard

/-- THE TIED CARD OF 'muntinlaw06.CertChecks'. -/
def certChecksCard : Claim7 := { stood := { row := certChecksRow, standIns := [], harness := (true, "b34bb50135591c7773c7f98a2336b7274a30598076aa3afcafa4f4b221f63561"), looks := true }, kinds := [], alts := [], laidByText := true, laidKinds := [.data, .data, .data, .data, .sentinel, .sentinel, .pinned], laidTests := true, laidLooks := .later }
def CertChecksCardSaid : Prop := Claim7.holds Tryz.pinned (.plain (OpenSpec.ofChange certChecksSpec)) certChecksCard

/-- THE TIED CARD OF 'muntinlaw06.CertProves'. -/
def certProvesCard : Claim7 := { stood := { row := certProvesRow, standIns := [], harness := (true, "b34bb50135591c7773c7f98a2336b7274a30598076aa3afcafa4f4b221f63561"), looks := true }, kinds := [], alts := [], laidByText := true, laidKinds := [.data, .data, .data, .data, .sentinel, .sentinel, .pinned], laidTests := true, laidLooks := .later }
def CertProvesCardSaid : Prop := Claim7.holds Tryz.pinned (.plain (OpenSpec.ofChange certProvesSpec)) certProvesCard

/-- THE SECOND FORM's CARD OF 'muntinlaw06.CertSolves'. -/
def certSolvesUptoCard : Claim7 := { stood := { row := certSolvesUptoRow, standIns := [], harness := (true, "b34bb50135591c7773c7f98a2336b7274a30598076aa3afcafa4f4b221f63561"), looks := true }, kinds := [], alts := [], laidByText := true, laidKinds := [.data, .data, .data, .data, .sentinel, .sentinel, .pinned], laidTests := true, laidLooks := .later }
def CertSolvesUptoCardSaid : Prop := Claim7.holds Tryz.pinned (.plain (OpenSpec.upto certSolvesSpec)) certSolvesUptoCard

/-- THE SECOND FORM's CARD OF 'muntinlaw06.CertTurned'. -/
def certTurnedUptoCard : Claim7 := { stood := { row := certTurnedUptoRow, standIns := [], harness := (true, "b34bb50135591c7773c7f98a2336b7274a30598076aa3afcafa4f4b221f63561"), looks := true }, kinds := [], alts := [], laidByText := true, laidKinds := [.data, .data, .data, .data, .sentinel, .sentinel, .pinned], laidTests := true, laidLooks := .later }
def CertTurnedUptoCardSaid : Prop := Claim7.holds Tryz.pinned (.plain (OpenSpec.upto certTurnedSpec)) certTurnedUptoCard

/-- THE SECOND FORM's CARD OF 'muntinlaw06.CertChecks'. -/
def certChecksUptoCard : Claim7 := { stood := { row := certChecksUptoRow, standIns := [], harness := (true, "b34bb50135591c7773c7f98a2336b7274a30598076aa3afcafa4f4b221f63561"), looks := true }, kinds := [], alts := [], laidByText := true, laidKinds := [.data, .data, .data, .data, .sentinel, .sentinel, .pinned], laidTests := true, laidLooks := .later }
def CertChecksUptoCardSaid : Prop := Claim7.holds Tryz.pinned (.plain (OpenSpec.upto certChecksSpec)) certChecksUptoCard

/-- THE SECOND FORM's CARD OF 'muntinlaw06.CertProves'. -/
def certProvesUptoCard : Claim7 := { stood := { row := certProvesUptoRow, standIns := [], harness := (true, "b34bb50135591c7773c7f98a2336b7274a30598076aa3afcafa4f4b221f63561"), looks := true }, kinds := [], alts := [], laidByText := true, laidKinds := [.data, .data, .data, .data, .sentinel, .sentinel, .pinned], laidTests := true, laidLooks := .later }
def CertProvesUptoCardSaid : Prop := Claim7.holds Tryz.pinned (.plain (OpenSpec.upto certProvesSpec)) certProvesUptoCard
end Rows
end Go.Proofs.YtjgloineooadoaaGreatDoor
