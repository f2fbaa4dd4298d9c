/-
  DERIVED. GIVEN WITH THE SEED: THE CARDS: each row of YtjhahhpcpempgaaDoorRows.lean that lists a variable, with what it lists TIED to the program's text (the seventh form; the later family's looks); each row that meets fmt, with fmt's text TOLD by the authors' own Lean function (tested against real Go, not proved from fmt's source: count such statements apart). THE CARD IS WHAT COUNTS. Prove the row's statement (the work); the ties are given (YtjhahhpcpempgaaDoorTie.lean); close each card by the builder's one call (the guide's Derived/Test/ToyasCard.lean, 'card_holds'). Laid BY PROGRAM, IN A SANDBOX (cutbox-door.mjs). By AI agents, Wed Nov 11 2026. No macro, syntax, notation, axiom, sorry.
-/
import Derived.Test.YtjhahhpcpempgaaDoorRows
import GoSem.ClaimSeven
namespace Go.Proofs.YtjhahhpcpempgaaDoor
namespace Rows

/-- THE TIED CARD OF 'doorkeeperlaw22.JournalFalls'. -/
def journalFallsCard : Claim7 := { stood := { row := journalFallsRow, standIns := [], harness := (true, "1d18b7949fc06ebf325d35aa166a5d8a2838ba082162023676defcf4512b7738"), looks := true }, kinds := [], alts := [], laidByText := true, laidKinds := [.data, .data, .data, .data, .sentinel, .sentinel, .pinned], laidTests := true, laidLooks := .later }
def JournalFallsCardSaid : Prop := Claim7.holds Tryd.pinned (.plain (OpenSpec.ofChange journalFallsSpec)) journalFallsCard

/-- THE TIED CARD OF 'doorkeeperlaw22.JournalTorn'. -/
def journalTornCard : Claim7 := { stood := { row := journalTornRow, standIns := [], harness := (true, "1d18b7949fc06ebf325d35aa166a5d8a2838ba082162023676defcf4512b7738"), looks := true }, kinds := [], alts := [], laidByText := true, laidKinds := [.data, .data, .data, .data, .sentinel, .sentinel, .pinned], laidTests := true, laidLooks := .later }
def JournalTornCardSaid : Prop := Claim7.holds Tryd.pinned (.plain (OpenSpec.ofChange journalTornSpec)) journalTornCard

/-- THE SECOND FORM's CARD OF 'doorkeeperlaw22.JournalFalls'. -/
def journalFallsUptoCard : Claim7 := { stood := { row := journalFallsUptoRow, standIns := [], harness := (true, "1d18b7949fc06ebf325d35aa166a5d8a2838ba082162023676defcf4512b7738"), looks := true }, kinds := [], alts := [], laidByText := true, laidKinds := [.data, .data, .data, .data, .sentinel, .sentinel, .pinned], laidTests := true, laidLooks := .later }
def JournalFallsUptoCardSaid : Prop := Claim7.holds Tryd.pinned (.plain (OpenSpec.upto journalFallsSpec)) journalFallsUptoCard

/-- THE SECOND FORM's CARD OF 'doorkeeperlaw22.JournalTorn'. -/
def journalTornUptoCard : Claim7 := { stood := { row := journalTornUptoRow, standIns := [], harness := (true, "1d18b7949fc06ebf325d35aa166a5d8a2838ba082162023676defcf4512b7738"), looks := true }, kinds := [], alts := [], laidByText := true, laidKinds := [.data, .data, .data, .data, .sentinel, .sentinel, .pinned], laidTests := true, laidLooks := .later }
def JournalTornUptoCardSaid : Prop := Claim7.holds Tryd.pinned (.plain (OpenSpec.upto journalTornSpec)) journalTornUptoCard
end Rows
end Go.Proofs.YtjhahhpcpempgaaDoor
