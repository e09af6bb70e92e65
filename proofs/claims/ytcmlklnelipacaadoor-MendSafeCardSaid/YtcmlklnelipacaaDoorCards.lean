/-
  DERIVED. GIVEN WITH THE SEED: THE CARDS: each row of YtcmlklnelipacaaDoorRows.lean that lists a variable, with what it lists TIED to the program's text (the seventh form; the later family's looks); each row that meets fmt, with fmt's text TOLD by the authors' own Lean function (tested against real Go, not proved from fmt's source: count such statements apart). THE CARD IS WHAT COUNTS. Prove the row's statement (the work); the ties are given (YtcmlklnelipacaaDoorTie.lean); close each card by the builder's one call (the guide's Derived/Test/ToyasCard.lean, 'card_holds'). Laid BY PROGRAM, IN A SANDBOX (cutbox-door.mjs). By AI agents, Wed Nov 11 2026. No macro, syntax, notation, axiom, sorry.
-/
import Derived.Test.YtcmlklnelipacaaDoorRows
import GoSem.ClaimSeven
namespace Go.Proofs.YtcmlklnelipacaaDoor
namespace Rows

/-- THE TIED CARD OF 'paternosterlaw16.JournalTurns'. -/
def journalTurnsCard : Claim7 := { stood := { row := journalTurnsRow, standIns := [], harness := (true, "b10c4205ca2c117f0495df49990555f56813d6858bdba1e2d0fd704ed80273e5"), looks := false }, kinds := [], alts := [], laidByText := true, laidKinds := [.data], laidTests := true, laidLooks := .later }
def JournalTurnsCardSaid : Prop := Claim7.holds Tryd.pinned (.plain (OpenSpec.ofChange journalTurnsSpec)) journalTurnsCard

/-- THE TIED CARD OF 'paternosterlaw16.JournalNone'. -/
def journalNoneCard : Claim7 := { stood := { row := journalNoneRow, standIns := [], harness := (true, "b10c4205ca2c117f0495df49990555f56813d6858bdba1e2d0fd704ed80273e5"), looks := false }, kinds := [], alts := [], laidByText := true, laidKinds := [.data], laidTests := true, laidLooks := .later }
def JournalNoneCardSaid : Prop := Claim7.holds Tryd.pinned (.plain (OpenSpec.ofChange journalNoneSpec)) journalNoneCard

/-- THE TIED CARD OF 'paternosterlaw17.MendSafe'. -/
def mendSafeCard : Claim7 := { stood := { row := mendSafeRow, standIns := [], harness := (true, "b10c4205ca2c117f0495df49990555f56813d6858bdba1e2d0fd704ed80273e5"), looks := false }, kinds := [], alts := [], laidByText := true, laidKinds := [.data], laidTests := true, laidLooks := .later }
def MendSafeCardSaid : Prop := Claim7.holds Tryd.pinned (.plain (OpenSpec.ofChange mendSafeSpec)) mendSafeCard

/-- THE SECOND FORM's CARD OF 'paternosterlaw16.JournalTurns'. -/
def journalTurnsUptoCard : Claim7 := { stood := { row := journalTurnsUptoRow, standIns := [], harness := (true, "b10c4205ca2c117f0495df49990555f56813d6858bdba1e2d0fd704ed80273e5"), looks := false }, kinds := [], alts := [], laidByText := true, laidKinds := [.data], laidTests := true, laidLooks := .later }
def JournalTurnsUptoCardSaid : Prop := Claim7.holds Tryd.pinned (.plain (OpenSpec.upto journalTurnsSpec)) journalTurnsUptoCard

/-- THE SECOND FORM's CARD OF 'paternosterlaw16.JournalNone'. -/
def journalNoneUptoCard : Claim7 := { stood := { row := journalNoneUptoRow, standIns := [], harness := (true, "b10c4205ca2c117f0495df49990555f56813d6858bdba1e2d0fd704ed80273e5"), looks := false }, kinds := [], alts := [], laidByText := true, laidKinds := [.data], laidTests := true, laidLooks := .later }
def JournalNoneUptoCardSaid : Prop := Claim7.holds Tryd.pinned (.plain (OpenSpec.upto journalNoneSpec)) journalNoneUptoCard

/-- THE SECOND FORM's CARD OF 'paternosterlaw17.MendSafe'. -/
def mendSafeUptoCard : Claim7 := { stood := { row := mendSafeUptoRow, standIns := [], harness := (true, "b10c4205ca2c117f0495df49990555f56813d6858bdba1e2d0fd704ed80273e5"), looks := false }, kinds := [], alts := [], laidByText := true, laidKinds := [.data], laidTests := true, laidLooks := .later }
def MendSafeUptoCardSaid : Prop := Claim7.holds Tryd.pinned (.plain (OpenSpec.upto mendSafeSpec)) mendSafeUptoCard
end Rows
end Go.Proofs.YtcmlklnelipacaaDoor
