/-
  DERIVED. GIVEN WITH THE SEED: THE CARDS: each row of YtgopdbpddemplaaDoorRows.lean that lists a variable, with what it lists TIED to the program's text (the seventh form; the later family's looks); each row that meets fmt, with fmt's text TOLD by the authors' own Lean function (tested against real Go, not proved from fmt's source: count such statements apart). THE CARD IS WHAT COUNTS. Prove the row's statement (the work); the ties are given (YtgopdbpddemplaaDoorTie.lean); close each card by the builder's one call (the guide's Derived/Test/ToyasCard.lean, 'card_holds'). Laid BY PROGRAM, IN A SANDBOX (cutbox-door.mjs). By AI agents, Wed Nov 11 2026. No macro, syntax, notation, axiom, sorry.
-/
import Derived.Test.YtgopdbpddemplaaDoorRows
import GoSem.ClaimSeven
namespace Go.Proofs.YtgopdbpddemplaaDoor
namespace Rows

/-- THE TIED CARD OF 'replevinlaw11.RingEntries'. -/
def ringEntriesCard : Claim7 := { stood := { row := ringEntriesRow, standIns := [], harness := (true, "4e74aa911ee82cf9eead22cdf966cf61e9315a8c276db4b08cbe86f9fdb8ac65"), looks := false }, kinds := [], alts := [], laidByText := true, laidKinds := [.data, .data, .data], laidTests := true, laidLooks := .later }
def RingEntriesCardSaid : Prop := Claim7.holds Tryd.pinned (.plain (OpenSpec.ofChange ringEntriesSpec)) ringEntriesCard

/-- THE TIED CARD OF 'replevinlaw11.RingErrors'. -/
def ringErrorsCard : Claim7 := { stood := { row := ringErrorsRow, standIns := [], harness := (true, "4e74aa911ee82cf9eead22cdf966cf61e9315a8c276db4b08cbe86f9fdb8ac65"), looks := false }, kinds := [], alts := [], laidByText := true, laidKinds := [.data, .data, .data], laidTests := true, laidLooks := .later }
def RingErrorsCardSaid : Prop := Claim7.holds Tryd.pinned (.plain (OpenSpec.ofChange ringErrorsSpec)) ringErrorsCard

/-- THE TIED CARD OF 'replevinlaw11.RingFormats'. -/
def ringFormatsCard : Claim7 := { stood := { row := ringFormatsRow, standIns := [], harness := (true, "4e74aa911ee82cf9eead22cdf966cf61e9315a8c276db4b08cbe86f9fdb8ac65"), looks := false }, kinds := [], alts := [], laidByText := true, laidKinds := [.data, .data, .data], laidTests := true, laidLooks := .later }
def RingFormatsCardSaid : Prop := Claim7.holds Tryd.pinned (.plain (OpenSpec.ofChange ringFormatsSpec)) ringFormatsCard

/-- THE SECOND FORM's CARD OF 'replevinlaw11.RingEntries'. -/
def ringEntriesUptoCard : Claim7 := { stood := { row := ringEntriesUptoRow, standIns := [], harness := (true, "4e74aa911ee82cf9eead22cdf966cf61e9315a8c276db4b08cbe86f9fdb8ac65"), looks := false }, kinds := [], alts := [], laidByText := true, laidKinds := [.data, .data, .data], laidTests := true, laidLooks := .later }
def RingEntriesUptoCardSaid : Prop := Claim7.holds Tryd.pinned (.plain (OpenSpec.upto ringEntriesSpec)) ringEntriesUptoCard

/-- THE SECOND FORM's CARD OF 'replevinlaw11.RingErrors'. -/
def ringErrorsUptoCard : Claim7 := { stood := { row := ringErrorsUptoRow, standIns := [], harness := (true, "4e74aa911ee82cf9eead22cdf966cf61e9315a8c276db4b08cbe86f9fdb8ac65"), looks := false }, kinds := [], alts := [], laidByText := true, laidKinds := [.data, .data, .data], laidTests := true, laidLooks := .later }
def RingErrorsUptoCardSaid : Prop := Claim7.holds Tryd.pinned (.plain (OpenSpec.upto ringErrorsSpec)) ringErrorsUptoCard

/-- THE SECOND FORM's CARD OF 'replevinlaw11.RingFormats'. -/
def ringFormatsUptoCard : Claim7 := { stood := { row := ringFormatsUptoRow, standIns := [], harness := (true, "4e74aa911ee82cf9eead22cdf966cf61e9315a8c276db4b08cbe86f9fdb8ac65"), looks := false }, kinds := [], alts := [], laidByText := true, laidKinds := [.data, .data, .data], laidTests := true, laidLooks := .later }
def RingFormatsUptoCardSaid : Prop := Claim7.holds Tryd.pinned (.plain (OpenSpec.upto ringFormatsSpec)) ringFormatsUptoCard
end Rows
end Go.Proofs.YtgopdbpddemplaaDoor
