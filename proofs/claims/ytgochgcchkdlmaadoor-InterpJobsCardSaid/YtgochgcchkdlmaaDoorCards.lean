/-
  DERIVED. GIVEN WITH THE SEED: THE CARDS: each row of YtgochgcchkdlmaaDoorRows.lean that lists a variable, with what it lists TIED to the program's text (the seventh form; the later family's looks); each row that meets fmt, with fmt's text TOLD by the authors' own Lean function (tested against real Go, not proved from fmt's source: count such statements apart). THE CARD IS WHAT COUNTS. Prove the row's statement (the work); the ties are given (YtgochgcchkdlmaaDoorTie.lean); close each card by the builder's one call (the guide's Derived/Test/ToyasCard.lean, 'card_holds'). Laid BY PROGRAM, IN A SANDBOX (cutbox-door.mjs). By AI agents, Wed Nov 11 2026. No macro, syntax, notation, axiom, sorry.
-/
import Derived.Test.YtgochgcchkdlmaaDoorRows
import GoSem.ClaimSeven
namespace Go.Proofs.YtgochgcchkdlmaaDoor
namespace Rows

/-- THE TIED CARD OF 'ontimelaw16.InterpJobs'. -/
def interpJobsCard : Claim7 := { stood := { row := interpJobsRow, standIns := [], harness := (true, "c19b952ecbef3f2bb4c48fc760466a9472603ebef1d5545835acc79dd90f0bcf"), looks := true }, kinds := [], alts := [], laidByText := true, laidKinds := [.data], laidTests := true, laidLooks := .later }
def InterpJobsCardSaid : Prop := Claim7.holds Tryd.pinned (.plain (OpenSpec.ofChange interpJobsSpec)) interpJobsCard

/-- THE TIED CARD OF 'ontimelaw16.InterpNew'. -/
def interpNewCard : Claim7 := { stood := { row := interpNewRow, standIns := [], harness := (true, "c19b952ecbef3f2bb4c48fc760466a9472603ebef1d5545835acc79dd90f0bcf"), looks := true }, kinds := [], alts := [], laidByText := true, laidKinds := [.data], laidTests := true, laidLooks := .later }
def InterpNewCardSaid : Prop := Claim7.holds Tryd.pinned (.plain (OpenSpec.ofChange interpNewSpec)) interpNewCard

/-- THE TIED CARD OF 'ontimelaw16.InterpFuel'. -/
def interpFuelCard : Claim7 := { stood := { row := interpFuelRow, standIns := [], harness := (true, "c19b952ecbef3f2bb4c48fc760466a9472603ebef1d5545835acc79dd90f0bcf"), looks := true }, kinds := [], alts := [], laidByText := true, laidKinds := [.data], laidTests := true, laidLooks := .later }
def InterpFuelCardSaid : Prop := Claim7.holds Tryd.pinned (.plain (OpenSpec.ofChange interpFuelSpec)) interpFuelCard

/-- THE TIED CARD OF 'ontimelaw16.InterpInput'. -/
def interpInputCard : Claim7 := { stood := { row := interpInputRow, standIns := [], harness := (true, "c19b952ecbef3f2bb4c48fc760466a9472603ebef1d5545835acc79dd90f0bcf"), looks := true }, kinds := [], alts := [], laidByText := true, laidKinds := [.data], laidTests := true, laidLooks := .later }
def InterpInputCardSaid : Prop := Claim7.holds Tryd.pinned (.plain (OpenSpec.ofChange interpInputSpec)) interpInputCard

/-- THE TIED CARD OF 'ontimelaw16.InterpApart'. -/
def interpApartCard : Claim7 := { stood := { row := interpApartRow, standIns := [], harness := (true, "c19b952ecbef3f2bb4c48fc760466a9472603ebef1d5545835acc79dd90f0bcf"), looks := true }, kinds := [], alts := [], laidByText := true, laidKinds := [.data], laidTests := true, laidLooks := .later }
def InterpApartCardSaid : Prop := Claim7.holds Tryd.pinned (.plain (OpenSpec.ofChange interpApartSpec)) interpApartCard

/-- THE TIED CARD OF 'ontimelaw16.InterpUnrolls'. -/
def interpUnrollsCard : Claim7 := { stood := { row := interpUnrollsRow, standIns := [], harness := (true, "c19b952ecbef3f2bb4c48fc760466a9472603ebef1d5545835acc79dd90f0bcf"), looks := true }, kinds := [], alts := [], laidByText := true, laidKinds := [.data], laidTests := true, laidLooks := .later }
def InterpUnrollsCardSaid : Prop := Claim7.holds Tryd.pinned (.plain (OpenSpec.ofChange interpUnrollsSpec)) interpUnrollsCard

/-- THE TIED CARD OF 'ontimelaw16.InterpSplits'. -/
def interpSplitsCard : Claim7 := { stood := { row := interpSplitsRow, standIns := [], harness := (true, "c19b952ecbef3f2bb4c48fc760466a9472603ebef1d5545835acc79dd90f0bcf"), looks := true }, kinds := [], alts := [], laidByText := true, laidKinds := [.data], laidTests := true, laidLooks := .later }
def InterpSplitsCardSaid : Prop := Claim7.holds Tryd.pinned (.plain (OpenSpec.ofChange interpSplitsSpec)) interpSplitsCard

/-- THE TIED CARD OF 'ontimelaw16.InterpExprs'. -/
def interpExprsCard : Claim7 := { stood := { row := interpExprsRow, standIns := [], harness := (true, "c19b952ecbef3f2bb4c48fc760466a9472603ebef1d5545835acc79dd90f0bcf"), looks := true }, kinds := [], alts := [], laidByText := true, laidKinds := [.data], laidTests := true, laidLooks := .later }
def InterpExprsCardSaid : Prop := Claim7.holds Tryd.pinned (.plain (OpenSpec.ofChange interpExprsSpec)) interpExprsCard

/-- THE SECOND FORM's CARD OF 'ontimelaw16.InterpJobs'. -/
def interpJobsUptoCard : Claim7 := { stood := { row := interpJobsUptoRow, standIns := [], harness := (true, "c19b952ecbef3f2bb4c48fc760466a9472603ebef1d5545835acc79dd90f0bcf"), looks := true }, kinds := [], alts := [], laidByText := true, laidKinds := [.data], laidTests := true, laidLooks := .later }
def InterpJobsUptoCardSaid : Prop := Claim7.holds Tryd.pinned (.plain (OpenSpec.upto interpJobsSpec)) interpJobsUptoCard

/-- THE SECOND FORM's CARD OF 'ontimelaw16.InterpNew'. -/
def interpNewUptoCard : Claim7 := { stood := { row := interpNewUptoRow, standIns := [], harness := (true, "c19b952ecbef3f2bb4c48fc760466a9472603ebef1d5545835acc79dd90f0bcf"), looks := true }, kinds := [], alts := [], laidByText := true, laidKinds := [.data], laidTests := true, laidLooks := .later }
def InterpNewUptoCardSaid : Prop := Claim7.holds Tryd.pinned (.plain (OpenSpec.upto interpNewSpec)) interpNewUptoCard

/-- THE SECOND FORM's CARD OF 'ontimelaw16.InterpFuel'. -/
def interpFuelUptoCard : Claim7 := { stood := { row := interpFuelUptoRow, standIns := [], harness := (true, "c19b952ecbef3f2bb4c48fc760466a9472603ebef1d5545835acc79dd90f0bcf"), looks := true }, kinds := [], alts := [], laidByText := true, laidKinds := [.data], laidTests := true, laidLooks := .later }
def InterpFuelUptoCardSaid : Prop := Claim7.holds Tryd.pinned (.plain (OpenSpec.upto interpFuelSpec)) interpFuelUptoCard

/-- THE SECOND FORM's CARD OF 'ontimelaw16.InterpInput'. -/
def interpInputUptoCard : Claim7 := { stood := { row := interpInputUptoRow, standIns := [], harness := (true, "c19b952ecbef3f2bb4c48fc760466a9472603ebef1d5545835acc79dd90f0bcf"), looks := true }, kinds := [], alts := [], laidByText := true, laidKinds := [.data], laidTests := true, laidLooks := .later }
def InterpInputUptoCardSaid : Prop := Claim7.holds Tryd.pinned (.plain (OpenSpec.upto interpInputSpec)) interpInputUptoCard

/-- THE SECOND FORM's CARD OF 'ontimelaw16.InterpApart'. -/
def interpApartUptoCard : Claim7 := { stood := { row := interpApartUptoRow, standIns := [], harness := (true, "c19b952ecbef3f2bb4c48fc760466a9472603ebef1d5545835acc79dd90f0bcf"), looks := true }, kinds := [], alts := [], laidByText := true, laidKinds := [.data], laidTests := true, laidLooks := .later }
def InterpApartUptoCardSaid : Prop := Claim7.holds Tryd.pinned (.plain (OpenSpec.upto interpApartSpec)) interpApartUptoCard

/-- THE SECOND FORM's CARD OF 'ontimelaw16.InterpUnrolls'. -/
def interpUnrollsUptoCard : Claim7 := { stood := { row := interpUnrollsUptoRow, standIns := [], harness := (true, "c19b952ecbef3f2bb4c48fc760466a9472603ebef1d5545835acc79dd90f0bcf"), looks := true }, kinds := [], alts := [], laidByText := true, laidKinds := [.data], laidTests := true, laidLooks := .later }
def InterpUnrollsUptoCardSaid : Prop := Claim7.holds Tryd.pinned (.plain (OpenSpec.upto interpUnrollsSpec)) interpUnrollsUptoCard

/-- THE SECOND FORM's CARD OF 'ontimelaw16.InterpSplits'. -/
def interpSplitsUptoCard : Claim7 := { stood := { row := interpSplitsUptoRow, standIns := [], harness := (true, "c19b952ecbef3f2bb4c48fc760466a9472603ebef1d5545835acc79dd90f0bcf"), looks := true }, kinds := [], alts := [], laidByText := true, laidKinds := [.data], laidTests := true, laidLooks := .later }
def InterpSplitsUptoCardSaid : Prop := Claim7.holds Tryd.pinned (.plain (OpenSpec.upto interpSplitsSpec)) interpSplitsUptoCard

/-- THE SECOND FORM's CARD OF 'ontimelaw16.InterpExprs'. -/
def interpExprsUptoCard : Claim7 := { stood := { row := interpExprsUptoRow, standIns := [], harness := (true, "c19b952ecbef3f2bb4c48fc760466a9472603ebef1d5545835acc79dd90f0bcf"), looks := true }, kinds := [], alts := [], laidByText := true, laidKinds := [.data], laidTests := true, laidLooks := .later }
def InterpExprsUptoCardSaid : Prop := Claim7.holds Tryd.pinned (.plain (OpenSpec.upto interpExprsSpec)) interpExprsUptoCard
end Rows
end Go.Proofs.YtgochgcchkdlmaaDoor
