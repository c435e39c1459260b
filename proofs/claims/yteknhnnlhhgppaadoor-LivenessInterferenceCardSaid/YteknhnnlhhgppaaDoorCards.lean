/-
  DERIVED. GIVEN WITH THE SEED: THE CARDS: each row of YteknhnnlhhgppaaDoorRows.lean that lists a variable, with what it lists TIED to the program's text (the seventh form; the later family's looks); each row that meets fmt, with fmt's text TOLD by the authors' own Lean function (tested against real Go, not proved from fmt's source: count such statements apart). THE CARD IS WHAT COUNTS. Prove the row's statement (the work); the ties are given (YteknhnnlhhgppaaDoorTie.lean); close each card by the builder's one call (the guide's Derived/Test/ToyasCard.lean, 'card_holds'). Laid BY PROGRAM, IN A SANDBOX (cutbox-door.mjs). By AI agents, Wed Nov 11 2026. No macro, syntax, notation, axiom, sorry.
-/
import Derived.Test.YteknhnnlhhgppaaDoorRows
import GoSem.ClaimSeven
namespace Go.Proofs.YteknhnnlhhgppaaDoor
namespace Rows

/-- THE TIED CARD OF 'ontimelaw19.LivenessSets'. -/
def livenessSetsCard : Claim7 := { stood := { row := livenessSetsRow, standIns := [], harness := (true, "657ba23c99bc65f3d420b998af8f34a0629a3d7316a07667cc7dbb731d5d85fe"), looks := false }, kinds := [], alts := [], laidByText := true, laidKinds := [.data], laidTests := true, laidLooks := .later }
def LivenessSetsCardSaid : Prop := Claim7.holds Tryd.pinned (.plain (OpenSpec.ofChange livenessSetsSpec)) livenessSetsCard

/-- THE TIED CARD OF 'ontimelaw19.LivenessEquations'. -/
def livenessEquationsCard : Claim7 := { stood := { row := livenessEquationsRow, standIns := [], harness := (true, "657ba23c99bc65f3d420b998af8f34a0629a3d7316a07667cc7dbb731d5d85fe"), looks := false }, kinds := [], alts := [], laidByText := true, laidKinds := [.data], laidTests := true, laidLooks := .later }
def LivenessEquationsCardSaid : Prop := Claim7.holds Tryd.pinned (.plain (OpenSpec.ofChange livenessEquationsSpec)) livenessEquationsCard

/-- THE TIED CARD OF 'ontimelaw19.LivenessBounds'. -/
def livenessBoundsCard : Claim7 := { stood := { row := livenessBoundsRow, standIns := [], harness := (true, "657ba23c99bc65f3d420b998af8f34a0629a3d7316a07667cc7dbb731d5d85fe"), looks := false }, kinds := [], alts := [], laidByText := true, laidKinds := [.data], laidTests := true, laidLooks := .later }
def LivenessBoundsCardSaid : Prop := Claim7.holds Tryd.pinned (.plain (OpenSpec.ofChange livenessBoundsSpec)) livenessBoundsCard

/-- THE TIED CARD OF 'ontimelaw19.LivenessValues'. -/
def livenessValuesCard : Claim7 := { stood := { row := livenessValuesRow, standIns := [], harness := (true, "657ba23c99bc65f3d420b998af8f34a0629a3d7316a07667cc7dbb731d5d85fe"), looks := false }, kinds := [], alts := [], laidByText := true, laidKinds := [.data], laidTests := true, laidLooks := .later }
def LivenessValuesCardSaid : Prop := Claim7.holds Tryd.pinned (.plain (OpenSpec.ofChange livenessValuesSpec)) livenessValuesCard

/-- THE TIED CARD OF 'ontimelaw19.LivenessMerges'. -/
def livenessMergesCard : Claim7 := { stood := { row := livenessMergesRow, standIns := [], harness := (true, "657ba23c99bc65f3d420b998af8f34a0629a3d7316a07667cc7dbb731d5d85fe"), looks := false }, kinds := [], alts := [], laidByText := true, laidKinds := [.data], laidTests := true, laidLooks := .later }
def LivenessMergesCardSaid : Prop := Claim7.holds Tryd.pinned (.plain (OpenSpec.ofChange livenessMergesSpec)) livenessMergesCard

/-- THE TIED CARD OF 'ontimelaw19.LivenessOverwrites'. -/
def livenessOverwritesCard : Claim7 := { stood := { row := livenessOverwritesRow, standIns := [], harness := (true, "657ba23c99bc65f3d420b998af8f34a0629a3d7316a07667cc7dbb731d5d85fe"), looks := false }, kinds := [], alts := [], laidByText := true, laidKinds := [.data], laidTests := true, laidLooks := .later }
def LivenessOverwritesCardSaid : Prop := Claim7.holds Tryd.pinned (.plain (OpenSpec.ofChange livenessOverwritesSpec)) livenessOverwritesCard

/-- THE TIED CARD OF 'ontimelaw19.LivenessInterference'. -/
def livenessInterferenceCard : Claim7 := { stood := { row := livenessInterferenceRow, standIns := [], harness := (true, "657ba23c99bc65f3d420b998af8f34a0629a3d7316a07667cc7dbb731d5d85fe"), looks := false }, kinds := [], alts := [], laidByText := true, laidKinds := [.data], laidTests := true, laidLooks := .later }
def LivenessInterferenceCardSaid : Prop := Claim7.holds Tryd.pinned (.plain (OpenSpec.ofChange livenessInterferenceSpec)) livenessInterferenceCard

/-- THE SECOND FORM's CARD OF 'ontimelaw19.LivenessSets'. -/
def livenessSetsUptoCard : Claim7 := { stood := { row := livenessSetsUptoRow, standIns := [], harness := (true, "657ba23c99bc65f3d420b998af8f34a0629a3d7316a07667cc7dbb731d5d85fe"), looks := false }, kinds := [], alts := [], laidByText := true, laidKinds := [.data], laidTests := true, laidLooks := .later }
def LivenessSetsUptoCardSaid : Prop := Claim7.holds Tryd.pinned (.plain (OpenSpec.upto livenessSetsSpec)) livenessSetsUptoCard

/-- THE SECOND FORM's CARD OF 'ontimelaw19.LivenessEquations'. -/
def livenessEquationsUptoCard : Claim7 := { stood := { row := livenessEquationsUptoRow, standIns := [], harness := (true, "657ba23c99bc65f3d420b998af8f34a0629a3d7316a07667cc7dbb731d5d85fe"), looks := false }, kinds := [], alts := [], laidByText := true, laidKinds := [.data], laidTests := true, laidLooks := .later }
def LivenessEquationsUptoCardSaid : Prop := Claim7.holds Tryd.pinned (.plain (OpenSpec.upto livenessEquationsSpec)) livenessEquationsUptoCard

/-- THE SECOND FORM's CARD OF 'ontimelaw19.LivenessBounds'. -/
def livenessBoundsUptoCard : Claim7 := { stood := { row := livenessBoundsUptoRow, standIns := [], harness := (true, "657ba23c99bc65f3d420b998af8f34a0629a3d7316a07667cc7dbb731d5d85fe"), looks := false }, kinds := [], alts := [], laidByText := true, laidKinds := [.data], laidTests := true, laidLooks := .later }
def LivenessBoundsUptoCardSaid : Prop := Claim7.holds Tryd.pinned (.plain (OpenSpec.upto livenessBoundsSpec)) livenessBoundsUptoCard

/-- THE SECOND FORM's CARD OF 'ontimelaw19.LivenessValues'. -/
def livenessValuesUptoCard : Claim7 := { stood := { row := livenessValuesUptoRow, standIns := [], harness := (true, "657ba23c99bc65f3d420b998af8f34a0629a3d7316a07667cc7dbb731d5d85fe"), looks := false }, kinds := [], alts := [], laidByText := true, laidKinds := [.data], laidTests := true, laidLooks := .later }
def LivenessValuesUptoCardSaid : Prop := Claim7.holds Tryd.pinned (.plain (OpenSpec.upto livenessValuesSpec)) livenessValuesUptoCard

/-- THE SECOND FORM's CARD OF 'ontimelaw19.LivenessMerges'. -/
def livenessMergesUptoCard : Claim7 := { stood := { row := livenessMergesUptoRow, standIns := [], harness := (true, "657ba23c99bc65f3d420b998af8f34a0629a3d7316a07667cc7dbb731d5d85fe"), looks := false }, kinds := [], alts := [], laidByText := true, laidKinds := [.data], laidTests := true, laidLooks := .later }
def LivenessMergesUptoCardSaid : Prop := Claim7.holds Tryd.pinned (.plain (OpenSpec.upto livenessMergesSpec)) livenessMergesUptoCard

/-- THE SECOND FORM's CARD OF 'ontimelaw19.LivenessOverwrites'. -/
def livenessOverwritesUptoCard : Claim7 := { stood := { row := livenessOverwritesUptoRow, standIns := [], harness := (true, "657ba23c99bc65f3d420b998af8f34a0629a3d7316a07667cc7dbb731d5d85fe"), looks := false }, kinds := [], alts := [], laidByText := true, laidKinds := [.data], laidTests := true, laidLooks := .later }
def LivenessOverwritesUptoCardSaid : Prop := Claim7.holds Tryd.pinned (.plain (OpenSpec.upto livenessOverwritesSpec)) livenessOverwritesUptoCard

/-- THE SECOND FORM's CARD OF 'ontimelaw19.LivenessInterference'. -/
def livenessInterferenceUptoCard : Claim7 := { stood := { row := livenessInterferenceUptoRow, standIns := [], harness := (true, "657ba23c99bc65f3d420b998af8f34a0629a3d7316a07667cc7dbb731d5d85fe"), looks := false }, kinds := [], alts := [], laidByText := true, laidKinds := [.data], laidTests := true, laidLooks := .later }
def LivenessInterferenceUptoCardSaid : Prop := Claim7.holds Tryd.pinned (.plain (OpenSpec.upto livenessInterferenceSpec)) livenessInterferenceUptoCard
end Rows
end Go.Proofs.YteknhnnlhhgppaaDoor
