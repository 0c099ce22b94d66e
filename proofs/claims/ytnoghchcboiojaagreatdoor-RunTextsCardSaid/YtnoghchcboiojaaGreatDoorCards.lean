/-
  DERIVED. GIVEN WITH THE SEED: THE CARDS: each row of YtnoghchcboiojaaGreatDoorRows.lean that lists a variable, with what it lists TIED to the program's text (the seventh form; the later family's looks); each row that meets fmt, with fmt's text TOLD by the authors' own Lean function (tested against real Go, not proved from fmt's source: count such statements apart). THE CARD IS WHAT COUNTS. Prove the row's statement (the work); the ties are given (YtnoghchcboiojaaGreatDoorTie.lean); close each card by the builder's one call (the guide's Derived/Test/ToyasCard.lean, 'card_holds'). Laid BY PROGRAM, IN A SANDBOX (cutbox-door.mjs). By AI agents, Wed Nov 11 2026. No macro, syntax, notation, axiom, sorry.
-/
import Derived.Test.YtnoghchcboiojaaGreatDoorRows
import GoSem.ClaimSeven
namespace Go.Proofs.YtnoghchcboiojaaGreatDoor
namespace Rows

/-- THE TIED CARD OF 'heraldlaw18.RunParses'. -/
def runParsesCard : Claim7 := { stood := { row := runParsesRow, standIns := [], harness := (true, "31a973c4003ff9841b3857ccab2673941dc47fe565176de8e5c12dc79d05f0b0"), looks := true }, kinds := [], alts := [], goes := true, laidByText := true, laidKinds := [.data, .data, .data, .data, .sentinel, .sentinel, .data, .data, .data, .data, .widerDeep, .data, .pinned], laidTests := true, laidLooks := .later }
def RunParsesCardSaid : Prop := Claim7.holds Tryz.pinned (.plain (OpenSpec.ofChange runParsesSpec)) runParsesCard

/-- THE TIED CARD OF 'heraldlaw18.RunPrints'. -/
def runPrintsCard : Claim7 := { stood := { row := runPrintsRow, standIns := [], harness := (true, "31a973c4003ff9841b3857ccab2673941dc47fe565176de8e5c12dc79d05f0b0"), looks := true }, kinds := [], alts := [], goes := true, laidByText := true, laidKinds := [.data, .data, .data, .data, .sentinel, .sentinel, .data, .data, .data, .data, .widerDeep, .data, .pinned], laidTests := true, laidLooks := .later }
def RunPrintsCardSaid : Prop := Claim7.holds Tryz.pinned (.plain (OpenSpec.ofChange runPrintsSpec)) runPrintsCard

/-- THE TIED CARD OF 'heraldlaw18.RunTexts'. -/
def runTextsCard : Claim7 := { stood := { row := runTextsRow, standIns := [], harness := (true, "31a973c4003ff9841b3857ccab2673941dc47fe565176de8e5c12dc79d05f0b0"), looks := true }, kinds := [], alts := [], goes := true, laidByText := true, laidKinds := [.data, .data, .data, .data, .sentinel, .sentinel, .data, .data, .data, .data, .widerDeep, .data, .pinned], laidTests := true, laidLooks := .later }
def RunTextsCardSaid : Prop := Claim7.holds Tryz.pinned (.plain (OpenSpec.ofChange runTextsSpec)) runTextsCard

/-- THE TIED CARD OF 'heraldlaw18.RunSteps'. -/
def runStepsCard : Claim7 := { stood := { row := runStepsRow, standIns := [], harness := (true, "31a973c4003ff9841b3857ccab2673941dc47fe565176de8e5c12dc79d05f0b0"), looks := true }, kinds := [], alts := [], goes := true, laidByText := true, laidKinds := [.data, .data, .data, .data, .sentinel, .sentinel, .data, .data, .data, .data, .widerDeep, .data, .pinned], laidTests := true, laidLooks := .later }
def RunStepsCardSaid : Prop := Claim7.holds Tryz.pinned (.plain (OpenSpec.ofChange runStepsSpec)) runStepsCard

/-- THE TIED CARD OF 'heraldlaw18.RunPlaces'. -/
def runPlacesCard : Claim7 := { stood := { row := runPlacesRow, standIns := [], harness := (true, "31a973c4003ff9841b3857ccab2673941dc47fe565176de8e5c12dc79d05f0b0"), looks := true }, kinds := [], alts := [], goes := true, laidByText := true, laidKinds := [.data, .data, .data, .data, .sentinel, .sentinel, .data, .data, .data, .data, .widerDeep, .data, .pinned], laidTests := true, laidLooks := .later }
def RunPlacesCardSaid : Prop := Claim7.holds Tryz.pinned (.plain (OpenSpec.ofChange runPlacesSpec)) runPlacesCard

/-- THE TIED CARD OF 'heraldlaw18.RunKeeps'. -/
def runKeepsCard : Claim7 := { stood := { row := runKeepsRow, standIns := [], harness := (true, "31a973c4003ff9841b3857ccab2673941dc47fe565176de8e5c12dc79d05f0b0"), looks := true }, kinds := [], alts := [], goes := true, laidByText := true, laidKinds := [.data, .data, .data, .data, .sentinel, .sentinel, .data, .data, .data, .data, .widerDeep, .data, .pinned], laidTests := true, laidLooks := .later }
def RunKeepsCardSaid : Prop := Claim7.holds Tryz.pinned (.plain (OpenSpec.ofChange runKeepsSpec)) runKeepsCard
end Rows
end Go.Proofs.YtnoghchcboiojaaGreatDoor
