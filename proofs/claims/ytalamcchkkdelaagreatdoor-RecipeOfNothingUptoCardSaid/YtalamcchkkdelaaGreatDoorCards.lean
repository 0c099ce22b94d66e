/-
  DERIVED. GIVEN WITH THE SEED: THE CARDS: each row of YtalamcchkkdelaaGreatDoorRows.lean that lists a variable, with what it lists TIED to the program's text (the seventh form; the later family's looks); each row that meets fmt, with fmt's text TOLD by the authors' own Lean function (tested against real Go, not proved from fmt's source: count such statements apart). THE CARD IS WHAT COUNTS. Prove the row's statement (the work); the ties are given (YtalamcchkkdelaaGreatDoorTie.lean); close each card by the builder's one call (the guide's Derived/Test/ToyasCard.lean, 'card_holds'). Laid BY PROGRAM, IN A SANDBOX (cutbox-door.mjs). By AI agents, Wed Nov 11 2026. No macro, syntax, notation, axiom, sorry.
-/
import Derived.Test.YtalamcchkkdelaaGreatDoorRows
import GoSem.ClaimSeven
namespace Go.Proofs.YtalamcchkkdelaaGreatDoor
namespace Rows

/-- THE TIED CARD OF 'heraldlaw20.RecipePlays'. -/
def recipePlaysCard : Claim7 := { stood := { row := recipePlaysRow, standIns := [], harness := (true, "be2c2b7b72682f1e0a16136107655277aa25b4c5bbd3ccc6e49ca6fbc23f0c27"), looks := true }, kinds := [], alts := [], laidByText := true, laidKinds := [.data, .data, .data, .data, .data, .pinned], laidTests := true, laidLooks := .later }
def RecipePlaysCardSaid : Prop := Claim7.holds Tryz.pinned (.plain (OpenSpec.ofChange recipePlaysSpec)) recipePlaysCard

/-- THE TIED CARD OF 'heraldlaw20.RecipeOfNothing'. -/
def recipeOfNothingCard : Claim7 := { stood := { row := recipeOfNothingRow, standIns := [], harness := (true, "be2c2b7b72682f1e0a16136107655277aa25b4c5bbd3ccc6e49ca6fbc23f0c27"), looks := true }, kinds := [], alts := [], laidByText := true, laidKinds := [.data, .data, .data, .data, .data, .pinned], laidTests := true, laidLooks := .later }
def RecipeOfNothingCardSaid : Prop := Claim7.holds Tryz.pinned (.plain (OpenSpec.ofChange recipeOfNothingSpec)) recipeOfNothingCard

/-- THE TIED CARD OF 'heraldlaw20.RecipeTwo'. -/
def recipeTwoCard : Claim7 := { stood := { row := recipeTwoRow, standIns := [], harness := (true, "be2c2b7b72682f1e0a16136107655277aa25b4c5bbd3ccc6e49ca6fbc23f0c27"), looks := true }, kinds := [], alts := [], laidByText := true, laidKinds := [.data, .data, .data, .data, .data, .pinned], laidTests := true, laidLooks := .later }
def RecipeTwoCardSaid : Prop := Claim7.holds Tryz.pinned (.plain (OpenSpec.ofChange recipeTwoSpec)) recipeTwoCard

/-- THE TIED CARD OF 'heraldlaw20.RecipeIsNew'. -/
def recipeIsNewCard : Claim7 := { stood := { row := recipeIsNewRow, standIns := [], harness := (true, "be2c2b7b72682f1e0a16136107655277aa25b4c5bbd3ccc6e49ca6fbc23f0c27"), looks := true }, kinds := [], alts := [], laidByText := true, laidKinds := [.data, .data, .data, .data, .data, .pinned], laidTests := true, laidLooks := .later }
def RecipeIsNewCardSaid : Prop := Claim7.holds Tryz.pinned (.plain (OpenSpec.ofChange recipeIsNewSpec)) recipeIsNewCard

/-- THE SECOND FORM's CARD OF 'heraldlaw20.RecipePlays'. -/
def recipePlaysUptoCard : Claim7 := { stood := { row := recipePlaysUptoRow, standIns := [], harness := (true, "be2c2b7b72682f1e0a16136107655277aa25b4c5bbd3ccc6e49ca6fbc23f0c27"), looks := true }, kinds := [], alts := [], laidByText := true, laidKinds := [.data, .data, .data, .data, .data, .pinned], laidTests := true, laidLooks := .later }
def RecipePlaysUptoCardSaid : Prop := Claim7.holds Tryz.pinned (.plain (OpenSpec.upto recipePlaysSpec)) recipePlaysUptoCard

/-- THE SECOND FORM's CARD OF 'heraldlaw20.RecipeOfNothing'. -/
def recipeOfNothingUptoCard : Claim7 := { stood := { row := recipeOfNothingUptoRow, standIns := [], harness := (true, "be2c2b7b72682f1e0a16136107655277aa25b4c5bbd3ccc6e49ca6fbc23f0c27"), looks := true }, kinds := [], alts := [], laidByText := true, laidKinds := [.data, .data, .data, .data, .data, .pinned], laidTests := true, laidLooks := .later }
def RecipeOfNothingUptoCardSaid : Prop := Claim7.holds Tryz.pinned (.plain (OpenSpec.upto recipeOfNothingSpec)) recipeOfNothingUptoCard

/-- THE SECOND FORM's CARD OF 'heraldlaw20.RecipeTwo'. -/
def recipeTwoUptoCard : Claim7 := { stood := { row := recipeTwoUptoRow, standIns := [], harness := (true, "be2c2b7b72682f1e0a16136107655277aa25b4c5bbd3ccc6e49ca6fbc23f0c27"), looks := true }, kinds := [], alts := [], laidByText := true, laidKinds := [.data, .data, .data, .data, .data, .pinned], laidTests := true, laidLooks := .later }
def RecipeTwoUptoCardSaid : Prop := Claim7.holds Tryz.pinned (.plain (OpenSpec.upto recipeTwoSpec)) recipeTwoUptoCard

/-- THE SECOND FORM's CARD OF 'heraldlaw20.RecipeIsNew'. -/
def recipeIsNewUptoCard : Claim7 := { stood := { row := recipeIsNewUptoRow, standIns := [], harness := (true, "be2c2b7b72682f1e0a16136107655277aa25b4c5bbd3ccc6e49ca6fbc23f0c27"), looks := true }, kinds := [], alts := [], laidByText := true, laidKinds := [.data, .data, .data, .data, .data, .pinned], laidTests := true, laidLooks := .later }
def RecipeIsNewUptoCardSaid : Prop := Claim7.holds Tryz.pinned (.plain (OpenSpec.upto recipeIsNewSpec)) recipeIsNewUptoCard
end Rows
end Go.Proofs.YtalamcchkkdelaaGreatDoor
