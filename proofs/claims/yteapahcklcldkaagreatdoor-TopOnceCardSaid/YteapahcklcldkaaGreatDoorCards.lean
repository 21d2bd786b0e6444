/-
  DERIVED. GIVEN WITH THE SEED: THE CARDS: each row of YteapahcklcldkaaGreatDoorRows.lean that lists a variable, with what it lists TIED to the program's text (the seventh form; the later family's looks); each row that meets fmt, with fmt's text TOLD by the authors' own Lean function (tested against real Go, not proved from fmt's source: count such statements apart). THE CARD IS WHAT COUNTS. Prove the row's statement (the work); the ties are given (YteapahcklcldkaaGreatDoorTie.lean); close each card by the builder's one call (the guide's Derived/Test/ToyasCard.lean, 'card_holds'). Laid BY PROGRAM, IN A SANDBOX (cutbox-door.mjs). By AI agents, Wed Nov 11 2026. No macro, syntax, notation, axiom, sorry.
-/
import Derived.Test.YteapahcklcldkaaGreatDoorRows
import GoSem.ClaimSeven
namespace Go.Proofs.YteapahcklcldkaaGreatDoor
namespace Rows

/-- THE TIED CARD OF 'flotsamtop.TopShares'. -/
def topSharesCard : Claim7 := { stood := { row := topSharesRow, standIns := [], harness := (true, "a9364e0ca851da0d789cf42a116332f7c1db85165bc4341156243947b44acabd"), looks := false }, kinds := [], alts := [], laidByText := true, laidKinds := [.data, .data, .data, .data, .data, .pinned], laidTests := true, laidLooks := .later }
def TopSharesCardSaid : Prop := Claim7.holds Tryz.pinned (.plain (OpenSpec.ofChange topSharesSpec)) topSharesCard

/-- THE TIED CARD OF 'flotsamtop.TopBad'. -/
def topBadCard : Claim7 := { stood := { row := topBadRow, standIns := [], harness := (true, "a9364e0ca851da0d789cf42a116332f7c1db85165bc4341156243947b44acabd"), looks := false }, kinds := [], alts := [], laidByText := true, laidKinds := [.data, .data, .data, .data], laidTests := true, laidLooks := .later }
def TopBadCardSaid : Prop := Claim7.holds Tryz.pinned (.plain (OpenSpec.ofChange topBadSpec)) topBadCard

/-- THE TIED CARD OF 'flotsamtop.TopOnce'. -/
def topOnceCard : Claim7 := { stood := { row := topOnceRow, standIns := [], harness := (true, "a9364e0ca851da0d789cf42a116332f7c1db85165bc4341156243947b44acabd"), looks := false }, kinds := [], alts := [], laidByText := true, laidKinds := [.data, .data, .data, .data, .data, .pinned], laidTests := true, laidLooks := .later }
def TopOnceCardSaid : Prop := Claim7.holds Tryz.pinned (.plain (OpenSpec.ofChange topOnceSpec)) topOnceCard

/-- THE SECOND FORM's CARD OF 'flotsamtop.TopShares'. -/
def topSharesUptoCard : Claim7 := { stood := { row := topSharesUptoRow, standIns := [], harness := (true, "a9364e0ca851da0d789cf42a116332f7c1db85165bc4341156243947b44acabd"), looks := false }, kinds := [], alts := [], laidByText := true, laidKinds := [.data, .data, .data, .data, .data, .pinned], laidTests := true, laidLooks := .later }
def TopSharesUptoCardSaid : Prop := Claim7.holds Tryz.pinned (.plain (OpenSpec.upto topSharesSpec)) topSharesUptoCard

/-- THE SECOND FORM's CARD OF 'flotsamtop.TopBad'. -/
def topBadUptoCard : Claim7 := { stood := { row := topBadUptoRow, standIns := [], harness := (true, "a9364e0ca851da0d789cf42a116332f7c1db85165bc4341156243947b44acabd"), looks := false }, kinds := [], alts := [], laidByText := true, laidKinds := [.data, .data, .data, .data], laidTests := true, laidLooks := .later }
def TopBadUptoCardSaid : Prop := Claim7.holds Tryz.pinned (.plain (OpenSpec.upto topBadSpec)) topBadUptoCard

/-- THE SECOND FORM's CARD OF 'flotsamtop.TopOnce'. -/
def topOnceUptoCard : Claim7 := { stood := { row := topOnceUptoRow, standIns := [], harness := (true, "a9364e0ca851da0d789cf42a116332f7c1db85165bc4341156243947b44acabd"), looks := false }, kinds := [], alts := [], laidByText := true, laidKinds := [.data, .data, .data, .data, .data, .pinned], laidTests := true, laidLooks := .later }
def TopOnceUptoCardSaid : Prop := Claim7.holds Tryz.pinned (.plain (OpenSpec.upto topOnceSpec)) topOnceUptoCard
end Rows
end Go.Proofs.YteapahcklcldkaaGreatDoor
