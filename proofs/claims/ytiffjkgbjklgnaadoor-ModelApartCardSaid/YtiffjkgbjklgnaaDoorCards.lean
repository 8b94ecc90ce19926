/-
  DERIVED. GIVEN WITH THE SEED: THE CARDS: each row of YtiffjkgbjklgnaaDoorRows.lean that lists a variable, with what it lists TIED to the program's text (the seventh form; the later family's looks); each row that meets fmt, with fmt's text TOLD by the authors' own Lean function (tested against real Go, not proved from fmt's source: count such statements apart). THE CARD IS WHAT COUNTS. Prove the row's statement (the work); the ties are given (YtiffjkgbjklgnaaDoorTie.lean); close each card by the builder's one call (the guide's Derived/Test/ToyasCard.lean, 'card_holds'). Laid BY PROGRAM, IN A SANDBOX (cutbox-door.mjs). By AI agents, Wed Nov 11 2026. No macro, syntax, notation, axiom, sorry.
-/
import Derived.Test.YtiffjkgbjklgnaaDoorRows
import GoSem.ClaimSeven
namespace Go.Proofs.YtiffjkgbjklgnaaDoor
namespace Rows

/-- THE TIED CARD OF 'garthlaw23.ModelApart'. -/
def modelApartCard : Claim7 := { stood := { row := modelApartRow, standIns := [], harness := (true, "5bf5617a09e879e6c57dbaf0a272ca590696ce318a717b8f6ad2e60332d96f5c"), looks := true }, kinds := [], alts := [], laidByText := true, laidKinds := [.data], laidTests := true, laidLooks := .later }
def ModelApartCardSaid : Prop := Claim7.holds Tryd.pinned (.plain (OpenSpec.ofChange modelApartSpec)) modelApartCard

/-- THE TIED CARD OF 'garthlaw23.ModelNil'. -/
def modelNilCard : Claim7 := { stood := { row := modelNilRow, standIns := [], harness := (true, "5bf5617a09e879e6c57dbaf0a272ca590696ce318a717b8f6ad2e60332d96f5c"), looks := true }, kinds := [], alts := [], laidByText := true, laidKinds := [.data], laidTests := true, laidLooks := .later }
def ModelNilCardSaid : Prop := Claim7.holds Tryd.pinned (.plain (OpenSpec.ofChange modelNilSpec)) modelNilCard

/-- THE TIED CARD OF 'garthlaw23.ModelCopy'. -/
def modelCopyCard : Claim7 := { stood := { row := modelCopyRow, standIns := [], harness := (true, "5bf5617a09e879e6c57dbaf0a272ca590696ce318a717b8f6ad2e60332d96f5c"), looks := true }, kinds := [], alts := [], laidByText := true, laidKinds := [.data], laidTests := true, laidLooks := .later }
def ModelCopyCardSaid : Prop := Claim7.holds Tryd.pinned (.plain (OpenSpec.ofChange modelCopySpec)) modelCopyCard

/-- THE SECOND FORM's CARD OF 'garthlaw23.ModelApart'. -/
def modelApartUptoCard : Claim7 := { stood := { row := modelApartUptoRow, standIns := [], harness := (true, "5bf5617a09e879e6c57dbaf0a272ca590696ce318a717b8f6ad2e60332d96f5c"), looks := true }, kinds := [], alts := [], laidByText := true, laidKinds := [.data], laidTests := true, laidLooks := .later }
def ModelApartUptoCardSaid : Prop := Claim7.holds Tryd.pinned (.plain (OpenSpec.upto modelApartSpec)) modelApartUptoCard

/-- THE SECOND FORM's CARD OF 'garthlaw23.ModelNil'. -/
def modelNilUptoCard : Claim7 := { stood := { row := modelNilUptoRow, standIns := [], harness := (true, "5bf5617a09e879e6c57dbaf0a272ca590696ce318a717b8f6ad2e60332d96f5c"), looks := true }, kinds := [], alts := [], laidByText := true, laidKinds := [.data], laidTests := true, laidLooks := .later }
def ModelNilUptoCardSaid : Prop := Claim7.holds Tryd.pinned (.plain (OpenSpec.upto modelNilSpec)) modelNilUptoCard

/-- THE SECOND FORM's CARD OF 'garthlaw23.ModelCopy'. -/
def modelCopyUptoCard : Claim7 := { stood := { row := modelCopyUptoRow, standIns := [], harness := (true, "5bf5617a09e879e6c57dbaf0a272ca590696ce318a717b8f6ad2e60332d96f5c"), looks := true }, kinds := [], alts := [], laidByText := true, laidKinds := [.data], laidTests := true, laidLooks := .later }
def ModelCopyUptoCardSaid : Prop := Claim7.holds Tryd.pinned (.plain (OpenSpec.upto modelCopySpec)) modelCopyUptoCard
end Rows
end Go.Proofs.YtiffjkgbjklgnaaDoor
