/-
  DERIVED. GIVEN WITH THE SEED: THE CARDS: each row of YtjmljfpnofjkeaaGreatDoorRows.lean that lists a variable, with what it lists TIED to the program's text (the seventh form; the later family's looks); each row that meets fmt, with fmt's text TOLD by the authors' own Lean function (tested against real Go, not proved from fmt's source: count such statements apart). THE CARD IS WHAT COUNTS. Prove the row's statement (the work); the ties are given (YtjmljfpnofjkeaaGreatDoorTie.lean); close each card by the builder's one call (the guide's Derived/Test/ToyasCard.lean, 'card_holds'). Laid BY PROGRAM, IN A SANDBOX (cutbox-door.mjs). By AI agents, Wed Nov 11 2026. No macro, syntax, notation, axiom, sorry.
-/
import Derived.Test.YtjmljfpnofjkeaaGreatDoorRows
import GoSem.ClaimSeven
namespace Go.Proofs.YtjmljfpnofjkeaaGreatDoor
namespace Rows

/-- THE TIED CARD OF 'laws.FnTerms'. -/
def fnTermsCard : Claim7 := { stood := { row := fnTermsRow, standIns := [], harness := (true, "202534abe789c6918dd3f94b790d29ebf78f50f9df95ba156ad5dabbd6d156ea"), looks := true }, kinds := [], alts := [], laidByText := true, laidKinds := [.data, .data, .data, .sentinel, .sentinel], laidTests := true, laidLooks := .later }
def FnTermsCardSaid : Prop := Claim7.holds Tryz.pinned (.plain (OpenSpec.ofChange fnTermsSpec)) fnTermsCard

/-- THE TIED CARD OF 'laws.FnDiamond'. -/
def fnDiamondCard : Claim7 := { stood := { row := fnDiamondRow, standIns := [], harness := (true, "202534abe789c6918dd3f94b790d29ebf78f50f9df95ba156ad5dabbd6d156ea"), looks := true }, kinds := [], alts := [], laidByText := true, laidKinds := [.data, .data, .data, .sentinel, .sentinel], laidTests := true, laidLooks := .later }
def FnDiamondCardSaid : Prop := Claim7.holds Tryz.pinned (.plain (OpenSpec.ofChange fnDiamondSpec)) fnDiamondCard

/-- THE SECOND FORM's CARD OF 'laws.FnTerms'. -/
def fnTermsUptoCard : Claim7 := { stood := { row := fnTermsUptoRow, standIns := [], harness := (true, "202534abe789c6918dd3f94b790d29ebf78f50f9df95ba156ad5dabbd6d156ea"), looks := true }, kinds := [], alts := [], laidByText := true, laidKinds := [.data, .data, .data, .sentinel, .sentinel], laidTests := true, laidLooks := .later }
def FnTermsUptoCardSaid : Prop := Claim7.holds Tryz.pinned (.plain (OpenSpec.upto fnTermsSpec)) fnTermsUptoCard

/-- THE SECOND FORM's CARD OF 'laws.FnDiamond'. -/
def fnDiamondUptoCard : Claim7 := { stood := { row := fnDiamondUptoRow, standIns := [], harness := (true, "202534abe789c6918dd3f94b790d29ebf78f50f9df95ba156ad5dabbd6d156ea"), looks := true }, kinds := [], alts := [], laidByText := true, laidKinds := [.data, .data, .data, .sentinel, .sentinel], laidTests := true, laidLooks := .later }
def FnDiamondUptoCardSaid : Prop := Claim7.holds Tryz.pinned (.plain (OpenSpec.upto fnDiamondSpec)) fnDiamondUptoCard
end Rows
end Go.Proofs.YtjmljfpnofjkeaaGreatDoor
