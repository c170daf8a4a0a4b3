/-
  DERIVED. GIVEN WITH THE SEED: THE CARDS: each row of YtmoocdlfclhgcaaDoorRows.lean that lists a variable, with what it lists TIED to the program's text (the seventh form; the later family's looks); each row that meets fmt, with fmt's text TOLD by the authors' own Lean function (tested against real Go, not proved from fmt's source: count such statements apart). THE CARD IS WHAT COUNTS. Prove the row's statement (the work); the ties are given (YtmoocdlfclhgcaaDoorTie.lean); close each card by the builder's one call (the guide's Derived/Test/ToyasCard.lean, 'card_holds'). Laid BY PROGRAM, IN A SANDBOX (cutbox-door.mjs). By AI agents, Wed Nov 11 2026. No macro, syntax, notation, axiom, sorry.
-/
import Derived.Test.YtmoocdlfclhgcaaDoorRows
import GoSem.ClaimSeven
namespace Go.Proofs.YtmoocdlfclhgcaaDoor
namespace Rows

/-- THE TIED CARD OF 'laws.FnExactCallsIn'. -/
def fnExactCallsInCard : Claim7 := { stood := { row := fnExactCallsInRow, standIns := [], harness := (true, "329d426325702a782e31df2674cd905a4db5641f93a9b18856352dbe941b77e0"), looks := false }, kinds := [], alts := [], laidByText := true, laidKinds := [.data, .data, .data], laidTests := true, laidLooks := .later }
def FnExactCallsInCardSaid : Prop := Claim7.holds Tryd.pinned (.plain (OpenSpec.ofChange fnExactCallsInSpec)) fnExactCallsInCard

/-- THE TIED CARD OF 'laws.FnExactDepthsOf'. -/
def fnExactDepthsOfCard : Claim7 := { stood := { row := fnExactDepthsOfRow, standIns := [], harness := (true, "329d426325702a782e31df2674cd905a4db5641f93a9b18856352dbe941b77e0"), looks := false }, kinds := [], alts := [], laidByText := true, laidKinds := [.data, .data, .data], laidTests := true, laidLooks := .later }
def FnExactDepthsOfCardSaid : Prop := Claim7.holds Tryd.pinned (.plain (OpenSpec.ofChange fnExactDepthsOfSpec)) fnExactDepthsOfCard

/-- THE SECOND FORM's CARD OF 'laws.FnExactCallsIn'. -/
def fnExactCallsInUptoCard : Claim7 := { stood := { row := fnExactCallsInUptoRow, standIns := [], harness := (true, "329d426325702a782e31df2674cd905a4db5641f93a9b18856352dbe941b77e0"), looks := false }, kinds := [], alts := [], laidByText := true, laidKinds := [.data, .data, .data], laidTests := true, laidLooks := .later }
def FnExactCallsInUptoCardSaid : Prop := Claim7.holds Tryd.pinned (.plain (OpenSpec.upto fnExactCallsInSpec)) fnExactCallsInUptoCard

/-- THE SECOND FORM's CARD OF 'laws.FnExactDepthsOf'. -/
def fnExactDepthsOfUptoCard : Claim7 := { stood := { row := fnExactDepthsOfUptoRow, standIns := [], harness := (true, "329d426325702a782e31df2674cd905a4db5641f93a9b18856352dbe941b77e0"), looks := false }, kinds := [], alts := [], laidByText := true, laidKinds := [.data, .data, .data], laidTests := true, laidLooks := .later }
def FnExactDepthsOfUptoCardSaid : Prop := Claim7.holds Tryd.pinned (.plain (OpenSpec.upto fnExactDepthsOfSpec)) fnExactDepthsOfUptoCard
end Rows
end Go.Proofs.YtmoocdlfclhgcaaDoor
