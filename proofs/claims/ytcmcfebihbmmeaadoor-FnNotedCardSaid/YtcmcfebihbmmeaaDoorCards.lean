/-
  DERIVED. GIVEN WITH THE SEED: THE CARDS: each row of YtcmcfebihbmmeaaDoorRows.lean that lists a variable, with what it lists TIED to the program's text (the seventh form; the later family's looks); each row that meets fmt, with fmt's text TOLD by the authors' own Lean function (tested against real Go, not proved from fmt's source: count such statements apart). THE CARD IS WHAT COUNTS. Prove the row's statement (the work); the ties are given (YtcmcfebihbmmeaaDoorTie.lean); close each card by the builder's one call (the guide's Derived/Test/ToyasCard.lean, 'card_holds'). Laid BY PROGRAM, IN A SANDBOX (cutbox-door.mjs). By AI agents, Wed Nov 11 2026. No macro, syntax, notation, axiom, sorry.
-/
import Derived.Test.YtcmcfebihbmmeaaDoorRows
import GoSem.ClaimSeven
namespace Go.Proofs.YtcmcfebihbmmeaaDoor
namespace Rows

/-- THE TIED CARD OF 'laws.FnExactShowDeep'. -/
def fnExactShowDeepCard : Claim7 := { stood := { row := fnExactShowDeepRow, standIns := [], harness := (true, "6ff86e34f5ef3fa93c68ab0da54ea809c76b7496032f1ace8724b71ef3b8924e"), looks := true }, kinds := [], alts := [], laidByText := true, laidKinds := [.data, .data, .data], laidTests := true, laidLooks := .later }
def FnExactShowDeepCardSaid : Prop := Claim7.holds Tryd.pinned (.plain (OpenSpec.ofChange fnExactShowDeepSpec)) fnExactShowDeepCard

/-- THE TIED CARD OF 'laws.FnExactModelWrites'. -/
def fnExactModelWritesCard : Claim7 := { stood := { row := fnExactModelWritesRow, standIns := [], harness := (true, "6ff86e34f5ef3fa93c68ab0da54ea809c76b7496032f1ace8724b71ef3b8924e"), looks := true }, kinds := [], alts := [], laidByText := true, laidKinds := [.data, .data, .data], laidTests := true, laidLooks := .later }
def FnExactModelWritesCardSaid : Prop := Claim7.holds Tryd.pinned (.plain (OpenSpec.ofChange fnExactModelWritesSpec)) fnExactModelWritesCard

/-- THE TIED CARD OF 'laws.FnExactPlayWrites'. -/
def fnExactPlayWritesCard : Claim7 := { stood := { row := fnExactPlayWritesRow, standIns := [], harness := (true, "6ff86e34f5ef3fa93c68ab0da54ea809c76b7496032f1ace8724b71ef3b8924e"), looks := true }, kinds := [], alts := [], laidByText := true, laidKinds := [.data, .data, .data], laidTests := true, laidLooks := .later }
def FnExactPlayWritesCardSaid : Prop := Claim7.holds Tryd.pinned (.plain (OpenSpec.ofChange fnExactPlayWritesSpec)) fnExactPlayWritesCard

/-- THE TIED CARD OF 'laws.FnExactModelHeap'. -/
def fnExactModelHeapCard : Claim7 := { stood := { row := fnExactModelHeapRow, standIns := [], harness := (true, "6ff86e34f5ef3fa93c68ab0da54ea809c76b7496032f1ace8724b71ef3b8924e"), looks := true }, kinds := [], alts := [], laidByText := true, laidKinds := [.data, .data, .data, .sentinel, .sentinel], laidTests := true, laidLooks := .later }
def FnExactModelHeapCardSaid : Prop := Claim7.holds Tryd.pinned (.plain (OpenSpec.ofChange fnExactModelHeapSpec)) fnExactModelHeapCard

/-- THE TIED CARD OF 'laws.FnExactPlayHeap'. -/
def fnExactPlayHeapCard : Claim7 := { stood := { row := fnExactPlayHeapRow, standIns := [], harness := (true, "6ff86e34f5ef3fa93c68ab0da54ea809c76b7496032f1ace8724b71ef3b8924e"), looks := true }, kinds := [], alts := [], laidByText := true, laidKinds := [.data, .data, .data, .sentinel, .sentinel], laidTests := true, laidLooks := .later }
def FnExactPlayHeapCardSaid : Prop := Claim7.holds Tryd.pinned (.plain (OpenSpec.ofChange fnExactPlayHeapSpec)) fnExactPlayHeapCard

/-- THE TIED CARD OF 'laws.FnNoted'. -/
def fnNotedCard : Claim7 := { stood := { row := fnNotedRow, standIns := [], harness := (true, "6ff86e34f5ef3fa93c68ab0da54ea809c76b7496032f1ace8724b71ef3b8924e"), looks := true }, kinds := [], alts := [], laidByText := true, laidKinds := [.data, .data, .data], laidTests := true, laidLooks := .later }
def FnNotedCardSaid : Prop := Claim7.holds Tryd.pinned (.plain (OpenSpec.ofChange fnNotedSpec)) fnNotedCard

/-- THE TIED CARD OF 'laws.FnWritten'. -/
def fnWrittenCard : Claim7 := { stood := { row := fnWrittenRow, standIns := [], harness := (true, "6ff86e34f5ef3fa93c68ab0da54ea809c76b7496032f1ace8724b71ef3b8924e"), looks := true }, kinds := [], alts := [], laidByText := true, laidKinds := [.data, .data, .data], laidTests := true, laidLooks := .later }
def FnWrittenCardSaid : Prop := Claim7.holds Tryd.pinned (.plain (OpenSpec.ofChange fnWrittenSpec)) fnWrittenCard

/-- THE TIED CARD OF 'laws.FnUnseen'. -/
def fnUnseenCard : Claim7 := { stood := { row := fnUnseenRow, standIns := [], harness := (true, "6ff86e34f5ef3fa93c68ab0da54ea809c76b7496032f1ace8724b71ef3b8924e"), looks := true }, kinds := [], alts := [], laidByText := true, laidKinds := [.data, .data, .data, .sentinel, .sentinel], laidTests := true, laidLooks := .later }
def FnUnseenCardSaid : Prop := Claim7.holds Tryd.pinned (.plain (OpenSpec.ofChange fnUnseenSpec)) fnUnseenCard

/-- THE SECOND FORM's CARD OF 'laws.FnExactShowDeep'. -/
def fnExactShowDeepUptoCard : Claim7 := { stood := { row := fnExactShowDeepUptoRow, standIns := [], harness := (true, "6ff86e34f5ef3fa93c68ab0da54ea809c76b7496032f1ace8724b71ef3b8924e"), looks := true }, kinds := [], alts := [], laidByText := true, laidKinds := [.data, .data, .data], laidTests := true, laidLooks := .later }
def FnExactShowDeepUptoCardSaid : Prop := Claim7.holds Tryd.pinned (.plain (OpenSpec.upto fnExactShowDeepSpec)) fnExactShowDeepUptoCard

/-- THE SECOND FORM's CARD OF 'laws.FnExactModelWrites'. -/
def fnExactModelWritesUptoCard : Claim7 := { stood := { row := fnExactModelWritesUptoRow, standIns := [], harness := (true, "6ff86e34f5ef3fa93c68ab0da54ea809c76b7496032f1ace8724b71ef3b8924e"), looks := true }, kinds := [], alts := [], laidByText := true, laidKinds := [.data, .data, .data], laidTests := true, laidLooks := .later }
def FnExactModelWritesUptoCardSaid : Prop := Claim7.holds Tryd.pinned (.plain (OpenSpec.upto fnExactModelWritesSpec)) fnExactModelWritesUptoCard

/-- THE SECOND FORM's CARD OF 'laws.FnExactPlayWrites'. -/
def fnExactPlayWritesUptoCard : Claim7 := { stood := { row := fnExactPlayWritesUptoRow, standIns := [], harness := (true, "6ff86e34f5ef3fa93c68ab0da54ea809c76b7496032f1ace8724b71ef3b8924e"), looks := true }, kinds := [], alts := [], laidByText := true, laidKinds := [.data, .data, .data], laidTests := true, laidLooks := .later }
def FnExactPlayWritesUptoCardSaid : Prop := Claim7.holds Tryd.pinned (.plain (OpenSpec.upto fnExactPlayWritesSpec)) fnExactPlayWritesUptoCard

/-- THE SECOND FORM's CARD OF 'laws.FnExactModelHeap'. -/
def fnExactModelHeapUptoCard : Claim7 := { stood := { row := fnExactModelHeapUptoRow, standIns := [], harness := (true, "6ff86e34f5ef3fa93c68ab0da54ea809c76b7496032f1ace8724b71ef3b8924e"), looks := true }, kinds := [], alts := [], laidByText := true, laidKinds := [.data, .data, .data, .sentinel, .sentinel], laidTests := true, laidLooks := .later }
def FnExactModelHeapUptoCardSaid : Prop := Claim7.holds Tryd.pinned (.plain (OpenSpec.upto fnExactModelHeapSpec)) fnExactModelHeapUptoCard

/-- THE SECOND FORM's CARD OF 'laws.FnExactPlayHeap'. -/
def fnExactPlayHeapUptoCard : Claim7 := { stood := { row := fnExactPlayHeapUptoRow, standIns := [], harness := (true, "6ff86e34f5ef3fa93c68ab0da54ea809c76b7496032f1ace8724b71ef3b8924e"), looks := true }, kinds := [], alts := [], laidByText := true, laidKinds := [.data, .data, .data, .sentinel, .sentinel], laidTests := true, laidLooks := .later }
def FnExactPlayHeapUptoCardSaid : Prop := Claim7.holds Tryd.pinned (.plain (OpenSpec.upto fnExactPlayHeapSpec)) fnExactPlayHeapUptoCard

/-- THE SECOND FORM's CARD OF 'laws.FnNoted'. -/
def fnNotedUptoCard : Claim7 := { stood := { row := fnNotedUptoRow, standIns := [], harness := (true, "6ff86e34f5ef3fa93c68ab0da54ea809c76b7496032f1ace8724b71ef3b8924e"), looks := true }, kinds := [], alts := [], laidByText := true, laidKinds := [.data, .data, .data], laidTests := true, laidLooks := .later }
def FnNotedUptoCardSaid : Prop := Claim7.holds Tryd.pinned (.plain (OpenSpec.upto fnNotedSpec)) fnNotedUptoCard

/-- THE SECOND FORM's CARD OF 'laws.FnWritten'. -/
def fnWrittenUptoCard : Claim7 := { stood := { row := fnWrittenUptoRow, standIns := [], harness := (true, "6ff86e34f5ef3fa93c68ab0da54ea809c76b7496032f1ace8724b71ef3b8924e"), looks := true }, kinds := [], alts := [], laidByText := true, laidKinds := [.data, .data, .data], laidTests := true, laidLooks := .later }
def FnWrittenUptoCardSaid : Prop := Claim7.holds Tryd.pinned (.plain (OpenSpec.upto fnWrittenSpec)) fnWrittenUptoCard

/-- THE SECOND FORM's CARD OF 'laws.FnUnseen'. -/
def fnUnseenUptoCard : Claim7 := { stood := { row := fnUnseenUptoRow, standIns := [], harness := (true, "6ff86e34f5ef3fa93c68ab0da54ea809c76b7496032f1ace8724b71ef3b8924e"), looks := true }, kinds := [], alts := [], laidByText := true, laidKinds := [.data, .data, .data, .sentinel, .sentinel], laidTests := true, laidLooks := .later }
def FnUnseenUptoCardSaid : Prop := Claim7.holds Tryd.pinned (.plain (OpenSpec.upto fnUnseenSpec)) fnUnseenUptoCard
end Rows
end Go.Proofs.YtcmcfebihbmmeaaDoor
