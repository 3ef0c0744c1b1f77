/-
  DERIVED. GIVEN WITH THE SEED: THE CARDS: each row of YtmibkoadjehdaaaGreatDoorRows.lean that lists a variable, with what it lists TIED to the program's text (the seventh form; the later family's looks); each row that meets fmt, with fmt's text TOLD by the authors' own Lean function (tested against real Go, not proved from fmt's source: count such statements apart). THE CARD IS WHAT COUNTS. Prove the row's statement (the work); the ties are given (YtmibkoadjehdaaaGreatDoorTie.lean); close each card by the builder's one call (the guide's Derived/Test/ToyasCard.lean, 'card_holds'). Laid BY PROGRAM, IN A SANDBOX (cutbox-door.mjs). By AI agents, Wed Nov 11 2026. No macro, syntax, notation, axiom, sorry.
-/
import Derived.Test.YtmibkoadjehdaaaGreatDoorRows
import GoSem.ClaimSeven
namespace Go.Proofs.YtmibkoadjehdaaaGreatDoor
namespace Rows

/-- THE TIED CARD OF 'eddylaw20.ScalePlaces'. -/
def scalePlacesCard : Claim7 := { stood := { row := scalePlacesRow, standIns := [], harness := (true, "653f9deed83ac69c75abfcafecd18475790b64580cfbba805c0469f100b29fd7"), looks := true }, kinds := [], alts := [], laidByText := true, laidKinds := [.data, .data, .data, .data, .sentinel, .sentinel, .data, .data, .data, .pinned], laidTests := true, laidLooks := .later }
def ScalePlacesCardSaid : Prop := Claim7.holds Tryz.pinned (.plain (OpenSpec.ofChange scalePlacesSpec)) scalePlacesCard

/-- THE TIED CARD OF 'eddylaw20.ScaleSpreads'. -/
def scaleSpreadsCard : Claim7 := { stood := { row := scaleSpreadsRow, standIns := [], harness := (true, "653f9deed83ac69c75abfcafecd18475790b64580cfbba805c0469f100b29fd7"), looks := true }, kinds := [], alts := [], laidByText := true, laidKinds := [.data, .data, .data, .data, .sentinel, .sentinel, .data, .data, .data, .data, .pinned], laidTests := true, laidLooks := .later }
def ScaleSpreadsCardSaid : Prop := Claim7.holds Tryz.pinned (.plain (OpenSpec.ofChange scaleSpreadsSpec)) scaleSpreadsCard

/-- THE TIED CARD OF 'eddylaw17.HealOther'. -/
def healOtherCard : Claim7 := { stood := { row := healOtherRow, standIns := [], harness := (true, "653f9deed83ac69c75abfcafecd18475790b64580cfbba805c0469f100b29fd7"), looks := true }, kinds := [], alts := [], laidByText := true, laidKinds := [.data, .data, .data, .data, .sentinel, .sentinel, .data, .data, .data, .data, .data, .data, .pinned], laidTests := true, laidLooks := .later }
def HealOtherCardSaid : Prop := Claim7.holds Tryz.pinned (.plain (OpenSpec.ofChange healOtherSpec)) healOtherCard

/-- THE TIED CARD OF 'eddylaw20.ScaleKeys'. -/
def scaleKeysCard : Claim7 := { stood := { row := scaleKeysRow, standIns := [], harness := (true, "653f9deed83ac69c75abfcafecd18475790b64580cfbba805c0469f100b29fd7"), looks := true }, kinds := [], alts := [], laidByText := true, laidKinds := [.data, .data, .data, .data, .sentinel, .sentinel, .data, .data, .data, .pinned], laidTests := true, laidLooks := .later }
def ScaleKeysCardSaid : Prop := Claim7.holds Tryz.pinned (.plain (OpenSpec.ofChange scaleKeysSpec)) scaleKeysCard

/-- THE SECOND FORM's CARD OF 'eddylaw20.ScalePlaces'. -/
def scalePlacesUptoCard : Claim7 := { stood := { row := scalePlacesUptoRow, standIns := [], harness := (true, "653f9deed83ac69c75abfcafecd18475790b64580cfbba805c0469f100b29fd7"), looks := true }, kinds := [], alts := [], laidByText := true, laidKinds := [.data, .data, .data, .data, .sentinel, .sentinel, .data, .data, .data, .pinned], laidTests := true, laidLooks := .later }
def ScalePlacesUptoCardSaid : Prop := Claim7.holds Tryz.pinned (.plain (OpenSpec.upto scalePlacesSpec)) scalePlacesUptoCard

/-- THE SECOND FORM's CARD OF 'eddylaw20.ScaleSpreads'. -/
def scaleSpreadsUptoCard : Claim7 := { stood := { row := scaleSpreadsUptoRow, standIns := [], harness := (true, "653f9deed83ac69c75abfcafecd18475790b64580cfbba805c0469f100b29fd7"), looks := true }, kinds := [], alts := [], laidByText := true, laidKinds := [.data, .data, .data, .data, .sentinel, .sentinel, .data, .data, .data, .data, .pinned], laidTests := true, laidLooks := .later }
def ScaleSpreadsUptoCardSaid : Prop := Claim7.holds Tryz.pinned (.plain (OpenSpec.upto scaleSpreadsSpec)) scaleSpreadsUptoCard

/-- THE SECOND FORM's CARD OF 'eddylaw17.HealOther'. -/
def healOtherUptoCard : Claim7 := { stood := { row := healOtherUptoRow, standIns := [], harness := (true, "653f9deed83ac69c75abfcafecd18475790b64580cfbba805c0469f100b29fd7"), looks := true }, kinds := [], alts := [], laidByText := true, laidKinds := [.data, .data, .data, .data, .sentinel, .sentinel, .data, .data, .data, .data, .data, .data, .pinned], laidTests := true, laidLooks := .later }
def HealOtherUptoCardSaid : Prop := Claim7.holds Tryz.pinned (.plain (OpenSpec.upto healOtherSpec)) healOtherUptoCard

/-- THE SECOND FORM's CARD OF 'eddylaw20.ScaleKeys'. -/
def scaleKeysUptoCard : Claim7 := { stood := { row := scaleKeysUptoRow, standIns := [], harness := (true, "653f9deed83ac69c75abfcafecd18475790b64580cfbba805c0469f100b29fd7"), looks := true }, kinds := [], alts := [], laidByText := true, laidKinds := [.data, .data, .data, .data, .sentinel, .sentinel, .data, .data, .data, .pinned], laidTests := true, laidLooks := .later }
def ScaleKeysUptoCardSaid : Prop := Claim7.holds Tryz.pinned (.plain (OpenSpec.upto scaleKeysSpec)) scaleKeysUptoCard
end Rows
end Go.Proofs.YtmibkoadjehdaaaGreatDoor
