/-
  DERIVED. GIVEN WITH THE SEED: THE CARDS: each row of YtdcddjeifaeiaaaGreatDoorRows.lean that lists a variable, with what it lists TIED to the program's text (the seventh form; the later family's looks); each row that meets fmt, with fmt's text TOLD by the authors' own Lean function (tested against real Go, not proved from fmt's source: count such statements apart). THE CARD IS WHAT COUNTS. Prove the row's statement (the work); the ties are given (YtdcddjeifaeiaaaGreatDoorTie.lean); close each card by the builder's one call (the guide's Derived/Test/ToyasCard.lean, 'card_holds'). Laid BY PROGRAM, IN A SANDBOX (cutbox-door.mjs). By AI agents, Wed Nov 11 2026. No macro, syntax, notation, axiom, sorry.
-/
import Derived.Test.YtdcddjeifaeiaaaGreatDoorRows
import GoSem.ClaimSeven
namespace Go.Proofs.YtdcddjeifaeiaaaGreatDoor
namespace Rows

/-- THE TIED CARD OF 'tangramlaw18.CheckHonest'. -/
def checkHonestCard : Claim7 := { stood := { row := checkHonestRow, standIns := [], harness := (true, "323b5f8256dfc2f632a61f754d13d9050b4e786eb9795a5045f4afed52be3c3b"), looks := true }, kinds := [], alts := [], laidByText := true, laidKinds := [.data, .data, .data, .data], laidTests := true, laidLooks := .later }
def CheckHonestCardSaid : Prop := Claim7.holds Tryz.pinned (.plain (OpenSpec.ofChange checkHonestSpec)) checkHonestCard

/-- THE SECOND FORM's CARD OF 'tangramlaw18.CheckHonest'. -/
def checkHonestUptoCard : Claim7 := { stood := { row := checkHonestUptoRow, standIns := [], harness := (true, "323b5f8256dfc2f632a61f754d13d9050b4e786eb9795a5045f4afed52be3c3b"), looks := true }, kinds := [], alts := [], laidByText := true, laidKinds := [.data, .data, .data, .data], laidTests := true, laidLooks := .later }
def CheckHonestUptoCardSaid : Prop := Claim7.holds Tryz.pinned (.plain (OpenSpec.upto checkHonestSpec)) checkHonestUptoCard
end Rows
end Go.Proofs.YtdcddjeifaeiaaaGreatDoor
