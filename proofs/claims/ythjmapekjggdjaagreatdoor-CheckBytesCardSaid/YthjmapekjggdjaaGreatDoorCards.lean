/-
  DERIVED. GIVEN WITH THE SEED: THE CARDS: each row of YthjmapekjggdjaaGreatDoorRows.lean that lists a variable, with what it lists TIED to the program's text (the seventh form; the later family's looks); each row that meets fmt, with fmt's text TOLD by the authors' own Lean function (tested against real Go, not proved from fmt's source: count such statements apart). THE CARD IS WHAT COUNTS. Prove the row's statement (the work); the ties are given (YthjmapekjggdjaaGreatDoorTie.lean); close each card by the builder's one call (the guide's Derived/Test/ToyasCard.lean, 'card_holds'). Laid BY PROGRAM, IN A SANDBOX (cutbox-door.mjs). By AI agents, Wed Nov 11 2026. No macro, syntax, notation, axiom, sorry.
-/
import Derived.Test.YthjmapekjggdjaaGreatDoorRows
import GoSem.ClaimSeven
namespace Go.Proofs.YthjmapekjggdjaaGreatDoor
namespace Rows

/-- THE TIED CARD OF 'tangramlaw18.CheckGraph'. -/
def checkGraphCard : Claim7 := { stood := { row := checkGraphRow, standIns := [], harness := (true, "3987e0c40a2bbd31317015edf0e6dfd52ea27bfe98bff0270e2e7a2b6bdbf781"), looks := true }, kinds := [], alts := [], laidByText := true, laidKinds := [.data, .data, .data], laidTests := true, laidLooks := .later }
def CheckGraphCardSaid : Prop := Claim7.holds Tryz.pinned (.plain (OpenSpec.ofChange checkGraphSpec)) checkGraphCard

/-- THE TIED CARD OF 'tangramlaw18.CheckMore'. -/
def checkMoreCard : Claim7 := { stood := { row := checkMoreRow, standIns := [], harness := (true, "3987e0c40a2bbd31317015edf0e6dfd52ea27bfe98bff0270e2e7a2b6bdbf781"), looks := true }, kinds := [], alts := [], laidByText := true, laidKinds := [.data, .data, .data], laidTests := true, laidLooks := .later }
def CheckMoreCardSaid : Prop := Claim7.holds Tryz.pinned (.plain (OpenSpec.ofChange checkMoreSpec)) checkMoreCard

/-- THE TIED CARD OF 'tangramlaw18.CheckOwn'. -/
def checkOwnCard : Claim7 := { stood := { row := checkOwnRow, standIns := [], harness := (true, "3987e0c40a2bbd31317015edf0e6dfd52ea27bfe98bff0270e2e7a2b6bdbf781"), looks := true }, kinds := [], alts := [], laidByText := true, laidKinds := [.data, .data, .data], laidTests := true, laidLooks := .later }
def CheckOwnCardSaid : Prop := Claim7.holds Tryz.pinned (.plain (OpenSpec.ofChange checkOwnSpec)) checkOwnCard

/-- THE TIED CARD OF 'tangramlaw18.CheckBytes'. -/
def checkBytesCard : Claim7 := { stood := { row := checkBytesRow, standIns := [], harness := (true, "3987e0c40a2bbd31317015edf0e6dfd52ea27bfe98bff0270e2e7a2b6bdbf781"), looks := true }, kinds := [], alts := [], laidByText := true, laidKinds := [.data, .data, .data], laidTests := true, laidLooks := .later }
def CheckBytesCardSaid : Prop := Claim7.holds Tryz.pinned (.plain (OpenSpec.ofChange checkBytesSpec)) checkBytesCard

/-- THE TIED CARD OF 'tangramlaw18.CheckText'. -/
def checkTextCard : Claim7 := { stood := { row := checkTextRow, standIns := [], harness := (true, "3987e0c40a2bbd31317015edf0e6dfd52ea27bfe98bff0270e2e7a2b6bdbf781"), looks := true }, kinds := [], alts := [], laidByText := true, laidKinds := [.data, .data, .data], laidTests := true, laidLooks := .later }
def CheckTextCardSaid : Prop := Claim7.holds Tryz.pinned (.plain (OpenSpec.ofChange checkTextSpec)) checkTextCard

/-- THE TIED CARD OF 'tangramlaw18.CheckFlat'. -/
def checkFlatCard : Claim7 := { stood := { row := checkFlatRow, standIns := [], harness := (true, "3987e0c40a2bbd31317015edf0e6dfd52ea27bfe98bff0270e2e7a2b6bdbf781"), looks := true }, kinds := [], alts := [], laidByText := true, laidKinds := [.data, .data, .data], laidTests := true, laidLooks := .later }
def CheckFlatCardSaid : Prop := Claim7.holds Tryz.pinned (.plain (OpenSpec.ofChange checkFlatSpec)) checkFlatCard

/-- THE SECOND FORM's CARD OF 'tangramlaw18.CheckGraph'. -/
def checkGraphUptoCard : Claim7 := { stood := { row := checkGraphUptoRow, standIns := [], harness := (true, "3987e0c40a2bbd31317015edf0e6dfd52ea27bfe98bff0270e2e7a2b6bdbf781"), looks := true }, kinds := [], alts := [], laidByText := true, laidKinds := [.data, .data, .data], laidTests := true, laidLooks := .later }
def CheckGraphUptoCardSaid : Prop := Claim7.holds Tryz.pinned (.plain (OpenSpec.upto checkGraphSpec)) checkGraphUptoCard

/-- THE SECOND FORM's CARD OF 'tangramlaw18.CheckMore'. -/
def checkMoreUptoCard : Claim7 := { stood := { row := checkMoreUptoRow, standIns := [], harness := (true, "3987e0c40a2bbd31317015edf0e6dfd52ea27bfe98bff0270e2e7a2b6bdbf781"), looks := true }, kinds := [], alts := [], laidByText := true, laidKinds := [.data, .data, .data], laidTests := true, laidLooks := .later }
def CheckMoreUptoCardSaid : Prop := Claim7.holds Tryz.pinned (.plain (OpenSpec.upto checkMoreSpec)) checkMoreUptoCard

/-- THE SECOND FORM's CARD OF 'tangramlaw18.CheckOwn'. -/
def checkOwnUptoCard : Claim7 := { stood := { row := checkOwnUptoRow, standIns := [], harness := (true, "3987e0c40a2bbd31317015edf0e6dfd52ea27bfe98bff0270e2e7a2b6bdbf781"), looks := true }, kinds := [], alts := [], laidByText := true, laidKinds := [.data, .data, .data], laidTests := true, laidLooks := .later }
def CheckOwnUptoCardSaid : Prop := Claim7.holds Tryz.pinned (.plain (OpenSpec.upto checkOwnSpec)) checkOwnUptoCard

/-- THE SECOND FORM's CARD OF 'tangramlaw18.CheckBytes'. -/
def checkBytesUptoCard : Claim7 := { stood := { row := checkBytesUptoRow, standIns := [], harness := (true, "3987e0c40a2bbd31317015edf0e6dfd52ea27bfe98bff0270e2e7a2b6bdbf781"), looks := true }, kinds := [], alts := [], laidByText := true, laidKinds := [.data, .data, .data], laidTests := true, laidLooks := .later }
def CheckBytesUptoCardSaid : Prop := Claim7.holds Tryz.pinned (.plain (OpenSpec.upto checkBytesSpec)) checkBytesUptoCard

/-- THE SECOND FORM's CARD OF 'tangramlaw18.CheckText'. -/
def checkTextUptoCard : Claim7 := { stood := { row := checkTextUptoRow, standIns := [], harness := (true, "3987e0c40a2bbd31317015edf0e6dfd52ea27bfe98bff0270e2e7a2b6bdbf781"), looks := true }, kinds := [], alts := [], laidByText := true, laidKinds := [.data, .data, .data], laidTests := true, laidLooks := .later }
def CheckTextUptoCardSaid : Prop := Claim7.holds Tryz.pinned (.plain (OpenSpec.upto checkTextSpec)) checkTextUptoCard

/-- THE SECOND FORM's CARD OF 'tangramlaw18.CheckFlat'. -/
def checkFlatUptoCard : Claim7 := { stood := { row := checkFlatUptoRow, standIns := [], harness := (true, "3987e0c40a2bbd31317015edf0e6dfd52ea27bfe98bff0270e2e7a2b6bdbf781"), looks := true }, kinds := [], alts := [], laidByText := true, laidKinds := [.data, .data, .data], laidTests := true, laidLooks := .later }
def CheckFlatUptoCardSaid : Prop := Claim7.holds Tryz.pinned (.plain (OpenSpec.upto checkFlatSpec)) checkFlatUptoCard
end Rows
end Go.Proofs.YthjmapekjggdjaaGreatDoor
