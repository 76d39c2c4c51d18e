/-
  DERIVED. GIVEN WITH THE SEED: THE CARDS: each row of YtfhakpnfmomaaaaGreatDoorRows.lean that lists a variable, with what it lists TIED to the program's text (the seventh form; the later family's looks); each row that meets fmt, with fmt's text TOLD by the authors' own Lean function (tested against real Go, not proved from fmt's source: count such statements apart). THE CARD IS WHAT COUNTS. Prove the row's statement (the work); the ties are given (YtfhakpnfmomaaaaGreatDoorTie.lean); close each card by the builder's one call (the guide's Derived/Test/ToyasCard.lean, 'card_holds'). Laid BY PROGRAM, IN A SANDBOX (cutbox-door.mjs). By AI agents, Wed Nov 11 2026. No macro, syntax, notation, axiom, sorry.
-/
import Derived.Test.YtfhakpnfmomaaaaGreatDoorRows
import GoSem.ClaimSeven
namespace Go.Proofs.YtfhakpnfmomaaaaGreatDoor
namespace Rows

/-- THE TIED CARD OF 'rivuletlaw22.FindLines'. -/
def findLinesCard : Claim7 := { stood := { row := findLinesRow, standIns := [], harness := (true, "9a499087841cf548a13c3066587e67ce5938a5f97c98cb20286b83d321f08e5b"), looks := false }, kinds := [], alts := [], laidByText := true, laidKinds := [.sentinel, .sentinel, .sentinel, .sentinel, .sentinel, .sentinel, .sentinel], laidTests := true, laidLooks := .later }
def FindLinesCardSaid : Prop := Claim7.holds Tryz.pinned (.plain (OpenSpec.ofChange findLinesSpec)) findLinesCard

/-- THE TIED CARD OF 'rivuletlaw22.FindRings'. -/
def findRingsCard : Claim7 := { stood := { row := findRingsRow, standIns := [], harness := (true, "9a499087841cf548a13c3066587e67ce5938a5f97c98cb20286b83d321f08e5b"), looks := false }, kinds := [], alts := [], laidByText := true, laidKinds := [.sentinel, .sentinel, .sentinel, .sentinel, .sentinel, .sentinel, .sentinel], laidTests := true, laidLooks := .later }
def FindRingsCardSaid : Prop := Claim7.holds Tryz.pinned (.plain (OpenSpec.ofChange findRingsSpec)) findRingsCard

/-- THE TIED CARD OF 'rivuletlaw22.FindRoots'. -/
def findRootsCard : Claim7 := { stood := { row := findRootsRow, standIns := [], harness := (true, "9a499087841cf548a13c3066587e67ce5938a5f97c98cb20286b83d321f08e5b"), looks := false }, kinds := [], alts := [], laidByText := true, laidKinds := [.data, .data, .data, .sentinel, .sentinel, .sentinel, .sentinel, .sentinel, .sentinel, .sentinel], laidTests := true, laidLooks := .later }
def FindRootsCardSaid : Prop := Claim7.holds Tryz.pinned (.plain (OpenSpec.ofChange findRootsSpec)) findRootsCard

/-- THE TIED CARD OF 'rivuletlaw22.FindOrder'. -/
def findOrderCard : Claim7 := { stood := { row := findOrderRow, standIns := [], harness := (true, "9a499087841cf548a13c3066587e67ce5938a5f97c98cb20286b83d321f08e5b"), looks := false }, kinds := [], alts := [], laidByText := true, laidKinds := [.data, .data, .data, .sentinel, .sentinel, .sentinel, .sentinel, .sentinel, .sentinel, .sentinel], laidTests := true, laidLooks := .later }
def FindOrderCardSaid : Prop := Claim7.holds Tryz.pinned (.plain (OpenSpec.ofChange findOrderSpec)) findOrderCard

/-- THE SECOND FORM's CARD OF 'rivuletlaw22.FindLines'. -/
def findLinesUptoCard : Claim7 := { stood := { row := findLinesUptoRow, standIns := [], harness := (true, "9a499087841cf548a13c3066587e67ce5938a5f97c98cb20286b83d321f08e5b"), looks := false }, kinds := [], alts := [], laidByText := true, laidKinds := [.sentinel, .sentinel, .sentinel, .sentinel, .sentinel, .sentinel, .sentinel], laidTests := true, laidLooks := .later }
def FindLinesUptoCardSaid : Prop := Claim7.holds Tryz.pinned (.plain (OpenSpec.upto findLinesSpec)) findLinesUptoCard

/-- THE SECOND FORM's CARD OF 'rivuletlaw22.FindRings'. -/
def findRingsUptoCard : Claim7 := { stood := { row := findRingsUptoRow, standIns := [], harness := (true, "9a499087841cf548a13c3066587e67ce5938a5f97c98cb20286b83d321f08e5b"), looks := false }, kinds := [], alts := [], laidByText := true, laidKinds := [.sentinel, .sentinel, .sentinel, .sentinel, .sentinel, .sentinel, .sentinel], laidTests := true, laidLooks := .later }
def FindRingsUptoCardSaid : Prop := Claim7.holds Tryz.pinned (.plain (OpenSpec.upto findRingsSpec)) findRingsUptoCard

/-- THE SECOND FORM's CARD OF 'rivuletlaw22.FindRoots'. -/
def findRootsUptoCard : Claim7 := { stood := { row := findRootsUptoRow, standIns := [], harness := (true, "9a499087841cf548a13c3066587e67ce5938a5f97c98cb20286b83d321f08e5b"), looks := false }, kinds := [], alts := [], laidByText := true, laidKinds := [.data, .data, .data, .sentinel, .sentinel, .sentinel, .sentinel, .sentinel, .sentinel, .sentinel], laidTests := true, laidLooks := .later }
def FindRootsUptoCardSaid : Prop := Claim7.holds Tryz.pinned (.plain (OpenSpec.upto findRootsSpec)) findRootsUptoCard

/-- THE SECOND FORM's CARD OF 'rivuletlaw22.FindOrder'. -/
def findOrderUptoCard : Claim7 := { stood := { row := findOrderUptoRow, standIns := [], harness := (true, "9a499087841cf548a13c3066587e67ce5938a5f97c98cb20286b83d321f08e5b"), looks := false }, kinds := [], alts := [], laidByText := true, laidKinds := [.data, .data, .data, .sentinel, .sentinel, .sentinel, .sentinel, .sentinel, .sentinel, .sentinel], laidTests := true, laidLooks := .later }
def FindOrderUptoCardSaid : Prop := Claim7.holds Tryz.pinned (.plain (OpenSpec.upto findOrderSpec)) findOrderUptoCard
end Rows
end Go.Proofs.YtfhakpnfmomaaaaGreatDoor
