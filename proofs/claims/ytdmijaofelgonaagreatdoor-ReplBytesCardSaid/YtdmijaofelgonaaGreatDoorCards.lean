/-
  DERIVED. GIVEN WITH THE SEED: THE CARDS: each row of YtdmijaofelgonaaGreatDoorRows.lean that lists a variable, with what it lists TIED to the program's text (the seventh form; the later family's looks); each row that meets fmt, with fmt's text TOLD by the authors' own Lean function (tested against real Go, not proved from fmt's source: count such statements apart). THE CARD IS WHAT COUNTS. Prove the row's statement (the work); the ties are given (YtdmijaofelgonaaGreatDoorTie.lean); close each card by the builder's one call (the guide's Derived/Test/ToyasCard.lean, 'card_holds'). Laid BY PROGRAM, IN A SANDBOX (cutbox-door.mjs). By AI agents, Wed Nov 11 2026. No macro, syntax, notation, axiom, sorry.
-/
import Derived.Test.YtdmijaofelgonaaGreatDoorRows
import GoSem.ClaimSeven
namespace Go.Proofs.YtdmijaofelgonaaGreatDoor
namespace Rows

/-- THE TIED CARD OF 'corncriblaw19.ReplBytes'. -/
def replBytesCard : Claim7 := { stood := { row := replBytesRow, standIns := [], harness := (true, "1632ba31669508debcbb4257da92b1e02c2d77f8ad4ef56455e104504ece2ab9"), looks := true }, kinds := [], alts := [], laidByText := true, laidKinds := [.data, .data, .data, .sentinel, .sentinel], laidTests := true, laidLooks := .later }
def ReplBytesCardSaid : Prop := Claim7.holds Tryz.pinned (.plain (OpenSpec.ofChange replBytesSpec)) replBytesCard

/-- THE TIED CARD OF 'corncriblaw19.ReplStranger'. -/
def replStrangerCard : Claim7 := { stood := { row := replStrangerRow, standIns := [], harness := (true, "1632ba31669508debcbb4257da92b1e02c2d77f8ad4ef56455e104504ece2ab9"), looks := true }, kinds := [], alts := [], laidByText := true, laidKinds := [.data, .data, .data, .sentinel, .sentinel], laidTests := true, laidLooks := .later }
def ReplStrangerCardSaid : Prop := Claim7.holds Tryz.pinned (.plain (OpenSpec.ofChange replStrangerSpec)) replStrangerCard

/-- THE TIED CARD OF 'corncriblaw19.ReplServes'. -/
def replServesCard : Claim7 := { stood := { row := replServesRow, standIns := [], harness := (true, "1632ba31669508debcbb4257da92b1e02c2d77f8ad4ef56455e104504ece2ab9"), looks := true }, kinds := [], alts := [], laidByText := true, laidKinds := [.data, .data, .data, .sentinel, .sentinel], laidTests := true, laidLooks := .later }
def ReplServesCardSaid : Prop := Claim7.holds Tryz.pinned (.plain (OpenSpec.ofChange replServesSpec)) replServesCard

/-- THE SECOND FORM's CARD OF 'corncriblaw19.ReplBytes'. -/
def replBytesUptoCard : Claim7 := { stood := { row := replBytesUptoRow, standIns := [], harness := (true, "1632ba31669508debcbb4257da92b1e02c2d77f8ad4ef56455e104504ece2ab9"), looks := true }, kinds := [], alts := [], laidByText := true, laidKinds := [.data, .data, .data, .sentinel, .sentinel], laidTests := true, laidLooks := .later }
def ReplBytesUptoCardSaid : Prop := Claim7.holds Tryz.pinned (.plain (OpenSpec.upto replBytesSpec)) replBytesUptoCard

/-- THE SECOND FORM's CARD OF 'corncriblaw19.ReplStranger'. -/
def replStrangerUptoCard : Claim7 := { stood := { row := replStrangerUptoRow, standIns := [], harness := (true, "1632ba31669508debcbb4257da92b1e02c2d77f8ad4ef56455e104504ece2ab9"), looks := true }, kinds := [], alts := [], laidByText := true, laidKinds := [.data, .data, .data, .sentinel, .sentinel], laidTests := true, laidLooks := .later }
def ReplStrangerUptoCardSaid : Prop := Claim7.holds Tryz.pinned (.plain (OpenSpec.upto replStrangerSpec)) replStrangerUptoCard

/-- THE SECOND FORM's CARD OF 'corncriblaw19.ReplServes'. -/
def replServesUptoCard : Claim7 := { stood := { row := replServesUptoRow, standIns := [], harness := (true, "1632ba31669508debcbb4257da92b1e02c2d77f8ad4ef56455e104504ece2ab9"), looks := true }, kinds := [], alts := [], laidByText := true, laidKinds := [.data, .data, .data, .sentinel, .sentinel], laidTests := true, laidLooks := .later }
def ReplServesUptoCardSaid : Prop := Claim7.holds Tryz.pinned (.plain (OpenSpec.upto replServesSpec)) replServesUptoCard
end Rows
end Go.Proofs.YtdmijaofelgonaaGreatDoor
