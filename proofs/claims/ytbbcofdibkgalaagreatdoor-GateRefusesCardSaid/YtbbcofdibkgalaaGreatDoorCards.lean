/-
  DERIVED. GIVEN WITH THE SEED: THE CARDS: each row of YtbbcofdibkgalaaGreatDoorRows.lean that lists a variable, with what it lists TIED to the program's text (the seventh form; the later family's looks); each row that meets fmt, with fmt's text TOLD by the authors' own Lean function (tested against real Go, not proved from fmt's source: count such statements apart). THE CARD IS WHAT COUNTS. Prove the row's statement (the work); the ties are given (YtbbcofdibkgalaaGreatDoorTie.lean); close each card by the builder's one call (the guide's Derived/Test/ToyasCard.lean, 'card_holds'). Laid BY PROGRAM, IN A SANDBOX (cutbox-door.mjs). By AI agents, Wed Nov 11 2026. No macro, syntax, notation, axiom, sorry.
-/
import Derived.Test.YtbbcofdibkgalaaGreatDoorRows
import GoSem.ClaimSeven
namespace Go.Proofs.YtbbcofdibkgalaaGreatDoor
namespace Rows

/-- THE TIED CARD OF 'signetlaw19.GatePlans'. -/
def gatePlansCard : Claim7 := { stood := { row := gatePlansRow, standIns := [], harness := (true, "cbca979989701d96b45e1e066007c5bc11a2d245c4e2112ee9c214ed6e4ef034"), looks := true }, kinds := [], alts := [], laidByText := true, laidKinds := [.data, .data, .data, .data, .sentinel, .sentinel, .pinned], laidTests := true, laidLooks := .later }
def GatePlansCardSaid : Prop := Claim7.holds Tryz.pinned (.plain (OpenSpec.ofChange gatePlansSpec)) gatePlansCard

/-- THE TIED CARD OF 'signetlaw19.GateUnknown'. -/
def gateUnknownCard : Claim7 := { stood := { row := gateUnknownRow, standIns := [], harness := (true, "cbca979989701d96b45e1e066007c5bc11a2d245c4e2112ee9c214ed6e4ef034"), looks := true }, kinds := [], alts := [], laidByText := true, laidKinds := [.data, .data, .data, .data, .sentinel, .sentinel, .pinned], laidTests := true, laidLooks := .later }
def GateUnknownCardSaid : Prop := Claim7.holds Tryz.pinned (.plain (OpenSpec.ofChange gateUnknownSpec)) gateUnknownCard

/-- THE TIED CARD OF 'signetlaw19.GateOrder'. -/
def gateOrderCard : Claim7 := { stood := { row := gateOrderRow, standIns := [], harness := (true, "cbca979989701d96b45e1e066007c5bc11a2d245c4e2112ee9c214ed6e4ef034"), looks := true }, kinds := [], alts := [], laidByText := true, laidKinds := [.data, .data, .data, .data, .sentinel, .sentinel, .pinned], laidTests := true, laidLooks := .later }
def GateOrderCardSaid : Prop := Claim7.holds Tryz.pinned (.plain (OpenSpec.ofChange gateOrderSpec)) gateOrderCard

/-- THE TIED CARD OF 'signetlaw19.GateRefuses'. -/
def gateRefusesCard : Claim7 := { stood := { row := gateRefusesRow, standIns := [], harness := (true, "cbca979989701d96b45e1e066007c5bc11a2d245c4e2112ee9c214ed6e4ef034"), looks := true }, kinds := [], alts := [], laidByText := true, laidKinds := [.data, .data, .data, .data, .sentinel, .sentinel, .pinned], laidTests := true, laidLooks := .later }
def GateRefusesCardSaid : Prop := Claim7.holds Tryz.pinned (.plain (OpenSpec.ofChange gateRefusesSpec)) gateRefusesCard

/-- THE SECOND FORM's CARD OF 'signetlaw19.GatePlans'. -/
def gatePlansUptoCard : Claim7 := { stood := { row := gatePlansUptoRow, standIns := [], harness := (true, "cbca979989701d96b45e1e066007c5bc11a2d245c4e2112ee9c214ed6e4ef034"), looks := true }, kinds := [], alts := [], laidByText := true, laidKinds := [.data, .data, .data, .data, .sentinel, .sentinel, .pinned], laidTests := true, laidLooks := .later }
def GatePlansUptoCardSaid : Prop := Claim7.holds Tryz.pinned (.plain (OpenSpec.upto gatePlansSpec)) gatePlansUptoCard

/-- THE SECOND FORM's CARD OF 'signetlaw19.GateUnknown'. -/
def gateUnknownUptoCard : Claim7 := { stood := { row := gateUnknownUptoRow, standIns := [], harness := (true, "cbca979989701d96b45e1e066007c5bc11a2d245c4e2112ee9c214ed6e4ef034"), looks := true }, kinds := [], alts := [], laidByText := true, laidKinds := [.data, .data, .data, .data, .sentinel, .sentinel, .pinned], laidTests := true, laidLooks := .later }
def GateUnknownUptoCardSaid : Prop := Claim7.holds Tryz.pinned (.plain (OpenSpec.upto gateUnknownSpec)) gateUnknownUptoCard

/-- THE SECOND FORM's CARD OF 'signetlaw19.GateOrder'. -/
def gateOrderUptoCard : Claim7 := { stood := { row := gateOrderUptoRow, standIns := [], harness := (true, "cbca979989701d96b45e1e066007c5bc11a2d245c4e2112ee9c214ed6e4ef034"), looks := true }, kinds := [], alts := [], laidByText := true, laidKinds := [.data, .data, .data, .data, .sentinel, .sentinel, .pinned], laidTests := true, laidLooks := .later }
def GateOrderUptoCardSaid : Prop := Claim7.holds Tryz.pinned (.plain (OpenSpec.upto gateOrderSpec)) gateOrderUptoCard

/-- THE SECOND FORM's CARD OF 'signetlaw19.GateRefuses'. -/
def gateRefusesUptoCard : Claim7 := { stood := { row := gateRefusesUptoRow, standIns := [], harness := (true, "cbca979989701d96b45e1e066007c5bc11a2d245c4e2112ee9c214ed6e4ef034"), looks := true }, kinds := [], alts := [], laidByText := true, laidKinds := [.data, .data, .data, .data, .sentinel, .sentinel, .pinned], laidTests := true, laidLooks := .later }
def GateRefusesUptoCardSaid : Prop := Claim7.holds Tryz.pinned (.plain (OpenSpec.upto gateRefusesSpec)) gateRefusesUptoCard
end Rows
end Go.Proofs.YtbbcofdibkgalaaGreatDoor
