/-
  DERIVED. GIVEN WITH THE SEED: THE CARDS: each row of YtaehhpempnelhaaGreatDoorRows.lean that lists a variable, with what it lists TIED to the program's text (the seventh form; the later family's looks); each row that meets fmt, with fmt's text TOLD by the authors' own Lean function (tested against real Go, not proved from fmt's source: count such statements apart). THE CARD IS WHAT COUNTS. Prove the row's statement (the work); the ties are given (YtaehhpempnelhaaGreatDoorTie.lean); close each card by the builder's one call (the guide's Derived/Test/ToyasCard.lean, 'card_holds'). Laid BY PROGRAM, IN A SANDBOX (cutbox-door.mjs). By AI agents, Wed Nov 11 2026. No macro, syntax, notation, axiom, sorry.
-/
import Derived.Test.YtaehhpempnelhaaGreatDoorRows
import GoSem.ClaimSeven
namespace Go.Proofs.YtaehhpempnelhaaGreatDoor
namespace Rows

/-- THE TIED CARD OF 'crossbartop.TopRewrites'. -/
def topRewritesCard : Claim7 := { stood := { row := topRewritesRow, standIns := [], harness := (true, "f002308bdaf109cd928f89f25d9c50b46a60085b6330b05fda51e882e93eaa07"), looks := true }, kinds := [], alts := [], laidByText := true, laidKinds := [.data, .data, .data, .data, .data, .data, .pinned], laidTests := true, laidLooks := .later }
def TopRewritesCardSaid : Prop := Claim7.holds Tryz.pinned (.plain (OpenSpec.ofChange topRewritesSpec)) topRewritesCard

/-- THE TIED CARD OF 'crossbartop.TopSaid'. -/
def topSaidCard : Claim7 := { stood := { row := topSaidRow, standIns := [], harness := (true, "f002308bdaf109cd928f89f25d9c50b46a60085b6330b05fda51e882e93eaa07"), looks := true }, kinds := [], alts := [], laidByText := true, laidKinds := [.data, .data, .data, .data, .data, .data, .pinned], laidTests := true, laidLooks := .later }
def TopSaidCardSaid : Prop := Claim7.holds Tryz.pinned (.plain (OpenSpec.ofChange topSaidSpec)) topSaidCard

/-- THE TIED CARD OF 'crossbartop.TopOrder'. -/
def topOrderCard : Claim7 := { stood := { row := topOrderRow, standIns := [], harness := (true, "f002308bdaf109cd928f89f25d9c50b46a60085b6330b05fda51e882e93eaa07"), looks := true }, kinds := [], alts := [], laidByText := true, laidKinds := [.data, .data, .data, .data, .data, .data, .pinned], laidTests := true, laidLooks := .later }
def TopOrderCardSaid : Prop := Claim7.holds Tryz.pinned (.plain (OpenSpec.ofChange topOrderSpec)) topOrderCard

/-- THE TIED CARD OF 'crossbartop.TopArrives'. -/
def topArrivesCard : Claim7 := { stood := { row := topArrivesRow, standIns := [], harness := (true, "f002308bdaf109cd928f89f25d9c50b46a60085b6330b05fda51e882e93eaa07"), looks := true }, kinds := [], alts := [], laidByText := true, laidKinds := [.data, .data, .data, .data, .data, .data, .pinned], laidTests := true, laidLooks := .later }
def TopArrivesCardSaid : Prop := Claim7.holds Tryz.pinned (.plain (OpenSpec.ofChange topArrivesSpec)) topArrivesCard

/-- THE SECOND FORM's CARD OF 'crossbartop.TopRewrites'. -/
def topRewritesUptoCard : Claim7 := { stood := { row := topRewritesUptoRow, standIns := [], harness := (true, "f002308bdaf109cd928f89f25d9c50b46a60085b6330b05fda51e882e93eaa07"), looks := true }, kinds := [], alts := [], laidByText := true, laidKinds := [.data, .data, .data, .data, .data, .data, .pinned], laidTests := true, laidLooks := .later }
def TopRewritesUptoCardSaid : Prop := Claim7.holds Tryz.pinned (.plain (OpenSpec.upto topRewritesSpec)) topRewritesUptoCard

/-- THE SECOND FORM's CARD OF 'crossbartop.TopSaid'. -/
def topSaidUptoCard : Claim7 := { stood := { row := topSaidUptoRow, standIns := [], harness := (true, "f002308bdaf109cd928f89f25d9c50b46a60085b6330b05fda51e882e93eaa07"), looks := true }, kinds := [], alts := [], laidByText := true, laidKinds := [.data, .data, .data, .data, .data, .data, .pinned], laidTests := true, laidLooks := .later }
def TopSaidUptoCardSaid : Prop := Claim7.holds Tryz.pinned (.plain (OpenSpec.upto topSaidSpec)) topSaidUptoCard

/-- THE SECOND FORM's CARD OF 'crossbartop.TopOrder'. -/
def topOrderUptoCard : Claim7 := { stood := { row := topOrderUptoRow, standIns := [], harness := (true, "f002308bdaf109cd928f89f25d9c50b46a60085b6330b05fda51e882e93eaa07"), looks := true }, kinds := [], alts := [], laidByText := true, laidKinds := [.data, .data, .data, .data, .data, .data, .pinned], laidTests := true, laidLooks := .later }
def TopOrderUptoCardSaid : Prop := Claim7.holds Tryz.pinned (.plain (OpenSpec.upto topOrderSpec)) topOrderUptoCard

/-- THE SECOND FORM's CARD OF 'crossbartop.TopArrives'. -/
def topArrivesUptoCard : Claim7 := { stood := { row := topArrivesUptoRow, standIns := [], harness := (true, "f002308bdaf109cd928f89f25d9c50b46a60085b6330b05fda51e882e93eaa07"), looks := true }, kinds := [], alts := [], laidByText := true, laidKinds := [.data, .data, .data, .data, .data, .data, .pinned], laidTests := true, laidLooks := .later }
def TopArrivesUptoCardSaid : Prop := Claim7.holds Tryz.pinned (.plain (OpenSpec.upto topArrivesSpec)) topArrivesUptoCard
end Rows
end Go.Proofs.YtaehhpempnelhaaGreatDoor
