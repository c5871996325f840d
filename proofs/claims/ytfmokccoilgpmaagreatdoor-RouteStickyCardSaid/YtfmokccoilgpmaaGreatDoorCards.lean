/-
  DERIVED. GIVEN WITH THE SEED: THE CARDS: each row of YtfmokccoilgpmaaGreatDoorRows.lean that lists a variable, with what it lists TIED to the program's text (the seventh form; the later family's looks); each row that meets fmt, with fmt's text TOLD by the authors' own Lean function (tested against real Go, not proved from fmt's source: count such statements apart). THE CARD IS WHAT COUNTS. Prove the row's statement (the work); the ties are given (YtfmokccoilgpmaaGreatDoorTie.lean); close each card by the builder's one call (the guide's Derived/Test/ToyasCard.lean, 'card_holds'). Laid BY PROGRAM, IN A SANDBOX (cutbox-door.mjs). By AI agents, Wed Nov 11 2026. No macro, syntax, notation, axiom, sorry.
-/
import Derived.Test.YtfmokccoilgpmaaGreatDoorRows
import GoSem.ClaimSeven
namespace Go.Proofs.YtfmokccoilgpmaaGreatDoor
namespace Rows

/-- THE TIED CARD OF 'canarylaw29.RouteChoose'. -/
def routeChooseCard : Claim7 := { stood := { row := routeChooseRow, standIns := [], harness := (true, "6a72e1402fbcf7d4850c18b6398f2dc25d8f7ed131a48cedb5e4ff9e094e940c"), looks := false }, kinds := [], alts := [], laidByText := true, laidKinds := [.data, .data, .data, .data, .pinned], laidTests := true, laidLooks := .later }
def RouteChooseCardSaid : Prop := Claim7.holds Tryz.pinned (.plain (OpenSpec.ofChange routeChooseSpec)) routeChooseCard

/-- THE TIED CARD OF 'canarylaw29.RouteSticky'. -/
def routeStickyCard : Claim7 := { stood := { row := routeStickyRow, standIns := [], harness := (true, "6a72e1402fbcf7d4850c18b6398f2dc25d8f7ed131a48cedb5e4ff9e094e940c"), looks := false }, kinds := [], alts := [], laidByText := true, laidKinds := [.data, .data, .data, .data, .pinned], laidTests := true, laidLooks := .later }
def RouteStickyCardSaid : Prop := Claim7.holds Tryz.pinned (.plain (OpenSpec.ofChange routeStickySpec)) routeStickyCard

/-- THE TIED CARD OF 'canarylaw29.RouteNoCanary'. -/
def routeNoCanaryCard : Claim7 := { stood := { row := routeNoCanaryRow, standIns := [], harness := (true, "6a72e1402fbcf7d4850c18b6398f2dc25d8f7ed131a48cedb5e4ff9e094e940c"), looks := false }, kinds := [], alts := [], laidByText := true, laidKinds := [.data, .data, .data, .data, .pinned], laidTests := true, laidLooks := .later }
def RouteNoCanaryCardSaid : Prop := Claim7.holds Tryz.pinned (.plain (OpenSpec.ofChange routeNoCanarySpec)) routeNoCanaryCard

/-- THE TIED CARD OF 'canarylaw29.RouteProblem'. -/
def routeProblemCard : Claim7 := { stood := { row := routeProblemRow, standIns := [], harness := (true, "6a72e1402fbcf7d4850c18b6398f2dc25d8f7ed131a48cedb5e4ff9e094e940c"), looks := false }, kinds := [], alts := [], laidByText := true, laidKinds := [.data, .data, .data, .data, .data, .pinned], laidTests := true, laidLooks := .later }
def RouteProblemCardSaid : Prop := Claim7.holds Tryz.pinned (.plain (OpenSpec.ofChange routeProblemSpec)) routeProblemCard

/-- THE SECOND FORM's CARD OF 'canarylaw29.RouteChoose'. -/
def routeChooseUptoCard : Claim7 := { stood := { row := routeChooseUptoRow, standIns := [], harness := (true, "6a72e1402fbcf7d4850c18b6398f2dc25d8f7ed131a48cedb5e4ff9e094e940c"), looks := false }, kinds := [], alts := [], laidByText := true, laidKinds := [.data, .data, .data, .data, .pinned], laidTests := true, laidLooks := .later }
def RouteChooseUptoCardSaid : Prop := Claim7.holds Tryz.pinned (.plain (OpenSpec.upto routeChooseSpec)) routeChooseUptoCard

/-- THE SECOND FORM's CARD OF 'canarylaw29.RouteSticky'. -/
def routeStickyUptoCard : Claim7 := { stood := { row := routeStickyUptoRow, standIns := [], harness := (true, "6a72e1402fbcf7d4850c18b6398f2dc25d8f7ed131a48cedb5e4ff9e094e940c"), looks := false }, kinds := [], alts := [], laidByText := true, laidKinds := [.data, .data, .data, .data, .pinned], laidTests := true, laidLooks := .later }
def RouteStickyUptoCardSaid : Prop := Claim7.holds Tryz.pinned (.plain (OpenSpec.upto routeStickySpec)) routeStickyUptoCard

/-- THE SECOND FORM's CARD OF 'canarylaw29.RouteNoCanary'. -/
def routeNoCanaryUptoCard : Claim7 := { stood := { row := routeNoCanaryUptoRow, standIns := [], harness := (true, "6a72e1402fbcf7d4850c18b6398f2dc25d8f7ed131a48cedb5e4ff9e094e940c"), looks := false }, kinds := [], alts := [], laidByText := true, laidKinds := [.data, .data, .data, .data, .pinned], laidTests := true, laidLooks := .later }
def RouteNoCanaryUptoCardSaid : Prop := Claim7.holds Tryz.pinned (.plain (OpenSpec.upto routeNoCanarySpec)) routeNoCanaryUptoCard

/-- THE SECOND FORM's CARD OF 'canarylaw29.RouteProblem'. -/
def routeProblemUptoCard : Claim7 := { stood := { row := routeProblemUptoRow, standIns := [], harness := (true, "6a72e1402fbcf7d4850c18b6398f2dc25d8f7ed131a48cedb5e4ff9e094e940c"), looks := false }, kinds := [], alts := [], laidByText := true, laidKinds := [.data, .data, .data, .data, .data, .pinned], laidTests := true, laidLooks := .later }
def RouteProblemUptoCardSaid : Prop := Claim7.holds Tryz.pinned (.plain (OpenSpec.upto routeProblemSpec)) routeProblemUptoCard
end Rows
end Go.Proofs.YtfmokccoilgpmaaGreatDoor
