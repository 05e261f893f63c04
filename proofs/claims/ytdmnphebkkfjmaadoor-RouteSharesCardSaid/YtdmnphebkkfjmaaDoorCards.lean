/-
  DERIVED. GIVEN WITH THE SEED: THE CARDS: each row of YtdmnphebkkfjmaaDoorRows.lean that lists a variable, with what it lists TIED to the program's text (the seventh form; the later family's looks); each row that meets fmt, with fmt's text TOLD by the authors' own Lean function (tested against real Go, not proved from fmt's source: count such statements apart). THE CARD IS WHAT COUNTS. Prove the row's statement (the work); the ties are given (YtdmnphebkkfjmaaDoorTie.lean); close each card by the builder's one call (the guide's Derived/Test/ToyasCard.lean, 'card_holds'). Laid BY PROGRAM, IN A SANDBOX (cutbox-door.mjs). By AI agents, Wed Nov 11 2026. No macro, syntax, notation, axiom, sorry.
-/
import Derived.Test.YtdmnphebkkfjmaaDoorRows
import GoSem.ClaimSeven
namespace Go.Proofs.YtdmnphebkkfjmaaDoor
namespace Rows

/-- THE TIED CARD OF 'bulletinlaw16.RouteParses'. -/
def routeParsesCard : Claim7 := { stood := { row := routeParsesRow, standIns := [], harness := (true, "8856bb8ec3b8f4f12783bf82ad44a4f2a1053028eaa4cb9d3c57b2c25d3d5669"), looks := false }, kinds := [], alts := [], laidByText := true, laidKinds := [.data, .pinned], laidTests := true, laidLooks := .later }
def RouteParsesCardSaid : Prop := Claim7.holds Tryd.pinned (.plain (OpenSpec.ofChange routeParsesSpec)) routeParsesCard

/-- THE TIED CARD OF 'bulletinlaw16.RouteChecks'. -/
def routeChecksCard : Claim7 := { stood := { row := routeChecksRow, standIns := [], harness := (true, "8856bb8ec3b8f4f12783bf82ad44a4f2a1053028eaa4cb9d3c57b2c25d3d5669"), looks := false }, kinds := [], alts := [], laidByText := true, laidKinds := [.data, .pinned], laidTests := true, laidLooks := .later }
def RouteChecksCardSaid : Prop := Claim7.holds Tryd.pinned (.plain (OpenSpec.ofChange routeChecksSpec)) routeChecksCard

/-- THE TIED CARD OF 'bulletinlaw16.RoutePrepends'. -/
def routePrependsCard : Claim7 := { stood := { row := routePrependsRow, standIns := [], harness := (true, "8856bb8ec3b8f4f12783bf82ad44a4f2a1053028eaa4cb9d3c57b2c25d3d5669"), looks := false }, kinds := [], alts := [], laidByText := true, laidKinds := [.data, .pinned], laidTests := true, laidLooks := .later }
def RoutePrependsCardSaid : Prop := Claim7.holds Tryd.pinned (.plain (OpenSpec.ofChange routePrependsSpec)) routePrependsCard

/-- THE TIED CARD OF 'bulletinlaw16.RouteGrows'. -/
def routeGrowsCard : Claim7 := { stood := { row := routeGrowsRow, standIns := [], harness := (true, "8856bb8ec3b8f4f12783bf82ad44a4f2a1053028eaa4cb9d3c57b2c25d3d5669"), looks := false }, kinds := [], alts := [], laidByText := true, laidKinds := [.data, .pinned], laidTests := true, laidLooks := .later }
def RouteGrowsCardSaid : Prop := Claim7.holds Tryd.pinned (.plain (OpenSpec.ofChange routeGrowsSpec)) routeGrowsCard

/-- THE TIED CARD OF 'bulletinlaw16.RouteLoops'. -/
def routeLoopsCard : Claim7 := { stood := { row := routeLoopsRow, standIns := [], harness := (true, "8856bb8ec3b8f4f12783bf82ad44a4f2a1053028eaa4cb9d3c57b2c25d3d5669"), looks := false }, kinds := [], alts := [], laidByText := true, laidKinds := [.data, .pinned], laidTests := true, laidLooks := .later }
def RouteLoopsCardSaid : Prop := Claim7.holds Tryd.pinned (.plain (OpenSpec.ofChange routeLoopsSpec)) routeLoopsCard

/-- THE TIED CARD OF 'bulletinlaw16.RouteCommon'. -/
def routeCommonCard : Claim7 := { stood := { row := routeCommonRow, standIns := [], harness := (true, "8856bb8ec3b8f4f12783bf82ad44a4f2a1053028eaa4cb9d3c57b2c25d3d5669"), looks := false }, kinds := [], alts := [], laidByText := true, laidKinds := [.data, .pinned], laidTests := true, laidLooks := .later }
def RouteCommonCardSaid : Prop := Claim7.holds Tryd.pinned (.plain (OpenSpec.ofChange routeCommonSpec)) routeCommonCard

/-- THE TIED CARD OF 'bulletinlaw16.RouteShares'. -/
def routeSharesCard : Claim7 := { stood := { row := routeSharesRow, standIns := [], harness := (true, "8856bb8ec3b8f4f12783bf82ad44a4f2a1053028eaa4cb9d3c57b2c25d3d5669"), looks := false }, kinds := [], alts := [], laidByText := true, laidKinds := [.data, .pinned], laidTests := true, laidLooks := .later }
def RouteSharesCardSaid : Prop := Claim7.holds Tryd.pinned (.plain (OpenSpec.ofChange routeSharesSpec)) routeSharesCard

/-- THE SECOND FORM's CARD OF 'bulletinlaw16.RouteParses'. -/
def routeParsesUptoCard : Claim7 := { stood := { row := routeParsesUptoRow, standIns := [], harness := (true, "8856bb8ec3b8f4f12783bf82ad44a4f2a1053028eaa4cb9d3c57b2c25d3d5669"), looks := false }, kinds := [], alts := [], laidByText := true, laidKinds := [.data, .pinned], laidTests := true, laidLooks := .later }
def RouteParsesUptoCardSaid : Prop := Claim7.holds Tryd.pinned (.plain (OpenSpec.upto routeParsesSpec)) routeParsesUptoCard

/-- THE SECOND FORM's CARD OF 'bulletinlaw16.RouteChecks'. -/
def routeChecksUptoCard : Claim7 := { stood := { row := routeChecksUptoRow, standIns := [], harness := (true, "8856bb8ec3b8f4f12783bf82ad44a4f2a1053028eaa4cb9d3c57b2c25d3d5669"), looks := false }, kinds := [], alts := [], laidByText := true, laidKinds := [.data, .pinned], laidTests := true, laidLooks := .later }
def RouteChecksUptoCardSaid : Prop := Claim7.holds Tryd.pinned (.plain (OpenSpec.upto routeChecksSpec)) routeChecksUptoCard

/-- THE SECOND FORM's CARD OF 'bulletinlaw16.RoutePrepends'. -/
def routePrependsUptoCard : Claim7 := { stood := { row := routePrependsUptoRow, standIns := [], harness := (true, "8856bb8ec3b8f4f12783bf82ad44a4f2a1053028eaa4cb9d3c57b2c25d3d5669"), looks := false }, kinds := [], alts := [], laidByText := true, laidKinds := [.data, .pinned], laidTests := true, laidLooks := .later }
def RoutePrependsUptoCardSaid : Prop := Claim7.holds Tryd.pinned (.plain (OpenSpec.upto routePrependsSpec)) routePrependsUptoCard

/-- THE SECOND FORM's CARD OF 'bulletinlaw16.RouteGrows'. -/
def routeGrowsUptoCard : Claim7 := { stood := { row := routeGrowsUptoRow, standIns := [], harness := (true, "8856bb8ec3b8f4f12783bf82ad44a4f2a1053028eaa4cb9d3c57b2c25d3d5669"), looks := false }, kinds := [], alts := [], laidByText := true, laidKinds := [.data, .pinned], laidTests := true, laidLooks := .later }
def RouteGrowsUptoCardSaid : Prop := Claim7.holds Tryd.pinned (.plain (OpenSpec.upto routeGrowsSpec)) routeGrowsUptoCard

/-- THE SECOND FORM's CARD OF 'bulletinlaw16.RouteLoops'. -/
def routeLoopsUptoCard : Claim7 := { stood := { row := routeLoopsUptoRow, standIns := [], harness := (true, "8856bb8ec3b8f4f12783bf82ad44a4f2a1053028eaa4cb9d3c57b2c25d3d5669"), looks := false }, kinds := [], alts := [], laidByText := true, laidKinds := [.data, .pinned], laidTests := true, laidLooks := .later }
def RouteLoopsUptoCardSaid : Prop := Claim7.holds Tryd.pinned (.plain (OpenSpec.upto routeLoopsSpec)) routeLoopsUptoCard

/-- THE SECOND FORM's CARD OF 'bulletinlaw16.RouteCommon'. -/
def routeCommonUptoCard : Claim7 := { stood := { row := routeCommonUptoRow, standIns := [], harness := (true, "8856bb8ec3b8f4f12783bf82ad44a4f2a1053028eaa4cb9d3c57b2c25d3d5669"), looks := false }, kinds := [], alts := [], laidByText := true, laidKinds := [.data, .pinned], laidTests := true, laidLooks := .later }
def RouteCommonUptoCardSaid : Prop := Claim7.holds Tryd.pinned (.plain (OpenSpec.upto routeCommonSpec)) routeCommonUptoCard

/-- THE SECOND FORM's CARD OF 'bulletinlaw16.RouteShares'. -/
def routeSharesUptoCard : Claim7 := { stood := { row := routeSharesUptoRow, standIns := [], harness := (true, "8856bb8ec3b8f4f12783bf82ad44a4f2a1053028eaa4cb9d3c57b2c25d3d5669"), looks := false }, kinds := [], alts := [], laidByText := true, laidKinds := [.data, .pinned], laidTests := true, laidLooks := .later }
def RouteSharesUptoCardSaid : Prop := Claim7.holds Tryd.pinned (.plain (OpenSpec.upto routeSharesSpec)) routeSharesUptoCard
end Rows
end Go.Proofs.YtdmnphebkkfjmaaDoor
