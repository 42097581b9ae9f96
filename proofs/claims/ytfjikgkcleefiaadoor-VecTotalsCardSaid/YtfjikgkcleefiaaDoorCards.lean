/-
  DERIVED. GIVEN WITH THE SEED: THE CARDS: each row of YtfjikgkcleefiaaDoorRows.lean that lists a variable, with what it lists TIED to the program's text (the seventh form; the later family's looks); each row that meets fmt, with fmt's text TOLD by the authors' own Lean function (tested against real Go, not proved from fmt's source: count such statements apart). THE CARD IS WHAT COUNTS. Prove the row's statement (the work); the ties are given (YtfjikgkcleefiaaDoorTie.lean); close each card by the builder's one call (the guide's Derived/Test/ToyasCard.lean, 'card_holds'). Laid BY PROGRAM, IN A SANDBOX (cutbox-door.mjs). By AI agents, Wed Nov 11 2026. No macro, syntax, notation, axiom, sorry.
-/
import Derived.Test.YtfjikgkcleefiaaDoorRows
import GoSem.ClaimSeven
namespace Go.Proofs.YtfjikgkcleefiaaDoor
namespace Rows

/-- THE TIED CARD OF 'wardshiplaw06.VecOrders'. -/
def vecOrdersCard : Claim7 := { stood := { row := vecOrdersRow, standIns := [], harness := (true, "aa405acb485838cca3d9dd00cfc8989e84f7118335ae0d568c3f7b12537d5ca3"), looks := true }, kinds := [], alts := [], laidByText := true, laidKinds := [.data, .data, .data], laidTests := true, laidLooks := .later }
def VecOrdersCardSaid : Prop := Claim7.holds Tryd.pinned (.plain (OpenSpec.ofChange vecOrdersSpec)) vecOrdersCard

/-- THE TIED CARD OF 'wardshiplaw06.VecBounds'. -/
def vecBoundsCard : Claim7 := { stood := { row := vecBoundsRow, standIns := [], harness := (true, "aa405acb485838cca3d9dd00cfc8989e84f7118335ae0d568c3f7b12537d5ca3"), looks := true }, kinds := [], alts := [], laidByText := true, laidKinds := [.data, .data, .data], laidTests := true, laidLooks := .later }
def VecBoundsCardSaid : Prop := Claim7.holds Tryd.pinned (.plain (OpenSpec.ofChange vecBoundsSpec)) vecBoundsCard

/-- THE TIED CARD OF 'wardshiplaw06.VecLine'. -/
def vecLineCard : Claim7 := { stood := { row := vecLineRow, standIns := [], harness := (true, "aa405acb485838cca3d9dd00cfc8989e84f7118335ae0d568c3f7b12537d5ca3"), looks := true }, kinds := [], alts := [], laidByText := true, laidKinds := [.data, .data, .data], laidTests := true, laidLooks := .later }
def VecLineCardSaid : Prop := Claim7.holds Tryd.pinned (.plain (OpenSpec.ofChange vecLineSpec)) vecLineCard

/-- THE TIED CARD OF 'wardshiplaw06.VecMeans'. -/
def vecMeansCard : Claim7 := { stood := { row := vecMeansRow, standIns := [], harness := (true, "aa405acb485838cca3d9dd00cfc8989e84f7118335ae0d568c3f7b12537d5ca3"), looks := true }, kinds := [], alts := [], laidByText := true, laidKinds := [.data, .data, .data], laidTests := true, laidLooks := .later }
def VecMeansCardSaid : Prop := Claim7.holds Tryd.pinned (.plain (OpenSpec.ofChange vecMeansSpec)) vecMeansCard

/-- THE TIED CARD OF 'wardshiplaw06.VecEvents'. -/
def vecEventsCard : Claim7 := { stood := { row := vecEventsRow, standIns := [], harness := (true, "aa405acb485838cca3d9dd00cfc8989e84f7118335ae0d568c3f7b12537d5ca3"), looks := true }, kinds := [], alts := [], laidByText := true, laidKinds := [.data, .data, .data], laidTests := true, laidLooks := .later }
def VecEventsCardSaid : Prop := Claim7.holds Tryd.pinned (.plain (OpenSpec.ofChange vecEventsSpec)) vecEventsCard

/-- THE TIED CARD OF 'wardshiplaw06.VecTotals'. -/
def vecTotalsCard : Claim7 := { stood := { row := vecTotalsRow, standIns := [], harness := (true, "aa405acb485838cca3d9dd00cfc8989e84f7118335ae0d568c3f7b12537d5ca3"), looks := true }, kinds := [], alts := [], laidByText := true, laidKinds := [.data, .data, .data], laidTests := true, laidLooks := .later }
def VecTotalsCardSaid : Prop := Claim7.holds Tryd.pinned (.plain (OpenSpec.ofChange vecTotalsSpec)) vecTotalsCard

/-- THE TIED CARD OF 'wardshiplaw06.VecTexts'. -/
def vecTextsCard : Claim7 := { stood := { row := vecTextsRow, standIns := [], harness := (true, "aa405acb485838cca3d9dd00cfc8989e84f7118335ae0d568c3f7b12537d5ca3"), looks := true }, kinds := [], alts := [], laidByText := true, laidKinds := [.data, .data, .data, .data, .sentinel, .sentinel, .pinned], laidTests := true, laidLooks := .later }
def VecTextsCardSaid : Prop := Claim7.holds Tryd.pinned (.plain (OpenSpec.ofChange vecTextsSpec)) vecTextsCard

/-- THE SECOND FORM's CARD OF 'wardshiplaw06.VecOrders'. -/
def vecOrdersUptoCard : Claim7 := { stood := { row := vecOrdersUptoRow, standIns := [], harness := (true, "aa405acb485838cca3d9dd00cfc8989e84f7118335ae0d568c3f7b12537d5ca3"), looks := true }, kinds := [], alts := [], laidByText := true, laidKinds := [.data, .data, .data], laidTests := true, laidLooks := .later }
def VecOrdersUptoCardSaid : Prop := Claim7.holds Tryd.pinned (.plain (OpenSpec.upto vecOrdersSpec)) vecOrdersUptoCard

/-- THE SECOND FORM's CARD OF 'wardshiplaw06.VecBounds'. -/
def vecBoundsUptoCard : Claim7 := { stood := { row := vecBoundsUptoRow, standIns := [], harness := (true, "aa405acb485838cca3d9dd00cfc8989e84f7118335ae0d568c3f7b12537d5ca3"), looks := true }, kinds := [], alts := [], laidByText := true, laidKinds := [.data, .data, .data], laidTests := true, laidLooks := .later }
def VecBoundsUptoCardSaid : Prop := Claim7.holds Tryd.pinned (.plain (OpenSpec.upto vecBoundsSpec)) vecBoundsUptoCard

/-- THE SECOND FORM's CARD OF 'wardshiplaw06.VecLine'. -/
def vecLineUptoCard : Claim7 := { stood := { row := vecLineUptoRow, standIns := [], harness := (true, "aa405acb485838cca3d9dd00cfc8989e84f7118335ae0d568c3f7b12537d5ca3"), looks := true }, kinds := [], alts := [], laidByText := true, laidKinds := [.data, .data, .data], laidTests := true, laidLooks := .later }
def VecLineUptoCardSaid : Prop := Claim7.holds Tryd.pinned (.plain (OpenSpec.upto vecLineSpec)) vecLineUptoCard

/-- THE SECOND FORM's CARD OF 'wardshiplaw06.VecMeans'. -/
def vecMeansUptoCard : Claim7 := { stood := { row := vecMeansUptoRow, standIns := [], harness := (true, "aa405acb485838cca3d9dd00cfc8989e84f7118335ae0d568c3f7b12537d5ca3"), looks := true }, kinds := [], alts := [], laidByText := true, laidKinds := [.data, .data, .data], laidTests := true, laidLooks := .later }
def VecMeansUptoCardSaid : Prop := Claim7.holds Tryd.pinned (.plain (OpenSpec.upto vecMeansSpec)) vecMeansUptoCard

/-- THE SECOND FORM's CARD OF 'wardshiplaw06.VecEvents'. -/
def vecEventsUptoCard : Claim7 := { stood := { row := vecEventsUptoRow, standIns := [], harness := (true, "aa405acb485838cca3d9dd00cfc8989e84f7118335ae0d568c3f7b12537d5ca3"), looks := true }, kinds := [], alts := [], laidByText := true, laidKinds := [.data, .data, .data], laidTests := true, laidLooks := .later }
def VecEventsUptoCardSaid : Prop := Claim7.holds Tryd.pinned (.plain (OpenSpec.upto vecEventsSpec)) vecEventsUptoCard

/-- THE SECOND FORM's CARD OF 'wardshiplaw06.VecTotals'. -/
def vecTotalsUptoCard : Claim7 := { stood := { row := vecTotalsUptoRow, standIns := [], harness := (true, "aa405acb485838cca3d9dd00cfc8989e84f7118335ae0d568c3f7b12537d5ca3"), looks := true }, kinds := [], alts := [], laidByText := true, laidKinds := [.data, .data, .data], laidTests := true, laidLooks := .later }
def VecTotalsUptoCardSaid : Prop := Claim7.holds Tryd.pinned (.plain (OpenSpec.upto vecTotalsSpec)) vecTotalsUptoCard

/-- THE SECOND FORM's CARD OF 'wardshiplaw06.VecTexts'. -/
def vecTextsUptoCard : Claim7 := { stood := { row := vecTextsUptoRow, standIns := [], harness := (true, "aa405acb485838cca3d9dd00cfc8989e84f7118335ae0d568c3f7b12537d5ca3"), looks := true }, kinds := [], alts := [], laidByText := true, laidKinds := [.data, .data, .data, .data, .sentinel, .sentinel, .pinned], laidTests := true, laidLooks := .later }
def VecTextsUptoCardSaid : Prop := Claim7.holds Tryd.pinned (.plain (OpenSpec.upto vecTextsSpec)) vecTextsUptoCard
end Rows
end Go.Proofs.YtfjikgkcleefiaaDoor
