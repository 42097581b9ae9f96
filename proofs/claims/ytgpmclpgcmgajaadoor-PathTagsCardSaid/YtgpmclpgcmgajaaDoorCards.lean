/-
  DERIVED. GIVEN WITH THE SEED: THE CARDS: each row of YtgpmclpgcmgajaaDoorRows.lean that lists a variable, with what it lists TIED to the program's text (the seventh form; the later family's looks); each row that meets fmt, with fmt's text TOLD by the authors' own Lean function (tested against real Go, not proved from fmt's source: count such statements apart). THE CARD IS WHAT COUNTS. Prove the row's statement (the work); the ties are given (YtgpmclpgcmgajaaDoorTie.lean); close each card by the builder's one call (the guide's Derived/Test/ToyasCard.lean, 'card_holds'). Laid BY PROGRAM, IN A SANDBOX (cutbox-door.mjs). By AI agents, Wed Nov 11 2026. No macro, syntax, notation, axiom, sorry.
-/
import Derived.Test.YtgpmclpgcmgajaaDoorRows
import GoSem.ClaimSeven
namespace Go.Proofs.YtgpmclpgcmgajaaDoor
namespace Rows

/-- THE TIED CARD OF 'wardshiplaw09.PathSplits'. -/
def pathSplitsCard : Claim7 := { stood := { row := pathSplitsRow, standIns := [], harness := (true, "9eab08857433f343511c7261529b31fa33b90752865a28afac9284059a8ec9c8"), looks := true }, kinds := [], alts := [], laidByText := true, laidKinds := [.data, .data, .data, .data, .sentinel, .sentinel, .pinned], laidTests := true, laidLooks := .later }
def PathSplitsCardSaid : Prop := Claim7.holds Tryd.pinned (.plain (OpenSpec.ofChange pathSplitsSpec)) pathSplitsCard

/-- THE TIED CARD OF 'wardshiplaw09.PathJoins'. -/
def pathJoinsCard : Claim7 := { stood := { row := pathJoinsRow, standIns := [], harness := (true, "9eab08857433f343511c7261529b31fa33b90752865a28afac9284059a8ec9c8"), looks := true }, kinds := [], alts := [], laidByText := true, laidKinds := [.data, .data, .data, .data, .sentinel, .sentinel, .pinned], laidTests := true, laidLooks := .later }
def PathJoinsCardSaid : Prop := Claim7.holds Tryd.pinned (.plain (OpenSpec.ofChange pathJoinsSpec)) pathJoinsCard

/-- THE TIED CARD OF 'wardshiplaw09.PathWithin'. -/
def pathWithinCard : Claim7 := { stood := { row := pathWithinRow, standIns := [], harness := (true, "9eab08857433f343511c7261529b31fa33b90752865a28afac9284059a8ec9c8"), looks := true }, kinds := [], alts := [], laidByText := true, laidKinds := [.data, .data, .data, .data, .sentinel, .sentinel, .pinned], laidTests := true, laidLooks := .later }
def PathWithinCardSaid : Prop := Claim7.holds Tryd.pinned (.plain (OpenSpec.ofChange pathWithinSpec)) pathWithinCard

/-- THE TIED CARD OF 'wardshiplaw09.PathOrder'. -/
def pathOrderCard : Claim7 := { stood := { row := pathOrderRow, standIns := [], harness := (true, "9eab08857433f343511c7261529b31fa33b90752865a28afac9284059a8ec9c8"), looks := true }, kinds := [], alts := [], laidByText := true, laidKinds := [.data, .data, .data, .data, .sentinel, .sentinel, .pinned], laidTests := true, laidLooks := .later }
def PathOrderCardSaid : Prop := Claim7.holds Tryd.pinned (.plain (OpenSpec.ofChange pathOrderSpec)) pathOrderCard

/-- THE TIED CARD OF 'wardshiplaw09.PathTags'. -/
def pathTagsCard : Claim7 := { stood := { row := pathTagsRow, standIns := [], harness := (true, "9eab08857433f343511c7261529b31fa33b90752865a28afac9284059a8ec9c8"), looks := true }, kinds := [], alts := [], laidByText := true, laidKinds := [.data, .data, .data, .data, .sentinel, .sentinel, .pinned], laidTests := true, laidLooks := .later }
def PathTagsCardSaid : Prop := Claim7.holds Tryd.pinned (.plain (OpenSpec.ofChange pathTagsSpec)) pathTagsCard

/-- THE SECOND FORM's CARD OF 'wardshiplaw09.PathSplits'. -/
def pathSplitsUptoCard : Claim7 := { stood := { row := pathSplitsUptoRow, standIns := [], harness := (true, "9eab08857433f343511c7261529b31fa33b90752865a28afac9284059a8ec9c8"), looks := true }, kinds := [], alts := [], laidByText := true, laidKinds := [.data, .data, .data, .data, .sentinel, .sentinel, .pinned], laidTests := true, laidLooks := .later }
def PathSplitsUptoCardSaid : Prop := Claim7.holds Tryd.pinned (.plain (OpenSpec.upto pathSplitsSpec)) pathSplitsUptoCard

/-- THE SECOND FORM's CARD OF 'wardshiplaw09.PathJoins'. -/
def pathJoinsUptoCard : Claim7 := { stood := { row := pathJoinsUptoRow, standIns := [], harness := (true, "9eab08857433f343511c7261529b31fa33b90752865a28afac9284059a8ec9c8"), looks := true }, kinds := [], alts := [], laidByText := true, laidKinds := [.data, .data, .data, .data, .sentinel, .sentinel, .pinned], laidTests := true, laidLooks := .later }
def PathJoinsUptoCardSaid : Prop := Claim7.holds Tryd.pinned (.plain (OpenSpec.upto pathJoinsSpec)) pathJoinsUptoCard

/-- THE SECOND FORM's CARD OF 'wardshiplaw09.PathWithin'. -/
def pathWithinUptoCard : Claim7 := { stood := { row := pathWithinUptoRow, standIns := [], harness := (true, "9eab08857433f343511c7261529b31fa33b90752865a28afac9284059a8ec9c8"), looks := true }, kinds := [], alts := [], laidByText := true, laidKinds := [.data, .data, .data, .data, .sentinel, .sentinel, .pinned], laidTests := true, laidLooks := .later }
def PathWithinUptoCardSaid : Prop := Claim7.holds Tryd.pinned (.plain (OpenSpec.upto pathWithinSpec)) pathWithinUptoCard

/-- THE SECOND FORM's CARD OF 'wardshiplaw09.PathOrder'. -/
def pathOrderUptoCard : Claim7 := { stood := { row := pathOrderUptoRow, standIns := [], harness := (true, "9eab08857433f343511c7261529b31fa33b90752865a28afac9284059a8ec9c8"), looks := true }, kinds := [], alts := [], laidByText := true, laidKinds := [.data, .data, .data, .data, .sentinel, .sentinel, .pinned], laidTests := true, laidLooks := .later }
def PathOrderUptoCardSaid : Prop := Claim7.holds Tryd.pinned (.plain (OpenSpec.upto pathOrderSpec)) pathOrderUptoCard

/-- THE SECOND FORM's CARD OF 'wardshiplaw09.PathTags'. -/
def pathTagsUptoCard : Claim7 := { stood := { row := pathTagsUptoRow, standIns := [], harness := (true, "9eab08857433f343511c7261529b31fa33b90752865a28afac9284059a8ec9c8"), looks := true }, kinds := [], alts := [], laidByText := true, laidKinds := [.data, .data, .data, .data, .sentinel, .sentinel, .pinned], laidTests := true, laidLooks := .later }
def PathTagsUptoCardSaid : Prop := Claim7.holds Tryd.pinned (.plain (OpenSpec.upto pathTagsSpec)) pathTagsUptoCard
end Rows
end Go.Proofs.YtgpmclpgcmgajaaDoor
