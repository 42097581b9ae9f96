/-
  DERIVED. GIVEN WITH THE SEED: THE CARDS: each row of YtomgkgngbpnngaaGreatDoorRows.lean that lists a variable, with what it lists TIED to the program's text (the seventh form; the later family's looks); each row that meets fmt, with fmt's text TOLD by the authors' own Lean function (tested against real Go, not proved from fmt's source: count such statements apart). THE CARD IS WHAT COUNTS. Prove the row's statement (the work); the ties are given (YtomgkgngbpnngaaGreatDoorTie.lean); close each card by the builder's one call (the guide's Derived/Test/ToyasCard.lean, 'card_holds'). Laid BY PROGRAM, IN A SANDBOX (cutbox-door.mjs). By AI agents, Wed Nov 11 2026. No macro, syntax, notation, axiom, sorry.
-/
import Derived.Test.YtomgkgngbpnngaaGreatDoorRows
import GoSem.ClaimSeven
namespace Go.Proofs.YtomgkgngbpnngaaGreatDoor
namespace Rows

/-- THE TIED CARD OF 'wardshiplaw14.ChooseAlike'. -/
def chooseAlikeCard : Claim7 := { stood := { row := chooseAlikeRow, standIns := [], harness := (true, "10e06fa32d662917a9d767410d933a5f42ddccf23dee3600a8543ed12d73311f"), looks := true }, kinds := [], alts := [], laidByText := true, laidKinds := [.data, .data, .data, .data, .sentinel, .sentinel, .pinned], laidTests := true, laidLooks := .later }
def ChooseAlikeCardSaid : Prop := Claim7.holds Tryz.pinned (.plain (OpenSpec.ofChange chooseAlikeSpec)) chooseAlikeCard

/-- THE TIED CARD OF 'wardshiplaw14.ChooseUp'. -/
def chooseUpCard : Claim7 := { stood := { row := chooseUpRow, standIns := [], harness := (true, "10e06fa32d662917a9d767410d933a5f42ddccf23dee3600a8543ed12d73311f"), looks := true }, kinds := [], alts := [], laidByText := true, laidKinds := [.data, .data, .data, .data, .sentinel, .sentinel, .pinned], laidTests := true, laidLooks := .later }
def ChooseUpCardSaid : Prop := Claim7.holds Tryz.pinned (.plain (OpenSpec.ofChange chooseUpSpec)) chooseUpCard

/-- THE TIED CARD OF 'wardshiplaw14.ChooseCleans'. -/
def chooseCleansCard : Claim7 := { stood := { row := chooseCleansRow, standIns := [], harness := (true, "10e06fa32d662917a9d767410d933a5f42ddccf23dee3600a8543ed12d73311f"), looks := true }, kinds := [], alts := [], laidByText := true, laidKinds := [.data, .data, .data, .data, .sentinel, .sentinel, .pinned], laidTests := true, laidLooks := .later }
def ChooseCleansCardSaid : Prop := Claim7.holds Tryz.pinned (.plain (OpenSpec.ofChange chooseCleansSpec)) chooseCleansCard

/-- THE SECOND FORM's CARD OF 'wardshiplaw14.ChooseAlike'. -/
def chooseAlikeUptoCard : Claim7 := { stood := { row := chooseAlikeUptoRow, standIns := [], harness := (true, "10e06fa32d662917a9d767410d933a5f42ddccf23dee3600a8543ed12d73311f"), looks := true }, kinds := [], alts := [], laidByText := true, laidKinds := [.data, .data, .data, .data, .sentinel, .sentinel, .pinned], laidTests := true, laidLooks := .later }
def ChooseAlikeUptoCardSaid : Prop := Claim7.holds Tryz.pinned (.plain (OpenSpec.upto chooseAlikeSpec)) chooseAlikeUptoCard

/-- THE SECOND FORM's CARD OF 'wardshiplaw14.ChooseUp'. -/
def chooseUpUptoCard : Claim7 := { stood := { row := chooseUpUptoRow, standIns := [], harness := (true, "10e06fa32d662917a9d767410d933a5f42ddccf23dee3600a8543ed12d73311f"), looks := true }, kinds := [], alts := [], laidByText := true, laidKinds := [.data, .data, .data, .data, .sentinel, .sentinel, .pinned], laidTests := true, laidLooks := .later }
def ChooseUpUptoCardSaid : Prop := Claim7.holds Tryz.pinned (.plain (OpenSpec.upto chooseUpSpec)) chooseUpUptoCard

/-- THE SECOND FORM's CARD OF 'wardshiplaw14.ChooseCleans'. -/
def chooseCleansUptoCard : Claim7 := { stood := { row := chooseCleansUptoRow, standIns := [], harness := (true, "10e06fa32d662917a9d767410d933a5f42ddccf23dee3600a8543ed12d73311f"), looks := true }, kinds := [], alts := [], laidByText := true, laidKinds := [.data, .data, .data, .data, .sentinel, .sentinel, .pinned], laidTests := true, laidLooks := .later }
def ChooseCleansUptoCardSaid : Prop := Claim7.holds Tryz.pinned (.plain (OpenSpec.upto chooseCleansSpec)) chooseCleansUptoCard
end Rows
end Go.Proofs.YtomgkgngbpnngaaGreatDoor
