/-
  DERIVED. GIVEN WITH THE SEED: THE CARDS: each row of YtomgkgngbpnngaaDoorRows.lean that lists a variable, with what it lists TIED to the program's text (the seventh form; the later family's looks); each row that meets fmt, with fmt's text TOLD by the authors' own Lean function (tested against real Go, not proved from fmt's source: count such statements apart). THE CARD IS WHAT COUNTS. Prove the row's statement (the work); the ties are given (YtomgkgngbpnngaaDoorTie.lean); close each card by the builder's one call (the guide's Derived/Test/ToyasCard.lean, 'card_holds'). Laid BY PROGRAM, IN A SANDBOX (cutbox-door.mjs). By AI agents, Wed Nov 11 2026. No macro, syntax, notation, axiom, sorry.
-/
import Derived.Test.YtomgkgngbpnngaaDoorRows
import GoSem.ClaimSeven
namespace Go.Proofs.YtomgkgngbpnngaaDoor
namespace Rows

/-- THE TIED CARD OF 'wardshiplaw14.ChooseTwice'. -/
def chooseTwiceCard : Claim7 := { stood := { row := chooseTwiceRow, standIns := [], harness := (true, "d87cdbf102cbec705e4dc56832d639d6e373181c92fde58202218b620c1d81b6"), looks := true }, kinds := [], alts := [], laidByText := true, laidKinds := [.data, .data, .data, .data, .sentinel, .sentinel, .pinned], laidTests := true, laidLooks := .later }
def ChooseTwiceCardSaid : Prop := Claim7.holds Tryd.pinned (.plain (OpenSpec.ofChange chooseTwiceSpec)) chooseTwiceCard

/-- THE SECOND FORM's CARD OF 'wardshiplaw14.ChooseTwice'. -/
def chooseTwiceUptoCard : Claim7 := { stood := { row := chooseTwiceUptoRow, standIns := [], harness := (true, "d87cdbf102cbec705e4dc56832d639d6e373181c92fde58202218b620c1d81b6"), looks := true }, kinds := [], alts := [], laidByText := true, laidKinds := [.data, .data, .data, .data, .sentinel, .sentinel, .pinned], laidTests := true, laidLooks := .later }
def ChooseTwiceUptoCardSaid : Prop := Claim7.holds Tryd.pinned (.plain (OpenSpec.upto chooseTwiceSpec)) chooseTwiceUptoCard
end Rows
end Go.Proofs.YtomgkgngbpnngaaDoor
