/-
  No cell of these rows narrows 'for every input' (looked for: loops, veiled, ifaces, maps, wideKeys, modest, calm, conditions, laid).
  DERIVED. THE GIVEN ROWS OF THIS SEAT. 5 by the template 'for every input the law returns true; each argument reads behind the call as it read before'; 0 by the template 'total and deterministic' (their statements: YtnfmpdnmcdbkdaaTotals.lean).
  GIVEN WITH THE SEED: the statements are not yours to turn. If you find one false, say at which input.
  Laid BY PROGRAM, IN A SANDBOX (cutbox-rows.mjs): the forced cells as the released guide's own fill.sh prints them over the translation 48ae243cc05a4b47… (all of the seat's roots in one cut). By AI agents, Wed Nov 11 2026. No macro, syntax, notation, axiom, sorry.
-/
import Derived.Test.YtnfmpdnmcdbkdaaChecked
import GoSem.Claim
import GoSem.ClaimJoined
import GoSem.ClaimMapViews
import Derived.JoinedTies
import Derived.KernelRfl
namespace Go.Proofs.Ytnfmpdnmcdbkdaa
/- THE CELL 'sum', in the pinned program and in every row, IS THE sha256 OF THE DUMP (.gsa) THAT YtnfmpdnmcdbkdaaProg.lean LOADS. Nothing in Lean hashes anything: it is a label: what it is worth is what the hold of that sum in a sandbox is worth. -/
noncomputable def Try.pinned : Pinned := { name := "ytnfmpdnmcdbkdaa", sum := "48ae243cc05a4b478ef47a456b2b6bcf6bf55fe258cdd1790ed03ed0f24b540c", checked := Try.checked }
namespace Rows
def none {H : Type} : Left H := { results := [], args := [] }

/-- 'wardshiplaw20.WardMembers': WHATEVER THE INPUT: true; the input reads as it did. -/
def wardMembersSpec : ChangeSpec := { name := "wardMembers", fn := fun _ => fun
  | [d1, d2, d3] => { results := [.lit (.bool true)], args := [d1, d2, d3] }
  | _ => none }
def wardMembersRow : OpenClaim := { program := "ytnfmpdnmcdbkdaa", sum := "48ae243cc05a4b478ef47a456b2b6bcf6bf55fe258cdd1790ed03ed0f24b540c", func := "wardship/wardshiplaw20.WardMembers", spec := "wardMembers", apart := false }
def WardMembersSaid : Prop := wardMembersRow.holds Try.pinned (OpenSpec.ofChange wardMembersSpec)

/-- ITS FALSE NEIGHBOUR: 'it returns false'. Refute it at one input. -/
def wardMembersWrong : ChangeSpec := { name := "wardMembers", fn := fun _ => fun
  | [d1, d2, d3] => { results := [.lit (.bool false)], args := [d1, d2, d3] }
  | _ => none }
def WardMembersWrongFalsely : Prop := wardMembersRow.holds Try.pinned (OpenSpec.ofChange wardMembersWrong)

/-- 'wardshiplaw20.WardAsks': WHATEVER THE INPUT: true; the input reads as it did. -/
def wardAsksSpec : ChangeSpec := { name := "wardAsks", fn := fun _ => fun
  | [d1, d2, d3] => { results := [.lit (.bool true)], args := [d1, d2, d3] }
  | _ => none }
def wardAsksRow : OpenClaim := { program := "ytnfmpdnmcdbkdaa", sum := "48ae243cc05a4b478ef47a456b2b6bcf6bf55fe258cdd1790ed03ed0f24b540c", func := "wardship/wardshiplaw20.WardAsks", spec := "wardAsks", apart := false }
def WardAsksSaid : Prop := wardAsksRow.holds Try.pinned (OpenSpec.ofChange wardAsksSpec)

/-- ITS FALSE NEIGHBOUR: 'it returns false'. Refute it at one input. -/
def wardAsksWrong : ChangeSpec := { name := "wardAsks", fn := fun _ => fun
  | [d1, d2, d3] => { results := [.lit (.bool false)], args := [d1, d2, d3] }
  | _ => none }
def WardAsksWrongFalsely : Prop := wardAsksRow.holds Try.pinned (OpenSpec.ofChange wardAsksWrong)

/-- 'wardshiplaw20.WardFair': WHATEVER THE INPUT: true; the input reads as it did. -/
def wardFairSpec : ChangeSpec := { name := "wardFair", fn := fun _ => fun
  | [d1, d2, d3] => { results := [.lit (.bool true)], args := [d1, d2, d3] }
  | _ => none }
def wardFairRow : OpenClaim := { program := "ytnfmpdnmcdbkdaa", sum := "48ae243cc05a4b478ef47a456b2b6bcf6bf55fe258cdd1790ed03ed0f24b540c", func := "wardship/wardshiplaw20.WardFair", spec := "wardFair", apart := false }
def WardFairSaid : Prop := wardFairRow.holds Try.pinned (OpenSpec.ofChange wardFairSpec)

/-- ITS FALSE NEIGHBOUR: 'it returns false'. Refute it at one input. -/
def wardFairWrong : ChangeSpec := { name := "wardFair", fn := fun _ => fun
  | [d1, d2, d3] => { results := [.lit (.bool false)], args := [d1, d2, d3] }
  | _ => none }
def WardFairWrongFalsely : Prop := wardFairRow.holds Try.pinned (OpenSpec.ofChange wardFairWrong)

/-- 'wardshiplaw20.WardSpreads': WHATEVER THE INPUT: true; the input reads as it did. -/
def wardSpreadsSpec : ChangeSpec := { name := "wardSpreads", fn := fun _ => fun
  | [d1, d2, d3] => { results := [.lit (.bool true)], args := [d1, d2, d3] }
  | _ => none }
def wardSpreadsRow : OpenClaim := { program := "ytnfmpdnmcdbkdaa", sum := "48ae243cc05a4b478ef47a456b2b6bcf6bf55fe258cdd1790ed03ed0f24b540c", func := "wardship/wardshiplaw20.WardSpreads", spec := "wardSpreads", apart := false }
def WardSpreadsSaid : Prop := wardSpreadsRow.holds Try.pinned (OpenSpec.ofChange wardSpreadsSpec)

/-- ITS FALSE NEIGHBOUR: 'it returns false'. Refute it at one input. -/
def wardSpreadsWrong : ChangeSpec := { name := "wardSpreads", fn := fun _ => fun
  | [d1, d2, d3] => { results := [.lit (.bool false)], args := [d1, d2, d3] }
  | _ => none }
def WardSpreadsWrongFalsely : Prop := wardSpreadsRow.holds Try.pinned (OpenSpec.ofChange wardSpreadsWrong)

/-- 'wardshiplaw20.WardRing': WHATEVER THE INPUT: true; the input reads as it did. -/
def wardRingSpec : ChangeSpec := { name := "wardRing", fn := fun _ => fun
  | [d1, d2] => { results := [.lit (.bool true)], args := [d1, d2] }
  | _ => none }
def wardRingRow : OpenClaim := { program := "ytnfmpdnmcdbkdaa", sum := "48ae243cc05a4b478ef47a456b2b6bcf6bf55fe258cdd1790ed03ed0f24b540c", func := "wardship/wardshiplaw20.WardRing", spec := "wardRing", apart := false }
def WardRingSaid : Prop := wardRingRow.holds Try.pinned (OpenSpec.ofChange wardRingSpec)

/-- ITS FALSE NEIGHBOUR: 'it returns false'. Refute it at one input. -/
def wardRingWrong : ChangeSpec := { name := "wardRing", fn := fun _ => fun
  | [d1, d2] => { results := [.lit (.bool false)], args := [d1, d2] }
  | _ => none }
def WardRingWrongFalsely : Prop := wardRingRow.holds Try.pinned (OpenSpec.ofChange wardRingWrong)

/- THE SECOND FORM. 'bulk': how many values and letters a reading holds, each counted each time it is reached (what is shared counts as often as it is met; a slice's spare places count too). A statement '..UptoSaid' is the law's where the arguments, and the package variables that the reading takes, are together of bulk at most 1048576: NARROWER than '..Said'. Prove '..Said' where nothing that the law and all that it calls make is longer than what came in: it says more and counts as full. Else prove '..UptoSaid'. A law counts once. -/
mutual
def uptoBulk {H : Type} : DataW H → Nat
  | .lit (.string bytes) => bytes.length + 1
  | .lit _ => 1
  | .nil => 1
  | .ptr d => uptoBulk d + 1
  | .slice elems spare => uptoBulkAll elems + uptoBulkAll spare + 1
  | .agg parts => uptoBulkAll parts + 1
  | .iface _ d => uptoBulk d + 1
  | .map entries => uptoBulkEntries entries + 1
  | .held _ => 1
def uptoBulkAll {H : Type} : List (DataW H) → Nat
  | [] => 0
  | d :: r => uptoBulk d + uptoBulkAll r
def uptoBulkEntries {H : Type} : List (Lit × DataW H) → Nat
  | [] => 0
  | x :: r => uptoBulkEntry x + uptoBulkEntries r
def uptoBulkEntry {H : Type} : Lit × DataW H → Nat
  | (.string bytes, d) => bytes.length + uptoBulk d + 1
  | (_, d) => uptoBulk d + 1
 end
def uptoSmall : (H : Type) → List (DataW H) → Bool := fun _ ds => decide (uptoBulkAll ds ≤ 1048576)
def OpenSpec.upto (s : _root_.Go.ChangeSpec) : _root_.Go.OpenSpec := { _root_.Go.OpenSpec.ofChange s with cond := some uptoSmall }

/-- 'wardshiplaw20.WardMembers', WHERE WHAT IT READS IS OF BULK AT MOST 1048576: true; the input reads as it did. -/
def wardMembersUptoRow : OpenClaim := { program := "ytnfmpdnmcdbkdaa", sum := "48ae243cc05a4b478ef47a456b2b6bcf6bf55fe258cdd1790ed03ed0f24b540c", func := "wardship/wardshiplaw20.WardMembers", spec := "wardMembers", apart := false, narrowed := true }
def WardMembersUptoSaid : Prop := wardMembersUptoRow.holds Try.pinned (OpenSpec.upto wardMembersSpec)

/-- 'wardshiplaw20.WardAsks', WHERE WHAT IT READS IS OF BULK AT MOST 1048576: true; the input reads as it did. -/
def wardAsksUptoRow : OpenClaim := { program := "ytnfmpdnmcdbkdaa", sum := "48ae243cc05a4b478ef47a456b2b6bcf6bf55fe258cdd1790ed03ed0f24b540c", func := "wardship/wardshiplaw20.WardAsks", spec := "wardAsks", apart := false, narrowed := true }
def WardAsksUptoSaid : Prop := wardAsksUptoRow.holds Try.pinned (OpenSpec.upto wardAsksSpec)

/-- 'wardshiplaw20.WardFair', WHERE WHAT IT READS IS OF BULK AT MOST 1048576: true; the input reads as it did. -/
def wardFairUptoRow : OpenClaim := { program := "ytnfmpdnmcdbkdaa", sum := "48ae243cc05a4b478ef47a456b2b6bcf6bf55fe258cdd1790ed03ed0f24b540c", func := "wardship/wardshiplaw20.WardFair", spec := "wardFair", apart := false, narrowed := true }
def WardFairUptoSaid : Prop := wardFairUptoRow.holds Try.pinned (OpenSpec.upto wardFairSpec)

/-- 'wardshiplaw20.WardSpreads', WHERE WHAT IT READS IS OF BULK AT MOST 1048576: true; the input reads as it did. -/
def wardSpreadsUptoRow : OpenClaim := { program := "ytnfmpdnmcdbkdaa", sum := "48ae243cc05a4b478ef47a456b2b6bcf6bf55fe258cdd1790ed03ed0f24b540c", func := "wardship/wardshiplaw20.WardSpreads", spec := "wardSpreads", apart := false, narrowed := true }
def WardSpreadsUptoSaid : Prop := wardSpreadsUptoRow.holds Try.pinned (OpenSpec.upto wardSpreadsSpec)

/-- 'wardshiplaw20.WardRing', WHERE WHAT IT READS IS OF BULK AT MOST 1048576: true; the input reads as it did. -/
def wardRingUptoRow : OpenClaim := { program := "ytnfmpdnmcdbkdaa", sum := "48ae243cc05a4b478ef47a456b2b6bcf6bf55fe258cdd1790ed03ed0f24b540c", func := "wardship/wardshiplaw20.WardRing", spec := "wardRing", apart := false, narrowed := true }
def WardRingUptoSaid : Prop := wardRingUptoRow.holds Try.pinned (OpenSpec.upto wardRingSpec)

end Rows
end Go.Proofs.Ytnfmpdnmcdbkdaa
