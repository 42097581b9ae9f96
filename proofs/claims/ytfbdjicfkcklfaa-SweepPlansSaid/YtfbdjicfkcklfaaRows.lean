/-
  No cell of these rows narrows 'for every input' (looked for: loops, veiled, ifaces, maps, wideKeys, modest, calm, conditions, laid).
  DERIVED. THE GIVEN ROWS OF THIS SEAT. 5 by the template 'for every input the law returns true; each argument reads behind the call as it read before'; 0 by the template 'total and deterministic' (their statements: YtfbdjicfkcklfaaTotals.lean).
  GIVEN WITH THE SEED: the statements are not yours to turn. If you find one false, say at which input.
  Laid BY PROGRAM, IN A SANDBOX (cutbox-rows.mjs): the forced cells as the released guide's own fill.sh prints them over the translation c9b7cac529dda56e… (all of the seat's roots in one cut). By AI agents, Wed Nov 11 2026. No macro, syntax, notation, axiom, sorry.
-/
import Derived.Test.YtfbdjicfkcklfaaChecked
import GoSem.Claim
import GoSem.ClaimJoined
import GoSem.ClaimMapViews
import Derived.JoinedTies
import Derived.KernelRfl
namespace Go.Proofs.Ytfbdjicfkcklfaa
/- THE CELL 'sum', in the pinned program and in every row, IS THE sha256 OF THE DUMP (.gsa) THAT YtfbdjicfkcklfaaProg.lean LOADS. Nothing in Lean hashes anything: it is a label: what it is worth is what the hold of that sum in a sandbox is worth. -/
noncomputable def Try.pinned : Pinned := { name := "ytfbdjicfkcklfaa", sum := "c9b7cac529dda56e1aa3d62b16300c1c3a478615c6533066fdf3f02c2a214c2f", checked := Try.checked }
namespace Rows
def none {H : Type} : Left H := { results := [], args := [] }

/-- 'wardshiplaw18.SweepCollects': WHATEVER THE INPUT: true; the input reads as it did. -/
def sweepCollectsSpec : ChangeSpec := { name := "sweepCollects", fn := fun _ => fun
  | [d1, d2, d3] => { results := [.lit (.bool true)], args := [d1, d2, d3] }
  | _ => none }
def sweepCollectsRow : OpenClaim := { program := "ytfbdjicfkcklfaa", sum := "c9b7cac529dda56e1aa3d62b16300c1c3a478615c6533066fdf3f02c2a214c2f", func := "wardship/wardshiplaw18.SweepCollects", spec := "sweepCollects", unfollowed := true, recurses := true, apart := false }
def SweepCollectsSaid : Prop := sweepCollectsRow.holds Try.pinned (OpenSpec.ofChange sweepCollectsSpec)

/-- ITS FALSE NEIGHBOUR: 'it returns false'. Refute it at one input. -/
def sweepCollectsWrong : ChangeSpec := { name := "sweepCollects", fn := fun _ => fun
  | [d1, d2, d3] => { results := [.lit (.bool false)], args := [d1, d2, d3] }
  | _ => none }
def SweepCollectsWrongFalsely : Prop := sweepCollectsRow.holds Try.pinned (OpenSpec.ofChange sweepCollectsWrong)

/-- 'wardshiplaw18.SweepAll': WHATEVER THE INPUT: true; the input reads as it did. -/
def sweepAllSpec : ChangeSpec := { name := "sweepAll", fn := fun _ => fun
  | [d1, d2] => { results := [.lit (.bool true)], args := [d1, d2] }
  | _ => none }
def sweepAllRow : OpenClaim := { program := "ytfbdjicfkcklfaa", sum := "c9b7cac529dda56e1aa3d62b16300c1c3a478615c6533066fdf3f02c2a214c2f", func := "wardship/wardshiplaw18.SweepAll", spec := "sweepAll", unfollowed := true, recurses := true, apart := false }
def SweepAllSaid : Prop := sweepAllRow.holds Try.pinned (OpenSpec.ofChange sweepAllSpec)

/-- ITS FALSE NEIGHBOUR: 'it returns false'. Refute it at one input. -/
def sweepAllWrong : ChangeSpec := { name := "sweepAll", fn := fun _ => fun
  | [d1, d2] => { results := [.lit (.bool false)], args := [d1, d2] }
  | _ => none }
def SweepAllWrongFalsely : Prop := sweepAllRow.holds Try.pinned (OpenSpec.ofChange sweepAllWrong)

/-- 'wardshiplaw18.SweepSteps': WHATEVER THE INPUT: true; the input reads as it did. -/
def sweepStepsSpec : ChangeSpec := { name := "sweepSteps", fn := fun _ => fun
  | [d1, d2, d3] => { results := [.lit (.bool true)], args := [d1, d2, d3] }
  | _ => none }
def sweepStepsRow : OpenClaim := { program := "ytfbdjicfkcklfaa", sum := "c9b7cac529dda56e1aa3d62b16300c1c3a478615c6533066fdf3f02c2a214c2f", func := "wardship/wardshiplaw18.SweepSteps", spec := "sweepSteps", unfollowed := true, recurses := true, apart := false }
def SweepStepsSaid : Prop := sweepStepsRow.holds Try.pinned (OpenSpec.ofChange sweepStepsSpec)

/-- ITS FALSE NEIGHBOUR: 'it returns false'. Refute it at one input. -/
def sweepStepsWrong : ChangeSpec := { name := "sweepSteps", fn := fun _ => fun
  | [d1, d2, d3] => { results := [.lit (.bool false)], args := [d1, d2, d3] }
  | _ => none }
def SweepStepsWrongFalsely : Prop := sweepStepsRow.holds Try.pinned (OpenSpec.ofChange sweepStepsWrong)

/-- 'wardshiplaw18.SweepLeaves': WHATEVER THE INPUT: true; the input reads as it did. -/
def sweepLeavesSpec : ChangeSpec := { name := "sweepLeaves", fn := fun _ => fun
  | [d1, d2] => { results := [.lit (.bool true)], args := [d1, d2] }
  | _ => none }
def sweepLeavesRow : OpenClaim := { program := "ytfbdjicfkcklfaa", sum := "c9b7cac529dda56e1aa3d62b16300c1c3a478615c6533066fdf3f02c2a214c2f", func := "wardship/wardshiplaw18.SweepLeaves", spec := "sweepLeaves", unfollowed := true, recurses := true, apart := false }
def SweepLeavesSaid : Prop := sweepLeavesRow.holds Try.pinned (OpenSpec.ofChange sweepLeavesSpec)

/-- ITS FALSE NEIGHBOUR: 'it returns false'. Refute it at one input. -/
def sweepLeavesWrong : ChangeSpec := { name := "sweepLeaves", fn := fun _ => fun
  | [d1, d2] => { results := [.lit (.bool false)], args := [d1, d2] }
  | _ => none }
def SweepLeavesWrongFalsely : Prop := sweepLeavesRow.holds Try.pinned (OpenSpec.ofChange sweepLeavesWrong)

/-- 'wardshiplaw18.SweepPlans': WHATEVER THE INPUT: true; the input reads as it did. -/
def sweepPlansSpec : ChangeSpec := { name := "sweepPlans", fn := fun _ => fun
  | [d1, d2, d3] => { results := [.lit (.bool true)], args := [d1, d2, d3] }
  | _ => none }
def sweepPlansRow : OpenClaim := { program := "ytfbdjicfkcklfaa", sum := "c9b7cac529dda56e1aa3d62b16300c1c3a478615c6533066fdf3f02c2a214c2f", func := "wardship/wardshiplaw18.SweepPlans", spec := "sweepPlans", unfollowed := true, recurses := true, apart := false }
def SweepPlansSaid : Prop := sweepPlansRow.holds Try.pinned (OpenSpec.ofChange sweepPlansSpec)

/-- ITS FALSE NEIGHBOUR: 'it returns false'. Refute it at one input. -/
def sweepPlansWrong : ChangeSpec := { name := "sweepPlans", fn := fun _ => fun
  | [d1, d2, d3] => { results := [.lit (.bool false)], args := [d1, d2, d3] }
  | _ => none }
def SweepPlansWrongFalsely : Prop := sweepPlansRow.holds Try.pinned (OpenSpec.ofChange sweepPlansWrong)

/- THE SECOND FORM. 'bulk': how many values and letters a reading holds, each counted each time it is reached (what is shared counts as often as it is met; a slice's spare places count too). A statement '..UptoSaid' is the law's where the arguments, and the package variables that the reading takes, are together of bulk at most 1048576: NARROWER than '..Said'. Prove '..Said' where nothing that the law and all that it calls make is longer than what came in: it says more and counts as full. Else prove '..UptoSaid'. A law counts once. -/
mutual
def uptoBulk {H : Type} : DataW H → Nat
  | .lit (.string bytes) => bytes.length + 1
  | .lit _ => 1
  | .nil => 1
  | .ptr d => uptoBulk d + 1
  | .slice elems spare => uptoBulkAll elems + uptoBulkAll spare + 1
  | .agg parts => uptoBulkAll parts + 1
  | .iface _ d => uptoBulk d + 1
  | .map entries => uptoBulkEntries entries + 1
  | .held _ => 1
def uptoBulkAll {H : Type} : List (DataW H) → Nat
  | [] => 0
  | d :: r => uptoBulk d + uptoBulkAll r
def uptoBulkEntries {H : Type} : List (Lit × DataW H) → Nat
  | [] => 0
  | x :: r => uptoBulkEntry x + uptoBulkEntries r
def uptoBulkEntry {H : Type} : Lit × DataW H → Nat
  | (.string bytes, d) => bytes.length + uptoBulk d + 1
  | (_, d) => uptoBulk d + 1
 end
def uptoSmall : (H : Type) → List (DataW H) → Bool := fun _ ds => decide (uptoBulkAll ds ≤ 1048576)
def OpenSpec.upto (s : _root_.Go.ChangeSpec) : _root_.Go.OpenSpec := { _root_.Go.OpenSpec.ofChange s with cond := some uptoSmall }

/-- 'wardshiplaw18.SweepCollects', WHERE WHAT IT READS IS OF BULK AT MOST 1048576: true; the input reads as it did. -/
def sweepCollectsUptoRow : OpenClaim := { program := "ytfbdjicfkcklfaa", sum := "c9b7cac529dda56e1aa3d62b16300c1c3a478615c6533066fdf3f02c2a214c2f", func := "wardship/wardshiplaw18.SweepCollects", spec := "sweepCollects", unfollowed := true, recurses := true, apart := false, narrowed := true }
def SweepCollectsUptoSaid : Prop := sweepCollectsUptoRow.holds Try.pinned (OpenSpec.upto sweepCollectsSpec)

/-- 'wardshiplaw18.SweepAll', WHERE WHAT IT READS IS OF BULK AT MOST 1048576: true; the input reads as it did. -/
def sweepAllUptoRow : OpenClaim := { program := "ytfbdjicfkcklfaa", sum := "c9b7cac529dda56e1aa3d62b16300c1c3a478615c6533066fdf3f02c2a214c2f", func := "wardship/wardshiplaw18.SweepAll", spec := "sweepAll", unfollowed := true, recurses := true, apart := false, narrowed := true }
def SweepAllUptoSaid : Prop := sweepAllUptoRow.holds Try.pinned (OpenSpec.upto sweepAllSpec)

/-- 'wardshiplaw18.SweepSteps', WHERE WHAT IT READS IS OF BULK AT MOST 1048576: true; the input reads as it did. -/
def sweepStepsUptoRow : OpenClaim := { program := "ytfbdjicfkcklfaa", sum := "c9b7cac529dda56e1aa3d62b16300c1c3a478615c6533066fdf3f02c2a214c2f", func := "wardship/wardshiplaw18.SweepSteps", spec := "sweepSteps", unfollowed := true, recurses := true, apart := false, narrowed := true }
def SweepStepsUptoSaid : Prop := sweepStepsUptoRow.holds Try.pinned (OpenSpec.upto sweepStepsSpec)

/-- 'wardshiplaw18.SweepLeaves', WHERE WHAT IT READS IS OF BULK AT MOST 1048576: true; the input reads as it did. -/
def sweepLeavesUptoRow : OpenClaim := { program := "ytfbdjicfkcklfaa", sum := "c9b7cac529dda56e1aa3d62b16300c1c3a478615c6533066fdf3f02c2a214c2f", func := "wardship/wardshiplaw18.SweepLeaves", spec := "sweepLeaves", unfollowed := true, recurses := true, apart := false, narrowed := true }
def SweepLeavesUptoSaid : Prop := sweepLeavesUptoRow.holds Try.pinned (OpenSpec.upto sweepLeavesSpec)

/-- 'wardshiplaw18.SweepPlans', WHERE WHAT IT READS IS OF BULK AT MOST 1048576: true; the input reads as it did. -/
def sweepPlansUptoRow : OpenClaim := { program := "ytfbdjicfkcklfaa", sum := "c9b7cac529dda56e1aa3d62b16300c1c3a478615c6533066fdf3f02c2a214c2f", func := "wardship/wardshiplaw18.SweepPlans", spec := "sweepPlans", unfollowed := true, recurses := true, apart := false, narrowed := true }
def SweepPlansUptoSaid : Prop := sweepPlansUptoRow.holds Try.pinned (OpenSpec.upto sweepPlansSpec)

end Rows
end Go.Proofs.Ytfbdjicfkcklfaa
