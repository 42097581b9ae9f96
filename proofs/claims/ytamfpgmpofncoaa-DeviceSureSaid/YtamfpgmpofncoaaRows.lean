/-
  No cell of these rows narrows 'for every input' (looked for: loops, veiled, ifaces, maps, wideKeys, modest, calm, conditions, laid).
  DERIVED. THE GIVEN ROWS OF THIS SEAT. 6 by the template 'for every input the law returns true; each argument reads behind the call as it read before'; 0 by the template 'total and deterministic' (their statements: YtamfpgmpofncoaaTotals.lean).
  GIVEN WITH THE SEED: the statements are not yours to turn. If you find one false, say at which input.
  Laid BY PROGRAM, IN A SANDBOX (cutbox-rows.mjs): the forced cells as the released guide's own fill.sh prints them over the translation a0c3e9ec6b527b2e… (all of the seat's roots in one cut). By AI agents, Wed Nov 11 2026. No macro, syntax, notation, axiom, sorry.
-/
import Derived.Test.YtamfpgmpofncoaaChecked
import GoSem.Claim
import GoSem.ClaimJoined
import GoSem.ClaimMapViews
import Derived.JoinedTies
import Derived.KernelRfl
namespace Go.Proofs.Ytamfpgmpofncoaa
/- THE CELL 'sum', in the pinned program and in every row, IS THE sha256 OF THE DUMP (.gsa) THAT YtamfpgmpofncoaaProg.lean LOADS. Nothing in Lean hashes anything: it is a label: what it is worth is what the hold of that sum in a sandbox is worth. -/
noncomputable def Try.pinned : Pinned := { name := "ytamfpgmpofncoaa", sum := "a0c3e9ec6b527b2e5cdb178972d205780fb4de22aed66913967ab64f12cb3c5c", checked := Try.checked }
namespace Rows
def none {H : Type} : Left H := { results := [], args := [] }

/-- 'wardshiplaw03.DeviceSure': WHATEVER THE INPUT: true; the input reads as it did. -/
def deviceSureSpec : ChangeSpec := { name := "deviceSure", fn := fun _ => fun
  | [d1, d2, d3] => { results := [.lit (.bool true)], args := [d1, d2, d3] }
  | _ => none }
def deviceSureRow : OpenClaim := { program := "ytamfpgmpofncoaa", sum := "a0c3e9ec6b527b2e5cdb178972d205780fb4de22aed66913967ab64f12cb3c5c", func := "wardship/wardshiplaw03.DeviceSure", spec := "deviceSure", apart := false }
def DeviceSureSaid : Prop := deviceSureRow.holds Try.pinned (OpenSpec.ofChange deviceSureSpec)

/-- ITS FALSE NEIGHBOUR: 'it returns false'. Refute it at one input. -/
def deviceSureWrong : ChangeSpec := { name := "deviceSure", fn := fun _ => fun
  | [d1, d2, d3] => { results := [.lit (.bool false)], args := [d1, d2, d3] }
  | _ => none }
def DeviceSureWrongFalsely : Prop := deviceSureRow.holds Try.pinned (OpenSpec.ofChange deviceSureWrong)

/-- 'wardshiplaw03.DeviceAll': WHATEVER THE INPUT: true; the input reads as it did. -/
def deviceAllSpec : ChangeSpec := { name := "deviceAll", fn := fun _ => fun
  | [d1, d2] => { results := [.lit (.bool true)], args := [d1, d2] }
  | _ => none }
def deviceAllRow : OpenClaim := { program := "ytamfpgmpofncoaa", sum := "a0c3e9ec6b527b2e5cdb178972d205780fb4de22aed66913967ab64f12cb3c5c", func := "wardship/wardshiplaw03.DeviceAll", spec := "deviceAll", apart := false }
def DeviceAllSaid : Prop := deviceAllRow.holds Try.pinned (OpenSpec.ofChange deviceAllSpec)

/-- ITS FALSE NEIGHBOUR: 'it returns false'. Refute it at one input. -/
def deviceAllWrong : ChangeSpec := { name := "deviceAll", fn := fun _ => fun
  | [d1, d2] => { results := [.lit (.bool false)], args := [d1, d2] }
  | _ => none }
def DeviceAllWrongFalsely : Prop := deviceAllRow.holds Try.pinned (OpenSpec.ofChange deviceAllWrong)

/-- 'wardshiplaw03.DeviceLast': WHATEVER THE INPUT: true; the input reads as it did. -/
def deviceLastSpec : ChangeSpec := { name := "deviceLast", fn := fun _ => fun
  | [d1, d2] => { results := [.lit (.bool true)], args := [d1, d2] }
  | _ => none }
def deviceLastRow : OpenClaim := { program := "ytamfpgmpofncoaa", sum := "a0c3e9ec6b527b2e5cdb178972d205780fb4de22aed66913967ab64f12cb3c5c", func := "wardship/wardshiplaw03.DeviceLast", spec := "deviceLast", apart := false }
def DeviceLastSaid : Prop := deviceLastRow.holds Try.pinned (OpenSpec.ofChange deviceLastSpec)

/-- ITS FALSE NEIGHBOUR: 'it returns false'. Refute it at one input. -/
def deviceLastWrong : ChangeSpec := { name := "deviceLast", fn := fun _ => fun
  | [d1, d2] => { results := [.lit (.bool false)], args := [d1, d2] }
  | _ => none }
def DeviceLastWrongFalsely : Prop := deviceLastRow.holds Try.pinned (OpenSpec.ofChange deviceLastWrong)

/-- 'wardshiplaw03.DeviceCuts': WHATEVER THE INPUT: true; the input reads as it did. -/
def deviceCutsSpec : ChangeSpec := { name := "deviceCuts", fn := fun _ => fun
  | [d1, d2, d3] => { results := [.lit (.bool true)], args := [d1, d2, d3] }
  | _ => none }
def deviceCutsRow : OpenClaim := { program := "ytamfpgmpofncoaa", sum := "a0c3e9ec6b527b2e5cdb178972d205780fb4de22aed66913967ab64f12cb3c5c", func := "wardship/wardshiplaw03.DeviceCuts", spec := "deviceCuts", apart := false }
def DeviceCutsSaid : Prop := deviceCutsRow.holds Try.pinned (OpenSpec.ofChange deviceCutsSpec)

/-- ITS FALSE NEIGHBOUR: 'it returns false'. Refute it at one input. -/
def deviceCutsWrong : ChangeSpec := { name := "deviceCuts", fn := fun _ => fun
  | [d1, d2, d3] => { results := [.lit (.bool false)], args := [d1, d2, d3] }
  | _ => none }
def DeviceCutsWrongFalsely : Prop := deviceCutsRow.holds Try.pinned (OpenSpec.ofChange deviceCutsWrong)

/-- 'wardshiplaw03.DevicePlays': WHATEVER THE INPUT: true; the input reads as it did. -/
def devicePlaysSpec : ChangeSpec := { name := "devicePlays", fn := fun _ => fun
  | [d1, d2] => { results := [.lit (.bool true)], args := [d1, d2] }
  | _ => none }
def devicePlaysRow : OpenClaim := { program := "ytamfpgmpofncoaa", sum := "a0c3e9ec6b527b2e5cdb178972d205780fb4de22aed66913967ab64f12cb3c5c", func := "wardship/wardshiplaw03.DevicePlays", spec := "devicePlays", apart := false }
def DevicePlaysSaid : Prop := devicePlaysRow.holds Try.pinned (OpenSpec.ofChange devicePlaysSpec)

/-- ITS FALSE NEIGHBOUR: 'it returns false'. Refute it at one input. -/
def devicePlaysWrong : ChangeSpec := { name := "devicePlays", fn := fun _ => fun
  | [d1, d2] => { results := [.lit (.bool false)], args := [d1, d2] }
  | _ => none }
def DevicePlaysWrongFalsely : Prop := devicePlaysRow.holds Try.pinned (OpenSpec.ofChange devicePlaysWrong)

/-- 'wardshiplaw03.DeviceArgs': WHATEVER THE INPUT: true; the input reads as it did. -/
def deviceArgsSpec : ChangeSpec := { name := "deviceArgs", fn := fun _ => fun
  | [d1, d2] => { results := [.lit (.bool true)], args := [d1, d2] }
  | _ => none }
def deviceArgsRow : OpenClaim := { program := "ytamfpgmpofncoaa", sum := "a0c3e9ec6b527b2e5cdb178972d205780fb4de22aed66913967ab64f12cb3c5c", func := "wardship/wardshiplaw03.DeviceArgs", spec := "deviceArgs", apart := false }
def DeviceArgsSaid : Prop := deviceArgsRow.holds Try.pinned (OpenSpec.ofChange deviceArgsSpec)

/-- ITS FALSE NEIGHBOUR: 'it returns false'. Refute it at one input. -/
def deviceArgsWrong : ChangeSpec := { name := "deviceArgs", fn := fun _ => fun
  | [d1, d2] => { results := [.lit (.bool false)], args := [d1, d2] }
  | _ => none }
def DeviceArgsWrongFalsely : Prop := deviceArgsRow.holds Try.pinned (OpenSpec.ofChange deviceArgsWrong)

/- THE SECOND FORM. 'bulk': how many values and letters a reading holds, each counted each time it is reached (what is shared counts as often as it is met; a slice's spare places count too). A statement '..UptoSaid' is the law's where the arguments, and the package variables that the reading takes, are together of bulk at most 1048576: NARROWER than '..Said'. Prove '..Said' where nothing that the law and all that it calls make is longer than what came in: it says more and counts as full. Else prove '..UptoSaid'. A law counts once. -/
mutual
def uptoBulk {H : Type} : DataW H → Nat
  | .lit (.string bytes) => bytes.length + 1
  | .lit _ => 1
  | .nil => 1
  | .ptr d => uptoBulk d + 1
  | .slice elems spare => uptoBulkAll elems + uptoBulkAll spare + 1
  | .agg parts => uptoBulkAll parts + 1
  | .iface _ d => uptoBulk d + 1
  | .map entries => uptoBulkEntries entries + 1
  | .held _ => 1
def uptoBulkAll {H : Type} : List (DataW H) → Nat
  | [] => 0
  | d :: r => uptoBulk d + uptoBulkAll r
def uptoBulkEntries {H : Type} : List (Lit × DataW H) → Nat
  | [] => 0
  | x :: r => uptoBulkEntry x + uptoBulkEntries r
def uptoBulkEntry {H : Type} : Lit × DataW H → Nat
  | (.string bytes, d) => bytes.length + uptoBulk d + 1
  | (_, d) => uptoBulk d + 1
 end
def uptoSmall : (H : Type) → List (DataW H) → Bool := fun _ ds => decide (uptoBulkAll ds ≤ 1048576)
def OpenSpec.upto (s : _root_.Go.ChangeSpec) : _root_.Go.OpenSpec := { _root_.Go.OpenSpec.ofChange s with cond := some uptoSmall }

/-- 'wardshiplaw03.DeviceSure', WHERE WHAT IT READS IS OF BULK AT MOST 1048576: true; the input reads as it did. -/
def deviceSureUptoRow : OpenClaim := { program := "ytamfpgmpofncoaa", sum := "a0c3e9ec6b527b2e5cdb178972d205780fb4de22aed66913967ab64f12cb3c5c", func := "wardship/wardshiplaw03.DeviceSure", spec := "deviceSure", apart := false, narrowed := true }
def DeviceSureUptoSaid : Prop := deviceSureUptoRow.holds Try.pinned (OpenSpec.upto deviceSureSpec)

/-- 'wardshiplaw03.DeviceAll', WHERE WHAT IT READS IS OF BULK AT MOST 1048576: true; the input reads as it did. -/
def deviceAllUptoRow : OpenClaim := { program := "ytamfpgmpofncoaa", sum := "a0c3e9ec6b527b2e5cdb178972d205780fb4de22aed66913967ab64f12cb3c5c", func := "wardship/wardshiplaw03.DeviceAll", spec := "deviceAll", apart := false, narrowed := true }
def DeviceAllUptoSaid : Prop := deviceAllUptoRow.holds Try.pinned (OpenSpec.upto deviceAllSpec)

/-- 'wardshiplaw03.DeviceLast', WHERE WHAT IT READS IS OF BULK AT MOST 1048576: true; the input reads as it did. -/
def deviceLastUptoRow : OpenClaim := { program := "ytamfpgmpofncoaa", sum := "a0c3e9ec6b527b2e5cdb178972d205780fb4de22aed66913967ab64f12cb3c5c", func := "wardship/wardshiplaw03.DeviceLast", spec := "deviceLast", apart := false, narrowed := true }
def DeviceLastUptoSaid : Prop := deviceLastUptoRow.holds Try.pinned (OpenSpec.upto deviceLastSpec)

/-- 'wardshiplaw03.DeviceCuts', WHERE WHAT IT READS IS OF BULK AT MOST 1048576: true; the input reads as it did. -/
def deviceCutsUptoRow : OpenClaim := { program := "ytamfpgmpofncoaa", sum := "a0c3e9ec6b527b2e5cdb178972d205780fb4de22aed66913967ab64f12cb3c5c", func := "wardship/wardshiplaw03.DeviceCuts", spec := "deviceCuts", apart := false, narrowed := true }
def DeviceCutsUptoSaid : Prop := deviceCutsUptoRow.holds Try.pinned (OpenSpec.upto deviceCutsSpec)

/-- 'wardshiplaw03.DevicePlays', WHERE WHAT IT READS IS OF BULK AT MOST 1048576: true; the input reads as it did. -/
def devicePlaysUptoRow : OpenClaim := { program := "ytamfpgmpofncoaa", sum := "a0c3e9ec6b527b2e5cdb178972d205780fb4de22aed66913967ab64f12cb3c5c", func := "wardship/wardshiplaw03.DevicePlays", spec := "devicePlays", apart := false, narrowed := true }
def DevicePlaysUptoSaid : Prop := devicePlaysUptoRow.holds Try.pinned (OpenSpec.upto devicePlaysSpec)

/-- 'wardshiplaw03.DeviceArgs', WHERE WHAT IT READS IS OF BULK AT MOST 1048576: true; the input reads as it did. -/
def deviceArgsUptoRow : OpenClaim := { program := "ytamfpgmpofncoaa", sum := "a0c3e9ec6b527b2e5cdb178972d205780fb4de22aed66913967ab64f12cb3c5c", func := "wardship/wardshiplaw03.DeviceArgs", spec := "deviceArgs", apart := false, narrowed := true }
def DeviceArgsUptoSaid : Prop := deviceArgsUptoRow.holds Try.pinned (OpenSpec.upto deviceArgsSpec)

end Rows
end Go.Proofs.Ytamfpgmpofncoaa
