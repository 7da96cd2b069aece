/-
  No cell of these rows narrows 'for every input' (looked for: loops, veiled, ifaces, maps, wideKeys, modest, calm, conditions, laid).
  DERIVED. THE GIVEN ROWS OF THIS SEAT. 4 by the template 'for every input the law returns true; each argument reads behind the call as it read before'; 0 by the template 'total and deterministic' (their statements: YtpocodnhddgpgaaTotals.lean).
  GIVEN WITH THE SEED: the statements are not yours to turn. If you find one false, say at which input.
  Laid BY PROGRAM, IN A SANDBOX (cutbox-rows.mjs): the forced cells as the released guide's own fill.sh prints them over the translation 22f610f53fb7c8a3… (all of the seat's roots in one cut). By AI agents, Wed Nov 11 2026. No macro, syntax, notation, axiom, sorry.
-/
import Derived.Test.YtpocodnhddgpgaaChecked
import GoSem.Claim
import GoSem.ClaimJoined
import GoSem.ClaimMapViews
import Derived.JoinedTies
import Derived.KernelRfl
namespace Go.Proofs.Ytpocodnhddgpgaa
/- THE CELL 'sum', in the pinned program and in every row, IS THE sha256 OF THE DUMP (.gsa) THAT YtpocodnhddgpgaaProg.lean LOADS. Nothing in Lean hashes anything: it is a label: what it is worth is what the hold of that sum in a sandbox is worth. -/
noncomputable def Try.pinned : Pinned := { name := "ytpocodnhddgpgaa", sum := "22f610f53fb7c8a39706c8cd019992e6c12ffd039c0957e76263c12b250d557f", checked := Try.checked }
namespace Rows
def none {H : Type} : Left H := { results := [], args := [] }

/-- 'cordonlaw4.ClockRuns': WHATEVER THE INPUT: true; the input reads as it did. -/
def clockRunsSpec : ChangeSpec := { name := "clockRuns", fn := fun _ => fun
  | [] => { results := [.lit (.bool true)], args := [] }
  | _ => none }
def clockRunsRow : OpenClaim := { program := "ytpocodnhddgpgaa", sum := "22f610f53fb7c8a39706c8cd019992e6c12ffd039c0957e76263c12b250d557f", func := "cordon/cordonlaw4.ClockRuns", spec := "clockRuns", apart := false }
def ClockRunsSaid : Prop := clockRunsRow.holds Try.pinned (OpenSpec.ofChange clockRunsSpec)

/-- ITS FALSE NEIGHBOUR: 'it returns false'. Refute it at one input. -/
def clockRunsWrong : ChangeSpec := { name := "clockRuns", fn := fun _ => fun
  | [] => { results := [.lit (.bool false)], args := [] }
  | _ => none }
def ClockRunsWrongFalsely : Prop := clockRunsRow.holds Try.pinned (OpenSpec.ofChange clockRunsWrong)

/-- 'cordonlaw4.ClockPlays': WHATEVER THE INPUT: true; the input reads as it did. -/
def clockPlaysSpec : ChangeSpec := { name := "clockPlays", fn := fun _ => fun
  | [d] => { results := [.lit (.bool true)], args := [d] }
  | _ => none }
def clockPlaysRow : OpenClaim := { program := "ytpocodnhddgpgaa", sum := "22f610f53fb7c8a39706c8cd019992e6c12ffd039c0957e76263c12b250d557f", func := "cordon/cordonlaw4.ClockPlays", spec := "clockPlays", apart := false }
def ClockPlaysSaid : Prop := clockPlaysRow.holds Try.pinned (OpenSpec.ofChange clockPlaysSpec)

/-- ITS FALSE NEIGHBOUR: 'it returns false'. Refute it at one input. -/
def clockPlaysWrong : ChangeSpec := { name := "clockPlays", fn := fun _ => fun
  | [d] => { results := [.lit (.bool false)], args := [d] }
  | _ => none }
def ClockPlaysWrongFalsely : Prop := clockPlaysRow.holds Try.pinned (OpenSpec.ofChange clockPlaysWrong)

/-- 'cordonlaw4.ClockRise': WHATEVER THE INPUT: true; the input reads as it did. -/
def clockRiseSpec : ChangeSpec := { name := "clockRise", fn := fun _ => fun
  | [d1, d2, d3] => { results := [.lit (.bool true)], args := [d1, d2, d3] }
  | _ => none }
def clockRiseRow : OpenClaim := { program := "ytpocodnhddgpgaa", sum := "22f610f53fb7c8a39706c8cd019992e6c12ffd039c0957e76263c12b250d557f", func := "cordon/cordonlaw4.ClockRise", spec := "clockRise", apart := false }
def ClockRiseSaid : Prop := clockRiseRow.holds Try.pinned (OpenSpec.ofChange clockRiseSpec)

/-- ITS FALSE NEIGHBOUR: 'it returns false'. Refute it at one input. -/
def clockRiseWrong : ChangeSpec := { name := "clockRise", fn := fun _ => fun
  | [d1, d2, d3] => { results := [.lit (.bool false)], args := [d1, d2, d3] }
  | _ => none }
def ClockRiseWrongFalsely : Prop := clockRiseRow.holds Try.pinned (OpenSpec.ofChange clockRiseWrong)

/-- 'cordonlaw4.ClockFirst': WHATEVER THE INPUT: true; the input reads as it did. -/
def clockFirstSpec : ChangeSpec := { name := "clockFirst", fn := fun _ => fun
  | [d1, d2] => { results := [.lit (.bool true)], args := [d1, d2] }
  | _ => none }
def clockFirstRow : OpenClaim := { program := "ytpocodnhddgpgaa", sum := "22f610f53fb7c8a39706c8cd019992e6c12ffd039c0957e76263c12b250d557f", func := "cordon/cordonlaw4.ClockFirst", spec := "clockFirst", apart := false }
def ClockFirstSaid : Prop := clockFirstRow.holds Try.pinned (OpenSpec.ofChange clockFirstSpec)

/-- ITS FALSE NEIGHBOUR: 'it returns false'. Refute it at one input. -/
def clockFirstWrong : ChangeSpec := { name := "clockFirst", fn := fun _ => fun
  | [d1, d2] => { results := [.lit (.bool false)], args := [d1, d2] }
  | _ => none }
def ClockFirstWrongFalsely : Prop := clockFirstRow.holds Try.pinned (OpenSpec.ofChange clockFirstWrong)

/- THE SECOND FORM. 'bulk': how many values and letters a reading holds, each counted each time it is reached (what is shared counts as often as it is met; a slice's spare places count too). A statement '..UptoSaid' is the law's where the arguments, and the package variables that the reading takes, are together of bulk at most 1048576: NARROWER than '..Said'. Prove '..Said' where nothing that the law and all that it calls make is longer than what came in: it says more and counts as full. Else prove '..UptoSaid'. A law counts once. -/
mutual
def uptoBulk {H : Type} : DataW H → Nat
  | .lit (.string bytes) => bytes.length + 1
  | .lit _ => 1
  | .nil => 1
  | .ptr d => uptoBulk d + 1
  | .slice elems spare => uptoBulkAll elems + uptoBulkAll spare + 1
  | .agg parts => uptoBulkAll parts + 1
  | .iface _ d => uptoBulk d + 1
  | .map entries => uptoBulkEntries entries + 1
  | .held _ => 1
def uptoBulkAll {H : Type} : List (DataW H) → Nat
  | [] => 0
  | d :: r => uptoBulk d + uptoBulkAll r
def uptoBulkEntries {H : Type} : List (Lit × DataW H) → Nat
  | [] => 0
  | x :: r => uptoBulkEntry x + uptoBulkEntries r
def uptoBulkEntry {H : Type} : Lit × DataW H → Nat
  | (.string bytes, d) => bytes.length + uptoBulk d + 1
  | (_, d) => uptoBulk d + 1
 end
def uptoSmall : (H : Type) → List (DataW H) → Bool := fun _ ds => decide (uptoBulkAll ds ≤ 1048576)
def OpenSpec.upto (s : _root_.Go.ChangeSpec) : _root_.Go.OpenSpec := { _root_.Go.OpenSpec.ofChange s with cond := some uptoSmall }

/-- 'cordonlaw4.ClockRuns', WHERE WHAT IT READS IS OF BULK AT MOST 1048576: true; the input reads as it did. -/
def clockRunsUptoRow : OpenClaim := { program := "ytpocodnhddgpgaa", sum := "22f610f53fb7c8a39706c8cd019992e6c12ffd039c0957e76263c12b250d557f", func := "cordon/cordonlaw4.ClockRuns", spec := "clockRuns", apart := false, narrowed := true }
def ClockRunsUptoSaid : Prop := clockRunsUptoRow.holds Try.pinned (OpenSpec.upto clockRunsSpec)

/-- 'cordonlaw4.ClockPlays', WHERE WHAT IT READS IS OF BULK AT MOST 1048576: true; the input reads as it did. -/
def clockPlaysUptoRow : OpenClaim := { program := "ytpocodnhddgpgaa", sum := "22f610f53fb7c8a39706c8cd019992e6c12ffd039c0957e76263c12b250d557f", func := "cordon/cordonlaw4.ClockPlays", spec := "clockPlays", apart := false, narrowed := true }
def ClockPlaysUptoSaid : Prop := clockPlaysUptoRow.holds Try.pinned (OpenSpec.upto clockPlaysSpec)

/-- 'cordonlaw4.ClockRise', WHERE WHAT IT READS IS OF BULK AT MOST 1048576: true; the input reads as it did. -/
def clockRiseUptoRow : OpenClaim := { program := "ytpocodnhddgpgaa", sum := "22f610f53fb7c8a39706c8cd019992e6c12ffd039c0957e76263c12b250d557f", func := "cordon/cordonlaw4.ClockRise", spec := "clockRise", apart := false, narrowed := true }
def ClockRiseUptoSaid : Prop := clockRiseUptoRow.holds Try.pinned (OpenSpec.upto clockRiseSpec)

/-- 'cordonlaw4.ClockFirst', WHERE WHAT IT READS IS OF BULK AT MOST 1048576: true; the input reads as it did. -/
def clockFirstUptoRow : OpenClaim := { program := "ytpocodnhddgpgaa", sum := "22f610f53fb7c8a39706c8cd019992e6c12ffd039c0957e76263c12b250d557f", func := "cordon/cordonlaw4.ClockFirst", spec := "clockFirst", apart := false, narrowed := true }
def ClockFirstUptoSaid : Prop := clockFirstUptoRow.holds Try.pinned (OpenSpec.upto clockFirstSpec)

end Rows
end Go.Proofs.Ytpocodnhddgpgaa
