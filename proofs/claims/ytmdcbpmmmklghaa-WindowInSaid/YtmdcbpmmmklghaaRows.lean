/-
  No cell of these rows narrows 'for every input' (looked for: loops, veiled, ifaces, maps, wideKeys, modest, calm, conditions, laid).
  DERIVED. THE GIVEN ROWS OF THIS SEAT. 5 by the template 'for every input the law returns true; each argument reads behind the call as it read before'; 0 by the template 'total and deterministic' (their statements: YtmdcbpmmmklghaaTotals.lean).
  GIVEN WITH THE SEED: the statements are not yours to turn. If you find one false, say at which input.
  Laid BY PROGRAM, IN A SANDBOX (cutbox-rows.mjs): the forced cells as the released guide's own fill.sh prints them over the translation 90a37018754f4cc7… (all of the seat's roots in one cut). By AI agents, Wed Nov 11 2026. No macro, syntax, notation, axiom, sorry.
-/
import Derived.Test.YtmdcbpmmmklghaaChecked
import GoSem.Claim
import GoSem.ClaimJoined
import GoSem.ClaimMapViews
import Derived.JoinedTies
import Derived.KernelRfl
namespace Go.Proofs.Ytmdcbpmmmklghaa
/- THE CELL 'sum', in the pinned program and in every row, IS THE sha256 OF THE DUMP (.gsa) THAT YtmdcbpmmmklghaaProg.lean LOADS. Nothing in Lean hashes anything: it is a label: what it is worth is what the hold of that sum in a sandbox is worth. -/
noncomputable def Try.pinned : Pinned := { name := "ytmdcbpmmmklghaa", sum := "90a37018754f4cc750d67a1406139c62698a419b4bff0a0fa1cf09f65e74a7cb", checked := Try.checked }
namespace Rows
def none {H : Type} : Left H := { results := [], args := [] }

/-- 'cordonlaw6.WindowRuns': WHATEVER THE INPUT: true; the input reads as it did. -/
def windowRunsSpec : ChangeSpec := { name := "windowRuns", fn := fun _ => fun
  | [] => { results := [.lit (.bool true)], args := [] }
  | _ => none }
def windowRunsRow : OpenClaim := { program := "ytmdcbpmmmklghaa", sum := "90a37018754f4cc750d67a1406139c62698a419b4bff0a0fa1cf09f65e74a7cb", func := "cordon/cordonlaw6.WindowRuns", spec := "windowRuns", apart := false }
def WindowRunsSaid : Prop := windowRunsRow.holds Try.pinned (OpenSpec.ofChange windowRunsSpec)

/-- ITS FALSE NEIGHBOUR: 'it returns false'. Refute it at one input. -/
def windowRunsWrong : ChangeSpec := { name := "windowRuns", fn := fun _ => fun
  | [] => { results := [.lit (.bool false)], args := [] }
  | _ => none }
def WindowRunsWrongFalsely : Prop := windowRunsRow.holds Try.pinned (OpenSpec.ofChange windowRunsWrong)

/-- 'cordonlaw6.WindowTells': WHATEVER THE INPUT: true; the input reads as it did. -/
def windowTellsSpec : ChangeSpec := { name := "windowTells", fn := fun _ => fun
  | [d1, d2, d3, d4] => { results := [.lit (.bool true)], args := [d1, d2, d3, d4] }
  | _ => none }
def windowTellsRow : OpenClaim := { program := "ytmdcbpmmmklghaa", sum := "90a37018754f4cc750d67a1406139c62698a419b4bff0a0fa1cf09f65e74a7cb", func := "cordon/cordonlaw6.WindowTells", spec := "windowTells", apart := false }
def WindowTellsSaid : Prop := windowTellsRow.holds Try.pinned (OpenSpec.ofChange windowTellsSpec)

/-- ITS FALSE NEIGHBOUR: 'it returns false'. Refute it at one input. -/
def windowTellsWrong : ChangeSpec := { name := "windowTells", fn := fun _ => fun
  | [d1, d2, d3, d4] => { results := [.lit (.bool false)], args := [d1, d2, d3, d4] }
  | _ => none }
def WindowTellsWrongFalsely : Prop := windowTellsRow.holds Try.pinned (OpenSpec.ofChange windowTellsWrong)

/-- 'cordonlaw6.WindowIn': WHATEVER THE INPUT: true; the input reads as it did. -/
def windowInSpec : ChangeSpec := { name := "windowIn", fn := fun _ => fun
  | [d1, d2, d3, d4] => { results := [.lit (.bool true)], args := [d1, d2, d3, d4] }
  | _ => none }
def windowInRow : OpenClaim := { program := "ytmdcbpmmmklghaa", sum := "90a37018754f4cc750d67a1406139c62698a419b4bff0a0fa1cf09f65e74a7cb", func := "cordon/cordonlaw6.WindowIn", spec := "windowIn", apart := false }
def WindowInSaid : Prop := windowInRow.holds Try.pinned (OpenSpec.ofChange windowInSpec)

/-- ITS FALSE NEIGHBOUR: 'it returns false'. Refute it at one input. -/
def windowInWrong : ChangeSpec := { name := "windowIn", fn := fun _ => fun
  | [d1, d2, d3, d4] => { results := [.lit (.bool false)], args := [d1, d2, d3, d4] }
  | _ => none }
def WindowInWrongFalsely : Prop := windowInRow.holds Try.pinned (OpenSpec.ofChange windowInWrong)

/-- 'cordonlaw6.WindowTumble': WHATEVER THE INPUT: true; the input reads as it did. -/
def windowTumbleSpec : ChangeSpec := { name := "windowTumble", fn := fun _ => fun
  | [d1, d2, d3] => { results := [.lit (.bool true)], args := [d1, d2, d3] }
  | _ => none }
def windowTumbleRow : OpenClaim := { program := "ytmdcbpmmmklghaa", sum := "90a37018754f4cc750d67a1406139c62698a419b4bff0a0fa1cf09f65e74a7cb", func := "cordon/cordonlaw6.WindowTumble", spec := "windowTumble", apart := false }
def WindowTumbleSaid : Prop := windowTumbleRow.holds Try.pinned (OpenSpec.ofChange windowTumbleSpec)

/-- ITS FALSE NEIGHBOUR: 'it returns false'. Refute it at one input. -/
def windowTumbleWrong : ChangeSpec := { name := "windowTumble", fn := fun _ => fun
  | [d1, d2, d3] => { results := [.lit (.bool false)], args := [d1, d2, d3] }
  | _ => none }
def WindowTumbleWrongFalsely : Prop := windowTumbleRow.holds Try.pinned (OpenSpec.ofChange windowTumbleWrong)

/-- 'cordonlaw6.WindowShift': WHATEVER THE INPUT: true; the input reads as it did. -/
def windowShiftSpec : ChangeSpec := { name := "windowShift", fn := fun _ => fun
  | [d1, d2, d3, d4] => { results := [.lit (.bool true)], args := [d1, d2, d3, d4] }
  | _ => none }
def windowShiftRow : OpenClaim := { program := "ytmdcbpmmmklghaa", sum := "90a37018754f4cc750d67a1406139c62698a419b4bff0a0fa1cf09f65e74a7cb", func := "cordon/cordonlaw6.WindowShift", spec := "windowShift", apart := false }
def WindowShiftSaid : Prop := windowShiftRow.holds Try.pinned (OpenSpec.ofChange windowShiftSpec)

/-- ITS FALSE NEIGHBOUR: 'it returns false'. Refute it at one input. -/
def windowShiftWrong : ChangeSpec := { name := "windowShift", fn := fun _ => fun
  | [d1, d2, d3, d4] => { results := [.lit (.bool false)], args := [d1, d2, d3, d4] }
  | _ => none }
def WindowShiftWrongFalsely : Prop := windowShiftRow.holds Try.pinned (OpenSpec.ofChange windowShiftWrong)

/- THE SECOND FORM. 'bulk': how many values and letters a reading holds, each counted each time it is reached (what is shared counts as often as it is met; a slice's spare places count too). A statement '..UptoSaid' is the law's where the arguments, and the package variables that the reading takes, are together of bulk at most 1048576: NARROWER than '..Said'. Prove '..Said' where nothing that the law and all that it calls make is longer than what came in: it says more and counts as full. Else prove '..UptoSaid'. A law counts once. -/
mutual
def uptoBulk {H : Type} : DataW H → Nat
  | .lit (.string bytes) => bytes.length + 1
  | .lit _ => 1
  | .nil => 1
  | .ptr d => uptoBulk d + 1
  | .slice elems spare => uptoBulkAll elems + uptoBulkAll spare + 1
  | .agg parts => uptoBulkAll parts + 1
  | .iface _ d => uptoBulk d + 1
  | .map entries => uptoBulkEntries entries + 1
  | .held _ => 1
def uptoBulkAll {H : Type} : List (DataW H) → Nat
  | [] => 0
  | d :: r => uptoBulk d + uptoBulkAll r
def uptoBulkEntries {H : Type} : List (Lit × DataW H) → Nat
  | [] => 0
  | x :: r => uptoBulkEntry x + uptoBulkEntries r
def uptoBulkEntry {H : Type} : Lit × DataW H → Nat
  | (.string bytes, d) => bytes.length + uptoBulk d + 1
  | (_, d) => uptoBulk d + 1
 end
def uptoSmall : (H : Type) → List (DataW H) → Bool := fun _ ds => decide (uptoBulkAll ds ≤ 1048576)
def OpenSpec.upto (s : _root_.Go.ChangeSpec) : _root_.Go.OpenSpec := { _root_.Go.OpenSpec.ofChange s with cond := some uptoSmall }

/-- 'cordonlaw6.WindowRuns', WHERE WHAT IT READS IS OF BULK AT MOST 1048576: true; the input reads as it did. -/
def windowRunsUptoRow : OpenClaim := { program := "ytmdcbpmmmklghaa", sum := "90a37018754f4cc750d67a1406139c62698a419b4bff0a0fa1cf09f65e74a7cb", func := "cordon/cordonlaw6.WindowRuns", spec := "windowRuns", apart := false, narrowed := true }
def WindowRunsUptoSaid : Prop := windowRunsUptoRow.holds Try.pinned (OpenSpec.upto windowRunsSpec)

/-- 'cordonlaw6.WindowTells', WHERE WHAT IT READS IS OF BULK AT MOST 1048576: true; the input reads as it did. -/
def windowTellsUptoRow : OpenClaim := { program := "ytmdcbpmmmklghaa", sum := "90a37018754f4cc750d67a1406139c62698a419b4bff0a0fa1cf09f65e74a7cb", func := "cordon/cordonlaw6.WindowTells", spec := "windowTells", apart := false, narrowed := true }
def WindowTellsUptoSaid : Prop := windowTellsUptoRow.holds Try.pinned (OpenSpec.upto windowTellsSpec)

/-- 'cordonlaw6.WindowIn', WHERE WHAT IT READS IS OF BULK AT MOST 1048576: true; the input reads as it did. -/
def windowInUptoRow : OpenClaim := { program := "ytmdcbpmmmklghaa", sum := "90a37018754f4cc750d67a1406139c62698a419b4bff0a0fa1cf09f65e74a7cb", func := "cordon/cordonlaw6.WindowIn", spec := "windowIn", apart := false, narrowed := true }
def WindowInUptoSaid : Prop := windowInUptoRow.holds Try.pinned (OpenSpec.upto windowInSpec)

/-- 'cordonlaw6.WindowTumble', WHERE WHAT IT READS IS OF BULK AT MOST 1048576: true; the input reads as it did. -/
def windowTumbleUptoRow : OpenClaim := { program := "ytmdcbpmmmklghaa", sum := "90a37018754f4cc750d67a1406139c62698a419b4bff0a0fa1cf09f65e74a7cb", func := "cordon/cordonlaw6.WindowTumble", spec := "windowTumble", apart := false, narrowed := true }
def WindowTumbleUptoSaid : Prop := windowTumbleUptoRow.holds Try.pinned (OpenSpec.upto windowTumbleSpec)

/-- 'cordonlaw6.WindowShift', WHERE WHAT IT READS IS OF BULK AT MOST 1048576: true; the input reads as it did. -/
def windowShiftUptoRow : OpenClaim := { program := "ytmdcbpmmmklghaa", sum := "90a37018754f4cc750d67a1406139c62698a419b4bff0a0fa1cf09f65e74a7cb", func := "cordon/cordonlaw6.WindowShift", spec := "windowShift", apart := false, narrowed := true }
def WindowShiftUptoSaid : Prop := windowShiftUptoRow.holds Try.pinned (OpenSpec.upto windowShiftSpec)

end Rows
end Go.Proofs.Ytmdcbpmmmklghaa
