/-
  No cell of these rows narrows 'for every input' (looked for: loops, veiled, ifaces, maps, wideKeys, modest, calm, conditions, laid).
  DERIVED. THE GIVEN ROWS OF THIS SEAT. 5 by the template 'for every input the law returns true; each argument reads behind the call as it read before'; 0 by the template 'total and deterministic' (their statements: YtemmekpmoigdeaaTotals.lean).
  GIVEN WITH THE SEED: the statements are not yours to turn. If you find one false, say at which input.
  Laid BY PROGRAM, IN A SANDBOX (cutbox-rows.mjs): the forced cells as the released guide's own fill.sh prints them over the translation 0c69e69b9d142d3c… (all of the seat's roots in one cut). By AI agents, Wed Nov 11 2026. No macro, syntax, notation, axiom, sorry.
-/
import Derived.Test.YtemmekpmoigdeaaChecked
import GoSem.Claim
import GoSem.ClaimJoined
import GoSem.ClaimMapViews
import Derived.JoinedTies
import Derived.KernelRfl
namespace Go.Proofs.Ytemmekpmoigdeaa
/- THE CELL 'sum', in the pinned program and in every row, IS THE sha256 OF THE DUMP (.gsa) THAT YtemmekpmoigdeaaProg.lean LOADS. Nothing in Lean hashes anything: it is a label: what it is worth is what the hold of that sum in a sandbox is worth. -/
noncomputable def Try.pinned : Pinned := { name := "ytemmekpmoigdeaa", sum := "0c69e69b9d142d3ce66ece53ffab5c209976ae83a76746ab8986f706c2d76b40", checked := Try.checked }
namespace Rows
def none {H : Type} : Left H := { results := [], args := [] }

/-- 'cordonlaw20.ProjectRuns': WHATEVER THE INPUT: true; the input reads as it did. -/
def projectRunsSpec : ChangeSpec := { name := "projectRuns", fn := fun _ => fun
  | [] => { results := [.lit (.bool true)], args := [] }
  | _ => none }
def projectRunsRow : OpenClaim := { program := "ytemmekpmoigdeaa", sum := "0c69e69b9d142d3ce66ece53ffab5c209976ae83a76746ab8986f706c2d76b40", func := "cordon/cordonlaw20.ProjectRuns", spec := "projectRuns", unfollowed := true, recurses := true, apart := false }
def ProjectRunsSaid : Prop := projectRunsRow.holds Try.pinned (OpenSpec.ofChange projectRunsSpec)

/-- ITS FALSE NEIGHBOUR: 'it returns false'. Refute it at one input. -/
def projectRunsWrong : ChangeSpec := { name := "projectRuns", fn := fun _ => fun
  | [] => { results := [.lit (.bool false)], args := [] }
  | _ => none }
def ProjectRunsWrongFalsely : Prop := projectRunsRow.holds Try.pinned (OpenSpec.ofChange projectRunsWrong)

/-- 'cordonlaw20.ProjectLow': WHATEVER THE INPUT: true; the input reads as it did. -/
def projectLowSpec : ChangeSpec := { name := "projectLow", fn := fun _ => fun
  | [d1, d2, d3, d4, d5] => { results := [.lit (.bool true)], args := [d1, d2, d3, d4, d5] }
  | _ => none }
def projectLowRow : OpenClaim := { program := "ytemmekpmoigdeaa", sum := "0c69e69b9d142d3ce66ece53ffab5c209976ae83a76746ab8986f706c2d76b40", func := "cordon/cordonlaw20.ProjectLow", spec := "projectLow", unfollowed := true, recurses := true, apart := false }
def ProjectLowSaid : Prop := projectLowRow.holds Try.pinned (OpenSpec.ofChange projectLowSpec)

/-- ITS FALSE NEIGHBOUR: 'it returns false'. Refute it at one input. -/
def projectLowWrong : ChangeSpec := { name := "projectLow", fn := fun _ => fun
  | [d1, d2, d3, d4, d5] => { results := [.lit (.bool false)], args := [d1, d2, d3, d4, d5] }
  | _ => none }
def ProjectLowWrongFalsely : Prop := projectLowRow.holds Try.pinned (OpenSpec.ofChange projectLowWrong)

/-- 'cordonlaw20.ProjectSame': WHATEVER THE INPUT: true; the input reads as it did. -/
def projectSameSpec : ChangeSpec := { name := "projectSame", fn := fun _ => fun
  | [d1, d2, d3, d4, d5, d6] => { results := [.lit (.bool true)], args := [d1, d2, d3, d4, d5, d6] }
  | _ => none }
def projectSameRow : OpenClaim := { program := "ytemmekpmoigdeaa", sum := "0c69e69b9d142d3ce66ece53ffab5c209976ae83a76746ab8986f706c2d76b40", func := "cordon/cordonlaw20.ProjectSame", spec := "projectSame", unfollowed := true, recurses := true, apart := false }
def ProjectSameSaid : Prop := projectSameRow.holds Try.pinned (OpenSpec.ofChange projectSameSpec)

/-- ITS FALSE NEIGHBOUR: 'it returns false'. Refute it at one input. -/
def projectSameWrong : ChangeSpec := { name := "projectSame", fn := fun _ => fun
  | [d1, d2, d3, d4, d5, d6] => { results := [.lit (.bool false)], args := [d1, d2, d3, d4, d5, d6] }
  | _ => none }
def ProjectSameWrongFalsely : Prop := projectSameRow.holds Try.pinned (OpenSpec.ofChange projectSameWrong)

/-- 'cordonlaw20.ProjectTells': WHATEVER THE INPUT: true; the input reads as it did. -/
def projectTellsSpec : ChangeSpec := { name := "projectTells", fn := fun _ => fun
  | [d1, d2, d3] => { results := [.lit (.bool true)], args := [d1, d2, d3] }
  | _ => none }
def projectTellsRow : OpenClaim := { program := "ytemmekpmoigdeaa", sum := "0c69e69b9d142d3ce66ece53ffab5c209976ae83a76746ab8986f706c2d76b40", func := "cordon/cordonlaw20.ProjectTells", spec := "projectTells", unfollowed := true, recurses := true, apart := false }
def ProjectTellsSaid : Prop := projectTellsRow.holds Try.pinned (OpenSpec.ofChange projectTellsSpec)

/-- ITS FALSE NEIGHBOUR: 'it returns false'. Refute it at one input. -/
def projectTellsWrong : ChangeSpec := { name := "projectTells", fn := fun _ => fun
  | [d1, d2, d3] => { results := [.lit (.bool false)], args := [d1, d2, d3] }
  | _ => none }
def ProjectTellsWrongFalsely : Prop := projectTellsRow.holds Try.pinned (OpenSpec.ofChange projectTellsWrong)

/-- 'cordonlaw20.ProjectParts': WHATEVER THE INPUT: true; the input reads as it did. -/
def projectPartsSpec : ChangeSpec := { name := "projectParts", fn := fun _ => fun
  | [d1, d2, d3] => { results := [.lit (.bool true)], args := [d1, d2, d3] }
  | _ => none }
def projectPartsRow : OpenClaim := { program := "ytemmekpmoigdeaa", sum := "0c69e69b9d142d3ce66ece53ffab5c209976ae83a76746ab8986f706c2d76b40", func := "cordon/cordonlaw20.ProjectParts", spec := "projectParts", unfollowed := true, recurses := true, apart := false }
def ProjectPartsSaid : Prop := projectPartsRow.holds Try.pinned (OpenSpec.ofChange projectPartsSpec)

/-- ITS FALSE NEIGHBOUR: 'it returns false'. Refute it at one input. -/
def projectPartsWrong : ChangeSpec := { name := "projectParts", fn := fun _ => fun
  | [d1, d2, d3] => { results := [.lit (.bool false)], args := [d1, d2, d3] }
  | _ => none }
def ProjectPartsWrongFalsely : Prop := projectPartsRow.holds Try.pinned (OpenSpec.ofChange projectPartsWrong)

/- THE SECOND FORM. 'bulk': how many values and letters a reading holds, each counted each time it is reached (what is shared counts as often as it is met; a slice's spare places count too). A statement '..UptoSaid' is the law's where the arguments, and the package variables that the reading takes, are together of bulk at most 1048576: NARROWER than '..Said'. Prove '..Said' where nothing that the law and all that it calls make is longer than what came in: it says more and counts as full. Else prove '..UptoSaid'. A law counts once. -/
mutual
def uptoBulk {H : Type} : DataW H → Nat
  | .lit (.string bytes) => bytes.length + 1
  | .lit _ => 1
  | .nil => 1
  | .ptr d => uptoBulk d + 1
  | .slice elems spare => uptoBulkAll elems + uptoBulkAll spare + 1
  | .agg parts => uptoBulkAll parts + 1
  | .iface _ d => uptoBulk d + 1
  | .map entries => uptoBulkEntries entries + 1
  | .held _ => 1
def uptoBulkAll {H : Type} : List (DataW H) → Nat
  | [] => 0
  | d :: r => uptoBulk d + uptoBulkAll r
def uptoBulkEntries {H : Type} : List (Lit × DataW H) → Nat
  | [] => 0
  | x :: r => uptoBulkEntry x + uptoBulkEntries r
def uptoBulkEntry {H : Type} : Lit × DataW H → Nat
  | (.string bytes, d) => bytes.length + uptoBulk d + 1
  | (_, d) => uptoBulk d + 1
 end
def uptoSmall : (H : Type) → List (DataW H) → Bool := fun _ ds => decide (uptoBulkAll ds ≤ 1048576)
def OpenSpec.upto (s : _root_.Go.ChangeSpec) : _root_.Go.OpenSpec := { _root_.Go.OpenSpec.ofChange s with cond := some uptoSmall }

/-- 'cordonlaw20.ProjectRuns', WHERE WHAT IT READS IS OF BULK AT MOST 1048576: true; the input reads as it did. -/
def projectRunsUptoRow : OpenClaim := { program := "ytemmekpmoigdeaa", sum := "0c69e69b9d142d3ce66ece53ffab5c209976ae83a76746ab8986f706c2d76b40", func := "cordon/cordonlaw20.ProjectRuns", spec := "projectRuns", unfollowed := true, recurses := true, apart := false, narrowed := true }
def ProjectRunsUptoSaid : Prop := projectRunsUptoRow.holds Try.pinned (OpenSpec.upto projectRunsSpec)

/-- 'cordonlaw20.ProjectLow', WHERE WHAT IT READS IS OF BULK AT MOST 1048576: true; the input reads as it did. -/
def projectLowUptoRow : OpenClaim := { program := "ytemmekpmoigdeaa", sum := "0c69e69b9d142d3ce66ece53ffab5c209976ae83a76746ab8986f706c2d76b40", func := "cordon/cordonlaw20.ProjectLow", spec := "projectLow", unfollowed := true, recurses := true, apart := false, narrowed := true }
def ProjectLowUptoSaid : Prop := projectLowUptoRow.holds Try.pinned (OpenSpec.upto projectLowSpec)

/-- 'cordonlaw20.ProjectSame', WHERE WHAT IT READS IS OF BULK AT MOST 1048576: true; the input reads as it did. -/
def projectSameUptoRow : OpenClaim := { program := "ytemmekpmoigdeaa", sum := "0c69e69b9d142d3ce66ece53ffab5c209976ae83a76746ab8986f706c2d76b40", func := "cordon/cordonlaw20.ProjectSame", spec := "projectSame", unfollowed := true, recurses := true, apart := false, narrowed := true }
def ProjectSameUptoSaid : Prop := projectSameUptoRow.holds Try.pinned (OpenSpec.upto projectSameSpec)

/-- 'cordonlaw20.ProjectTells', WHERE WHAT IT READS IS OF BULK AT MOST 1048576: true; the input reads as it did. -/
def projectTellsUptoRow : OpenClaim := { program := "ytemmekpmoigdeaa", sum := "0c69e69b9d142d3ce66ece53ffab5c209976ae83a76746ab8986f706c2d76b40", func := "cordon/cordonlaw20.ProjectTells", spec := "projectTells", unfollowed := true, recurses := true, apart := false, narrowed := true }
def ProjectTellsUptoSaid : Prop := projectTellsUptoRow.holds Try.pinned (OpenSpec.upto projectTellsSpec)

/-- 'cordonlaw20.ProjectParts', WHERE WHAT IT READS IS OF BULK AT MOST 1048576: true; the input reads as it did. -/
def projectPartsUptoRow : OpenClaim := { program := "ytemmekpmoigdeaa", sum := "0c69e69b9d142d3ce66ece53ffab5c209976ae83a76746ab8986f706c2d76b40", func := "cordon/cordonlaw20.ProjectParts", spec := "projectParts", unfollowed := true, recurses := true, apart := false, narrowed := true }
def ProjectPartsUptoSaid : Prop := projectPartsUptoRow.holds Try.pinned (OpenSpec.upto projectPartsSpec)

end Rows
end Go.Proofs.Ytemmekpmoigdeaa
