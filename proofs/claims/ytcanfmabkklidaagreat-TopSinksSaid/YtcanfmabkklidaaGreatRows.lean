/-
  No cell of these rows narrows 'for every input' (looked for: loops, veiled, ifaces, maps, wideKeys, modest, calm, conditions, laid).
  DERIVED. THE GIVEN ROWS OF THIS SEAT. 6 by the template 'for every input the law returns true; each argument reads behind the call as it read before'; 0 by the template 'total and deterministic' (their statements: YtcanfmabkklidaaGreatTotals.lean).
  GIVEN WITH THE SEED: the statements are not yours to turn. If you find one false, say at which input.
  Laid BY PROGRAM, IN A SANDBOX (cutbox-rows.mjs): the forced cells as the released guide's own fill.sh prints them over the translation 2b1dcf043c14c9f2… (all of the seat's roots in one cut). By AI agents, Wed Nov 11 2026. No macro, syntax, notation, axiom, sorry.
-/
import Derived.Test.YtcanfmabkklidaaGreatChecked
import GoSem.Claim
import GoSem.ClaimJoined
import GoSem.ClaimMapViews
import Derived.JoinedTies
import Derived.KernelRfl
namespace Go.Proofs.YtcanfmabkklidaaGreat
/- THE CELL 'sum', in the pinned program and in every row, IS THE sha256 OF THE DUMP (.gsa) THAT YtcanfmabkklidaaGreatProg.lean LOADS. Nothing in Lean hashes anything: it is a label: what it is worth is what the hold of that sum in a sandbox is worth. -/
noncomputable def Tryz.pinned : Pinned := { name := "ytcanfmabkklidaagreat", sum := "2b1dcf043c14c9f26b9306e30b46e46be8f654078f29c579f2adf7edf6572729", checked := Tryz.checked }
namespace Rows
def none {H : Type} : Left H := { results := [], args := [] }

/-- 'cordontop.TopTiming': WHATEVER THE INPUT: true; the input reads as it did. -/
def topTimingSpec : ChangeSpec := { name := "topTiming", fn := fun _ => fun
  | [d1, d2, d3] => { results := [.lit (.bool true)], args := [d1, d2, d3] }
  | _ => none }
def topTimingRow : OpenClaim := { program := "ytcanfmabkklidaagreat", sum := "2b1dcf043c14c9f26b9306e30b46e46be8f654078f29c579f2adf7edf6572729", func := "cordon/cordontop.TopTiming", spec := "topTiming", unfollowed := true, recurses := true, plainKeys := false, apart := false }
def TopTimingSaid : Prop := topTimingRow.holds Tryz.pinned (OpenSpec.ofChange topTimingSpec)

/-- ITS FALSE NEIGHBOUR: 'it returns false'. Refute it at one input. -/
def topTimingWrong : ChangeSpec := { name := "topTiming", fn := fun _ => fun
  | [d1, d2, d3] => { results := [.lit (.bool false)], args := [d1, d2, d3] }
  | _ => none }
def TopTimingWrongFalsely : Prop := topTimingRow.holds Tryz.pinned (OpenSpec.ofChange topTimingWrong)

/-- 'cordontop.TopFlood': WHATEVER THE INPUT: true; the input reads as it did. -/
def topFloodSpec : ChangeSpec := { name := "topFlood", fn := fun _ => fun
  | [d1, d2, d3, d4] => { results := [.lit (.bool true)], args := [d1, d2, d3, d4] }
  | _ => none }
def topFloodRow : OpenClaim := { program := "ytcanfmabkklidaagreat", sum := "2b1dcf043c14c9f26b9306e30b46e46be8f654078f29c579f2adf7edf6572729", func := "cordon/cordontop.TopFlood", spec := "topFlood", unfollowed := true, recurses := true, plainKeys := false, apart := false }
def TopFloodSaid : Prop := topFloodRow.holds Tryz.pinned (OpenSpec.ofChange topFloodSpec)

/-- ITS FALSE NEIGHBOUR: 'it returns false'. Refute it at one input. -/
def topFloodWrong : ChangeSpec := { name := "topFlood", fn := fun _ => fun
  | [d1, d2, d3, d4] => { results := [.lit (.bool false)], args := [d1, d2, d3, d4] }
  | _ => none }
def TopFloodWrongFalsely : Prop := topFloodRow.holds Tryz.pinned (OpenSpec.ofChange topFloodWrong)

/-- 'cordontop.TopHidden': WHATEVER THE INPUT: true; the input reads as it did. -/
def topHiddenSpec : ChangeSpec := { name := "topHidden", fn := fun _ => fun
  | [d1, d2, d3, d4] => { results := [.lit (.bool true)], args := [d1, d2, d3, d4] }
  | _ => none }
def topHiddenRow : OpenClaim := { program := "ytcanfmabkklidaagreat", sum := "2b1dcf043c14c9f26b9306e30b46e46be8f654078f29c579f2adf7edf6572729", func := "cordon/cordontop.TopHidden", spec := "topHidden", unfollowed := true, recurses := true, plainKeys := false, apart := false }
def TopHiddenSaid : Prop := topHiddenRow.holds Tryz.pinned (OpenSpec.ofChange topHiddenSpec)

/-- ITS FALSE NEIGHBOUR: 'it returns false'. Refute it at one input. -/
def topHiddenWrong : ChangeSpec := { name := "topHidden", fn := fun _ => fun
  | [d1, d2, d3, d4] => { results := [.lit (.bool false)], args := [d1, d2, d3, d4] }
  | _ => none }
def TopHiddenWrongFalsely : Prop := topHiddenRow.holds Tryz.pinned (OpenSpec.ofChange topHiddenWrong)

/-- 'cordontop.TopTenants': WHATEVER THE INPUT: true; the input reads as it did. -/
def topTenantsSpec : ChangeSpec := { name := "topTenants", fn := fun _ => fun
  | [d1, d2, d3, d4, d5] => { results := [.lit (.bool true)], args := [d1, d2, d3, d4, d5] }
  | _ => none }
def topTenantsRow : OpenClaim := { program := "ytcanfmabkklidaagreat", sum := "2b1dcf043c14c9f26b9306e30b46e46be8f654078f29c579f2adf7edf6572729", func := "cordon/cordontop.TopTenants", spec := "topTenants", unfollowed := true, recurses := true, plainKeys := false, apart := false }
def TopTenantsSaid : Prop := topTenantsRow.holds Tryz.pinned (OpenSpec.ofChange topTenantsSpec)

/-- ITS FALSE NEIGHBOUR: 'it returns false'. Refute it at one input. -/
def topTenantsWrong : ChangeSpec := { name := "topTenants", fn := fun _ => fun
  | [d1, d2, d3, d4, d5] => { results := [.lit (.bool false)], args := [d1, d2, d3, d4, d5] }
  | _ => none }
def TopTenantsWrongFalsely : Prop := topTenantsRow.holds Tryz.pinned (OpenSpec.ofChange topTenantsWrong)

/-- 'cordontop.TopComplete': WHATEVER THE INPUT: true; the input reads as it did. -/
def topCompleteSpec : ChangeSpec := { name := "topComplete", fn := fun _ => fun
  | [d1, d2, d3, d4] => { results := [.lit (.bool true)], args := [d1, d2, d3, d4] }
  | _ => none }
def topCompleteRow : OpenClaim := { program := "ytcanfmabkklidaagreat", sum := "2b1dcf043c14c9f26b9306e30b46e46be8f654078f29c579f2adf7edf6572729", func := "cordon/cordontop.TopComplete", spec := "topComplete", unfollowed := true, recurses := true, plainKeys := false, apart := false }
def TopCompleteSaid : Prop := topCompleteRow.holds Tryz.pinned (OpenSpec.ofChange topCompleteSpec)

/-- ITS FALSE NEIGHBOUR: 'it returns false'. Refute it at one input. -/
def topCompleteWrong : ChangeSpec := { name := "topComplete", fn := fun _ => fun
  | [d1, d2, d3, d4] => { results := [.lit (.bool false)], args := [d1, d2, d3, d4] }
  | _ => none }
def TopCompleteWrongFalsely : Prop := topCompleteRow.holds Tryz.pinned (OpenSpec.ofChange topCompleteWrong)

/-- 'cordontop.TopSinks': WHATEVER THE INPUT: true; the input reads as it did. -/
def topSinksSpec : ChangeSpec := { name := "topSinks", fn := fun _ => fun
  | [d1, d2] => { results := [.lit (.bool true)], args := [d1, d2] }
  | _ => none }
def topSinksRow : OpenClaim := { program := "ytcanfmabkklidaagreat", sum := "2b1dcf043c14c9f26b9306e30b46e46be8f654078f29c579f2adf7edf6572729", func := "cordon/cordontop.TopSinks", spec := "topSinks", inPlace := ["maps.clone"], unfollowed := true, recurses := true, plainKeys := false, apart := false }
def TopSinksSaid : Prop := topSinksRow.holds Tryz.pinned (OpenSpec.ofChange topSinksSpec)

/-- ITS FALSE NEIGHBOUR: 'it returns false'. Refute it at one input. -/
def topSinksWrong : ChangeSpec := { name := "topSinks", fn := fun _ => fun
  | [d1, d2] => { results := [.lit (.bool false)], args := [d1, d2] }
  | _ => none }
def TopSinksWrongFalsely : Prop := topSinksRow.holds Tryz.pinned (OpenSpec.ofChange topSinksWrong)

/- THE SECOND FORM. 'bulk': how many values and letters a reading holds, each counted each time it is reached (what is shared counts as often as it is met; a slice's spare places count too). A statement '..UptoSaid' is the law's where the arguments, and the package variables that the reading takes, are together of bulk at most 1048576: NARROWER than '..Said'. Prove '..Said' where nothing that the law and all that it calls make is longer than what came in: it says more and counts as full. Else prove '..UptoSaid'. A law counts once. -/
mutual
def uptoBulk {H : Type} : DataW H → Nat
  | .lit (.string bytes) => bytes.length + 1
  | .lit _ => 1
  | .nil => 1
  | .ptr d => uptoBulk d + 1
  | .slice elems spare => uptoBulkAll elems + uptoBulkAll spare + 1
  | .agg parts => uptoBulkAll parts + 1
  | .iface _ d => uptoBulk d + 1
  | .map entries => uptoBulkEntries entries + 1
  | .held _ => 1
def uptoBulkAll {H : Type} : List (DataW H) → Nat
  | [] => 0
  | d :: r => uptoBulk d + uptoBulkAll r
def uptoBulkEntries {H : Type} : List (Lit × DataW H) → Nat
  | [] => 0
  | x :: r => uptoBulkEntry x + uptoBulkEntries r
def uptoBulkEntry {H : Type} : Lit × DataW H → Nat
  | (.string bytes, d) => bytes.length + uptoBulk d + 1
  | (_, d) => uptoBulk d + 1
 end
def uptoSmall : (H : Type) → List (DataW H) → Bool := fun _ ds => decide (uptoBulkAll ds ≤ 1048576)
def OpenSpec.upto (s : _root_.Go.ChangeSpec) : _root_.Go.OpenSpec := { _root_.Go.OpenSpec.ofChange s with cond := some uptoSmall }

/-- 'cordontop.TopTiming', WHERE WHAT IT READS IS OF BULK AT MOST 1048576: true; the input reads as it did. -/
def topTimingUptoRow : OpenClaim := { program := "ytcanfmabkklidaagreat", sum := "2b1dcf043c14c9f26b9306e30b46e46be8f654078f29c579f2adf7edf6572729", func := "cordon/cordontop.TopTiming", spec := "topTiming", unfollowed := true, recurses := true, plainKeys := false, apart := false, narrowed := true }
def TopTimingUptoSaid : Prop := topTimingUptoRow.holds Tryz.pinned (OpenSpec.upto topTimingSpec)

/-- 'cordontop.TopFlood', WHERE WHAT IT READS IS OF BULK AT MOST 1048576: true; the input reads as it did. -/
def topFloodUptoRow : OpenClaim := { program := "ytcanfmabkklidaagreat", sum := "2b1dcf043c14c9f26b9306e30b46e46be8f654078f29c579f2adf7edf6572729", func := "cordon/cordontop.TopFlood", spec := "topFlood", unfollowed := true, recurses := true, plainKeys := false, apart := false, narrowed := true }
def TopFloodUptoSaid : Prop := topFloodUptoRow.holds Tryz.pinned (OpenSpec.upto topFloodSpec)

/-- 'cordontop.TopHidden', WHERE WHAT IT READS IS OF BULK AT MOST 1048576: true; the input reads as it did. -/
def topHiddenUptoRow : OpenClaim := { program := "ytcanfmabkklidaagreat", sum := "2b1dcf043c14c9f26b9306e30b46e46be8f654078f29c579f2adf7edf6572729", func := "cordon/cordontop.TopHidden", spec := "topHidden", unfollowed := true, recurses := true, plainKeys := false, apart := false, narrowed := true }
def TopHiddenUptoSaid : Prop := topHiddenUptoRow.holds Tryz.pinned (OpenSpec.upto topHiddenSpec)

/-- 'cordontop.TopTenants', WHERE WHAT IT READS IS OF BULK AT MOST 1048576: true; the input reads as it did. -/
def topTenantsUptoRow : OpenClaim := { program := "ytcanfmabkklidaagreat", sum := "2b1dcf043c14c9f26b9306e30b46e46be8f654078f29c579f2adf7edf6572729", func := "cordon/cordontop.TopTenants", spec := "topTenants", unfollowed := true, recurses := true, plainKeys := false, apart := false, narrowed := true }
def TopTenantsUptoSaid : Prop := topTenantsUptoRow.holds Tryz.pinned (OpenSpec.upto topTenantsSpec)

/-- 'cordontop.TopComplete', WHERE WHAT IT READS IS OF BULK AT MOST 1048576: true; the input reads as it did. -/
def topCompleteUptoRow : OpenClaim := { program := "ytcanfmabkklidaagreat", sum := "2b1dcf043c14c9f26b9306e30b46e46be8f654078f29c579f2adf7edf6572729", func := "cordon/cordontop.TopComplete", spec := "topComplete", unfollowed := true, recurses := true, plainKeys := false, apart := false, narrowed := true }
def TopCompleteUptoSaid : Prop := topCompleteUptoRow.holds Tryz.pinned (OpenSpec.upto topCompleteSpec)

/-- 'cordontop.TopSinks', WHERE WHAT IT READS IS OF BULK AT MOST 1048576: true; the input reads as it did. -/
def topSinksUptoRow : OpenClaim := { program := "ytcanfmabkklidaagreat", sum := "2b1dcf043c14c9f26b9306e30b46e46be8f654078f29c579f2adf7edf6572729", func := "cordon/cordontop.TopSinks", spec := "topSinks", inPlace := ["maps.clone"], unfollowed := true, recurses := true, plainKeys := false, apart := false, narrowed := true }
def TopSinksUptoSaid : Prop := topSinksUptoRow.holds Tryz.pinned (OpenSpec.upto topSinksSpec)

end Rows
end Go.Proofs.YtcanfmabkklidaaGreat
