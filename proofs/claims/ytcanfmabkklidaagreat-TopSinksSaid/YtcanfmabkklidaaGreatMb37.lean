/- TopSinks, of what the law is given. -/
import Derived.Test.YtcanfmabkklidaaGreatMb36
set_option linter.unusedSimpArgs false
set_option linter.unusedVariables false
set_option linter.unnecessarySimpa false
namespace Go.Proofs.YtcanfmabkklidaaGreat
open Go.RowKit

set_option maxRecDepth 100000 in
theorem tsinks_walk (W : World) {base : Nat} (v0 : Value) (h0 : Value.okWide Tryz.prog W .any base 24 v0) (r0 : Rd Tryz.prog W 24 v0.cells.toList) (a1 : Option Addr) (len1 cap1 : Nat) (r1 : Rd Tryz.prog W 25 [.slice a1 len1 cap1]) :
    Calls Tryz.prog 8 #[v0, .slice a1 len1 cap1] W fun e w' => e = .returned (.bool true) ∧ Below W.heap.size W w' := by
  obtain ⟨kb, kr, kq, vs, ks, rfl, hks⟩ := setup_open h0 r0
  obtain ⟨l, _, hl, hlo⟩ := kacts_of r1
  exact tsinks_any W kb kr kq vs ks hks _ l hl hlo
end Go.Proofs.YtcanfmabkklidaaGreat
