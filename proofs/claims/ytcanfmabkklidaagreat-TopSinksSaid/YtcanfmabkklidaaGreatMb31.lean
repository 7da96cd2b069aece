/- A set-up for two. -/
import Derived.Test.YtcanfmabkklidaaGreatMb7
set_option linter.unusedSimpArgs false
set_option linter.unusedVariables false
set_option linter.unnecessarySimpa false
namespace Go.Proofs.YtcanfmabkklidaaGreat
open Go.RowKit

theorem duo_any (w : World) : Calls Tryz.prog 20 #[] w fun e w' => ∃ v S, e = .returned (.agg #[.int .i64 4, .int .i64 8, .int .i64 50, v]) ∧ RdR SinkV.cs 5 w' v [⟨3, 3, 2, 2, 4⟩] S ∧ (∀ x ∈ S, w.heap.size ≤ x) ∧ Below w.heap.size w w' := by
  go_enter Tryz.func20, Tryz.ntmps20
  go_wp2
  have A0 := (At.new w #[.int .i64 4, .int .i64 8, .int .i64 50, .slice (some ⟨w.heap.size + 1, 0, none⟩) 1 1] 28).alloc (.cells #[.int .u64 3, .int .u64 3, .int .i64 2, .int .i64 2, .int .i64 4] 49)
  have A1 := At.newAt (w := w.alloc (.cells #[.int .i64 4, .int .i64 8, .int .i64 50, .slice (some ⟨w.heap.size + 1, 0, none⟩) 1 1] 28)) (b := w.heap.size + 1) (by simp) #[.int .u64 3, .int .u64 3, .int .i64 2, .int .i64 2, .int .i64 4] 49
  have c0 := A0.c 0 _ rfl
  have c1 := A0.c 1 _ rfl
  have c2 := A0.c 2 _ rfl
  have c3 := A0.c 3 _ rfl
  refine bodyPost_ret (v := .agg #[.int .i64 4, .int .i64 8, .int .i64 50, .slice (some ⟨w.heap.size + 1, 0, none⟩) 1 1]) (by simp [results, Tryz.results20, go_sem]) rfl ?_
  refine ⟨_, [w.heap.size + 1], rfl, ⟨_, 1, rfl, by simp, by unfold maxLen; omega, .inr ⟨w.heap.size + 1, 0, rfl, rfl, by simp, fun i x hi j u hj => ?_⟩⟩, by simp, ((Below.refl _ w).alloc (Nat.le_refl _) _).alloc (by simp) _⟩
  have hi0 : i = 0 := by have := (List.getElem?_eq_some_iff.1 hi).1; simp at this; omega
  subst hi0
  simp at hi
  subst hi
  simpa using A1.c j u hj
end Go.Proofs.YtcanfmabkklidaaGreat
