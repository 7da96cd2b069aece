/- Parts of a new core. -/
import Derived.Test.YtcanfmabkklidaaGreatMb24
set_option linter.unusedSimpArgs false
set_option linter.unusedVariables false
set_option linter.unnecessarySimpa false
namespace Go.Proofs.YtcanfmabkklidaaGreat
open Go.RowKit

theorem bnew_any (w : World) : Calls Tryz.prog 37 #[] w fun e w' => e = .returned (.pointer (some ⟨w.heap.size, 0, none⟩)) ∧ w' = w.alloc (.cells #[.slice none 0 0, .slice none 0 0, .slice none 0 0, .slice none 0 0, .slice none 0 0, .slice none 0 0, .slice none 0 0, .slice none 0 0] 145) := by
  go_enter Tryz.func37, Tryz.ntmps37
  go_wp2
  go_ret
  exact ⟨rfl, rfl⟩
theorem BoardIn.new {w : World} {g : Nat} (h : At w g [.slice none 0 0, .slice none 0 0, .slice none 0 0, .slice none 0 0, .slice none 0 0, .slice none 0 0, .slice none 0 0, .slice none 0 0]) :
    BoardIn w g (fun _ => .slice none 0 0) (fun j => if j = 0 then [g] else []) (fun _ => []) := by
  refine ⟨h, rfl, fun t _ => ⟨rfl, .inl ⟨rfl, rfl⟩⟩, fun t _ => rfl, ⟨fun i _ x hx => ?_, fun i j _ _ hne x hx => ?_⟩⟩
  · split at hx
    · have e : x = g := by simpa using hx
      rw [e]; exact h.lt
    · simp at hx
  · split at hx
    · rename_i h0
      rw [if_neg (by omega)]
      simp
    · simp at hx
theorem ticks_any (b : Nat) (G : Nat → List Nat) (vs vp : Value) (bb : Nat) (pc : Nat → Option Nat) (c : CoreV) (w : World) (h : CoreIn w b G vs vp bb pc c) : Calls Tryz.prog 33 #[.pointer (some ⟨b, 0, none⟩)] w fun e w' => e = .returned (.int .i64 c.ticks) ∧ w' = w := by
  have c14 := h.a.c 14 _ rfl
  have hb := h.a.lt
  clear h
  go_enter Tryz.func33, Tryz.ntmps33
  go_wp2
  go_ret
  exact ⟨rfl, rfl⟩
end Go.Proofs.YtcanfmabkklidaaGreat
