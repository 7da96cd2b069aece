/- Bounds. -/
import Derived.Test.YtcanfmabkklidaaGreatMb1
import Derived.Test.YtcanfmabkklidaaGreatMb4
set_option linter.unusedSimpArgs false
set_option linter.unusedVariables false
set_option linter.unnecessarySimpa false
namespace Go.Proofs.YtcanfmabkklidaaGreat
open Go.RowKit

theorem some_any (n : Nat) (hn : n ≤ 1000000) (w : World) : Calls Tryz.prog 42 #[.int .i64 n] w fun e w' => e = .returned (.int .i64 n) ∧ w' = w := by
  have h1 : ((n : Int) < 0) = False := by simp
  have h2 : ((1099511627776 : Int) < n) = False := by simp; omega
  go_enter Tryz.func42, Tryz.ntmps42
  go_wp2
  go_ret
  exact ⟨rfl, rfl⟩
/-- how many ticks serve these -/
def ticksI (n b : Nat) : Nat := n / b + (if 0 < n % b then 1 else 0)
theorem ticks41_any (n b : Nat) (hn : n ≤ 1000000) (h0 : 1 ≤ n) (hb : 1 ≤ b) (hb2 : b ≤ 1000000) (w : World) : Calls Tryz.prog 41 #[.int .i64 n, .int .i64 b] w fun e w' => e = .returned (.int .i64 (ticksI n b : Nat)) ∧ w' = w := by
  have h1 : ((n : Int) ≤ 0) = False := by simp; omega
  have h2 : ((b : Int) ≤ 0) = False := by simp; omega
  have h3 : ((b : Int) == 0) = false := by simp; omega
  have hd : n / b ≤ n := Nat.div_le_self _ _
  have hc : ((n : Int) / (b : Int)) = ((n / b : Nat) : Int) := by simp
  have hw1 : wrap64 ((n : Int) / (b : Int)) = ((n / b : Nat) : Int) := by rw [hc]; generalize n / b = q at hd; unfold wrap64; omega
  have hw2 : wrap64 (((n / b : Nat) : Int) + 1) = ((n / b + 1 : Nat) : Int) := by generalize n / b = q at hd; unfold wrap64; omega
  have HW1 := Lib.hid hw1
  have HW2 := Lib.hid hw2
  clear hw1 hw2 hc
  unfold ticksI
  by_cases hr : 0 < n % b
  · rw [if_pos hr]
    have h4 : (0 < ((n : Int) % (b : Int))) = True := by simp; omega
    go_enter Tryz.func41, Tryz.ntmps41
    go_wp2
    go_ret
    refine ⟨?_, rfl⟩
    show Ending.returned (.int .i64 (wrap64 (wrap64 ((n : Int) / (b : Int)) + 1))) = _
    rw [HW1.out, HW2.out]
  · rw [if_neg hr]
    have h4 : (0 < ((n : Int) % (b : Int))) = False := by simp; omega
    go_enter Tryz.func41, Tryz.ntmps41
    go_wp2
    go_ret
    refine ⟨?_, rfl⟩
    show Ending.returned (.int .i64 (wrap64 ((n : Int) / (b : Int)))) = _
    rw [HW1.out]
    rfl
theorem bmost_any (r f b : Nat) (hr : r ≤ 1000) (h0 : 1 ≤ r) (hf : f ≤ 1000) (hb : 1 ≤ b) (hb2 : b ≤ 1000000) (w : World) : Calls Tryz.prog 25 #[.int .i64 r, .int .i64 f, .int .i64 b] w fun e w' => e = .returned (.int .i64 (ticksI (r + f) b : Nat)) ∧ w' = w := by
  have HT := Lib.hid (fun y => ticks41_any (r + f) b (by omega) (by omega) hb hb2 y)
  rw [show ((r + f : Nat) : Int) = (r : Int) + f by omega] at HT
  go_enter Tryz.func25, Tryz.ntmps25
  go_wp2_with (first
    | (go_at_call 42; (first | (with_reducible refine (some_any r (by omega) _).mono ?_) | (with_reducible refine (some_any f (by omega) _).mono ?_)); rintro e w1 ⟨rfl, rfl⟩)
    | (go_at_call 41; (with_reducible refine (HT.out _).mono ?_); rintro e w1 ⟨rfl, rfl⟩))
  go_ret
  exact ⟨rfl, rfl⟩
end Go.Proofs.YtcanfmabkklidaaGreat
