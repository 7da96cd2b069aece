/- Masks. -/
import Derived.Test.YtcanfmabkklidaaGreatMb4
set_option linter.unusedSimpArgs false
set_option linter.unusedVariables false
set_option linter.unnecessarySimpa false
namespace Go.Proofs.YtcanfmabkklidaaGreat
open Go.RowKit

/-- the bit of a tenant -/
theorem bit_any (n : Nat) (hn : n ≤ 7) (w : World) : Calls Tryz.prog 39 #[.int .i64 n] w fun e w' => e = .returned (.int .u64 ((2 ^ n : Nat) : Int)) ∧ w' = w := by
  have hc : n = 0 ∨ n = 1 ∨ n = 2 ∨ n = 3 ∨ n = 4 ∨ n = 5 ∨ n = 6 ∨ n = 7 := by omega
  rcases hc with rfl | rfl | rfl | rfl | rfl | rfl | rfl | rfl
  all_goals
    go_enter Tryz.func39, Tryz.ntmps39
    go_wp2
    go_ret
    exact ⟨by first | rfl | simp [IntKind.wrap, IntKind.bits, IntKind.signed], rfl⟩
/-- has a set a tenant? -/
theorem has_any (m : Int) (n : Nat) (hn : n ≤ 7) (w : World) : Calls Tryz.prog 14 #[.int .u64 m, .int .i64 n] w fun e w' => e = .returned (.bool (bits BinOp.and IntKind.u64 m ((2 ^ n : Nat) : Int) != 0)) ∧ w' = w := by
  go_enter Tryz.func14, Tryz.ntmps14
  go_wp2_with (go_at_call 39; (with_reducible refine (bit_any n hn _).mono ?_); rintro e w1 ⟨rfl, rfl⟩)
  go_ret
  exact ⟨rfl, rfl⟩
end Go.Proofs.YtcanfmabkklidaaGreat
set_option linter.unusedSimpArgs false
set_option linter.unusedVariables false
set_option linter.unnecessarySimpa false
namespace Go.Proofs.YtcanfmabkklidaaGreat
open Go.RowKit

theorem core_within (n lo hi : Int) (w : World) : Calls Tryz.prog 54 #[.int .i64 n, .int .i64 lo, .int .i64 hi] w fun e w' => e = .returned (.bool (decide (lo ≤ n ∧ n ≤ hi))) ∧ w' = w := by
  rcases (by omega : n < lo ∨ (lo ≤ n ∧ hi < n) ∨ (lo ≤ n ∧ n ≤ hi)) with h | ⟨h, k⟩ | ⟨h, k⟩
  · have hr : decide (lo ≤ n ∧ n ≤ hi) = false := by simp; omega
    rw [hr]
    clear hr
    go_enter Tryz.func54, Tryz.ntmps54
    go_wp2
    go_ret
    exact ⟨by first | rfl | (simp; omega), rfl⟩
  · have hr : decide (lo ≤ n ∧ n ≤ hi) = false := by simp; omega
    rw [hr]
    clear hr
    go_enter Tryz.func54, Tryz.ntmps54
    go_wp2
    go_ret
    exact ⟨by first | rfl | (simp; omega), rfl⟩
  · have hr : decide (lo ≤ n ∧ n ≤ hi) = true := by simp; omega
    rw [hr]
    clear hr
    go_enter Tryz.func54, Tryz.ntmps54
    go_wp2
    go_ret
    exact ⟨by first | rfl | (simp; omega), rfl⟩
theorem agg_right (n : Int) (w : World) : Calls Tryz.prog 90 #[.int .i64 n] w fun e w' => e = .returned (.bool (decide (1 ≤ n ∧ n ≤ 4))) ∧ w' = w := by
  rcases (by omega : n < 1 ∨ (1 ≤ n ∧ 4 < n) ∨ (1 ≤ n ∧ n ≤ 4)) with h | ⟨h, k⟩ | ⟨h, k⟩
  · have hr : decide (1 ≤ n ∧ n ≤ 4) = false := by simp; omega
    rw [hr]
    clear hr
    go_enter Tryz.func90, Tryz.ntmps90
    go_wp2
    go_ret
    exact ⟨by first | rfl | (simp; omega), rfl⟩
  · have hr : decide (1 ≤ n ∧ n ≤ 4) = false := by simp; omega
    rw [hr]
    clear hr
    go_enter Tryz.func90, Tryz.ntmps90
    go_wp2
    go_ret
    exact ⟨by first | rfl | (simp; omega), rfl⟩
  · have hr : decide (1 ≤ n ∧ n ≤ 4) = true := by simp; omega
    rw [hr]
    clear hr
    go_enter Tryz.func90, Tryz.ntmps90
    go_wp2
    go_ret
    exact ⟨by first | rfl | (simp; omega), rfl⟩
theorem board_there (n : Int) (w : World) : Calls Tryz.prog 81 #[.int .i64 n] w fun e w' => e = .returned (.bool (decide (0 ≤ n ∧ n < 8))) ∧ w' = w := by
  rcases (by omega : n < 0 ∨ (0 ≤ n ∧ 8 ≤ n) ∨ (0 ≤ n ∧ n < 8)) with h | ⟨h, k⟩ | ⟨h, k⟩
  · have hr : decide (0 ≤ n ∧ n < 8) = false := by simp; omega
    rw [hr]
    clear hr
    go_enter Tryz.func81, Tryz.ntmps81
    go_wp2
    go_ret
    exact ⟨by first | rfl | (simp; omega), rfl⟩
  · have hr : decide (0 ≤ n ∧ n < 8) = false := by simp; omega
    rw [hr]
    clear hr
    go_enter Tryz.func81, Tryz.ntmps81
    go_wp2
    go_ret
    exact ⟨by first | rfl | (simp; omega), rfl⟩
  · have hr : decide (0 ≤ n ∧ n < 8) = true := by simp; omega
    rw [hr]
    clear hr
    go_enter Tryz.func81, Tryz.ntmps81
    go_wp2
    go_ret
    exact ⟨by first | rfl | (simp; omega), rfl⟩
end Go.Proofs.YtcanfmabkklidaaGreat
set_option linter.unusedSimpArgs false
set_option linter.unusedVariables false
set_option linter.unnecessarySimpa false
namespace Go.Proofs.YtcanfmabkklidaaGreat
open Go.RowKit

theorem pipe_place (n : Int) (w : World) : Calls Tryz.prog 91 #[.int .i64 n] w fun e w' => e = .returned (.bool (decide (-1 ≤ n ∧ n ≤ 3))) ∧ w' = w := by
  rcases (by omega : n < -1 ∨ n = -1 ∨ (0 ≤ n ∧ 4 ≤ n) ∨ (0 ≤ n ∧ n < 4)) with h | h | ⟨h, k⟩ | ⟨h, k⟩
  · have hr : decide (-1 ≤ n ∧ n ≤ 3) = false := by simp; omega
    rw [hr]
    clear hr
    have h1 : (n == -1) = false := by simp; omega
    have h2 : ¬ 0 ≤ n := by omega
    go_enter Tryz.func91, Tryz.ntmps91
    go_wp2
    go_ret
    exact ⟨by first | rfl | (simp; omega), rfl⟩
  · subst h
    go_enter Tryz.func91, Tryz.ntmps91
    go_wp2
    go_ret
    exact ⟨by first | rfl | simp, rfl⟩
  · have hr : decide (-1 ≤ n ∧ n ≤ 3) = false := by simp; omega
    rw [hr]
    clear hr
    have h1 : (n == -1) = false := by simp; omega
    go_enter Tryz.func91, Tryz.ntmps91
    go_wp2
    go_ret
    exact ⟨by first | rfl | (simp; omega), rfl⟩
  · have hr : decide (-1 ≤ n ∧ n ≤ 3) = true := by simp; omega
    rw [hr]
    clear hr
    have h1 : (n == -1) = false := by simp; omega
    go_enter Tryz.func91, Tryz.ntmps91
    go_wp2
    go_ret
    exact ⟨by first | rfl | (simp; omega), rfl⟩
theorem most_any (s d : Int) (hd : 1 ≤ d) (hd2 : d ≤ 1048576) (hs : d ≤ s) (hs2 : s ≤ 1048576) (w : World) : Calls Tryz.prog 112 #[.int .i64 s, .int .i64 d] w fun e w' => e = .returned (.int .i64 ((s + d - 1).tdiv d)) ∧ w' = w := by
  have hz : (d == 0) = false := by simp; omega
  have hq0 : 0 ≤ (s + d - 1).tdiv d := Int.tdiv_nonneg (by omega) (by omega)
  have hq1 : (s + d - 1).tdiv d ≤ s + d - 1 := by
    rw [Int.tdiv_eq_ediv_of_nonneg (by omega)]
    exact Int.ediv_le_self _ (by omega)
  have hw : IntKind.i64.wrap ((s + d - 1).tdiv d) = (s + d - 1).tdiv d := IntWalk.i64_in _ (by omega)
  go_enter Tryz.func112, Tryz.ntmps112
  go_wp2
  go_ret
  exact ⟨by first | rfl | simp, rfl⟩
end Go.Proofs.YtcanfmabkklidaaGreat
set_option linter.unusedSimpArgs false
set_option linter.unusedVariables false
set_option linter.unnecessarySimpa false
namespace Go.Proofs.YtcanfmabkklidaaGreat
open Go.RowKit

def winR (s d : Int) : Prop := 1 ≤ d ∧ d ≤ s ∧ s ≤ 1048576 ∧ (s + d - 1).tdiv d ≤ 8
instance (s d : Int) : Decidable (winR s d) := by unfold winR; infer_instance
theorem win_right (s d : Int) (w : World) : Calls Tryz.prog 89 #[.int .i64 s, .int .i64 d] w fun e w' => e = .returned (.bool (decide (winR s d))) ∧ w' = w := by
  by_cases h1 : 1 ≤ d
  rotate_left
  · have hr : decide (winR s d) = false := decide_eq_false (fun h => h1 h.1)
    rw [hr]
    clear hr
    go_enter Tryz.func89, Tryz.ntmps89
    go_wp2
    go_ret
    exact ⟨by first | rfl | (simp; omega), rfl⟩
  by_cases h2 : d ≤ s
  rotate_left
  · have hr : decide (winR s d) = false := decide_eq_false (fun h => h2 h.2.1)
    rw [hr]
    clear hr
    go_enter Tryz.func89, Tryz.ntmps89
    go_wp2
    go_ret
    exact ⟨by first | rfl | (simp; omega), rfl⟩
  by_cases h3 : s ≤ 1048576
  rotate_left
  · have hr : decide (winR s d) = false := decide_eq_false (fun h => h3 h.2.2.1)
    rw [hr]
    clear hr
    go_enter Tryz.func89, Tryz.ntmps89
    go_wp2
    go_ret
    exact ⟨by first | rfl | (simp; omega), rfl⟩
  have hr : decide (winR s d) = decide ((s + d - 1).tdiv d ≤ 8) := by simp [winR, h1, h2, h3]
  rw [hr]
  clear hr
  go_enter Tryz.func89, Tryz.ntmps89
  go_wp2_with (go_at_call 112; (with_reducible refine (most_any s d h1 (by omega) h2 h3 _).mono ?_); rintro e w1 ⟨rfl, rfl⟩)
  go_ret
  exact ⟨by first | rfl | simp, rfl⟩
end Go.Proofs.YtcanfmabkklidaaGreat
set_option linter.unusedSimpArgs false
set_option linter.unusedVariables false
set_option linter.unnecessarySimpa false
namespace Go.Proofs.YtcanfmabkklidaaGreat
open Go.RowKit

def evR (t k v l : Int) : Prop := 0 ≤ t ∧ t ≤ 1099511627776 ∧ 0 ≤ k ∧ k ≤ 255 ∧ l ≠ 0
instance (t k v l : Int) : Decidable (evR t k v l) := by unfold evR; infer_instance
theorem event_right (t k v l : Int) (w : World) : Calls Tryz.prog 109 #[.agg #[.int .i64 t, .int .i64 k, .int .i64 v, .int .u64 l]] w fun e w' => e = .returned (.bool (decide (evR t k v l))) ∧ Below w.heap.size w w' := by
  have HW := Lib.hid (fun (x : Obj) => ((Below.refl _ w).alloc (Nat.le_refl _) x : Below w.heap.size w (w.alloc x)))
  by_cases h1 : 0 ≤ t
  rotate_left
  · rw [show decide (evR t k v l) = false from decide_eq_false (fun h => h1 h.1)]
    go_enter Tryz.func109, Tryz.ntmps109
    go_wp2
    go_ret
    exact ⟨by first | rfl | (simp; omega), HW.out _⟩
  by_cases h2 : t ≤ 1099511627776
  rotate_left
  · rw [show decide (evR t k v l) = false from decide_eq_false (fun h => h2 h.2.1)]
    go_enter Tryz.func109, Tryz.ntmps109
    go_wp2
    go_ret
    exact ⟨by first | rfl | (simp; omega), HW.out _⟩
  by_cases h3 : 0 ≤ k
  rotate_left
  · rw [show decide (evR t k v l) = false from decide_eq_false (fun h => h3 h.2.2.1)]
    go_enter Tryz.func109, Tryz.ntmps109
    go_wp2
    go_ret
    exact ⟨by first | rfl | (simp; omega), HW.out _⟩
  by_cases h4 : k ≤ 255
  rotate_left
  · rw [show decide (evR t k v l) = false from decide_eq_false (fun h => h4 h.2.2.2.1)]
    go_enter Tryz.func109, Tryz.ntmps109
    go_wp2
    go_ret
    exact ⟨by first | rfl | (simp; omega), HW.out _⟩
  by_cases h5 : l = 0
  · rw [show decide (evR t k v l) = false from decide_eq_false (fun h => h.2.2.2.2 h5)]
    subst h5
    go_enter Tryz.func109, Tryz.ntmps109
    go_wp2
    go_ret
    exact ⟨by first | rfl | simp, HW.out _⟩
  rw [show decide (evR t k v l) = true from decide_eq_true ⟨h1, h2, h3, h4, h5⟩]
  have h6 : (l == 0) = false := by simp [h5]
  have h7 : (l != 0) = true := by simp [h5]
  go_enter Tryz.func109, Tryz.ntmps109
  go_wp2
  go_ret
  exact ⟨by first | rfl | simp, HW.out _⟩
end Go.Proofs.YtcanfmabkklidaaGreat
set_option linter.unusedSimpArgs false
set_option linter.unusedVariables false
set_option linter.unnecessarySimpa false
namespace Go.Proofs.YtcanfmabkklidaaGreat
open Go.RowKit

theorem agg_new (k : Int) (w : World) : Calls Tryz.prog 46 #[.int .i64 k] w fun e w' => e = .returned (.agg #[.int .i64 0, .int .i64 k, .int .i64 0]) ∧ Below w.heap.size w w' := by
  have HW := Lib.hid (fun (x : Obj) => ((Below.refl _ w).alloc (Nat.le_refl _) x : Below w.heap.size w (w.alloc x)))
  go_enter Tryz.func46, Tryz.ntmps46
  go_wp2
  refine bodyPost_ret (v := .agg #[.int .i64 0, .int .i64 k, .int .i64 0]) (by simp [results, Tryz.results46, go_sem]) rfl ?_
  exact ⟨rfl, HW.out _⟩
theorem quota_of (a : Int) (h : 0 ≤ a) (w : World) : Calls Tryz.prog 104 #[.int .i64 a] w fun e w' => e = .returned (.agg #[.int .i64 a, .int .i64 0, .int .i64 0]) ∧ Below w.heap.size w w' := by
  have HW := Lib.hid (fun (x : Obj) => ((Below.refl _ w).alloc (Nat.le_refl _) x : Below w.heap.size w (w.alloc x)))
  go_enter Tryz.func104, Tryz.ntmps104
  go_wp2
  refine bodyPost_ret (v := .agg #[.int .i64 a, .int .i64 0, .int .i64 0]) (by simp [results, Tryz.results104, go_sem]) rfl ?_
  exact ⟨rfl, HW.out _⟩
end Go.Proofs.YtcanfmabkklidaaGreat
