/- The walk of WindowRuns. -/
import Derived.Test.YtmdcbpmmmklghaaWi3
namespace Go.Proofs.Ytmdcbpmmmklghaa
open Go.RowKit

theorem IsL.made1 (w : World) (x : Int) : IsL (w.alloc (.cells #[.int .i64 x] 3)) (.slice (some ⟨w.heap.size, 0, none⟩) 1 1) [x] := by
  refine ⟨_, _, rfl, Nat.le_refl _, by simp [maxLen], w.heap.size, 0, fun _ => ⟨rfl, by simp⟩, ?_⟩
  intro i hi
  obtain rfl : i = 0 := by simp at hi; omega
  simp [go_sem]
theorem IsL.made2 (w : World) (x y : Int) : IsL (w.alloc (.cells #[.int .i64 x, .int .i64 y] 3)) (.slice (some ⟨w.heap.size, 0, none⟩) 2 2) [x, y] := by
  refine ⟨_, _, rfl, Nat.le_refl _, by simp [maxLen], w.heap.size, 0, fun _ => ⟨rfl, by simp⟩, ?_⟩
  intro i hi
  have : i = 0 ∨ i = 1 := by simp at hi; omega
  rcases this with rfl | rfl <;> simp [go_sem]
theorem IsL.alloc {w : World} {v : Value} {l : List Int} (h : IsL w v l) (o : Obj) : IsL (w.alloc o) v l := h.kept ((Below.refl _ _).alloc (Nat.le_refl _) o)

theorem starts_c1 (w : World) : Calls Try.prog 9 #[.int .i64 7, .int .i64 10, .int .i64 5] w (RetL w [0, 5]) := starts_yes 7 10 5 w (by decide) (by omega) (by omega)
theorem starts_c2 (w : World) : Calls Try.prog 9 #[.int .i64 12, .int .i64 10, .int .i64 5] w (RetL w [5, 10]) := starts_yes 12 10 5 w (by decide) (by omega) (by omega)
theorem starts_c3 (w : World) : Calls Try.prog 9 #[.int .i64 3, .int .i64 4, .int .i64 4] w (RetL w [0]) := starts_yes 3 4 4 w (by decide) (by omega) (by omega)
theorem panes_c (w : World) : Calls Try.prog 10 #[.int .i64 10, .int .i64 4] w fun e w' => e = .returned (.int .i64 3) ∧ w = w' := panes_yes 10 4 w (by decide)
theorem last_c1 (w : World) : Calls Try.prog 11 #[.int .i64 5, .slice none 0 0] w fun e w' => e = .returned (.int .i64 0) ∧ w = w' :=
  last_any 5 (.slice none 0 0) [] w (IsL.nil w) (by omega) (by omega) (fun i hi => absurd hi (by simp)) (by simp)
theorem last_c2 (w : World) : Calls Try.prog 11 #[.int .i64 5, .slice (some ⟨w.heap.size, 0, none⟩) 2 2] (w.alloc (.cells #[.int .i64 3, .int .i64 1] 3)) fun e w' => e = .returned (.int .i64 8) ∧ (w.alloc (.cells #[.int .i64 3, .int .i64 1] 3)) = w' :=
  last_any 5 _ [3, 1] _ (IsL.made2 w 3 1) (by omega) (by omega) (fun i hi => by
    have : i = 0 ∨ i = 1 := by simp at hi; omega
    rcases this with rfl | rfl <;> simp) (by simp)

set_option maxHeartbeats 2000000 in
theorem runs_any (w : World) : Calls Try.prog 3 #[] w fun e w' => e = .returned (.bool true) ∧ Below w.heap.size w w' := by
  have HB := Lib.hid (Below.refl w.heap.size w)
  go_enter Try.func3, Try.ntmps3
  go_wp2_with (first
    | (go_at_call 9; (with_reducible refine (starts_c1 _).mono ?_); rintro e w1 ⟨v1, rfl, ho, hb⟩; have HV := Lib.hid (IsL.of_own (l := [0, 5]) ho); have HB1 := Lib.hid (below_step HB.out hb); clear ho hb)
    | (go_at_call 9; (with_reducible refine (starts_c2 _).mono ?_); rintro e w3 ⟨v2, rfl, ho, hb⟩; have HV2 := Lib.hid (IsL.of_own (l := [5, 10]) ho); have HB3 := Lib.hid (below_step HB2.out hb); clear ho hb)
    | (go_at_call 9; (with_reducible refine (starts_c3 _).mono ?_); rintro e w5 ⟨v3, rfl, ho, hb⟩; have HV3 := Lib.hid (IsL.of_own (l := [0]) ho); have HB5 := Lib.hid (below_step HB4.out hb); clear ho hb)
    | (go_at_call 8; (with_reducible refine (same_yes _ _ [0, 5] _ (HV.out.alloc _) (IsL.made2 _ 0 5)).mono ?_); rintro e w2 ⟨rfl, hb⟩; have HB2 := Lib.hid (below_step (HB1.out.alloc HB1.out.size _) hb); clear hb)
    | (go_at_call 8; (with_reducible refine (same_yes _ _ [5, 10] _ (HV2.out.alloc _) (IsL.made2 _ 5 10)).mono ?_); rintro e w4 ⟨rfl, hb⟩; have HB4 := Lib.hid (below_step (HB3.out.alloc HB3.out.size _) hb); clear hb)
    | (go_at_call 8; (with_reducible refine (same_yes _ _ [0] _ (HV3.out.alloc _) (IsL.made1 _ 0)).mono ?_); rintro e w6 ⟨rfl, hb⟩; have HB6 := Lib.hid (below_step (HB5.out.alloc HB5.out.size _) hb); clear hb)
    | (go_at_call 10; (with_reducible refine (panes_c _).mono ?_); rintro e w' ⟨rfl, rfl⟩)
    | (go_at_call 11; (with_reducible refine (last_c1 _).mono ?_); rintro e w' ⟨rfl, rfl⟩)
    | (go_at_call 11; (with_reducible refine (last_c2 _).mono ?_); rintro e w' ⟨rfl, rfl⟩))
  go_ret
  exact ⟨rfl, HB6.out.alloc HB6.out.size _⟩
end Go.Proofs.Ytmdcbpmmmklghaa
