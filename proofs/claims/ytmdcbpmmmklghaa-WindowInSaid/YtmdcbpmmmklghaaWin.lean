/- The contracts of package window's functions, of the reference's, of Same and of Within. -/
import Derived.Test.YtmdcbpmmmklghaaBase
import Derived.Test.YtmdcbpmmmklghaaPl
namespace Go.Proofs.Ytmdcbpmmmklghaa
open Go.RowKit

theorem most_any (a b : Int) (w : World) (h1 : 1 ≤ b) (h2 : b ≤ a) (h3 : a ≤ 1048576) :
    Calls Try.prog 16 #[.int .i64 a, .int .i64 b] w fun e w' => e = .returned (.int .i64 (most a b)) ∧ w = w' := by
  have hm := most_bd a b h1 h2 h3
  have hne : (b == 0) = false := by simp; omega
  have HE := Lib.hid (show (a + b - 1) / b = most a b from rfl)
  have hq1 : 0 ≤ (a + b - 1) / b := by rw [HE.out]; omega
  have hq2 : (a + b - 1) / b ≤ 1048576 := by rw [HE.out]; omega
  clear hm
  go_enter Try.func16, Try.ntmps16
  go_wp2
  go_ret
  exact ⟨by rw [HE.out]; rfl, rfl⟩

theorem right_yes (a b : Int) (w : World) (h : RightP a b) :
    Calls Try.prog 14 #[.int .i64 a, .int .i64 b] w fun e w' => e = .returned (.bool true) ∧ w = w' := by
  obtain ⟨h1, h2, h3, h4⟩ := h
  go_enter Try.func14, Try.ntmps14
  go_wp2_with (go_at_call 16; (with_reducible refine (most_any _ _ _ (by omega) (by omega) (by omega)).mono ?_); rintro e w' ⟨rfl, rfl⟩)
  go_ret
  exact ⟨rfl, rfl⟩
theorem right_no (a b : Int) (w : World) (h : ¬ RightP a b) :
    Calls Try.prog 14 #[.int .i64 a, .int .i64 b] w fun e w' => e = .returned (.bool false) ∧ w = w' := by
  have h' : b < 1 ∨ (1 ≤ b ∧ a < b) ∨ (1 ≤ b ∧ b ≤ a ∧ 1048576 < a) ∨ (1 ≤ b ∧ b ≤ a ∧ a ≤ 1048576 ∧ 8 < most a b) := by
    unfold RightP at h
    omega
  clear h
  rcases h' with h1 | ⟨h1, h2⟩ | ⟨h1, h2, h3⟩ | ⟨h1, h2, h3, h4⟩
  · go_enter Try.func14, Try.ntmps14
    go_wp2
    go_ret
    exact ⟨rfl, rfl⟩
  · go_enter Try.func14, Try.ntmps14
    go_wp2
    go_ret
    exact ⟨rfl, rfl⟩
  · go_enter Try.func14, Try.ntmps14
    go_wp2
    go_ret
    exact ⟨rfl, rfl⟩
  · have h5 : decide (most a b ≤ 8) = false := by simp; omega
    go_enter Try.func14, Try.ntmps14
    go_wp2_with (go_at_call 16; (with_reducible refine (most_any _ _ _ (by omega) (by omega) (by omega)).mono ?_); rintro e w' ⟨rfl, rfl⟩)
    go_ret
    exact ⟨rfl, rfl⟩
theorem right_any (a b : Int) (w : World) :
    Calls Try.prog 14 #[.int .i64 a, .int .i64 b] w fun e w' => e = .returned (.bool (decide (RightP a b))) ∧ w = w' := by
  by_cases h : RightP a b
  · rw [decide_eq_true h]; exact right_yes a b w h
  · rw [decide_eq_false h]; exact right_no a b w h

theorem panes_yes (a b : Int) (w : World) (h : RightP a b) :
    Calls Try.prog 10 #[.int .i64 a, .int .i64 b] w fun e w' => e = .returned (.int .i64 (most a b)) ∧ w = w' := by
  have H := Lib.hid h
  obtain ⟨h1, h2, h3, h4⟩ := h
  go_enter Try.func10, Try.ntmps10
  go_wp2_with (first
    | (go_at_call 14; (with_reducible refine (right_yes _ _ _ H.out).mono ?_); rintro e w' ⟨rfl, rfl⟩)
    | (go_at_call 16; (with_reducible refine (most_any _ _ _ (by omega) (by omega) (by omega)).mono ?_); rintro e w' ⟨rfl, rfl⟩))
  go_ret
  exact ⟨rfl, rfl⟩
theorem panes_no (a b : Int) (w : World) (h : ¬ RightP a b) :
    Calls Try.prog 10 #[.int .i64 a, .int .i64 b] w fun e w' => e = .returned (.int .i64 0) ∧ w = w' := by
  have H := Lib.hid h
  clear h
  go_enter Try.func10, Try.ntmps10
  go_wp2_with (first
    | (go_at_call 14; (with_reducible refine (right_no _ _ _ H.out).mono ?_); rintro e w' ⟨rfl, rfl⟩))
  go_ret
  exact ⟨rfl, rfl⟩

theorem info3 : (Try.prog.info? 3).map (fun i => (i.zero, i.size, i.bytes)) = some (some (.int .i64 0), 1, 8) := by kernel_rfl
theorem ints_length (l : List Int) : (ints l).length = l.length * 1 := by simp [ints]
theorem ints_append (l m : List Int) : ints (l ++ m) = ints l ++ ints m := by simp [ints]

set_option maxHeartbeats 1000000 in
theorem starts_yes (t a b : Int) (w : World) (h : RightP a b) (ht0 : 0 ≤ t) (ht1 : t ≤ 1099511627776) :
    Calls Try.prog 9 #[.int .i64 t, .int .i64 a, .int .i64 b] w (RetL w (starts t a b)) := by
  have hS : starts t a b = upTo (t - t % b) b (kOf t a b).toNat := by unfold starts; rw [if_pos ⟨h, ht0, ht1⟩]
  rw [hS]
  have hk1 := kOf_pos t a b h ht0
  have hk2 := kOf_le_most t a b h
  have HC := Lib.hid (cond_iff t a b h.1)
  have H := Lib.hid h
  obtain ⟨h1, h2, h3, h4⟩ := h
  have hmb := most_bd a b h1 h2 h3
  have hne : (b == 0) = false := by simp; omega
  obtain ⟨L, hL⟩ : ∃ L, upTo (t - t % b) b (kOf t a b).toNat = L := ⟨_, rfl⟩
  obtain ⟨k, hk⟩ : ∃ k : Nat, (k : Int) = kOf t a b := ⟨(kOf t a b).toNat, by omega⟩
  rw [← hk] at hL hk1 hk2
  rw [← hk, hL]
  have hr0 := Int.emod_nonneg t (show b ≠ 0 by omega)
  have hr1 := Int.emod_lt_of_pos t (show 0 < b by omega)
  have hr2 : t % b ≤ t := by
    have h5 := Int.mul_ediv_add_emod t b
    have h6 := Int.mul_nonneg (show 0 ≤ b by omega) (Int.ediv_nonneg ht0 (show 0 ≤ b by omega))
    omega
  have HL := Lib.hid hL
  have HK := Lib.hid hk
  obtain ⟨i0, hi3, hz0, hz1, hz2⟩ := info_parts info3
  have HI := Lib.hid (And.intro hi3 (And.intro hz0 (And.intro hz1 hz2)))
  clear hi3 hz0 hz1 hz2 hL hk hS
  obtain ⟨m, hm⟩ : ∃ m : Nat, (m : Int) = most a b := ⟨(most a b).toNat, by omega⟩
  have HM := Lib.hid hm
  rw [← hm] at hk2 hmb h4
  clear hm
  go_enter Try.func9, Try.ntmps9
  go_wp2_with (first
    | (go_at_call 14; (with_reducible refine (right_yes _ _ _ H.out).mono ?_); rintro e w' ⟨rfl, rfl⟩)
    | (go_at_call 16; (with_reducible refine (most_any _ _ _ (by omega) (by omega) (by omega)).mono ?_); rintro e w' ⟨rfl, rfl⟩; rw [← HM.out]))
  go_loopg [7, 9] m (fun g v7 v9 wr => ∃ (j : Nat) (n' : Int) (D : List Int), g = j ∧ j ≤ m ∧ n' = j - 1 ∧ v9 = .int .i64 n' ∧ D ++ upTo (t - t % b) b (min j k) = L ∧
    wr.ownsRow w.heap.size 3 1 v7 D.length (ints D) ∧ Below w.heap.size w wr)
  case atStart => exact ⟨m, _, [], rfl, by omega, rfl, rfl, by rw [List.nil_append, ← HL.out]; congr 1; omega, World.ownsRow_nil _ _ _ _, Below.refl _ _⟩
  case round =>
    obtain ⟨j, n', D, rfl, hjm, hn', rfl, hD, hown, hb⟩ := hrel
    have HB := Lib.hid hb
    have hz := hb.size
    have HO := Lib.hid hown
    have HD := Lib.hid hD
    clear hb hown hD
    cases gk with
    | zero =>
      obtain rfl : n' = -1 := by omega
      clear hn'
      go_wp2
      go_ret
      have hDL : D = L := by have := HD.out; simp [upTo] at this; exact this
      exact ⟨_, rfl, by rw [← hDL]; exact HO.out, HB.out⟩
    | succ n =>
      obtain rfl : n' = n := by omega
      clear hn'
      have hp0 : 0 ≤ (n : Int) * b := Int.mul_nonneg (by omega) (by omega)
      have hp1 : (n : Int) * b ≤ 8 * 1048576 := by
        have h5 : (n : Int) * b ≤ 8 * b := Int.mul_le_mul_of_nonneg_right (by omega) (by omega)
        omega
      have hcond := HC.out n
      rw [← HK.out] at hcond
      by_cases hlt : n < k
      · obtain ⟨hc1, hc2⟩ := hcond.2 (by omega)
        clear hcond
        have hD2 : (D ++ [t - t % b - n * b]) ++ upTo (t - t % b) b (min n k) = L := by
          rw [← HD.out, show min (n + 1) k = n + 1 by omega, show min n k = n by omega]
          simp [upTo]
        have HD2 := Lib.hid hD2
        clear hD2
        have hlen : D.length ≤ k := by
          have := congrArg List.length HD.out
          rw [← HL.out, List.length_append, upTo_length, upTo_length] at this
          omega
        go_wp2_with (at_builtin; refine wpList_append_own _ rfl (.tmp 50) (.tmp 52) 23 rfl w.heap.size 3 i0 _ 1 8 Try.underlying23 HI.out.1 HI.out.2.1 HI.out.2.2.1 HI.out.2.2.2 rfl (by decide) u7 D.length _ rfl (HO.out.alloc _) ⟨wr.heap.size, 0, none⟩ 1 1 [.int .i64 (t - t % b - n * b)] rfl rfl (row_cells _ _ _) (by simp [Value.oneCell']) (by unfold maxLen; omega) (by omega) (by simp; omega) ?_; intro v' w5 hown5 hgrow5 _; have HO5 := Lib.hid hown5; have HB5 := Lib.hid ((HB.out.alloc HB.out.size (.cells #[.int .i64 (t - t % b - n * b)] 3)).grown hgrow5 (by simp; omega) (fun q hq => (HO.out.lt q hq).1)); clear hown5 hgrow5)
        go_roundg n
        case measure => omega
        case rel => exact ⟨n, _, _, rfl, by omega, rfl, rfl, HD2.out, by rw [List.length_append, ints_append]; exact HO5.out, HB5.out⟩
      · have hnc : ¬ (0 ≤ t - t % b - n * b) ∨ (0 ≤ t - t % b - n * b ∧ ¬ (t - a < t - t % b - n * b)) := by
          have := fun h => hlt (by have := hcond.1 h; omega)
          omega
        clear hcond
        have hD2 : D ++ upTo (t - t % b) b (min n k) = L := by
          rw [← HD.out, show min (n + 1) k = k by omega, show min n k = k by omega]
        have HD2 := Lib.hid hD2
        clear hD2
        rcases hnc with hc | ⟨hc, hc2⟩
        all_goals
          go_wp2
          go_roundg n
          case measure => omega
          case rel => exact ⟨n, _, D, rfl, by omega, rfl, rfl, HD2.out, HO.out, HB.out⟩
end Go.Proofs.Ytmdcbpmmmklghaa
