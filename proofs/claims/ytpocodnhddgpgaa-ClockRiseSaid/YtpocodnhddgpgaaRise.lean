/- The walk of ClockRise. -/
import Derived.Test.YtpocodnhddgpgaaClk
import Derived.Test.YtpocodnhddgpgaaOpen
namespace Go.Proofs.Ytpocodnhddgpgaa
open Go.RowKit Go.ChangeShapes Go.WideShapes

theorem within0 (n lo hi : Int) (h : lo ≤ hi) : ∃ t, within n lo hi = t ∧ lo ≤ t ∧ t ≤ hi := ⟨_, rfl, within_bd n lo hi h⟩

set_option maxRecDepth 100000 in
set_option maxHeartbeats 4000000 in
theorem rise_any (W : World) (a1 : Option Addr) (len1 cap1 : Nat) (hr1 : Rd Try.prog W 31 [.slice a1 len1 cap1]) (a2 : Option Addr) (len2 cap2 : Nat) (hr2 : Rd Try.prog W 31 [.slice a2 len2 cap2]) (odd : Int) (_hodd : (Lit.int .i64 odd).wf = true) :
    Calls Try.prog 5 #[.slice a1 len1 cap1, .slice a2 len2 cap2, .int .i64 odd] W fun e w' => e = .returned (.bool true) ∧ Below W.heap.size W w' := by
  obtain ⟨hlen1, b1, o1, X1, hA1⟩ := ints_of hr1 Try.underlying31 Try.underlying3 (by kernel_rfl)
  obtain ⟨hlen2, b2, o2, X2, hA2⟩ := ints_of hr2 Try.underlying31 Try.underlying3 (by kernel_rfl)
  have HA1 := Lib.hid hA1
  have HA2 := Lib.hid hA2
  unfold maxLen at hlen1 hlen2
  clear hr1 hr2 hA1 hA2
  go_enter Try.func5, Try.ntmps5
  go_wp2
  have HB := Lib.hid ((Below.refl W.heap.size W).alloc (Nat.le_refl _) (.cells #[.int .i64 0, .int .i64 0, .int .i64 0] 23))
  go_loopg [8, 9] 15 (fun g v8 v9 wr => ∃ (i : Nat) (m : Int), i ≤ 15 ∧ g = 15 - i ∧ v8 = .int .i64 m ∧ v9 = .int .i64 i ∧
    0 ≤ m ∧ m ≤ 500 ∧ ClkAt wr W.heap.size 0 m 0 0 ∧ Below W.heap.size W wr)
  case atStart => exact ⟨0, 0, by omega, rfl, rfl, rfl, by omega, by omega, clk_new _ _ _ _, HB.out⟩
  case round =>
    clear HB
    obtain ⟨i, m, hi, rfl, rfl, rfl, hm0, hm1, hk, hb⟩ := hrel
    have HK := Lib.hid hk
    have HB := Lib.hid hb
    have hbs : W.heap.size < wr.heap.size := hk.lt
    clear hk hb
    by_cases hlt : i < len1 ∧ i < 15
    · obtain ⟨hlt, h15⟩ := hlt
      obtain ⟨h1, h2, h3, h4⟩ := HA1.out.below HB.out
      obtain rfl := h1 (by omega)
      have hc0 := h3 i hlt
      clear h1 h2 h3 h4
      obtain ⟨t, ht, ht0, ht1⟩ := within0 (X1 i) 0 500 (by omega)
      have HT := Lib.hid ht
      clear ht
      have case1 : m < t ∨ t ≤ m := by omega
      rcases case1 with ht2 | ht2
      · go_wp2_with (first
          | (go_at_call 12; (with_reducible refine (within_any _ _ _ _ (by omega) (by omega) (by omega)).mono ?_); rintro e w1 ⟨rfl, rfl⟩; rw [HT.out])
          | (go_at_call 7; (with_reducible refine (adv_yes _ _ _ _ _ _ _ HK.out (by omega) (by omega)).mono ?_); rintro e w1 ⟨rfl, hk1⟩; have hz1 : W.heap.size < w1.heap.size := hk1.at_.lt; have HB2 := Lib.hid (hk1.below HB.out (by omega) (by omega)); have HK2 := Lib.hid hk1.at_; obtain ⟨k0, k1, k2, f0, f1, f2⟩ := hk1.at_; obtain ⟨hcc, hff⟩ := hk1.cells; clear hk1)
          | (go_at_call 11; refine (mark_any _ _ _ _).mono ?_; rintro e w3 ⟨rfl, hb⟩; obtain ⟨hc, hf⟩ := bcell hb; have hz2 := (by have := hb.size; omega : W.heap.size < w3.heap.size); have HB3 := Lib.hid (below_step HB2.out hb); have HK3 := Lib.hid (HK2.out.below hb); clear HB2 HK2; have HB2 := HB3; have HK2 := HK3; clear HB3 HK3 hb))
        go_roundg (15 - (i + 1))
        case measure => omega
        case rel => exact ⟨i + 1, _, by omega, rfl, rfl, by go_num, by omega, by omega, HK2.out, HB2.out⟩
      · go_wp2_with (first
          | (go_at_call 12; (with_reducible refine (within_any _ _ _ _ (by omega) (by omega) (by omega)).mono ?_); rintro e w1 ⟨rfl, rfl⟩; rw [HT.out])
          | (go_at_call 7; (with_reducible refine (adv_no_n _ _ _ _ _ _ _ HK.out (by omega)).mono ?_); rintro e w1 ⟨rfl, hk1⟩; have hz1 : W.heap.size < w1.heap.size := hk1.at_.lt; have HB2 := Lib.hid (hk1.below HB.out (by omega) (by omega)); have HK2 := Lib.hid hk1.at_; obtain ⟨k0, k1, k2, f0, f1, f2⟩ := hk1.at_; obtain ⟨hcc, hff⟩ := hk1.cells; clear hk1)
          | (go_at_call 11; refine (mark_any _ _ _ _).mono ?_; rintro e w3 ⟨rfl, hb⟩; obtain ⟨hc, hf⟩ := bcell hb; have hz2 := (by have := hb.size; omega : W.heap.size < w3.heap.size); have HB3 := Lib.hid (below_step HB2.out hb); have HK3 := Lib.hid (HK2.out.below hb); clear HB2 HK2; have HB2 := HB3; have HK2 := HK3; clear HB3 HK3 hb))
        go_roundg (15 - (i + 1))
        case measure => omega
        case rel => exact ⟨i + 1, _, by omega, rfl, rfl, by go_num, by omega, by omega, HK2.out, HB2.out⟩
    · have case1 : len1 ≤ i ∨ i < len1 ∧ 15 ≤ i := by omega
      clear hlt
      obtain ⟨wo, rfl⟩ : ∃ wo : World, wo = wr := ⟨_, rfl⟩
      rcases case1 with hx | ⟨hx, hx2⟩
      all_goals
        go_wp2
        go_loopg [11, 12, 13] 20 (fun g v11 v12 v13 wr => ∃ (j : Nat) (l : Int), j ≤ 20 ∧ g = 20 - j ∧ v11 = .int .i64 l ∧ v12 = .int .i64 j ∧ v13 = .int .i64 j ∧
          0 ≤ l ∧ l ≤ j ∧ ClkAt wr W.heap.size 0 m l j ∧ Below W.heap.size W wr)
        case atStart => exact ⟨0, 0, by omega, rfl, rfl, rfl, rfl, by omega, by omega, HK.out, HB.out⟩
        case round =>
          clear HB HK hbs
          obtain ⟨j, l, hj, rfl, rfl, rfl, rfl, hl0, hl1, hk, hb⟩ := hrel
          have HK := Lib.hid hk
          have HB := Lib.hid hb
          have hbs : W.heap.size < wr.heap.size := hk.lt
          by_cases hlt : j < len2 ∧ j < 20
          · obtain ⟨hlt, h15⟩ := hlt
            clear hk hb
            obtain ⟨h1, h2, h3, h4⟩ := HA2.out.below HB.out
            obtain rfl := h1 (by omega)
            have hc0 := h3 j hlt
            clear h1 h2 h3 h4
            obtain ⟨t, ht, ht0, ht1⟩ := within0 (X2 j) 0 600 (by omega)
            have HT := Lib.hid ht
            clear ht
            have case1 : t < m ∨ m ≤ t := by omega
            rcases case1 with ht2 | ht2
            · go_wp2_with (first
                | (go_at_call 12; (with_reducible refine (within_any _ _ _ _ (by omega) (by omega) (by omega)).mono ?_); rintro e w1 ⟨rfl, rfl⟩; rw [HT.out])
                | (go_at_call 8; (with_reducible refine (on_late _ _ _ _ _ _ _ HK.out (by omega) (by omega) (by omega) (by omega) (by omega) (by omega) (by omega)).mono ?_); rintro e w1 ⟨rfl, hk1⟩; have hz1 : W.heap.size < w1.heap.size := hk1.at_.lt; have HB2 := Lib.hid (hk1.below HB.out (by omega) (by omega)); have HK2 := Lib.hid hk1.at_; obtain ⟨k0, k1, k2, f0, f1, f2⟩ := hk1.at_; obtain ⟨hcc, hff⟩ := hk1.cells; clear hk1))
              go_roundg (20 - (j + 1))
              case measure => omega
              case rel => exact ⟨j + 1, l + 1, by omega, rfl, rfl, by go_num, by go_num, by omega, by omega, by simpa using HK2.out, HB2.out⟩
            · go_wp2_with (first
                | (go_at_call 12; (with_reducible refine (within_any _ _ _ _ (by omega) (by omega) (by omega)).mono ?_); rintro e w1 ⟨rfl, rfl⟩; rw [HT.out])
                | (go_at_call 8; (with_reducible refine (on_in _ _ _ _ _ _ _ HK.out (by omega) (by omega) (by omega) (by omega) (by omega)).mono ?_); rintro e w1 ⟨rfl, hk1⟩; have hz1 : W.heap.size < w1.heap.size := hk1.at_.lt; have HB2 := Lib.hid (hk1.below HB.out (by omega) (by omega)); have HK2 := Lib.hid hk1.at_; obtain ⟨k0, k1, k2, f0, f1, f2⟩ := hk1.at_; obtain ⟨hcc, hff⟩ := hk1.cells; clear hk1))
              go_roundg (20 - (j + 1))
              case measure => omega
              case rel => exact ⟨j + 1, l, by omega, rfl, rfl, by go_num, by go_num, by omega, by omega, by simpa using HK2.out, HB2.out⟩
          · have case1 : len2 ≤ j ∨ j < len2 ∧ 20 ≤ j := by omega
            clear hlt
            obtain ⟨t, ht, ht0, ht1⟩ := within0 odd 0 1125899906842624 (by omega)
            have HT := Lib.hid ht
            have HB2 := Lib.hid hb
            have HK2 := Lib.hid hk
            obtain ⟨k0, k1, k2, f0, f1, f2⟩ := hk
            clear ht hb HB HK
            rcases case1 with hy | ⟨hy, hy2⟩
            all_goals
              go_wp2_with (first
                | (go_at_call 12; (with_reducible refine (within_any _ _ _ _ (by omega) (by omega) (by omega)).mono ?_); rintro e w1 ⟨rfl, rfl⟩; rw [HT.out])
                | (go_at_call 8; (with_reducible refine (on_out _ _ _ _ (by omega)).mono ?_); rintro e w1 ⟨rfl, rfl⟩)
                | (go_at_call 7; (with_reducible refine (adv_no _ _ _ _ _ _ _ HK2.out (by omega)).mono ?_); rintro e w1 ⟨rfl, rfl⟩)
                | (go_at_call 7; (with_reducible refine (adv_yes _ _ _ _ _ _ _ HK2.out (by omega) (by omega)).mono ?_); rintro e w1 ⟨rfl, hk1⟩; have HB5 := Lib.hid (hk1.below HB2.out (by omega) (by omega)); clear hk1)
                | (go_at_call 3; refine (runs_any _).mono ?_; rintro e w4 ⟨rfl, hb⟩; have HB4 := Lib.hid (below_step HB5.out hb); clear hb)
                | (go_at_call 11; refine (mark_any _ _ _ _).mono ?_; rintro e w3 ⟨rfl, hb⟩; obtain ⟨hc, hf⟩ := bcell hb; have hz2 := (by have := hb.size; omega : W.heap.size < w3.heap.size); have HB3 := Lib.hid (below_step HB2.out hb); have HK3 := Lib.hid (HK2.out.below hb); clear HB2 HK2; have HB2 := HB3; have HK2 := HK3; clear HB3 HK3 hb)
                | (go_at_call 9; refine (late_any _ _ _ _).mono ?_; rintro e w3 ⟨rfl, hb⟩; obtain ⟨hc, hf⟩ := bcell hb; have hz2 := (by have := hb.size; omega : W.heap.size < w3.heap.size); have HB3 := Lib.hid (below_step HB2.out hb); have HK3 := Lib.hid (HK2.out.below hb); clear HB2 HK2; have HB2 := HB3; have HK2 := HK3; clear HB3 HK3 hb)
                | (go_at_call 10; refine (seen_any _ _ _ _).mono ?_; rintro e w3 ⟨rfl, hb⟩; obtain ⟨hc, hf⟩ := bcell hb; have hz2 := (by have := hb.size; omega : W.heap.size < w3.heap.size); have HB3 := Lib.hid (below_step HB2.out hb); have HK3 := Lib.hid (HK2.out.below hb); clear HB2 HK2; have HB2 := HB3; have HK2 := HK3; clear HB3 HK3 hb))
              go_ret
              exact ⟨rfl, HB4.out⟩
end Go.Proofs.Ytpocodnhddgpgaa
