/- The walk of ClockPlays. -/
import Derived.Test.YtpocodnhddgpgaaClk
import Derived.Test.YtpocodnhddgpgaaOpen
namespace Go.Proofs.Ytpocodnhddgpgaa
open Go.RowKit Go.ChangeShapes Go.WideShapes

/-- a slice of calls, as it is read -/
structure Asks (w : World) (a : Option Addr) (n : Nat) (b o : Nat) (T : Nat → Int) (A C : Nat → Bool) : Prop where
  hd : 0 < n → a = some ⟨b, o, none⟩
  lt : 0 < n → b < w.heap.size
  c0 : ∀ i, i < n → w.cell? ⟨b, o + i * 3, none⟩ = some (.int .i64 (T i))
  c1 : ∀ i, i < n → w.cell? ⟨b, o + i * 3 + 1, none⟩ = some (.bool (A i))
  c2 : ∀ i, i < n → w.cell? ⟨b, o + i * 3 + 2, none⟩ = some (.bool (C i))

theorem asks_of {w : World} {a : Option Addr} {len cap : Nat} (h : Rd Try.prog w 27 [.slice a len cap]) : len ≤ maxLen ∧ ∃ b o T A C, Asks w a len b o T A C := by
  obtain ⟨a', len', cap', he, h1, h2, b, o, hd, hr⟩ := h.slice Try.underlying27 (sz := 3) (by kernel_rfl) (by omega)
  simp at he
  obtain ⟨rfl, rfl, rfl⟩ := he
  have each : ∀ i, i < len → ∃ q : Int × Bool × Bool, w.cell? ⟨b, o + i * 3, none⟩ = some (.int .i64 q.1) ∧ w.cell? ⟨b, o + i * 3 + 1, none⟩ = some (.bool q.2.1) ∧ w.cell? ⟨b, o + i * 3 + 2, none⟩ = some (.bool q.2.2) := by
    intro i hi
    obtain ⟨es, h3, h4, h5⟩ := hr i hi
    obtain ⟨_, hf⟩ := h3.struct Try.underlying29
    obtain ⟨x0, x1, x2, rfl⟩ : ∃ x0 x1 x2, es = [x0, x1, x2] := by
      match es, h4 with
      | [x0, x1, x2], _ => exact ⟨x0, x1, x2, rfl⟩
    have g0 : Rd Try.prog w 3 (List.take (Try.prog.cellsOf 3) (List.drop 0 [x0, x1, x2])) := hf 0 _ rfl
    have g1 : Rd Try.prog w 4 (List.take (Try.prog.cellsOf 4) (List.drop 1 [x0, x1, x2])) := hf 1 _ rfl
    have g2 : Rd Try.prog w 4 (List.take (Try.prog.cellsOf 4) (List.drop 2 [x0, x1, x2])) := hf 2 _ rfl
    have hc3 : Try.prog.cellsOf 3 = 1 := by kernel_rfl
    have hc4 : Try.prog.cellsOf 4 = 1 := by kernel_rfl
    rw [hc3] at g0
    rw [hc4] at g1 g2
    simp only [List.drop_zero, List.take_succ_cons, List.take_zero, List.drop_succ_cons] at g0 g1 g2
    obtain ⟨n0, e0, _⟩ := g0.int Try.underlying3
    obtain ⟨n1, e1⟩ := g1.bool Try.underlying4
    obtain ⟨n2, e2⟩ := g2.bool Try.underlying4
    simp at e0 e1 e2
    subst e0 e1 e2
    exact ⟨(n0, n1, n2), by simpa using h5 0 (by omega), by simpa [Nat.add_assoc] using h5 1 (by omega), by simpa [Nat.add_assoc] using h5 2 (by omega)⟩
  obtain ⟨q, hq⟩ := Go.Deep.choose_lt each
  exact ⟨by omega, b, o, fun i => (q i).1, fun i => (q i).2.1, fun i => (q i).2.2, hd, fun hp => World.block_lt_of_cell? w _ (hq 0 hp).1, fun i hi => (hq i hi).1, fun i hi => (hq i hi).2.1, fun i hi => (hq i hi).2.2⟩
theorem Asks.below {w w' : World} {a : Option Addr} {n b o : Nat} {T : Nat → Int} {A C : Nat → Bool} (h : Asks w a n b o T A C) (hb : Below w.heap.size w w') : Asks w' a n b o T A C := by
  refine ⟨h.hd, fun hp => Nat.lt_of_lt_of_le (h.lt hp) hb.size, fun i hi => ?_, fun i hi => ?_, fun i hi => ?_⟩
  · rw [hb.cell (p := ⟨b, _, none⟩) (h.lt (by omega))]; exact h.c0 i hi
  · rw [hb.cell (p := ⟨b, _, none⟩) (h.lt (by omega))]; exact h.c1 i hi
  · rw [hb.cell (p := ⟨b, _, none⟩) (h.lt (by omega))]; exact h.c2 i hi

set_option maxRecDepth 100000 in
set_option maxHeartbeats 4000000 in
theorem plays_any (W : World) (a : Option Addr) (len cap : Nat) (hr : Rd Try.prog W 27 [.slice a len cap]) :
    Calls Try.prog 4 #[.slice a len cap] W fun e w' => e = .returned (.bool true) ∧ Below W.heap.size W w' := by
  obtain ⟨hlen, b, o, T, A, C, hA⟩ := asks_of hr
  have HA := Lib.hid hA
  unfold maxLen at hlen
  clear hr hA
  go_enter Try.func4, Try.ntmps4
  go_wp2
  have HB := Lib.hid ((Below.refl W.heap.size W).alloc (Nat.le_refl _) (.cells #[.int .i64 0, .int .i64 0, .int .i64 0] 23))
  go_loopg [4, 5, 6, 7] 40 (fun g v4 v5 v6 v7 wr => ∃ (i : Nat) (m l s : Int), i ≤ 40 ∧ g = 40 - i ∧ v4 = .int .i64 m ∧ v5 = .int .i64 l ∧ v6 = .int .i64 s ∧ v7 = .int .i64 i ∧
    0 ≤ m ∧ m ≤ 1099512676352 ∧ 0 ≤ l ∧ l ≤ i ∧ 0 ≤ s ∧ s ≤ i ∧ ClkAt wr W.heap.size 0 m l s ∧ Below W.heap.size W wr)
  case atStart => exact ⟨0, 0, 0, 0, by omega, rfl, rfl, rfl, rfl, rfl, by omega, by omega, by omega, by omega, by omega, by omega, clk_new _ _ _ _, HB.out⟩
  case round =>
    clear HB
    obtain ⟨i, m, l, s, hi, rfl, rfl, rfl, rfl, rfl, hm0, hm1, hl0, hl1, hs0, hs1, hk, hb⟩ := hrel
    have HK := Lib.hid hk
    have HB := Lib.hid hb
    have HA' := Lib.hid (HA.out.below hb)
    have hbs : W.heap.size < wr.heap.size := hk.lt
    clear hk hb
    by_cases hlt : i < len
    · by_cases h40 : i < 40
      · obtain ⟨h1, h2, h3, h4, h5⟩ := HA'.out
        obtain rfl := h1 (by omega)
        have hc0 := h3 i hlt
        have hc1 := h4 i hlt
        have hc2 := h5 i hlt
        have hbb := h2 (by omega)
        clear h1 h2 h3 h4 h5
        cases hC : C i
        · rw [hC] at hc2
          clear hC
          obtain ⟨t, ht⟩ : ∃ t, t = T i := ⟨_, rfl⟩
          rw [← ht] at hc0
          clear ht
          have HB1 := Lib.hid (HB.out.alloc (by omega) (.cells #[.int .i64 t, .bool (A i), .bool false] 29))
          have HK1 := Lib.hid (HK.out.alloc (.cells #[.int .i64 t, .bool (A i), .bool false] 29))
          have hne : ¬ W.heap.size = wr.heap.size := by omega
          have hne' : ¬ wr.heap.size = W.heap.size := by omega
          cases hA2 : A i
          · rw [hA2] at hc1 HB1 HK1
            have case1 : t < 0 ∨ 1099511627776 < t ∨ (0 ≤ t ∧ t ≤ 1099511627776 ∧ t < m) ∨ (0 ≤ t ∧ t ≤ 1099511627776 ∧ m ≤ t) := by omega
            rcases case1 with ht1 | ht1 | ⟨ht1, ht2, ht3⟩ | ⟨ht1, ht2, ht3⟩
            · go_wp2_with (first
                | (go_at_call 8; (with_reducible refine (on_out_n _ _ _ _ _ _ _ HK1.out (by omega)).mono ?_); rintro e w1 ⟨rfl, hk1⟩; have hz1 : W.heap.size < w1.heap.size := hk1.at_.lt; have HB2 := Lib.hid (hk1.below HB1.out (by simp; omega) (by omega)); have HK2 := Lib.hid hk1.at_; obtain ⟨k0, k1, k2, f0, f1, f2⟩ := hk1.at_; obtain ⟨hcc, hff⟩ := hk1.cells; clear hk1)
                | (go_at_call 11; refine (mark_any _ _ _ _).mono ?_; rintro e w3 ⟨rfl, hb⟩; obtain ⟨hc, hf⟩ := bcell hb; have hz2 := (by have := hb.size; omega : W.heap.size < w3.heap.size); have HB3 := Lib.hid (below_step HB2.out hb); have HK3 := Lib.hid (HK2.out.below hb); clear HB2 HK2; have HB2 := HB3; have HK2 := HK3; clear HB3 HK3 hb)
                | (go_at_call 9; refine (late_any _ _ _ _).mono ?_; rintro e w3 ⟨rfl, hb⟩; obtain ⟨hc, hf⟩ := bcell hb; have hz2 := (by have := hb.size; omega : W.heap.size < w3.heap.size); have HB3 := Lib.hid (below_step HB2.out hb); have HK3 := Lib.hid (HK2.out.below hb); clear HB2 HK2; have HB2 := HB3; have HK2 := HK3; clear HB3 HK3 hb)
                | (go_at_call 10; refine (seen_any _ _ _ _).mono ?_; rintro e w3 ⟨rfl, hb⟩; obtain ⟨hc, hf⟩ := bcell hb; have hz2 := (by have := hb.size; omega : W.heap.size < w3.heap.size); have HB3 := Lib.hid (below_step HB2.out hb); have HK3 := Lib.hid (HK2.out.below hb); clear HB2 HK2; have HB2 := HB3; have HK2 := HK3; clear HB3 HK3 hb))
              go_roundg (40 - (i + 1))
              case measure => omega
              case rel => exact ⟨i + 1, _, _, _, by omega, rfl, rfl, rfl, rfl, by go_num, by omega, by omega, by omega, by omega, by omega, by omega, HK2.out, HB2.out⟩
            · go_wp2_with (first
                | (go_at_call 8; (with_reducible refine (on_out_n _ _ _ _ _ _ _ HK1.out (by omega)).mono ?_); rintro e w1 ⟨rfl, hk1⟩; have hz1 : W.heap.size < w1.heap.size := hk1.at_.lt; have HB2 := Lib.hid (hk1.below HB1.out (by simp; omega) (by omega)); have HK2 := Lib.hid hk1.at_; obtain ⟨k0, k1, k2, f0, f1, f2⟩ := hk1.at_; obtain ⟨hcc, hff⟩ := hk1.cells; clear hk1)
                | (go_at_call 11; refine (mark_any _ _ _ _).mono ?_; rintro e w3 ⟨rfl, hb⟩; obtain ⟨hc, hf⟩ := bcell hb; have hz2 := (by have := hb.size; omega : W.heap.size < w3.heap.size); have HB3 := Lib.hid (below_step HB2.out hb); have HK3 := Lib.hid (HK2.out.below hb); clear HB2 HK2; have HB2 := HB3; have HK2 := HK3; clear HB3 HK3 hb)
                | (go_at_call 9; refine (late_any _ _ _ _).mono ?_; rintro e w3 ⟨rfl, hb⟩; obtain ⟨hc, hf⟩ := bcell hb; have hz2 := (by have := hb.size; omega : W.heap.size < w3.heap.size); have HB3 := Lib.hid (below_step HB2.out hb); have HK3 := Lib.hid (HK2.out.below hb); clear HB2 HK2; have HB2 := HB3; have HK2 := HK3; clear HB3 HK3 hb)
                | (go_at_call 10; refine (seen_any _ _ _ _).mono ?_; rintro e w3 ⟨rfl, hb⟩; obtain ⟨hc, hf⟩ := bcell hb; have hz2 := (by have := hb.size; omega : W.heap.size < w3.heap.size); have HB3 := Lib.hid (below_step HB2.out hb); have HK3 := Lib.hid (HK2.out.below hb); clear HB2 HK2; have HB2 := HB3; have HK2 := HK3; clear HB3 HK3 hb))
              go_roundg (40 - (i + 1))
              case measure => omega
              case rel => exact ⟨i + 1, _, _, _, by omega, rfl, rfl, rfl, rfl, by go_num, by omega, by omega, by omega, by omega, by omega, by omega, HK2.out, HB2.out⟩
            · go_wp2_with (first
                | (go_at_call 8; (with_reducible refine (on_late _ _ _ _ _ _ _ HK1.out (by omega) (by omega) (by omega) (by omega) (by omega) (by omega) (by omega)).mono ?_); rintro e w1 ⟨rfl, hk1⟩; have hz1 : W.heap.size < w1.heap.size := hk1.at_.lt; have HB2 := Lib.hid (hk1.below HB1.out (by simp; omega) (by omega)); have HK2 := Lib.hid hk1.at_; obtain ⟨k0, k1, k2, f0, f1, f2⟩ := hk1.at_; obtain ⟨hcc, hff⟩ := hk1.cells; clear hk1)
                | (go_at_call 11; refine (mark_any _ _ _ _).mono ?_; rintro e w3 ⟨rfl, hb⟩; obtain ⟨hc, hf⟩ := bcell hb; have hz2 := (by have := hb.size; omega : W.heap.size < w3.heap.size); have HB3 := Lib.hid (below_step HB2.out hb); have HK3 := Lib.hid (HK2.out.below hb); clear HB2 HK2; have HB2 := HB3; have HK2 := HK3; clear HB3 HK3 hb)
                | (go_at_call 9; refine (late_any _ _ _ _).mono ?_; rintro e w3 ⟨rfl, hb⟩; obtain ⟨hc, hf⟩ := bcell hb; have hz2 := (by have := hb.size; omega : W.heap.size < w3.heap.size); have HB3 := Lib.hid (below_step HB2.out hb); have HK3 := Lib.hid (HK2.out.below hb); clear HB2 HK2; have HB2 := HB3; have HK2 := HK3; clear HB3 HK3 hb)
                | (go_at_call 10; refine (seen_any _ _ _ _).mono ?_; rintro e w3 ⟨rfl, hb⟩; obtain ⟨hc, hf⟩ := bcell hb; have hz2 := (by have := hb.size; omega : W.heap.size < w3.heap.size); have HB3 := Lib.hid (below_step HB2.out hb); have HK3 := Lib.hid (HK2.out.below hb); clear HB2 HK2; have HB2 := HB3; have HK2 := HK3; clear HB3 HK3 hb))
              go_roundg (40 - (i + 1))
              case measure => omega
              case rel => exact ⟨i + 1, _, _, _, by omega, rfl, rfl, rfl, rfl, by go_num, by omega, by omega, by omega, by omega, by omega, by omega, HK2.out, HB2.out⟩
            · go_wp2_with (first
                | (go_at_call 8; (with_reducible refine (on_in _ _ _ _ _ _ _ HK1.out (by omega) (by omega) (by omega) (by omega) (by omega)).mono ?_); rintro e w1 ⟨rfl, hk1⟩; have hz1 : W.heap.size < w1.heap.size := hk1.at_.lt; have HB2 := Lib.hid (hk1.below HB1.out (by simp; omega) (by omega)); have HK2 := Lib.hid hk1.at_; obtain ⟨k0, k1, k2, f0, f1, f2⟩ := hk1.at_; obtain ⟨hcc, hff⟩ := hk1.cells; clear hk1)
                | (go_at_call 11; refine (mark_any _ _ _ _).mono ?_; rintro e w3 ⟨rfl, hb⟩; obtain ⟨hc, hf⟩ := bcell hb; have hz2 := (by have := hb.size; omega : W.heap.size < w3.heap.size); have HB3 := Lib.hid (below_step HB2.out hb); have HK3 := Lib.hid (HK2.out.below hb); clear HB2 HK2; have HB2 := HB3; have HK2 := HK3; clear HB3 HK3 hb)
                | (go_at_call 9; refine (late_any _ _ _ _).mono ?_; rintro e w3 ⟨rfl, hb⟩; obtain ⟨hc, hf⟩ := bcell hb; have hz2 := (by have := hb.size; omega : W.heap.size < w3.heap.size); have HB3 := Lib.hid (below_step HB2.out hb); have HK3 := Lib.hid (HK2.out.below hb); clear HB2 HK2; have HB2 := HB3; have HK2 := HK3; clear HB3 HK3 hb)
                | (go_at_call 10; refine (seen_any _ _ _ _).mono ?_; rintro e w3 ⟨rfl, hb⟩; obtain ⟨hc, hf⟩ := bcell hb; have hz2 := (by have := hb.size; omega : W.heap.size < w3.heap.size); have HB3 := Lib.hid (below_step HB2.out hb); have HK3 := Lib.hid (HK2.out.below hb); clear HB2 HK2; have HB2 := HB3; have HK2 := HK3; clear HB3 HK3 hb))
              go_roundg (40 - (i + 1))
              case measure => omega
              case rel => exact ⟨i + 1, _, _, _, by omega, rfl, rfl, rfl, rfl, by go_num, by omega, by omega, by omega, by omega, by omega, by omega, HK2.out, HB2.out⟩
          · rw [hA2] at hc1 HB1 HK1
            have case1 : m < t ∧ t ≤ 1099512676352 ∨ t ≤ m ∨ m < t ∧ 1099512676352 < t := by omega
            rcases case1 with ⟨ht1, ht2⟩ | ht1 | ⟨ht1, ht2⟩
            · go_wp2_with (first
                | (go_at_call 7; (with_reducible refine (adv_yes _ _ _ _ _ _ _ HK1.out (by omega) (by omega)).mono ?_); rintro e w1 ⟨rfl, hk1⟩; have hz1 : W.heap.size < w1.heap.size := hk1.at_.lt; have HB2 := Lib.hid (hk1.below HB1.out (by simp; omega) (by omega)); have HK2 := Lib.hid hk1.at_; obtain ⟨k0, k1, k2, f0, f1, f2⟩ := hk1.at_; obtain ⟨hcc, hff⟩ := hk1.cells; clear hk1)
                | (go_at_call 11; refine (mark_any _ _ _ _).mono ?_; rintro e w3 ⟨rfl, hb⟩; obtain ⟨hc, hf⟩ := bcell hb; have hz2 := (by have := hb.size; omega : W.heap.size < w3.heap.size); have HB3 := Lib.hid (below_step HB2.out hb); have HK3 := Lib.hid (HK2.out.below hb); clear HB2 HK2; have HB2 := HB3; have HK2 := HK3; clear HB3 HK3 hb)
                | (go_at_call 9; refine (late_any _ _ _ _).mono ?_; rintro e w3 ⟨rfl, hb⟩; obtain ⟨hc, hf⟩ := bcell hb; have hz2 := (by have := hb.size; omega : W.heap.size < w3.heap.size); have HB3 := Lib.hid (below_step HB2.out hb); have HK3 := Lib.hid (HK2.out.below hb); clear HB2 HK2; have HB2 := HB3; have HK2 := HK3; clear HB3 HK3 hb)
                | (go_at_call 10; refine (seen_any _ _ _ _).mono ?_; rintro e w3 ⟨rfl, hb⟩; obtain ⟨hc, hf⟩ := bcell hb; have hz2 := (by have := hb.size; omega : W.heap.size < w3.heap.size); have HB3 := Lib.hid (below_step HB2.out hb); have HK3 := Lib.hid (HK2.out.below hb); clear HB2 HK2; have HB2 := HB3; have HK2 := HK3; clear HB3 HK3 hb))
              go_roundg (40 - (i + 1))
              case measure => omega
              case rel => exact ⟨i + 1, _, _, _, by omega, rfl, rfl, rfl, rfl, by go_num, by omega, by omega, by omega, by omega, by omega, by omega, HK2.out, HB2.out⟩
            · go_wp2_with (first
                | (go_at_call 7; (with_reducible refine (adv_no_n _ _ _ _ _ _ _ HK1.out (by omega)).mono ?_); rintro e w1 ⟨rfl, hk1⟩; have hz1 : W.heap.size < w1.heap.size := hk1.at_.lt; have HB2 := Lib.hid (hk1.below HB1.out (by simp; omega) (by omega)); have HK2 := Lib.hid hk1.at_; obtain ⟨k0, k1, k2, f0, f1, f2⟩ := hk1.at_; obtain ⟨hcc, hff⟩ := hk1.cells; clear hk1)
                | (go_at_call 11; refine (mark_any _ _ _ _).mono ?_; rintro e w3 ⟨rfl, hb⟩; obtain ⟨hc, hf⟩ := bcell hb; have hz2 := (by have := hb.size; omega : W.heap.size < w3.heap.size); have HB3 := Lib.hid (below_step HB2.out hb); have HK3 := Lib.hid (HK2.out.below hb); clear HB2 HK2; have HB2 := HB3; have HK2 := HK3; clear HB3 HK3 hb)
                | (go_at_call 9; refine (late_any _ _ _ _).mono ?_; rintro e w3 ⟨rfl, hb⟩; obtain ⟨hc, hf⟩ := bcell hb; have hz2 := (by have := hb.size; omega : W.heap.size < w3.heap.size); have HB3 := Lib.hid (below_step HB2.out hb); have HK3 := Lib.hid (HK2.out.below hb); clear HB2 HK2; have HB2 := HB3; have HK2 := HK3; clear HB3 HK3 hb)
                | (go_at_call 10; refine (seen_any _ _ _ _).mono ?_; rintro e w3 ⟨rfl, hb⟩; obtain ⟨hc, hf⟩ := bcell hb; have hz2 := (by have := hb.size; omega : W.heap.size < w3.heap.size); have HB3 := Lib.hid (below_step HB2.out hb); have HK3 := Lib.hid (HK2.out.below hb); clear HB2 HK2; have HB2 := HB3; have HK2 := HK3; clear HB3 HK3 hb))
              go_roundg (40 - (i + 1))
              case measure => omega
              case rel => exact ⟨i + 1, _, _, _, by omega, rfl, rfl, rfl, rfl, by go_num, by omega, by omega, by omega, by omega, by omega, by omega, HK2.out, HB2.out⟩
            · go_wp2_with (first
                | (go_at_call 7; (with_reducible refine (adv_no_n _ _ _ _ _ _ _ HK1.out (by omega)).mono ?_); rintro e w1 ⟨rfl, hk1⟩; have hz1 : W.heap.size < w1.heap.size := hk1.at_.lt; have HB2 := Lib.hid (hk1.below HB1.out (by simp; omega) (by omega)); have HK2 := Lib.hid hk1.at_; obtain ⟨k0, k1, k2, f0, f1, f2⟩ := hk1.at_; obtain ⟨hcc, hff⟩ := hk1.cells; clear hk1)
                | (go_at_call 11; refine (mark_any _ _ _ _).mono ?_; rintro e w3 ⟨rfl, hb⟩; obtain ⟨hc, hf⟩ := bcell hb; have hz2 := (by have := hb.size; omega : W.heap.size < w3.heap.size); have HB3 := Lib.hid (below_step HB2.out hb); have HK3 := Lib.hid (HK2.out.below hb); clear HB2 HK2; have HB2 := HB3; have HK2 := HK3; clear HB3 HK3 hb)
                | (go_at_call 9; refine (late_any _ _ _ _).mono ?_; rintro e w3 ⟨rfl, hb⟩; obtain ⟨hc, hf⟩ := bcell hb; have hz2 := (by have := hb.size; omega : W.heap.size < w3.heap.size); have HB3 := Lib.hid (below_step HB2.out hb); have HK3 := Lib.hid (HK2.out.below hb); clear HB2 HK2; have HB2 := HB3; have HK2 := HK3; clear HB3 HK3 hb)
                | (go_at_call 10; refine (seen_any _ _ _ _).mono ?_; rintro e w3 ⟨rfl, hb⟩; obtain ⟨hc, hf⟩ := bcell hb; have hz2 := (by have := hb.size; omega : W.heap.size < w3.heap.size); have HB3 := Lib.hid (below_step HB2.out hb); have HK3 := Lib.hid (HK2.out.below hb); clear HB2 HK2; have HB2 := HB3; have HK2 := HK3; clear HB3 HK3 hb))
              go_roundg (40 - (i + 1))
              case measure => omega
              case rel => exact ⟨i + 1, _, _, _, by omega, rfl, rfl, rfl, rfl, by go_num, by omega, by omega, by omega, by omega, by omega, by omega, HK2.out, HB2.out⟩
        · rw [hC] at hc2
          clear hC
          obtain ⟨k0, k1, k2, f0, f1, f2⟩ := HK.out
          have HB1 := Lib.hid ((HB.out.alloc (by omega) (.cells #[.int .i64 (T i), .bool (A i), .bool true] 29)).alloc (by simp; omega) (.cells #[.int .i64 m, .int .i64 l, .int .i64 s] 23))
          have HK1 := Lib.hid ((HK.out.alloc (.cells #[.int .i64 (T i), .bool (A i), .bool true] 29)).alloc (.cells #[.int .i64 m, .int .i64 l, .int .i64 s] 23))
          go_wp2_with (first
            | (go_at_call 8; (with_reducible refine (on_some _ _ _ _ _ _ _ (clk_new1 _ _ _ _ _) (by omega) (by omega) (by omega) (by omega)).mono ?_); rintro e w1 ⟨v1, m1, l1, s1, rfl, hk1⟩; have HN1 := Lib.hid hk1; clear hk1)
            | (go_at_call 7; (with_reducible refine (adv_some _ _ _ _ _ _ _ HN1.out.at_).mono ?_); rintro e w2 ⟨v2, m2, l2, s2, rfl, hk2⟩; have HN2 := Lib.hid hk2; clear hk2))
          go_roundg (40 - (i + 1))
          case measure => omega
          case rel =>
            exact ⟨i + 1, m, l, s, by omega, rfl, rfl, rfl, rfl, by go_num, hm0, hm1, hl0, by omega, hs0, by omega, HN2.out.far (HN1.out.far HK1.out (by omega)) (by omega),
              HN2.out.below (HN1.out.below HB1.out (by simp; omega) (by omega)) (by have := HN1.out.gr.size; simp at this; omega) (by omega)⟩
      · go_wp2_with (go_at_call 3; refine (runs_any _).mono ?_; rintro e w1 ⟨rfl, hb⟩; have HB1 := Lib.hid (below_step HB.out hb); clear hb)
        go_ret
        exact ⟨rfl, HB1.out⟩
    · go_wp2_with (go_at_call 3; refine (runs_any _).mono ?_; rintro e w1 ⟨rfl, hb⟩; have HB1 := Lib.hid (below_step HB.out hb); clear hb)
      go_ret
      exact ⟨rfl, HB1.out⟩

end Go.Proofs.Ytpocodnhddgpgaa
