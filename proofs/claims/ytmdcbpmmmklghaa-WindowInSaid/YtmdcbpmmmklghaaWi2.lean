/- The contracts of the reference's two functions, of Last, Same, Within, and of WindowRuns. -/
import Derived.Test.YtmdcbpmmmklghaaWin
import Derived.Test.YtmdcbpmmmklghaaReg
namespace Go.Proofs.Ytmdcbpmmmklghaa
open Go.RowKit

theorem rright_yes (a b : Int) (w : World) (h : RightP a b) :
    Calls Try.prog 12 #[.int .i64 a, .int .i64 b] w fun e w' => e = .returned (.bool true) ∧ w = w' := by
  obtain ⟨h1, h2, h3, h4⟩ := h
  have hm := most_bd a b h1 h2 h3
  have hne : (b == 0) = false := by simp; omega
  have HE := Lib.hid (show (a + b - 1) / b = most a b from rfl)
  have hq1 : 0 ≤ (a + b - 1) / b := by rw [HE.out]; omega
  have hq2 : (a + b - 1) / b ≤ 8 := by rw [HE.out]; omega
  clear hm h4
  go_enter Try.func12, Try.ntmps12
  go_wp2
  go_ret
  exact ⟨rfl, rfl⟩
theorem rright_no (a b : Int) (w : World) (h : ¬ RightP a b) :
    Calls Try.prog 12 #[.int .i64 a, .int .i64 b] w fun e w' => e = .returned (.bool false) ∧ w = w' := by
  have h' : b < 1 ∨ (1 ≤ b ∧ a < b) ∨ (1 ≤ b ∧ b ≤ a ∧ 1048576 < a) ∨ (1 ≤ b ∧ b ≤ a ∧ a ≤ 1048576 ∧ 8 < most a b) := by
    unfold RightP at h
    omega
  clear h
  rcases h' with h1 | ⟨h1, h2⟩ | ⟨h1, h2, h3⟩ | ⟨h1, h2, h3, h4⟩
  · go_enter Try.func12, Try.ntmps12
    go_wp2
    go_ret
    exact ⟨rfl, rfl⟩
  · go_enter Try.func12, Try.ntmps12
    go_wp2
    go_ret
    exact ⟨rfl, rfl⟩
  · go_enter Try.func12, Try.ntmps12
    go_wp2
    go_ret
    exact ⟨rfl, rfl⟩
  · have hm := most_bd a b h1 h2 h3
    have hne : (b == 0) = false := by simp; omega
    have HE := Lib.hid (show (a + b - 1) / b = most a b from rfl)
    have hq1 : 0 ≤ (a + b - 1) / b := by rw [HE.out]; omega
    have hq2 : (a + b - 1) / b ≤ 1048576 := by rw [HE.out]; omega
    have h5 : decide ((a + b - 1) / b ≤ 8) = false := by simp; rw [HE.out]; omega
    clear hm h4
    go_enter Try.func12, Try.ntmps12
    go_wp2
    go_ret
    exact ⟨rfl, rfl⟩

theorem own_one (w : World) (x : Int) (base : Nat) (hb : base ≤ w.heap.size) : (w.alloc (.cells #[.int .i64 x] 3)).ownsRow base 3 1 (.slice (some ⟨w.heap.size, 0, none⟩) 1 1) 1 (ints [x]) :=
  ⟨rfl, .inr ⟨w.heap.size, 1, _, rfl, hb, heap_alloc_new w _, Nat.le_refl _, by unfold maxLen; omega, rfl, rfl⟩⟩
theorem cells_ints {w : World} {base g cap : Nat} {l : List Int} (h : w.ownsRow base 3 1 (.slice (some ⟨g, 0, none⟩) l.length cap) l.length (ints l)) :
    ∀ j u, (ints l)[j]? = some u → w.cell? ((⟨g, 0, none⟩ : Addr).add j) = some u := h.cells (g := g) rfl
theorem ints_one (l : List Int) : ∀ u ∈ ints l, u.oneCell' = true := by
  intro u hu
  simp only [ints, List.mem_map] at hu
  obtain ⟨_, _, rfl⟩ := hu
  rfl

set_option maxHeartbeats 1000000 in
theorem rstarts_yes (t a b : Int) (w : World) (h : RightP a b) (ht0 : 0 ≤ t) (ht1 : t ≤ 1099511627776) :
    Calls Try.prog 15 #[.int .i64 t, .int .i64 a, .int .i64 b] w (RetL w (starts t a b)) := by
  have hS : starts t a b = upTo (t - t % b) b (kOf t a b).toNat := by unfold starts; rw [if_pos ⟨h, ht0, ht1⟩]
  rw [hS]
  have hk1 := kOf_pos t a b h ht0
  have hk2 := kOf_le_most t a b h
  have HC := Lib.hid (cond_iff t a b h.1)
  have H := Lib.hid h
  obtain ⟨h1, h2, h3, h4⟩ := h
  have hne : (b == 0) = false := by simp; omega
  obtain ⟨L, hL⟩ : ∃ L, upTo (t - t % b) b (kOf t a b).toNat = L := ⟨_, rfl⟩
  obtain ⟨k, hk⟩ : ∃ k : Nat, (k : Int) = kOf t a b := ⟨(kOf t a b).toNat, by omega⟩
  rw [← hk] at hL hk1 hk2
  rw [← hk, hL]
  have hk8 : k ≤ 8 := by omega
  clear hk2 h4
  have hr0 := Int.emod_nonneg t (show b ≠ 0 by omega)
  have hr1 := Int.emod_lt_of_pos t (show 0 < b by omega)
  have h5 := Int.mul_ediv_add_emod t b
  have hd0 := Int.ediv_nonneg ht0 (show 0 ≤ b by omega)
  have hd2 : 0 ≤ t / b * b := Int.mul_nonneg hd0 (by omega)
  have hd3 : t / b * b ≤ t := by rw [Int.mul_comm]; omega
  have hd1 : t / b ≤ 1099511627776 := by
    have h6 : t / b * 1 ≤ t / b * b := Int.mul_le_mul_of_nonneg_left h1 hd0
    omega
  have hlast : t / b * b = t - t % b := by rw [Int.mul_comm]; omega
  have hr2 : t % b ≤ t := by omega
  have HLa := Lib.hid hlast
  have HL := Lib.hid hL
  have HK := Lib.hid hk
  obtain ⟨i0, hi3, hz0, hz1, hz2⟩ := info_parts info3
  have HI := Lib.hid (And.intro hi3 (And.intro hz0 (And.intro hz1 hz2)))
  clear hi3 hz0 hz1 hz2 hL hk hS h5 hlast
  go_enter Try.func15, Try.ntmps15
  go_wp2_with (first
    | (go_at_call 12; (with_reducible refine (rright_yes _ _ _ H.out).mono ?_); rintro e w' ⟨rfl, rfl⟩))
  go_loopg [7, 8] (k + 1) (fun g v7 v8 wr => ∃ (i : Nat) (s' : Int), g = k + 1 - i ∧ i ≤ k ∧ s' = t - t % b - i * b ∧ v8 = .int .i64 s' ∧ (i = 0 → v7 = .slice none 0 0) ∧
    wr.ownsRow w.heap.size 3 1 v7 i (ints (upTo (t - t % b) b i)) ∧ Below w.heap.size w wr)
  case atStart => exact ⟨0, _, by omega, by omega, by rw [HLa.out]; omega, rfl, fun _ => rfl, World.ownsRow_nil _ _ _ _, Below.refl _ _⟩
  case round =>
    obtain ⟨i, s', rfl, hik, hs', rfl, hnil, hown, hb⟩ := hrel
    have HB := Lib.hid hb
    have hz := hb.size
    have HO := Lib.hid hown
    have HS := Lib.hid hs'
    have hp0 : 0 ≤ (i : Int) * b := Int.mul_nonneg (by omega) (by omega)
    have hp1 : (i : Int) * b ≤ 8 * 1048576 := by
      have h5 : (i : Int) * b ≤ 8 * b := Int.mul_le_mul_of_nonneg_right (by omega) (by omega)
      omega
    have hs0 : -8388608 ≤ s' := by omega
    have hs1 : s' ≤ 1099511627776 := by omega
    have hcond := HC.out i
    rw [← HK.out, ← hs'] at hcond
    clear hb hs'
    by_cases hlt : i < k
    · obtain ⟨hc1, hc2⟩ := hcond.2 (by omega)
      have hc3 : t < s' + a := by omega
      clear hcond hc2
      have HU := Lib.hid (show ints [s'] ++ ints (upTo (t - t % b) b i) = ints (upTo (t - t % b) b (i + 1)) by rw [HS.out]; rfl)
      rcases Nat.eq_zero_or_pos i with hi0 | hi0
      · obtain rfl := hnil hi0
        subst hi0
        clear hown hnil
        go_wp2
        go_roundg k
        case measure => omega
        case rel => exact ⟨1, _, by omega, by omega, by rw [HS.out]; omega, rfl, fun h => absurd h (by omega), by have := own_one wr s' w.heap.size hz; rw [HS.out] at this ⊢; exact this, HB.out.alloc hz _⟩
      · have hlen := upTo_length (t - t % b) b i
        obtain ⟨gg, cap, rfl, hg1, hg2, hcap, hcap2, hcs⟩ := own_form hown hi0
        clear hown hnil hlen hcs
        go_wp2_with (at_builtin; refine wpList_append_own _ rfl (.tmp 40) (.tmp 41) 23 rfl w.heap.size 3 i0 _ 1 8 Try.underlying23 HI.out.1 HI.out.2.1 HI.out.2.2.1 HI.out.2.2.2 rfl (by decide) (.slice (some ⟨wr.heap.size, 0, none⟩) 1 1) 1 (ints [s']) rfl (own_one wr s' w.heap.size hz) ⟨gg, 0, none⟩ i cap (ints (upTo (t - t % b) b i)) rfl (by rw [ints_length, upTo_length]) ((HO.out.alloc _).cells (g := gg) rfl) (ints_one _) (by unfold maxLen; omega) (by omega) (by simp; omega) ?_; intro v' w5 hown5 hgrow5 _; have HO5 := Lib.hid hown5; have HB5 := Lib.hid ((HB.out.alloc HB.out.size (.cells #[.int .i64 s'] 3)).grown hgrow5 (by simp; omega) (fun q hq => by simp [Value.ownBlock] at hq; omega)); clear hown5 hgrow5)
        go_roundg (k + 1 - (i + 1))
        case measure => omega
        case rel => exact ⟨i + 1, _, rfl, by omega, by rw [HS.out, show ((i + 1 : Nat) : Int) = i + 1 by omega, Int.add_mul]; omega, rfl, fun h => absurd h (by omega), by rw [← HU.out, Nat.add_comm]; exact HO5.out, HB5.out⟩
    · obtain rfl : i = k := by omega
      have hnc : ¬ (0 ≤ s') ∨ (0 ≤ s' ∧ ¬ (t < s' + a)) := by
        have := fun h => hlt (by have := hcond.1 h; omega)
        omega
      clear hcond hnil hown
      rcases hnc with hc | ⟨hc, hc2⟩
      all_goals
        go_wp2
        go_ret
        exact ⟨_, rfl, by rw [← HL.out, upTo_length]; exact HO.out, HB.out⟩
end Go.Proofs.Ytmdcbpmmmklghaa
