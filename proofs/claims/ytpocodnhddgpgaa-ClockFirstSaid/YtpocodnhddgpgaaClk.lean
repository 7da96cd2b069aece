/- The contracts of package clock's functions, of Within, and of ClockRuns. -/
import Derived.Test.YtpocodnhddgpgaaBase
namespace Go.Proofs.Ytpocodnhddgpgaa
open Go.RowKit

theorem adv_no (b o : Nat) (m l s t : Int) (w : World) (h : ClkAt w b o m l s) (ht : t ≤ m ∨ 1099512676352 < t) :
    Calls Try.prog 7 #[.pointer (some ⟨b, o, none⟩), .int .i64 t] w fun e w' => e = .returned (.bool false) ∧ w = w' := by
  obtain ⟨h0, h1, h2, f0, f1, f2⟩ := h
  rcases Decidable.em (t ≤ m) with ht' | ht'
  · go_enter Try.func7, Try.ntmps7
    go_wp2
    go_ret
    exact ⟨rfl, rfl⟩
  · have ht2 : 1099512676352 < t := by omega
    clear ht
    go_enter Try.func7, Try.ntmps7
    go_wp2
    go_ret
    exact ⟨rfl, rfl⟩

theorem adv_yes_x (b o : Nat) (m l s t : Int) (w : World) (h : ClkAt w b o m l s) (ht : m < t) (h2 : t ≤ 1099512676352) :
    Calls Try.prog 7 #[.pointer (some ⟨b, o, none⟩), .int .i64 t] w fun e w' => e = .returned (.bool true) ∧ w.setCell ⟨b, o, none⟩ (.int .i64 t) = w' := by
  obtain ⟨h0, h1, h2, f0, f1, f2⟩ := h
  go_enter Try.func7, Try.ntmps7
  go_wp2
  go_ret
  exact ⟨rfl, rfl⟩
theorem adv_yes (b o : Nat) (m l s t : Int) (w : World) (h : ClkAt w b o m l s) (ht : m < t) (h2 : t ≤ 1099512676352) :
    Calls Try.prog 7 #[.pointer (some ⟨b, o, none⟩), .int .i64 t] w fun e w' => e = .returned (.bool true) ∧ ClkNow w w' b o t l s :=
  (adv_yes_x b o m l s t w h ht h2).mono fun _ _ ⟨he, hw⟩ => ⟨he, by rw [← hw]; exact ⟨h.set0 _, grown_set _ _ _ _⟩⟩

theorem on_out (b o : Nat) (t : Int) (w : World) (ht : t < 0 ∨ 1099511627776 < t) :
    Calls Try.prog 8 #[.pointer (some ⟨b, o, none⟩), .int .i64 t] w fun e w' => e = .returned (.bool false) ∧ w = w' := by
  rcases Decidable.em (t < 0) with ht' | ht'
  · go_enter Try.func8, Try.ntmps8
    go_wp2
    go_ret
    exact ⟨rfl, rfl⟩
  · have ht2 : 1099511627776 < t := by omega
    clear ht
    go_enter Try.func8, Try.ntmps8
    go_wp2
    go_ret
    exact ⟨rfl, rfl⟩

theorem on_late_x (b o : Nat) (m l s t : Int) (w : World) (h : ClkAt w b o m l s) (h0 : 0 ≤ t) (ht : t ≤ 1099511627776) (hm : t < m)
   (hl : 0 ≤ l) (hl2 : l ≤ 1000) (hs : 0 ≤ s) (hs2 : s ≤ 1000) :
    Calls Try.prog 8 #[.pointer (some ⟨b, o, none⟩), .int .i64 t] w fun e w' => e = .returned (.bool false) ∧
      (w.setCell ⟨b, o + 2, none⟩ (.int .i64 (s + 1))).setCell ⟨b, o + 1, none⟩ (.int .i64 (l + 1)) = w' := by
  obtain ⟨h0, h1, h2, f0, f1, f2⟩ := h
  go_enter Try.func8, Try.ntmps8
  go_wp2
  go_ret
  exact ⟨rfl, rfl⟩
theorem on_late (b o : Nat) (m l s t : Int) (w : World) (h : ClkAt w b o m l s) (h0 : 0 ≤ t) (ht : t ≤ 1099511627776) (hm : t < m)
   (hl : 0 ≤ l) (hl2 : l ≤ 1000) (hs : 0 ≤ s) (hs2 : s ≤ 1000) :
    Calls Try.prog 8 #[.pointer (some ⟨b, o, none⟩), .int .i64 t] w fun e w' => e = .returned (.bool false) ∧ ClkNow w w' b o m (l + 1) (s + 1) :=
  (on_late_x b o m l s t w h h0 ht hm hl hl2 hs hs2).mono fun _ _ ⟨he, hw⟩ => ⟨he, by rw [← hw]; exact ⟨(h.set2 _).set1 _, grown_trans (grown_set _ _ _ _) (grown_set _ _ _ _)⟩⟩

theorem on_in_x (b o : Nat) (m l s t : Int) (w : World) (h : ClkAt w b o m l s) (h0 : 0 ≤ t) (ht : t ≤ 1099511627776) (hm : m ≤ t)
   (hs : 0 ≤ s) (hs2 : s ≤ 1000) :
    Calls Try.prog 8 #[.pointer (some ⟨b, o, none⟩), .int .i64 t] w fun e w' => e = .returned (.bool true) ∧ w.setCell ⟨b, o + 2, none⟩ (.int .i64 (s + 1)) = w' := by
  obtain ⟨h0, h1, h2, f0, f1, f2⟩ := h
  go_enter Try.func8, Try.ntmps8
  go_wp2
  go_ret
  exact ⟨rfl, rfl⟩
theorem on_in (b o : Nat) (m l s t : Int) (w : World) (h : ClkAt w b o m l s) (h0 : 0 ≤ t) (ht : t ≤ 1099511627776) (hm : m ≤ t)
   (hs : 0 ≤ s) (hs2 : s ≤ 1000) :
    Calls Try.prog 8 #[.pointer (some ⟨b, o, none⟩), .int .i64 t] w fun e w' => e = .returned (.bool true) ∧ ClkNow w w' b o m l (s + 1) :=
  (on_in_x b o m l s t w h h0 ht hm hs hs2).mono fun _ _ ⟨he, hw⟩ => ⟨he, by rw [← hw]; exact ⟨h.set2 _, grown_set _ _ _ _⟩⟩

theorem adv_no_n (b o : Nat) (m l s t : Int) (w : World) (h : ClkAt w b o m l s) (ht : t ≤ m ∨ 1099512676352 < t) :
    Calls Try.prog 7 #[.pointer (some ⟨b, o, none⟩), .int .i64 t] w fun e w' => e = .returned (.bool false) ∧ ClkNow w w' b o m l s :=
  (adv_no b o m l s t w h ht).mono fun _ _ ⟨he, hw⟩ => ⟨he, by rw [← hw]; exact ⟨h, grown_refl _ _⟩⟩
theorem on_out_n (b o : Nat) (m l s t : Int) (w : World) (h : ClkAt w b o m l s) (ht : t < 0 ∨ 1099511627776 < t) :
    Calls Try.prog 8 #[.pointer (some ⟨b, o, none⟩), .int .i64 t] w fun e w' => e = .returned (.bool false) ∧ ClkNow w w' b o m l s :=
  (on_out b o t w ht).mono fun _ _ ⟨he, hw⟩ => ⟨he, by rw [← hw]; exact ⟨h, grown_refl _ _⟩⟩
theorem adv_some (b o : Nat) (m l s t : Int) (w : World) (h : ClkAt w b o m l s) :
    Calls Try.prog 7 #[.pointer (some ⟨b, o, none⟩), .int .i64 t] w (SomeOn w b o) := by
  by_cases h1 : t ≤ m ∨ 1099512676352 < t
  · exact (adv_no b o m l s t w h h1).mono fun _ _ ⟨he, hw⟩ => ⟨_, m, l, s, he, by rw [← hw]; exact ⟨h, grown_refl _ _⟩⟩
  · exact (adv_yes b o m l s t w h (by omega) (by omega)).mono fun _ _ ⟨he, hw⟩ => ⟨_, _, _, _, he, hw⟩
theorem on_some (b o : Nat) (m l s t : Int) (w : World) (h : ClkAt w b o m l s) (hl : 0 ≤ l) (hl2 : l ≤ 1000) (hs : 0 ≤ s) (hs2 : s ≤ 1000) :
    Calls Try.prog 8 #[.pointer (some ⟨b, o, none⟩), .int .i64 t] w (SomeOn w b o) := by
  by_cases h1 : t < 0 ∨ 1099511627776 < t
  · exact (on_out b o t w h1).mono fun _ _ ⟨he, hw⟩ => ⟨_, m, l, s, he, by rw [← hw]; exact ⟨h, grown_refl _ _⟩⟩
  · by_cases h2 : t < m
    · exact (on_late b o m l s t w h (by omega) (by omega) h2 hl hl2 hs hs2).mono fun _ _ ⟨he, hw⟩ => ⟨_, _, _, _, he, hw⟩
    · exact (on_in b o m l s t w h (by omega) (by omega) (by omega) hs hs2).mono fun _ _ ⟨he, hw⟩ => ⟨_, _, _, _, he, hw⟩

theorem late_any (m l s : Int) (w : World) :
    Calls Try.prog 9 #[.agg #[.int .i64 m, .int .i64 l, .int .i64 s]] w fun e w' => e = .returned (.int .i64 l) ∧ Below w.heap.size w w' := by
  go_enter Try.func9, Try.ntmps9
  go_wp2
  go_ret
  exact ⟨rfl, (Below.refl _ _).alloc (Nat.le_refl _) _⟩
theorem seen_any (m l s : Int) (w : World) :
    Calls Try.prog 10 #[.agg #[.int .i64 m, .int .i64 l, .int .i64 s]] w fun e w' => e = .returned (.int .i64 s) ∧ Below w.heap.size w w' := by
  go_enter Try.func10, Try.ntmps10
  go_wp2
  go_ret
  exact ⟨rfl, (Below.refl _ _).alloc (Nat.le_refl _) _⟩
theorem mark_any (m l s : Int) (w : World) :
    Calls Try.prog 11 #[.agg #[.int .i64 m, .int .i64 l, .int .i64 s]] w fun e w' => e = .returned (.int .i64 m) ∧ Below w.heap.size w w' := by
  go_enter Try.func11, Try.ntmps11
  go_wp2
  go_ret
  exact ⟨rfl, (Below.refl _ _).alloc (Nat.le_refl _) _⟩

def within (n lo hi : Int) : Int := lo + (if n.tmod (hi - lo + 1) < 0 then n.tmod (hi - lo + 1) + hi - lo + 1 else n.tmod (hi - lo + 1))

theorem tmod_bd (n d : Int) (hp : 0 < d) : -d < n.tmod d ∧ n.tmod d < d := by
  refine ⟨?_, Int.tmod_lt_of_pos _ hp⟩
  have := Int.tmod_lt_of_pos (-n) hp
  rw [Int.neg_tmod] at this
  omega
theorem within_bd (n lo hi : Int) (h : lo ≤ hi) : lo ≤ within n lo hi ∧ within n lo hi ≤ hi := by
  have hb := tmod_bd n (hi - lo + 1) (by omega)
  unfold within
  split <;> omega

set_option maxHeartbeats 400000 in
theorem within_any (n lo hi : Int) (w : World) (h0 : -1000000000000000 ≤ lo) (h1 : lo ≤ hi) (h2 : hi ≤ 2000000000000000) :
    Calls Try.prog 12 #[.int .i64 n, .int .i64 lo, .int .i64 hi] w fun e w' => e = .returned (.int .i64 (within n lo hi)) ∧ w = w' := by
  obtain ⟨hb1, hb2⟩ := tmod_bd n (hi - lo + 1) (by omega)
  have hne : ((hi - lo + 1) == 0) = false := by simp; omega
  by_cases hn : n.tmod (hi - lo + 1) < 0
  · have hw1 : within n lo hi = lo + (n.tmod (hi - lo + 1) + hi - lo + 1) := by unfold within; rw [if_pos hn]
    rw [hw1]
    clear hw1
    go_enter Try.func12, Try.ntmps12
    go_wp2
    go_ret
    exact ⟨rfl, rfl⟩
  · have hw1 : within n lo hi = lo + n.tmod (hi - lo + 1) := by unfold within; rw [if_neg hn]
    rw [hw1]
    clear hw1
    go_enter Try.func12, Try.ntmps12
    go_wp2
    go_ret
    exact ⟨rfl, rfl⟩

set_option maxHeartbeats 1000000 in
theorem runs_any (w : World) :
    Calls Try.prog 3 #[] w fun e w' => e = .returned (.bool true) ∧ Below w.heap.size w w' := by
  go_enter Try.func3, Try.ntmps3
  have HB := Lib.hid ((Below.refl w.heap.size w).alloc (Nat.le_refl _) (.cells #[.int .i64 5, .int .i64 1, .int .i64 2] 23))
  go_wp2_with (first
     | (go_at_call 7; (with_reducible refine (adv_yes_x _ _ _ _ _ _ _ (clk_new _ _ _ _) (by omega) (by omega)).mono ?_); rintro e w' ⟨rfl, rfl⟩)
     | (go_at_call 7; (with_reducible refine (adv_no _ _ _ _ _ _ _ (clk_new _ _ _ _) (by omega)).mono ?_); rintro e w' ⟨rfl, rfl⟩)
     | (go_at_call 8; (with_reducible refine (on_late_x _ _ _ _ _ _ _ (clk_new _ _ _ _) (by omega) (by omega) (by omega) (by omega) (by omega) (by omega) (by omega)).mono ?_); rintro e w' ⟨rfl, rfl⟩)
     | (go_at_call 8; (with_reducible refine (on_in_x _ _ _ _ _ _ _ (clk_new _ _ _ _) (by omega) (by omega) (by omega) (by omega) (by omega)).mono ?_); rintro e w' ⟨rfl, rfl⟩)
     | (go_at_call 9; refine (late_any _ _ _ _).mono ?_; rintro e w' ⟨rfl, hb⟩; obtain ⟨hc, hf⟩ := bcell hb; have hz : w.heap.size < w'.heap.size := (by have := hb.size; (try simp at this); omega); have HB' := Lib.hid (below_step HB.out hb); clear HB; have HB := HB'; clear HB' hb)
     | (go_at_call 10; refine (seen_any _ _ _ _).mono ?_; rintro e w' ⟨rfl, hb⟩; obtain ⟨hc, hf⟩ := bcell hb; have hz : w.heap.size < w'.heap.size := (by have := hb.size; (try simp at this); omega); have HB' := Lib.hid (below_step HB.out hb); clear HB; have HB := HB'; clear HB' hb)
     | (go_at_call 11; refine (mark_any _ _ _ _).mono ?_; rintro e w' ⟨rfl, hb⟩; have HB' := Lib.hid (below_step HB.out hb); clear HB; have HB := HB'; clear HB' hb))
  go_ret
  exact ⟨rfl, HB.out⟩
end Go.Proofs.Ytpocodnhddgpgaa
