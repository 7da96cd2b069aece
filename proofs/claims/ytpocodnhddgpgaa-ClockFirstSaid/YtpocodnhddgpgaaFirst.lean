/- The walk of clock.First, and of ClockFirst. -/
import Derived.Test.YtpocodnhddgpgaaClk
import Derived.Test.YtpocodnhddgpgaaOpen
namespace Go.Proofs.Ytpocodnhddgpgaa
open Go.RowKit Go.ChangeShapes Go.WideShapes

/-- a row of clocks, as it is read -/
structure Clks (w : World) (a : Option Addr) (n : Nat) (b o : Nat) (M L S : Nat → Int) : Prop where
  hd : 0 < n → a = some ⟨b, o, none⟩
  lt : 0 < n → b < w.heap.size
  c0 : ∀ i, i < n → w.cell? ⟨b, o + i * 3, none⟩ = some (.int .i64 (M i))
  c1 : ∀ i, i < n → w.cell? ⟨b, o + i * 3 + 1, none⟩ = some (.int .i64 (L i))
  c2 : ∀ i, i < n → w.cell? ⟨b, o + i * 3 + 2, none⟩ = some (.int .i64 (S i))
theorem Clks.below {w w' : World} {a : Option Addr} {n b o : Nat} {T A C : Nat → Int} (h : Clks w a n b o T A C) (hb : Below w.heap.size w w') : Clks w' a n b o T A C := by
  refine ⟨h.hd, fun hp => Nat.lt_of_lt_of_le (h.lt hp) hb.size, fun i hi => ?_, fun i hi => ?_, fun i hi => ?_⟩
  · rw [hb.cell (p := ⟨b, _, none⟩) (h.lt (by omega))]; exact h.c0 i hi
  · rw [hb.cell (p := ⟨b, _, none⟩) (h.lt (by omega))]; exact h.c1 i hi
  · rw [hb.cell (p := ⟨b, _, none⟩) (h.lt (by omega))]; exact h.c2 i hi

/-- the least of the first mark and of the first k marks -/
def lo (M : Nat → Int) : Nat → Int
  | 0 => M 0
  | k + 1 => if M k < lo M k then M k else lo M k
def firstOf (M : Nat → Int) (n : Nat) : Int := if n = 0 then 0 else lo M n

theorem first_none (a : Option Addr) (cap : Nat) (w : World) :
    Calls Try.prog 13 #[.slice a 0 cap] w fun e w' => e = .returned (.int .i64 0) ∧ w = w' := by
  go_enter Try.func13, Try.ntmps13
  go_wp2
  go_ret
  exact ⟨rfl, rfl⟩
set_option maxHeartbeats 1000000 in
theorem first_some (a : Option Addr) (n cap b o : Nat) (M L S : Nat → Int) (w : World) (h : Clks w a n b o M L S) (hn : 0 < n) (hn2 : n ≤ 1000) :
    Calls Try.prog 13 #[.slice a n cap] w fun e w' => e = .returned (.int .i64 (lo M n)) ∧ Below w.heap.size w w' := by
  have H := Lib.hid h
  obtain rfl := h.hd hn
  have hc0 := h.c0 0 hn
  have hbb := h.lt hn
  have hnz : ((n : Int) == 0) = false := by simp; omega
  simp only [Nat.zero_mul, Nat.add_zero] at hc0
  clear h
  go_enter Try.func13, Try.ntmps13
  go_wp2
  go_loopg [3, 15] n (fun g v3 v15 wr => ∃ k : Nat, k ≤ n ∧ g = n - k ∧ v3 = .int .i64 (lo M k) ∧ v15 = .int .i64 k ∧ Below w.heap.size w wr)
  case atStart => exact ⟨0, by omega, rfl, rfl, rfl, Below.refl _ _⟩
  case round =>
    obtain ⟨k, hk, rfl, rfl, rfl, hb⟩ := hrel
    have HB := Lib.hid hb
    have hz := hb.size
    have H2 := H.out.below hb
    have hbb2 : b < wr.heap.size := by omega
    clear hb hc0
    by_cases hlt : k < n
    · have hc0 := H2.c0 k hlt
      have hc1 := H2.c1 k hlt
      have hc2 := H2.c2 k hlt
      have HL := Lib.hid (show lo M (k + 1) = if M k < lo M k then M k else lo M k from rfl)
      have HB1 := Lib.hid (HB.out.alloc hz (.cells #[.int .i64 (M k), .int .i64 (L k), .int .i64 (S k)] 23))
      clear H2
      by_cases hm : M k < lo M k
      · have HE := Lib.hid (HL.out.trans (if_pos hm))
        go_wp2
        go_roundg (n - (k + 1))
        case measure => omega
        case rel => exact ⟨k + 1, by omega, rfl, by rw [HE.out], by go_num, HB1.out⟩
      · have HE := Lib.hid (HL.out.trans (if_neg hm))
        go_wp2
        go_roundg (n - (k + 1))
        case measure => omega
        case rel => exact ⟨k + 1, by omega, rfl, by rw [HE.out], by go_num, HB1.out⟩
    · obtain rfl : k = n := by omega
      clear H2
      go_wp2
      go_ret
      exact ⟨rfl, HB.out⟩
end Go.Proofs.Ytpocodnhddgpgaa
