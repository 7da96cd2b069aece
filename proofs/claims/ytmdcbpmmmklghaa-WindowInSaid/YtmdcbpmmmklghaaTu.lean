/- The walk of WindowTumble. -/
import Derived.Test.YtmdcbpmmmklghaaTells
namespace Go.Proofs.Ytmdcbpmmmklghaa
open Go.RowKit

def sm (f : Nat → Int) : Nat → Int
  | 0 => 0
  | n + 1 => sm f n + f n
theorem sm_shift (f : Nat → Int) (n : Nat) : sm (fun i => f (i + 1)) n + f 0 = sm f (n + 1) := by
  induction n with
  | zero => simp [sm]
  | succ n ih =>
    have e : sm (fun i => f (i + 1)) (n + 1) = sm (fun i => f (i + 1)) n + f (n + 1) := rfl
    have e2 : sm f (n + 1 + 1) = sm f (n + 1) + f (n + 1) := rfl
    omega
theorem sm_ext {f g : Nat → Int} (n : Nat) (h : ∀ i, i < n → f i = g i) : sm f n = sm g n := by
  induction n with
  | zero => rfl
  | succ n ih =>
    simp only [sm]
    rw [ih fun i hi => h i (by omega), h n (by omega)]
theorem sm_period (g : Nat → Int) (s : Nat) (hp : ∀ j, g (j + s) = g j) (a : Nat) : sm (fun j => g (a + j)) s = sm g s := by
  induction a with
  | zero => exact sm_ext s fun i _ => by simp
  | succ a ih =>
    have h := sm_shift (fun j => g (a + j)) s
    have e : sm (fun j => g (a + j)) (s + 1) = sm (fun j => g (a + j)) s + g (a + s) := rfl
    have e2 : sm (fun j => g (a + 1 + j)) s = sm (fun i => g (a + (i + 1))) s := sm_ext s fun i _ => by congr 1; omega
    have e3 := hp a
    simp only [Nat.add_zero] at h
    omega
/-- s consecutive quotients -/
theorem sm_quot (s : Nat) (hs : 0 < s) (m : Nat) : sm (fun r => ((m : Int) - 1 - r) / s) s = (m : Int) - s := by
  induction m with
  | zero =>
    have : ∀ n, n ≤ s → sm (fun r => (((0 : Nat) : Int) - 1 - r) / s) n = -(n : Int) := by
      intro n hn
      induction n with
      | zero => rfl
      | succ n ih =>
        simp only [sm]
        rw [ih (by omega)]
        have : (((0 : Nat) : Int) - 1 - n) / s = -1 := by
          rw [show (((0 : Nat) : Int) - 1 - n) = ((s : Int) - 1 - n) + (-1) * s by omega, Int.add_mul_ediv_right _ _ (by omega), Int.ediv_eq_zero_of_lt (by omega) (by omega)]
          rfl
        omega
    have := this s (Nat.le_refl _)
    omega
  | succ m ih =>
    obtain ⟨t, rfl⟩ : ∃ t, s = t + 1 := ⟨s - 1, by omega⟩
    have h := sm_shift (fun r => (((m + 1 : Nat) : Int) - 1 - r) / ((t + 1 : Nat) : Int)) t
    have e1 : sm (fun i => (((m + 1 : Nat) : Int) - 1 - ((i + 1 : Nat) : Int)) / ((t + 1 : Nat) : Int)) t = sm (fun r => ((m : Int) - 1 - r) / ((t + 1 : Nat) : Int)) t :=
      sm_ext t fun i _ => by congr 1; omega
    have e2 : sm (fun r => ((m : Int) - 1 - r) / ((t + 1 : Nat) : Int)) (t + 1) = sm (fun r => ((m : Int) - 1 - r) / ((t + 1 : Nat) : Int)) t + ((m : Int) - 1 - t) / ((t + 1 : Nat) : Int) := rfl
    have e3 : (((m + 1 : Nat) : Int) - 1 - ((0 : Nat) : Int)) / ((t + 1 : Nat) : Int) = ((m : Int) - 1 - t) / ((t + 1 : Nat) : Int) + 1 := by
      rw [show (((m + 1 : Nat) : Int) - 1 - ((0 : Nat) : Int)) = ((m : Int) - 1 - t) + 1 * ((t + 1 : Nat) : Int) by omega, Int.add_mul_ediv_right _ _ (by omega)]
    rw [e1] at h
    rw [e2] at ih
    rw [← h, e3]
    omega
/-- the counts over a whole slide come to the size -/
theorem sm_count (s m a : Nat) (hs : 0 < s) : sm (fun j => ((m : Int) - 1 - ((a : Int) + j) % s) / s + 1) s = m := by
  have h1 := sm_period (fun j => ((m : Int) - 1 - (j : Int) % s) / s + 1) s (fun j => by
    show ((m : Int) - 1 - ((j + s : Nat) : Int) % s) / s + 1 = _
    rw [show ((j + s : Nat) : Int) = (j : Int) + s by omega, Int.add_emod_right]) a
  have h2 : sm (fun j => ((m : Int) - 1 - ((a : Int) + j) % s) / s + 1) s = sm (fun j => ((m : Int) - 1 - ((a + j : Nat) : Int) % s) / s + 1) s :=
    sm_ext s fun i _ => by simp
  have h3 : ∀ n, n ≤ s → sm (fun j => ((m : Int) - 1 - (j : Int) % s) / s + 1) n = sm (fun r => ((m : Int) - 1 - r) / s) n + n := by
    intro n hn
    induction n with
    | zero => rfl
    | succ n ih =>
      simp only [sm]
      rw [ih (by omega), Int.emod_eq_of_lt (by omega) (by omega)]
      omega
  rw [h2, h1, h3 s (Nat.le_refl _), sm_quot s hs m]
  omega

theorem starts_k (t a b : Int) (K : Nat) (w : World) (h : RightP a b) (ht0 : 0 ≤ t) (ht1 : t ≤ 1099511627776) (hK : kOf t a b = K) :
    Calls Try.prog 9 #[.int .i64 t, .int .i64 a, .int .i64 b] w (RetL w (upTo (t - t % b) b K)) := by
  have := starts_yes t a b w h ht0 ht1
  rwa [show starts t a b = upTo (t - t % b) b K by unfold starts; rw [if_pos ⟨h, ht0, ht1⟩, hK]; rfl] at this
/-- from the size on the count hangs on the rest alone -/
theorem kOf_far (t m s : Int) (h1 : 1 ≤ s) (ht : m ≤ t) : kOf t m s = (m - 1 - t % s) / s + 1 := by
  have hp : 0 < s := by omega
  have hr := Int.emod_nonneg t (show s ≠ 0 by omega)
  have : (m - 1 - t % s) / s ≤ t / s := Int.ediv_le_ediv hp (by omega)
  unfold kOf
  omega
theorem right_small (m s : Int) (h1 : 1 ≤ s) (h2 : s ≤ m) (h3 : m ≤ 8 * s) (h4 : s ≤ 1000) : RightP m s := by
  refine ⟨h1, h2, by omega, ?_⟩
  have : most m s < 9 := (Int.ediv_lt_iff_lt_mul (by omega)).2 (by omega)
  omega
theorem right_tumble (n : Int) (h1 : 1 ≤ n) (h2 : n ≤ 1000) : RightP n n ∧ most n n = 1 := by
  have e : most n n = 1 := by
    unfold most
    rw [show n + n - 1 = (n - 1) + 1 * n by omega, Int.add_mul_ediv_right _ _ (by omega), Int.ediv_eq_zero_of_lt (by omega) (by omega)]
    rfl
  exact ⟨⟨h1, by omega, by omega, by omega⟩, e⟩
theorem kOf_tumble (x n : Int) (h1 : 1 ≤ n) (hx : 0 ≤ x) : kOf x n n = (1 : Nat) := by
  have hp : 0 < n := by omega
  have hr := Int.emod_nonneg x (show n ≠ 0 by omega)
  have hr2 := Int.emod_lt_of_pos x hp
  have e : (n - 1 - x % n) / n = 0 := Int.ediv_eq_zero_of_lt (by omega) (by omega)
  have := Int.ediv_nonneg hx (show 0 ≤ n by omega)
  unfold kOf
  omega
theorem not_right8 (s : Int) (h1 : 1 ≤ s) : ¬ RightP (8 * s + 1) s := by
  rintro ⟨_, _, _, h⟩
  have : 9 ≤ most (8 * s + 1) s := (Int.le_ediv_iff_mul_le (by omega)).2 (by omega)
  omega
theorem not_right1 (s : Int) : ¬ RightP (s - 1) s := by
  rintro ⟨_, h, _, _⟩
  omega

theorem own_slice {w : World} {base n : Nat} {e : TypeId} {size : Nat} {v : Value} {xs : List Value} (h : w.ownsRow base e size v n xs) : ∃ A c, v = .slice A n c := by
  rcases h.2 with ⟨rfl, rfl⟩ | ⟨g, cap, cur, rfl, _⟩
  · exact ⟨none, 0, rfl⟩
  · exact ⟨_, cap, rfl⟩

set_option maxRecDepth 100000 in
set_option maxHeartbeats 4000000 in
theorem tumble_any (W : World) (t : Int) (_ht : (Lit.int .i64 t).wf = true) (a : Int) (_ha : (Lit.int .i64 a).wf = true) (b : Int) (_hb : (Lit.int .i64 b).wf = true) :
    Calls Try.prog 6 #[.int .i64 t, .int .i64 a, .int .i64 b] W fun e w' => e = .returned (.bool true) ∧ Below W.heap.size W w' := by
  have HB := Lib.hid (Below.refl W.heap.size W)
  obtain ⟨n, hn⟩ : ∃ n, within a 1 1000 = n := ⟨_, rfl⟩
  obtain ⟨x, hx⟩ : ∃ x, within t 0 1099511627776 = x := ⟨_, rfl⟩
  obtain ⟨hn0, hn1⟩ := hn ▸ within_bd a 1 1000 (by omega)
  obtain ⟨hx0, hx1⟩ := hx ▸ within_bd t 0 1099511627776 (by omega)
  obtain ⟨s, hs⟩ : ∃ s, within b 1 30 = s := ⟨_, rfl⟩
  obtain ⟨hs0, hs1⟩ := hs ▸ within_bd b 1 30 (by omega)
  obtain ⟨m, hm⟩ : ∃ m, within a s (8 * s) = m := ⟨_, rfl⟩
  obtain ⟨hm0, hm1⟩ := hm ▸ within_bd a s (8 * s) (by omega)
  obtain ⟨f, hf⟩ : ∃ f, within t 0 500 = f := ⟨_, rfl⟩
  obtain ⟨hf0, hf1⟩ := hf ▸ within_bd t 0 500 (by omega)
  have HN := Lib.hid hn
  have HX := Lib.hid hx
  have HS := Lib.hid hs
  have HM := Lib.hid hm
  have HF := Lib.hid hf
  clear hn hx hs hm hf
  -- the first part's one window
  have HR := Lib.hid (right_tumble n hn0 hn1)
  have hK := starts_k x n n 1
  obtain ⟨y, hy⟩ : ∃ y, x - x % n = y := ⟨_, rfl⟩
  have hp : 0 < n := by omega
  have hr := Int.emod_nonneg x (show n ≠ 0 by omega)
  have hr2 := Int.emod_lt_of_pos x hp
  have hd := Int.mul_ediv_add_emod x n
  have hd2 := Int.mul_nonneg (show 0 ≤ n by omega) (Int.ediv_nonneg hx0 (show 0 ≤ n by omega))
  have hy0 : 0 ≤ y := by omega
  have hy1 : y ≤ x := by omega
  have hy2 : x < y + n := by omega
  have hy3 : y % n = 0 := by
    rw [show y = n * (x / n) by omega]
    exact Int.mul_emod_right _ _
  have hnz : (n == 0) = false := by simp; omega
  have HC1 := Lib.hid (fun w => (show Calls Try.prog 9 #[.int .i64 x, .int .i64 n, .int .i64 n] w (RetL w [y]) by
    have := hK w HR.out.1 hx0 hx1 (kOf_tumble x n hn0 hx0)
    rwa [hy, show upTo y n 1 = [y] by simp [upTo]] at this))
  have HP1 := Lib.hid (fun w => (show Calls Try.prog 10 #[.int .i64 n, .int .i64 n] w fun e w' => e = .returned (.int .i64 1) ∧ w = w' by
    have := panes_yes n n w HR.out.1
    rwa [HR.out.2] at this))
  clear hK hy hr hr2 hd hd2 hp
  -- the second part's
  have HR2 := Lib.hid (right_small m s hs0 hm0 hm1 (by omega))
  obtain ⟨S, hS⟩ : ∃ S : Nat, (S : Int) = s := ⟨s.toNat, by omega⟩
  obtain ⟨M, hM⟩ : ∃ M : Nat, (M : Int) = m := ⟨m.toNat, by omega⟩
  obtain ⟨A, hA⟩ : ∃ A : Nat, (A : Int) = m + f := ⟨(m + f).toNat, by omega⟩
  have hcnt : ∀ i : Nat, kOf (m + f + i) m s = (m - 1 - ((A : Int) + i) % s) / s + 1 := fun i => by rw [hA]; exact kOf_far _ _ _ hs0 (by omega)
  have hcb : ∀ i : Nat, 1 ≤ kOf (m + f + i) m s ∧ kOf (m + f + i) m s ≤ 8 := fun i => by
    have h1 := kOf_pos (m + f + i) m s HR2.out (by omega)
    have h2 := kOf_le_most (m + f + i) m s HR2.out
    have h3 := HR2.out.2.2.2
    omega
  have hsum : sm (fun i => kOf (m + f + i) m s) S = m := by
    have := sm_count S M A (by omega)
    rw [hM, hS] at this
    exact (sm_ext S fun i _ => hcnt i).trans this
  have hsb : ∀ i : Nat, 0 ≤ sm (fun i => kOf (m + f + i) m s) i ∧ sm (fun i => kOf (m + f + i) m s) i ≤ 8 * i := by
    intro i
    induction i with
    | zero => simp [sm]
    | succ i ih =>
      have := hcb i
      simp only [sm]
      omega
  have HSb := Lib.hid hsb
  obtain ⟨Z, hZ⟩ : ∃ Z : Nat → Int, ∀ i, sm (fun i => kOf (m + f + i) m s) i = Z i := ⟨_, fun _ => rfl⟩
  have HZ := Lib.hid hZ
  clear hsb hZ
  have HSum := Lib.hid hsum
  have HCb := Lib.hid hcb
  have HSS := Lib.hid hS
  have HC2 := Lib.hid (fun (i : Nat) (hi : i < S) (K : Nat) (hK : kOf (m + f + i) m s = K) w => starts_k (m + f + i) m s K w HR2.out (by omega) (by omega) hK)
  clear hcnt hcb hsum hM hA
  have hS30 : S ≤ 30 := by omega
  have hN8 := not_right8 s hs0
  have hN1 := not_right1 s
  have HN8 := Lib.hid hN8
  have HN1 := Lib.hid hN1
  clear hN8 hN1 hS
  go_enter Try.func6, Try.ntmps6
  go_wp2_with (first
    | (go_at_call 13; (with_reducible refine (within_any a 1 1000 _ (by omega) (by omega) (by omega)).mono ?_); rintro e w1 ⟨rfl, rfl⟩; rw [HN.out])
    | (go_at_call 13; (with_reducible refine (within_any t 0 1099511627776 _ (by omega) (by omega) (by omega)).mono ?_); rintro e w1 ⟨rfl, rfl⟩; rw [HX.out])
    | (go_at_call 13; (with_reducible refine (within_any b 1 30 _ (by omega) (by omega) (by omega)).mono ?_); rintro e w1 ⟨rfl, rfl⟩; rw [HS.out])
    | (go_at_call 13; (with_reducible refine (within_any a s (8 * s) _ (by omega) (by omega) (by omega)).mono ?_); rintro e w1 ⟨rfl, rfl⟩; rw [HM.out])
    | (go_at_call 13; (with_reducible refine (within_any t 0 500 _ (by omega) (by omega) (by omega)).mono ?_); rintro e w1 ⟨rfl, rfl⟩; rw [HF.out])
    | (go_at_call 9; (with_reducible refine (HC1.out _).mono ?_); rintro e w1 ⟨v1, rfl, ho, hb⟩; have HB1 := Lib.hid hb; obtain ⟨gg, cap, rfl, hg1, hg2, hcap, hcap2, hcs⟩ := own_form ho (by simp); have hc0 := hcs 0 (.int .i64 y) rfl; clear hcs ho hb)
    | (go_at_call 10; (with_reducible refine (HP1.out _).mono ?_); rintro e w' ⟨rfl, rfl⟩))
  go_loopg [13, 68] S (fun g v13 v68 wr => ∃ i : Nat, i ≤ S ∧ g = S - i ∧ v13 = .int .i64 (Z i) ∧ v68 = .int .i64 i ∧ Below W.heap.size W wr)
  case atStart => exact ⟨0, by omega, by omega, by rw [← HZ.out]; rfl, rfl, HB1.out⟩
  case round =>
    obtain ⟨i, hi, rfl, rfl, rfl, hb⟩ := hrel
    have HB2 := Lib.hid hb
    clear hb hc0
    have hzb := HSb.out i
    rw [HZ.out] at hzb
    obtain ⟨hz1, hz2⟩ := hzb
    have hSs := HSS.out
    by_cases hlt : i < S
    · have hlt' : (i : Int) < s := by omega
      obtain ⟨hk1, hk2⟩ := HCb.out i
      obtain ⟨K, hK⟩ : ∃ K : Nat, kOf (m + f + i) m s = K := ⟨(kOf (m + f + i) m s).toNat, by omega⟩
      have HZs := Lib.hid (show Z (i + 1) = Z i + K by rw [← HZ.out, ← HZ.out, ← hK]; rfl)
      have hK8 : (K : Int) ≤ 8 := by omega
      have HK := Lib.hid hK
      clear hK hk1 hk2 hSs
      go_wp2_with (go_at_call 9; (with_reducible refine (HC2.out i hlt K HK.out _).mono ?_); rintro e w1 ⟨v1, rfl, ho, hb⟩; have HB3 := Lib.hid (below_step HB2.out hb); obtain ⟨A1, c1, rfl⟩ := own_slice ho; rw [upTo_length]; clear ho hb)
      go_roundg (S - (i + 1))
      case measure => omega
      case rel => exact ⟨i + 1, by omega, rfl, by rw [HZs.out], by go_num, HB3.out⟩
    · obtain rfl : i = S := by omega
      have hlt' : ¬ ((i : Int) < s) := by omega
      have HZS := Lib.hid (show Z i = m by rw [← HZ.out]; exact HSum.out)
      clear hSs hz1 hz2
      rw [HZS.out]
      go_wp2_with (first
        | (go_at_call 14; (with_reducible refine (right_yes _ _ _ HR2.out).mono ?_); rintro e w' ⟨rfl, rfl⟩)
        | (go_at_call 14; (with_reducible refine (right_no _ _ _ HN8.out).mono ?_); rintro e w' ⟨rfl, rfl⟩)
        | (go_at_call 14; (with_reducible refine (right_no _ _ _ HN1.out).mono ?_); rintro e w' ⟨rfl, rfl⟩)
        | (go_at_call 3; refine (runs_any _).mono ?_; rintro e w4 ⟨rfl, hb⟩; have HB4 := Lib.hid (below_step HB2.out hb); clear hb))
      go_ret
      exact ⟨rfl, HB4.out⟩
end Go.Proofs.Ytmdcbpmmmklghaa
