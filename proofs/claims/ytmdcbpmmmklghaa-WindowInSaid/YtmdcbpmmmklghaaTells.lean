/- The walk of WindowTells. -/
import Derived.Test.YtmdcbpmmmklghaaRuns
import Derived.Test.YtmdcbpmmmklghaaOpen
namespace Go.Proofs.Ytmdcbpmmmklghaa
open Go.RowKit

theorem starts_out (t a b : Int) (w : World) (h : ¬ (RightP a b ∧ 0 ≤ t ∧ t ≤ 1099511627776)) :
    Calls Try.prog 9 #[.int .i64 t, .int .i64 a, .int .i64 b] w fun e w' => e = .returned (.slice none 0 0) ∧ w = w' := by
  by_cases hr : RightP a b
  · have hh : t < 0 ∨ (0 ≤ t ∧ 1099511627776 < t) := by
      have : ¬ (0 ≤ t ∧ t ≤ 1099511627776) := fun h' => h ⟨hr, h'⟩
      omega
    have H := Lib.hid hr
    clear hr h
    rcases hh with h1 | ⟨h1, h2⟩
    all_goals
      go_enter Try.func9, Try.ntmps9
      go_wp2_with (go_at_call 14; (with_reducible refine (right_yes _ _ _ H.out).mono ?_); rintro e w' ⟨rfl, rfl⟩)
      go_ret
      exact ⟨rfl, rfl⟩
  · have H := Lib.hid hr
    clear hr h
    go_enter Try.func9, Try.ntmps9
    go_wp2_with (go_at_call 14; (with_reducible refine (right_no _ _ _ H.out).mono ?_); rintro e w' ⟨rfl, rfl⟩)
    go_ret
    exact ⟨rfl, rfl⟩
theorem starts_all (t a b : Int) (w : World) : Calls Try.prog 9 #[.int .i64 t, .int .i64 a, .int .i64 b] w (RetL w (starts t a b)) := by
  by_cases h : RightP a b ∧ 0 ≤ t ∧ t ≤ 1099511627776
  · exact starts_yes t a b w h.1 h.2.1 h.2.2
  · refine (starts_out t a b w h).mono fun e w' ⟨he, hw⟩ => ⟨_, he, ?_, by rw [← hw]; exact Below.refl _ _⟩
    rw [show starts t a b = [] by unfold starts; rw [if_neg h]]
    exact World.ownsRow_nil _ _ _ _
theorem rstarts_out (t a b : Int) (w : World) (h : ¬ (RightP a b ∧ 0 ≤ t ∧ t ≤ 1099511627776)) :
    Calls Try.prog 15 #[.int .i64 t, .int .i64 a, .int .i64 b] w fun e w' => e = .returned (.slice none 0 0) ∧ w = w' := by
  by_cases hr : RightP a b
  · have hh : t < 0 ∨ (0 ≤ t ∧ 1099511627776 < t) := by
      have : ¬ (0 ≤ t ∧ t ≤ 1099511627776) := fun h' => h ⟨hr, h'⟩
      omega
    have H := Lib.hid hr
    clear hr h
    rcases hh with h1 | ⟨h1, h2⟩
    all_goals
      go_enter Try.func15, Try.ntmps15
      go_wp2_with (go_at_call 12; (with_reducible refine (rright_yes _ _ _ H.out).mono ?_); rintro e w' ⟨rfl, rfl⟩)
      go_ret
      exact ⟨rfl, rfl⟩
  · have H := Lib.hid hr
    clear hr h
    go_enter Try.func15, Try.ntmps15
    go_wp2_with (go_at_call 12; (with_reducible refine (rright_no _ _ _ H.out).mono ?_); rintro e w' ⟨rfl, rfl⟩)
    go_ret
    exact ⟨rfl, rfl⟩
theorem rstarts_all (t a b : Int) (w : World) : Calls Try.prog 15 #[.int .i64 t, .int .i64 a, .int .i64 b] w (RetL w (starts t a b)) := by
  by_cases h : RightP a b ∧ 0 ≤ t ∧ t ≤ 1099511627776
  · exact rstarts_yes t a b w h.1 h.2.1 h.2.2
  · refine (rstarts_out t a b w h).mono fun e w' ⟨he, hw⟩ => ⟨_, he, ?_, by rw [← hw]; exact Below.refl _ _⟩
    rw [show starts t a b = [] by unfold starts; rw [if_neg h]]
    exact World.ownsRow_nil _ _ _ _
theorem rright_any (a b : Int) (w : World) :
    Calls Try.prog 12 #[.int .i64 a, .int .i64 b] w fun e w' => e = .returned (.bool (decide (RightP a b))) ∧ w = w' := by
  by_cases h : RightP a b
  · rw [decide_eq_true h]; exact rright_yes a b w h
  · rw [decide_eq_false h]; exact rright_no a b w h

/-- the first k -/
def fst (O : Nat → Int) (k : Nat) : List Int := (List.range k).map O
theorem fst_length (O : Nat → Int) (k : Nat) : (fst O k).length = k := by simp [fst]
theorem fst_succ (O : Nat → Int) (k : Nat) : fst O (k + 1) = fst O k ++ [O k] := by simp [fst, List.range_succ]
theorem fst_getD (O : Nat → Int) (k i : Nat) (hi : i < k) : (fst O k).getD i 0 = O i := by
  simp [fst, List.getD_eq_getElem?_getD, hi]
theorem hiF_ext (X Y : Nat → Int) (k : Nat) (h0 : X 0 = Y 0) (h : ∀ i, i < k → X i = Y i) : hiF X k = hiF Y k := by
  induction k with
  | zero => exact h0
  | succ k ih =>
    simp only [hiF]
    rw [ih fun i hi => h i (by omega), h k (by omega)]
theorem lastOf_fst (n : Int) (O : Nat → Int) (k : Nat) (hk : 0 < k) : lastOf n (fst O k) = hiF O k + n := by
  unfold lastOf
  rw [fst_length, if_neg (by omega), hiF_ext _ O k (fst_getD O k 0 hk) (fun i hi => fst_getD O k i hi)]
theorem ints_fst_at (O : Nat → Int) (k i : Nat) (hi : i < k) : (ints (fst O k))[i]? = some (.int .i64 (O i)) := by
  simp [ints, fst, hi]

set_option maxRecDepth 100000 in
set_option maxHeartbeats 4000000 in
theorem tells_any (W : World) (t : Int) (_ht : (Lit.int .i64 t).wf = true) (a : Int) (_ha : (Lit.int .i64 a).wf = true) (b : Int) (_hb : (Lit.int .i64 b).wf = true)
    (a1 : Option Addr) (len1 cap1 : Nat) (hr1 : Rd Try.prog W 23 [.slice a1 len1 cap1]) :
    Calls Try.prog 4 #[.int .i64 t, .int .i64 a, .int .i64 b, .slice a1 len1 cap1] W fun e w' => e = .returned (.bool true) ∧ Below W.heap.size W w' := by
  obtain ⟨hlen1, b1, o1, X1, hA1⟩ := ints_of hr1 Try.underlying23 Try.underlying3 (by kernel_rfl)
  have HA1 := Lib.hid hA1
  unfold maxLen at hlen1
  clear hr1 hA1
  obtain ⟨O, hO⟩ : ∃ O : Nat → Int, ∀ i, within (X1 i) 0 1099511627776 = O i := ⟨_, fun _ => rfl⟩
  have HO := Lib.hid hO
  have HOb := Lib.hid (fun i => hO i ▸ within_bd (X1 i) 0 1099511627776 (by omega) : ∀ i, 0 ≤ O i ∧ O i ≤ 1099511627776)
  clear hO
  obtain ⟨n, hn⟩ : ∃ n, within a 1 1048576 = n := ⟨_, rfl⟩
  have hnb := within_bd a 1 1048576 (by omega)
  rw [hn] at hnb
  obtain ⟨hn0, hn1⟩ := hnb
  have HN := Lib.hid hn
  clear hn
  obtain ⟨i0, hi3, hz0, hz1, hz2⟩ := info_parts info3
  have HI := Lib.hid (And.intro hi3 (And.intro hz0 (And.intro hz1 hz2)))
  clear hi3 hz0 hz1 hz2
  have HS1 := Lib.hid (starts_all t a b)
  have HS2 := Lib.hid (rstarts_all t a b)
  obtain ⟨S, hS⟩ : ∃ S, S = starts t a b := ⟨_, rfl⟩
  rw [← hS] at HS1 HS2
  clear hS
  have hpan : ∃ (q : Int) (g : Bool), (∀ w, Calls Try.prog 10 #[.int .i64 a, .int .i64 b] w fun e w' => e = .returned (.int .i64 q) ∧ w = w') ∧
      (∀ w, Calls Try.prog 14 #[.int .i64 a, .int .i64 b] w fun e w' => e = .returned (.bool g) ∧ w = w') ∧
      (∀ w, Calls Try.prog 12 #[.int .i64 a, .int .i64 b] w fun e w' => e = .returned (.bool g) ∧ w = w') ∧
      ((g = true ∧ RightP a b ∧ q = (a + b - 1) / b) ∨ (g = false ∧ q = 0)) := by
    by_cases h : RightP a b
    · exact ⟨_, true, fun w => panes_yes a b w h, fun w => right_yes a b w h, fun w => rright_yes a b w h, .inl ⟨rfl, h, rfl⟩⟩
    · exact ⟨_, false, fun w => panes_no a b w h, fun w => right_no a b w h, fun w => rright_no a b w h, .inr ⟨rfl, rfl⟩⟩
  obtain ⟨q, g, hp1, hp2, hp3, hcase⟩ := hpan
  have HP1 := Lib.hid hp1
  have HP2 := Lib.hid hp2
  have HP3 := Lib.hid hp3
  clear hp1 hp2 hp3
  have hgg : (g == g) = true := by simp
  rcases hcase with ⟨rfl, hR, rfl⟩ | ⟨rfl, rfl⟩
  · have hm := most_bd a b hR.1 hR.2.1 hR.2.2.1
    obtain ⟨hR1, hR2, hR3, hR4⟩ := hR
    have hne : (b == 0) = false := by simp; omega
    have HE := Lib.hid (show (a + b - 1) / b = most a b from rfl)
    have hq1 : 0 ≤ (a + b - 1) / b := by rw [HE.out]; omega
    have hq2 : (a + b - 1) / b ≤ 8 := by rw [HE.out]; omega
    clear hR4
    go_enter Try.func4, Try.ntmps4
    go_wp2_with (first
      | (go_at_call 12; (with_reducible refine (HP3.out _).mono ?_); rintro e w' ⟨rfl, rfl⟩)
      | (go_at_call 13; (with_reducible refine (within_any _ _ _ _ (by omega) (by omega) (by omega)).mono ?_); rintro e w1 ⟨rfl, rfl⟩; rw [HN.out]))
    go_loopg [10, 12, 13] 10 (fun g v10 v12 v13 wr => ∃ k : Nat, k ≤ 10 ∧ g = 10 - k ∧ v10 = .int .i64 (if k = 0 then 0 else hiF O k + n) ∧ v13 = .int .i64 k ∧ (k = 0 → v12 = .slice none 0 0) ∧
      wr.ownsRow W.heap.size 3 1 v12 k (ints (fst O k)) ∧ Below W.heap.size W wr)
    case atStart => exact ⟨0, by omega, rfl, rfl, rfl, fun _ => rfl, World.ownsRow_nil _ _ _ _, Below.refl _ _⟩
    case round =>
      obtain ⟨k, hk, rfl, rfl, rfl, hnil, hown, hb⟩ := hrel
      have HB := Lib.hid hb
      have hz := hb.size
      have HW := Lib.hid hown
      have HNil := Lib.hid hnil
      have hhi : 0 < k → 0 ≤ hiF O k ∧ hiF O k ≤ 1099511627776 := fun h => hiF_bd O k _ _ (fun i _ => HOb.out i) h k (Nat.le_refl _)
      have HHi := Lib.hid hhi
      clear hnil hown hb hhi
      by_cases hlt : k < len1 ∧ k < 10
      · obtain ⟨hlt, h10⟩ := hlt
        obtain ⟨h1, h2, h3, h4⟩ := HA1.out.below HB.out
        obtain rfl := h1 (by omega)
        have hc0 := h3 k hlt
        clear h1 h2 h3 h4
        obtain ⟨ho0, ho1⟩ := HOb.out k
        have hacc : (k = 0 ∧ hiF O (k + 1) = O k) ∨ (0 < k ∧ (0 ≤ hiF O k ∧ hiF O k ≤ 1099511627776) ∧ ((hiF O k < O k ∧ hiF O (k + 1) = O k) ∨ (¬ hiF O k < O k ∧ hiF O (k + 1) = hiF O k))) := by
          rcases Nat.eq_zero_or_pos k with h0 | h0
          · exact .inl ⟨h0, by rw [h0]; simp [hiF]⟩
          · refine .inr ⟨h0, HHi.out h0, ?_⟩
            by_cases h : hiF O k < O k
            · exact .inl ⟨h, by simp only [hiF]; rw [if_pos h]⟩
            · exact .inr ⟨h, by simp only [hiF]; rw [if_neg h]⟩
        rcases hacc with ⟨hk0, hE⟩ | ⟨hk0, ⟨hb0, hb1⟩, ⟨hm, hE⟩ | ⟨hm, hE⟩⟩
        all_goals have HE2 := Lib.hid hE
        all_goals clear hE
        case' inl => have hk1 : (k = 0) = True := by simp [hk0]
        case' inl => have HK0 := Lib.hid hk0
        case' inl => clear hk0
        case' inr.inl => have hk1 : (k = 0) = False := by simp; omega
        case' inr.inr => have hk1 : (k = 0) = False := by simp; omega
        all_goals simp only [hk1, if_true, if_false]
        all_goals
          go_wp2_with (first
            | (go_at_call 13; (with_reducible refine (within_any _ _ _ _ (by omega) (by omega) (by omega)).mono ?_); rintro e w1 ⟨rfl, rfl⟩; rw [HO.out])
            | (at_builtin; refine wpList_append_own _ rfl (.tmp 35) (.tmp 41) 23 rfl W.heap.size 3 i0 _ 1 8 Try.underlying23 HI.out.1 HI.out.2.1 HI.out.2.2.1 HI.out.2.2.2 rfl (by decide) u12 k _ rfl (HW.out.alloc _) ⟨wr.heap.size, 0, none⟩ 1 1 [.int .i64 (O k)] rfl rfl (row_cells _ _ _) (by simp [Value.oneCell']) (by unfold maxLen; omega) (by omega) (by simp; omega) ?_; intro v' w5 hown5 hgrow5 _; have HO5 := Lib.hid (show w5.ownsRow W.heap.size 3 1 v' (k + 1) (ints (fst O (k + 1))) by rw [fst_succ, ints_append]; exact hown5); have HB5 := Lib.hid ((HB.out.alloc HB.out.size (.cells #[.int .i64 (O k)] 3)).grown hgrow5 (by simp; omega) (fun q hq => (HW.out.lt q hq).1)); clear hown5 hgrow5; obtain ⟨gg, cap, rfl, hg1, hg2, hcap, hcap2, hcs⟩ := own_form HO5.out (by omega); have hcc := hcs k _ (ints_fst_at O (k + 1) k (by omega)); clear hcs))
        all_goals
          go_roundg (10 - (k + 1))
          case measure => omega
          case rel => exact ⟨k + 1, by omega, rfl, by rw [if_neg (by omega), HE2.out], by go_num, fun h => absurd h (by omega), HO5.out, HB5.out⟩
      · have case1 : (len1 ≤ k ∧ 0 < k) ∨ (k < len1 ∧ 10 ≤ k ∧ 0 < k) ∨ (len1 ≤ k ∧ k = 0) := by omega
        clear hlt
        rcases case1 with ⟨hx, hk0⟩ | ⟨hx, hx2, hk0⟩ | ⟨hx, hk0⟩
        case' inr.inr => obtain rfl := HNil.out hk0
        case' inr.inr => have hk1 : (k = 0) = True := by simp [hk0]
        case' inr.inr => have HLs := Lib.hid (fun (w' : World) (_ : IsL w' (.slice none 0 0) (fst O k)) => last_any n (.slice none 0 0) [] w' (IsL.nil w') (by omega) (by omega) (fun i hi => absurd hi (by simp)) (by simp))
        case' inr.inr => have HLs2 := Lib.hid (show lastOf n [] = 0 from rfl)
        case' inr.inr => have HK0 := Lib.hid hk0
        case' inr.inr => clear hk0
        case' inl => have hk1 : (k = 0) = False := by simp; omega
        case' inl => have HLs := Lib.hid (fun (w' : World) (hL : IsL w' u12 (fst O k)) => last_any n u12 (fst O k) w' hL (by omega) (by omega) (fun i hi => by rw [fst_length] at hi; rw [fst_getD O k i hi]; have := HOb.out i; omega) (by rw [fst_length]; omega))
        case' inl => have HLs2 := Lib.hid (lastOf_fst n O k hk0)
        case' inr.inl => have hk1 : (k = 0) = False := by simp; omega
        case' inr.inl => have HLs := Lib.hid (fun (w' : World) (hL : IsL w' u12 (fst O k)) => last_any n u12 (fst O k) w' hL (by omega) (by omega) (fun i hi => by rw [fst_length] at hi; rw [fst_getD O k i hi]; have := HOb.out i; omega) (by rw [fst_length]; omega))
        case' inr.inl => have HLs2 := Lib.hid (lastOf_fst n O k hk0)
        all_goals simp only [hk1, if_true, if_false]
        all_goals have HIL := Lib.hid (IsL.of_own (l := fst O k) (by rw [fst_length]; exact HW.out))
        all_goals
          go_wp2_with (first
            | (go_at_call 14; (with_reducible refine (HP2.out _).mono ?_); rintro e w' ⟨rfl, rfl⟩)
            | (go_at_call 12; (with_reducible refine (HP3.out _).mono ?_); rintro e w' ⟨rfl, rfl⟩)
            | (go_at_call 10; (with_reducible refine (HP1.out _).mono ?_); rintro e w' ⟨rfl, rfl⟩)
            | (go_at_call 9; (with_reducible refine (starts_all _ _ _ _).mono ?_); rintro e w1 ⟨v1, rfl, ho, hb⟩; have HV1 := Lib.hid (IsL.of_own ho); have HL1 := Lib.hid (HIL.out.kept (hb)); have HB1 := Lib.hid (below_step HB.out hb); clear ho hb)
            | (go_at_call 15; (with_reducible refine (rstarts_all _ _ _ _).mono ?_); rintro e w2 ⟨v2, rfl, ho, hb⟩; have HV2 := Lib.hid (IsL.of_own ho); have HV1b := Lib.hid (HV1.out.kept hb); have HL2 := Lib.hid (HL1.out.kept hb); have HB2 := Lib.hid (below_step HB1.out hb); clear ho hb)
            | (go_at_call 8; (with_reducible refine (same_yes _ _ _ _ HV1b.out HV2.out).mono ?_); rintro e w3 ⟨rfl, hb⟩; have HL3 := Lib.hid (HL2.out.kept hb); have HB3 := Lib.hid (below_step HB2.out hb); clear hb)
            | (go_at_call 11; (with_reducible refine (HLs.out _ HL3.out).mono ?_); rintro e w' ⟨rfl, rfl⟩; rw [HLs2.out])
            | (go_at_call 3; refine (runs_any _).mono ?_; rintro e w4 ⟨rfl, hb⟩; have HB4 := Lib.hid (below_step HB3.out hb); clear hb))
          go_ret
          exact ⟨rfl, HB4.out⟩
  · go_enter Try.func4, Try.ntmps4
    go_wp2_with (first
      | (go_at_call 12; (with_reducible refine (HP3.out _).mono ?_); rintro e w' ⟨rfl, rfl⟩)
      | (go_at_call 13; (with_reducible refine (within_any _ _ _ _ (by omega) (by omega) (by omega)).mono ?_); rintro e w1 ⟨rfl, rfl⟩; rw [HN.out]))
    go_loopg [10, 12, 13] 10 (fun g v10 v12 v13 wr => ∃ k : Nat, k ≤ 10 ∧ g = 10 - k ∧ v10 = .int .i64 (if k = 0 then 0 else hiF O k + n) ∧ v13 = .int .i64 k ∧ (k = 0 → v12 = .slice none 0 0) ∧
      wr.ownsRow W.heap.size 3 1 v12 k (ints (fst O k)) ∧ Below W.heap.size W wr)
    case atStart => exact ⟨0, by omega, rfl, rfl, rfl, fun _ => rfl, World.ownsRow_nil _ _ _ _, Below.refl _ _⟩
    case round =>
      obtain ⟨k, hk, rfl, rfl, rfl, hnil, hown, hb⟩ := hrel
      have HB := Lib.hid hb
      have hz := hb.size
      have HW := Lib.hid hown
      have HNil := Lib.hid hnil
      have hhi : 0 < k → 0 ≤ hiF O k ∧ hiF O k ≤ 1099511627776 := fun h => hiF_bd O k _ _ (fun i _ => HOb.out i) h k (Nat.le_refl _)
      have HHi := Lib.hid hhi
      clear hnil hown hb hhi
      by_cases hlt : k < len1 ∧ k < 10
      · obtain ⟨hlt, h10⟩ := hlt
        obtain ⟨h1, h2, h3, h4⟩ := HA1.out.below HB.out
        obtain rfl := h1 (by omega)
        have hc0 := h3 k hlt
        clear h1 h2 h3 h4
        obtain ⟨ho0, ho1⟩ := HOb.out k
        have hacc : (k = 0 ∧ hiF O (k + 1) = O k) ∨ (0 < k ∧ (0 ≤ hiF O k ∧ hiF O k ≤ 1099511627776) ∧ ((hiF O k < O k ∧ hiF O (k + 1) = O k) ∨ (¬ hiF O k < O k ∧ hiF O (k + 1) = hiF O k))) := by
          rcases Nat.eq_zero_or_pos k with h0 | h0
          · exact .inl ⟨h0, by rw [h0]; simp [hiF]⟩
          · refine .inr ⟨h0, HHi.out h0, ?_⟩
            by_cases h : hiF O k < O k
            · exact .inl ⟨h, by simp only [hiF]; rw [if_pos h]⟩
            · exact .inr ⟨h, by simp only [hiF]; rw [if_neg h]⟩
        rcases hacc with ⟨hk0, hE⟩ | ⟨hk0, ⟨hb0, hb1⟩, ⟨hm, hE⟩ | ⟨hm, hE⟩⟩
        all_goals have HE2 := Lib.hid hE
        all_goals clear hE
        case' inl => have hk1 : (k = 0) = True := by simp [hk0]
        case' inl => have HK0 := Lib.hid hk0
        case' inl => clear hk0
        case' inr.inl => have hk1 : (k = 0) = False := by simp; omega
        case' inr.inr => have hk1 : (k = 0) = False := by simp; omega
        all_goals simp only [hk1, if_true, if_false]
        all_goals
          go_wp2_with (first
            | (go_at_call 13; (with_reducible refine (within_any _ _ _ _ (by omega) (by omega) (by omega)).mono ?_); rintro e w1 ⟨rfl, rfl⟩; rw [HO.out])
            | (at_builtin; refine wpList_append_own _ rfl (.tmp 35) (.tmp 41) 23 rfl W.heap.size 3 i0 _ 1 8 Try.underlying23 HI.out.1 HI.out.2.1 HI.out.2.2.1 HI.out.2.2.2 rfl (by decide) u12 k _ rfl (HW.out.alloc _) ⟨wr.heap.size, 0, none⟩ 1 1 [.int .i64 (O k)] rfl rfl (row_cells _ _ _) (by simp [Value.oneCell']) (by unfold maxLen; omega) (by omega) (by simp; omega) ?_; intro v' w5 hown5 hgrow5 _; have HO5 := Lib.hid (show w5.ownsRow W.heap.size 3 1 v' (k + 1) (ints (fst O (k + 1))) by rw [fst_succ, ints_append]; exact hown5); have HB5 := Lib.hid ((HB.out.alloc HB.out.size (.cells #[.int .i64 (O k)] 3)).grown hgrow5 (by simp; omega) (fun q hq => (HW.out.lt q hq).1)); clear hown5 hgrow5; obtain ⟨gg, cap, rfl, hg1, hg2, hcap, hcap2, hcs⟩ := own_form HO5.out (by omega); have hcc := hcs k _ (ints_fst_at O (k + 1) k (by omega)); clear hcs))
        all_goals
          go_roundg (10 - (k + 1))
          case measure => omega
          case rel => exact ⟨k + 1, by omega, rfl, by rw [if_neg (by omega), HE2.out], by go_num, fun h => absurd h (by omega), HO5.out, HB5.out⟩
      · have case1 : (len1 ≤ k ∧ 0 < k) ∨ (k < len1 ∧ 10 ≤ k ∧ 0 < k) ∨ (len1 ≤ k ∧ k = 0) := by omega
        clear hlt
        rcases case1 with ⟨hx, hk0⟩ | ⟨hx, hx2, hk0⟩ | ⟨hx, hk0⟩
        case' inr.inr => obtain rfl := HNil.out hk0
        case' inr.inr => have hk1 : (k = 0) = True := by simp [hk0]
        case' inr.inr => have HLs := Lib.hid (fun (w' : World) (_ : IsL w' (.slice none 0 0) (fst O k)) => last_any n (.slice none 0 0) [] w' (IsL.nil w') (by omega) (by omega) (fun i hi => absurd hi (by simp)) (by simp))
        case' inr.inr => have HLs2 := Lib.hid (show lastOf n [] = 0 from rfl)
        case' inr.inr => have HK0 := Lib.hid hk0
        case' inr.inr => clear hk0
        case' inl => have hk1 : (k = 0) = False := by simp; omega
        case' inl => have HLs := Lib.hid (fun (w' : World) (hL : IsL w' u12 (fst O k)) => last_any n u12 (fst O k) w' hL (by omega) (by omega) (fun i hi => by rw [fst_length] at hi; rw [fst_getD O k i hi]; have := HOb.out i; omega) (by rw [fst_length]; omega))
        case' inl => have HLs2 := Lib.hid (lastOf_fst n O k hk0)
        case' inr.inl => have hk1 : (k = 0) = False := by simp; omega
        case' inr.inl => have HLs := Lib.hid (fun (w' : World) (hL : IsL w' u12 (fst O k)) => last_any n u12 (fst O k) w' hL (by omega) (by omega) (fun i hi => by rw [fst_length] at hi; rw [fst_getD O k i hi]; have := HOb.out i; omega) (by rw [fst_length]; omega))
        case' inr.inl => have HLs2 := Lib.hid (lastOf_fst n O k hk0)
        all_goals simp only [hk1, if_true, if_false]
        all_goals have HIL := Lib.hid (IsL.of_own (l := fst O k) (by rw [fst_length]; exact HW.out))
        all_goals
          go_wp2_with (first
            | (go_at_call 14; (with_reducible refine (HP2.out _).mono ?_); rintro e w' ⟨rfl, rfl⟩)
            | (go_at_call 12; (with_reducible refine (HP3.out _).mono ?_); rintro e w' ⟨rfl, rfl⟩)
            | (go_at_call 10; (with_reducible refine (HP1.out _).mono ?_); rintro e w' ⟨rfl, rfl⟩)
            | (go_at_call 9; (with_reducible refine (starts_all _ _ _ _).mono ?_); rintro e w1 ⟨v1, rfl, ho, hb⟩; have HV1 := Lib.hid (IsL.of_own ho); have HL1 := Lib.hid (HIL.out.kept (hb)); have HB1 := Lib.hid (below_step HB.out hb); clear ho hb)
            | (go_at_call 15; (with_reducible refine (rstarts_all _ _ _ _).mono ?_); rintro e w2 ⟨v2, rfl, ho, hb⟩; have HV2 := Lib.hid (IsL.of_own ho); have HV1b := Lib.hid (HV1.out.kept hb); have HL2 := Lib.hid (HL1.out.kept hb); have HB2 := Lib.hid (below_step HB1.out hb); clear ho hb)
            | (go_at_call 8; (with_reducible refine (same_yes _ _ _ _ HV1b.out HV2.out).mono ?_); rintro e w3 ⟨rfl, hb⟩; have HL3 := Lib.hid (HL2.out.kept hb); have HB3 := Lib.hid (below_step HB2.out hb); clear hb)
            | (go_at_call 11; (with_reducible refine (HLs.out _ HL3.out).mono ?_); rintro e w' ⟨rfl, rfl⟩; rw [HLs2.out])
            | (go_at_call 3; refine (runs_any _).mono ?_; rintro e w4 ⟨rfl, hb⟩; have HB4 := Lib.hid (below_step HB3.out hb); clear hb))
          go_ret
          exact ⟨rfl, HB4.out⟩
end Go.Proofs.Ytmdcbpmmmklghaa
