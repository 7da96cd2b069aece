/- The walk of WindowShift. -/
import Derived.Test.YtmdcbpmmmklghaaTu
namespace Go.Proofs.Ytmdcbpmmmklghaa
open Go.RowKit

theorem upTo_ints_at (last s : Int) (k i : Nat) (hi : i < k) : (ints (upTo last s k))[i]? = some (.int .i64 (last - ((k - 1 - i : Nat) : Int) * s)) := by
  simp [ints, upTo_at last s k i hi]
/-- the greatest of the windows' begins is the last one -/
theorem hiF_upTo (X : Nat → Int) (last s : Int) (k : Nat) (hs : 0 ≤ s) (hX : ∀ i, i < k → X i = last - ((k - 1 - i : Nat) : Int) * s) (n : Nat) (h0 : 0 < n) (hn : n ≤ k) :
    hiF X n = last - ((k - n : Nat) : Int) * s := by
  induction n with
  | zero => omega
  | succ n ih =>
    have e := hX n (by omega)
    rcases Nat.eq_zero_or_pos n with h | h
    · subst h
      have e0 := hX 0 (by omega)
      have e1 : hiF X (0 + 1) = X 0 := by simp [hiF]
      rw [e1, e0]
      congr 3
    · simp only [hiF]
      rw [ih h (by omega), e]
      have e2 : ((k - 1 - n : Nat) : Int) * s ≤ ((k - n : Nat) : Int) * s := Int.mul_le_mul_of_nonneg_right (by omega) hs
      have e3 : (k - (n + 1) : Nat) = (k - 1 - n : Nat) := by omega
      rw [e3]
      split <;> omega
theorem lastOf_upTo (m last s : Int) (k : Nat) (hs : 0 ≤ s) (hk : 0 < k) : lastOf m (upTo last s k) = last + m := by
  unfold lastOf
  rw [upTo_length, if_neg (by omega), hiF_upTo _ last s k hs (fun i hi => upTo_getD last s k i hi 0) k hk (Nat.le_refl _)]
  simp
theorem upTo_bd (last s : Int) (k : Nat) (hs : 0 ≤ s) (hs2 : s ≤ 1000000) (hk : k ≤ 1000) (h0 : 0 ≤ last) (h1 : last ≤ 1100000000000) : ∀ i, i < (upTo last s k).length → -9000000000000 ≤ (upTo last s k).getD i 0 ∧ (upTo last s k).getD i 0 ≤ 9000000000000 := by
  intro i hi
  rw [upTo_length] at hi
  rw [upTo_getD last s k i hi]
  have a1 : 0 ≤ ((k - 1 - i : Nat) : Int) * s := Int.mul_nonneg (by omega) hs
  have a2 : ((k - 1 - i : Nat) : Int) * s ≤ 1000 * s := Int.mul_le_mul_of_nonneg_right (by omega) hs
  omega
/-- the end of a list of windows, as a slice of it -/
theorem IsL.suffix {w : World} {g cap K c : Nat} {last s : Int} (hc : ∀ j u, (ints (upTo last s K))[j]? = some u → w.cell? ⟨g, j, none⟩ = some u) (hg : g < w.heap.size) (h1 : c ≤ K) (h2 : K ≤ cap) (h3 : cap ≤ maxLen) :
    IsL w (.slice (some ⟨g, K - c, none⟩) c (cap - (K - c))) (upTo last s c) := by
  refine ⟨_, _, by rw [upTo_length], by rw [upTo_length]; omega, by rw [upTo_length]; omega, g, K - c, fun _ => ⟨rfl, hg⟩, fun i hi => ?_⟩
  rw [upTo_length] at hi
  rw [upTo_getD last s c i hi]
  have := hc (K - c + i) _ (upTo_ints_at last s K (K - c + i) (by omega))
  rw [this]
  congr 5
  omega

set_option maxRecDepth 100000 in
set_option maxHeartbeats 4000000 in
theorem shift_any (W : World) (t : Int) (_ht : (Lit.int .i64 t).wf = true) (a : Int) (_ha : (Lit.int .i64 a).wf = true) (b : Int) (_hb : (Lit.int .i64 b).wf = true) (by' : Int) (_hby : (Lit.int .i64 by').wf = true) :
    Calls Try.prog 7 #[.int .i64 t, .int .i64 a, .int .i64 b, .int .i64 by'] W fun e w' => e = .returned (.bool true) ∧ Below W.heap.size W w' := by
  obtain ⟨s, hs⟩ : ∃ s, within b 1 40 = s := ⟨_, rfl⟩
  obtain ⟨hs0, hs1⟩ := hs ▸ within_bd b 1 40 (by omega)
  obtain ⟨n, hn⟩ : ∃ n, within a s (8 * s) = n := ⟨_, rfl⟩
  obtain ⟨hn0, hn1⟩ := hn ▸ within_bd a s (8 * s) (by omega)
  obtain ⟨f, hf⟩ : ∃ f, within t 0 2000 = f := ⟨_, rfl⟩
  obtain ⟨hf0, hf1⟩ := hf ▸ within_bd t 0 2000 (by omega)
  obtain ⟨k, hk⟩ : ∃ k, within by' 0 50 = k := ⟨_, rfl⟩
  obtain ⟨hk0, hk1⟩ := hk ▸ within_bd by' 0 50 (by omega)
  obtain ⟨m, hm⟩ : ∃ m, within a s n = m := ⟨_, rfl⟩
  obtain ⟨hm0, hm1⟩ := hm ▸ within_bd a s n (by omega)
  have HS := Lib.hid hs
  have HN := Lib.hid hn
  have HF := Lib.hid hf
  have HKk := Lib.hid hk
  have HM := Lib.hid hm
  clear hs hn hf hk hm
  have HR := Lib.hid (right_small n s hs0 hn0 hn1 (by omega))
  have HR2 := Lib.hid (right_small m s hs0 hm0 (by omega) (by omega))
  have hks0 : 0 ≤ k * s := Int.mul_nonneg hk0 (by omega)
  have hks1 : k * s ≤ 2000 := by
    have h1 : k * s ≤ 50 * s := Int.mul_le_mul_of_nonneg_right hk1 (by omega)
    omega
  obtain ⟨x, hx⟩ : ∃ x, n + f = x := ⟨_, rfl⟩
  have hxn : n ≤ x := by omega
  have hx2 : x ≤ 2320 := by omega
  obtain ⟨last, hlast⟩ : ∃ last, x - x % s = last := ⟨_, rfl⟩
  have hr := Int.emod_nonneg x (show s ≠ 0 by omega)
  have hr2 := Int.emod_lt_of_pos x (show 0 < s by omega)
  have hd := Int.mul_ediv_add_emod x s
  have hd2 := Int.mul_nonneg (show 0 ≤ s by omega) (Int.ediv_nonneg (show 0 ≤ x by omega) (show 0 ≤ s by omega))
  have hl0 : 0 ≤ last := by omega
  have hl1 : last ≤ 2320 := by omega
  have hpk := kOf_pos x n s HR.out (by omega)
  have hpk2 := kOf_le_most x n s HR.out
  have hpk3 := HR.out.2.2.2
  have hck := kOf_pos x m s HR2.out (by omega)
  obtain ⟨K, hK⟩ : ∃ K : Nat, kOf x n s = K := ⟨(kOf x n s).toNat, by omega⟩
  obtain ⟨C, hC⟩ : ∃ C : Nat, kOf x m s = C := ⟨(kOf x m s).toNat, by omega⟩
  have hK2 : kOf (x + k * s) n s = K := by
    rw [← hK, kOf_far _ n s hs0 (by omega), kOf_far x n s hs0 hxn, Int.add_mul_emod_self_right]
  have hCK : C ≤ K := by
    have h1 := kOf_far x n s hs0 hxn
    have h2 := kOf_far x m s hs0 (by omega)
    have h3 : (m - 1 - x % s) / s ≤ (n - 1 - x % s) / s := Int.ediv_le_ediv (by omega) (by omega)
    omega
  have hC1 : 1 ≤ C := by omega
  have hK8 : K ≤ 8 := by omega
  have HC1 := Lib.hid (fun w => (show Calls Try.prog 9 #[.int .i64 x, .int .i64 n, .int .i64 s] w (RetL w (upTo last s K)) by
    rw [← hlast]; exact starts_k x n s K w HR.out (by omega) (by omega) hK))
  have HC2 := Lib.hid (fun w => (show Calls Try.prog 9 #[.int .i64 (x + k * s), .int .i64 n, .int .i64 s] w (RetL w (upTo (last + k * s) s K)) by
    have := starts_k (x + k * s) n s K w HR.out (by omega) (by omega) hK2
    rwa [Int.add_mul_emod_self_right, show x + k * s - x % s = last + k * s by omega] at this))
  have HC3 := Lib.hid (fun w => (show Calls Try.prog 9 #[.int .i64 x, .int .i64 m, .int .i64 s] w (RetL w (upTo last s C)) by
    rw [← hlast]; exact starts_k x m s C w HR2.out (by omega) (by omega) hC))
  have HX := Lib.hid hx
  clear hr hr2 hd hd2 hpk hpk2 hpk3 hck hK hC hK2 hlast hx
  go_enter Try.func7, Try.ntmps7
  go_wp2_with (first
    | (go_at_call 13; (with_reducible refine (within_any b 1 40 _ (by omega) (by omega) (by omega)).mono ?_); rintro e w1 ⟨rfl, rfl⟩; rw [HS.out])
    | (go_at_call 13; (with_reducible refine (within_any a s (8 * s) _ (by omega) (by omega) (by omega)).mono ?_); rintro e w1 ⟨rfl, rfl⟩; rw [HN.out])
    | (go_at_call 13; (with_reducible refine (within_any t 0 2000 _ (by omega) (by omega) (by omega)).mono ?_); rintro e w1 ⟨rfl, rfl⟩; rw [HF.out])
    | (go_at_call 13; (with_reducible refine (within_any by' 0 50 _ (by omega) (by omega) (by omega)).mono ?_); rintro e w1 ⟨rfl, rfl⟩; rw [HKk.out])
    | (go_at_call 9; (try rw [HX.out]); (with_reducible refine (HC1.out _).mono ?_); rintro e w1 ⟨v1, rfl, ho, hb⟩; have HB1 := Lib.hid hb; have hv1 := IsL.of_own ho; obtain ⟨g1, cap1, rfl, hg11, hg12, hcap11, hcap12, hcs1⟩ := own_form ho (by rw [upTo_length]; omega); rw [upTo_length] at hcap11 hv1; have HV1 := Lib.hid hv1; clear hv1; rw [upTo_length]; have HCS1 := Lib.hid hcs1; clear hcs1 ho hb)
    | (go_at_call 9; (try rw [HX.out]); (with_reducible refine (HC2.out _).mono ?_); rintro e w2 ⟨v2, rfl, ho, hb⟩; have HB2 := Lib.hid (below_step HB1.out hb); have HV1b := Lib.hid (HV1.out.kept hb); have HCS1b := Lib.hid (fun j u hu => (hb.cell (p := ⟨g1, j, none⟩) hg12).trans (HCS1.out j u hu)); obtain ⟨g2, cap2, rfl, hg21, hg22, hcap21, hcap22, hcs2⟩ := own_form ho (by rw [upTo_length]; omega); rw [upTo_length]; have HCS2 := Lib.hid hcs2; clear hcs2 ho; have hz2 := hb.size; clear hb))
  have HA := Lib.hid (fun (i : Nat) (hi : i < K) (V : World) (hV : V.heap = w2.heap) => (show V.cell? ⟨g1, i, none⟩ = some (.int .i64 (last - ((K - 1 - i : Nat) : Int) * s)) by rw [World.cell?_of_block (w := w2) (by rw [hV])]; exact HCS1b.out i _ (upTo_ints_at last s K i hi)))
  have HBt := Lib.hid (fun (i : Nat) (hi : i < K) (V : World) (hV : V.heap = w2.heap) => (show V.cell? ⟨g2, i, none⟩ = some (.int .i64 (last - ((K - 1 - i : Nat) : Int) * s + k * s)) by rw [World.cell?_of_block (w := w2) (by rw [hV]), HCS2.out i _ (upTo_ints_at (last + k * s) s K i hi)]; congr 2; omega))
  go_loopg [55] K (fun g v55 wr => ∃ i : Nat, i ≤ K ∧ g = K - i ∧ v55 = .int .i64 i ∧ wr.heap = w2.heap ∧ Below w2.heap.size w2 wr)
  case atStart => exact ⟨0, by omega, by omega, rfl, rfl, Below.refl _ _⟩
  case round =>
    obtain ⟨i, hi, rfl, rfl, hw, hb⟩ := hrel
    have HW := Lib.hid hw
    have HB3 := Lib.hid hb
    clear hw hb
    by_cases hlt : i < K
    · obtain ⟨α, hα⟩ : ∃ α, last - ((K - 1 - i : Nat) : Int) * s = α := ⟨_, rfl⟩
      have hx := HA.out i hlt
      have hy := HBt.out i hlt
      rw [hα] at hx hy
      have hp0 : 0 ≤ ((K - 1 - i : Nat) : Int) * s := Int.mul_nonneg (by omega) (by omega)
      have hp1 : ((K - 1 - i : Nat) : Int) * s ≤ 8 * s := Int.mul_le_mul_of_nonneg_right (by omega) (by omega)
      have ha0 : -1000 ≤ α := by omega
      have ha1 : α ≤ 3000 := by omega
      clear hp0 hp1 hα
      have hw1 : IntKind.i64.wrap (k * s) = k * s := IntWalk.i64_in _ (by omega)
      have hw2 : IntKind.i64.wrap (α + k * s) = α + k * s := IntWalk.i64_in _ (by omega)
      go_wp2
      refine wp_region_planO (fun V => V.heap = w2.heap) [(true, 0), (true, 1), (true, 2), (true, 3), (true, 4), (true, 5), (true, 6), (true, 7), (true, 8), (true, 9), (true, 10), (true, 11), (true, 12)] ?planL (by kernel_rfl) (by kernel_rfl) (by kernel_rfl) ?planH (by intro c a d v w; cases d <;> exact fun h => h) HW.out ?_
      case planH =>
        simp only [planOps, List.map_cons, List.map_nil, List.getElem?_toArray, List.getElem?_cons_zero, List.getElem?_cons_succ]
        try rfl
      iterate 13 (refine wpPlan_take (v := ?_) (by rfl) (fun w' hS => ?_) ?_; rotate_left; (focus (go_simp; with_reducible rfl)); simp only [Act.put, List.setIfInBounds_toArray, List.set_cons_zero, List.set_cons_succ])
      clear hw1 hw2
      refine wpPlan_nil ?_
      go_wp2
      go_roundg (K - (i + 1))
      case measure => omega
      case rel => exact ⟨i + 1, by omega, rfl, by go_num, HW.out, HB3.out.drew⟩
    · obtain rfl : i = K := by omega
      have HL3 := Lib.hid (HV1b.out.kept HB3.out)
      have HCS3 := Lib.hid (fun j u hu => (World.cell?_of_block (a := ⟨g1, j, none⟩) (w := w2) (w' := wr) (by rw [HW.out])).trans (HCS1b.out j u hu))
      have hg3 : g1 < wr.heap.size := by rw [HW.out]; omega
      have HB4 := Lib.hid (below_step HB2.out HB3.out)
      have HLa := Lib.hid (fun (w : World) (v : Value) (h : IsL w v (upTo last s i)) => last_any n v _ w h (by omega) (by omega) (upTo_bd last s i (by omega) (by omega) (by omega) hl0 (by omega)) (by rw [upTo_length]; omega))
      have HLc := Lib.hid (fun (w : World) (v : Value) (h : IsL w v (upTo last s C)) => last_any m v _ w h (by omega) (by omega) (upTo_bd last s C (by omega) (by omega) (by omega) hl0 (by omega)) (by rw [upTo_length]; omega))
      have HLaE := Lib.hid (lastOf_upTo n last s i (by omega) (by omega))
      have HLcE := Lib.hid (lastOf_upTo m last s C (by omega) (by omega))
      have hcq : (cap1 = i - C) = False := by simp; omega
      have hnn : i - (i - C) = C := by omega
      go_wp2_with (first
        | (go_at_call 13; (with_reducible refine (within_any a s n _ (by omega) (by omega) (by omega)).mono ?_); rintro e w1 ⟨rfl, rfl⟩; rw [HM.out])
        | (go_at_call 9; (try rw [HX.out]); (with_reducible refine (HC3.out _).mono ?_); rintro e w5 ⟨v5, rfl, ho, hb⟩; have HB5 := Lib.hid (below_step HB4.out hb); have hv5 := IsL.of_own ho; have HL5 := Lib.hid (HL3.out.kept hb); have HCS5 := Lib.hid (fun j u hu => (hb.cell (p := ⟨g1, j, none⟩) hg3).trans (HCS3.out j u hu)); have hg5 := (by have := hb.size; omega : g1 < w5.heap.size); obtain ⟨g6, cap6, rfl, _, _, _, _, _⟩ := own_form ho (by rw [upTo_length]; omega); rw [upTo_length] at hv5; rw [upTo_length]; have HV5 := Lib.hid hv5; clear hv5; have HSf := Lib.hid (IsL.suffix HCS5.out hg5 hCK hcap11 hcap12); clear ho hb)
        | (go_at_call 8; (with_reducible refine (same_yes _ _ _ _ HV5.out HSf.out).mono ?_); rintro e w6 ⟨rfl, hb⟩; have HB6 := Lib.hid (below_step HB5.out hb); have HL6 := Lib.hid (HL5.out.kept hb); have HV6 := Lib.hid (HV5.out.kept hb); clear hb)
        | (go_at_call 11; (with_reducible refine (HLa.out _ _ HL6.out).mono ?_); rintro e w' ⟨rfl, rfl⟩; rw [HLaE.out])
        | (go_at_call 11; (with_reducible refine (HLc.out _ _ HV6.out).mono ?_); rintro e w' ⟨rfl, rfl⟩; rw [HLcE.out])
        | (go_at_call 3; refine (runs_any _).mono ?_; rintro e w7 ⟨rfl, hb⟩; have HB7 := Lib.hid (below_step HB6.out hb); clear hb))
      go_ret
      exact ⟨rfl, HB7.out⟩
end Go.Proofs.Ytmdcbpmmmklghaa
