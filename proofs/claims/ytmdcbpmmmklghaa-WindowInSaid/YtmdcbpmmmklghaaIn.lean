/- The walk of WindowIn. -/
import Derived.Test.YtmdcbpmmmklghaaInP
import Derived.Carry
import Derived.Maps.OwnOps
namespace Go.Proofs.Ytmdcbpmmmklghaa
open Go.RowKit

theorem zero4 (w : World) : (zeroValue 4).run Try.prog w = .ok (.bool false) w := by
  have h : (Try.prog.info? 4).map (fun i => (i.zero, i.size, i.bytes)) = some (some (.bool false), 1, 1) := by kernel_rfl
  obtain ⟨i, hi, hz0, hz1, hz2⟩ := info_parts h
  simp [zeroValue, typeInfo, hi, hz0, Result.andThen]

set_option maxRecDepth 100000 in
set_option maxHeartbeats 40000000 in
theorem in_any (W : World) (t : Int) (_ht : (Lit.int .i64 t).wf = true) (a : Int) (_ha : (Lit.int .i64 a).wf = true) (b : Int) (_hb : (Lit.int .i64 b).wf = true) (at' : Int) (_hat : (Lit.int .i64 at').wf = true) :
    Calls Try.prog 5 #[.int .i64 t, .int .i64 a, .int .i64 b, .int .i64 at'] W fun e w' => e = .returned (.bool true) ∧ Below W.heap.size W w' := by
  obtain ⟨s, hs⟩ : ∃ s, within b 1 50 = s := ⟨_, rfl⟩
  obtain ⟨hs0, hs1⟩ := hs ▸ within_bd b 1 50 (by omega)
  obtain ⟨n, hn⟩ : ∃ n, within a s (8 * s) = n := ⟨_, rfl⟩
  obtain ⟨hn0, hn1⟩ := hn ▸ within_bd a s (8 * s) (by omega)
  obtain ⟨x, hx⟩ : ∃ x, within t 0 5000 = x := ⟨_, rfl⟩
  obtain ⟨hx0, hx1⟩ := hx ▸ within_bd t 0 5000 (by omega)
  obtain ⟨y, hy⟩ : ∃ y, within at' 0 6000 = y := ⟨_, rfl⟩
  obtain ⟨hy0, hy1⟩ := hy ▸ within_bd at' 0 6000 (by omega)
  have HS := Lib.hid hs
  have HN := Lib.hid hn
  have HX := Lib.hid hx
  have HY := Lib.hid hy
  clear hs hn hx hy
  have hR := right_small n s hs0 hn0 hn1 (by omega)
  have HR := Lib.hid hR
  obtain ⟨last, hlast⟩ : ∃ last, x - x % s = last := ⟨_, rfl⟩
  have hr := Int.emod_nonneg x (show s ≠ 0 by omega)
  have hr2 := Int.emod_lt_of_pos x (show 0 < s by omega)
  have hd := Int.mul_ediv_add_emod x s
  have hd2 := Int.mul_nonneg (show 0 ≤ s by omega) (Int.ediv_nonneg (show 0 ≤ x by omega) (show 0 ≤ s by omega))
  have hl0 : 0 ≤ last := by omega
  have hl1 : last ≤ x := by omega
  have hln : x < last + n := by omega
  have hpk := kOf_pos x n s HR.out (by omega)
  have hpk2 := kOf_le_most x n s HR.out
  have hpk3 := HR.out.2.2.2
  have hqk := kOf_pos (x + s) n s HR.out (by omega)
  have hqk2 := kOf_le_most (x + s) n s HR.out
  obtain ⟨K, hK⟩ : ∃ K : Nat, kOf x n s = K := ⟨(kOf x n s).toNat, by omega⟩
  obtain ⟨C, hC⟩ : ∃ C : Nat, kOf (x + s) n s = C := ⟨(kOf (x + s) n s).toNat, by omega⟩
  obtain ⟨m, hm⟩ : ∃ m : Int, most n s = m := ⟨_, rfl⟩
  have hfar : x < n ∨ (n ≤ x ∧ C = K ∧ m - 1 ≤ K) := by
    rcases Int.lt_or_le x n with h | h
    · exact .inl h
    · refine .inr ⟨h, ?_, ?_⟩
      · have h1 := kOf_far x n s hs0 h
        have h2 := kOf_far (x + s) n s hs0 (by omega)
        rw [Int.add_emod_right] at h2
        omega
      · have := most_far x n s hs0 h
        omega
  obtain ⟨q, hq⟩ : ∃ q, y / s = q := ⟨_, rfl⟩
  have hq0 : 0 ≤ q := hq ▸ Int.ediv_nonneg hy0 (by omega)
  have hqs := Int.mul_nonneg hq0 (show 0 ≤ s by omega)
  have hqs2 : q * s ≤ y := by rw [← hq]; exact Int.ediv_mul_le _ (by omega)
  have hqy : q ≤ 6000 := by
    have : q * 1 ≤ q * s := Int.mul_le_mul_of_nonneg_left hs0 hq0
    omega
  have HBM := Lib.hid (fun j => hlast ▸ beg_mod x s K j)
  have HBB := Lib.hid (fun j hj => hlast ▸ beg_bd x n s hs0 K hK j hj)
  have HBH := Lib.hid (hlast ▸ beg_hit x n s q hs0 K hK hq0)
  have hK1 : 1 ≤ K := by omega
  have hC1 : 1 ≤ C := by omega
  have hKm : (K : Int) ≤ m := by omega
  have hCm : (C : Int) ≤ m := by omega
  have hm8 : m ≤ 8 := by omega
  have HM := Lib.hid hm
  have HQ := Lib.hid hq
  have HC1 := Lib.hid (fun w => (show Calls Try.prog 9 #[.int .i64 x, .int .i64 n, .int .i64 s] w (RetL w (upTo last s K)) by
    rw [← hlast]; exact starts_k x n s K w HR.out (by omega) (by omega) hK))
  have HC2 := Lib.hid (fun w => (show Calls Try.prog 9 #[.int .i64 (x + s), .int .i64 n, .int .i64 s] w (RetL w (upTo (last + s) s C)) by
    have := starts_k (x + s) n s C w HR.out (by omega) (by omega) hC
    rwa [Int.add_emod_right, show x + s - x % s = last + s by omega] at this))
  have hne : (s == 0) = false := by simp; omega
  obtain ⟨k, hk⟩ : ∃ k, q * s = k := ⟨_, rfl⟩
  have hk0 : 0 ≤ k := by omega
  have hk1 : k ≤ 6000 := by omega
  have HK := Lib.hid hk
  have hlook : ∃ β : Bool, (β = decide (k ≤ x ∧ x < k + n)) ∧ ∀ (w : World) (r : Nat), w.heap[r]? = some (.map (Ent (beg last s K) K) K) → (Instr.lookup 31 (.map (some r)) (.int .i64 k) false).run Try.prog w = .ok (.bool β) w := by
    by_cases h : k ≤ x ∧ x < k + n
    · refine ⟨true, by simp [h], fun w r hw => run_look_in w 31 3 4 Try.underlying31 Try.underlying3 r _ K hw k ?_⟩
      rw [← hk] at h ⊢
      exact HBH.out h.1 h.2
    · refine ⟨false, by simp [h], fun w r hw => run_look_out w 31 3 4 Try.underlying31 Try.underlying3 zero4 r _ K hw k ?_⟩
      intro j hj e
      have := HBB.out j hj
      omega
  obtain ⟨β, hβ, hlk⟩ := hlook
  have HLK := Lib.hid hlk
  have HQS := Lib.hid (show IntKind.i64.wrap (q * s) = k by rw [hk]; exact IntWalk.i64_in _ (by omega))
  clear hr hr2 hd hd2 hpk hpk2 hpk3 hqk hqk2 hK hC hlast hR hm hq hqs hqs2 hlk hk
  have hcase : (x < n ∧ ((k ≤ x ∧ x < k + n ∧ β = true) ∨ (x < k ∧ β = false) ∨ (k ≤ x ∧ k + n ≤ x ∧ β = false))) ∨ ((n ≤ x ∧ C = K ∧ m - 1 ≤ K) ∧ ((k ≤ x ∧ x < k + n ∧ β = true) ∨ (x < k ∧ β = false) ∨ (k ≤ x ∧ k + n ≤ x ∧ β = false))) := by
    have : (k ≤ x ∧ x < k + n ∧ β = true) ∨ (x < k ∧ β = false) ∨ (k ≤ x ∧ k + n ≤ x ∧ β = false) := by
      by_cases h1 : k ≤ x
      · by_cases h2 : x < k + n
        · exact .inl ⟨h1, h2, by simp [hβ, h1, h2]⟩
        · exact .inr (.inr ⟨h1, by omega, by simp [hβ, h1, h2]⟩)
      · exact .inr (.inl ⟨by omega, by simp [hβ, h1]⟩)
    rcases hfar with h | h
    · exact .inl ⟨h, this⟩
    · exact .inr ⟨h, this⟩
  clear hβ hfar
  rcases hcase with ⟨hxn, ⟨hkx, hkn, rfl⟩ | ⟨hkx, rfl⟩ | ⟨hkx, hkn, rfl⟩⟩ | ⟨⟨hxn, hCK, hKm1⟩, ⟨hkx, hkn, rfl⟩ | ⟨hkx, rfl⟩ | ⟨hkx, hkn, rfl⟩⟩
  all_goals try (exfalso; omega)
  all_goals
    all_goals try (have HCK := Lib.hid hCK; clear hCK)
    have hmk := run_makeMap (P := Try.prog) 31
    go_enter Try.func5, Try.ntmps5
    go_wp2_with (first
      | (go_at_call 13; (with_reducible refine (within_any b 1 50 _ (by omega) (by omega) (by omega)).mono ?_); rintro e w1 ⟨rfl, rfl⟩; rw [HS.out])
      | (go_at_call 13; (with_reducible refine (within_any a s (8 * s) _ (by omega) (by omega) (by omega)).mono ?_); rintro e w1 ⟨rfl, rfl⟩; rw [HN.out])
      | (go_at_call 13; (with_reducible refine (within_any t 0 5000 _ (by omega) (by omega) (by omega)).mono ?_); rintro e w1 ⟨rfl, rfl⟩; rw [HX.out])
      | (go_at_call 9; (with_reducible refine (HC1.out _).mono ?_); rintro e w1 ⟨v1, rfl, ho, hb⟩; have HB1 := Lib.hid hb; have hv1 := IsL.of_own ho; obtain ⟨g1, cap1, rfl, hg11, hg12, hcap11, hcap12, hcs1⟩ := own_form ho (by rw [upTo_length]; omega); rw [upTo_length] at hcap11 hv1; have HV1 := Lib.hid hv1; clear hv1; rw [upTo_length]; have HCS1 := Lib.hid hcs1; clear hcs1 ho hb)
      | (go_at_call 14; (with_reducible refine (right_yes _ _ _ HR.out).mono ?_); rintro e w' ⟨rfl, rfl⟩)
      | (go_at_call 10; (with_reducible refine (panes_yes _ _ _ HR.out).mono ?_); rintro e w' ⟨rfl, rfl⟩; rw [HM.out]))
    have HCS1a := Lib.hid (fun (i : Nat) (hi : i < K) (V : World) (hV : ∀ j, V.cell? ⟨g1, j, none⟩ = w1.cell? ⟨g1, j, none⟩) => (show V.cell? ⟨g1, i, none⟩ = some (.int .i64 (beg last s K i)) by rw [hV]; exact HCS1.out i _ (upTo_ints_at last s K i hi)))
    clear hmk
    go_loopg [68] K (fun g v68 wr => ∃ i : Nat, i ≤ K ∧ g = K - i ∧ v68 = .int .i64 i ∧ wr.heap[w1.heap.size]? = some (.map (Ent (beg last s K) i) i) ∧ (∀ j, wr.cell? ⟨g1, j, none⟩ = w1.cell? ⟨g1, j, none⟩) ∧ Below w1.heap.size w1 wr)
    case atStart => exact ⟨0, by omega, by omega, rfl, heap_alloc_new _ _, fun j => World.cell?_of_block ((Go.MapKept.heap_alloc w1 _).2 g1 hg12), (Below.refl _ _).alloc (Nat.le_refl _) _⟩
    case round =>
      obtain ⟨i, hi, rfl, rfl, hw, hc, hb⟩ := hrel
      have HW := Lib.hid hw
      have HCC := Lib.hid hc
      have HB3 := Lib.hid hb
      clear hw hb hc
      by_cases hlt : i < K
      · have hx := HCS1a.out i hlt wr HCC.out
        have hprev := Lib.hid (fun (h0 : 0 < i) => (by rw [← beg_prev last s K i h0 hlt]; have := HCS1a.out (i - 1) (by omega) wr HCC.out; rw [this] : wr.cell? ⟨g1, i - 1, none⟩ = some (.int .i64 (beg last s K i - s))))
        obtain ⟨hα0, hα1, hα2⟩ := HBB.out i hlt
        have hmod := HBM.out i
        have HNew := Lib.hid (Ent_new (beg last s K) i (fun j hj => Int.ne_of_lt (beg_lt last s hs0 K j i hj hlt)))
        have HEnt := Lib.hid (show Ent (beg last s K) (i + 1) = (Ent (beg last s K) i).push { key := .int .i64 (beg last s K i), val := .bool true, born := i } from rfl)
        obtain ⟨E, hE⟩ : ∃ E, Ent (beg last s K) i = E := ⟨_, rfl⟩
        obtain ⟨α, hα⟩ : ∃ α, beg last s K i = α := ⟨_, rfl⟩
        rw [hE] at HNew HEnt HW
        rw [hα] at hx hprev hα0 hα1 hα2 hmod HNew HEnt
        clear hα hE
        rcases Nat.eq_zero_or_pos i with hi0 | hi0
        · subst hi0
          go_wp2_with (at_mapUpdate; refine wpList_mapUpdate_new _ rfl 31 _ _ _ rfl 3 4 Try.underlying31 Try.underlying3 w1.heap.size E 0 HW.out α (.bool true) rfl rfl rfl HNew.out ?_)
          go_roundg (K - 1)
          case measure => omega
          case rel => exact ⟨1, by omega, rfl, rfl, by rw [HEnt.out]; exact mpUpd_at _ _ _ (Array.getElem?_eq_some_iff.1 HW.out).1, fun j => (mpUpd_cell _ _ _ _ _ (Nat.ne_of_lt hg12)).trans (HCC.out j), mpUpd_below HB3.out _ (Nat.le_refl _) _⟩
        · have hp := hprev.out hi0
          obtain ⟨p, rfl⟩ : ∃ p, i = p + 1 := ⟨i - 1, by omega⟩
          rw [Nat.add_sub_cancel] at hp
          clear hprev
          have hpi : ((p + 1 : Nat) : Int) - 1 = p := by omega
          go_wp2_with (at_mapUpdate; refine wpList_mapUpdate_new _ rfl 31 _ _ _ rfl 3 4 Try.underlying31 Try.underlying3 w1.heap.size E (p + 1) HW.out α (.bool true) rfl rfl rfl HNew.out ?_)
          go_roundg (K - (p + 2))
          case measure => omega
          case rel => exact ⟨p + 2, by omega, rfl, by go_num, by rw [HEnt.out]; exact mpUpd_at _ _ _ (Array.getElem?_eq_some_iff.1 HW.out).1, fun j => (mpUpd_cell _ _ _ _ _ (Nat.ne_of_lt hg12)).trans (HCC.out j), mpUpd_below HB3.out _ (Nat.le_refl _) _⟩
      · obtain rfl : i = K := by omega
        have hqe := HQ.out
        have hke := HK.out
        have HB4 := Lib.hid (below_step HB1.out HB3.out)
        have HV4 := Lib.hid (HV1.out.kept HB3.out)
        have hg14 := (by have := HB3.out.size; omega : g1 < wr.heap.size)
        go_wp2_with (first
          | (go_at_call 13; (with_reducible refine (within_any at' 0 6000 _ (by omega) (by omega) (by omega)).mono ?_); rintro e w' ⟨rfl, rfl⟩; rw [HY.out])
          | (at_lookup; refine wpList_lookup_val _ rfl 31 (.tmp 117) (.tmp 118) rfl w1.heap.size k _ rfl rfl (HLK.out _ _ HW.out) ?_)
          | (go_at_call 9; (with_reducible refine (HC2.out _).mono ?_); rintro e w2 ⟨v2, rfl, ho, hb⟩; have HB5 := Lib.hid (below_step HB4.out hb); have HV5 := Lib.hid (HV4.out.kept hb); have HC5 := Lib.hid (fun j => (hb.cell (p := ⟨g1, j, none⟩) hg14).trans (HCC.out j)); obtain ⟨g2, cap2, rfl, hg21, hg22, hcap21, hcap22, hcs2⟩ := own_form ho (by rw [upTo_length]; omega); rw [upTo_length] at hcap21; rw [upTo_length]; have HCS2 := Lib.hid hcs2; clear hcs2 ho hb))
        have HA1 := Lib.hid (fun (j : Nat) (hj : j < i) (V : World) (hV : V.heap = w2.heap) => (show V.cell? ⟨g1, j, none⟩ = some (.int .i64 (beg last s i j)) by rw [World.cell?_of_block (w := w2) (by rw [hV])]; exact HCS1a.out j hj w2 HC5.out))
        have HA2 := Lib.hid (fun (j : Nat) (hj : j < C) (V : World) (hV : V.heap = w2.heap) => (show V.cell? ⟨g2, j, none⟩ = some (.int .i64 (beg last s C j + s)) by rw [World.cell?_of_block (w := w2) (by rw [hV]), HCS2.out j _ (upTo_ints_at (last + s) s C j hj)]; unfold beg; congr 2; omega))
        clear hqe hke
        go_loopg [139] C (fun g v139 wl => ∃ l : Nat, l ≤ C ∧ g = C - l ∧ v139 = .int .i64 l ∧ wl.heap = w2.heap ∧ Below w2.heap.size w2 wl)
        case atStart => exact ⟨0, by omega, by omega, rfl, rfl, Below.refl _ _⟩
        case round =>
          obtain ⟨l, hl, rfl, rfl, hw, hb⟩ := hrel
          have HW2 := Lib.hid hw
          have HB6 := Lib.hid hb
          clear hw hb
          by_cases hll : l < C
          · have hy := HA2.out l hll _ HW2.out
            have hbd : -1000 ≤ beg last s C l ∧ beg last s C l ≤ 6000 := by
              have h0 := Int.mul_nonneg (show (0 : Int) ≤ ((C - 1 - l : Nat) : Int) by omega) (show 0 ≤ s by omega)
              have h1 : ((C - 1 - l : Nat) : Int) * s ≤ 8 * s := Int.mul_le_mul_of_nonneg_right (by omega) (by omega)
              unfold beg
              omega
            obtain ⟨hbd1, hbd2⟩ := hbd
            by_cases hjn : (i : Int) - C + l < 0
            · clear hbd1 hbd2
              obtain ⟨γ, hγ⟩ : ∃ γ, beg last s C l + s = γ := ⟨_, rfl⟩
              rw [hγ] at hy
              clear hγ
              go_wp2
              go_roundg (C - (l + 1))
              case measure => omega
              case rel => exact ⟨l + 1, by omega, rfl, by go_num, HW2.out, HB6.out⟩
            · obtain ⟨p, hp⟩ : ∃ p : Nat, (i : Int) - C + l = p := ⟨((i : Int) - C + l).toNat, by omega⟩
              have hx := HA1.out p (by omega) _ HW2.out
              rw [show beg last s i p = beg last s C l by unfold beg; rw [show i - 1 - p = C - 1 - l by omega]] at hx
              obtain ⟨γ, hγ⟩ : ∃ γ, beg last s C l = γ := ⟨_, rfl⟩
              rw [hγ] at hy hx hbd1 hbd2
              clear hγ
              go_wp2
              go_roundg (C - (l + 1))
              case measure => omega
              case rel => exact ⟨l + 1, by omega, rfl, by go_num, HW2.out, HB6.out⟩
          · obtain rfl : l = C := by omega
            have HB7 := Lib.hid (below_step HB5.out HB6.out)
            have HV7 := Lib.hid (HV5.out.kept HB6.out)
            have HLa := Lib.hid (fun (w : World) (v : Value) (h : IsL w v (upTo last s i)) => last_any n v _ w h (by omega) (by omega) (upTo_bd last s i (by omega) (by omega) (by omega) hl0 (by omega)) (by rw [upTo_length]; omega))
            have HLaE := Lib.hid (lastOf_upTo n last s i (by omega) (by omega))
            all_goals try (have hCK := HCK.out)
            go_wp2_with (first
              | (go_at_call 11; (with_reducible refine (HLa.out _ _ HV7.out).mono ?_); rintro e w' ⟨rfl, rfl⟩; rw [HLaE.out])
              | (go_at_call 3; refine (runs_any _).mono ?_; rintro e w8 ⟨rfl, hb⟩; have HB8 := Lib.hid (below_step HB7.out hb); clear hb))
            go_ret
            exact ⟨rfl, HB8.out⟩
end Go.Proofs.Ytmdcbpmmmklghaa
