/- The contracts of Last, Same, Within, and of WindowRuns. -/
import Derived.Test.YtmdcbpmmmklghaaWi2
namespace Go.Proofs.Ytmdcbpmmmklghaa
open Go.RowKit

def within (n lo hi : Int) : Int := lo + (if n.tmod (hi - lo + 1) < 0 then n.tmod (hi - lo + 1) + hi - lo + 1 else n.tmod (hi - lo + 1))

theorem tmod_bd (n d : Int) (hp : 0 < d) : -d < n.tmod d ∧ n.tmod d < d := by
  refine ⟨?_, Int.tmod_lt_of_pos _ hp⟩
  have := Int.tmod_lt_of_pos (-n) hp
  rw [Int.neg_tmod] at this
  omega
theorem within_bd (n lo hi : Int) (h : lo ≤ hi) : lo ≤ within n lo hi ∧ within n lo hi ≤ hi := by
  have hb := tmod_bd n (hi - lo + 1) (by omega)
  unfold within
  split <;> omega

set_option maxHeartbeats 400000 in
theorem within_any (n lo hi : Int) (w : World) (h0 : -1000000000000000 ≤ lo) (h1 : lo ≤ hi) (h2 : hi ≤ 2000000000000000) :
    Calls Try.prog 13 #[.int .i64 n, .int .i64 lo, .int .i64 hi] w fun e w' => e = .returned (.int .i64 (within n lo hi)) ∧ w = w' := by
  obtain ⟨hb1, hb2⟩ := tmod_bd n (hi - lo + 1) (by omega)
  have hne : ((hi - lo + 1) == 0) = false := by simp; omega
  by_cases hn : n.tmod (hi - lo + 1) < 0
  · have hw1 : within n lo hi = lo + (n.tmod (hi - lo + 1) + hi - lo + 1) := by unfold within; rw [if_pos hn]
    rw [hw1]
    clear hw1
    go_enter Try.func13, Try.ntmps13
    go_wp2
    go_ret
    exact ⟨rfl, rfl⟩
  · have hw1 : within n lo hi = lo + n.tmod (hi - lo + 1) := by unfold within; rw [if_neg hn]
    rw [hw1]
    clear hw1
    go_enter Try.func13, Try.ntmps13
    go_wp2
    go_ret
    exact ⟨rfl, rfl⟩


/-- the greatest of the first and of the first k -/
def hiF (X : Nat → Int) : Nat → Int
  | 0 => X 0
  | k + 1 => if hiF X k < X k then X k else hiF X k
def lastOf (n : Int) (l : List Int) : Int := if l.length = 0 then 0 else hiF (fun i => l.getD i 0) l.length + n
theorem hiF_bd (X : Nat → Int) (m : Nat) (lo hi : Int) (h : ∀ i, i < m → lo ≤ X i ∧ X i ≤ hi) (hn : 0 < m) (k : Nat) (hk : k ≤ m) : lo ≤ hiF X k ∧ hiF X k ≤ hi := by
  induction k with
  | zero => exact h 0 hn
  | succ k ih =>
    have h1 := ih (by omega)
    have h2 := h k (by omega)
    simp only [hiF]
    split <;> assumption

set_option maxHeartbeats 1000000 in
theorem last_any (n : Int) (v : Value) (l : List Int) (w : World) (h : IsL w v l) (hn0 : -2000000 ≤ n) (hn1 : n ≤ 2000000) (hb : ∀ i, i < l.length → -9000000000000 ≤ l.getD i 0 ∧ l.getD i 0 ≤ 9000000000000) (hl : l.length ≤ 1000000) :
    Calls Try.prog 11 #[.int .i64 n, v] w fun e w' => e = .returned (.int .i64 (lastOf n l)) ∧ w = w' := by
  obtain ⟨a, c, rfl, h1, h2, b, o, h3, h4⟩ := h
  rcases Nat.eq_zero_or_pos l.length with h0 | h0
  · rw [show lastOf n l = 0 by unfold lastOf; rw [if_pos h0]]
    have hz : ((l.length : Int) == 0) = true := by simp [h0]
    clear h0 h4 hb h3
    go_enter Try.func11, Try.ntmps11
    go_wp2
    go_ret
    exact ⟨rfl, rfl⟩
  · obtain ⟨X, hX⟩ : ∃ X : Nat → Int, X = fun i => l.getD i 0 := ⟨_, rfl⟩
    obtain ⟨m, hm⟩ : ∃ m, m = l.length := ⟨_, rfl⟩
    rw [show lastOf n l = hiF X m + n by unfold lastOf; rw [if_neg (by omega), hX, hm]]
    rw [← hm] at h3 h0 h1 hl ⊢
    obtain ⟨rfl, hbl⟩ := h3 h0
    have hb' : ∀ i, i < m → -9000000000000 ≤ X i ∧ X i ≤ 9000000000000 := fun i hi => by rw [hX]; exact hb i (by omega)
    have h4' : ∀ i, i < m → w.cell? ⟨b, o + i, none⟩ = some (.int .i64 (X i)) := fun i hi => by rw [hX]; exact h4 i (by omega)
    have HB := Lib.hid (hiF_bd X m _ _ hb' h0)
    have H4 := Lib.hid h4'
    have HB' := Lib.hid hb'
    have hz : ((m : Int) == 0) = false := by simp; omega
    have hc0 := h4' 0 h0
    simp only [Nat.add_zero] at hc0
    clear h4 hb h3 h2 h4' hb' hX hm
    go_enter Try.func11, Try.ntmps11
    go_wp2
    go_loop [5, 16] (fun v5 v16 => ∃ k : Nat, k ≤ m ∧ v5 = .int .i64 (hiF X k) ∧ v16 = .int .i64 k) (fun _ v16 => m - (intOf v16).toNat)
    case atStart => exact ⟨0, by omega, rfl, rfl⟩
    case round =>
      obtain ⟨k, hk, rfl, rfl⟩ := hrel
      obtain ⟨hb1, hb2⟩ := HB.out k hk
      clear hc0
      by_cases hlt : k < m
      · have hc := H4.out k hlt
        by_cases hm : hiF X k < X k
        · have HE := Lib.hid (show hiF X (k + 1) = X k by simp only [hiF]; rw [if_pos hm])
          go_wp2
          go_round
          case rel => exact ⟨k + 1, by omega, by rw [HE.out]; try rfl, by go_num⟩
          case measure => simp [intOf]; omega
        · have HE := Lib.hid (show hiF X (k + 1) = hiF X k by simp only [hiF]; rw [if_neg hm])
          go_wp2
          go_round
          case rel => exact ⟨k + 1, by omega, by rw [HE.out]; try rfl, by go_num⟩
          case measure => simp [intOf]; omega
      · obtain rfl : k = m := by omega
        go_wp2
        go_ret
        exact ⟨rfl, rfl⟩

set_option maxHeartbeats 1000000 in
theorem same_any (v1 v2 : Value) (l1 l2 : List Int) (w : World) (h1 : IsL w v1 l1) (h2 : IsL w v2 l2) :
    Calls Try.prog 8 #[v1, v2] w fun e w' => e = .returned (.bool (decide (l1 = l2))) ∧ Below w.heap.size w w' := by
  obtain ⟨a1, c1, rfl, h11, h12, b1, o1, h13, h14⟩ := h1
  obtain ⟨a2, c2, rfl, h21, h22, b2, o2, h23, h24⟩ := h2
  unfold maxLen at h12 h22
  by_cases hne : l1.length = l2.length
  · obtain ⟨n, hn⟩ : ∃ n, n = l1.length := ⟨_, rfl⟩
    obtain ⟨X, hX⟩ : ∃ X : Nat → Int, X = fun i => l1.getD i 0 := ⟨_, rfl⟩
    obtain ⟨Y, hY⟩ : ∃ Y : Nat → Int, Y = fun i => l2.getD i 0 := ⟨_, rfl⟩
    have h2n : l2.length = n := by omega
    have H14 := Lib.hid (fun (k : Nat) (hk : k < n) (W : World) (hW : W.heap = w.heap) => (show W.cell? ⟨b1, o1 + k, none⟩ = some (.int .i64 (X k)) by rw [World.cell?_of_block (w := w) (by rw [hW]), hX]; exact h14 k (by omega)))
    have H24 := Lib.hid (fun (k : Nat) (hk : k < n) (W : World) (hW : W.heap = w.heap) => (show W.cell? ⟨b2, o2 + k, none⟩ = some (.int .i64 (Y k)) by rw [World.cell?_of_block (w := w) (by rw [hW]), hY]; exact h24 k (by omega)))
    have HN := Lib.hid (And.intro hn (And.intro h2n (And.intro hX hY)))
    have HA1 := Lib.hid (show 0 < n → a1 = some ⟨b1, o1, none⟩ from fun h => (h13 (by omega)).1)
    have HA2 := Lib.hid (show 0 < n → a2 = some ⟨b2, o2, none⟩ from fun h => (h23 (by omega)).1)
    rw [h2n] at h21 h22 ⊢
    rw [← hn] at h11 h12 ⊢
    clear h14 h24 hne hn h2n h13 h23 hX hY
    go_enter Try.func8, Try.ntmps8
    go_wp2
    go_loopg [5] n (fun g v5 wr => ∃ k : Nat, k ≤ n ∧ g = n - k ∧ v5 = .int .i64 k ∧ (∀ i, i < k → X i = Y i) ∧ wr.heap = w.heap ∧ Below w.heap.size w wr)
    case atStart => exact ⟨0, by omega, by omega, rfl, fun i hi => absurd hi (by omega), rfl, Below.refl _ _⟩
    case round =>
      obtain ⟨k, hk, rfl, rfl, heq, hw, hb⟩ := hrel
      have HE := Lib.hid heq
      have HW := Lib.hid hw
      have HB := Lib.hid hb
      clear heq hw hb
      by_cases hlt : k < n
      · obtain rfl := HA1.out (by omega)
        obtain rfl := HA2.out (by omega)
        have hx := H14.out k hlt
        have hy := H24.out k hlt
        by_cases hxy : X k = Y k
        · have hxy' : ((X k) != Y k) = false := by simp [hxy]
          have HXY := Lib.hid hxy
          clear hxy
          go_wp2
          refine wp_region_planO (fun W => W.heap = w.heap) [(true, 0), (true, 1), (true, 2), (true, 3), (true, 4), (true, 5), (true, 6), (true, 7), (true, 8)] ?planL (by kernel_rfl) (by kernel_rfl) (by kernel_rfl) ?planH (by intro c a d v w; cases d <;> exact fun h => h) HW.out ?_
          case planH =>
            simp only [planOps, List.map_cons, List.map_nil, List.getElem?_toArray, List.getElem?_cons_zero, List.getElem?_cons_succ]
            try rfl
          iterate 9 (refine wpPlan_take (v := ?_) (by rfl) (fun w' hS => ?_) ?_; rotate_left; (focus (go_simp; with_reducible rfl)); simp only [Act.put, List.setIfInBounds_toArray, List.set_cons_zero, List.set_cons_succ])
          refine wpPlan_nil ?_
          go_wp2
          go_roundg (n - (k + 1))
          case measure => omega
          case rel => exact ⟨k + 1, by omega, rfl, by go_num, fun i hi => by rcases (by omega : i < k ∨ i = k) with h | h; exact HE.out i h; rw [h]; exact HXY.out, HW.out, HB.out.drew⟩
        · have hxy' : ((X k) != Y k) = true := by simp [hxy]
          have HXY := Lib.hid hxy
          clear hxy
          go_wp2
          refine wp_region_planO (fun W => W.heap = w.heap) [(true, 0), (true, 1), (true, 2), (true, 3), (true, 4), (true, 5), (true, 6), (true, 7), (true, 8)] ?planL2 (by kernel_rfl) (by kernel_rfl) (by kernel_rfl) ?planH2 (by intro c a d v w; cases d <;> exact fun h => h) HW.out ?_
          case planH2 =>
            simp only [planOps, List.map_cons, List.map_nil, List.getElem?_toArray, List.getElem?_cons_zero, List.getElem?_cons_succ]
            try rfl
          iterate 9 (refine wpPlan_take (v := ?_) (by rfl) (fun w' hS => ?_) ?_; rotate_left; (focus (go_simp; with_reducible rfl)); simp only [Act.put, List.setIfInBounds_toArray, List.set_cons_zero, List.set_cons_succ])
          refine wpPlan_nil ?_
          go_wp2
          go_ret
          have hd : decide (l1 = l2) = false := by
            rw [decide_eq_false_iff_not]
            intro h
            obtain ⟨_, _, e3, e4⟩ := HN.out
            exact HXY.out (by rw [e3, e4, h])
          rw [hd]
          exact ⟨rfl, HB.out.drew⟩
      · obtain rfl : k = n := by omega
        go_wp2
        go_ret
        have hd : decide (l1 = l2) = true := by
          rw [decide_eq_true_iff]
          obtain ⟨e1, e2, e3, e4⟩ := HN.out
          apply List.ext_getElem (by omega)
          intro i h1 h2
          have := HE.out i (by omega)
          rw [e3, e4] at this
          simpa [List.getD_eq_getElem?_getD, h1, h2] using this
        rw [hd]
        exact ⟨rfl, HB.out⟩
  · have hz : ((l1.length : Int) != l2.length) = true := by simp; omega
    have hd : decide (l1 = l2) = false := by
      rw [decide_eq_false_iff_not]
      intro h
      exact hne (by rw [h])
    rw [hd]
    clear hd hne h14 h24 h13 h23
    go_enter Try.func8, Try.ntmps8
    go_wp2
    go_ret
    exact ⟨rfl, Below.refl _ _⟩
theorem same_yes (v1 v2 : Value) (l : List Int) (w : World) (h1 : IsL w v1 l) (h2 : IsL w v2 l) :
    Calls Try.prog 8 #[v1, v2] w fun e w' => e = .returned (.bool true) ∧ Below w.heap.size w w' :=
  (same_any v1 v2 l l w h1 h2).mono fun _ _ ⟨he, hb⟩ => ⟨by rw [he]; simp, hb⟩
end Go.Proofs.Ytmdcbpmmmklghaa
