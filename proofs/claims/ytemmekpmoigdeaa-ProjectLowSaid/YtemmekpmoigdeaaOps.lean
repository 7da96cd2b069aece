/- Lists of structs, as slices; the comparisons of lists of operations, rows, releases. -/
import Derived.Test.YtemmekpmoigdeaaBase
import Derived.Test.YtemmekpmoigdeaaReg
namespace Go.Proofs.Ytemmekpmoigdeaa
open Go.RowKit

/-- a list of structs of k cells, as a slice value reads it -/
def IsR {α : Type} (cs : α → List Value) (k : Nat) (w : World) (v : Value) (l : List α) : Prop :=
  ∃ a c, v = .slice a l.length c ∧ l.length ≤ c ∧ c ≤ maxLen ∧ ∃ b o, (0 < l.length → a = some ⟨b, o, none⟩ ∧ b < w.heap.size) ∧ ∀ i x, l[i]? = some x → ∀ j u, (cs x)[j]? = some u → w.cell? ⟨b, o + i * k + j, none⟩ = some u
theorem IsR.nil {α : Type} (cs : α → List Value) (k : Nat) (w : World) : IsR cs k w (.slice none 0 0) [] := ⟨none, 0, rfl, by simp, by simp, 0, 0, fun h => absurd h (by simp), fun i x hi => absurd hi (by simp)⟩
theorem IsR.kept {α : Type} {cs : α → List Value} {k : Nat} {w w' : World} {v : Value} {l : List α} (h : IsR cs k w v l) (hb : Below w.heap.size w w') : IsR cs k w' v l := by
  obtain ⟨a, c, hv, h1, h2, b, o, h3, h4⟩ := h
  refine ⟨a, c, hv, h1, h2, b, o, fun hp => ⟨(h3 hp).1, Nat.lt_of_lt_of_le (h3 hp).2 hb.size⟩, fun i x hi j u hj => ?_⟩
  have hp : 0 < l.length := by have := (List.getElem?_eq_some_iff.1 hi).1; omega
  rw [hb.cell (p := ⟨b, _, none⟩) (h3 hp).2]
  exact h4 i x hi j u hj

@[ext] structure OpV where
  kind : Int
  n : Int
deriving DecidableEq
def OpV.cs (x : OpV) : List Value := [.int .i64 x.kind, .int .i64 x.n]
def OpV.none : OpV := ⟨0, 0⟩

@[ext] structure RowV where
  start : Int
  key : Int
  value : Int
  count : Int
  label : Int
deriving DecidableEq
def RowV.cs (x : RowV) : List Value := [.int .i64 x.start, .int .i64 x.key, .int .i64 x.value, .int .i64 x.count, .int .u64 x.label]
def RowV.none : RowV := ⟨0, 0, 0, 0, 0⟩

@[ext] structure RelV where
  sink : Int
  epoch : Int
  value : Int
  hidden : Bool
deriving DecidableEq
def RelV.cs (x : RelV) : List Value := [.int .i64 x.sink, .int .i64 x.epoch, .int .i64 x.value, .bool x.hidden]
def RelV.none : RelV := ⟨0, 0, 0, false⟩

set_option maxHeartbeats 2000000 in
theorem sameO (v1 v2 : Value) (l1 l2 : List OpV) (w : World) (h1 : IsR OpV.cs 2 w v1 l1) (h2 : IsR OpV.cs 2 w v2 l2) :
    Calls Try.prog 27 #[v1, v2] w fun e w' => e = .returned (.bool (decide (l1 = l2))) ∧ Below w.heap.size w w' := by
  obtain ⟨a1, c1, rfl, h11, h12, b1, o1, h13, h14⟩ := h1
  obtain ⟨a2, c2, rfl, h21, h22, b2, o2, h23, h24⟩ := h2
  unfold maxLen at h12 h22
  by_cases hne : l1.length = l2.length
  · obtain ⟨n, hn⟩ : ∃ n, n = l1.length := ⟨_, rfl⟩
    obtain ⟨X, hX⟩ : ∃ X : Nat → OpV, X = fun i => l1.getD i OpV.none := ⟨_, rfl⟩
    obtain ⟨Y, hY⟩ : ∃ Y : Nat → OpV, Y = fun i => l2.getD i OpV.none := ⟨_, rfl⟩
    have h2n : l2.length = n := by omega
    have H14 := Lib.hid (fun (k : Nat) (hk : k < n) (j : Nat) (u : Value) (hj : ((X k).cs)[j]? = some u) (W : World) (hW : W.heap = w.heap) => (show W.cell? ⟨b1, o1 + k * 2 + j, none⟩ = some u by rw [World.cell?_of_block (w := w) (by rw [hW])]; exact h14 k (X k) (by rw [hX]; simp [show k < l1.length by omega]) j u hj))
    have H24 := Lib.hid (fun (k : Nat) (hk : k < n) (j : Nat) (u : Value) (hj : ((Y k).cs)[j]? = some u) (W : World) (hW : W.heap = w.heap) => (show W.cell? ⟨b2, o2 + k * 2 + j, none⟩ = some u by rw [World.cell?_of_block (w := w) (by rw [hW])]; exact h24 k (Y k) (by rw [hY]; simp [show k < l2.length by omega]) j u hj))
    have HN := Lib.hid (And.intro hn (And.intro h2n (And.intro hX hY)))
    have HA1 := Lib.hid (show 0 < n → a1 = some ⟨b1, o1, none⟩ from fun h => (h13 (by omega)).1)
    have HA2 := Lib.hid (show 0 < n → a2 = some ⟨b2, o2, none⟩ from fun h => (h23 (by omega)).1)
    rw [h2n] at h21 ⊢
    rw [← hn] at h11 ⊢
    clear h14 h24 hne hn h2n h13 h23 hX hY
    go_enter Try.func27, Try.ntmps27
    go_wp2
    go_loopg [5] n (fun g v5 wr => ∃ k : Nat, k ≤ n ∧ g = n - k ∧ v5 = .int .i64 k ∧ (∀ i, i < k → X i = Y i) ∧ wr.heap = w.heap ∧ Below w.heap.size w wr)
    case atStart => exact ⟨0, by omega, by omega, rfl, fun i hi => absurd hi (by omega), rfl, Below.refl _ _⟩
    case round =>
      obtain ⟨k, hk, rfl, rfl, heq, hw, hb⟩ := hrel
      have HE := Lib.hid heq
      have HW := Lib.hid hw
      have HB := Lib.hid hb
      clear heq hw hb
      by_cases hlt : k < n
      · obtain rfl := HA1.out (by omega)
        obtain rfl := HA2.out (by omega)
        obtain ⟨x, hx⟩ : ∃ x, X k = x := ⟨_, rfl⟩
        obtain ⟨y, hy⟩ : ∃ y, Y k = y := ⟨_, rfl⟩
        have hx0 : ∀ W : World, W.heap = w.heap → W.cell? ⟨b1, o1 + k * 2, none⟩ = some (.int .i64 x.kind) := H14.out k hlt 0 _ (by rw [hx]; rfl)
        have hx1 : ∀ W : World, W.heap = w.heap → W.cell? ⟨b1, o1 + k * 2 + 1, none⟩ = some (.int .i64 x.n) := H14.out k hlt 1 _ (by rw [hx]; rfl)
        have hy0 : ∀ W : World, W.heap = w.heap → W.cell? ⟨b2, o2 + k * 2, none⟩ = some (.int .i64 y.kind) := H24.out k hlt 0 _ (by rw [hy]; rfl)
        have hy1 : ∀ W : World, W.heap = w.heap → W.cell? ⟨b2, o2 + k * 2 + 1, none⟩ = some (.int .i64 y.n) := H24.out k hlt 1 _ (by rw [hy]; rfl)
        have HX := Lib.hid hx
        have HY := Lib.hid hy
        clear hx hy
        by_cases hxy : x = y
        · have HXY := Lib.hid hxy
          clear hxy
          go_wp2
          refine wp_region_planO (fun W => W.heap = w.heap) [(true, 0), (true, 1), (true, 2), (true, 3), (true, 4), (true, 5), (true, 6), (true, 7), (true, 8)] ?planL1 (by kernel_rfl) (by kernel_rfl) (by kernel_rfl) ?planH1 (by intro c a d v w; cases d <;> exact fun h => h) HW.out ?_
          case planH1 =>
            simp only [planOps, List.map_cons, List.map_nil, List.getElem?_toArray, List.getElem?_cons_zero, List.getElem?_cons_succ]
            try rfl
          iterate 8 (refine wpPlan_take (v := ?_) (by rfl) (fun w' hS => ?_) ?_; rotate_left; (focus (go_simp; with_reducible rfl)); simp only [Act.put, List.setIfInBounds_toArray, List.set_cons_zero, List.set_cons_succ])
          refine wpPlan_take (v := .bool false) (by rfl) (fun w' hS => ?_) ?_
          · have hxy := HXY.out
            subst hxy
            go_simp
            done
          simp only [Act.put, List.setIfInBounds_toArray, List.set_cons_zero, List.set_cons_succ]
          refine wpPlan_nil ?_
          go_wp2
          go_roundg (n - (k + 1))
          case measure => omega
          case rel => exact ⟨k + 1, by omega, rfl, by go_num, fun i hi => by rcases (by omega : i < k ∨ i = k) with h | h; exact HE.out i h; rw [h, HX.out, HY.out]; exact HXY.out, HW.out, HB.out.drew⟩
        · have HXY := Lib.hid hxy
          clear hxy
          go_wp2
          refine wp_region_planO (fun W => W.heap = w.heap) [(true, 0), (true, 1), (true, 2), (true, 3), (true, 4), (true, 5), (true, 6), (true, 7), (true, 8)] ?planL2 (by kernel_rfl) (by kernel_rfl) (by kernel_rfl) ?planH2 (by intro c a d v w; cases d <;> exact fun h => h) HW.out ?_
          case planH2 =>
            simp only [planOps, List.map_cons, List.map_nil, List.getElem?_toArray, List.getElem?_cons_zero, List.getElem?_cons_succ]
            try rfl
          iterate 8 (refine wpPlan_take (v := ?_) (by rfl) (fun w' hS => ?_) ?_; rotate_left; (focus (go_simp; with_reducible rfl)); simp only [Act.put, List.setIfInBounds_toArray, List.set_cons_zero, List.set_cons_succ])
          refine wpPlan_take (v := .bool true) (by rfl) (fun w' hS => ?_) ?_
          · go_simp
            have hxy := HXY.out
            simp only [OpV.ext_iff] at hxy
            by_cases e0 : x.kind = y.kind <;> by_cases e1 : x.n = y.n <;> simp_all
          simp only [Act.put, List.setIfInBounds_toArray, List.set_cons_zero, List.set_cons_succ]
          refine wpPlan_nil ?_
          go_wp2
          go_ret
          have hd : decide (l1 = l2) = false := by
            rw [decide_eq_false_iff_not]
            intro h
            obtain ⟨_, _, e3, e4⟩ := HN.out
            exact HXY.out (by rw [← HX.out, ← HY.out, e3, e4, h])
          rw [hd]
          exact ⟨rfl, HB.out.drew⟩
      · obtain rfl : k = n := by omega
        go_wp2
        go_ret
        have hd : decide (l1 = l2) = true := by
          rw [decide_eq_true_iff]
          obtain ⟨e1, e2, e3, e4⟩ := HN.out
          apply List.ext_getElem (by omega)
          intro i h1 h2
          have := HE.out i (by omega)
          rw [e3, e4] at this
          simpa [List.getD_eq_getElem?_getD, h1, h2] using this
        rw [hd]
        exact ⟨rfl, HB.out⟩
  · have hz : ((l1.length : Int) != l2.length) = true := by simp; omega
    have hd : decide (l1 = l2) = false := by
      rw [decide_eq_false_iff_not]
      intro h
      exact hne (by rw [h])
    rw [hd]
    clear hd hne h14 h24 h13 h23
    go_enter Try.func27, Try.ntmps27
    go_wp2
    go_ret
    exact ⟨rfl, Below.refl _ _⟩

set_option maxHeartbeats 2000000 in
theorem sameR (v1 v2 : Value) (l1 l2 : List RowV) (w : World) (h1 : IsR RowV.cs 5 w v1 l1) (h2 : IsR RowV.cs 5 w v2 l2) :
    Calls Try.prog 25 #[v1, v2] w fun e w' => e = .returned (.bool (decide (l1 = l2))) ∧ Below w.heap.size w w' := by
  obtain ⟨a1, c1, rfl, h11, h12, b1, o1, h13, h14⟩ := h1
  obtain ⟨a2, c2, rfl, h21, h22, b2, o2, h23, h24⟩ := h2
  unfold maxLen at h12 h22
  by_cases hne : l1.length = l2.length
  · obtain ⟨n, hn⟩ : ∃ n, n = l1.length := ⟨_, rfl⟩
    obtain ⟨X, hX⟩ : ∃ X : Nat → RowV, X = fun i => l1.getD i RowV.none := ⟨_, rfl⟩
    obtain ⟨Y, hY⟩ : ∃ Y : Nat → RowV, Y = fun i => l2.getD i RowV.none := ⟨_, rfl⟩
    have h2n : l2.length = n := by omega
    have H14 := Lib.hid (fun (k : Nat) (hk : k < n) (j : Nat) (u : Value) (hj : ((X k).cs)[j]? = some u) (W : World) (hW : W.heap = w.heap) => (show W.cell? ⟨b1, o1 + k * 5 + j, none⟩ = some u by rw [World.cell?_of_block (w := w) (by rw [hW])]; exact h14 k (X k) (by rw [hX]; simp [show k < l1.length by omega]) j u hj))
    have H24 := Lib.hid (fun (k : Nat) (hk : k < n) (j : Nat) (u : Value) (hj : ((Y k).cs)[j]? = some u) (W : World) (hW : W.heap = w.heap) => (show W.cell? ⟨b2, o2 + k * 5 + j, none⟩ = some u by rw [World.cell?_of_block (w := w) (by rw [hW])]; exact h24 k (Y k) (by rw [hY]; simp [show k < l2.length by omega]) j u hj))
    have HN := Lib.hid (And.intro hn (And.intro h2n (And.intro hX hY)))
    have HA1 := Lib.hid (show 0 < n → a1 = some ⟨b1, o1, none⟩ from fun h => (h13 (by omega)).1)
    have HA2 := Lib.hid (show 0 < n → a2 = some ⟨b2, o2, none⟩ from fun h => (h23 (by omega)).1)
    rw [h2n] at h21 ⊢
    rw [← hn] at h11 ⊢
    clear h14 h24 hne hn h2n h13 h23 hX hY
    go_enter Try.func25, Try.ntmps25
    go_wp2
    go_loopg [5] n (fun g v5 wr => ∃ k : Nat, k ≤ n ∧ g = n - k ∧ v5 = .int .i64 k ∧ (∀ i, i < k → X i = Y i) ∧ wr.heap = w.heap ∧ Below w.heap.size w wr)
    case atStart => exact ⟨0, by omega, by omega, rfl, fun i hi => absurd hi (by omega), rfl, Below.refl _ _⟩
    case round =>
      obtain ⟨k, hk, rfl, rfl, heq, hw, hb⟩ := hrel
      have HE := Lib.hid heq
      have HW := Lib.hid hw
      have HB := Lib.hid hb
      clear heq hw hb
      by_cases hlt : k < n
      · obtain rfl := HA1.out (by omega)
        obtain rfl := HA2.out (by omega)
        obtain ⟨x, hx⟩ : ∃ x, X k = x := ⟨_, rfl⟩
        obtain ⟨y, hy⟩ : ∃ y, Y k = y := ⟨_, rfl⟩
        have hx0 : ∀ W : World, W.heap = w.heap → W.cell? ⟨b1, o1 + k * 5, none⟩ = some (.int .i64 x.start) := H14.out k hlt 0 _ (by rw [hx]; rfl)
        have hx1 : ∀ W : World, W.heap = w.heap → W.cell? ⟨b1, o1 + k * 5 + 1, none⟩ = some (.int .i64 x.key) := H14.out k hlt 1 _ (by rw [hx]; rfl)
        have hx2 : ∀ W : World, W.heap = w.heap → W.cell? ⟨b1, o1 + k * 5 + 2, none⟩ = some (.int .i64 x.value) := H14.out k hlt 2 _ (by rw [hx]; rfl)
        have hx3 : ∀ W : World, W.heap = w.heap → W.cell? ⟨b1, o1 + k * 5 + 3, none⟩ = some (.int .i64 x.count) := H14.out k hlt 3 _ (by rw [hx]; rfl)
        have hx4 : ∀ W : World, W.heap = w.heap → W.cell? ⟨b1, o1 + k * 5 + 4, none⟩ = some (.int .u64 x.label) := H14.out k hlt 4 _ (by rw [hx]; rfl)
        have hy0 : ∀ W : World, W.heap = w.heap → W.cell? ⟨b2, o2 + k * 5, none⟩ = some (.int .i64 y.start) := H24.out k hlt 0 _ (by rw [hy]; rfl)
        have hy1 : ∀ W : World, W.heap = w.heap → W.cell? ⟨b2, o2 + k * 5 + 1, none⟩ = some (.int .i64 y.key) := H24.out k hlt 1 _ (by rw [hy]; rfl)
        have hy2 : ∀ W : World, W.heap = w.heap → W.cell? ⟨b2, o2 + k * 5 + 2, none⟩ = some (.int .i64 y.value) := H24.out k hlt 2 _ (by rw [hy]; rfl)
        have hy3 : ∀ W : World, W.heap = w.heap → W.cell? ⟨b2, o2 + k * 5 + 3, none⟩ = some (.int .i64 y.count) := H24.out k hlt 3 _ (by rw [hy]; rfl)
        have hy4 : ∀ W : World, W.heap = w.heap → W.cell? ⟨b2, o2 + k * 5 + 4, none⟩ = some (.int .u64 y.label) := H24.out k hlt 4 _ (by rw [hy]; rfl)
        have HX := Lib.hid hx
        have HY := Lib.hid hy
        clear hx hy
        by_cases hxy : x = y
        · have HXY := Lib.hid hxy
          clear hxy
          go_wp2
          refine wp_region_planO (fun W => W.heap = w.heap) [(true, 0), (true, 1), (true, 2), (true, 3), (true, 4), (true, 5), (true, 6), (true, 7), (true, 8)] ?planL1 (by kernel_rfl) (by kernel_rfl) (by kernel_rfl) ?planH1 (by intro c a d v w; cases d <;> exact fun h => h) HW.out ?_
          case planH1 =>
            simp only [planOps, List.map_cons, List.map_nil, List.getElem?_toArray, List.getElem?_cons_zero, List.getElem?_cons_succ]
            try rfl
          iterate 8 (refine wpPlan_take (v := ?_) (by rfl) (fun w' hS => ?_) ?_; rotate_left; (focus (go_simp; with_reducible rfl)); simp only [Act.put, List.setIfInBounds_toArray, List.set_cons_zero, List.set_cons_succ])
          refine wpPlan_take (v := .bool false) (by rfl) (fun w' hS => ?_) ?_
          · have hxy := HXY.out
            subst hxy
            go_simp
            done
          simp only [Act.put, List.setIfInBounds_toArray, List.set_cons_zero, List.set_cons_succ]
          refine wpPlan_nil ?_
          go_wp2
          go_roundg (n - (k + 1))
          case measure => omega
          case rel => exact ⟨k + 1, by omega, rfl, by go_num, fun i hi => by rcases (by omega : i < k ∨ i = k) with h | h; exact HE.out i h; rw [h, HX.out, HY.out]; exact HXY.out, HW.out, HB.out.drew⟩
        · have HXY := Lib.hid hxy
          clear hxy
          go_wp2
          refine wp_region_planO (fun W => W.heap = w.heap) [(true, 0), (true, 1), (true, 2), (true, 3), (true, 4), (true, 5), (true, 6), (true, 7), (true, 8)] ?planL2 (by kernel_rfl) (by kernel_rfl) (by kernel_rfl) ?planH2 (by intro c a d v w; cases d <;> exact fun h => h) HW.out ?_
          case planH2 =>
            simp only [planOps, List.map_cons, List.map_nil, List.getElem?_toArray, List.getElem?_cons_zero, List.getElem?_cons_succ]
            try rfl
          iterate 8 (refine wpPlan_take (v := ?_) (by rfl) (fun w' hS => ?_) ?_; rotate_left; (focus (go_simp; with_reducible rfl)); simp only [Act.put, List.setIfInBounds_toArray, List.set_cons_zero, List.set_cons_succ])
          refine wpPlan_take (v := .bool true) (by rfl) (fun w' hS => ?_) ?_
          · go_simp
            have hxy := HXY.out
            simp only [RowV.ext_iff] at hxy
            by_cases e0 : x.start = y.start <;> by_cases e1 : x.key = y.key <;> by_cases e2 : x.value = y.value <;> by_cases e3 : x.count = y.count <;> by_cases e4 : x.label = y.label <;> simp_all
          simp only [Act.put, List.setIfInBounds_toArray, List.set_cons_zero, List.set_cons_succ]
          refine wpPlan_nil ?_
          go_wp2
          go_ret
          have hd : decide (l1 = l2) = false := by
            rw [decide_eq_false_iff_not]
            intro h
            obtain ⟨_, _, e3, e4⟩ := HN.out
            exact HXY.out (by rw [← HX.out, ← HY.out, e3, e4, h])
          rw [hd]
          exact ⟨rfl, HB.out.drew⟩
      · obtain rfl : k = n := by omega
        go_wp2
        go_ret
        have hd : decide (l1 = l2) = true := by
          rw [decide_eq_true_iff]
          obtain ⟨e1, e2, e3, e4⟩ := HN.out
          apply List.ext_getElem (by omega)
          intro i h1 h2
          have := HE.out i (by omega)
          rw [e3, e4] at this
          simpa [List.getD_eq_getElem?_getD, h1, h2] using this
        rw [hd]
        exact ⟨rfl, HB.out⟩
  · have hz : ((l1.length : Int) != l2.length) = true := by simp; omega
    have hd : decide (l1 = l2) = false := by
      rw [decide_eq_false_iff_not]
      intro h
      exact hne (by rw [h])
    rw [hd]
    clear hd hne h14 h24 h13 h23
    go_enter Try.func25, Try.ntmps25
    go_wp2
    go_ret
    exact ⟨rfl, Below.refl _ _⟩

set_option maxHeartbeats 2000000 in
theorem sameL (v1 v2 : Value) (l1 l2 : List RelV) (w : World) (h1 : IsR RelV.cs 4 w v1 l1) (h2 : IsR RelV.cs 4 w v2 l2) :
    Calls Try.prog 26 #[v1, v2] w fun e w' => e = .returned (.bool (decide (l1 = l2))) ∧ Below w.heap.size w w' := by
  obtain ⟨a1, c1, rfl, h11, h12, b1, o1, h13, h14⟩ := h1
  obtain ⟨a2, c2, rfl, h21, h22, b2, o2, h23, h24⟩ := h2
  unfold maxLen at h12 h22
  by_cases hne : l1.length = l2.length
  · obtain ⟨n, hn⟩ : ∃ n, n = l1.length := ⟨_, rfl⟩
    obtain ⟨X, hX⟩ : ∃ X : Nat → RelV, X = fun i => l1.getD i RelV.none := ⟨_, rfl⟩
    obtain ⟨Y, hY⟩ : ∃ Y : Nat → RelV, Y = fun i => l2.getD i RelV.none := ⟨_, rfl⟩
    have h2n : l2.length = n := by omega
    have H14 := Lib.hid (fun (k : Nat) (hk : k < n) (j : Nat) (u : Value) (hj : ((X k).cs)[j]? = some u) (W : World) (hW : W.heap = w.heap) => (show W.cell? ⟨b1, o1 + k * 4 + j, none⟩ = some u by rw [World.cell?_of_block (w := w) (by rw [hW])]; exact h14 k (X k) (by rw [hX]; simp [show k < l1.length by omega]) j u hj))
    have H24 := Lib.hid (fun (k : Nat) (hk : k < n) (j : Nat) (u : Value) (hj : ((Y k).cs)[j]? = some u) (W : World) (hW : W.heap = w.heap) => (show W.cell? ⟨b2, o2 + k * 4 + j, none⟩ = some u by rw [World.cell?_of_block (w := w) (by rw [hW])]; exact h24 k (Y k) (by rw [hY]; simp [show k < l2.length by omega]) j u hj))
    have HN := Lib.hid (And.intro hn (And.intro h2n (And.intro hX hY)))
    have HA1 := Lib.hid (show 0 < n → a1 = some ⟨b1, o1, none⟩ from fun h => (h13 (by omega)).1)
    have HA2 := Lib.hid (show 0 < n → a2 = some ⟨b2, o2, none⟩ from fun h => (h23 (by omega)).1)
    rw [h2n] at h21 ⊢
    rw [← hn] at h11 ⊢
    clear h14 h24 hne hn h2n h13 h23 hX hY
    go_enter Try.func26, Try.ntmps26
    go_wp2
    go_loopg [5] n (fun g v5 wr => ∃ k : Nat, k ≤ n ∧ g = n - k ∧ v5 = .int .i64 k ∧ (∀ i, i < k → X i = Y i) ∧ wr.heap = w.heap ∧ Below w.heap.size w wr)
    case atStart => exact ⟨0, by omega, by omega, rfl, fun i hi => absurd hi (by omega), rfl, Below.refl _ _⟩
    case round =>
      obtain ⟨k, hk, rfl, rfl, heq, hw, hb⟩ := hrel
      have HE := Lib.hid heq
      have HW := Lib.hid hw
      have HB := Lib.hid hb
      clear heq hw hb
      by_cases hlt : k < n
      · obtain rfl := HA1.out (by omega)
        obtain rfl := HA2.out (by omega)
        obtain ⟨x, hx⟩ : ∃ x, X k = x := ⟨_, rfl⟩
        obtain ⟨y, hy⟩ : ∃ y, Y k = y := ⟨_, rfl⟩
        have hx0 : ∀ W : World, W.heap = w.heap → W.cell? ⟨b1, o1 + k * 4, none⟩ = some (.int .i64 x.sink) := H14.out k hlt 0 _ (by rw [hx]; rfl)
        have hx1 : ∀ W : World, W.heap = w.heap → W.cell? ⟨b1, o1 + k * 4 + 1, none⟩ = some (.int .i64 x.epoch) := H14.out k hlt 1 _ (by rw [hx]; rfl)
        have hx2 : ∀ W : World, W.heap = w.heap → W.cell? ⟨b1, o1 + k * 4 + 2, none⟩ = some (.int .i64 x.value) := H14.out k hlt 2 _ (by rw [hx]; rfl)
        have hx3 : ∀ W : World, W.heap = w.heap → W.cell? ⟨b1, o1 + k * 4 + 3, none⟩ = some (.bool x.hidden) := H14.out k hlt 3 _ (by rw [hx]; rfl)
        have hy0 : ∀ W : World, W.heap = w.heap → W.cell? ⟨b2, o2 + k * 4, none⟩ = some (.int .i64 y.sink) := H24.out k hlt 0 _ (by rw [hy]; rfl)
        have hy1 : ∀ W : World, W.heap = w.heap → W.cell? ⟨b2, o2 + k * 4 + 1, none⟩ = some (.int .i64 y.epoch) := H24.out k hlt 1 _ (by rw [hy]; rfl)
        have hy2 : ∀ W : World, W.heap = w.heap → W.cell? ⟨b2, o2 + k * 4 + 2, none⟩ = some (.int .i64 y.value) := H24.out k hlt 2 _ (by rw [hy]; rfl)
        have hy3 : ∀ W : World, W.heap = w.heap → W.cell? ⟨b2, o2 + k * 4 + 3, none⟩ = some (.bool y.hidden) := H24.out k hlt 3 _ (by rw [hy]; rfl)
        have HX := Lib.hid hx
        have HY := Lib.hid hy
        clear hx hy
        by_cases hxy : x = y
        · have HXY := Lib.hid hxy
          clear hxy
          go_wp2
          refine wp_region_planO (fun W => W.heap = w.heap) [(true, 0), (true, 1), (true, 2), (true, 3), (true, 4), (true, 5), (true, 6), (true, 7), (true, 8)] ?planL1 (by kernel_rfl) (by kernel_rfl) (by kernel_rfl) ?planH1 (by intro c a d v w; cases d <;> exact fun h => h) HW.out ?_
          case planH1 =>
            simp only [planOps, List.map_cons, List.map_nil, List.getElem?_toArray, List.getElem?_cons_zero, List.getElem?_cons_succ]
            try rfl
          iterate 8 (refine wpPlan_take (v := ?_) (by rfl) (fun w' hS => ?_) ?_; rotate_left; (focus (go_simp; with_reducible rfl)); simp only [Act.put, List.setIfInBounds_toArray, List.set_cons_zero, List.set_cons_succ])
          refine wpPlan_take (v := .bool false) (by rfl) (fun w' hS => ?_) ?_
          · have hxy := HXY.out
            subst hxy
            go_simp
            done
          simp only [Act.put, List.setIfInBounds_toArray, List.set_cons_zero, List.set_cons_succ]
          refine wpPlan_nil ?_
          go_wp2
          go_roundg (n - (k + 1))
          case measure => omega
          case rel => exact ⟨k + 1, by omega, rfl, by go_num, fun i hi => by rcases (by omega : i < k ∨ i = k) with h | h; exact HE.out i h; rw [h, HX.out, HY.out]; exact HXY.out, HW.out, HB.out.drew⟩
        · have HXY := Lib.hid hxy
          clear hxy
          go_wp2
          refine wp_region_planO (fun W => W.heap = w.heap) [(true, 0), (true, 1), (true, 2), (true, 3), (true, 4), (true, 5), (true, 6), (true, 7), (true, 8)] ?planL2 (by kernel_rfl) (by kernel_rfl) (by kernel_rfl) ?planH2 (by intro c a d v w; cases d <;> exact fun h => h) HW.out ?_
          case planH2 =>
            simp only [planOps, List.map_cons, List.map_nil, List.getElem?_toArray, List.getElem?_cons_zero, List.getElem?_cons_succ]
            try rfl
          iterate 8 (refine wpPlan_take (v := ?_) (by rfl) (fun w' hS => ?_) ?_; rotate_left; (focus (go_simp; with_reducible rfl)); simp only [Act.put, List.setIfInBounds_toArray, List.set_cons_zero, List.set_cons_succ])
          refine wpPlan_take (v := .bool true) (by rfl) (fun w' hS => ?_) ?_
          · go_simp
            have hxy := HXY.out
            simp only [RelV.ext_iff] at hxy
            by_cases e0 : x.sink = y.sink <;> by_cases e1 : x.epoch = y.epoch <;> by_cases e2 : x.value = y.value <;> by_cases e3 : x.hidden = y.hidden <;> simp_all
          simp only [Act.put, List.setIfInBounds_toArray, List.set_cons_zero, List.set_cons_succ]
          refine wpPlan_nil ?_
          go_wp2
          go_ret
          have hd : decide (l1 = l2) = false := by
            rw [decide_eq_false_iff_not]
            intro h
            obtain ⟨_, _, e3, e4⟩ := HN.out
            exact HXY.out (by rw [← HX.out, ← HY.out, e3, e4, h])
          rw [hd]
          exact ⟨rfl, HB.out.drew⟩
      · obtain rfl : k = n := by omega
        go_wp2
        go_ret
        have hd : decide (l1 = l2) = true := by
          rw [decide_eq_true_iff]
          obtain ⟨e1, e2, e3, e4⟩ := HN.out
          apply List.ext_getElem (by omega)
          intro i h1 h2
          have := HE.out i (by omega)
          rw [e3, e4] at this
          simpa [List.getD_eq_getElem?_getD, h1, h2] using this
        rw [hd]
        exact ⟨rfl, HB.out⟩
  · have hz : ((l1.length : Int) != l2.length) = true := by simp; omega
    have hd : decide (l1 = l2) = false := by
      rw [decide_eq_false_iff_not]
      intro h
      exact hne (by rw [h])
    rw [hd]
    clear hd hne h14 h24 h13 h23
    go_enter Try.func26, Try.ntmps26
    go_wp2
    go_ret
    exact ⟨rfl, Below.refl _ _⟩

set_option maxHeartbeats 2000000 in
theorem equalO (v1 v2 : Value) (l1 l2 : List OpV) (w : World) (h1 : IsR OpV.cs 2 w v1 l1) (h2 : IsR OpV.cs 2 w v2 l2) :
    Calls Try.prog 30 #[v1, v2] w fun e w' => e = .returned (.bool (decide (l1 = l2))) ∧ Below w.heap.size w w' := by
  obtain ⟨a1, c1, rfl, h11, h12, b1, o1, h13, h14⟩ := h1
  obtain ⟨a2, c2, rfl, h21, h22, b2, o2, h23, h24⟩ := h2
  unfold maxLen at h12 h22
  by_cases hne : l1.length = l2.length
  · obtain ⟨n, hn⟩ : ∃ n, n = l1.length := ⟨_, rfl⟩
    obtain ⟨X, hX⟩ : ∃ X : Nat → OpV, X = fun i => l1.getD i OpV.none := ⟨_, rfl⟩
    obtain ⟨Y, hY⟩ : ∃ Y : Nat → OpV, Y = fun i => l2.getD i OpV.none := ⟨_, rfl⟩
    have h2n : l2.length = n := by omega
    have H14 := Lib.hid (fun (k : Nat) (hk : k < n) (j : Nat) (u : Value) (hj : ((X k).cs)[j]? = some u) (W : World) (hW : W.heap = w.heap) => (show W.cell? ⟨b1, o1 + k * 2 + j, none⟩ = some u by rw [World.cell?_of_block (w := w) (by rw [hW])]; exact h14 k (X k) (by rw [hX]; simp [show k < l1.length by omega]) j u hj))
    have H24 := Lib.hid (fun (k : Nat) (hk : k < n) (j : Nat) (u : Value) (hj : ((Y k).cs)[j]? = some u) (W : World) (hW : W.heap = w.heap) => (show W.cell? ⟨b2, o2 + k * 2 + j, none⟩ = some u by rw [World.cell?_of_block (w := w) (by rw [hW])]; exact h24 k (Y k) (by rw [hY]; simp [show k < l2.length by omega]) j u hj))
    have HN := Lib.hid (And.intro hn (And.intro h2n (And.intro hX hY)))
    have HA1 := Lib.hid (show 0 < n → a1 = some ⟨b1, o1, none⟩ from fun h => (h13 (by omega)).1)
    have HA2 := Lib.hid (show 0 < n → a2 = some ⟨b2, o2, none⟩ from fun h => (h23 (by omega)).1)
    rw [h2n] at h21 ⊢
    rw [← hn] at h11 ⊢
    clear h14 h24 hne hn h2n h13 h23 hX hY
    go_enter Try.func30, Try.ntmps30
    go_wp2
    go_loopg [13] n (fun g v5 wr => ∃ k : Nat, k ≤ n ∧ g = n - k ∧ v5 = .int .i64 k ∧ (∀ i, i < k → X i = Y i) ∧ wr.heap = w.heap ∧ Below w.heap.size w wr)
    case atStart => exact ⟨0, by omega, by omega, rfl, fun i hi => absurd hi (by omega), rfl, Below.refl _ _⟩
    case round =>
      obtain ⟨k, hk, rfl, rfl, heq, hw, hb⟩ := hrel
      have HE := Lib.hid heq
      have HW := Lib.hid hw
      have HB := Lib.hid hb
      clear heq hw hb
      by_cases hlt : k < n
      · obtain rfl := HA1.out (by omega)
        obtain rfl := HA2.out (by omega)
        obtain ⟨x, hx⟩ : ∃ x, X k = x := ⟨_, rfl⟩
        obtain ⟨y, hy⟩ : ∃ y, Y k = y := ⟨_, rfl⟩
        have hx0 : ∀ W : World, W.heap = w.heap → W.cell? ⟨b1, o1 + k * 2, none⟩ = some (.int .i64 x.kind) := H14.out k hlt 0 _ (by rw [hx]; rfl)
        have hx1 : ∀ W : World, W.heap = w.heap → W.cell? ⟨b1, o1 + k * 2 + 1, none⟩ = some (.int .i64 x.n) := H14.out k hlt 1 _ (by rw [hx]; rfl)
        have hy0 : ∀ W : World, W.heap = w.heap → W.cell? ⟨b2, o2 + k * 2, none⟩ = some (.int .i64 y.kind) := H24.out k hlt 0 _ (by rw [hy]; rfl)
        have hy1 : ∀ W : World, W.heap = w.heap → W.cell? ⟨b2, o2 + k * 2 + 1, none⟩ = some (.int .i64 y.n) := H24.out k hlt 1 _ (by rw [hy]; rfl)
        have HX := Lib.hid hx
        have HY := Lib.hid hy
        clear hx hy
        by_cases hxy : x = y
        · have HXY := Lib.hid hxy
          clear hxy
          go_wp2
          refine wp_region_planO (fun W => W.heap = w.heap) [(true, 0), (true, 1), (true, 2), (true, 3), (true, 4), (true, 5), (true, 6), (true, 7), (true, 8)] ?planL1 (by kernel_rfl) (by kernel_rfl) (by kernel_rfl) ?planH1 (by intro c a d v w; cases d <;> exact fun h => h) HW.out ?_
          case planH1 =>
            simp only [planOps, List.map_cons, List.map_nil, List.getElem?_toArray, List.getElem?_cons_zero, List.getElem?_cons_succ]
            try rfl
          iterate 8 (refine wpPlan_take (v := ?_) (by rfl) (fun w' hS => ?_) ?_; rotate_left; (focus (go_simp; with_reducible rfl)); simp only [Act.put, List.setIfInBounds_toArray, List.set_cons_zero, List.set_cons_succ])
          refine wpPlan_take (v := .bool false) (by rfl) (fun w' hS => ?_) ?_
          · have hxy := HXY.out
            subst hxy
            go_simp
            done
          simp only [Act.put, List.setIfInBounds_toArray, List.set_cons_zero, List.set_cons_succ]
          refine wpPlan_nil ?_
          go_wp2
          go_roundg (n - (k + 1))
          case measure => omega
          case rel => exact ⟨k + 1, by omega, rfl, by go_num, fun i hi => by rcases (by omega : i < k ∨ i = k) with h | h; exact HE.out i h; rw [h, HX.out, HY.out]; exact HXY.out, HW.out, HB.out.drew⟩
        · have HXY := Lib.hid hxy
          clear hxy
          go_wp2
          refine wp_region_planO (fun W => W.heap = w.heap) [(true, 0), (true, 1), (true, 2), (true, 3), (true, 4), (true, 5), (true, 6), (true, 7), (true, 8)] ?planL2 (by kernel_rfl) (by kernel_rfl) (by kernel_rfl) ?planH2 (by intro c a d v w; cases d <;> exact fun h => h) HW.out ?_
          case planH2 =>
            simp only [planOps, List.map_cons, List.map_nil, List.getElem?_toArray, List.getElem?_cons_zero, List.getElem?_cons_succ]
            try rfl
          iterate 8 (refine wpPlan_take (v := ?_) (by rfl) (fun w' hS => ?_) ?_; rotate_left; (focus (go_simp; with_reducible rfl)); simp only [Act.put, List.setIfInBounds_toArray, List.set_cons_zero, List.set_cons_succ])
          refine wpPlan_take (v := .bool true) (by rfl) (fun w' hS => ?_) ?_
          · go_simp
            have hxy := HXY.out
            simp only [OpV.ext_iff] at hxy
            by_cases e0 : x.kind = y.kind <;> by_cases e1 : x.n = y.n <;> simp_all
          simp only [Act.put, List.setIfInBounds_toArray, List.set_cons_zero, List.set_cons_succ]
          refine wpPlan_nil ?_
          go_wp2
          go_ret
          have hd : decide (l1 = l2) = false := by
            rw [decide_eq_false_iff_not]
            intro h
            obtain ⟨_, _, e3, e4⟩ := HN.out
            exact HXY.out (by rw [← HX.out, ← HY.out, e3, e4, h])
          rw [hd]
          exact ⟨rfl, HB.out.drew⟩
      · obtain rfl : k = n := by omega
        go_wp2
        go_ret
        have hd : decide (l1 = l2) = true := by
          rw [decide_eq_true_iff]
          obtain ⟨e1, e2, e3, e4⟩ := HN.out
          apply List.ext_getElem (by omega)
          intro i h1 h2
          have := HE.out i (by omega)
          rw [e3, e4] at this
          simpa [List.getD_eq_getElem?_getD, h1, h2] using this
        rw [hd]
        exact ⟨rfl, HB.out⟩
  · have hz : ((l1.length : Int) != l2.length) = true := by simp; omega
    have hd : decide (l1 = l2) = false := by
      rw [decide_eq_false_iff_not]
      intro h
      exact hne (by rw [h])
    rw [hd]
    clear hd hne h14 h24 h13 h23
    go_enter Try.func30, Try.ntmps30
    go_wp2
    go_ret
    exact ⟨rfl, Below.refl _ _⟩

set_option maxHeartbeats 2000000 in
theorem equalR (v1 v2 : Value) (l1 l2 : List RowV) (w : World) (h1 : IsR RowV.cs 5 w v1 l1) (h2 : IsR RowV.cs 5 w v2 l2) :
    Calls Try.prog 21 #[v1, v2] w fun e w' => e = .returned (.bool (decide (l1 = l2))) ∧ Below w.heap.size w w' := by
  obtain ⟨a1, c1, rfl, h11, h12, b1, o1, h13, h14⟩ := h1
  obtain ⟨a2, c2, rfl, h21, h22, b2, o2, h23, h24⟩ := h2
  unfold maxLen at h12 h22
  by_cases hne : l1.length = l2.length
  · obtain ⟨n, hn⟩ : ∃ n, n = l1.length := ⟨_, rfl⟩
    obtain ⟨X, hX⟩ : ∃ X : Nat → RowV, X = fun i => l1.getD i RowV.none := ⟨_, rfl⟩
    obtain ⟨Y, hY⟩ : ∃ Y : Nat → RowV, Y = fun i => l2.getD i RowV.none := ⟨_, rfl⟩
    have h2n : l2.length = n := by omega
    have H14 := Lib.hid (fun (k : Nat) (hk : k < n) (j : Nat) (u : Value) (hj : ((X k).cs)[j]? = some u) (W : World) (hW : W.heap = w.heap) => (show W.cell? ⟨b1, o1 + k * 5 + j, none⟩ = some u by rw [World.cell?_of_block (w := w) (by rw [hW])]; exact h14 k (X k) (by rw [hX]; simp [show k < l1.length by omega]) j u hj))
    have H24 := Lib.hid (fun (k : Nat) (hk : k < n) (j : Nat) (u : Value) (hj : ((Y k).cs)[j]? = some u) (W : World) (hW : W.heap = w.heap) => (show W.cell? ⟨b2, o2 + k * 5 + j, none⟩ = some u by rw [World.cell?_of_block (w := w) (by rw [hW])]; exact h24 k (Y k) (by rw [hY]; simp [show k < l2.length by omega]) j u hj))
    have HN := Lib.hid (And.intro hn (And.intro h2n (And.intro hX hY)))
    have HA1 := Lib.hid (show 0 < n → a1 = some ⟨b1, o1, none⟩ from fun h => (h13 (by omega)).1)
    have HA2 := Lib.hid (show 0 < n → a2 = some ⟨b2, o2, none⟩ from fun h => (h23 (by omega)).1)
    rw [h2n] at h21 ⊢
    rw [← hn] at h11 ⊢
    clear h14 h24 hne hn h2n h13 h23 hX hY
    go_enter Try.func21, Try.ntmps21
    go_wp2
    go_loopg [13] n (fun g v5 wr => ∃ k : Nat, k ≤ n ∧ g = n - k ∧ v5 = .int .i64 k ∧ (∀ i, i < k → X i = Y i) ∧ wr.heap = w.heap ∧ Below w.heap.size w wr)
    case atStart => exact ⟨0, by omega, by omega, rfl, fun i hi => absurd hi (by omega), rfl, Below.refl _ _⟩
    case round =>
      obtain ⟨k, hk, rfl, rfl, heq, hw, hb⟩ := hrel
      have HE := Lib.hid heq
      have HW := Lib.hid hw
      have HB := Lib.hid hb
      clear heq hw hb
      by_cases hlt : k < n
      · obtain rfl := HA1.out (by omega)
        obtain rfl := HA2.out (by omega)
        obtain ⟨x, hx⟩ : ∃ x, X k = x := ⟨_, rfl⟩
        obtain ⟨y, hy⟩ : ∃ y, Y k = y := ⟨_, rfl⟩
        have hx0 : ∀ W : World, W.heap = w.heap → W.cell? ⟨b1, o1 + k * 5, none⟩ = some (.int .i64 x.start) := H14.out k hlt 0 _ (by rw [hx]; rfl)
        have hx1 : ∀ W : World, W.heap = w.heap → W.cell? ⟨b1, o1 + k * 5 + 1, none⟩ = some (.int .i64 x.key) := H14.out k hlt 1 _ (by rw [hx]; rfl)
        have hx2 : ∀ W : World, W.heap = w.heap → W.cell? ⟨b1, o1 + k * 5 + 2, none⟩ = some (.int .i64 x.value) := H14.out k hlt 2 _ (by rw [hx]; rfl)
        have hx3 : ∀ W : World, W.heap = w.heap → W.cell? ⟨b1, o1 + k * 5 + 3, none⟩ = some (.int .i64 x.count) := H14.out k hlt 3 _ (by rw [hx]; rfl)
        have hx4 : ∀ W : World, W.heap = w.heap → W.cell? ⟨b1, o1 + k * 5 + 4, none⟩ = some (.int .u64 x.label) := H14.out k hlt 4 _ (by rw [hx]; rfl)
        have hy0 : ∀ W : World, W.heap = w.heap → W.cell? ⟨b2, o2 + k * 5, none⟩ = some (.int .i64 y.start) := H24.out k hlt 0 _ (by rw [hy]; rfl)
        have hy1 : ∀ W : World, W.heap = w.heap → W.cell? ⟨b2, o2 + k * 5 + 1, none⟩ = some (.int .i64 y.key) := H24.out k hlt 1 _ (by rw [hy]; rfl)
        have hy2 : ∀ W : World, W.heap = w.heap → W.cell? ⟨b2, o2 + k * 5 + 2, none⟩ = some (.int .i64 y.value) := H24.out k hlt 2 _ (by rw [hy]; rfl)
        have hy3 : ∀ W : World, W.heap = w.heap → W.cell? ⟨b2, o2 + k * 5 + 3, none⟩ = some (.int .i64 y.count) := H24.out k hlt 3 _ (by rw [hy]; rfl)
        have hy4 : ∀ W : World, W.heap = w.heap → W.cell? ⟨b2, o2 + k * 5 + 4, none⟩ = some (.int .u64 y.label) := H24.out k hlt 4 _ (by rw [hy]; rfl)
        have HX := Lib.hid hx
        have HY := Lib.hid hy
        clear hx hy
        by_cases hxy : x = y
        · have HXY := Lib.hid hxy
          clear hxy
          go_wp2
          refine wp_region_planO (fun W => W.heap = w.heap) [(true, 0), (true, 1), (true, 2), (true, 3), (true, 4), (true, 5), (true, 6), (true, 7), (true, 8)] ?planL1 (by kernel_rfl) (by kernel_rfl) (by kernel_rfl) ?planH1 (by intro c a d v w; cases d <;> exact fun h => h) HW.out ?_
          case planH1 =>
            simp only [planOps, List.map_cons, List.map_nil, List.getElem?_toArray, List.getElem?_cons_zero, List.getElem?_cons_succ]
            try rfl
          iterate 8 (refine wpPlan_take (v := ?_) (by rfl) (fun w' hS => ?_) ?_; rotate_left; (focus (go_simp; with_reducible rfl)); simp only [Act.put, List.setIfInBounds_toArray, List.set_cons_zero, List.set_cons_succ])
          refine wpPlan_take (v := .bool false) (by rfl) (fun w' hS => ?_) ?_
          · have hxy := HXY.out
            subst hxy
            go_simp
            done
          simp only [Act.put, List.setIfInBounds_toArray, List.set_cons_zero, List.set_cons_succ]
          refine wpPlan_nil ?_
          go_wp2
          go_roundg (n - (k + 1))
          case measure => omega
          case rel => exact ⟨k + 1, by omega, rfl, by go_num, fun i hi => by rcases (by omega : i < k ∨ i = k) with h | h; exact HE.out i h; rw [h, HX.out, HY.out]; exact HXY.out, HW.out, HB.out.drew⟩
        · have HXY := Lib.hid hxy
          clear hxy
          go_wp2
          refine wp_region_planO (fun W => W.heap = w.heap) [(true, 0), (true, 1), (true, 2), (true, 3), (true, 4), (true, 5), (true, 6), (true, 7), (true, 8)] ?planL2 (by kernel_rfl) (by kernel_rfl) (by kernel_rfl) ?planH2 (by intro c a d v w; cases d <;> exact fun h => h) HW.out ?_
          case planH2 =>
            simp only [planOps, List.map_cons, List.map_nil, List.getElem?_toArray, List.getElem?_cons_zero, List.getElem?_cons_succ]
            try rfl
          iterate 8 (refine wpPlan_take (v := ?_) (by rfl) (fun w' hS => ?_) ?_; rotate_left; (focus (go_simp; with_reducible rfl)); simp only [Act.put, List.setIfInBounds_toArray, List.set_cons_zero, List.set_cons_succ])
          refine wpPlan_take (v := .bool true) (by rfl) (fun w' hS => ?_) ?_
          · go_simp
            have hxy := HXY.out
            simp only [RowV.ext_iff] at hxy
            by_cases e0 : x.start = y.start <;> by_cases e1 : x.key = y.key <;> by_cases e2 : x.value = y.value <;> by_cases e3 : x.count = y.count <;> by_cases e4 : x.label = y.label <;> simp_all
          simp only [Act.put, List.setIfInBounds_toArray, List.set_cons_zero, List.set_cons_succ]
          refine wpPlan_nil ?_
          go_wp2
          go_ret
          have hd : decide (l1 = l2) = false := by
            rw [decide_eq_false_iff_not]
            intro h
            obtain ⟨_, _, e3, e4⟩ := HN.out
            exact HXY.out (by rw [← HX.out, ← HY.out, e3, e4, h])
          rw [hd]
          exact ⟨rfl, HB.out.drew⟩
      · obtain rfl : k = n := by omega
        go_wp2
        go_ret
        have hd : decide (l1 = l2) = true := by
          rw [decide_eq_true_iff]
          obtain ⟨e1, e2, e3, e4⟩ := HN.out
          apply List.ext_getElem (by omega)
          intro i h1 h2
          have := HE.out i (by omega)
          rw [e3, e4] at this
          simpa [List.getD_eq_getElem?_getD, h1, h2] using this
        rw [hd]
        exact ⟨rfl, HB.out⟩
  · have hz : ((l1.length : Int) != l2.length) = true := by simp; omega
    have hd : decide (l1 = l2) = false := by
      rw [decide_eq_false_iff_not]
      intro h
      exact hne (by rw [h])
    rw [hd]
    clear hd hne h14 h24 h13 h23
    go_enter Try.func21, Try.ntmps21
    go_wp2
    go_ret
    exact ⟨rfl, Below.refl _ _⟩

set_option maxHeartbeats 2000000 in
theorem equalL (v1 v2 : Value) (l1 l2 : List RelV) (w : World) (h1 : IsR RelV.cs 4 w v1 l1) (h2 : IsR RelV.cs 4 w v2 l2) :
    Calls Try.prog 22 #[v1, v2] w fun e w' => e = .returned (.bool (decide (l1 = l2))) ∧ Below w.heap.size w w' := by
  obtain ⟨a1, c1, rfl, h11, h12, b1, o1, h13, h14⟩ := h1
  obtain ⟨a2, c2, rfl, h21, h22, b2, o2, h23, h24⟩ := h2
  unfold maxLen at h12 h22
  by_cases hne : l1.length = l2.length
  · obtain ⟨n, hn⟩ : ∃ n, n = l1.length := ⟨_, rfl⟩
    obtain ⟨X, hX⟩ : ∃ X : Nat → RelV, X = fun i => l1.getD i RelV.none := ⟨_, rfl⟩
    obtain ⟨Y, hY⟩ : ∃ Y : Nat → RelV, Y = fun i => l2.getD i RelV.none := ⟨_, rfl⟩
    have h2n : l2.length = n := by omega
    have H14 := Lib.hid (fun (k : Nat) (hk : k < n) (j : Nat) (u : Value) (hj : ((X k).cs)[j]? = some u) (W : World) (hW : W.heap = w.heap) => (show W.cell? ⟨b1, o1 + k * 4 + j, none⟩ = some u by rw [World.cell?_of_block (w := w) (by rw [hW])]; exact h14 k (X k) (by rw [hX]; simp [show k < l1.length by omega]) j u hj))
    have H24 := Lib.hid (fun (k : Nat) (hk : k < n) (j : Nat) (u : Value) (hj : ((Y k).cs)[j]? = some u) (W : World) (hW : W.heap = w.heap) => (show W.cell? ⟨b2, o2 + k * 4 + j, none⟩ = some u by rw [World.cell?_of_block (w := w) (by rw [hW])]; exact h24 k (Y k) (by rw [hY]; simp [show k < l2.length by omega]) j u hj))
    have HN := Lib.hid (And.intro hn (And.intro h2n (And.intro hX hY)))
    have HA1 := Lib.hid (show 0 < n → a1 = some ⟨b1, o1, none⟩ from fun h => (h13 (by omega)).1)
    have HA2 := Lib.hid (show 0 < n → a2 = some ⟨b2, o2, none⟩ from fun h => (h23 (by omega)).1)
    rw [h2n] at h21 ⊢
    rw [← hn] at h11 ⊢
    clear h14 h24 hne hn h2n h13 h23 hX hY
    go_enter Try.func22, Try.ntmps22
    go_wp2
    go_loopg [13] n (fun g v5 wr => ∃ k : Nat, k ≤ n ∧ g = n - k ∧ v5 = .int .i64 k ∧ (∀ i, i < k → X i = Y i) ∧ wr.heap = w.heap ∧ Below w.heap.size w wr)
    case atStart => exact ⟨0, by omega, by omega, rfl, fun i hi => absurd hi (by omega), rfl, Below.refl _ _⟩
    case round =>
      obtain ⟨k, hk, rfl, rfl, heq, hw, hb⟩ := hrel
      have HE := Lib.hid heq
      have HW := Lib.hid hw
      have HB := Lib.hid hb
      clear heq hw hb
      by_cases hlt : k < n
      · obtain rfl := HA1.out (by omega)
        obtain rfl := HA2.out (by omega)
        obtain ⟨x, hx⟩ : ∃ x, X k = x := ⟨_, rfl⟩
        obtain ⟨y, hy⟩ : ∃ y, Y k = y := ⟨_, rfl⟩
        have hx0 : ∀ W : World, W.heap = w.heap → W.cell? ⟨b1, o1 + k * 4, none⟩ = some (.int .i64 x.sink) := H14.out k hlt 0 _ (by rw [hx]; rfl)
        have hx1 : ∀ W : World, W.heap = w.heap → W.cell? ⟨b1, o1 + k * 4 + 1, none⟩ = some (.int .i64 x.epoch) := H14.out k hlt 1 _ (by rw [hx]; rfl)
        have hx2 : ∀ W : World, W.heap = w.heap → W.cell? ⟨b1, o1 + k * 4 + 2, none⟩ = some (.int .i64 x.value) := H14.out k hlt 2 _ (by rw [hx]; rfl)
        have hx3 : ∀ W : World, W.heap = w.heap → W.cell? ⟨b1, o1 + k * 4 + 3, none⟩ = some (.bool x.hidden) := H14.out k hlt 3 _ (by rw [hx]; rfl)
        have hy0 : ∀ W : World, W.heap = w.heap → W.cell? ⟨b2, o2 + k * 4, none⟩ = some (.int .i64 y.sink) := H24.out k hlt 0 _ (by rw [hy]; rfl)
        have hy1 : ∀ W : World, W.heap = w.heap → W.cell? ⟨b2, o2 + k * 4 + 1, none⟩ = some (.int .i64 y.epoch) := H24.out k hlt 1 _ (by rw [hy]; rfl)
        have hy2 : ∀ W : World, W.heap = w.heap → W.cell? ⟨b2, o2 + k * 4 + 2, none⟩ = some (.int .i64 y.value) := H24.out k hlt 2 _ (by rw [hy]; rfl)
        have hy3 : ∀ W : World, W.heap = w.heap → W.cell? ⟨b2, o2 + k * 4 + 3, none⟩ = some (.bool y.hidden) := H24.out k hlt 3 _ (by rw [hy]; rfl)
        have HX := Lib.hid hx
        have HY := Lib.hid hy
        clear hx hy
        by_cases hxy : x = y
        · have HXY := Lib.hid hxy
          clear hxy
          go_wp2
          refine wp_region_planO (fun W => W.heap = w.heap) [(true, 0), (true, 1), (true, 2), (true, 3), (true, 4), (true, 5), (true, 6), (true, 7), (true, 8)] ?planL1 (by kernel_rfl) (by kernel_rfl) (by kernel_rfl) ?planH1 (by intro c a d v w; cases d <;> exact fun h => h) HW.out ?_
          case planH1 =>
            simp only [planOps, List.map_cons, List.map_nil, List.getElem?_toArray, List.getElem?_cons_zero, List.getElem?_cons_succ]
            try rfl
          iterate 8 (refine wpPlan_take (v := ?_) (by rfl) (fun w' hS => ?_) ?_; rotate_left; (focus (go_simp; with_reducible rfl)); simp only [Act.put, List.setIfInBounds_toArray, List.set_cons_zero, List.set_cons_succ])
          refine wpPlan_take (v := .bool false) (by rfl) (fun w' hS => ?_) ?_
          · have hxy := HXY.out
            subst hxy
            go_simp
            done
          simp only [Act.put, List.setIfInBounds_toArray, List.set_cons_zero, List.set_cons_succ]
          refine wpPlan_nil ?_
          go_wp2
          go_roundg (n - (k + 1))
          case measure => omega
          case rel => exact ⟨k + 1, by omega, rfl, by go_num, fun i hi => by rcases (by omega : i < k ∨ i = k) with h | h; exact HE.out i h; rw [h, HX.out, HY.out]; exact HXY.out, HW.out, HB.out.drew⟩
        · have HXY := Lib.hid hxy
          clear hxy
          go_wp2
          refine wp_region_planO (fun W => W.heap = w.heap) [(true, 0), (true, 1), (true, 2), (true, 3), (true, 4), (true, 5), (true, 6), (true, 7), (true, 8)] ?planL2 (by kernel_rfl) (by kernel_rfl) (by kernel_rfl) ?planH2 (by intro c a d v w; cases d <;> exact fun h => h) HW.out ?_
          case planH2 =>
            simp only [planOps, List.map_cons, List.map_nil, List.getElem?_toArray, List.getElem?_cons_zero, List.getElem?_cons_succ]
            try rfl
          iterate 8 (refine wpPlan_take (v := ?_) (by rfl) (fun w' hS => ?_) ?_; rotate_left; (focus (go_simp; with_reducible rfl)); simp only [Act.put, List.setIfInBounds_toArray, List.set_cons_zero, List.set_cons_succ])
          refine wpPlan_take (v := .bool true) (by rfl) (fun w' hS => ?_) ?_
          · go_simp
            have hxy := HXY.out
            simp only [RelV.ext_iff] at hxy
            by_cases e0 : x.sink = y.sink <;> by_cases e1 : x.epoch = y.epoch <;> by_cases e2 : x.value = y.value <;> by_cases e3 : x.hidden = y.hidden <;> simp_all
          simp only [Act.put, List.setIfInBounds_toArray, List.set_cons_zero, List.set_cons_succ]
          refine wpPlan_nil ?_
          go_wp2
          go_ret
          have hd : decide (l1 = l2) = false := by
            rw [decide_eq_false_iff_not]
            intro h
            obtain ⟨_, _, e3, e4⟩ := HN.out
            exact HXY.out (by rw [← HX.out, ← HY.out, e3, e4, h])
          rw [hd]
          exact ⟨rfl, HB.out.drew⟩
      · obtain rfl : k = n := by omega
        go_wp2
        go_ret
        have hd : decide (l1 = l2) = true := by
          rw [decide_eq_true_iff]
          obtain ⟨e1, e2, e3, e4⟩ := HN.out
          apply List.ext_getElem (by omega)
          intro i h1 h2
          have := HE.out i (by omega)
          rw [e3, e4] at this
          simpa [List.getD_eq_getElem?_getD, h1, h2] using this
        rw [hd]
        exact ⟨rfl, HB.out⟩
  · have hz : ((l1.length : Int) != l2.length) = true := by simp; omega
    have hd : decide (l1 = l2) = false := by
      rw [decide_eq_false_iff_not]
      intro h
      exact hne (by rw [h])
    rw [hd]
    clear hd hne h14 h24 h13 h23
    go_enter Try.func22, Try.ntmps22
    go_wp2
    go_ret
    exact ⟨rfl, Below.refl _ _⟩

end Go.Proofs.Ytemmekpmoigdeaa
