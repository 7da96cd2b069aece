/- Structures; lists of structs; blocks of cells; the comparisons of answers. -/
import Derived.Test.YtcanfmabkklidaaGreatMb1
import Derived.Test.YtcanfmabkklidaaGreatMb2
import Derived.Test.YtcanfmabkklidaaGreatMb3
set_option linter.unusedSimpArgs false
set_option linter.unusedVariables false
set_option linter.unnecessarySimpa false
namespace Go.Proofs.YtcanfmabkklidaaGreat
open Go.ChangeShapes Go.WideShapes Go.RowKit

/-- a list of structs of k cells, as a slice value reads it -/
def IsR {α : Type} (cs : α → List Value) (k : Nat) (w : World) (v : Value) (l : List α) : Prop :=
  ∃ a c, v = .slice a l.length c ∧ l.length ≤ c ∧ c ≤ maxLen ∧ ∃ b o, (0 < l.length → a = some ⟨b, o, none⟩ ∧ b < w.heap.size) ∧ ∀ i x, l[i]? = some x → ∀ j u, (cs x)[j]? = some u → w.cell? ⟨b, o + i * k + j, none⟩ = some u
theorem IsR.nil {α : Type} (cs : α → List Value) (k : Nat) (w : World) : IsR cs k w (.slice none 0 0) [] := ⟨none, 0, rfl, by simp, by simp, 0, 0, fun h => absurd h (by simp), fun i x hi => absurd hi (by simp)⟩
theorem IsR.kept {α : Type} {cs : α → List Value} {k : Nat} {w w' : World} {v : Value} {l : List α} (h : IsR cs k w v l) (hb : Below w.heap.size w w') : IsR cs k w' v l := by
  obtain ⟨a, c, hv, h1, h2, b, o, h3, h4⟩ := h
  refine ⟨a, c, hv, h1, h2, b, o, fun hp => ⟨(h3 hp).1, Nat.lt_of_lt_of_le (h3 hp).2 hb.size⟩, fun i x hi j u hj => ?_⟩
  have hp : 0 < l.length := by have := (List.getElem?_eq_some_iff.1 hi).1; omega
  rw [hb.cell (p := ⟨b, _, none⟩) (h3 hp).2]
  exact h4 i x hi j u hj

@[ext] structure OpV where
  kind : Int
  n : Int
deriving DecidableEq
def OpV.cs (x : OpV) : List Value := [.int .i64 x.kind, .int .i64 x.n]
def OpV.none : OpV := ⟨0, 0⟩

@[ext] structure RowV where
  start : Int
  key : Int
  value : Int
  count : Int
  label : Int
deriving DecidableEq
def RowV.cs (x : RowV) : List Value := [.int .i64 x.start, .int .i64 x.key, .int .i64 x.value, .int .i64 x.count, .int .u64 x.label]
def RowV.none : RowV := ⟨0, 0, 0, 0, 0⟩

@[ext] structure RelV where
  sink : Int
  epoch : Int
  value : Int
  hidden : Bool
deriving DecidableEq
def RelV.cs (x : RelV) : List Value := [.int .i64 x.sink, .int .i64 x.epoch, .int .i64 x.value, .bool x.hidden]
def RelV.none : RelV := ⟨0, 0, 0, false⟩

set_option maxHeartbeats 2000000 in
theorem sameR (v1 v2 : Value) (l1 l2 : List RowV) (w : World) (h1 : IsR RowV.cs 5 w v1 l1) (h2 : IsR RowV.cs 5 w v2 l2) :
    Calls Tryz.prog 18 #[v1, v2] w fun e w' => e = .returned (.bool (decide (l1 = l2))) ∧ Below w.heap.size w w' := by
  obtain ⟨a1, c1, rfl, h11, h12, b1, o1, h13, h14⟩ := h1
  obtain ⟨a2, c2, rfl, h21, h22, b2, o2, h23, h24⟩ := h2
  unfold maxLen at h12 h22
  by_cases hne : l1.length = l2.length
  · obtain ⟨n, hn⟩ : ∃ n, n = l1.length := ⟨_, rfl⟩
    obtain ⟨X, hX⟩ : ∃ X : Nat → RowV, X = fun i => l1.getD i RowV.none := ⟨_, rfl⟩
    obtain ⟨Y, hY⟩ : ∃ Y : Nat → RowV, Y = fun i => l2.getD i RowV.none := ⟨_, rfl⟩
    have h2n : l2.length = n := by omega
    have H14 := Lib.hid (fun (k : Nat) (hk : k < n) (j : Nat) (u : Value) (hj : ((X k).cs)[j]? = some u) (W : World) (hW : W.heap = w.heap) => (show W.cell? ⟨b1, o1 + k * 5 + j, none⟩ = some u by rw [World.cell?_of_block (w := w) (by rw [hW])]; exact h14 k (X k) (by rw [hX]; simp [show k < l1.length by omega]) j u hj))
    have H24 := Lib.hid (fun (k : Nat) (hk : k < n) (j : Nat) (u : Value) (hj : ((Y k).cs)[j]? = some u) (W : World) (hW : W.heap = w.heap) => (show W.cell? ⟨b2, o2 + k * 5 + j, none⟩ = some u by rw [World.cell?_of_block (w := w) (by rw [hW])]; exact h24 k (Y k) (by rw [hY]; simp [show k < l2.length by omega]) j u hj))
    have HN := Lib.hid (And.intro hn (And.intro h2n (And.intro hX hY)))
    have HA1 := Lib.hid (show 0 < n → a1 = some ⟨b1, o1, none⟩ from fun h => (h13 (by omega)).1)
    have HA2 := Lib.hid (show 0 < n → a2 = some ⟨b2, o2, none⟩ from fun h => (h23 (by omega)).1)
    rw [h2n] at h21 ⊢
    rw [← hn] at h11 ⊢
    clear h14 h24 hne hn h2n h13 h23 hX hY
    go_enter Tryz.func18, Tryz.ntmps18
    go_wp2
    go_loopg [5] n (fun g v5 wr => ∃ k : Nat, k ≤ n ∧ g = n - k ∧ v5 = .int .i64 k ∧ (∀ i, i < k → X i = Y i) ∧ wr.heap = w.heap ∧ Below w.heap.size w wr)
    case atStart => exact ⟨0, by omega, by omega, rfl, fun i hi => absurd hi (by omega), rfl, Below.refl _ _⟩
    case round =>
      obtain ⟨k, hk, rfl, rfl, heq, hw, hb⟩ := hrel
      have HE := Lib.hid heq
      have HW := Lib.hid hw
      have HB := Lib.hid hb
      clear heq hw hb
      by_cases hlt : k < n
      · obtain rfl := HA1.out (by omega)
        obtain rfl := HA2.out (by omega)
        obtain ⟨x, hx⟩ : ∃ x, X k = x := ⟨_, rfl⟩
        obtain ⟨y, hy⟩ : ∃ y, Y k = y := ⟨_, rfl⟩
        have hx0 : ∀ W : World, W.heap = w.heap → W.cell? ⟨b1, o1 + k * 5, none⟩ = some (.int .i64 x.start) := H14.out k hlt 0 _ (by rw [hx]; rfl)
        have hx1 : ∀ W : World, W.heap = w.heap → W.cell? ⟨b1, o1 + k * 5 + 1, none⟩ = some (.int .i64 x.key) := H14.out k hlt 1 _ (by rw [hx]; rfl)
        have hx2 : ∀ W : World, W.heap = w.heap → W.cell? ⟨b1, o1 + k * 5 + 2, none⟩ = some (.int .i64 x.value) := H14.out k hlt 2 _ (by rw [hx]; rfl)
        have hx3 : ∀ W : World, W.heap = w.heap → W.cell? ⟨b1, o1 + k * 5 + 3, none⟩ = some (.int .i64 x.count) := H14.out k hlt 3 _ (by rw [hx]; rfl)
        have hx4 : ∀ W : World, W.heap = w.heap → W.cell? ⟨b1, o1 + k * 5 + 4, none⟩ = some (.int .u64 x.label) := H14.out k hlt 4 _ (by rw [hx]; rfl)
        have hy0 : ∀ W : World, W.heap = w.heap → W.cell? ⟨b2, o2 + k * 5, none⟩ = some (.int .i64 y.start) := H24.out k hlt 0 _ (by rw [hy]; rfl)
        have hy1 : ∀ W : World, W.heap = w.heap → W.cell? ⟨b2, o2 + k * 5 + 1, none⟩ = some (.int .i64 y.key) := H24.out k hlt 1 _ (by rw [hy]; rfl)
        have hy2 : ∀ W : World, W.heap = w.heap → W.cell? ⟨b2, o2 + k * 5 + 2, none⟩ = some (.int .i64 y.value) := H24.out k hlt 2 _ (by rw [hy]; rfl)
        have hy3 : ∀ W : World, W.heap = w.heap → W.cell? ⟨b2, o2 + k * 5 + 3, none⟩ = some (.int .i64 y.count) := H24.out k hlt 3 _ (by rw [hy]; rfl)
        have hy4 : ∀ W : World, W.heap = w.heap → W.cell? ⟨b2, o2 + k * 5 + 4, none⟩ = some (.int .u64 y.label) := H24.out k hlt 4 _ (by rw [hy]; rfl)
        have HX := Lib.hid hx
        have HY := Lib.hid hy
        clear hx hy
        by_cases hxy : x = y
        · have HXY := Lib.hid hxy
          clear hxy
          go_wp2
          refine wp_region_planO (fun W => W.heap = w.heap) [(true, 0), (true, 1), (true, 2), (true, 3), (true, 4), (true, 5), (true, 6), (true, 7), (true, 8)] ?planL1 (by kernel_rfl) (by kernel_rfl) (by kernel_rfl) ?planH1 (by intro c a d v w; cases d <;> exact fun h => h) HW.out ?_
          case planH1 =>
            simp only [planOps, List.map_cons, List.map_nil, List.getElem?_toArray, List.getElem?_cons_zero, List.getElem?_cons_succ]
            try rfl
          iterate 8 (refine wpPlan_take (v := ?_) (by rfl) (fun w' hS => ?_) ?_; rotate_left; (focus (go_simp; with_reducible rfl)); simp only [Act.put, List.setIfInBounds_toArray, List.set_cons_zero, List.set_cons_succ])
          refine wpPlan_take (v := .bool false) (by rfl) (fun w' hS => ?_) ?_
          · have hxy := HXY.out
            subst hxy
            go_simp
            done
          simp only [Act.put, List.setIfInBounds_toArray, List.set_cons_zero, List.set_cons_succ]
          refine wpPlan_nil ?_
          go_wp2
          go_roundg (n - (k + 1))
          case measure => omega
          case rel => exact ⟨k + 1, by omega, rfl, by go_num, fun i hi => by rcases (by omega : i < k ∨ i = k) with h | h; exact HE.out i h; rw [h, HX.out, HY.out]; exact HXY.out, HW.out, HB.out.drew⟩
        · have HXY := Lib.hid hxy
          clear hxy
          go_wp2
          refine wp_region_planO (fun W => W.heap = w.heap) [(true, 0), (true, 1), (true, 2), (true, 3), (true, 4), (true, 5), (true, 6), (true, 7), (true, 8)] ?planL2 (by kernel_rfl) (by kernel_rfl) (by kernel_rfl) ?planH2 (by intro c a d v w; cases d <;> exact fun h => h) HW.out ?_
          case planH2 =>
            simp only [planOps, List.map_cons, List.map_nil, List.getElem?_toArray, List.getElem?_cons_zero, List.getElem?_cons_succ]
            try rfl
          iterate 8 (refine wpPlan_take (v := ?_) (by rfl) (fun w' hS => ?_) ?_; rotate_left; (focus (go_simp; with_reducible rfl)); simp only [Act.put, List.setIfInBounds_toArray, List.set_cons_zero, List.set_cons_succ])
          refine wpPlan_take (v := .bool true) (by rfl) (fun w' hS => ?_) ?_
          · go_simp
            have hxy := HXY.out
            simp only [RowV.ext_iff] at hxy
            by_cases e0 : x.start = y.start <;> by_cases e1 : x.key = y.key <;> by_cases e2 : x.value = y.value <;> by_cases e3 : x.count = y.count <;> by_cases e4 : x.label = y.label <;> simp_all
          simp only [Act.put, List.setIfInBounds_toArray, List.set_cons_zero, List.set_cons_succ]
          refine wpPlan_nil ?_
          go_wp2
          go_ret
          have hd : decide (l1 = l2) = false := by
            rw [decide_eq_false_iff_not]
            intro h
            obtain ⟨_, _, e3, e4⟩ := HN.out
            exact HXY.out (by rw [← HX.out, ← HY.out, e3, e4, h])
          rw [hd]
          exact ⟨rfl, HB.out.drew⟩
      · obtain rfl : k = n := by omega
        go_wp2
        go_ret
        have hd : decide (l1 = l2) = true := by
          rw [decide_eq_true_iff]
          obtain ⟨e1, e2, e3, e4⟩ := HN.out
          apply List.ext_getElem (by omega)
          intro i h1 h2
          have := HE.out i (by omega)
          rw [e3, e4] at this
          simpa [List.getD_eq_getElem?_getD, h1, h2] using this
        rw [hd]
        exact ⟨rfl, HB.out⟩
  · have hz : ((l1.length : Int) != l2.length) = true := by simp; omega
    have hd : decide (l1 = l2) = false := by
      rw [decide_eq_false_iff_not]
      intro h
      exact hne (by rw [h])
    rw [hd]
    clear hd hne h14 h24 h13 h23
    go_enter Tryz.func18, Tryz.ntmps18
    go_wp2
    go_ret
    exact ⟨rfl, Below.refl _ _⟩

set_option maxHeartbeats 2000000 in
theorem sameL (v1 v2 : Value) (l1 l2 : List RelV) (w : World) (h1 : IsR RelV.cs 4 w v1 l1) (h2 : IsR RelV.cs 4 w v2 l2) :
    Calls Tryz.prog 23 #[v1, v2] w fun e w' => e = .returned (.bool (decide (l1 = l2))) ∧ Below w.heap.size w w' := by
  obtain ⟨a1, c1, rfl, h11, h12, b1, o1, h13, h14⟩ := h1
  obtain ⟨a2, c2, rfl, h21, h22, b2, o2, h23, h24⟩ := h2
  unfold maxLen at h12 h22
  by_cases hne : l1.length = l2.length
  · obtain ⟨n, hn⟩ : ∃ n, n = l1.length := ⟨_, rfl⟩
    obtain ⟨X, hX⟩ : ∃ X : Nat → RelV, X = fun i => l1.getD i RelV.none := ⟨_, rfl⟩
    obtain ⟨Y, hY⟩ : ∃ Y : Nat → RelV, Y = fun i => l2.getD i RelV.none := ⟨_, rfl⟩
    have h2n : l2.length = n := by omega
    have H14 := Lib.hid (fun (k : Nat) (hk : k < n) (j : Nat) (u : Value) (hj : ((X k).cs)[j]? = some u) (W : World) (hW : W.heap = w.heap) => (show W.cell? ⟨b1, o1 + k * 4 + j, none⟩ = some u by rw [World.cell?_of_block (w := w) (by rw [hW])]; exact h14 k (X k) (by rw [hX]; simp [show k < l1.length by omega]) j u hj))
    have H24 := Lib.hid (fun (k : Nat) (hk : k < n) (j : Nat) (u : Value) (hj : ((Y k).cs)[j]? = some u) (W : World) (hW : W.heap = w.heap) => (show W.cell? ⟨b2, o2 + k * 4 + j, none⟩ = some u by rw [World.cell?_of_block (w := w) (by rw [hW])]; exact h24 k (Y k) (by rw [hY]; simp [show k < l2.length by omega]) j u hj))
    have HN := Lib.hid (And.intro hn (And.intro h2n (And.intro hX hY)))
    have HA1 := Lib.hid (show 0 < n → a1 = some ⟨b1, o1, none⟩ from fun h => (h13 (by omega)).1)
    have HA2 := Lib.hid (show 0 < n → a2 = some ⟨b2, o2, none⟩ from fun h => (h23 (by omega)).1)
    rw [h2n] at h21 ⊢
    rw [← hn] at h11 ⊢
    clear h14 h24 hne hn h2n h13 h23 hX hY
    go_enter Tryz.func23, Tryz.ntmps23
    go_wp2
    go_loopg [5] n (fun g v5 wr => ∃ k : Nat, k ≤ n ∧ g = n - k ∧ v5 = .int .i64 k ∧ (∀ i, i < k → X i = Y i) ∧ wr.heap = w.heap ∧ Below w.heap.size w wr)
    case atStart => exact ⟨0, by omega, by omega, rfl, fun i hi => absurd hi (by omega), rfl, Below.refl _ _⟩
    case round =>
      obtain ⟨k, hk, rfl, rfl, heq, hw, hb⟩ := hrel
      have HE := Lib.hid heq
      have HW := Lib.hid hw
      have HB := Lib.hid hb
      clear heq hw hb
      by_cases hlt : k < n
      · obtain rfl := HA1.out (by omega)
        obtain rfl := HA2.out (by omega)
        obtain ⟨x, hx⟩ : ∃ x, X k = x := ⟨_, rfl⟩
        obtain ⟨y, hy⟩ : ∃ y, Y k = y := ⟨_, rfl⟩
        have hx0 : ∀ W : World, W.heap = w.heap → W.cell? ⟨b1, o1 + k * 4, none⟩ = some (.int .i64 x.sink) := H14.out k hlt 0 _ (by rw [hx]; rfl)
        have hx1 : ∀ W : World, W.heap = w.heap → W.cell? ⟨b1, o1 + k * 4 + 1, none⟩ = some (.int .i64 x.epoch) := H14.out k hlt 1 _ (by rw [hx]; rfl)
        have hx2 : ∀ W : World, W.heap = w.heap → W.cell? ⟨b1, o1 + k * 4 + 2, none⟩ = some (.int .i64 x.value) := H14.out k hlt 2 _ (by rw [hx]; rfl)
        have hx3 : ∀ W : World, W.heap = w.heap → W.cell? ⟨b1, o1 + k * 4 + 3, none⟩ = some (.bool x.hidden) := H14.out k hlt 3 _ (by rw [hx]; rfl)
        have hy0 : ∀ W : World, W.heap = w.heap → W.cell? ⟨b2, o2 + k * 4, none⟩ = some (.int .i64 y.sink) := H24.out k hlt 0 _ (by rw [hy]; rfl)
        have hy1 : ∀ W : World, W.heap = w.heap → W.cell? ⟨b2, o2 + k * 4 + 1, none⟩ = some (.int .i64 y.epoch) := H24.out k hlt 1 _ (by rw [hy]; rfl)
        have hy2 : ∀ W : World, W.heap = w.heap → W.cell? ⟨b2, o2 + k * 4 + 2, none⟩ = some (.int .i64 y.value) := H24.out k hlt 2 _ (by rw [hy]; rfl)
        have hy3 : ∀ W : World, W.heap = w.heap → W.cell? ⟨b2, o2 + k * 4 + 3, none⟩ = some (.bool y.hidden) := H24.out k hlt 3 _ (by rw [hy]; rfl)
        have HX := Lib.hid hx
        have HY := Lib.hid hy
        clear hx hy
        by_cases hxy : x = y
        · have HXY := Lib.hid hxy
          clear hxy
          go_wp2
          refine wp_region_planO (fun W => W.heap = w.heap) [(true, 0), (true, 1), (true, 2), (true, 3), (true, 4), (true, 5), (true, 6), (true, 7), (true, 8)] ?planL1 (by kernel_rfl) (by kernel_rfl) (by kernel_rfl) ?planH1 (by intro c a d v w; cases d <;> exact fun h => h) HW.out ?_
          case planH1 =>
            simp only [planOps, List.map_cons, List.map_nil, List.getElem?_toArray, List.getElem?_cons_zero, List.getElem?_cons_succ]
            try rfl
          iterate 8 (refine wpPlan_take (v := ?_) (by rfl) (fun w' hS => ?_) ?_; rotate_left; (focus (go_simp; with_reducible rfl)); simp only [Act.put, List.setIfInBounds_toArray, List.set_cons_zero, List.set_cons_succ])
          refine wpPlan_take (v := .bool false) (by rfl) (fun w' hS => ?_) ?_
          · have hxy := HXY.out
            subst hxy
            go_simp
            done
          simp only [Act.put, List.setIfInBounds_toArray, List.set_cons_zero, List.set_cons_succ]
          refine wpPlan_nil ?_
          go_wp2
          go_roundg (n - (k + 1))
          case measure => omega
          case rel => exact ⟨k + 1, by omega, rfl, by go_num, fun i hi => by rcases (by omega : i < k ∨ i = k) with h | h; exact HE.out i h; rw [h, HX.out, HY.out]; exact HXY.out, HW.out, HB.out.drew⟩
        · have HXY := Lib.hid hxy
          clear hxy
          go_wp2
          refine wp_region_planO (fun W => W.heap = w.heap) [(true, 0), (true, 1), (true, 2), (true, 3), (true, 4), (true, 5), (true, 6), (true, 7), (true, 8)] ?planL2 (by kernel_rfl) (by kernel_rfl) (by kernel_rfl) ?planH2 (by intro c a d v w; cases d <;> exact fun h => h) HW.out ?_
          case planH2 =>
            simp only [planOps, List.map_cons, List.map_nil, List.getElem?_toArray, List.getElem?_cons_zero, List.getElem?_cons_succ]
            try rfl
          iterate 8 (refine wpPlan_take (v := ?_) (by rfl) (fun w' hS => ?_) ?_; rotate_left; (focus (go_simp; with_reducible rfl)); simp only [Act.put, List.setIfInBounds_toArray, List.set_cons_zero, List.set_cons_succ])
          refine wpPlan_take (v := .bool true) (by rfl) (fun w' hS => ?_) ?_
          · go_simp
            have hxy := HXY.out
            simp only [RelV.ext_iff] at hxy
            by_cases e0 : x.sink = y.sink <;> by_cases e1 : x.epoch = y.epoch <;> by_cases e2 : x.value = y.value <;> by_cases e3 : x.hidden = y.hidden <;> simp_all
          simp only [Act.put, List.setIfInBounds_toArray, List.set_cons_zero, List.set_cons_succ]
          refine wpPlan_nil ?_
          go_wp2
          go_ret
          have hd : decide (l1 = l2) = false := by
            rw [decide_eq_false_iff_not]
            intro h
            obtain ⟨_, _, e3, e4⟩ := HN.out
            exact HXY.out (by rw [← HX.out, ← HY.out, e3, e4, h])
          rw [hd]
          exact ⟨rfl, HB.out.drew⟩
      · obtain rfl : k = n := by omega
        go_wp2
        go_ret
        have hd : decide (l1 = l2) = true := by
          rw [decide_eq_true_iff]
          obtain ⟨e1, e2, e3, e4⟩ := HN.out
          apply List.ext_getElem (by omega)
          intro i h1 h2
          have := HE.out i (by omega)
          rw [e3, e4] at this
          simpa [List.getD_eq_getElem?_getD, h1, h2] using this
        rw [hd]
        exact ⟨rfl, HB.out⟩
  · have hz : ((l1.length : Int) != l2.length) = true := by simp; omega
    have hd : decide (l1 = l2) = false := by
      rw [decide_eq_false_iff_not]
      intro h
      exact hne (by rw [h])
    rw [hd]
    clear hd hne h14 h24 h13 h23
    go_enter Tryz.func23, Tryz.ntmps23
    go_wp2
    go_ret
    exact ⟨rfl, Below.refl _ _⟩

structure PipeV where
  ops : Value
  ol : List OpV
  size : Int
  slide : Int
  agg : Int
  sink : Int
  feed : Int
def PipeV.cs (a : PipeV) : List Value := [a.ops, .int .i64 a.size, .int .i64 a.slide, .int .i64 a.agg, .int .i64 a.sink, .int .i64 a.feed]
def PipeV.val (a : PipeV) : Value := .agg #[a.ops, .int .i64 a.size, .int .i64 a.slide, .int .i64 a.agg, .int .i64 a.sink, .int .i64 a.feed]
def PipeV.ok (w : World) (a : PipeV) : Prop := IsR OpV.cs 2 w a.ops a.ol
theorem PipeV.ok.kept {w w' : World} {a : PipeV} (h : a.ok w) (hb : Below w.heap.size w w') : a.ok w' := IsR.kept h hb

structure ActV where
  kind : Int
  tenant : Int
  frm : Int
  n : Int
  pipe : PipeV
  mark : Bool
  time : Int
  key : Int
  value : Int
  label : Int
def ActV.cs (a : ActV) : List Value := [.int .i64 a.kind, .int .i64 a.tenant, .int .i64 a.frm, .int .i64 a.n, a.pipe.ops, .int .i64 a.pipe.size, .int .i64 a.pipe.slide, .int .i64 a.pipe.agg, .int .i64 a.pipe.sink, .int .i64 a.pipe.feed, .bool a.mark, .int .i64 a.time, .int .i64 a.key, .int .i64 a.value, .int .u64 a.label]
def ActV.val (a : ActV) : Value := .agg #[.int .i64 a.kind, .int .i64 a.tenant, .int .i64 a.frm, .int .i64 a.n, a.pipe.ops, .int .i64 a.pipe.size, .int .i64 a.pipe.slide, .int .i64 a.pipe.agg, .int .i64 a.pipe.sink, .int .i64 a.pipe.feed, .bool a.mark, .int .i64 a.time, .int .i64 a.key, .int .i64 a.value, .int .u64 a.label]
def ActV.ok (w : World) (a : ActV) : Prop := a.pipe.ok w
theorem ActV.ok.kept {w w' : World} {a : ActV} (h : a.ok w) (hb : Below w.heap.size w w') : a.ok w' := PipeV.ok.kept h hb
def cellsA (l : List ActV) : List Value := l.flatMap ActV.cs
theorem cellsA_length (l : List ActV) : (cellsA l).length = l.length * 15 := by
  induction l with
  | nil => rfl
  | cons a l ih =>
    have : cellsA (a :: l) = a.cs ++ cellsA l := rfl
    rw [this, List.length_append, ih]
    simp [ActV.cs]
    omega
theorem row_cells2 (w : World) (x : Obj) (xs : Array Value) (e : TypeId) : ∀ j u, xs.toList[j]? = some u → ((w.alloc x).alloc (.cells xs e)).cell? ((⟨w.heap.size + 1, 0, none⟩ : Addr).add j) = some u := by
  intro j u hu
  have h := row_cells (w.alloc x) xs e j u hu
  rw [show (w.alloc x).heap.size = w.heap.size + 1 by simp] at h
  exact h
theorem cellsA_snoc (l : List ActV) (x : ActV) : cellsA (l ++ [x]) = cellsA l ++ x.cs := by simp [cellsA]
theorem info31 : (Tryz.prog.info? 43).map (fun i => (i.zero, i.size, i.bytes)) = some (some (.agg #[.int .i64 0, .int .i64 0, .int .i64 0, .int .i64 0, .slice none 0 0, .int .i64 0, .int .i64 0, .int .i64 0, .int .i64 0, .int .i64 0, .bool false, .int .i64 0, .int .i64 0, .int .i64 0, .int .u64 0]), 15, 136) := by kernel_rfl
theorem IsR.of_ownA {w : World} {base : Nat} {v : Value} {l : List ActV} (h : w.ownsRow base 43 15 v l.length (cellsA l)) : IsR ActV.cs 15 w v l := by
  rcases Nat.eq_zero_or_pos l.length with h0 | h0
  · obtain rfl : l = [] := List.eq_nil_of_length_eq_zero h0
    rcases h.2 with ⟨hv, _⟩ | ⟨g, cap, cur, hv, _, _, _, hcm, _⟩
    · rw [hv]; exact IsR.nil _ _ w
    · rw [hv]; exact ⟨_, cap, rfl, by simp, hcm, 0, 0, fun h => absurd h (by simp), fun i x hi => absurd hi (by simp)⟩
  · obtain ⟨g, cap, hv, _, hg, h1, h2, hc⟩ := own_form h h0
    rw [hv]
    refine ⟨_, cap, rfl, h1, h2, g, 0, fun _ => ⟨rfl, hg⟩, fun i x hi j u hj => ?_⟩
    rw [Nat.zero_add]
    refine hc _ _ ?_
    clear hc h h0 hv h1
    unfold cellsA
    induction l generalizing i with
    | nil => simp at hi
    | cons a l ih =>
      have hl : a.cs.length = 15 := rfl
      rw [List.flatMap_cons]
      cases i with
      | zero =>
        obtain rfl : a = x := by simpa using hi
        rw [List.getElem?_append_left (by have := (List.getElem?_eq_some_iff.1 hj).1; omega), Nat.zero_mul, Nat.zero_add]
        exact hj
      | succ i =>
        rw [List.getElem?_append_right (by omega), hl, show (i + 1) * 15 + j - 15 = i * 15 + j by omega]
        exact ih i (by simpa using hi)
structure AnsV where
  err : Int
  rows : Value
  rl : List RowV
  told : Value
  tl : List RelV
def AnsV.cs (a : AnsV) : List Value := [.int .i64 a.err, a.rows, a.told]
def AnsV.val (a : AnsV) : Value := .agg #[.int .i64 a.err, a.rows, a.told]
def AnsV.same (a b : AnsV) : Prop := a.err = b.err ∧ a.rl = b.rl ∧ a.tl = b.tl
instance (a b : AnsV) : Decidable (a.same b) := by unfold AnsV.same; infer_instance
structure AnsV.ok (w : World) (a : AnsV) : Prop where
  r : IsR RowV.cs 5 w a.rows a.rl
  t : IsR RelV.cs 4 w a.told a.tl
theorem AnsV.ok.kept {w w' : World} {a : AnsV} (h : a.ok w) (hb : Below w.heap.size w w') : a.ok w' := ⟨IsR.kept h.r hb, IsR.kept h.t hb⟩

set_option maxHeartbeats 2000000 in
theorem ansK_any (a b : AnsV) (w : World) (h1 : a.ok w) (h2 : b.ok w) :
    Calls Tryz.prog 17 #[a.val, b.val] w fun e w' => e = .returned (.bool (decide (a.same b))) ∧ Below w.heap.size w w' := by
  have HW := Lib.hid (fun (x y : Obj) => (((Below.refl _ w).alloc (Nat.le_refl _) x).alloc (by simp) y : Below w.heap.size w ((w.alloc x).alloc y)))
  have HA := Lib.hid (fun (W : World) (hb : Below w.heap.size w W) => h1.kept hb)
  have HB := Lib.hid (fun (W : World) (hb : Below w.heap.size w W) => h2.kept hb)
  clear h1 h2
  obtain ⟨s1, p1, l1, q1, m1⟩ := a
  obtain ⟨s2, p2, l2, q2, m2⟩ := b
  simp only [AnsV.val, AnsV.same] at HA HB ⊢
  have hcase : (¬ (s1 = s2)) ∨ (s1 = s2 ∧ ¬ (l1 = l2)) ∨ (s1 = s2 ∧ l1 = l2 ∧ ¬ (m1 = m2)) ∨ (s1 = s2 ∧ l1 = l2 ∧ m1 = m2) := by
    by_cases e0 : s1 = s2 <;> by_cases e1 : l1 = l2 <;> by_cases e2 : m1 = m2 <;> simp [e0, e1, e2]
  rcases hcase with e0 | ⟨e0, e1⟩ | ⟨e0, e1, e2⟩ | ⟨e0, e1, e2⟩
  · have hr : decide (s1 = s2 ∧ l1 = l2 ∧ m1 = m2) = false := by simp [e0]
    rw [hr]
    clear hr
    have z0 : (s1 == s2) = false := by simp [e0]
    have HE0 := Lib.hid e0
    clear e0
    go_enter Tryz.func17, Tryz.ntmps17
    go_wp2
    go_ret
    exact ⟨rfl, HW.out _ _⟩
  · have hr : decide (s1 = s2 ∧ l1 = l2 ∧ m1 = m2) = false := by simp [e0, e1]
    rw [hr]
    clear hr
    have z0 : (s1 == s2) = true := by simp [e0]
    have HE0 := Lib.hid e0
    clear e0
    have HE1 := Lib.hid e1
    clear e1
    go_enter Tryz.func17, Tryz.ntmps17
    go_wp2_with (go_at_call 18; (with_reducible refine (sameR _ _ l1 l2 _ (HA.out _ (HW.out _ _)).r (HB.out _ (HW.out _ _)).r).mono ?_); rintro e w1 ⟨rfl, hb⟩; (rw [decide_eq_false HE1.out]); have hc := (bcell hb).1; have HB1 := Lib.hid (below_step (HW.out _ _) hb); clear hb)
    go_ret
    exact ⟨rfl, HB1.out⟩
  · have hr : decide (s1 = s2 ∧ l1 = l2 ∧ m1 = m2) = false := by simp [e0, e1, e2]
    rw [hr]
    clear hr
    have z0 : (s1 == s2) = true := by simp [e0]
    have HE0 := Lib.hid e0
    clear e0
    have HE1 := Lib.hid e1
    clear e1
    have HE2 := Lib.hid e2
    clear e2
    go_enter Tryz.func17, Tryz.ntmps17
    go_wp2_with (first
      | (go_at_call 18; (with_reducible refine (sameR _ _ l1 l2 _ (HA.out _ (HW.out _ _)).r (HB.out _ (HW.out _ _)).r).mono ?_); rintro e w1 ⟨rfl, hb⟩; (rw [decide_eq_true HE1.out]); have hc := (bcell hb).1; have HB1 := Lib.hid (below_step (HW.out _ _) hb); clear hb)
      | (go_at_call 23; (with_reducible refine (sameL _ _ m1 m2 _ (HA.out _ HB1.out).t (HB.out _ HB1.out).t).mono ?_); rintro e w2 ⟨rfl, hb⟩; (rw [decide_eq_false HE2.out]); have HB2 := Lib.hid (below_step HB1.out hb); clear hb))
    go_ret
    exact ⟨rfl, HB2.out⟩
  · have hr : decide (s1 = s2 ∧ l1 = l2 ∧ m1 = m2) = true := by simp [e0, e1, e2]
    rw [hr]
    clear hr
    have z0 : (s1 == s2) = true := by simp [e0]
    have HE0 := Lib.hid e0
    clear e0
    have HE1 := Lib.hid e1
    clear e1
    have HE2 := Lib.hid e2
    clear e2
    go_enter Tryz.func17, Tryz.ntmps17
    go_wp2_with (first
      | (go_at_call 18; (with_reducible refine (sameR _ _ l1 l2 _ (HA.out _ (HW.out _ _)).r (HB.out _ (HW.out _ _)).r).mono ?_); rintro e w1 ⟨rfl, hb⟩; (rw [decide_eq_true HE1.out]); have hc := (bcell hb).1; have HB1 := Lib.hid (below_step (HW.out _ _) hb); clear hb)
      | (go_at_call 23; (with_reducible refine (sameL _ _ m1 m2 _ (HA.out _ HB1.out).t (HB.out _ HB1.out).t).mono ?_); rintro e w2 ⟨rfl, hb⟩; (rw [decide_eq_true HE2.out]); have HB2 := Lib.hid (below_step HB1.out hb); clear hb))
    go_ret
    exact ⟨rfl, HB2.out⟩


theorem cellsA_get {l : List ActV} {i j : Nat} {x : ActV} {u : Value} (hi : l[i]? = some x) (hj : x.cs[j]? = some u) : (cellsA l)[i * 15 + j]? = some u := by
  unfold cellsA
  induction l generalizing i with
  | nil => simp at hi
  | cons a l ih =>
    have hl : a.cs.length = 15 := rfl
    rw [List.flatMap_cons]
    cases i with
    | zero =>
      obtain rfl : a = x := by simpa using hi
      rw [List.getElem?_append_left (by have := (List.getElem?_eq_some_iff.1 hj).1; omega), Nat.zero_mul, Nat.zero_add]
      exact hj
    | succ i =>
      rw [List.getElem?_append_right (by omega), hl, show (i + 1) * 15 + j - 15 = i * 15 + j by omega]
      exact ih (by simpa using hi)
theorem IsR.of_row (w : World) (l : List ActV) (xs : Array Value) (e : TypeId) (hx : xs.toList = cellsA l) (hl : l.length ≤ maxLen) : IsR ActV.cs 15 (w.alloc (.cells xs e)) (.slice (some ⟨w.heap.size, 0, none⟩) l.length l.length) l := by
  refine ⟨_, _, rfl, Nat.le_refl _, hl, w.heap.size, 0, fun _ => ⟨rfl, by simp⟩, fun i x hi j u hj => ?_⟩
  have h := row_cells w xs e (i * 15 + j) u (by rw [hx]; exact cellsA_get hi hj)
  have hadd : (⟨w.heap.size, 0, none⟩ : Addr).add (i * 15 + j) = ⟨w.heap.size, i * 15 + j, none⟩ := by unfold Addr.add; split <;> simp_all
  rwa [hadd, ← Nat.zero_add (i * 15 + j), ← Nat.add_assoc] at h
theorem load31 (W : World) (ρ : Operand → Value) (d : Option Tmp) (x : Operand) {t : TypeId} {ps : String} {af : Array Edge} {g : Option (Nat × Bool)} (b o : Nat) (a : ActV) (hx : ρ x = .pointer (some ⟨b, o, none⟩))
    (h : ∀ j u, a.cs[j]? = some u → W.cell? ⟨b, o + j, none⟩ = some u) : (execOp ρ { dst := d, op := .load 43 x, type := t, pos := ps, after := af, guard := g }).run Tryz.prog W = .ok (.value a.val) W := by
  obtain ⟨k1, t1, f1, n1, ⟨p1, ol1, s1, d1, g1, sk1, fd1⟩, m1, i1, y1, v1, u1⟩ := a
  have c0 := h 0 _ rfl
  have c1 := h 1 _ rfl
  have c2 := h 2 _ rfl
  have c3 := h 3 _ rfl
  have c4 := h 4 _ rfl
  have c5 := h 5 _ rfl
  have c6 := h 6 _ rfl
  have c7 := h 7 _ rfl
  have c8 := h 8 _ rfl
  have c9 := h 9 _ rfl
  have c10 := h 10 _ rfl
  have c11 := h 11 _ rfl
  have c12 := h 12 _ rfl
  have c13 := h 13 _ rfl
  have c14 := h 14 _ rfl
  simp only [Nat.add_zero] at c0 c1 c2 c3 c4 c5 c6 c7 c8 c9 c10 c11 c12 c13 c14
  clear h
  go_simp
  rfl
theorem cell_old (w : World) (o : Obj) (b j : Nat) (h : b < w.heap.size) : (w.alloc o).cell? ⟨b, j, none⟩ = w.cell? ⟨b, j, none⟩ := World.cell?_of_block (Below.heap_alloc w o b h)
theorem cell_new (w : World) (xs : Array Value) (e : TypeId) (b j : Nat) (u : Value) (hb : b = w.heap.size) (h : xs[j]? = some u) : (w.alloc (.cells xs e)).cell? ⟨b, j, none⟩ = some u := by
  subst hb
  simp only [World.cell?]
  rw [heap_alloc_new]
  simpa using h
theorem IsR.of_row' (w : World) (l : List ActV) (xs : Array Value) (e : TypeId) (n m : Nat) (hn : n = w.heap.size) (hm : m = l.length) (hx : xs.toList = cellsA l) (hl : l.length ≤ maxLen) : IsR ActV.cs 15 (w.alloc (.cells xs e)) (.slice (some ⟨n, 0, none⟩) m m) l := by
  subst hn hm
  exact IsR.of_row w l xs e hx hl
theorem IsR.of_rowO (w : World) (l : List ActV) (xs : Array Value) (e : TypeId) (n m : Nat) (o : Obj) (hn : n = w.heap.size) (hm : m = l.length) (hx : xs.toList = cellsA l) (hl : l.length ≤ maxLen) : IsR ActV.cs 15 ((w.alloc (.cells xs e)).alloc o) (.slice (some ⟨n, 0, none⟩) m m) l :=
  (IsR.of_row' w l xs e n m hn hm hx hl).kept ((Below.refl _ _).alloc (Nat.le_refl _) _)

/-- block b holds the cells xs, and none is frozen -/
structure At (w : World) (b : Nat) (xs : List Value) : Prop where
  c : ∀ j u, xs[j]? = some u → w.cell? ⟨b, j, none⟩ = some u
  f : ∀ j, w.frozen? ⟨b, j, none⟩ = false
  lt : b < w.heap.size
theorem At.of_block {w w' : World} {b : Nat} {xs : List Value} (h : At w b xs) (he : w'.heap[b]? = w.heap[b]?) : At w' b xs := by
  refine ⟨fun j u hj => (World.cell?_of_block he).trans (h.c j u hj), fun j => (World.frozen?_of_block he).trans (h.f j), ?_⟩
  have h1 : b < w.heap.size := h.lt
  rcases Nat.lt_or_ge b w'.heap.size with h2 | h2
  · exact h2
  · rw [Array.getElem?_eq_none h2, Array.getElem?_eq_getElem h1] at he
    cases he
theorem At.alloc {w : World} {b : Nat} {xs : List Value} (h : At w b xs) (x : Obj) : At (w.alloc x) b xs := h.of_block (Below.heap_alloc w x b h.lt)
theorem At.below {w w' : World} {b : Nat} {xs : List Value} (h : At w b xs) (hb : Below w.heap.size w w') : At w' b xs := h.of_block (hb.block b h.lt)
theorem At.belowB {B : Nat} {w w' : World} {b : Nat} {xs : List Value} (h : At w b xs) (hb : Below B w w') (hl : b < B) : At w' b xs := h.of_block (hb.block b hl)
theorem At.grown {w w' : World} {b : Nat} {xs : List Value} {r : Option Nat} (h : At w b xs) (hg : w.grownBy w' r) (hr : ∀ k, r = some k → k ≠ b) : At w' b xs := h.of_block (hg.block b h.lt fun e => hr b e.symm rfl)
theorem At.other {w : World} {b : Nat} {xs : List Value} (h : At w b xs) (a : Addr) (v : Value) (hne : b ≠ a.block) : At (w.setCell a v) b xs := h.of_block (Below.heap_setCell w a v b hne)
theorem At.drew {w : World} {b : Nat} {xs : List Value} (h : At w b xs) : At w.drew b xs := h.of_block rfl
theorem At.set {w : World} {b : Nat} {xs : List Value} (h : At w b xs) (j : Nat) (v : Value) (hj : j < xs.length) : At (w.setCell ⟨b, j, none⟩ v) b (xs.set j v) := by
  have hc := h.c j xs[j] (by simp [hj])
  refine ⟨fun k u hk => ?_, fun k => ?_, by simpa [World.setCell] using h.lt⟩
  · rw [cell_set w b j k v _ hc]
    rw [List.getElem?_set] at hk
    by_cases e : k = j
    · subst e
      simpa [hj] using hk
    · rw [if_neg (fun q => e q.symm)] at hk
      rw [if_neg e]
      exact h.c k u hk
  · rw [frozen_set]
    exact h.f k
theorem At.new (w : World) (xs : Array Value) (e : TypeId) : At (w.alloc (.cells xs e)) w.heap.size xs.toList := by
  refine ⟨fun j u hj => cell_new w xs e _ j u rfl (by simpa using hj), fun j => ?_, by simp⟩
  simp [go_sem]
/-- a list of structs, out of a row of the call's own -/
theorem flat_get {α : Type} {cs : α → List Value} {k : Nat} (hk : ∀ x, (cs x).length = k) {l : List α} {i j : Nat} {x : α} {u : Value} (hi : l[i]? = some x) (hj : (cs x)[j]? = some u) : (l.flatMap cs)[i * k + j]? = some u := by
  induction l generalizing i with
  | nil => simp at hi
  | cons a l ih =>
    rw [List.flatMap_cons]
    cases i with
    | zero =>
      obtain rfl : a = x := by simpa using hi
      rw [List.getElem?_append_left (by have := (List.getElem?_eq_some_iff.1 hj).1; omega), Nat.zero_mul, Nat.zero_add]
      exact hj
    | succ i =>
      rw [List.getElem?_append_right (by rw [hk]; rw [Nat.succ_mul]; omega), hk, show (i + 1) * k + j - k = i * k + j by rw [Nat.succ_mul]; omega]
      exact ih (by simpa using hi)
theorem flat_len {α : Type} {cs : α → List Value} {k : Nat} (hk : ∀ x, (cs x).length = k) (l : List α) : (l.flatMap cs).length = l.length * k := by
  induction l with
  | nil => simp
  | cons a l ih => rw [List.flatMap_cons, List.length_append, ih, hk, List.length_cons, Nat.succ_mul]; omega
theorem IsR.of_own {α : Type} {cs : α → List Value} {k : Nat} (hk : ∀ x, (cs x).length = k) {w : World} {base : Nat} {e : TypeId} {v : Value} {l : List α} (h : w.ownsRow base e k v l.length (l.flatMap cs)) : IsR cs k w v l := by
  rcases Nat.eq_zero_or_pos l.length with h0 | h0
  · obtain rfl : l = [] := List.eq_nil_of_length_eq_zero h0
    rcases h.2 with ⟨hv, _⟩ | ⟨g, cap, cur, hv, _, _, _, hcm, _⟩
    · rw [hv]; exact IsR.nil _ _ w
    · rw [hv]; exact ⟨_, cap, rfl, by simp, hcm, 0, 0, fun h => absurd h (by simp), fun i x hi => absurd hi (by simp)⟩
  · obtain ⟨g, cap, hv, _, hg, h1, h2, hc⟩ := own_form h h0
    rw [hv]
    refine ⟨_, cap, rfl, h1, h2, g, 0, fun _ => ⟨rfl, hg⟩, fun i x hi j u hj => ?_⟩
    rw [Nat.zero_add]
    exact hc _ _ (flat_get hk hi hj)

def within (n lo hi : Int) : Int := lo + (if n.tmod (hi - lo + 1) < 0 then n.tmod (hi - lo + 1) + hi - lo + 1 else n.tmod (hi - lo + 1))
theorem tmod_bd (n d : Int) (hp : 0 < d) : -d < n.tmod d ∧ n.tmod d < d := by
  refine ⟨?_, Int.tmod_lt_of_pos _ hp⟩
  have := Int.tmod_lt_of_pos (-n) hp
  rw [Int.neg_tmod] at this
  omega
theorem within_bd (n lo hi : Int) (h : lo ≤ hi) : lo ≤ within n lo hi ∧ within n lo hi ≤ hi := by
  have hb := tmod_bd n (hi - lo + 1) (by omega)
  unfold within
  split <;> omega
set_option maxHeartbeats 400000 in
theorem within_any (n lo hi : Int) (w : World) (h0 : -1000000000000000 ≤ lo) (h1 : lo ≤ hi) (h2 : hi ≤ 2000000000000000) :
    Calls Tryz.prog 16 #[.int .i64 n, .int .i64 lo, .int .i64 hi] w fun e w' => e = .returned (.int .i64 (within n lo hi)) ∧ w' = w := by
  obtain ⟨hb1, hb2⟩ := tmod_bd n (hi - lo + 1) (by omega)
  have hne : ((hi - lo + 1) == 0) = false := by simp; omega
  by_cases hn : n.tmod (hi - lo + 1) < 0
  · have hw1 : within n lo hi = lo + (n.tmod (hi - lo + 1) + hi - lo + 1) := by unfold within; rw [if_pos hn]
    rw [hw1]
    clear hw1
    go_enter Tryz.func16, Tryz.ntmps16
    go_wp2
    go_ret
    exact ⟨rfl, rfl⟩
  · have hw1 : within n lo hi = lo + n.tmod (hi - lo + 1) := by unfold within; rw [if_neg hn]
    rw [hw1]
    clear hw1
    go_enter Tryz.func16, Tryz.ntmps16
    go_wp2
    go_ret
    exact ⟨rfl, rfl⟩
def pickV (l : List Int) (i : Nat) : Int := l.getD (i % l.length) 0
set_option maxHeartbeats 400000 in
theorem pick_any (v : Value) (l : List Int) (i : Nat) (w : World) (h : IsL w v l) (hi : i ≤ 1000000) :
    Calls Tryz.prog 40 #[v, .int .i64 i] w fun e w' => e = .returned (.int .i64 (pickV l i)) ∧ w' = w := by
  obtain ⟨a, c, rfl, h1, h2, b, o, h3, h4⟩ := h
  unfold maxLen at h2
  rcases Nat.eq_zero_or_pos l.length with h0 | h0
  · have hp : pickV l i = 0 := by
      obtain rfl : l = [] := List.eq_nil_of_length_eq_zero h0
      simp [pickV]
    rw [hp, h0]
    clear hp h4 h3
    go_enter Tryz.func40, Tryz.ntmps40
    go_wp2
    go_ret
    exact ⟨rfl, rfl⟩
  · obtain ⟨rfl, hb⟩ := h3 h0
    obtain ⟨n, hn⟩ : ∃ n, n = l.length := ⟨_, rfl⟩
    obtain ⟨k, hk⟩ : ∃ k, k = i % n := ⟨_, rfl⟩
    have hkn : k < n := by rw [hk]; exact Nat.mod_lt _ (by omega)
    have hc := h4 k (by omega)
    have hp : pickV l i = l.getD k 0 := by rw [hk, hn]; rfl
    have ht : Int.tmod (i : Int) (n : Int) = (k : Int) := by rw [hk]; rfl
    have hz : ((n : Int) == 0) = false := by simp; omega
    rw [hp]
    rw [← hn] at h1 h2 ⊢
    generalize l.getD k 0 = x at hc ⊢
    clear hp hk h4 h3 h0 hn
    go_enter Tryz.func40, Tryz.ntmps40
    go_wp2
    go_ret
    exact ⟨rfl, rfl⟩

theorem IsR.of_fun {α : Type} [Inhabited α] (cs : α → List Value) (k : Nat) (w : World) (a : Option Addr) (len cap b o : Nat) (h1 : len ≤ cap) (h2 : cap ≤ maxLen) (hd : 0 < len → a = some ⟨b, o, none⟩ ∧ b < w.heap.size)
    (h : ∀ i, i < len → ∃ x : α, ∀ j u, (cs x)[j]? = some u → w.cell? ⟨b, o + (i * k + j), none⟩ = some u) : ∃ l : List α, l.length = len ∧ IsR cs k w (.slice a len cap) l := by
  obtain ⟨f, hf⟩ := Go.Deep.choose_lt h
  refine ⟨(List.range len).map f, by simp, a, cap, by simp, by simpa using h1, h2, b, o, by simpa using hd, fun i x hi j u hj => ?_⟩
  have hlt : i < len := by have := (List.getElem?_eq_some_iff.1 hi).1; simpa using this
  obtain rfl : f i = x := by simpa [hlt] using hi
  rw [Nat.add_assoc]
  exact hf i hlt j u hj
theorem IsR.take {α : Type} {cs : α → List Value} {k : Nat} {w : World} {a : Option Addr} {len cap m : Nat} {l : List α} (h : IsR cs k w (.slice a len cap) l) (hm : m ≤ len) : IsR cs k w (.slice a m cap) (l.take m) := by
  obtain ⟨a', c', hv, h1, h2, b, o, hd, hc⟩ := h
  simp only [Value.slice.injEq] at hv
  obtain ⟨rfl, rfl, rfl⟩ := hv
  have hl : (l.take m).length = m := by simp; omega
  refine ⟨a, cap, by rw [hl], by omega, h2, b, o, fun hp => hd (by omega), fun i x hi j u hj => hc i x ?_ j u hj⟩
  rw [List.getElem?_take] at hi
  split at hi
  · exact hi
  · simp at hi
theorem addr0 (a : Option Addr) : a.map (fun x => x.add 0) = a := by cases a <;> simp [Addr.add]
theorem load41 (W : World) (ρ : Operand → Value) (d : Option Tmp) (x : Operand) {t : TypeId} {ps : String} {af : Array Edge} {g : Option (Nat × Bool)} (b o : Nat) (a : AnsV) (hx : ρ x = .pointer (some ⟨b, o, none⟩))
    (h : ∀ j u, a.cs[j]? = some u → W.cell? ⟨b, o + j, none⟩ = some u) : (execOp ρ { dst := d, op := .load 61 x, type := t, pos := ps, after := af, guard := g }).run Tryz.prog W = .ok (.value a.val) W := by
  obtain ⟨e1, v1, l1, v2, l2⟩ := a
  have c0 := h 0 _ rfl
  have c1 := h 1 _ rfl
  have c2 := h 2 _ rfl
  simp only [Nat.add_zero] at c0 c1 c2
  clear h
  go_simp
  rfl
/-- the same region, its world forgotten but for what Φ tells -/
theorem wp_region_plB {P : Program} {ops : Array Oper} {Q : Exit → Act → World → Prop} {id : Nat} {a : Act} {w : World} (Φ : World → Prop) (hΦ : Φ w) (p : Pl) (l : PlO) (hm : P.follows .mixedOrders = true) (hs : Region.noSelect ops = true)
    (hp : (okM ops 0 p && p.even && p.steps == ops.size) = true) (hl : p.with ops = l) (hQ : ∀ c a d v w, Q (.panic c) (Act.put a d v) w → Q (.panic c) a w)
    (h : ∀ w0, Φ w0 → wpPl P ops Q (fun x => Below w0.heap.size w0 x) l a w0.drew) : (Code.region id ops true).wp P Q a w :=
  wp_region_pl _ p l hm hs hp hl hQ (Below.refl _ w).drew (h w hΦ)
theorem same_comm (X Y : AnsV) : decide (X.same Y) = decide (Y.same X) := by
  unfold AnsV.same
  exact decide_eq_decide.2 ⟨fun h => ⟨h.1.symm, h.2.1.symm, h.2.2.symm⟩, fun h => ⟨h.1.symm, h.2.1.symm, h.2.2.symm⟩⟩


end Go.Proofs.YtcanfmabkklidaaGreat
set_option linter.unusedSimpArgs false
set_option linter.unusedVariables false
set_option linter.unnecessarySimpa false
namespace Go.Proofs.YtcanfmabkklidaaGreat
open Go.RowKit

structure OpBd (o : OpV) : Prop where
  k1 : 1 ≤ o.kind
  k2 : o.kind ≤ 6
  n1 : -5 ≤ o.n
  n2 : o.n ≤ 9
  key : o.kind = 3 → 1 ≤ o.n ∧ o.n ≤ 4
  only : o.kind = 6 → 0 ≤ o.n ∧ o.n ≤ 2
structure PipeBd (p : PipeV) : Prop where
  slide1 : 1 ≤ p.slide
  slide2 : p.slide ≤ 12
  size1 : p.slide ≤ p.size
  size2 : p.size ≤ 4 * p.slide
  agg1 : 1 ≤ p.agg
  agg2 : p.agg ≤ 4
  sink1 : -1 ≤ p.sink
  sink2 : p.sink ≤ 1
  feed1 : -1 ≤ p.feed
  feed2 : p.feed ≤ 1
  len : p.ol.length ≤ 4
  ops : ∀ o ∈ p.ol, OpBd o
theorem opcs_len (x : OpV) : x.cs.length = 2 := rfl
theorem info76 : (Tryz.prog.info? 128).map (fun i => (i.zero, i.size, i.bytes)) = some (some (.agg #[.int .i64 0, .int .i64 0]), 2, 16) := by kernel_rfl
theorem ownsRow_base {w : World} {base b' : Nat} {e : TypeId} {size : Nat} {v : Value} {n : Nat} {xs : List Value} (h : w.ownsRow base e size v n xs) (hb : b' ≤ base) : w.ownsRow b' e size v n xs := by
  refine ⟨h.1, ?_⟩
  rcases h.2 with h | ⟨g, cap, cur, h1, h2, h3⟩
  · exact .inl h
  · exact .inr ⟨g, cap, cur, h1, by omega, h3⟩
theorem rows_apart {w : World} {b1 b2 : Nat} {e1 e2 : TypeId} {s1 s2 : Nat} {v1 v2 : Value} {n1 n2 : Nat} {xs1 xs2 : List Value} (h1 : w.ownsRow b1 e1 s1 v1 n1 xs1) (h2 : w.ownsRow b2 e2 s2 v2 n2 xs2) (he : e1 ≠ e2) : v1.ownBlock = none ∨ v1.ownBlock ≠ v2.ownBlock := by
  rcases h1.2 with ⟨rfl, _⟩ | ⟨g, cap, cur, rfl, _, hg, _⟩
  · exact .inl rfl
  · rcases h2.2 with ⟨rfl, _⟩ | ⟨g2, cap2, cur2, rfl, _, hg2, _⟩
    · exact .inr (by simp [Value.ownBlock])
    · refine .inr fun h => ?_
      simp only [Value.ownBlock, Option.some.injEq] at h
      subst h
      rw [hg] at hg2
      simp only [Option.some.injEq, Obj.cells.injEq] at hg2
      exact he hg2.2.1
theorem At.set6 (w : World) (b : Nat) (x0 x1 x2 x3 x4 x5 : Value) (h : At w b [x0, x1, x2, x3, x4, x5]) (y0 y1 y2 y3 y4 y5 : Value) :
    At ((((((w.setCell ⟨b, 0, none⟩ y0).setCell ⟨b, 1, none⟩ y1).setCell ⟨b, 2, none⟩ y2).setCell ⟨b, 3, none⟩ y3).setCell ⟨b, 4, none⟩ y4).setCell ⟨b, 5, none⟩ y5) b [y0, y1, y2, y3, y4, y5] := by
  have h0 : At _ b [y0, x1, x2, x3, x4, x5] := h.set 0 y0 (by simp)
  have h1 : At _ b [y0, y1, x2, x3, x4, x5] := h0.set 1 y1 (by simp)
  have h2 : At _ b [y0, y1, y2, x3, x4, x5] := h1.set 2 y2 (by simp)
  have h3 : At _ b [y0, y1, y2, y3, x4, x5] := h2.set 3 y3 (by simp)
  have h4 : At _ b [y0, y1, y2, y3, y4, x5] := h3.set 4 y4 (by simp)
  exact h4.set 5 y5 (by simp)
theorem res23 (w : World) (b : Nat) (v : Value) (Z S G I F : Int) (tmps : Array Value) (ht : tmps[2]?.getD undef = .pointer (some ⟨b, 0, none⟩)) (h : At w b [v, .int .i64 Z, .int .i64 S, .int .i64 G, .int .i64 I, .int .i64 F]) :
    (results Tryz.f24 tmps).run Tryz.prog w = .ok (.agg #[v, .int .i64 Z, .int .i64 S, .int .i64 G, .int .i64 I, .int .i64 F]) w := by
  have c0 := h.c 0 _ rfl
  have c1 := h.c 1 _ rfl
  have c2 := h.c 2 _ rfl
  have c3 := h.c 3 _ rfl
  have c4 := h.c 4 _ rfl
  have c5 := h.c 5 _ rfl
  simp only [results, Tryz.results24]
  simp [go_sem, ht, c0, c1, c2, c3, c4, c5]
/-- what a pipe's making leaves -/
def RetP (W : World) (e : Ending) (w' : World) : Prop := ∃ p : PipeV, e = .returned p.val ∧ w'.ownsRow W.heap.size 128 2 p.ops p.ol.length (p.ol.flatMap OpV.cs) ∧ PipeBd p ∧ Below W.heap.size W w'

set_option maxRecDepth 100000 in
set_option maxHeartbeats 8000000 in
theorem pipe_any (W : World) (vo vn : Value) (ol nl : List Int) (sz sl ag si fd : Int) (ho : IsL W vo ol) (hn : IsL W vn nl) :
    Calls Tryz.prog 24 #[.agg #[vo, vn, .int .i64 sz, .int .i64 sl, .int .i64 ag, .int .i64 si, .int .i64 fd]] W (RetP W) := by
  have HN := Lib.hid hn
  obtain ⟨ao, co, rfl, ho1, ho2, bo, oo, ho3, ho4⟩ := ho
  obtain ⟨an, cn, rfl, hn1, hn2, _⟩ := hn
  have HO3 := Lib.hid ho3
  have HO4 := Lib.hid ho4
  clear ho3 ho4
  unfold maxLen at ho2 hn2
  have bsl := within_bd sl 1 12 (by omega)
  have bag := within_bd ag 1 4 (by omega)
  have bsi := within_bd si (-1) 1 (by omega)
  have bfd := within_bd fd (-1) 1 (by omega)
  have bsz := within_bd sz (within sl 1 12) (4 * within sl 1 12) (by omega)
  obtain ⟨S, hS⟩ : ∃ S, within sl 1 12 = S := ⟨_, rfl⟩
  rw [hS] at bsl bsz
  obtain ⟨Z, hZ⟩ : ∃ Z, within sz S (4 * S) = Z := ⟨_, rfl⟩
  rw [hZ] at bsz
  have HS := Lib.hid hS
  have HZ := Lib.hid hZ
  clear hS hZ
  go_enter Tryz.func24, Tryz.ntmps24
  go_wp2_with fail
  refine wp_region_plB (fun w0 => At w0 W.heap.size [.slice ao ol.length co, .slice an nl.length cn, .int .i64 sz, .int .i64 sl, .int .i64 ag, .int .i64 si, .int .i64 fd] ∧ At w0 (W.heap.size + 1) [.slice none 0 0, .int .i64 0, .int .i64 0, .int .i64 0, .int .i64 0, .int .i64 0] ∧ Below W.heap.size W w0 ∧ w0.heap.size = W.heap.size + 2) ?ph1 (.take 0 <| .take 1 <| .take 2 <| .take 3 <| .take 4 <| .take 5 <| .take 6 <| .take 7 <| .take 8 <| .take 9 <| .take 10 <| .take 11 <| .take 12 <| .doo 13 <| .doo 14 <| .done) ?plL1 (by kernel_rfl) (by kernel_rfl) (by kernel_rfl) ?plH1 (by intro c a d v w; cases d <;> exact fun h => h) ?_
  case plH1 =>
    simp only [Pl.with, List.getElem?_toArray, List.getElem?_cons_zero, List.getElem?_cons_succ]
    try rfl
  case ph1 =>
    refine ⟨(At.new _ _ _).alloc _, ?_, ((Below.refl _ W).alloc (Nat.le_refl _) _).alloc (by simp) _, by simp⟩
    have := At.new (W.alloc (.cells [.slice ao ol.length co, .slice an nl.length cn, .int .i64 sz, .int .i64 sl, .int .i64 ag, .int .i64 si, .int .i64 fd].toArray 75)) [.slice none 0 0, .int .i64 0, .int .i64 0, .int .i64 0, .int .i64 0, .int .i64 0].toArray 36
    rwa [show (W.alloc (.cells [.slice ao ol.length co, .slice an nl.length cn, .int .i64 sz, .int .i64 sl, .int .i64 ag, .int .i64 si, .int .i64 fd].toArray 75)).heap.size = W.heap.size + 1 by simp] at this
  rintro w0 ⟨hk, hz, hb, hsz⟩
  have HK := Lib.hid hk
  have HZ0 := Lib.hid hz
  have HB := Lib.hid hb
  have HSZ := Lib.hid hsz
  clear hk hz hb hsz
  have q3 : ∀ x, Below w0.heap.size w0 x → x.cell? ⟨W.heap.size, 3, none⟩ = some (.int .i64 sl) := fun x hx => (HK.out.below hx).c 3 _ rfl
  have q4 : ∀ x, Below w0.heap.size w0 x → x.cell? ⟨W.heap.size, 4, none⟩ = some (.int .i64 ag) := fun x hx => (HK.out.below hx).c 4 _ rfl
  have q5 : ∀ x, Below w0.heap.size w0 x → x.cell? ⟨W.heap.size, 5, none⟩ = some (.int .i64 si) := fun x hx => (HK.out.below hx).c 5 _ rfl
  have q6 : ∀ x, Below w0.heap.size w0 x → x.cell? ⟨W.heap.size, 6, none⟩ = some (.int .i64 fd) := fun x hx => (HK.out.below hx).c 6 _ rfl
  iterate 2 (refine wpPl_take (v := ?_) (by rfl) (fun w' hS => ?_) ?_; rotate_left; (focus (go_simp; with_reducible rfl)); simp only [Act.put, List.setIfInBounds_toArray, List.set_cons_zero, List.set_cons_succ])
  (refine wpPl_call (v := .int .i64 (within sl 1 12)) (f := 16) (args := #[.int .i64 sl, .int .i64 1, .int .i64 12]) (by rfl) (fun w' hS => ?_) (fun w' hS => within_any _ _ _ _ (by omega) (by omega) (by omega)) ?_; (focus (go_simp; done)); simp only [Act.put, List.setIfInBounds_toArray, List.set_cons_zero, List.set_cons_succ])
  iterate 2 (refine wpPl_take (v := ?_) (by rfl) (fun w' hS => ?_) ?_; rotate_left; (focus (go_simp; with_reducible rfl)); simp only [Act.put, List.setIfInBounds_toArray, List.set_cons_zero, List.set_cons_succ])
  (refine wpPl_call (v := .int .i64 (within ag 1 4)) (f := 16) (args := #[.int .i64 ag, .int .i64 1, .int .i64 4]) (by rfl) (fun w' hS => ?_) (fun w' hS => within_any _ _ _ _ (by omega) (by omega) (by omega)) ?_; (focus (go_simp; done)); simp only [Act.put, List.setIfInBounds_toArray, List.set_cons_zero, List.set_cons_succ])
  iterate 2 (refine wpPl_take (v := ?_) (by rfl) (fun w' hS => ?_) ?_; rotate_left; (focus (go_simp; with_reducible rfl)); simp only [Act.put, List.setIfInBounds_toArray, List.set_cons_zero, List.set_cons_succ])
  (refine wpPl_call (v := .int .i64 (within si (-1) 1)) (f := 16) (args := #[.int .i64 si, .int .i64 (-1), .int .i64 1]) (by rfl) (fun w' hS => ?_) (fun w' hS => within_any _ _ _ _ (by omega) (by omega) (by omega)) ?_; (focus (go_simp; done)); simp only [Act.put, List.setIfInBounds_toArray, List.set_cons_zero, List.set_cons_succ])
  iterate 2 (refine wpPl_take (v := ?_) (by rfl) (fun w' hS => ?_) ?_; rotate_left; (focus (go_simp; with_reducible rfl)); simp only [Act.put, List.setIfInBounds_toArray, List.set_cons_zero, List.set_cons_succ])
  (refine wpPl_call (v := .int .i64 (within fd (-1) 1)) (f := 16) (args := #[.int .i64 fd, .int .i64 (-1), .int .i64 1]) (by rfl) (fun w' hS => ?_) (fun w' hS => within_any _ _ _ _ (by omega) (by omega) (by omega)) ?_; (focus (go_simp; done)); simp only [Act.put, List.setIfInBounds_toArray, List.set_cons_zero, List.set_cons_succ])
  iterate 1 (refine wpPl_take (v := ?_) (by rfl) (fun w' hS => ?_) ?_; rotate_left; (focus (go_simp; with_reducible rfl)); simp only [Act.put, List.setIfInBounds_toArray, List.set_cons_zero, List.set_cons_succ])
  clear q3 q4 q5 q6
  refine wpPl_do (by rfl) (fun K hK => ?_)
  go_wp2_with fail
  refine ⟨(Below.refl _ w0).drew.alloc (by simp) _, ?_⟩
  refine wpPl_do (by rfl) (fun K hK => ?_)
  go_wp2_with fail

  refine ⟨((Below.refl _ w0).alloc (by simp) _).drew, ?_⟩
  refine wpPl_done ?_
  have hlt : W.heap.size < w0.heap.size := by have := HSZ.out; omega
  have hlt1 : W.heap.size + 1 < w0.heap.size := by have := HSZ.out; omega
  have k2 := HK.out.c 2 _ rfl
  simp only [HS.out]
  have hw4 : IntKind.wrap .i64 (4 * S) = 4 * S := IntWalk.i64_in _ (by omega)
  go_wp2_with (go_at_call 16; (with_reducible refine (within_any _ _ _ _ (by omega) (by omega) (by omega)).mono ?_); rintro e w1 ⟨rfl, rfl⟩; rw [HZ.out])
  obtain ⟨n, hn⟩ : ∃ n, n = min ol.length 4 := ⟨_, rfl⟩
  obtain ⟨G, hG⟩ : ∃ G, within ag 1 4 = G := ⟨_, rfl⟩
  obtain ⟨I, hI⟩ : ∃ I, within si (-1) 1 = I := ⟨_, rfl⟩
  obtain ⟨F, hF⟩ : ∃ F, within fd (-1) 1 = F := ⟨_, rfl⟩
  rw [hG] at bag
  rw [hI] at bsi
  rw [hF] at bfd
  simp only [hG, hI, hF]
  clear hG hI hF
  have hn1 : n ≤ 4 := by omega
  have hn2 : n ≤ ol.length := by omega
  have HN3 := Lib.hid (show n = ol.length ∨ n = 4 by omega)
  clear hn
  go_loopg [4] n (fun g v4 wr => ∃ (i : Nat) (vO : Value) (L : List OpV), i ≤ n ∧ g = n - i ∧ v4 = .int .i64 i ∧ L.length = i ∧ (∀ o ∈ L, OpBd o) ∧ At wr W.heap.size [.slice ao ol.length co, .slice an nl.length cn, .int .i64 sz, .int .i64 sl, .int .i64 ag, .int .i64 si, .int .i64 fd] ∧ At wr (W.heap.size + 1) [.slice none 0 0, .int .i64 0, .int .i64 0, .int .i64 0, .int .i64 0, .int .i64 0] ∧
    At wr w0.heap.size [vO, .int .i64 Z, .int .i64 S, .int .i64 G, .int .i64 I, .int .i64 F] ∧ wr.ownsRow (w0.heap.size + 1) 128 2 vO i (L.flatMap OpV.cs) ∧ Below W.heap.size W wr ∧ w0.heap.size + 1 ≤ wr.heap.size)
  case atStart =>
    refine ⟨0, .slice none 0 0, [], by omega, by omega, rfl, rfl, by simp, ?_, ?_, ?_, World.ownsRow_nil _ _ _ _, ?_, ?_⟩
    · exact ((HK.out).alloc _).drew
    · exact ((HZ0.out).alloc _).drew
    · exact (At.new w0 _ _).drew
    · exact (HB.out.alloc (by omega) _).drew
    · simp
  case round =>
    obtain ⟨i, vO, L, hi, rfl, rfl, hL, hbd, hk, hz, ht, ho, hb, hsz⟩ := hrel
    have HKr := Lib.hid hk
    have HZr := Lib.hid hz
    have HTr := Lib.hid ht
    have HOr := Lib.hid ho
    have HBr := Lib.hid hb
    have HBD := Lib.hid hbd
    have HLr := Lib.hid hL
    have k0 := hk.c 0 _ rfl
    have hb2 : W.heap.size ≤ wr.heap.size := hb.size
    have hvO : ∃ a c, vO = .slice a i c := by
      rcases ho.2 with ⟨h1, h2, h3⟩ | ⟨g, cap, cur, h1, _⟩
      · exact ⟨none, 0, by rw [h1]⟩
      · exact ⟨_, cap, h1⟩
    obtain ⟨va, vc, rfl⟩ := hvO
    clear hk hz ht ho hb hbd hL
    by_cases hlt : i < n
    · have hlt1 : i < 4 := by omega
      have hlt2 : i < ol.length := by omega
      obtain ⟨rfl, hbl⟩ := HO3.out (by omega)
      obtain ⟨X, hX⟩ : ∃ X, ol.getD i 0 = X := ⟨_, rfl⟩
      have hcX : wr.cell? ⟨bo, oo + i, none⟩ = some (.int .i64 X) := by
        rw [HBr.out.cell (p := ⟨bo, oo + i, none⟩) hbl, HO4.out i hlt2, hX]
      have HNr := Lib.hid (HN.out.kept HBr.out)
      clear hX
      have bk := within_bd X 1 6 (by omega)
      have bn := within_bd (pickV nl i) (-5) 9 (by omega)
      go_wp2_with fail
      refine wp_region_pl (fun x => Below wr.heap.size wr x) (.take 0 <| .take 1 <| .take 2 <| .take 3 <| .take 4 <| .take 5 <| .take 6 <| .take 7 <| .take 8 <| .take 9 <| .take 10 <| .take 11 <| .doo 12 <| .doo 13 <| .done) ?plL6 (by kernel_rfl) (by kernel_rfl) (by kernel_rfl) ?plH6 (by intro c a d v w; cases d <;> exact fun h => h) (Below.refl _ wr).drew ?_
      case plH6 =>
        simp only [Pl.with, List.getElem?_toArray, List.getElem?_cons_zero, List.getElem?_cons_succ]
        try rfl
      have q0 : ∀ x, Below wr.heap.size wr x → x.cell? ⟨W.heap.size, 0, none⟩ = some (.slice (some ⟨bo, oo, none⟩) ol.length co) := fun x hx => (HKr.out.below hx).c 0 _ rfl
      have q1 : ∀ x, Below wr.heap.size wr x → x.cell? ⟨W.heap.size, 1, none⟩ = some (.slice an nl.length cn) := fun x hx => (HKr.out.below hx).c 1 _ rfl
      have qX : ∀ x, Below wr.heap.size wr x → x.cell? ⟨bo, oo + i, none⟩ = some (.int .i64 X) := fun x hx => (hx.cell (p := ⟨bo, oo + i, none⟩) (show bo < wr.heap.size by omega)).trans hcX
      iterate 5 (refine wpPl_take (v := ?_) (by rfl) (fun w' hS => ?_) ?_; rotate_left; (focus (go_simp; with_reducible rfl)); simp only [Act.put, List.setIfInBounds_toArray, List.set_cons_zero, List.set_cons_succ])
      (refine wpPl_call (v := .int .i64 (within X 1 6)) (f := 16) (args := #[.int .i64 X, .int .i64 1, .int .i64 6]) (by rfl) (fun w' hS => ?_) (fun w' hS => within_any _ _ _ _ (by omega) (by omega) (by omega)) ?_; (focus (go_simp; done)); simp only [Act.put, List.setIfInBounds_toArray, List.set_cons_zero, List.set_cons_succ])
      iterate 3 (refine wpPl_take (v := ?_) (by rfl) (fun w' hS => ?_) ?_; rotate_left; (focus (go_simp; with_reducible rfl)); simp only [Act.put, List.setIfInBounds_toArray, List.set_cons_zero, List.set_cons_succ])
      (refine wpPl_call (v := .int .i64 (pickV nl i)) (f := 40) (args := #[.slice an nl.length cn, .int .i64 i]) (by rfl) (fun w' hS => ?_) (fun w' hS => pick_any _ _ _ _ (HNr.out.kept hS) (by omega)) ?_; (focus (go_simp; done)); simp only [Act.put, List.setIfInBounds_toArray, List.set_cons_zero, List.set_cons_succ])
      (refine wpPl_call (v := .int .i64 (within (pickV nl i) (-5) 9)) (f := 16) (args := #[.int .i64 (pickV nl i), .int .i64 (-5), .int .i64 9]) (by rfl) (fun w' hS => ?_) (fun w' hS => within_any _ _ _ _ (by omega) (by omega) (by omega)) ?_; (focus (go_simp; done)); simp only [Act.put, List.setIfInBounds_toArray, List.set_cons_zero, List.set_cons_succ])
      iterate 1 (refine wpPl_take (v := ?_) (by rfl) (fun w' hS => ?_) ?_; rotate_left; (focus (go_simp; with_reducible rfl)); simp only [Act.put, List.setIfInBounds_toArray, List.set_cons_zero, List.set_cons_succ])
      clear q0 q1 qX
      obtain ⟨K1, hK1⟩ : ∃ K1, within X 1 6 = K1 := ⟨_, rfl⟩
      obtain ⟨N1, hN1⟩ : ∃ N1, within (pickV nl i) (-5) 9 = N1 := ⟨_, rfl⟩
      rw [hK1] at bk
      rw [hN1] at bn
      simp only [hK1, hN1]
      clear hK1 hN1
      refine wpPl_do (by rfl) (fun K hK => ?_)
      go_wp2_with fail
      refine ⟨(Below.refl _ wr).drew.alloc (by simp) _, ?_⟩
      refine wpPl_do (by rfl) (fun K hK => ?_)
      go_wp2_with fail
      refine ⟨((Below.refl _ wr).alloc (by simp) _).drew, ?_⟩
      refine wpPl_done ?_
      by_cases h3 : K1 = 3
      · subst h3
        have bm := within_bd N1 1 4 (by omega)
        obtain ⟨M1, hM1⟩ : ∃ M1, within N1 1 4 = M1 := ⟨_, rfl⟩
        rw [hM1] at bm
        have HM := Lib.hid hM1
        clear hM1
        have t0 := HTr.out.c 0 _ rfl
        have hlt3 : w0.heap.size < wr.heap.size := by omega
        obtain ⟨i0, hi3, hz0, hz1, hz2⟩ := info_parts info76
        have HI := Lib.hid (And.intro hi3 (And.intro hz0 (And.intro hz1 hz2)))
        clear hi3 hz0 hz1 hz2
        go_wp2_with (first
          | (go_at_call 16; (with_reducible refine (within_any _ _ _ _ (by omega) (by omega) (by omega)).mono ?_); rintro e w1 ⟨rfl, rfl⟩; rw [HM.out])
          | (at_builtin; refine wpList_append_own _ rfl (.tmp 66) (.tmp 68) 34 rfl (w0.heap.size + 1) 128 i0 _ 2 16 Tryz.underlying34 HI.out.1 HI.out.2.1 HI.out.2.2.1 HI.out.2.2.2 rfl (by decide) (.slice va i vc) i (L.flatMap OpV.cs) rfl ((HOr.out.alloc _).drew.alloc _) ⟨wr.heap.size + 1, 0, none⟩ 1 1 [.int .i64 3, .int .i64 M1] rfl rfl (row_cells2 _ _ _ _) (by simp [Value.oneCell']) (by unfold maxLen; omega) (by omega) (by simp; omega) ?_; intro v' w5 hown5 hgrow5 _; have HO5 := Lib.hid hown5; have HK5 := Lib.hid (((HKr.out.alloc _).drew.alloc _).grown hgrow5 (fun k hk => by have := (HOr.out.lt k hk).1; omega)); have HZ5 := Lib.hid (((HZr.out.alloc _).drew.alloc _).grown hgrow5 (fun k hk => by have := (HOr.out.lt k hk).1; omega)); have HT5 := Lib.hid (((HTr.out.alloc _).drew.alloc _).grown hgrow5 (fun k hk => by have := (HOr.out.lt k hk).1; omega)); have HB5 := Lib.hid ((((HBr.out.alloc hb2 _).drew).alloc (by simp; omega) _).grown hgrow5 (by simp; omega) (fun k hk => by have := (HOr.out.lt k hk).1; omega)); have hz5 := (by have := hgrow5.size; simp at this; omega : w0.heap.size + 1 ≤ w5.heap.size); clear hown5 hgrow5; obtain ⟨g5, cap5, rfl, _⟩ := own_form HO5.out (by omega); have s0 := HT5.out.c 0 _ rfl; have f0 := HT5.out.f 0))
        go_roundg (n - (i + 1))
        case measure => omega
        case rel =>
          refine ⟨i + 1, .slice (some ⟨g5, 0, none⟩) (i + 1) cap5, L ++ [⟨3, M1⟩], by omega, rfl, by go_num, by simp [HLr.out], fun o ho => ?_, HK5.out.other _ _ (by simp; omega), HZ5.out.other _ _ (by simp; omega), HT5.out.set 0 _ (by simp), ?_, HB5.out.setCell (by simp; omega) _, by simpa [World.setCell] using hz5⟩
          · rcases List.mem_append.1 ho with h | h
            · exact HBD.out o h
            · obtain rfl : o = ⟨3, M1⟩ := by simpa using h
              exact ⟨by simp <;> omega, by simp <;> omega, by simp <;> omega, by simp <;> omega, fun h => by simp at h ⊢ <;> omega, fun h => by simp at h ⊢ <;> omega⟩
          · have := HO5.out
            rw [List.flatMap_append]
            exact ownsRow_setCell_below this (by simp) _
      · by_cases h6 : K1 = 6
        · subst h6
          have bm := within_bd N1 0 2 (by omega)
          obtain ⟨M1, hM1⟩ : ∃ M1, within N1 0 2 = M1 := ⟨_, rfl⟩
          rw [hM1] at bm
          have HM := Lib.hid hM1
          clear hM1
          have t0 := HTr.out.c 0 _ rfl
          have hlt3 : w0.heap.size < wr.heap.size := by omega
          obtain ⟨i0, hi3, hz0, hz1, hz2⟩ := info_parts info76
          have HI := Lib.hid (And.intro hi3 (And.intro hz0 (And.intro hz1 hz2)))
          clear hi3 hz0 hz1 hz2
          go_wp2_with (first
            | (go_at_call 16; (with_reducible refine (within_any _ _ _ _ (by omega) (by omega) (by omega)).mono ?_); rintro e w1 ⟨rfl, rfl⟩; rw [HM.out])
            | (at_builtin; refine wpList_append_own _ rfl (.tmp 66) (.tmp 68) 34 rfl (w0.heap.size + 1) 128 i0 _ 2 16 Tryz.underlying34 HI.out.1 HI.out.2.1 HI.out.2.2.1 HI.out.2.2.2 rfl (by decide) (.slice va i vc) i (L.flatMap OpV.cs) rfl ((HOr.out.alloc _).drew.alloc _) ⟨wr.heap.size + 1, 0, none⟩ 1 1 [.int .i64 6, .int .i64 M1] rfl rfl (row_cells2 _ _ _ _) (by simp [Value.oneCell']) (by unfold maxLen; omega) (by omega) (by simp; omega) ?_; intro v' w5 hown5 hgrow5 _; have HO5 := Lib.hid hown5; have HK5 := Lib.hid (((HKr.out.alloc _).drew.alloc _).grown hgrow5 (fun k hk => by have := (HOr.out.lt k hk).1; omega)); have HZ5 := Lib.hid (((HZr.out.alloc _).drew.alloc _).grown hgrow5 (fun k hk => by have := (HOr.out.lt k hk).1; omega)); have HT5 := Lib.hid (((HTr.out.alloc _).drew.alloc _).grown hgrow5 (fun k hk => by have := (HOr.out.lt k hk).1; omega)); have HB5 := Lib.hid ((((HBr.out.alloc hb2 _).drew).alloc (by simp; omega) _).grown hgrow5 (by simp; omega) (fun k hk => by have := (HOr.out.lt k hk).1; omega)); have hz5 := (by have := hgrow5.size; simp at this; omega : w0.heap.size + 1 ≤ w5.heap.size); clear hown5 hgrow5; obtain ⟨g5, cap5, rfl, _⟩ := own_form HO5.out (by omega); have s0 := HT5.out.c 0 _ rfl; have f0 := HT5.out.f 0))
          go_roundg (n - (i + 1))
          case measure => omega
          case rel =>
            refine ⟨i + 1, .slice (some ⟨g5, 0, none⟩) (i + 1) cap5, L ++ [⟨6, M1⟩], by omega, rfl, by go_num, by simp [HLr.out], fun o ho => ?_, HK5.out.other _ _ (by simp; omega), HZ5.out.other _ _ (by simp; omega), HT5.out.set 0 _ (by simp), ?_, HB5.out.setCell (by simp; omega) _, by simpa [World.setCell] using hz5⟩
            · rcases List.mem_append.1 ho with h | h
              · exact HBD.out o h
              · obtain rfl : o = ⟨6, M1⟩ := by simpa using h
                exact ⟨by simp <;> omega, by simp <;> omega, by simp <;> omega, by simp <;> omega, fun h => by simp at h ⊢ <;> omega, fun h => by simp at h ⊢ <;> omega⟩
            · have := HO5.out
              rw [List.flatMap_append]
              exact ownsRow_setCell_below this (by simp) _
        · have HM := Lib.hid trivial
          have h3' : (K1 == 3) = false := by simp [h3]
          have h6' : (K1 == 6) = false := by simp [h6]
          have t0 := HTr.out.c 0 _ rfl
          have hlt3 : w0.heap.size < wr.heap.size := by omega
          obtain ⟨i0, hi3, hz0, hz1, hz2⟩ := info_parts info76
          have HI := Lib.hid (And.intro hi3 (And.intro hz0 (And.intro hz1 hz2)))
          clear hi3 hz0 hz1 hz2
          go_wp2_with (first
            | (go_at_call 16; (with_reducible refine (within_any _ _ _ _ (by omega) (by omega) (by omega)).mono ?_); rintro e w1 ⟨rfl, rfl⟩; skip)
            | (at_builtin; refine wpList_append_own _ rfl (.tmp 66) (.tmp 68) 34 rfl (w0.heap.size + 1) 128 i0 _ 2 16 Tryz.underlying34 HI.out.1 HI.out.2.1 HI.out.2.2.1 HI.out.2.2.2 rfl (by decide) (.slice va i vc) i (L.flatMap OpV.cs) rfl ((HOr.out.alloc _).drew.alloc _) ⟨wr.heap.size + 1, 0, none⟩ 1 1 [.int .i64 K1, .int .i64 N1] rfl rfl (row_cells2 _ _ _ _) (by simp [Value.oneCell']) (by unfold maxLen; omega) (by omega) (by simp; omega) ?_; intro v' w5 hown5 hgrow5 _; have HO5 := Lib.hid hown5; have HK5 := Lib.hid (((HKr.out.alloc _).drew.alloc _).grown hgrow5 (fun k hk => by have := (HOr.out.lt k hk).1; omega)); have HZ5 := Lib.hid (((HZr.out.alloc _).drew.alloc _).grown hgrow5 (fun k hk => by have := (HOr.out.lt k hk).1; omega)); have HT5 := Lib.hid (((HTr.out.alloc _).drew.alloc _).grown hgrow5 (fun k hk => by have := (HOr.out.lt k hk).1; omega)); have HB5 := Lib.hid ((((HBr.out.alloc hb2 _).drew).alloc (by simp; omega) _).grown hgrow5 (by simp; omega) (fun k hk => by have := (HOr.out.lt k hk).1; omega)); have hz5 := (by have := hgrow5.size; simp at this; omega : w0.heap.size + 1 ≤ w5.heap.size); clear hown5 hgrow5; obtain ⟨g5, cap5, rfl, _⟩ := own_form HO5.out (by omega); have s0 := HT5.out.c 0 _ rfl; have f0 := HT5.out.f 0))
          go_roundg (n - (i + 1))
          case measure => omega
          case rel =>
            refine ⟨i + 1, .slice (some ⟨g5, 0, none⟩) (i + 1) cap5, L ++ [⟨K1, N1⟩], by omega, rfl, by go_num, by simp [HLr.out], fun o ho => ?_, HK5.out.other _ _ (by simp; omega), HZ5.out.other _ _ (by simp; omega), HT5.out.set 0 _ (by simp), ?_, HB5.out.setCell (by simp; omega) _, by simpa [World.setCell] using hz5⟩
            · rcases List.mem_append.1 ho with h | h
              · exact HBD.out o h
              · obtain rfl : o = ⟨K1, N1⟩ := by simpa using h
                exact ⟨by simp <;> omega, by simp <;> omega, by simp <;> omega, by simp <;> omega, fun h => by simp at h ⊢ <;> omega, fun h => by simp at h ⊢ <;> omega⟩
            · have := HO5.out
              rw [List.flatMap_append]
              exact ownsRow_setCell_below this (by simp) _
    · have t0 := HTr.out.c 0 _ rfl
      have t1 := HTr.out.c 1 _ rfl
      have t2 := HTr.out.c 2 _ rfl
      have t3 := HTr.out.c 3 _ rfl
      have t4 := HTr.out.c 4 _ rfl
      have t5 := HTr.out.c 5 _ rfl
      have z0 := HZr.out.c 0 _ rfl
      have z1 := HZr.out.c 1 _ rfl
      have z2 := HZr.out.c 2 _ rfl
      have z3 := HZr.out.c 3 _ rfl
      have z4 := HZr.out.c 4 _ rfl
      have z5 := HZr.out.c 5 _ rfl
      have y0 := HZr.out.f 0
      have y1 := HZr.out.f 1
      have y2 := HZr.out.f 2
      have y3 := HZr.out.f 3
      have y4 := HZr.out.f 4
      have y5 := HZr.out.f 5
      rcases (by have := HN3.out; omega : ¬ i < ol.length ∨ (i < ol.length ∧ ¬ i < 4)) with hx | ⟨hx, hx4⟩
      all_goals
        go_wp2_with fail
        refine bodyPost_ret (res23 _ (W.heap.size + 1) (.slice va i vc) Z S G I F _ rfl (At.set6 _ _ _ _ _ _ _ _ HZr.out _ _ _ _ _ _)) rfl ?_
        refine ⟨⟨.slice va i vc, L, Z, S, G, I, F⟩, rfl, ?_, ⟨bsl.1, bsl.2, bsz.1, bsz.2, bag.1, bag.2, bsi.1, bsi.2, bfd.1, bfd.2, by have := HLr.out; simp; omega, HBD.out⟩, ?_⟩
        · refine ownsRow_base (base := w0.heap.size + 1) ?_ (by omega)
          have hl := HLr.out
          have := HOr.out
          subst hl
          repeat (first | with_reducible exact this | refine ownsRow_setCell_below ?_ (by simp; omega) _)
        · repeat (first | with_reducible exact HBr.out | refine Below.setCell ?_ (by simp) _)
end Go.Proofs.YtcanfmabkklidaaGreat
set_option linter.unusedSimpArgs false
set_option linter.unusedVariables false
set_option linter.unnecessarySimpa false
namespace Go.Proofs.YtcanfmabkklidaaGreat
open Go.RowKit

structure InV where
  time : Int
  key : Int
  value : Int
  mark : Int
def InV.cs (x : InV) : List Value := [.int .i64 x.time, .int .i64 x.key, .int .i64 x.value, .int .i64 x.mark]
structure InpV where
  mark : Bool
  time : Int
  key : Int
  value : Int
  label : Int
def InpV.cs (x : InpV) : List Value := [.bool x.mark, .int .i64 x.time, .int .i64 x.key, .int .i64 x.value, .int .u64 x.label]
theorem inpcs_len (x : InpV) : x.cs.length = 5 := rfl
structure InpBd (x : InpV) : Prop where
  t1 : 0 ≤ x.time
  t2 : x.time ≤ 160
  t3 : x.mark = false → x.time ≤ 120
  k1 : 0 ≤ x.key
  k2 : x.key ≤ 3
  v1 : -50 ≤ x.value
  v2 : x.value ≤ 50
  l0 : x.mark = true → x.key = 0 ∧ x.value = 0 ∧ x.label = 0
  l1 : x.mark = false → ∃ k : Nat, k ≤ 7 ∧ x.label = ((2 ^ k : Nat) : Int)
theorem shl25 (W : World) (ρ : Operand → Value) (d : Option Tmp) (x : Operand) {t : TypeId} {ps : String} {af : Array Edge} {g : Option (Nat × Bool)} (n : Nat) (hn : n ≤ 7) (hx : ρ x = .int .i64 n) (h4 : ρ (.const (.int .u64 1)) = .int .u64 1) :
    (execOp ρ { dst := d, op := .binOp .shl 37 (.const (.int .u64 1)) x 3, type := t, pos := ps, after := af, guard := g }).run Tryz.prog W = .ok (.value (.int .u64 ((2 ^ n : Nat) : Int))) W := by
  have hc : n = 0 ∨ n = 1 ∨ n = 2 ∨ n = 3 ∨ n = 4 ∨ n = 5 ∨ n = 6 ∨ n = 7 := by omega
  rcases hc with rfl | rfl | rfl | rfl | rfl | rfl | rfl | rfl
  all_goals
    go_simp
    try rfl
theorem info29 : (Tryz.prog.info? 41).map (fun i => (i.zero, i.size, i.bytes)) = some (some (.agg #[.bool false, .int .i64 0, .int .i64 0, .int .i64 0, .int .u64 0]), 5, 40) := by kernel_rfl
/-- the same region, its world forgotten but for what Φ tells; S as one likes -/
theorem wp_region_plS {P : Program} {ops : Array Oper} {Q : Exit → Act → World → Prop} {id : Nat} {a : Act} {w : World} (S Φ : World → Prop) (hΦ : Φ w) (hS : ∀ w0, Φ w0 → S w0.drew) (p : Pl) (l : PlO) (hm : P.follows .mixedOrders = true) (hs : Region.noSelect ops = true)
    (hp : (okM ops 0 p && p.even && p.steps == ops.size) = true) (hl : p.with ops = l) (hQ : ∀ c a d v w, Q (.panic c) (Act.put a d v) w → Q (.panic c) a w)
    (h : ∀ w0, Φ w0 → wpPl P ops Q S l a w0.drew) : (Code.region id ops true).wp P Q a w :=
  wp_region_pl S p l hm hs hp hl hQ (hS w hΦ) (h w hΦ)
/-- what a call that makes a list of inputs leaves -/
def RetI (W : World) (n : Nat) (e : Ending) (w' : World) : Prop := ∃ (v : Value) (r : List InpV), e = .returned v ∧ w'.ownsRow W.heap.size 41 5 v r.length (r.flatMap InpV.cs) ∧ r.length = n ∧ (∀ x ∈ r, InpBd x) ∧ Below W.heap.size W w'

set_option maxRecDepth 100000 in
set_option maxHeartbeats 8000000 in
theorem inputs_any (W : World) (v : Value) (l : List InV) (h : IsR InV.cs 4 W v l) :
    Calls Tryz.prog 22 #[v] W (RetI W (min l.length 25)) := by
  obtain ⟨al, cl, rfl, hl1, hl2, bl, ol, hl3, hl4⟩ := h
  unfold maxLen at hl2
  have H3 := Lib.hid hl3
  have H4 := Lib.hid hl4
  clear hl3 hl4
  obtain ⟨n, hn⟩ : ∃ n, n = min l.length 25 := ⟨_, rfl⟩
  rw [← hn]
  have hn1 : n ≤ 25 := by omega
  have hn2 : n ≤ l.length := by omega
  have HN3 := Lib.hid (show n = l.length ∨ n = 25 by omega)
  clear hn
  go_enter Tryz.func22, Tryz.ntmps22
  go_wp2_with fail
  go_loopg [3, 4] n (fun g v3 v4 wr => ∃ (i : Nat) (va : Option Addr) (vc : Nat) (L : List InpV), i ≤ n ∧ g = n - i ∧ v3 = .slice va i vc ∧ v4 = .int .i64 i ∧ L.length = i ∧ (∀ o ∈ L, InpBd o) ∧ wr.ownsRow W.heap.size 41 5 (.slice va i vc) i (L.flatMap InpV.cs) ∧ Below W.heap.size W wr)
  case atStart => exact ⟨0, none, 0, [], by omega, by omega, rfl, rfl, rfl, by simp, World.ownsRow_nil _ _ _ _, Below.refl _ _⟩
  case round =>
    obtain ⟨i, va, vc, L, hi, rfl, rfl, rfl, hL, hbd, ho, hb⟩ := hrel
    have HOr := Lib.hid ho
    have HBr := Lib.hid hb
    have HBD := Lib.hid hbd
    have HLr := Lib.hid hL
    have hb2 : W.heap.size ≤ wr.heap.size := hb.size
    obtain ⟨i0, hi3, hz0, hz1, hz2⟩ := info_parts info29
    have HI := Lib.hid (And.intro hi3 (And.intro hz0 (And.intro hz1 hz2)))
    clear hi3 hz0 hz1 hz2 ho hb hbd hL
    by_cases hlt : i < n
    · have hlt1 : i < 25 := by omega
      have hlt2 : i < l.length := by omega
      obtain ⟨rfl, hbl⟩ := H3.out (by omega)
      obtain ⟨x, hx⟩ : ∃ x, l[i]? = some x := ⟨l[i], by simp [hlt2]⟩
      have HX := Lib.hid (fun (j : Nat) (u : Value) (hj : x.cs[j]? = some u) => (HBr.out.cell (p := ⟨bl, ol + i * 4 + j, none⟩) hbl).trans (H4.out i x hx j u hj))
      clear hx
      obtain ⟨T, K, V, M⟩ := x
      have c0 := HX.out 0 _ rfl
      have c1 := HX.out 1 _ rfl
      have c2 := HX.out 2 _ rfl
      have c3 := HX.out 3 _ rfl
      simp only [Nat.add_zero] at c0
      clear HX
      by_cases hm : bits BinOp.and IntKind.i64 M 3 = 3
      · have hm' : (bits BinOp.and IntKind.i64 M 3 == 3) = true := by simp [hm]
        have bt := within_bd T 0 160 (by omega)
        obtain ⟨t, ht⟩ : ∃ t, within T 0 160 = t := ⟨_, rfl⟩
        rw [ht] at bt
        have HT := Lib.hid ht
        clear ht hm
        go_wp2_with (first
          | (go_at_call 16; (with_reducible refine (within_any _ _ _ _ (by omega) (by omega) (by omega)).mono ?_); rintro e w1 ⟨rfl, rfl⟩; rw [HT.out])
          | (at_builtin; refine wpList_append_own _ rfl (.tmp 24) (.tmp 30) 69 rfl W.heap.size 41 i0 _ 5 40 Tryz.underlying69 HI.out.1 HI.out.2.1 HI.out.2.2.1 HI.out.2.2.2 rfl (by decide) (.slice va i vc) i (L.flatMap InpV.cs) rfl ((HOr.out.alloc _).alloc _) ⟨wr.heap.size + 1, 0, none⟩ 1 1 [.bool true, .int .i64 t, .int .i64 0, .int .i64 0, .int .u64 0] rfl rfl (row_cells2 _ _ _ _) (by simp [Value.oneCell']) (by unfold maxLen; omega) (by omega) (by simp; omega) ?_; intro v' w5 hown5 hgrow5 _; have HO5 := Lib.hid hown5; have HB5 := Lib.hid (((HBr.out.alloc hb2 _).alloc (by simp; omega) _).grown hgrow5 (by simp; omega) (fun k hk => (HOr.out.lt k hk).1)); clear hown5 hgrow5; obtain ⟨g5, cap5, rfl, _⟩ := own_form HO5.out (by omega)))
        go_roundg (n - (i + 1))
        case measure => omega
        case rel =>
          refine ⟨i + 1, _, cap5, L ++ [⟨true, t, 0, 0, 0⟩], by omega, rfl, rfl, by go_num, by simp [HLr.out], fun o ho => ?_, ?_, HB5.out⟩
          · rcases List.mem_append.1 ho with h | h
            · exact HBD.out o h
            · obtain rfl : o = ⟨true, t, 0, 0, 0⟩ := by simpa using h
              exact ⟨bt.1, bt.2, fun h => by simp at h, by simp, by simp, by simp, by simp, fun _ => ⟨rfl, rfl, rfl⟩, fun h => by simp at h⟩
          · rw [List.flatMap_append]
            exact HO5.out
      · have hm' : (bits BinOp.and IntKind.i64 M 3 == 3) = false := by simp [hm]
        clear hm
        go_wp2_with fail
        refine wp_region_plS (fun x => At x wr.heap.size [.int .i64 T, .int .i64 K, .int .i64 V, .int .i64 M]) (fun w1 => At w1 wr.heap.size [.int .i64 T, .int .i64 K, .int .i64 V, .int .i64 M] ∧ Below W.heap.size W w1 ∧ w1.ownsRow W.heap.size 41 5 (.slice va i vc) i (L.flatMap InpV.cs) ∧ wr.heap.size + 1 ≤ w1.heap.size) ?ph8 (fun w1 h => h.1.drew) (.take 0 <| .take 1 <| .take 2 <| .take 3 <| .take 4 <| .take 5 <| .take 6 <| .take 7 <| .take 8 <| .take 9 <| .take 10 <| .take 11 <| .take 12 <| .take 13 <| .take 14 <| .take 15 <| .doo 16 <| .doo 17 <| .take 18 <| .done) ?plL8 (by kernel_rfl) (by kernel_rfl) (by kernel_rfl) ?plH8 (by intro c a d v w; cases d <;> exact fun h => h) ?_
        case plH8 =>
          simp only [Pl.with, List.getElem?_toArray, List.getElem?_cons_zero, List.getElem?_cons_succ]
          try rfl
        case ph8 => exact ⟨At.new wr _ _, HBr.out.alloc hb2 _, HOr.out.alloc _, by simp⟩
        rintro w1 ⟨ha, hb1, ho1, hsz⟩
        have HA := Lib.hid ha
        have HB1 := Lib.hid hb1
        have HO1 := Lib.hid ho1
        have hsz1 : wr.heap.size < w1.heap.size := by omega
        clear ha hb1 ho1 hsz
        have q0 : ∀ x, At x wr.heap.size [.int .i64 T, .int .i64 K, .int .i64 V, .int .i64 M] → x.cell? ⟨wr.heap.size, 0, none⟩ = some (.int .i64 T) := fun x hx => hx.c 0 _ rfl
        have q1 : ∀ x, At x wr.heap.size [.int .i64 T, .int .i64 K, .int .i64 V, .int .i64 M] → x.cell? ⟨wr.heap.size, 1, none⟩ = some (.int .i64 K) := fun x hx => hx.c 1 _ rfl
        have q2 : ∀ x, At x wr.heap.size [.int .i64 T, .int .i64 K, .int .i64 V, .int .i64 M] → x.cell? ⟨wr.heap.size, 2, none⟩ = some (.int .i64 V) := fun x hx => hx.c 2 _ rfl
        have q3 : ∀ x, At x wr.heap.size [.int .i64 T, .int .i64 K, .int .i64 V, .int .i64 M] → x.cell? ⟨wr.heap.size, 3, none⟩ = some (.int .i64 M) := fun x hx => hx.c 3 _ rfl
        iterate 3 (refine wpPl_take (v := ?_) (by rfl) (fun w' hS => ?_) ?_; rotate_left; (focus (go_simp; with_reducible rfl)); simp only [Act.put, List.setIfInBounds_toArray, List.set_cons_zero, List.set_cons_succ])
        (refine wpPl_call (v := .int .i64 (within T 0 120)) (f := 16) (args := #[.int .i64 T, .int .i64 0, .int .i64 120]) (by rfl) (fun w' hS => ?_) (fun w' hS => within_any _ _ _ _ (by omega) (by omega) (by omega)) ?_; (focus (go_simp; done)); simp only [Act.put, List.setIfInBounds_toArray, List.set_cons_zero, List.set_cons_succ])
        iterate 2 (refine wpPl_take (v := ?_) (by rfl) (fun w' hS => ?_) ?_; rotate_left; (focus (go_simp; with_reducible rfl)); simp only [Act.put, List.setIfInBounds_toArray, List.set_cons_zero, List.set_cons_succ])
        (refine wpPl_call (v := .int .i64 (within K 0 3)) (f := 16) (args := #[.int .i64 K, .int .i64 0, .int .i64 3]) (by rfl) (fun w' hS => ?_) (fun w' hS => within_any _ _ _ _ (by omega) (by omega) (by omega)) ?_; (focus (go_simp; done)); simp only [Act.put, List.setIfInBounds_toArray, List.set_cons_zero, List.set_cons_succ])
        iterate 2 (refine wpPl_take (v := ?_) (by rfl) (fun w' hS => ?_) ?_; rotate_left; (focus (go_simp; with_reducible rfl)); simp only [Act.put, List.setIfInBounds_toArray, List.set_cons_zero, List.set_cons_succ])
        (refine wpPl_call (v := .int .i64 (within V (-50) 50)) (f := 16) (args := #[.int .i64 V, .int .i64 (-50), .int .i64 50]) (by rfl) (fun w' hS => ?_) (fun w' hS => within_any _ _ _ _ (by omega) (by omega) (by omega)) ?_; (focus (go_simp; done)); simp only [Act.put, List.setIfInBounds_toArray, List.set_cons_zero, List.set_cons_succ])
        iterate 2 (refine wpPl_take (v := ?_) (by rfl) (fun w' hS => ?_) ?_; rotate_left; (focus (go_simp; with_reducible rfl)); simp only [Act.put, List.setIfInBounds_toArray, List.set_cons_zero, List.set_cons_succ])
        (refine wpPl_call (v := .int .i64 (within M 0 7)) (f := 16) (args := #[.int .i64 M, .int .i64 0, .int .i64 7]) (by rfl) (fun w' hS => ?_) (fun w' hS => within_any _ _ _ _ (by omega) (by omega) (by omega)) ?_; (focus (go_simp; done)); simp only [Act.put, List.setIfInBounds_toArray, List.set_cons_zero, List.set_cons_succ])
        clear q0 q1 q2 q3
        have b0 := within_bd T 0 120 (by omega)
        have b1 := within_bd K 0 3 (by omega)
        have b2 := within_bd V (-50) 50 (by omega)
        have b3 := within_bd M 0 7 (by omega)
        obtain ⟨t, ht⟩ : ∃ t, within T 0 120 = t := ⟨_, rfl⟩
        obtain ⟨k, hk⟩ : ∃ k, within K 0 3 = k := ⟨_, rfl⟩
        obtain ⟨v, hv⟩ : ∃ v, within V (-50) 50 = v := ⟨_, rfl⟩
        obtain ⟨m, hm⟩ : ∃ m : Nat, within M 0 7 = (m : Int) := ⟨(within M 0 7).toNat, by omega⟩
        rw [ht] at b0
        rw [hk] at b1
        rw [hv] at b2
        rw [hm] at b3
        simp only [ht, hk, hv, hm]
        clear ht hk hv hm
        refine wpPl_take (v := .int .u64 ((2 ^ m : Nat) : Int)) (by rfl) (fun w' hS => shl25 w' _ _ _ m (by omega) rfl rfl) ?_
        simp only [Act.put, List.setIfInBounds_toArray, List.set_cons_zero, List.set_cons_succ]
        iterate 2 (refine wpPl_take (v := ?_) (by rfl) (fun w' hS => ?_) ?_; rotate_left; (focus (go_simp; with_reducible rfl)); simp only [Act.put, List.setIfInBounds_toArray, List.set_cons_zero, List.set_cons_succ])
        refine wpPl_do (by rfl) (fun K hK => ?_)
        go_wp2_with fail
        refine ⟨HA.out.drew.alloc _, ?_⟩
        refine wpPl_do (by rfl) (fun K hK => ?_)
        refine wp_append_own _ (.tmp 32) (.tmp 48) 69 rfl W.heap.size 41 i0 _ 5 40 Tryz.underlying69 HI.out.1 HI.out.2.1 HI.out.2.2.1 HI.out.2.2.2 rfl (by decide) (.slice va i vc) i (L.flatMap InpV.cs) rfl (HO1.out.drew.alloc _) ⟨w1.heap.size, 0, none⟩ 1 1 [.bool false, .int .i64 t, .int .i64 k, .int .i64 v, .int .u64 ((2 ^ m : Nat) : Int)] rfl rfl (row_cells _ _ _) (by simp [Value.oneCell']) (by unfold maxLen; omega) (by omega) (by simp; omega) ?_
        intro v' w5 hown5 hgrow5 _
        have HO5 := Lib.hid hown5
        have HB5 := Lib.hid ((HB1.out.drew.alloc (by simp; omega) _).grown hgrow5 (by simp; omega) (fun k hk => (HO1.out.lt k hk).1))
        have hS5 := (HA.out.drew.alloc _).grown hgrow5 (fun k hk => by have := (HOr.out.lt k hk).2; omega)
        clear hown5 hgrow5
        obtain ⟨g5, cap5, rfl, _⟩ := own_form HO5.out (by omega)
        refine hK _ _ ⟨hS5, ?_⟩
        simp only [Act.put, List.setIfInBounds_toArray, List.set_cons_zero, List.set_cons_succ]
        iterate 1 (refine wpPl_take (v := ?_) (by rfl) (fun w' hS => ?_) ?_; rotate_left; (focus (go_simp; with_reducible rfl)); simp only [Act.put, List.setIfInBounds_toArray, List.set_cons_zero, List.set_cons_succ])
        refine wpPl_done ?_
        go_wp2_with fail
        go_roundg (n - (i + 1))
        case measure => omega
        case rel =>
          refine ⟨i + 1, _, cap5, L ++ [⟨false, t, k, v, ((2 ^ m : Nat) : Int)⟩], by omega, rfl, rfl, by go_num, by simp [HLr.out], fun o ho => ?_, ?_, HB5.out⟩
          · rcases List.mem_append.1 ho with h | h
            · exact HBD.out o h
            · obtain rfl : o = ⟨false, t, k, v, ((2 ^ m : Nat) : Int)⟩ := by simpa using h
              exact ⟨b0.1, by simp; omega, fun _ => b0.2, b1.1, b1.2, b2.1, b2.2, fun h => by simp at h, fun _ => ⟨m, by omega, rfl⟩⟩
          · rw [List.flatMap_append]
            exact HO5.out
    · rcases (by have := HN3.out; omega : ¬ i < l.length ∨ (i < l.length ∧ ¬ i < 25)) with hx | ⟨hx, hx4⟩
      all_goals
        go_wp2_with fail
        go_ret
        have hl := HLr.out
        have hin : i = n := by omega
        refine ⟨_, L, rfl, ?_, by omega, HBD.out, HBr.out⟩
        rw [hl]
        exact HOr.out
end Go.Proofs.YtcanfmabkklidaaGreat
set_option linter.unusedSimpArgs false
set_option linter.unusedVariables false
set_option linter.unnecessarySimpa false
namespace Go.Proofs.YtcanfmabkklidaaGreat
open Go.RowKit

structure KActV where
  kind : Int
  tenant : Int
  frm : Int
  n : Int
  ops : Value
  ol : List Int
  ns : Value
  nl : List Int
  size : Int
  slide : Int
  agg : Int
  sink : Int
  feed : Int
  inp : InV
def KActV.cs (k : KActV) : List Value := [.int .i64 k.kind, .int .i64 k.tenant, .int .i64 k.frm, .int .i64 k.n, k.ops, k.ns, .int .i64 k.size, .int .i64 k.slide, .int .i64 k.agg, .int .i64 k.sink, .int .i64 k.feed, .int .i64 k.inp.time, .int .i64 k.inp.key, .int .i64 k.inp.value, .int .i64 k.inp.mark]
structure KActV.ok (w : World) (k : KActV) : Prop where
  o : IsL w k.ops k.ol
  n : IsL w k.ns k.nl
structure ActBd (x : ActV) : Prop where
  k1 : 1 ≤ x.kind
  k2 : x.kind ≤ 5
  t1 : 0 ≤ x.tenant
  t2 : x.tenant ≤ 3
  f1 : -1 ≤ x.frm
  f2 : x.frm ≤ 6
  n1 : -1 ≤ x.n
  n2 : x.n ≤ 9
  pipe : x.kind = 1 → PipeBd x.pipe
  inp : x.kind = 2 → InpBd ⟨x.mark, x.time, x.key, x.value, x.label⟩
theorem At.put0 {w : World} {b : Nat} {x0 x1 x2 x3 x4 x5 x6 x7 x8 x9 x10 x11 x12 x13 x14 : Value} (h : At w b [x0, x1, x2, x3, x4, x5, x6, x7, x8, x9, x10, x11, x12, x13, x14]) (y0 : Value) : At (w.setCell ⟨b, 0, none⟩ y0) b [y0, x1, x2, x3, x4, x5, x6, x7, x8, x9, x10, x11, x12, x13, x14] := by
  have h0 : At _ b [y0, x1, x2, x3, x4, x5, x6, x7, x8, x9, x10, x11, x12, x13, x14] := h.set 0 y0 (by simp)
  exact h0
theorem At.putP {w : World} {b : Nat} {x0 x1 x2 x3 x4 x5 x6 x7 x8 x9 x10 x11 x12 x13 x14 : Value} (h : At w b [x0, x1, x2, x3, x4, x5, x6, x7, x8, x9, x10, x11, x12, x13, x14]) (y0 y4 y5 y6 y7 y8 y9 : Value) : At (((((((w.setCell ⟨b, 0, none⟩ y0).setCell ⟨b, 4, none⟩ y4).setCell ⟨b, 5, none⟩ y5).setCell ⟨b, 6, none⟩ y6).setCell ⟨b, 7, none⟩ y7).setCell ⟨b, 8, none⟩ y8).setCell ⟨b, 9, none⟩ y9) b [y0, x1, x2, x3, y4, y5, y6, y7, y8, y9, x10, x11, x12, x13, x14] := by
  have h0 : At _ b [y0, x1, x2, x3, x4, x5, x6, x7, x8, x9, x10, x11, x12, x13, x14] := h.set 0 y0 (by simp)
  have h1 : At _ b [y0, x1, x2, x3, y4, x5, x6, x7, x8, x9, x10, x11, x12, x13, x14] := h0.set 4 y4 (by simp)
  have h2 : At _ b [y0, x1, x2, x3, y4, y5, x6, x7, x8, x9, x10, x11, x12, x13, x14] := h1.set 5 y5 (by simp)
  have h3 : At _ b [y0, x1, x2, x3, y4, y5, y6, x7, x8, x9, x10, x11, x12, x13, x14] := h2.set 6 y6 (by simp)
  have h4 : At _ b [y0, x1, x2, x3, y4, y5, y6, y7, x8, x9, x10, x11, x12, x13, x14] := h3.set 7 y7 (by simp)
  have h5 : At _ b [y0, x1, x2, x3, y4, y5, y6, y7, y8, x9, x10, x11, x12, x13, x14] := h4.set 8 y8 (by simp)
  have h6 : At _ b [y0, x1, x2, x3, y4, y5, y6, y7, y8, y9, x10, x11, x12, x13, x14] := h5.set 9 y9 (by simp)
  exact h6
theorem At.putI {w : World} {b : Nat} {x0 x1 x2 x3 x4 x5 x6 x7 x8 x9 x10 x11 x12 x13 x14 : Value} (h : At w b [x0, x1, x2, x3, x4, x5, x6, x7, x8, x9, x10, x11, x12, x13, x14]) (y0 y10 y11 y12 y13 y14 : Value) : At ((((((w.setCell ⟨b, 0, none⟩ y0).setCell ⟨b, 10, none⟩ y10).setCell ⟨b, 11, none⟩ y11).setCell ⟨b, 12, none⟩ y12).setCell ⟨b, 13, none⟩ y13).setCell ⟨b, 14, none⟩ y14) b [y0, x1, x2, x3, x4, x5, x6, x7, x8, x9, y10, y11, y12, y13, y14] := by
  have h0 : At _ b [y0, x1, x2, x3, x4, x5, x6, x7, x8, x9, x10, x11, x12, x13, x14] := h.set 0 y0 (by simp)
  have h1 : At _ b [y0, x1, x2, x3, x4, x5, x6, x7, x8, x9, y10, x11, x12, x13, x14] := h0.set 10 y10 (by simp)
  have h2 : At _ b [y0, x1, x2, x3, x4, x5, x6, x7, x8, x9, y10, y11, x12, x13, x14] := h1.set 11 y11 (by simp)
  have h3 : At _ b [y0, x1, x2, x3, x4, x5, x6, x7, x8, x9, y10, y11, y12, x13, x14] := h2.set 12 y12 (by simp)
  have h4 : At _ b [y0, x1, x2, x3, x4, x5, x6, x7, x8, x9, y10, y11, y12, y13, x14] := h3.set 13 y13 (by simp)
  have h5 : At _ b [y0, x1, x2, x3, x4, x5, x6, x7, x8, x9, y10, y11, y12, y13, y14] := h4.set 14 y14 (by simp)
  exact h5

theorem IsR.of_row4 (w : World) (x : InV) (e : TypeId) : IsR InV.cs 4 (w.alloc (.cells #[.int .i64 x.time, .int .i64 x.key, .int .i64 x.value, .int .i64 x.mark] e)) (.slice (some ⟨w.heap.size, 0, none⟩) 1 1) [x] := by
  refine ⟨_, 1, rfl, Nat.le_refl _, by unfold maxLen; simp, w.heap.size, 0, fun _ => ⟨rfl, by simp⟩, fun i y hi j u hj => ?_⟩
  match i, hi with
  | 0, hi =>
    obtain rfl : x = y := by simpa using hi
    refine cell_new _ _ _ _ _ _ rfl ?_
    simpa [InV.cs] using hj
/-- a pipe's operations lie in a row of their own -/
def ActV.row (n0 : Nat) (w : World) (a : ActV) : Prop := w.ownsRow n0 128 2 a.pipe.ops a.pipe.ol.length (a.pipe.ol.flatMap OpV.cs)
theorem ActV.row.ok {n0 : Nat} {w : World} {a : ActV} (h : a.row n0 w) : a.ok w := IsR.of_own opcs_len h
theorem ActV.row.alloc {n0 : Nat} {w : World} {a : ActV} (h : a.row n0 w) (o : Obj) : a.row n0 (w.alloc o) := World.ownsRow.alloc h o
theorem ActV.row.drew {n0 : Nat} {w : World} {a : ActV} (h : a.row n0 w) : a.row n0 w.drew := World.ownsRow.drew h
theorem ActV.row.kept {n0 : Nat} {w w' : World} {a : ActV} (h : a.row n0 w) (hb : Below w.heap.size w w') : a.row n0 w' := World.ownsRow.kept h (grown_of_below hb none) (Classical.em _)
theorem ActV.row.grown {n0 : Nat} {w w' : World} {a : ActV} (h : a.row n0 w) {b : Nat} {e : TypeId} {s : Nat} {v : Value} {n : Nat} {xs : List Value} (ho : w.ownsRow b e s v n xs) (he : 128 ≠ e) (hg : w.grownBy w' v.ownBlock) : a.row n0 w' := World.ownsRow.kept h hg (rows_apart h ho he)
theorem ActV.row.set {n0 : Nat} {w : World} {a : ActV} (h : a.row n0 w) (p : Addr) (v : Value) (hp : a.pipe.ops.ownBlock ≠ some p.block) : a.row n0 (w.setCell p v) := ownsRow_setCell_other h hp v
theorem ActV.row.nil {n0 : Nat} (w : World) (k t f n : Int) (m : Bool) (a b c d : Int) (z1 z2 z3 z4 z5 : Int) : ActV.row n0 w ⟨k, t, f, n, ⟨.slice none 0 0, [], z1, z2, z3, z4, z5⟩, m, a, b, c, d⟩ := World.ownsRow_nil _ _ _ _
theorem ActV.row.ne {n0 : Nat} {w : World} {a : ActV} (h : a.row n0 w) {b : Nat} (hb : w.heap.size ≤ b) : a.pipe.ops.ownBlock ≠ some b := fun e => by have := (World.ownsRow.lt h b e).2; omega
theorem own_shape {w : World} {base : Nat} {e : TypeId} {s : Nat} {v : Value} {n : Nat} {xs : List Value} (h : w.ownsRow base e s v n xs) : ∃ pa pl pc, v = .slice pa pl pc := by
  rcases h.2 with ⟨rfl, _⟩ | ⟨g, cap, cur, rfl, _⟩
  · exact ⟨_, _, _, rfl⟩
  · exact ⟨_, _, _, rfl⟩
theorem own_ne {w : World} {base : Nat} {e : TypeId} {s : Nat} {v : Value} {n : Nat} {xs : List Value} (h : w.ownsRow base e s v n xs) {b : Nat} (hb : w.heap.size ≤ b) : v.ownBlock ≠ some b := fun e => by have := (h.lt b e).2; omega
theorem IsR.drew {α : Type} {cs : α → List Value} {k : Nat} {w : World} {v : Value} {l : List α} (h : IsR cs k w v l) : IsR cs k w.drew v l := h.kept ((Below.refl _ w).drew)
/-- what a call that makes a list of acts leaves -/
def RetK (W : World) (n : Nat) (e : Ending) (w' : World) : Prop := ∃ (v : Value) (r : List ActV), e = .returned v ∧ w'.ownsRow W.heap.size 43 15 v r.length (cellsA r) ∧ r.length = n ∧ (∀ x ∈ r, ActBd x ∧ x.row W.heap.size w') ∧ Below W.heap.size W w'

set_option maxRecDepth 100000 in
set_option maxHeartbeats 16000000 in
theorem acts_any (W : World) (v : Value) (l : List KActV) (h : IsR KActV.cs 15 W v l) (hok : ∀ k ∈ l, k.ok W) :
    Calls Tryz.prog 11 #[v] W (RetK W (min l.length 40)) := by
  obtain ⟨al, cl, rfl, hl1, hl2, bl, ol, hl3, hl4⟩ := h
  unfold maxLen at hl2
  have H3 := Lib.hid hl3
  have H4 := Lib.hid hl4
  have HOK := Lib.hid hok
  clear hl3 hl4 hok
  obtain ⟨n, hn⟩ : ∃ n, n = min l.length 40 := ⟨_, rfl⟩
  rw [← hn]
  have hn1 : n ≤ 40 := by omega
  have hn2 : n ≤ l.length := by omega
  have HN3 := Lib.hid (show n = l.length ∨ n = 40 by omega)
  clear hn
  go_enter Tryz.func11, Tryz.ntmps11
  go_wp2_with fail
  go_loopg [3, 4] n (fun g v3 v4 wr => ∃ (i : Nat) (va : Option Addr) (vc : Nat) (L : List ActV), i ≤ n ∧ g = n - i ∧ v3 = .slice va i vc ∧ v4 = .int .i64 i ∧ L.length = i ∧ (∀ o ∈ L, ActBd o ∧ o.row W.heap.size wr) ∧ wr.ownsRow W.heap.size 43 15 (.slice va i vc) i (cellsA L) ∧ Below W.heap.size W wr)
  case atStart => exact ⟨0, none, 0, [], by omega, by omega, rfl, rfl, rfl, by simp, World.ownsRow_nil _ _ _ _, Below.refl _ _⟩
  case round =>
    obtain ⟨i, va, vc, L, hi, rfl, rfl, rfl, hL, hbd, ho, hb⟩ := hrel
    have HOr := Lib.hid ho
    have HBr := Lib.hid hb
    have HBD := Lib.hid hbd
    have HLr := Lib.hid hL
    have hb2 : W.heap.size ≤ wr.heap.size := hb.size
    obtain ⟨i0, hi3, hz0, hz1, hz2⟩ := info_parts info31
    have HI := Lib.hid (And.intro hi3 (And.intro hz0 (And.intro hz1 hz2)))
    clear hi3 hz0 hz1 hz2 ho hb hbd hL
    by_cases hlt : i < n
    · have hlt1 : i < 40 := by omega
      have hlt2 : i < l.length := by omega
      obtain ⟨rfl, hbl⟩ := H3.out (by omega)
      obtain ⟨x, hx⟩ : ∃ x, l[i]? = some x := ⟨l[i], by simp [hlt2]⟩
      have HX := Lib.hid (fun (j : Nat) (u : Value) (hj : x.cs[j]? = some u) => (HBr.out.cell (p := ⟨bl, ol + i * 15 + j, none⟩) hbl).trans (H4.out i x hx j u hj))
      have HKO := Lib.hid (HOK.out x (List.mem_of_getElem? hx))
      clear hx
      obtain ⟨kk, kt, kf, kn, vo, ol', vn, nl, sz, sl, ag, si, fd, ⟨T, K, V, M⟩⟩ := x
      obtain ⟨hok1, hok2⟩ := HKO.out
      have HO1 := Lib.hid hok1
      have HN1 := Lib.hid hok2
      obtain ⟨oa, oc, hv1, _⟩ := hok1
      obtain ⟨na, nc, hv2, _⟩ := hok2
      simp only at hv1 hv2 HO1 HN1
      subst hv1 hv2
      clear HKO
      have c0 := HX.out 0 _ rfl
      have c1 := HX.out 1 _ rfl
      have c2 := HX.out 2 _ rfl
      have c3 := HX.out 3 _ rfl
      have c4 := HX.out 4 _ rfl
      have c5 := HX.out 5 _ rfl
      have c6 := HX.out 6 _ rfl
      have c7 := HX.out 7 _ rfl
      have c8 := HX.out 8 _ rfl
      have c9 := HX.out 9 _ rfl
      have c10 := HX.out 10 _ rfl
      have c11 := HX.out 11 _ rfl
      have c12 := HX.out 12 _ rfl
      have c13 := HX.out 13 _ rfl
      have c14 := HX.out 14 _ rfl
      simp only [Nat.add_zero] at c0
      clear HX
      go_wp2_with fail
      refine wp_region_plS (fun x => At x wr.heap.size [.int .i64 kk, .int .i64 kt, .int .i64 kf, .int .i64 kn, .slice oa ol'.length oc, .slice na nl.length nc, .int .i64 sz, .int .i64 sl, .int .i64 ag, .int .i64 si, .int .i64 fd, .int .i64 T, .int .i64 K, .int .i64 V, .int .i64 M]) (fun w0 => At w0 wr.heap.size [.int .i64 kk, .int .i64 kt, .int .i64 kf, .int .i64 kn, .slice oa ol'.length oc, .slice na nl.length nc, .int .i64 sz, .int .i64 sl, .int .i64 ag, .int .i64 si, .int .i64 fd, .int .i64 T, .int .i64 K, .int .i64 V, .int .i64 M] ∧ Below W.heap.size W w0 ∧ w0.ownsRow W.heap.size 43 15 (.slice va i vc) i (cellsA L) ∧ (∀ o ∈ L, o.row W.heap.size w0) ∧ wr.heap.size + 1 ≤ w0.heap.size) ?ph6 (fun w0 h => h.1.drew) (.take 0 <| .take 1 <| .take 2 <| .take 3 <| .take 4 <| .take 5 <| .take 6 <| .take 7 <| .take 8 <| .take 9 <| .doo 10 <| .doo 11 <| .done) ?plL6 (by kernel_rfl) (by kernel_rfl) (by kernel_rfl) ?plH6 (by intro c a d v w; cases d <;> exact fun h => h) ?_
      case plH6 =>
        simp only [Pl.with, List.getElem?_toArray, List.getElem?_cons_zero, List.getElem?_cons_succ]
        try rfl
      case ph6 => exact ⟨At.new wr _ _, HBr.out.alloc hb2 _, HOr.out.alloc _, fun o ho => (HBD.out o ho).2.alloc _, by simp⟩
      rintro w1 ⟨ha, hb1, ho1, hr1, hsz⟩
      have HR1 := Lib.hid hr1
      have HA := Lib.hid ha
      have HB1 := Lib.hid hb1
      have HW1 := Lib.hid ho1
      have hsz1 : wr.heap.size < w1.heap.size := by omega
      clear ha hb1 ho1 hr1 hsz
      have q1 : ∀ x, At x wr.heap.size [.int .i64 kk, .int .i64 kt, .int .i64 kf, .int .i64 kn, .slice oa ol'.length oc, .slice na nl.length nc, .int .i64 sz, .int .i64 sl, .int .i64 ag, .int .i64 si, .int .i64 fd, .int .i64 T, .int .i64 K, .int .i64 V, .int .i64 M] → x.cell? ⟨wr.heap.size, 1, none⟩ = some (.int .i64 kt) := fun x hx => hx.c 1 _ rfl
      have q2 : ∀ x, At x wr.heap.size [.int .i64 kk, .int .i64 kt, .int .i64 kf, .int .i64 kn, .slice oa ol'.length oc, .slice na nl.length nc, .int .i64 sz, .int .i64 sl, .int .i64 ag, .int .i64 si, .int .i64 fd, .int .i64 T, .int .i64 K, .int .i64 V, .int .i64 M] → x.cell? ⟨wr.heap.size, 2, none⟩ = some (.int .i64 kf) := fun x hx => hx.c 2 _ rfl
      have q3 : ∀ x, At x wr.heap.size [.int .i64 kk, .int .i64 kt, .int .i64 kf, .int .i64 kn, .slice oa ol'.length oc, .slice na nl.length nc, .int .i64 sz, .int .i64 sl, .int .i64 ag, .int .i64 si, .int .i64 fd, .int .i64 T, .int .i64 K, .int .i64 V, .int .i64 M] → x.cell? ⟨wr.heap.size, 3, none⟩ = some (.int .i64 kn) := fun x hx => hx.c 3 _ rfl
      iterate 2 (refine wpPl_take (v := ?_) (by rfl) (fun w' hS => ?_) ?_; rotate_left; (focus (go_simp; with_reducible rfl)); simp only [Act.put, List.setIfInBounds_toArray, List.set_cons_zero, List.set_cons_succ])
      (refine wpPl_call (v := .int .i64 (within kt 0 3)) (f := 16) (args := #[.int .i64 kt, .int .i64 0, .int .i64 3]) (by rfl) (fun w' hS => ?_) (fun w' hS => within_any _ _ _ _ (by omega) (by omega) (by omega)) ?_; (focus (go_simp; done)); simp only [Act.put, List.setIfInBounds_toArray, List.set_cons_zero, List.set_cons_succ])
      iterate 2 (refine wpPl_take (v := ?_) (by rfl) (fun w' hS => ?_) ?_; rotate_left; (focus (go_simp; with_reducible rfl)); simp only [Act.put, List.setIfInBounds_toArray, List.set_cons_zero, List.set_cons_succ])
      (refine wpPl_call (v := .int .i64 (within kf (-1) 6)) (f := 16) (args := #[.int .i64 kf, .int .i64 (-1), .int .i64 6]) (by rfl) (fun w' hS => ?_) (fun w' hS => within_any _ _ _ _ (by omega) (by omega) (by omega)) ?_; (focus (go_simp; done)); simp only [Act.put, List.setIfInBounds_toArray, List.set_cons_zero, List.set_cons_succ])
      iterate 2 (refine wpPl_take (v := ?_) (by rfl) (fun w' hS => ?_) ?_; rotate_left; (focus (go_simp; with_reducible rfl)); simp only [Act.put, List.setIfInBounds_toArray, List.set_cons_zero, List.set_cons_succ])
      (refine wpPl_call (v := .int .i64 (within kn (-1) 9)) (f := 16) (args := #[.int .i64 kn, .int .i64 (-1), .int .i64 9]) (by rfl) (fun w' hS => ?_) (fun w' hS => within_any _ _ _ _ (by omega) (by omega) (by omega)) ?_; (focus (go_simp; done)); simp only [Act.put, List.setIfInBounds_toArray, List.set_cons_zero, List.set_cons_succ])
      clear q1 q2 q3
      have b1 := within_bd kt 0 3 (by omega)
      have b2 := within_bd kf (-1) 6 (by omega)
      have b3 := within_bd kn (-1) 9 (by omega)
      have b4 := within_bd kk 0 9 (by omega)
      obtain ⟨tn, ht⟩ : ∃ t, within kt 0 3 = t := ⟨_, rfl⟩
      obtain ⟨fr, hf⟩ : ∃ t, within kf (-1) 6 = t := ⟨_, rfl⟩
      obtain ⟨nn, hn⟩ : ∃ t, within kn (-1) 9 = t := ⟨_, rfl⟩
      obtain ⟨c, hc⟩ : ∃ t, within kk 0 9 = t := ⟨_, rfl⟩
      rw [ht] at b1
      rw [hf] at b2
      rw [hn] at b3
      rw [hc] at b4
      have HC := Lib.hid hc
      simp only [ht, hf, hn]
      clear ht hf hn hc
      iterate 1 (refine wpPl_take (v := ?_) (by rfl) (fun w' hS => ?_) ?_; rotate_left; (focus (go_simp; with_reducible rfl)); simp only [Act.put, List.setIfInBounds_toArray, List.set_cons_zero, List.set_cons_succ])
      refine wpPl_do (by rfl) (fun K hK => ?_)
      go_wp2_with fail
      refine ⟨HA.out.drew.alloc _, ?_⟩
      refine wpPl_do (by rfl) (fun K hK => ?_)
      go_wp2_with fail
      refine ⟨(HA.out.alloc _).drew, ?_⟩
      refine wpPl_done ?_
      have k0 := HA.out.c 0 _ rfl
      go_upto_block 2 with (go_at_call 16; (with_reducible refine (within_any _ _ _ _ (by omega) (by omega) (by omega)).mono ?_); rintro e w1 ⟨rfl, rfl⟩; rw [HC.out])
      clear k0
      go_cut [35] (fun s35 wx => ∃ (x : ActV) (pa : Option Addr) (pl pc : Nat), x.pipe.ops = .slice pa pl pc ∧ At wx w1.heap.size x.cs ∧ ActBd x ∧ x.row W.heap.size wx ∧ wx.ownsRow W.heap.size 43 15 (.slice va i vc) i (cellsA L) ∧ (∀ o ∈ L, o.row W.heap.size wx) ∧ Below W.heap.size W wx)
      case first =>
        rcases (by omega : c = 0 ∨ c = 1 ∨ c = 2 ∨ c = 3 ∨ c = 4 ∨ c = 5 ∨ c = 6 ∨ c = 7 ∨ c = 8 ∨ c = 9) with hcc | hcc | hcc | hcc | hcc | hcc | hcc | hcc | hcc | hcc
        · subst hcc
          have k4 := HA.out.c 4 _ rfl
          have k5 := HA.out.c 5 _ rfl
          have k6 := HA.out.c 6 _ rfl
          have k7 := HA.out.c 7 _ rfl
          have k8 := HA.out.c 8 _ rfl
          have k9 := HA.out.c 9 _ rfl
          have k10 := HA.out.c 10 _ rfl
          go_wp2_with (go_at_call 24; (with_reducible refine (pipe_any _ _ _ ol' nl sz sl ag si fd (HO1.out.kept (HB1.out.alloc HB1.out.size _).drew) (HN1.out.kept (HB1.out.alloc HB1.out.size _).drew)).mono ?_); rintro e w2 ⟨p, rfl, hrow, hbdp, hb⟩; have HROW := Lib.hid hrow; have HBP := Lib.hid hbdp; have HB2 := Lib.hid (below_step (HB1.out.alloc HB1.out.size _).drew hb); have HT2 := Lib.hid (show At w2 w1.heap.size [.int .i64 0, .int .i64 tn, .int .i64 fr, .int .i64 nn, .slice none 0 0, .int .i64 0, .int .i64 0, .int .i64 0, .int .i64 0, .int .i64 0, .bool false, .int .i64 0, .int .i64 0, .int .i64 0, .int .u64 0] from ((At.new w1 _ _).drew).below hb); have HO2 := Lib.hid (((HW1.out.alloc _).drew).kept (grown_of_below hb none) (Classical.em _)); have HR2 := Lib.hid (fun (o : ActV) (ho : o ∈ L) => (((HR1.out o ho).alloc _).drew).kept hb); have hsz2 := hb.size; simp at hsz2; clear hrow hbdp hb; obtain ⟨po, p2, p3, p4, p5, p6, p7⟩ := p; obtain ⟨pa, pl, pc, hpo⟩ := (show ∃ pa pl pc, po = .slice pa pl pc from own_shape HROW.out); subst hpo; simp only [PipeV.val]; have s0 := HT2.out.c 0 _ rfl; have s4 := HT2.out.c 4 _ rfl; have s5 := HT2.out.c 5 _ rfl; have s6 := HT2.out.c 6 _ rfl; have s7 := HT2.out.c 7 _ rfl; have s8 := HT2.out.c 8 _ rfl; have s9 := HT2.out.c 9 _ rfl; have f0 := HT2.out.f 0; have f4 := HT2.out.f 4; have f5 := HT2.out.f 5; have f6 := HT2.out.f 6; have f7 := HT2.out.f 7; have f8 := HT2.out.f 8; have f9 := HT2.out.f 9)
          go_meet
          case rel =>
            have hneL : ∀ o ∈ L, o.pipe.ops.ownBlock ≠ some w1.heap.size := fun o ho => (HR1.out o ho).ne (Nat.le_refl _)
            have hneO := own_ne HW1.out (Nat.le_refl w1.heap.size)
            have hneP : (Value.slice pa pl pc).ownBlock ≠ some w1.heap.size := fun e => by have := (HROW.out.lt _ e).1; simp at this; omega
            have hrow : ActV.row W.heap.size w2 ⟨1, tn, fr, nn, ⟨.slice pa pl pc, p2, p3, p4, p5, p6, p7⟩, false, 0, 0, 0, 0⟩ := ownsRow_base HROW.out (by have := HB1.out.size; simp; omega)
            have hle := HB1.out.size
            refine ⟨⟨1, tn, fr, nn, ⟨.slice pa pl pc, p2, p3, p4, p5, p6, p7⟩, false, 0, 0, 0, 0⟩, pa, pl, pc, rfl, At.putP HT2.out _ _ _ _ _ _ _, ⟨by simp, by simp, b1.1, b1.2, b2.1, b2.2, b3.1, b3.2, fun _ => HBP.out, fun h => by simp at h⟩, ?_, ?_, fun o ho => ?_, ?_⟩
            · exact (((((((hrow).set _ _ hneP).set _ _ hneP).set _ _ hneP).set _ _ hneP).set _ _ hneP).set _ _ hneP).set _ _ hneP
            · exact ownsRow_setCell_other (ownsRow_setCell_other (ownsRow_setCell_other (ownsRow_setCell_other (ownsRow_setCell_other (ownsRow_setCell_other (ownsRow_setCell_other (HO2.out) hneO _) hneO _) hneO _) hneO _) hneO _) hneO _) hneO _
            · exact ((((((((HR2.out o ho)).set _ _ (hneL o ho)).set _ _ (hneL o ho)).set _ _ (hneL o ho)).set _ _ (hneL o ho)).set _ _ (hneL o ho)).set _ _ (hneL o ho)).set _ _ (hneL o ho)
            · exact (((((((HB2.out).setCell hle _).setCell hle _).setCell hle _).setCell hle _).setCell hle _).setCell hle _).setCell hle _
        · subst hcc
          go_wp2_with fail
          refine wp_region_plS (fun x => At x wr.heap.size [.int .i64 kk, .int .i64 kt, .int .i64 kf, .int .i64 kn, .slice oa ol'.length oc, .slice na nl.length nc, .int .i64 sz, .int .i64 sl, .int .i64 ag, .int .i64 si, .int .i64 fd, .int .i64 T, .int .i64 K, .int .i64 V, .int .i64 M]) (fun w0 => At w0 wr.heap.size [.int .i64 kk, .int .i64 kt, .int .i64 kf, .int .i64 kn, .slice oa ol'.length oc, .slice na nl.length nc, .int .i64 sz, .int .i64 sl, .int .i64 ag, .int .i64 si, .int .i64 fd, .int .i64 T, .int .i64 K, .int .i64 V, .int .i64 M] ∧ At w0 w1.heap.size [.int .i64 0, .int .i64 tn, .int .i64 fr, .int .i64 nn, .slice none 0 0, .int .i64 0, .int .i64 0, .int .i64 0, .int .i64 0, .int .i64 0, .bool false, .int .i64 0, .int .i64 0, .int .i64 0, .int .u64 0] ∧ Below W.heap.size W w0 ∧ w0.ownsRow W.heap.size 43 15 (.slice va i vc) i (cellsA L) ∧ (∀ o ∈ L, o.row W.heap.size w0) ∧ w1.heap.size + 1 ≤ w0.heap.size) ?ph16_1 (fun w0 h => h.1.drew) (.take 0 <| .take 1 <| .take 6 <| .doo 2 <| .doo 3 <| .take 4 <| .two 5 7 <| .take 8 <| .doo 9 <| .done) ?plL16_1 (by kernel_rfl) (by kernel_rfl) (by kernel_rfl) ?plH16_1 (by intro c a d v w; cases d <;> exact fun h => h) ?_
          case plH16_1 =>
            simp only [Pl.with, List.getElem?_toArray, List.getElem?_cons_zero, List.getElem?_cons_succ]
            try rfl
          case ph16_1 => exact ⟨(HA.out.alloc _).drew, (At.new w1 _ _).drew, (HB1.out.alloc HB1.out.size _).drew, (HW1.out.alloc _).drew, fun o ho => ((HR1.out o ho).alloc _).drew, by simp⟩
          rintro w6 ⟨ha6, ht6, hb6, ho6, hr6, hsz6⟩
          have HT6 := Lib.hid ht6
          have HB6 := Lib.hid hb6
          have HO6 := Lib.hid ho6
          have HR6 := Lib.hid hr6
          have HA6 := Lib.hid ha6
          have hle := HB1.out.size
          clear ha6 ht6 hb6 ho6 hr6
          have q1 : ∀ x, At x wr.heap.size [.int .i64 kk, .int .i64 kt, .int .i64 kf, .int .i64 kn, .slice oa ol'.length oc, .slice na nl.length nc, .int .i64 sz, .int .i64 sl, .int .i64 ag, .int .i64 si, .int .i64 fd, .int .i64 T, .int .i64 K, .int .i64 V, .int .i64 M] → x.cell? ⟨wr.heap.size, 11, none⟩ = some (.int .i64 T) := fun x hx => hx.c 11 _ rfl
          have q2 : ∀ x, At x wr.heap.size [.int .i64 kk, .int .i64 kt, .int .i64 kf, .int .i64 kn, .slice oa ol'.length oc, .slice na nl.length nc, .int .i64 sz, .int .i64 sl, .int .i64 ag, .int .i64 si, .int .i64 fd, .int .i64 T, .int .i64 K, .int .i64 V, .int .i64 M] → x.cell? ⟨wr.heap.size, 12, none⟩ = some (.int .i64 K) := fun x hx => hx.c 12 _ rfl
          have q3 : ∀ x, At x wr.heap.size [.int .i64 kk, .int .i64 kt, .int .i64 kf, .int .i64 kn, .slice oa ol'.length oc, .slice na nl.length nc, .int .i64 sz, .int .i64 sl, .int .i64 ag, .int .i64 si, .int .i64 fd, .int .i64 T, .int .i64 K, .int .i64 V, .int .i64 M] → x.cell? ⟨wr.heap.size, 13, none⟩ = some (.int .i64 V) := fun x hx => hx.c 13 _ rfl
          have q4 : ∀ x, At x wr.heap.size [.int .i64 kk, .int .i64 kt, .int .i64 kf, .int .i64 kn, .slice oa ol'.length oc, .slice na nl.length nc, .int .i64 sz, .int .i64 sl, .int .i64 ag, .int .i64 si, .int .i64 fd, .int .i64 T, .int .i64 K, .int .i64 V, .int .i64 M] → x.cell? ⟨wr.heap.size, 14, none⟩ = some (.int .i64 M) := fun x hx => hx.c 14 _ rfl
          iterate 3 (refine wpPl_take (v := ?_) (by rfl) (fun w' hS => ?_) ?_; rotate_left; (focus (go_simp; with_reducible rfl)); simp only [Act.put, List.setIfInBounds_toArray, List.set_cons_zero, List.set_cons_succ])
          clear q1 q2 q3 q4
          refine wpPl_do (by rfl) (fun KK hKK => ?_)
          go_wp2_with fail
          refine ⟨HA6.out.drew.alloc _, ?_⟩
          refine wpPl_do (by rfl) (fun KK hKK => ?_)
          go_wp2_with (go_at_call 22; (with_reducible refine (inputs_any _ _ [⟨T, K, V, M⟩] (IsR.of_row4 w6 ⟨T, K, V, M⟩ _).drew).mono ?_); rintro e w7 ⟨vr, r, rfl, hor, hlr, hbdr, hb7⟩; have HLR := Lib.hid hlr; have HBDR := Lib.hid hbdr; have HOR := Lib.hid hor; have HA7 := Lib.hid (((HA6.out.alloc _).drew).below hb7); have HT7 := Lib.hid (((HT6.out.alloc _).drew).below hb7); have HB7 := Lib.hid (below_step ((HB6.out.alloc HB6.out.size _).drew) hb7); have HO7 := Lib.hid (((HO6.out.alloc _).drew).kept (grown_of_below hb7 none) (Classical.em _)); have HR7 := Lib.hid (fun (o : ActV) (ho : o ∈ L) => (((HR6.out o ho).alloc _).drew).kept hb7); have hsz7 := hb7.size; simp at hsz7; clear hlr hbdr hor hb7)
          refine ⟨HA7.out, ?_⟩
          obtain ⟨y, rfl⟩ : ∃ y, r = [y] := by
            have := HLR.out
            match r, this with
            | [y], _ => exact ⟨y, rfl⟩
          obtain ⟨g7, cap7, hvr, hg7, _, hcap7, _, hcs7⟩ := own_form HOR.out (by simp)
          simp only [List.length_cons, List.length_nil, Nat.zero_add] at hvr
          subst hvr
          have hc7 : 1 ≤ cap7 := by simpa using hcap7
          have HC7 := Lib.hid hcs7
          have HBY := Lib.hid (HBDR.out y (by simp))
          obtain ⟨ym, yt, yk, yv, yl⟩ := y
          have z0 := HC7.out 0 _ rfl
          have z1 := HC7.out 1 _ rfl
          have z2 := HC7.out 2 _ rfl
          have z3 := HC7.out 3 _ rfl
          have z4 := HC7.out 4 _ rfl
          clear hcs7 hcap7
          simp at hg7
          iterate 1 (refine wpPl_take (v := ?_) (by rfl) (fun w' hS => ?_) ?_; rotate_left; (focus (go_simp; with_reducible rfl)); simp only [Act.put, List.setIfInBounds_toArray, List.set_cons_zero, List.set_cons_succ])
          have s0 := HT7.out.c 0 _ rfl
          have s10 := HT7.out.c 10 _ rfl
          have s11 := HT7.out.c 11 _ rfl
          have s12 := HT7.out.c 12 _ rfl
          have s13 := HT7.out.c 13 _ rfl
          have s14 := HT7.out.c 14 _ rfl
          have f0 := HT7.out.f 0
          have f10 := HT7.out.f 10
          have f11 := HT7.out.f 11
          have f12 := HT7.out.f 12
          have f13 := HT7.out.f 13
          have f14 := HT7.out.f 14
          have HA7b := Lib.hid (show At (w7.setCell ⟨w1.heap.size, 0, none⟩ (.int .i64 2)) wr.heap.size [.int .i64 kk, .int .i64 kt, .int .i64 kf, .int .i64 kn, .slice oa ol'.length oc, .slice na nl.length nc, .int .i64 sz, .int .i64 sl, .int .i64 ag, .int .i64 si, .int .i64 fd, .int .i64 T, .int .i64 K, .int .i64 V, .int .i64 M] from HA7.out.other _ _ (by simp; omega))
          refine wpPl_two (fun u v y => u = .agg #[.bool ym, .int .i64 yt, .int .i64 yk, .int .i64 yv, .int .u64 yl] ∧ y = w7.setCell ⟨w1.heap.size, 0, none⟩ (.int .i64 2)) (by rfl) (by rfl) (by rintro d ⟨⟩; simp) (fun KK hKK => ?_) (fun KK hKK => ?_) ?_
          · go_wp2_with fail
            refine ⟨HA7.out, wpOne_do (by rfl) (fun KK hKK => ?_)⟩
            go_wp2_with fail
            first | exact HA7b.out | exact ⟨HA7b.out, rfl⟩ | exact ⟨HA7b.out, rfl, rfl⟩ | exact ⟨HA7b.out, _, rfl, rfl, rfl⟩
          · go_wp2_with fail
            refine ⟨HA7b.out, wpOne_do (by rfl) (fun KK hKK => ?_)⟩
            go_wp2_with fail
            first | exact HA7b.out | exact ⟨HA7b.out, rfl⟩ | exact ⟨HA7b.out, rfl, rfl⟩ | exact ⟨HA7b.out, _, rfl, rfl, rfl⟩
          rintro u v y ⟨rfl, rfl⟩ hS5
          simp only [Act.put, List.setIfInBounds_toArray, List.set_cons_zero, List.set_cons_succ]
          iterate 1 (refine wpPl_take (v := ?_) (by rfl) (fun w' hS => ?_) ?_; rotate_left; (focus (go_simp; with_reducible rfl)); simp only [Act.put, List.setIfInBounds_toArray, List.set_cons_zero, List.set_cons_succ])
          refine wpPl_do (by rfl) (fun KK hKK => ?_)
          go_wp2_with fail
          refine ⟨?_, ?_⟩
          · exact ((((((HA7.out).other _ _ (by simp; omega)).other _ _ (by simp; omega)).other _ _ (by simp; omega)).other _ _ (by simp; omega)).other _ _ (by simp; omega)).other _ _ (by simp; omega)
          refine wpPl_done ?_
          go_wp2_with fail
          go_meet
          case rel =>
            have hneL : ∀ o ∈ L, o.pipe.ops.ownBlock ≠ some w1.heap.size := fun o ho => (HR1.out o ho).ne (Nat.le_refl _)
            have hneO := own_ne HW1.out (Nat.le_refl w1.heap.size)
            refine ⟨⟨2, tn, fr, nn, ⟨.slice none 0 0, [], 0, 0, 0, 0, 0⟩, ym, yt, yk, yv, yl⟩, none, 0, 0, rfl, At.putI HT7.out _ _ _ _ _ _, ⟨by simp, by simp, b1.1, b1.2, b2.1, b2.2, b3.1, b3.2, fun h => by simp at h, fun _ => HBY.out⟩, ActV.row.nil _ _ _ _ _ _ _ _ _ _ _ _ _ _ _, ?_, fun o ho => ?_, ?_⟩
            · exact ownsRow_setCell_other (ownsRow_setCell_other (ownsRow_setCell_other (ownsRow_setCell_other (ownsRow_setCell_other (ownsRow_setCell_other (HO7.out) hneO _) hneO _) hneO _) hneO _) hneO _) hneO _
            · exact (((((((HR7.out o ho)).set _ _ (hneL o ho)).set _ _ (hneL o ho)).set _ _ (hneL o ho)).set _ _ (hneL o ho)).set _ _ (hneL o ho)).set _ _ (hneL o ho)
            · exact ((((((HB7.out).setCell hle _).setCell hle _).setCell hle _).setCell hle _).setCell hle _).setCell hle _
        · subst hcc
          go_wp2_with fail
          refine wp_region_plS (fun x => At x wr.heap.size [.int .i64 kk, .int .i64 kt, .int .i64 kf, .int .i64 kn, .slice oa ol'.length oc, .slice na nl.length nc, .int .i64 sz, .int .i64 sl, .int .i64 ag, .int .i64 si, .int .i64 fd, .int .i64 T, .int .i64 K, .int .i64 V, .int .i64 M]) (fun w0 => At w0 wr.heap.size [.int .i64 kk, .int .i64 kt, .int .i64 kf, .int .i64 kn, .slice oa ol'.length oc, .slice na nl.length nc, .int .i64 sz, .int .i64 sl, .int .i64 ag, .int .i64 si, .int .i64 fd, .int .i64 T, .int .i64 K, .int .i64 V, .int .i64 M] ∧ At w0 w1.heap.size [.int .i64 0, .int .i64 tn, .int .i64 fr, .int .i64 nn, .slice none 0 0, .int .i64 0, .int .i64 0, .int .i64 0, .int .i64 0, .int .i64 0, .bool false, .int .i64 0, .int .i64 0, .int .i64 0, .int .u64 0] ∧ Below W.heap.size W w0 ∧ w0.ownsRow W.heap.size 43 15 (.slice va i vc) i (cellsA L) ∧ (∀ o ∈ L, o.row W.heap.size w0) ∧ w1.heap.size + 1 ≤ w0.heap.size) ?ph16_2 (fun w0 h => h.1.drew) (.take 0 <| .take 1 <| .take 6 <| .doo 2 <| .doo 3 <| .take 4 <| .two 5 7 <| .take 8 <| .doo 9 <| .done) ?plL16_2 (by kernel_rfl) (by kernel_rfl) (by kernel_rfl) ?plH16_2 (by intro c a d v w; cases d <;> exact fun h => h) ?_
          case plH16_2 =>
            simp only [Pl.with, List.getElem?_toArray, List.getElem?_cons_zero, List.getElem?_cons_succ]
            try rfl
          case ph16_2 => exact ⟨(HA.out.alloc _).drew, (At.new w1 _ _).drew, (HB1.out.alloc HB1.out.size _).drew, (HW1.out.alloc _).drew, fun o ho => ((HR1.out o ho).alloc _).drew, by simp⟩
          rintro w6 ⟨ha6, ht6, hb6, ho6, hr6, hsz6⟩
          have HT6 := Lib.hid ht6
          have HB6 := Lib.hid hb6
          have HO6 := Lib.hid ho6
          have HR6 := Lib.hid hr6
          have HA6 := Lib.hid ha6
          have hle := HB1.out.size
          clear ha6 ht6 hb6 ho6 hr6
          have q1 : ∀ x, At x wr.heap.size [.int .i64 kk, .int .i64 kt, .int .i64 kf, .int .i64 kn, .slice oa ol'.length oc, .slice na nl.length nc, .int .i64 sz, .int .i64 sl, .int .i64 ag, .int .i64 si, .int .i64 fd, .int .i64 T, .int .i64 K, .int .i64 V, .int .i64 M] → x.cell? ⟨wr.heap.size, 11, none⟩ = some (.int .i64 T) := fun x hx => hx.c 11 _ rfl
          have q2 : ∀ x, At x wr.heap.size [.int .i64 kk, .int .i64 kt, .int .i64 kf, .int .i64 kn, .slice oa ol'.length oc, .slice na nl.length nc, .int .i64 sz, .int .i64 sl, .int .i64 ag, .int .i64 si, .int .i64 fd, .int .i64 T, .int .i64 K, .int .i64 V, .int .i64 M] → x.cell? ⟨wr.heap.size, 12, none⟩ = some (.int .i64 K) := fun x hx => hx.c 12 _ rfl
          have q3 : ∀ x, At x wr.heap.size [.int .i64 kk, .int .i64 kt, .int .i64 kf, .int .i64 kn, .slice oa ol'.length oc, .slice na nl.length nc, .int .i64 sz, .int .i64 sl, .int .i64 ag, .int .i64 si, .int .i64 fd, .int .i64 T, .int .i64 K, .int .i64 V, .int .i64 M] → x.cell? ⟨wr.heap.size, 13, none⟩ = some (.int .i64 V) := fun x hx => hx.c 13 _ rfl
          have q4 : ∀ x, At x wr.heap.size [.int .i64 kk, .int .i64 kt, .int .i64 kf, .int .i64 kn, .slice oa ol'.length oc, .slice na nl.length nc, .int .i64 sz, .int .i64 sl, .int .i64 ag, .int .i64 si, .int .i64 fd, .int .i64 T, .int .i64 K, .int .i64 V, .int .i64 M] → x.cell? ⟨wr.heap.size, 14, none⟩ = some (.int .i64 M) := fun x hx => hx.c 14 _ rfl
          iterate 3 (refine wpPl_take (v := ?_) (by rfl) (fun w' hS => ?_) ?_; rotate_left; (focus (go_simp; with_reducible rfl)); simp only [Act.put, List.setIfInBounds_toArray, List.set_cons_zero, List.set_cons_succ])
          clear q1 q2 q3 q4
          refine wpPl_do (by rfl) (fun KK hKK => ?_)
          go_wp2_with fail
          refine ⟨HA6.out.drew.alloc _, ?_⟩
          refine wpPl_do (by rfl) (fun KK hKK => ?_)
          go_wp2_with (go_at_call 22; (with_reducible refine (inputs_any _ _ [⟨T, K, V, M⟩] (IsR.of_row4 w6 ⟨T, K, V, M⟩ _).drew).mono ?_); rintro e w7 ⟨vr, r, rfl, hor, hlr, hbdr, hb7⟩; have HLR := Lib.hid hlr; have HBDR := Lib.hid hbdr; have HOR := Lib.hid hor; have HA7 := Lib.hid (((HA6.out.alloc _).drew).below hb7); have HT7 := Lib.hid (((HT6.out.alloc _).drew).below hb7); have HB7 := Lib.hid (below_step ((HB6.out.alloc HB6.out.size _).drew) hb7); have HO7 := Lib.hid (((HO6.out.alloc _).drew).kept (grown_of_below hb7 none) (Classical.em _)); have HR7 := Lib.hid (fun (o : ActV) (ho : o ∈ L) => (((HR6.out o ho).alloc _).drew).kept hb7); have hsz7 := hb7.size; simp at hsz7; clear hlr hbdr hor hb7)
          refine ⟨HA7.out, ?_⟩
          obtain ⟨y, rfl⟩ : ∃ y, r = [y] := by
            have := HLR.out
            match r, this with
            | [y], _ => exact ⟨y, rfl⟩
          obtain ⟨g7, cap7, hvr, hg7, _, hcap7, _, hcs7⟩ := own_form HOR.out (by simp)
          simp only [List.length_cons, List.length_nil, Nat.zero_add] at hvr
          subst hvr
          have hc7 : 1 ≤ cap7 := by simpa using hcap7
          have HC7 := Lib.hid hcs7
          have HBY := Lib.hid (HBDR.out y (by simp))
          obtain ⟨ym, yt, yk, yv, yl⟩ := y
          have z0 := HC7.out 0 _ rfl
          have z1 := HC7.out 1 _ rfl
          have z2 := HC7.out 2 _ rfl
          have z3 := HC7.out 3 _ rfl
          have z4 := HC7.out 4 _ rfl
          clear hcs7 hcap7
          simp at hg7
          iterate 1 (refine wpPl_take (v := ?_) (by rfl) (fun w' hS => ?_) ?_; rotate_left; (focus (go_simp; with_reducible rfl)); simp only [Act.put, List.setIfInBounds_toArray, List.set_cons_zero, List.set_cons_succ])
          have s0 := HT7.out.c 0 _ rfl
          have s10 := HT7.out.c 10 _ rfl
          have s11 := HT7.out.c 11 _ rfl
          have s12 := HT7.out.c 12 _ rfl
          have s13 := HT7.out.c 13 _ rfl
          have s14 := HT7.out.c 14 _ rfl
          have f0 := HT7.out.f 0
          have f10 := HT7.out.f 10
          have f11 := HT7.out.f 11
          have f12 := HT7.out.f 12
          have f13 := HT7.out.f 13
          have f14 := HT7.out.f 14
          have HA7b := Lib.hid (show At (w7.setCell ⟨w1.heap.size, 0, none⟩ (.int .i64 2)) wr.heap.size [.int .i64 kk, .int .i64 kt, .int .i64 kf, .int .i64 kn, .slice oa ol'.length oc, .slice na nl.length nc, .int .i64 sz, .int .i64 sl, .int .i64 ag, .int .i64 si, .int .i64 fd, .int .i64 T, .int .i64 K, .int .i64 V, .int .i64 M] from HA7.out.other _ _ (by simp; omega))
          refine wpPl_two (fun u v y => u = .agg #[.bool ym, .int .i64 yt, .int .i64 yk, .int .i64 yv, .int .u64 yl] ∧ y = w7.setCell ⟨w1.heap.size, 0, none⟩ (.int .i64 2)) (by rfl) (by rfl) (by rintro d ⟨⟩; simp) (fun KK hKK => ?_) (fun KK hKK => ?_) ?_
          · go_wp2_with fail
            refine ⟨HA7.out, wpOne_do (by rfl) (fun KK hKK => ?_)⟩
            go_wp2_with fail
            first | exact HA7b.out | exact ⟨HA7b.out, rfl⟩ | exact ⟨HA7b.out, rfl, rfl⟩ | exact ⟨HA7b.out, _, rfl, rfl, rfl⟩
          · go_wp2_with fail
            refine ⟨HA7b.out, wpOne_do (by rfl) (fun KK hKK => ?_)⟩
            go_wp2_with fail
            first | exact HA7b.out | exact ⟨HA7b.out, rfl⟩ | exact ⟨HA7b.out, rfl, rfl⟩ | exact ⟨HA7b.out, _, rfl, rfl, rfl⟩
          rintro u v y ⟨rfl, rfl⟩ hS5
          simp only [Act.put, List.setIfInBounds_toArray, List.set_cons_zero, List.set_cons_succ]
          iterate 1 (refine wpPl_take (v := ?_) (by rfl) (fun w' hS => ?_) ?_; rotate_left; (focus (go_simp; with_reducible rfl)); simp only [Act.put, List.setIfInBounds_toArray, List.set_cons_zero, List.set_cons_succ])
          refine wpPl_do (by rfl) (fun KK hKK => ?_)
          go_wp2_with fail
          refine ⟨?_, ?_⟩
          · exact ((((((HA7.out).other _ _ (by simp; omega)).other _ _ (by simp; omega)).other _ _ (by simp; omega)).other _ _ (by simp; omega)).other _ _ (by simp; omega)).other _ _ (by simp; omega)
          refine wpPl_done ?_
          go_wp2_with fail
          go_meet
          case rel =>
            have hneL : ∀ o ∈ L, o.pipe.ops.ownBlock ≠ some w1.heap.size := fun o ho => (HR1.out o ho).ne (Nat.le_refl _)
            have hneO := own_ne HW1.out (Nat.le_refl w1.heap.size)
            refine ⟨⟨2, tn, fr, nn, ⟨.slice none 0 0, [], 0, 0, 0, 0, 0⟩, ym, yt, yk, yv, yl⟩, none, 0, 0, rfl, At.putI HT7.out _ _ _ _ _ _, ⟨by simp, by simp, b1.1, b1.2, b2.1, b2.2, b3.1, b3.2, fun h => by simp at h, fun _ => HBY.out⟩, ActV.row.nil _ _ _ _ _ _ _ _ _ _ _ _ _ _ _, ?_, fun o ho => ?_, ?_⟩
            · exact ownsRow_setCell_other (ownsRow_setCell_other (ownsRow_setCell_other (ownsRow_setCell_other (ownsRow_setCell_other (ownsRow_setCell_other (HO7.out) hneO _) hneO _) hneO _) hneO _) hneO _) hneO _
            · exact (((((((HR7.out o ho)).set _ _ (hneL o ho)).set _ _ (hneL o ho)).set _ _ (hneL o ho)).set _ _ (hneL o ho)).set _ _ (hneL o ho)).set _ _ (hneL o ho)
            · exact ((((((HB7.out).setCell hle _).setCell hle _).setCell hle _).setCell hle _).setCell hle _).setCell hle _
        · subst hcc
          go_wp2_with fail
          refine wp_region_plS (fun x => At x wr.heap.size [.int .i64 kk, .int .i64 kt, .int .i64 kf, .int .i64 kn, .slice oa ol'.length oc, .slice na nl.length nc, .int .i64 sz, .int .i64 sl, .int .i64 ag, .int .i64 si, .int .i64 fd, .int .i64 T, .int .i64 K, .int .i64 V, .int .i64 M]) (fun w0 => At w0 wr.heap.size [.int .i64 kk, .int .i64 kt, .int .i64 kf, .int .i64 kn, .slice oa ol'.length oc, .slice na nl.length nc, .int .i64 sz, .int .i64 sl, .int .i64 ag, .int .i64 si, .int .i64 fd, .int .i64 T, .int .i64 K, .int .i64 V, .int .i64 M] ∧ At w0 w1.heap.size [.int .i64 0, .int .i64 tn, .int .i64 fr, .int .i64 nn, .slice none 0 0, .int .i64 0, .int .i64 0, .int .i64 0, .int .i64 0, .int .i64 0, .bool false, .int .i64 0, .int .i64 0, .int .i64 0, .int .u64 0] ∧ Below W.heap.size W w0 ∧ w0.ownsRow W.heap.size 43 15 (.slice va i vc) i (cellsA L) ∧ (∀ o ∈ L, o.row W.heap.size w0) ∧ w1.heap.size + 1 ≤ w0.heap.size) ?ph16_3 (fun w0 h => h.1.drew) (.take 0 <| .take 1 <| .take 6 <| .doo 2 <| .doo 3 <| .take 4 <| .two 5 7 <| .take 8 <| .doo 9 <| .done) ?plL16_3 (by kernel_rfl) (by kernel_rfl) (by kernel_rfl) ?plH16_3 (by intro c a d v w; cases d <;> exact fun h => h) ?_
          case plH16_3 =>
            simp only [Pl.with, List.getElem?_toArray, List.getElem?_cons_zero, List.getElem?_cons_succ]
            try rfl
          case ph16_3 => exact ⟨(HA.out.alloc _).drew, (At.new w1 _ _).drew, (HB1.out.alloc HB1.out.size _).drew, (HW1.out.alloc _).drew, fun o ho => ((HR1.out o ho).alloc _).drew, by simp⟩
          rintro w6 ⟨ha6, ht6, hb6, ho6, hr6, hsz6⟩
          have HT6 := Lib.hid ht6
          have HB6 := Lib.hid hb6
          have HO6 := Lib.hid ho6
          have HR6 := Lib.hid hr6
          have HA6 := Lib.hid ha6
          have hle := HB1.out.size
          clear ha6 ht6 hb6 ho6 hr6
          have q1 : ∀ x, At x wr.heap.size [.int .i64 kk, .int .i64 kt, .int .i64 kf, .int .i64 kn, .slice oa ol'.length oc, .slice na nl.length nc, .int .i64 sz, .int .i64 sl, .int .i64 ag, .int .i64 si, .int .i64 fd, .int .i64 T, .int .i64 K, .int .i64 V, .int .i64 M] → x.cell? ⟨wr.heap.size, 11, none⟩ = some (.int .i64 T) := fun x hx => hx.c 11 _ rfl
          have q2 : ∀ x, At x wr.heap.size [.int .i64 kk, .int .i64 kt, .int .i64 kf, .int .i64 kn, .slice oa ol'.length oc, .slice na nl.length nc, .int .i64 sz, .int .i64 sl, .int .i64 ag, .int .i64 si, .int .i64 fd, .int .i64 T, .int .i64 K, .int .i64 V, .int .i64 M] → x.cell? ⟨wr.heap.size, 12, none⟩ = some (.int .i64 K) := fun x hx => hx.c 12 _ rfl
          have q3 : ∀ x, At x wr.heap.size [.int .i64 kk, .int .i64 kt, .int .i64 kf, .int .i64 kn, .slice oa ol'.length oc, .slice na nl.length nc, .int .i64 sz, .int .i64 sl, .int .i64 ag, .int .i64 si, .int .i64 fd, .int .i64 T, .int .i64 K, .int .i64 V, .int .i64 M] → x.cell? ⟨wr.heap.size, 13, none⟩ = some (.int .i64 V) := fun x hx => hx.c 13 _ rfl
          have q4 : ∀ x, At x wr.heap.size [.int .i64 kk, .int .i64 kt, .int .i64 kf, .int .i64 kn, .slice oa ol'.length oc, .slice na nl.length nc, .int .i64 sz, .int .i64 sl, .int .i64 ag, .int .i64 si, .int .i64 fd, .int .i64 T, .int .i64 K, .int .i64 V, .int .i64 M] → x.cell? ⟨wr.heap.size, 14, none⟩ = some (.int .i64 M) := fun x hx => hx.c 14 _ rfl
          iterate 3 (refine wpPl_take (v := ?_) (by rfl) (fun w' hS => ?_) ?_; rotate_left; (focus (go_simp; with_reducible rfl)); simp only [Act.put, List.setIfInBounds_toArray, List.set_cons_zero, List.set_cons_succ])
          clear q1 q2 q3 q4
          refine wpPl_do (by rfl) (fun KK hKK => ?_)
          go_wp2_with fail
          refine ⟨HA6.out.drew.alloc _, ?_⟩
          refine wpPl_do (by rfl) (fun KK hKK => ?_)
          go_wp2_with (go_at_call 22; (with_reducible refine (inputs_any _ _ [⟨T, K, V, M⟩] (IsR.of_row4 w6 ⟨T, K, V, M⟩ _).drew).mono ?_); rintro e w7 ⟨vr, r, rfl, hor, hlr, hbdr, hb7⟩; have HLR := Lib.hid hlr; have HBDR := Lib.hid hbdr; have HOR := Lib.hid hor; have HA7 := Lib.hid (((HA6.out.alloc _).drew).below hb7); have HT7 := Lib.hid (((HT6.out.alloc _).drew).below hb7); have HB7 := Lib.hid (below_step ((HB6.out.alloc HB6.out.size _).drew) hb7); have HO7 := Lib.hid (((HO6.out.alloc _).drew).kept (grown_of_below hb7 none) (Classical.em _)); have HR7 := Lib.hid (fun (o : ActV) (ho : o ∈ L) => (((HR6.out o ho).alloc _).drew).kept hb7); have hsz7 := hb7.size; simp at hsz7; clear hlr hbdr hor hb7)
          refine ⟨HA7.out, ?_⟩
          obtain ⟨y, rfl⟩ : ∃ y, r = [y] := by
            have := HLR.out
            match r, this with
            | [y], _ => exact ⟨y, rfl⟩
          obtain ⟨g7, cap7, hvr, hg7, _, hcap7, _, hcs7⟩ := own_form HOR.out (by simp)
          simp only [List.length_cons, List.length_nil, Nat.zero_add] at hvr
          subst hvr
          have hc7 : 1 ≤ cap7 := by simpa using hcap7
          have HC7 := Lib.hid hcs7
          have HBY := Lib.hid (HBDR.out y (by simp))
          obtain ⟨ym, yt, yk, yv, yl⟩ := y
          have z0 := HC7.out 0 _ rfl
          have z1 := HC7.out 1 _ rfl
          have z2 := HC7.out 2 _ rfl
          have z3 := HC7.out 3 _ rfl
          have z4 := HC7.out 4 _ rfl
          clear hcs7 hcap7
          simp at hg7
          iterate 1 (refine wpPl_take (v := ?_) (by rfl) (fun w' hS => ?_) ?_; rotate_left; (focus (go_simp; with_reducible rfl)); simp only [Act.put, List.setIfInBounds_toArray, List.set_cons_zero, List.set_cons_succ])
          have s0 := HT7.out.c 0 _ rfl
          have s10 := HT7.out.c 10 _ rfl
          have s11 := HT7.out.c 11 _ rfl
          have s12 := HT7.out.c 12 _ rfl
          have s13 := HT7.out.c 13 _ rfl
          have s14 := HT7.out.c 14 _ rfl
          have f0 := HT7.out.f 0
          have f10 := HT7.out.f 10
          have f11 := HT7.out.f 11
          have f12 := HT7.out.f 12
          have f13 := HT7.out.f 13
          have f14 := HT7.out.f 14
          have HA7b := Lib.hid (show At (w7.setCell ⟨w1.heap.size, 0, none⟩ (.int .i64 2)) wr.heap.size [.int .i64 kk, .int .i64 kt, .int .i64 kf, .int .i64 kn, .slice oa ol'.length oc, .slice na nl.length nc, .int .i64 sz, .int .i64 sl, .int .i64 ag, .int .i64 si, .int .i64 fd, .int .i64 T, .int .i64 K, .int .i64 V, .int .i64 M] from HA7.out.other _ _ (by simp; omega))
          refine wpPl_two (fun u v y => u = .agg #[.bool ym, .int .i64 yt, .int .i64 yk, .int .i64 yv, .int .u64 yl] ∧ y = w7.setCell ⟨w1.heap.size, 0, none⟩ (.int .i64 2)) (by rfl) (by rfl) (by rintro d ⟨⟩; simp) (fun KK hKK => ?_) (fun KK hKK => ?_) ?_
          · go_wp2_with fail
            refine ⟨HA7.out, wpOne_do (by rfl) (fun KK hKK => ?_)⟩
            go_wp2_with fail
            first | exact HA7b.out | exact ⟨HA7b.out, rfl⟩ | exact ⟨HA7b.out, rfl, rfl⟩ | exact ⟨HA7b.out, _, rfl, rfl, rfl⟩
          · go_wp2_with fail
            refine ⟨HA7b.out, wpOne_do (by rfl) (fun KK hKK => ?_)⟩
            go_wp2_with fail
            first | exact HA7b.out | exact ⟨HA7b.out, rfl⟩ | exact ⟨HA7b.out, rfl, rfl⟩ | exact ⟨HA7b.out, _, rfl, rfl, rfl⟩
          rintro u v y ⟨rfl, rfl⟩ hS5
          simp only [Act.put, List.setIfInBounds_toArray, List.set_cons_zero, List.set_cons_succ]
          iterate 1 (refine wpPl_take (v := ?_) (by rfl) (fun w' hS => ?_) ?_; rotate_left; (focus (go_simp; with_reducible rfl)); simp only [Act.put, List.setIfInBounds_toArray, List.set_cons_zero, List.set_cons_succ])
          refine wpPl_do (by rfl) (fun KK hKK => ?_)
          go_wp2_with fail
          refine ⟨?_, ?_⟩
          · exact ((((((HA7.out).other _ _ (by simp; omega)).other _ _ (by simp; omega)).other _ _ (by simp; omega)).other _ _ (by simp; omega)).other _ _ (by simp; omega)).other _ _ (by simp; omega)
          refine wpPl_done ?_
          go_wp2_with fail
          go_meet
          case rel =>
            have hneL : ∀ o ∈ L, o.pipe.ops.ownBlock ≠ some w1.heap.size := fun o ho => (HR1.out o ho).ne (Nat.le_refl _)
            have hneO := own_ne HW1.out (Nat.le_refl w1.heap.size)
            refine ⟨⟨2, tn, fr, nn, ⟨.slice none 0 0, [], 0, 0, 0, 0, 0⟩, ym, yt, yk, yv, yl⟩, none, 0, 0, rfl, At.putI HT7.out _ _ _ _ _ _, ⟨by simp, by simp, b1.1, b1.2, b2.1, b2.2, b3.1, b3.2, fun h => by simp at h, fun _ => HBY.out⟩, ActV.row.nil _ _ _ _ _ _ _ _ _ _ _ _ _ _ _, ?_, fun o ho => ?_, ?_⟩
            · exact ownsRow_setCell_other (ownsRow_setCell_other (ownsRow_setCell_other (ownsRow_setCell_other (ownsRow_setCell_other (ownsRow_setCell_other (HO7.out) hneO _) hneO _) hneO _) hneO _) hneO _) hneO _
            · exact (((((((HR7.out o ho)).set _ _ (hneL o ho)).set _ _ (hneL o ho)).set _ _ (hneL o ho)).set _ _ (hneL o ho)).set _ _ (hneL o ho)).set _ _ (hneL o ho)
            · exact ((((((HB7.out).setCell hle _).setCell hle _).setCell hle _).setCell hle _).setCell hle _).setCell hle _
        · subst hcc
          go_wp2_with fail
          refine wp_region_plS (fun x => At x wr.heap.size [.int .i64 kk, .int .i64 kt, .int .i64 kf, .int .i64 kn, .slice oa ol'.length oc, .slice na nl.length nc, .int .i64 sz, .int .i64 sl, .int .i64 ag, .int .i64 si, .int .i64 fd, .int .i64 T, .int .i64 K, .int .i64 V, .int .i64 M]) (fun w0 => At w0 wr.heap.size [.int .i64 kk, .int .i64 kt, .int .i64 kf, .int .i64 kn, .slice oa ol'.length oc, .slice na nl.length nc, .int .i64 sz, .int .i64 sl, .int .i64 ag, .int .i64 si, .int .i64 fd, .int .i64 T, .int .i64 K, .int .i64 V, .int .i64 M] ∧ At w0 w1.heap.size [.int .i64 0, .int .i64 tn, .int .i64 fr, .int .i64 nn, .slice none 0 0, .int .i64 0, .int .i64 0, .int .i64 0, .int .i64 0, .int .i64 0, .bool false, .int .i64 0, .int .i64 0, .int .i64 0, .int .u64 0] ∧ Below W.heap.size W w0 ∧ w0.ownsRow W.heap.size 43 15 (.slice va i vc) i (cellsA L) ∧ (∀ o ∈ L, o.row W.heap.size w0) ∧ w1.heap.size + 1 ≤ w0.heap.size) ?ph16_4 (fun w0 h => h.1.drew) (.take 0 <| .take 1 <| .take 6 <| .doo 2 <| .doo 3 <| .take 4 <| .two 5 7 <| .take 8 <| .doo 9 <| .done) ?plL16_4 (by kernel_rfl) (by kernel_rfl) (by kernel_rfl) ?plH16_4 (by intro c a d v w; cases d <;> exact fun h => h) ?_
          case plH16_4 =>
            simp only [Pl.with, List.getElem?_toArray, List.getElem?_cons_zero, List.getElem?_cons_succ]
            try rfl
          case ph16_4 => exact ⟨(HA.out.alloc _).drew, (At.new w1 _ _).drew, (HB1.out.alloc HB1.out.size _).drew, (HW1.out.alloc _).drew, fun o ho => ((HR1.out o ho).alloc _).drew, by simp⟩
          rintro w6 ⟨ha6, ht6, hb6, ho6, hr6, hsz6⟩
          have HT6 := Lib.hid ht6
          have HB6 := Lib.hid hb6
          have HO6 := Lib.hid ho6
          have HR6 := Lib.hid hr6
          have HA6 := Lib.hid ha6
          have hle := HB1.out.size
          clear ha6 ht6 hb6 ho6 hr6
          have q1 : ∀ x, At x wr.heap.size [.int .i64 kk, .int .i64 kt, .int .i64 kf, .int .i64 kn, .slice oa ol'.length oc, .slice na nl.length nc, .int .i64 sz, .int .i64 sl, .int .i64 ag, .int .i64 si, .int .i64 fd, .int .i64 T, .int .i64 K, .int .i64 V, .int .i64 M] → x.cell? ⟨wr.heap.size, 11, none⟩ = some (.int .i64 T) := fun x hx => hx.c 11 _ rfl
          have q2 : ∀ x, At x wr.heap.size [.int .i64 kk, .int .i64 kt, .int .i64 kf, .int .i64 kn, .slice oa ol'.length oc, .slice na nl.length nc, .int .i64 sz, .int .i64 sl, .int .i64 ag, .int .i64 si, .int .i64 fd, .int .i64 T, .int .i64 K, .int .i64 V, .int .i64 M] → x.cell? ⟨wr.heap.size, 12, none⟩ = some (.int .i64 K) := fun x hx => hx.c 12 _ rfl
          have q3 : ∀ x, At x wr.heap.size [.int .i64 kk, .int .i64 kt, .int .i64 kf, .int .i64 kn, .slice oa ol'.length oc, .slice na nl.length nc, .int .i64 sz, .int .i64 sl, .int .i64 ag, .int .i64 si, .int .i64 fd, .int .i64 T, .int .i64 K, .int .i64 V, .int .i64 M] → x.cell? ⟨wr.heap.size, 13, none⟩ = some (.int .i64 V) := fun x hx => hx.c 13 _ rfl
          have q4 : ∀ x, At x wr.heap.size [.int .i64 kk, .int .i64 kt, .int .i64 kf, .int .i64 kn, .slice oa ol'.length oc, .slice na nl.length nc, .int .i64 sz, .int .i64 sl, .int .i64 ag, .int .i64 si, .int .i64 fd, .int .i64 T, .int .i64 K, .int .i64 V, .int .i64 M] → x.cell? ⟨wr.heap.size, 14, none⟩ = some (.int .i64 M) := fun x hx => hx.c 14 _ rfl
          iterate 3 (refine wpPl_take (v := ?_) (by rfl) (fun w' hS => ?_) ?_; rotate_left; (focus (go_simp; with_reducible rfl)); simp only [Act.put, List.setIfInBounds_toArray, List.set_cons_zero, List.set_cons_succ])
          clear q1 q2 q3 q4
          refine wpPl_do (by rfl) (fun KK hKK => ?_)
          go_wp2_with fail
          refine ⟨HA6.out.drew.alloc _, ?_⟩
          refine wpPl_do (by rfl) (fun KK hKK => ?_)
          go_wp2_with (go_at_call 22; (with_reducible refine (inputs_any _ _ [⟨T, K, V, M⟩] (IsR.of_row4 w6 ⟨T, K, V, M⟩ _).drew).mono ?_); rintro e w7 ⟨vr, r, rfl, hor, hlr, hbdr, hb7⟩; have HLR := Lib.hid hlr; have HBDR := Lib.hid hbdr; have HOR := Lib.hid hor; have HA7 := Lib.hid (((HA6.out.alloc _).drew).below hb7); have HT7 := Lib.hid (((HT6.out.alloc _).drew).below hb7); have HB7 := Lib.hid (below_step ((HB6.out.alloc HB6.out.size _).drew) hb7); have HO7 := Lib.hid (((HO6.out.alloc _).drew).kept (grown_of_below hb7 none) (Classical.em _)); have HR7 := Lib.hid (fun (o : ActV) (ho : o ∈ L) => (((HR6.out o ho).alloc _).drew).kept hb7); have hsz7 := hb7.size; simp at hsz7; clear hlr hbdr hor hb7)
          refine ⟨HA7.out, ?_⟩
          obtain ⟨y, rfl⟩ : ∃ y, r = [y] := by
            have := HLR.out
            match r, this with
            | [y], _ => exact ⟨y, rfl⟩
          obtain ⟨g7, cap7, hvr, hg7, _, hcap7, _, hcs7⟩ := own_form HOR.out (by simp)
          simp only [List.length_cons, List.length_nil, Nat.zero_add] at hvr
          subst hvr
          have hc7 : 1 ≤ cap7 := by simpa using hcap7
          have HC7 := Lib.hid hcs7
          have HBY := Lib.hid (HBDR.out y (by simp))
          obtain ⟨ym, yt, yk, yv, yl⟩ := y
          have z0 := HC7.out 0 _ rfl
          have z1 := HC7.out 1 _ rfl
          have z2 := HC7.out 2 _ rfl
          have z3 := HC7.out 3 _ rfl
          have z4 := HC7.out 4 _ rfl
          clear hcs7 hcap7
          simp at hg7
          iterate 1 (refine wpPl_take (v := ?_) (by rfl) (fun w' hS => ?_) ?_; rotate_left; (focus (go_simp; with_reducible rfl)); simp only [Act.put, List.setIfInBounds_toArray, List.set_cons_zero, List.set_cons_succ])
          have s0 := HT7.out.c 0 _ rfl
          have s10 := HT7.out.c 10 _ rfl
          have s11 := HT7.out.c 11 _ rfl
          have s12 := HT7.out.c 12 _ rfl
          have s13 := HT7.out.c 13 _ rfl
          have s14 := HT7.out.c 14 _ rfl
          have f0 := HT7.out.f 0
          have f10 := HT7.out.f 10
          have f11 := HT7.out.f 11
          have f12 := HT7.out.f 12
          have f13 := HT7.out.f 13
          have f14 := HT7.out.f 14
          have HA7b := Lib.hid (show At (w7.setCell ⟨w1.heap.size, 0, none⟩ (.int .i64 2)) wr.heap.size [.int .i64 kk, .int .i64 kt, .int .i64 kf, .int .i64 kn, .slice oa ol'.length oc, .slice na nl.length nc, .int .i64 sz, .int .i64 sl, .int .i64 ag, .int .i64 si, .int .i64 fd, .int .i64 T, .int .i64 K, .int .i64 V, .int .i64 M] from HA7.out.other _ _ (by simp; omega))
          refine wpPl_two (fun u v y => u = .agg #[.bool ym, .int .i64 yt, .int .i64 yk, .int .i64 yv, .int .u64 yl] ∧ y = w7.setCell ⟨w1.heap.size, 0, none⟩ (.int .i64 2)) (by rfl) (by rfl) (by rintro d ⟨⟩; simp) (fun KK hKK => ?_) (fun KK hKK => ?_) ?_
          · go_wp2_with fail
            refine ⟨HA7.out, wpOne_do (by rfl) (fun KK hKK => ?_)⟩
            go_wp2_with fail
            first | exact HA7b.out | exact ⟨HA7b.out, rfl⟩ | exact ⟨HA7b.out, rfl, rfl⟩ | exact ⟨HA7b.out, _, rfl, rfl, rfl⟩
          · go_wp2_with fail
            refine ⟨HA7b.out, wpOne_do (by rfl) (fun KK hKK => ?_)⟩
            go_wp2_with fail
            first | exact HA7b.out | exact ⟨HA7b.out, rfl⟩ | exact ⟨HA7b.out, rfl, rfl⟩ | exact ⟨HA7b.out, _, rfl, rfl, rfl⟩
          rintro u v y ⟨rfl, rfl⟩ hS5
          simp only [Act.put, List.setIfInBounds_toArray, List.set_cons_zero, List.set_cons_succ]
          iterate 1 (refine wpPl_take (v := ?_) (by rfl) (fun w' hS => ?_) ?_; rotate_left; (focus (go_simp; with_reducible rfl)); simp only [Act.put, List.setIfInBounds_toArray, List.set_cons_zero, List.set_cons_succ])
          refine wpPl_do (by rfl) (fun KK hKK => ?_)
          go_wp2_with fail
          refine ⟨?_, ?_⟩
          · exact ((((((HA7.out).other _ _ (by simp; omega)).other _ _ (by simp; omega)).other _ _ (by simp; omega)).other _ _ (by simp; omega)).other _ _ (by simp; omega)).other _ _ (by simp; omega)
          refine wpPl_done ?_
          go_wp2_with fail
          go_meet
          case rel =>
            have hneL : ∀ o ∈ L, o.pipe.ops.ownBlock ≠ some w1.heap.size := fun o ho => (HR1.out o ho).ne (Nat.le_refl _)
            have hneO := own_ne HW1.out (Nat.le_refl w1.heap.size)
            refine ⟨⟨2, tn, fr, nn, ⟨.slice none 0 0, [], 0, 0, 0, 0, 0⟩, ym, yt, yk, yv, yl⟩, none, 0, 0, rfl, At.putI HT7.out _ _ _ _ _ _, ⟨by simp, by simp, b1.1, b1.2, b2.1, b2.2, b3.1, b3.2, fun h => by simp at h, fun _ => HBY.out⟩, ActV.row.nil _ _ _ _ _ _ _ _ _ _ _ _ _ _ _, ?_, fun o ho => ?_, ?_⟩
            · exact ownsRow_setCell_other (ownsRow_setCell_other (ownsRow_setCell_other (ownsRow_setCell_other (ownsRow_setCell_other (ownsRow_setCell_other (HO7.out) hneO _) hneO _) hneO _) hneO _) hneO _) hneO _
            · exact (((((((HR7.out o ho)).set _ _ (hneL o ho)).set _ _ (hneL o ho)).set _ _ (hneL o ho)).set _ _ (hneL o ho)).set _ _ (hneL o ho)).set _ _ (hneL o ho)
            · exact ((((((HB7.out).setCell hle _).setCell hle _).setCell hle _).setCell hle _).setCell hle _).setCell hle _
        · subst hcc
          go_wp2_with fail
          refine wp_region_plS (fun x => At x wr.heap.size [.int .i64 kk, .int .i64 kt, .int .i64 kf, .int .i64 kn, .slice oa ol'.length oc, .slice na nl.length nc, .int .i64 sz, .int .i64 sl, .int .i64 ag, .int .i64 si, .int .i64 fd, .int .i64 T, .int .i64 K, .int .i64 V, .int .i64 M]) (fun w0 => At w0 wr.heap.size [.int .i64 kk, .int .i64 kt, .int .i64 kf, .int .i64 kn, .slice oa ol'.length oc, .slice na nl.length nc, .int .i64 sz, .int .i64 sl, .int .i64 ag, .int .i64 si, .int .i64 fd, .int .i64 T, .int .i64 K, .int .i64 V, .int .i64 M] ∧ At w0 w1.heap.size [.int .i64 0, .int .i64 tn, .int .i64 fr, .int .i64 nn, .slice none 0 0, .int .i64 0, .int .i64 0, .int .i64 0, .int .i64 0, .int .i64 0, .bool false, .int .i64 0, .int .i64 0, .int .i64 0, .int .u64 0] ∧ Below W.heap.size W w0 ∧ w0.ownsRow W.heap.size 43 15 (.slice va i vc) i (cellsA L) ∧ (∀ o ∈ L, o.row W.heap.size w0) ∧ w1.heap.size + 1 ≤ w0.heap.size) ?ph16_5 (fun w0 h => h.1.drew) (.take 0 <| .take 1 <| .take 6 <| .doo 2 <| .doo 3 <| .take 4 <| .two 5 7 <| .take 8 <| .doo 9 <| .done) ?plL16_5 (by kernel_rfl) (by kernel_rfl) (by kernel_rfl) ?plH16_5 (by intro c a d v w; cases d <;> exact fun h => h) ?_
          case plH16_5 =>
            simp only [Pl.with, List.getElem?_toArray, List.getElem?_cons_zero, List.getElem?_cons_succ]
            try rfl
          case ph16_5 => exact ⟨(HA.out.alloc _).drew, (At.new w1 _ _).drew, (HB1.out.alloc HB1.out.size _).drew, (HW1.out.alloc _).drew, fun o ho => ((HR1.out o ho).alloc _).drew, by simp⟩
          rintro w6 ⟨ha6, ht6, hb6, ho6, hr6, hsz6⟩
          have HT6 := Lib.hid ht6
          have HB6 := Lib.hid hb6
          have HO6 := Lib.hid ho6
          have HR6 := Lib.hid hr6
          have HA6 := Lib.hid ha6
          have hle := HB1.out.size
          clear ha6 ht6 hb6 ho6 hr6
          have q1 : ∀ x, At x wr.heap.size [.int .i64 kk, .int .i64 kt, .int .i64 kf, .int .i64 kn, .slice oa ol'.length oc, .slice na nl.length nc, .int .i64 sz, .int .i64 sl, .int .i64 ag, .int .i64 si, .int .i64 fd, .int .i64 T, .int .i64 K, .int .i64 V, .int .i64 M] → x.cell? ⟨wr.heap.size, 11, none⟩ = some (.int .i64 T) := fun x hx => hx.c 11 _ rfl
          have q2 : ∀ x, At x wr.heap.size [.int .i64 kk, .int .i64 kt, .int .i64 kf, .int .i64 kn, .slice oa ol'.length oc, .slice na nl.length nc, .int .i64 sz, .int .i64 sl, .int .i64 ag, .int .i64 si, .int .i64 fd, .int .i64 T, .int .i64 K, .int .i64 V, .int .i64 M] → x.cell? ⟨wr.heap.size, 12, none⟩ = some (.int .i64 K) := fun x hx => hx.c 12 _ rfl
          have q3 : ∀ x, At x wr.heap.size [.int .i64 kk, .int .i64 kt, .int .i64 kf, .int .i64 kn, .slice oa ol'.length oc, .slice na nl.length nc, .int .i64 sz, .int .i64 sl, .int .i64 ag, .int .i64 si, .int .i64 fd, .int .i64 T, .int .i64 K, .int .i64 V, .int .i64 M] → x.cell? ⟨wr.heap.size, 13, none⟩ = some (.int .i64 V) := fun x hx => hx.c 13 _ rfl
          have q4 : ∀ x, At x wr.heap.size [.int .i64 kk, .int .i64 kt, .int .i64 kf, .int .i64 kn, .slice oa ol'.length oc, .slice na nl.length nc, .int .i64 sz, .int .i64 sl, .int .i64 ag, .int .i64 si, .int .i64 fd, .int .i64 T, .int .i64 K, .int .i64 V, .int .i64 M] → x.cell? ⟨wr.heap.size, 14, none⟩ = some (.int .i64 M) := fun x hx => hx.c 14 _ rfl
          iterate 3 (refine wpPl_take (v := ?_) (by rfl) (fun w' hS => ?_) ?_; rotate_left; (focus (go_simp; with_reducible rfl)); simp only [Act.put, List.setIfInBounds_toArray, List.set_cons_zero, List.set_cons_succ])
          clear q1 q2 q3 q4
          refine wpPl_do (by rfl) (fun KK hKK => ?_)
          go_wp2_with fail
          refine ⟨HA6.out.drew.alloc _, ?_⟩
          refine wpPl_do (by rfl) (fun KK hKK => ?_)
          go_wp2_with (go_at_call 22; (with_reducible refine (inputs_any _ _ [⟨T, K, V, M⟩] (IsR.of_row4 w6 ⟨T, K, V, M⟩ _).drew).mono ?_); rintro e w7 ⟨vr, r, rfl, hor, hlr, hbdr, hb7⟩; have HLR := Lib.hid hlr; have HBDR := Lib.hid hbdr; have HOR := Lib.hid hor; have HA7 := Lib.hid (((HA6.out.alloc _).drew).below hb7); have HT7 := Lib.hid (((HT6.out.alloc _).drew).below hb7); have HB7 := Lib.hid (below_step ((HB6.out.alloc HB6.out.size _).drew) hb7); have HO7 := Lib.hid (((HO6.out.alloc _).drew).kept (grown_of_below hb7 none) (Classical.em _)); have HR7 := Lib.hid (fun (o : ActV) (ho : o ∈ L) => (((HR6.out o ho).alloc _).drew).kept hb7); have hsz7 := hb7.size; simp at hsz7; clear hlr hbdr hor hb7)
          refine ⟨HA7.out, ?_⟩
          obtain ⟨y, rfl⟩ : ∃ y, r = [y] := by
            have := HLR.out
            match r, this with
            | [y], _ => exact ⟨y, rfl⟩
          obtain ⟨g7, cap7, hvr, hg7, _, hcap7, _, hcs7⟩ := own_form HOR.out (by simp)
          simp only [List.length_cons, List.length_nil, Nat.zero_add] at hvr
          subst hvr
          have hc7 : 1 ≤ cap7 := by simpa using hcap7
          have HC7 := Lib.hid hcs7
          have HBY := Lib.hid (HBDR.out y (by simp))
          obtain ⟨ym, yt, yk, yv, yl⟩ := y
          have z0 := HC7.out 0 _ rfl
          have z1 := HC7.out 1 _ rfl
          have z2 := HC7.out 2 _ rfl
          have z3 := HC7.out 3 _ rfl
          have z4 := HC7.out 4 _ rfl
          clear hcs7 hcap7
          simp at hg7
          iterate 1 (refine wpPl_take (v := ?_) (by rfl) (fun w' hS => ?_) ?_; rotate_left; (focus (go_simp; with_reducible rfl)); simp only [Act.put, List.setIfInBounds_toArray, List.set_cons_zero, List.set_cons_succ])
          have s0 := HT7.out.c 0 _ rfl
          have s10 := HT7.out.c 10 _ rfl
          have s11 := HT7.out.c 11 _ rfl
          have s12 := HT7.out.c 12 _ rfl
          have s13 := HT7.out.c 13 _ rfl
          have s14 := HT7.out.c 14 _ rfl
          have f0 := HT7.out.f 0
          have f10 := HT7.out.f 10
          have f11 := HT7.out.f 11
          have f12 := HT7.out.f 12
          have f13 := HT7.out.f 13
          have f14 := HT7.out.f 14
          have HA7b := Lib.hid (show At (w7.setCell ⟨w1.heap.size, 0, none⟩ (.int .i64 2)) wr.heap.size [.int .i64 kk, .int .i64 kt, .int .i64 kf, .int .i64 kn, .slice oa ol'.length oc, .slice na nl.length nc, .int .i64 sz, .int .i64 sl, .int .i64 ag, .int .i64 si, .int .i64 fd, .int .i64 T, .int .i64 K, .int .i64 V, .int .i64 M] from HA7.out.other _ _ (by simp; omega))
          refine wpPl_two (fun u v y => u = .agg #[.bool ym, .int .i64 yt, .int .i64 yk, .int .i64 yv, .int .u64 yl] ∧ y = w7.setCell ⟨w1.heap.size, 0, none⟩ (.int .i64 2)) (by rfl) (by rfl) (by rintro d ⟨⟩; simp) (fun KK hKK => ?_) (fun KK hKK => ?_) ?_
          · go_wp2_with fail
            refine ⟨HA7.out, wpOne_do (by rfl) (fun KK hKK => ?_)⟩
            go_wp2_with fail
            first | exact HA7b.out | exact ⟨HA7b.out, rfl⟩ | exact ⟨HA7b.out, rfl, rfl⟩ | exact ⟨HA7b.out, _, rfl, rfl, rfl⟩
          · go_wp2_with fail
            refine ⟨HA7b.out, wpOne_do (by rfl) (fun KK hKK => ?_)⟩
            go_wp2_with fail
            first | exact HA7b.out | exact ⟨HA7b.out, rfl⟩ | exact ⟨HA7b.out, rfl, rfl⟩ | exact ⟨HA7b.out, _, rfl, rfl, rfl⟩
          rintro u v y ⟨rfl, rfl⟩ hS5
          simp only [Act.put, List.setIfInBounds_toArray, List.set_cons_zero, List.set_cons_succ]
          iterate 1 (refine wpPl_take (v := ?_) (by rfl) (fun w' hS => ?_) ?_; rotate_left; (focus (go_simp; with_reducible rfl)); simp only [Act.put, List.setIfInBounds_toArray, List.set_cons_zero, List.set_cons_succ])
          refine wpPl_do (by rfl) (fun KK hKK => ?_)
          go_wp2_with fail
          refine ⟨?_, ?_⟩
          · exact ((((((HA7.out).other _ _ (by simp; omega)).other _ _ (by simp; omega)).other _ _ (by simp; omega)).other _ _ (by simp; omega)).other _ _ (by simp; omega)).other _ _ (by simp; omega)
          refine wpPl_done ?_
          go_wp2_with fail
          go_meet
          case rel =>
            have hneL : ∀ o ∈ L, o.pipe.ops.ownBlock ≠ some w1.heap.size := fun o ho => (HR1.out o ho).ne (Nat.le_refl _)
            have hneO := own_ne HW1.out (Nat.le_refl w1.heap.size)
            refine ⟨⟨2, tn, fr, nn, ⟨.slice none 0 0, [], 0, 0, 0, 0, 0⟩, ym, yt, yk, yv, yl⟩, none, 0, 0, rfl, At.putI HT7.out _ _ _ _ _ _, ⟨by simp, by simp, b1.1, b1.2, b2.1, b2.2, b3.1, b3.2, fun h => by simp at h, fun _ => HBY.out⟩, ActV.row.nil _ _ _ _ _ _ _ _ _ _ _ _ _ _ _, ?_, fun o ho => ?_, ?_⟩
            · exact ownsRow_setCell_other (ownsRow_setCell_other (ownsRow_setCell_other (ownsRow_setCell_other (ownsRow_setCell_other (ownsRow_setCell_other (HO7.out) hneO _) hneO _) hneO _) hneO _) hneO _) hneO _
            · exact (((((((HR7.out o ho)).set _ _ (hneL o ho)).set _ _ (hneL o ho)).set _ _ (hneL o ho)).set _ _ (hneL o ho)).set _ _ (hneL o ho)).set _ _ (hneL o ho)
            · exact ((((((HB7.out).setCell hle _).setCell hle _).setCell hle _).setCell hle _).setCell hle _).setCell hle _
        · subst hcc
          go_wp2_with fail
          go_meet
          case rel =>
            refine ⟨⟨3, tn, fr, nn, ⟨.slice none 0 0, [], 0, 0, 0, 0, 0⟩, false, 0, 0, 0, 0⟩, none, 0, 0, rfl, (At.new w1 _ _).drew, ⟨by simp, by simp, b1.1, b1.2, b2.1, b2.2, b3.1, b3.2, fun h => by simp at h, fun h => by simp at h⟩, ActV.row.nil _ _ _ _ _ _ _ _ _ _ _ _ _ _ _, (HW1.out.alloc _).drew, fun o ho => ((HR1.out o ho).alloc _).drew, (HB1.out.alloc HB1.out.size _).drew⟩
        · subst hcc
          go_wp2_with fail
          go_meet
          case rel =>
            refine ⟨⟨3, tn, fr, nn, ⟨.slice none 0 0, [], 0, 0, 0, 0, 0⟩, false, 0, 0, 0, 0⟩, none, 0, 0, rfl, (At.new w1 _ _).drew, ⟨by simp, by simp, b1.1, b1.2, b2.1, b2.2, b3.1, b3.2, fun h => by simp at h, fun h => by simp at h⟩, ActV.row.nil _ _ _ _ _ _ _ _ _ _ _ _ _ _ _, (HW1.out.alloc _).drew, fun o ho => ((HR1.out o ho).alloc _).drew, (HB1.out.alloc HB1.out.size _).drew⟩
        · subst hcc
          go_wp2_with fail
          go_meet
          case rel =>
            refine ⟨⟨4, tn, fr, nn, ⟨.slice none 0 0, [], 0, 0, 0, 0, 0⟩, false, 0, 0, 0, 0⟩, none, 0, 0, rfl, (At.new w1 _ _).drew, ⟨by simp, by simp, b1.1, b1.2, b2.1, b2.2, b3.1, b3.2, fun h => by simp at h, fun h => by simp at h⟩, ActV.row.nil _ _ _ _ _ _ _ _ _ _ _ _ _ _ _, (HW1.out.alloc _).drew, fun o ho => ((HR1.out o ho).alloc _).drew, (HB1.out.alloc HB1.out.size _).drew⟩
        · subst hcc
          go_wp2_with fail
          go_meet
          case rel =>
            refine ⟨⟨5, tn, fr, nn, ⟨.slice none 0 0, [], 0, 0, 0, 0, 0⟩, false, 0, 0, 0, 0⟩, none, 0, 0, rfl, (At.new w1 _ _).drew, ⟨by simp, by simp, b1.1, b1.2, b2.1, b2.2, b3.1, b3.2, fun h => by simp at h, fun h => by simp at h⟩, ActV.row.nil _ _ _ _ _ _ _ _ _ _ _ _ _ _ _, (HW1.out.alloc _).drew, fun o ho => ((HR1.out o ho).alloc _).drew, (HB1.out.alloc HB1.out.size _).drew⟩
      case rest =>
        obtain ⟨x, pa, pl, pc, hpo, hat, hbx, hrx, how, hrL, hbel⟩ := hcut
        have HBX := Lib.hid hbx
        have HRX := Lib.hid hrx
        have HOW := Lib.hid how
        have HRL := Lib.hid hrL
        have HBW := Lib.hid hbel
        have hbw := hbel.size
        have HAT := Lib.hid hat
        clear hbx hrx how hrL hbel hat
        obtain ⟨k1, t1, f1, n1, ⟨p1, ol1, s1, d1, g1, sk1, fd1⟩, m1, i1, y1, v1, u1⟩ := x
        simp only at hpo
        subst hpo
        have x0 := HAT.out.c 0 _ rfl
        have x1 := HAT.out.c 1 _ rfl
        have x2 := HAT.out.c 2 _ rfl
        have x3 := HAT.out.c 3 _ rfl
        have x4 := HAT.out.c 4 _ rfl
        have x5 := HAT.out.c 5 _ rfl
        have x6 := HAT.out.c 6 _ rfl
        have x7 := HAT.out.c 7 _ rfl
        have x8 := HAT.out.c 8 _ rfl
        have x9 := HAT.out.c 9 _ rfl
        have x10 := HAT.out.c 10 _ rfl
        have x11 := HAT.out.c 11 _ rfl
        have x12 := HAT.out.c 12 _ rfl
        have x13 := HAT.out.c 13 _ rfl
        have x14 := HAT.out.c 14 _ rfl
        go_wp2_with (at_builtin; refine wpList_append_own _ rfl (.tmp 63) (.tmp 65) 32 rfl W.heap.size 43 i0 _ 15 136 Tryz.underlying32 HI.out.1 HI.out.2.1 HI.out.2.2.1 HI.out.2.2.2 rfl (by decide) (.slice va i vc) i (cellsA L) rfl (HOW.out.alloc _) ⟨wc.heap.size, 0, none⟩ 1 1 [.int .i64 k1, .int .i64 t1, .int .i64 f1, .int .i64 n1, .slice pa pl pc, .int .i64 s1, .int .i64 d1, .int .i64 g1, .int .i64 sk1, .int .i64 fd1, .bool m1, .int .i64 i1, .int .i64 y1, .int .i64 v1, .int .u64 u1] rfl rfl (row_cells _ _ _) (by simp [Value.oneCell']) (by unfold maxLen; omega) (by omega) (by simp; omega) ?_; intro v' w5 hown5 hgrow5 _; have HO5 := Lib.hid hown5; have HB5 := Lib.hid ((HBW.out.alloc hbw _).grown hgrow5 (by simp; omega) (fun k hk => (HOW.out.lt k hk).1)); have HRX5 := Lib.hid ((HRX.out.alloc _).grown (HOW.out.alloc _) (by decide) hgrow5); have HRL5 := Lib.hid (fun (o : ActV) (ho : o ∈ L) => ((HRL.out o ho).alloc _).grown (HOW.out.alloc _) (by decide) hgrow5); clear hown5 hgrow5; obtain ⟨g5, cap5, rfl, _⟩ := own_form HO5.out (by omega))
        go_roundg (n - (i + 1))
        case measure => omega
        case rel =>
          refine ⟨i + 1, _, cap5, L ++ [⟨k1, t1, f1, n1, ⟨.slice pa pl pc, ol1, s1, d1, g1, sk1, fd1⟩, m1, i1, y1, v1, u1⟩], by omega, rfl, rfl, by go_num, by simp [HLr.out], fun o ho => ?_, ?_, HB5.out⟩
          · rcases List.mem_append.1 ho with h | h
            · exact ⟨(HBD.out o h).1, HRL5.out o h⟩
            · obtain rfl := (List.mem_singleton.1 h)
              exact ⟨HBX.out, HRX5.out⟩
          · rw [cellsA_snoc]
            exact HO5.out
    · rcases (by have := HN3.out; omega : ¬ i < l.length ∨ (i < l.length ∧ ¬ i < 40)) with hx | ⟨hx, hx4⟩
      all_goals
        go_wp2_with fail
        go_ret
        have hl := HLr.out
        have hin : i = n := by omega
        refine ⟨_, L, rfl, ?_, by omega, HBD.out, HBr.out⟩
        rw [hl]
        exact HOr.out
end Go.Proofs.YtcanfmabkklidaaGreat
set_option linter.unusedSimpArgs false
set_option linter.unusedVariables false
set_option linter.unnecessarySimpa false
namespace Go.Proofs.YtcanfmabkklidaaGreat
open Go.ChangeShapes Go.WideShapes Go.RowKit

theorem IsR.of_funP {α : Type} [Inhabited α] (p : α → Prop) (cs : α → List Value) (k : Nat) (w : World) (a : Option Addr) (len cap b o : Nat) (h1 : len ≤ cap) (h2 : cap ≤ maxLen) (hd : 0 < len → a = some ⟨b, o, none⟩ ∧ b < w.heap.size)
    (h : ∀ i, i < len → ∃ x : α, p x ∧ ∀ j u, (cs x)[j]? = some u → w.cell? ⟨b, o + (i * k + j), none⟩ = some u) : ∃ l : List α, l.length = len ∧ IsR cs k w (.slice a len cap) l ∧ ∀ x ∈ l, p x := by
  obtain ⟨f, hf⟩ := Go.Deep.choose_lt h
  refine ⟨(List.range len).map f, by simp, ⟨a, cap, by simp, by simpa using h1, h2, b, o, by simpa using hd, fun i x hi j u hj => ?_⟩, fun x hx => ?_⟩
  · have hlt : i < len := by have := (List.getElem?_eq_some_iff.1 hi).1; simpa using this
    obtain rfl : f i = x := by simpa [hlt] using hi
    rw [Nat.add_assoc]
    exact (hf i hlt).2 j u hj
  · obtain ⟨i, hi, rfl⟩ := List.mem_map.1 hx
    exact (hf i (by simpa using hi)).1
theorem isl_of {w : World} {v : Value} (h : Rd Tryz.prog w 73 [v]) : ∃ l : List Int, IsL w v l := by
  obtain ⟨a, len, cap, hee, h1, h2, b, o, hd, hr⟩ := h.slice Tryz.underlying73 (show _ = 1 by kernel_rfl) (by omega)
  simp at hee
  subst hee
  have each : ∀ i, i < len → ∃ q : Int, w.cell? ⟨b, o + i, none⟩ = some (.int .i64 q) := by
    intro i hi
    obtain ⟨es, h3, h4, h5⟩ := hr i hi
    obtain ⟨n, rfl, _⟩ := h3.int Tryz.underlying3
    exact ⟨n, by simpa using h5 0 (by omega)⟩
  obtain ⟨q, hq⟩ := Go.Deep.choose_lt each
  refine ⟨(List.range len).map q, a, cap, by simp, by simpa using h1, by simp; omega, b, o, fun hp => ⟨hd (by simpa using hp), World.block_lt_of_cell? w _ (hq 0 (by simpa using hp))⟩, fun i hi => ?_⟩
  have hi' : i < len := by simpa using hi
  rw [hq i hi']
  simp [hi']
instance : Inhabited KActV := ⟨⟨0, 0, 0, 0, .slice none 0 0, [], .slice none 0 0, [], 0, 0, 0, 0, 0, ⟨0, 0, 0, 0⟩⟩⟩
set_option maxRecDepth 10000 in
theorem kacts_of {w : World} {a : Option Addr} {len cap : Nat} (h : Rd Tryz.prog w 25 [.slice a len cap]) : ∃ l : List KActV, l.length = len ∧ IsR KActV.cs 15 w (.slice a len cap) l ∧ ∀ k ∈ l, k.ok w := by
  obtain ⟨a', len', cap', hee, h1, h2, b, o, hd, hr⟩ := h.slice Tryz.underlying25 (show _ = 15 by kernel_rfl) (by omega)
  simp at hee
  obtain ⟨rfl, rfl, rfl⟩ := hee
  have key : ∀ i, i < len → ∃ x : KActV, x.ok w ∧ ∀ j u, x.cs[j]? = some u → w.cell? ⟨b, o + (i * 15 + j), none⟩ = some u := by
    intro i hi
    obtain ⟨es, h3, h4, h5⟩ := hr i hi
    obtain ⟨_, hf⟩ := h3.struct Tryz.underlying121
    match es, h4 with
    | [e0, e1, e2, e3, e4, e5, e6, e7, e8, e9, e10, e11, e12, e13, e14], _ =>
      obtain ⟨n0, p0, _⟩ := (show Rd Tryz.prog w 3 [e0] from hf 0 _ rfl).int Tryz.underlying3
      obtain ⟨n1, p1, _⟩ := (show Rd Tryz.prog w 3 [e1] from hf 1 _ rfl).int Tryz.underlying3
      obtain ⟨n2, p2, _⟩ := (show Rd Tryz.prog w 3 [e2] from hf 2 _ rfl).int Tryz.underlying3
      obtain ⟨n3, p3, _⟩ := (show Rd Tryz.prog w 3 [e3] from hf 3 _ rfl).int Tryz.underlying3
      obtain ⟨_, hg⟩ := (show Rd Tryz.prog w 75 [e4, e5, e6, e7, e8, e9, e10] from hf 4 _ rfl).struct Tryz.underlying75
      obtain ⟨_, hi⟩ := (show Rd Tryz.prog w 119 [e11, e12, e13, e14] from hf 5 _ rfl).struct Tryz.underlying119
      obtain ⟨ol, ho⟩ := isl_of (show Rd Tryz.prog w 73 [e4] from hg 0 _ rfl)
      obtain ⟨nl, hn⟩ := isl_of (show Rd Tryz.prog w 73 [e5] from hg 1 _ rfl)
      obtain ⟨n6, p6, _⟩ := (show Rd Tryz.prog w 3 [e6] from hg 2 _ rfl).int Tryz.underlying3
      obtain ⟨n7, p7, _⟩ := (show Rd Tryz.prog w 3 [e7] from hg 3 _ rfl).int Tryz.underlying3
      obtain ⟨n8, p8, _⟩ := (show Rd Tryz.prog w 3 [e8] from hg 4 _ rfl).int Tryz.underlying3
      obtain ⟨n9, p9, _⟩ := (show Rd Tryz.prog w 3 [e9] from hg 5 _ rfl).int Tryz.underlying3
      obtain ⟨n10, p10, _⟩ := (show Rd Tryz.prog w 3 [e10] from hg 6 _ rfl).int Tryz.underlying3
      obtain ⟨n11, p11, _⟩ := (show Rd Tryz.prog w 3 [e11] from hi 0 _ rfl).int Tryz.underlying3
      obtain ⟨n12, p12, _⟩ := (show Rd Tryz.prog w 3 [e12] from hi 1 _ rfl).int Tryz.underlying3
      obtain ⟨n13, p13, _⟩ := (show Rd Tryz.prog w 3 [e13] from hi 2 _ rfl).int Tryz.underlying3
      obtain ⟨n14, p14, _⟩ := (show Rd Tryz.prog w 3 [e14] from hi 3 _ rfl).int Tryz.underlying3
      simp only [List.cons.injEq, and_true] at p0 p1 p2 p3 p6 p7 p8 p9 p10 p11 p12 p13 p14
      subst p0 p1 p2 p3 p6 p7 p8 p9 p10 p11 p12 p13 p14
      refine ⟨⟨n0, n1, n2, n3, e4, ol, e5, nl, n6, n7, n8, n9, n10, ⟨n11, n12, n13, n14⟩⟩, ⟨ho, hn⟩, fun j u hj => ?_⟩
      have hj5 : j < 15 := (List.getElem?_eq_some_iff.1 hj).1
      rw [h5 j hj5]
      exact hj
  refine IsR.of_funP _ KActV.cs 15 w a len cap b o h1 h2 (fun hp => ⟨hd hp, ?_⟩) key
  obtain ⟨x, _, hx⟩ := key 0 hp
  exact World.block_lt_of_cell? w _ (hx 0 _ rfl)
end Go.Proofs.YtcanfmabkklidaaGreat
