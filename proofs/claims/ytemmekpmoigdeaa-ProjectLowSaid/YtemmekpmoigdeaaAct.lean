/- What the comparisons of two acts say. -/
import Derived.Test.YtemmekpmoigdeaaPip
set_option linter.unusedSimpArgs false
set_option linter.unusedVariables false
set_option linter.unnecessarySimpa false
namespace Go.Proofs.Ytemmekpmoigdeaa
open Go.RowKit

structure ActV where
  kind : Int
  tenant : Int
  frm : Int
  n : Int
  pipe : PipeV
  mark : Bool
  time : Int
  key : Int
  value : Int
  label : Int
def ActV.cs (a : ActV) : List Value := [.int .i64 a.kind, .int .i64 a.tenant, .int .i64 a.frm, .int .i64 a.n, a.pipe.ops, .int .i64 a.pipe.size, .int .i64 a.pipe.slide, .int .i64 a.pipe.agg, .int .i64 a.pipe.sink, .int .i64 a.pipe.feed, .bool a.mark, .int .i64 a.time, .int .i64 a.key, .int .i64 a.value, .int .u64 a.label]
def ActV.val (a : ActV) : Value := .agg #[.int .i64 a.kind, .int .i64 a.tenant, .int .i64 a.frm, .int .i64 a.n, a.pipe.ops, .int .i64 a.pipe.size, .int .i64 a.pipe.slide, .int .i64 a.pipe.agg, .int .i64 a.pipe.sink, .int .i64 a.pipe.feed, .bool a.mark, .int .i64 a.time, .int .i64 a.key, .int .i64 a.value, .int .u64 a.label]
def ActV.ok (w : World) (a : ActV) : Prop := a.pipe.ok w
theorem ActV.ok.kept {w w' : World} {a : ActV} (h : a.ok w) (hb : Below w.heap.size w w') : a.ok w' := PipeV.ok.kept h hb
/-- all fields are the same -/
def ActV.same (a b : ActV) : Prop := a.kind = b.kind ∧ a.tenant = b.tenant ∧ a.frm = b.frm ∧ a.n = b.n ∧ a.mark = b.mark ∧ a.time = b.time ∧ a.key = b.key ∧ a.value = b.value ∧ a.label = b.label ∧ a.pipe.same b.pipe
instance (a b : ActV) : Decidable (a.same b) := by unfold ActV.same; infer_instance
def ActV.alike (a b : ActV) : Prop := (a.kind = 3 ∧ b.kind = 3) ∨ a.same b
instance (a b : ActV) : Decidable (a.alike b) := by unfold ActV.alike; infer_instance
def ActV.own (t : Int) (a : ActV) : Prop := a.tenant = t ∧ a.kind ≠ 3 ∧ a.kind ≠ 6 ∧ a.kind ≠ 7
instance (t : Int) (a : ActV) : Decidable (a.own t) := by unfold ActV.own; infer_instance

set_option maxHeartbeats 2000000 in
theorem own_any (t : Int) (a : ActV) (w : World) :
    Calls Try.prog 17 #[.int .i64 t, a.val] w fun e w' => e = .returned (.bool (decide (a.own t))) ∧ Below w.heap.size w w' := by
  have HW := Lib.hid (fun (x : Obj) => ((Below.refl _ w).alloc (Nat.le_refl _) x : Below w.heap.size w (w.alloc x)))
  obtain ⟨r, hr0⟩ : ∃ r, decide (a.own t) = r := ⟨_, rfl⟩
  rw [hr0]
  obtain ⟨k1, t1, f1, n1, p1, m1, i1, y1, v1, u1⟩ := a
  simp only [ActV.val]
  have HR := Lib.hid hr0
  clear hr0

  by_cases e0 : t1 = t
  rotate_left
  · obtain rfl : r = false := by rw [← HR.out]; simp [ActV.own, ActV.alike, ActV.same, e0] <;> omega
    go_enter Try.func17, Try.ntmps17
    go_wp2
    go_ret
    first | exact ⟨rfl, HW.out _⟩ | exact ⟨by simp_all, HW.out _⟩
  by_cases e1 : k1 ≠ 3
  rotate_left
  · obtain rfl : r = false := by rw [← HR.out]; simp [ActV.own, ActV.alike, ActV.same, e0, e1] <;> omega
    go_enter Try.func17, Try.ntmps17
    go_wp2
    go_ret
    first | exact ⟨rfl, HW.out _⟩ | exact ⟨by simp_all, HW.out _⟩
  by_cases e2 : k1 ≠ 6
  rotate_left
  · obtain rfl : r = false := by rw [← HR.out]; simp [ActV.own, ActV.alike, ActV.same, e0, e1, e2] <;> omega
    go_enter Try.func17, Try.ntmps17
    go_wp2
    go_ret
    first | exact ⟨rfl, HW.out _⟩ | exact ⟨by simp_all, HW.out _⟩
  by_cases e3 : k1 ≠ 7
  rotate_left
  · obtain rfl : r = false := by rw [← HR.out]; simp [ActV.own, ActV.alike, ActV.same, e0, e1, e2, e3] <;> omega
    go_enter Try.func17, Try.ntmps17
    go_wp2
    go_ret
    first | exact ⟨rfl, HW.out _⟩ | exact ⟨by simp_all, HW.out _⟩
  obtain rfl : r = true := by rw [← HR.out]; simp [ActV.own, ActV.alike, ActV.same, e0, e1, e2, e3] <;> omega
  go_enter Try.func17, Try.ntmps17
  go_wp2
  go_ret
  first | exact ⟨rfl, HW.out _⟩ | exact ⟨by simp_all, HW.out _⟩

set_option maxHeartbeats 4000000 in
theorem alike_any (a b : ActV) (w : World) (h1 : a.ok w) (h2 : b.ok w) :
    Calls Try.prog 20 #[a.val, b.val] w fun e w' => e = .returned (.bool (decide (a.alike b))) ∧ Below w.heap.size w w' := by
  have HA := Lib.hid (fun (x y : Obj) => ActV.ok.kept h1 (((Below.refl _ w).alloc (Nat.le_refl _) x).alloc (by simp) y))
  have HB := Lib.hid (fun (x y : Obj) => ActV.ok.kept h2 (((Below.refl _ w).alloc (Nat.le_refl _) x).alloc (by simp) y))
  have HW := Lib.hid (fun (x y : Obj) => (((Below.refl _ w).alloc (Nat.le_refl _) x).alloc (by simp) y : Below w.heap.size w ((w.alloc x).alloc y)))
  clear h1 h2
  obtain ⟨r, hr0⟩ : ∃ r, decide (a.alike b) = r := ⟨_, rfl⟩
  rw [hr0]
  obtain ⟨k1, t1, f1, n1, p1, m1, i1, y1, v1, u1⟩ := a
  obtain ⟨k2, t2, f2, n2, p2, m2, i2, y2, v2, u2⟩ := b
  simp only [ActV.val, ActV.ok] at HA HB ⊢
  have HR := Lib.hid hr0
  clear hr0

  have HP := Lib.hid (fun (W : World) (q1 : p1.ok W) (q2 : p2.ok W) => (show Calls Try.prog 28 #[.agg #[p1.ops, .int .i64 p1.size, .int .i64 p1.slide, .int .i64 p1.agg, .int .i64 p1.sink, .int .i64 p1.feed], .agg #[p2.ops, .int .i64 p2.size, .int .i64 p2.slide, .int .i64 p2.agg, .int .i64 p2.sink, .int .i64 p2.feed]] W _ from pipes_any p1 p2 W q1 q2))
  by_cases d1 : k1 = 3
  · by_cases d2 : k2 = 3
    · obtain rfl : r = true := by rw [← HR.out]; simp [ActV.own, ActV.alike, ActV.same, d1, d2] <;> omega
      go_enter Try.func20, Try.ntmps20
      go_wp2
      go_ret
      exact ⟨rfl, HW.out _ _⟩
    · have d3 : ¬ k1 = k2 := by omega
      obtain rfl : r = false := by rw [← HR.out]; simp [ActV.own, ActV.alike, ActV.same, d2, d3] <;> omega
      go_enter Try.func20, Try.ntmps20
      go_wp2
      go_ret
      exact ⟨rfl, HW.out _ _⟩
  by_cases e0 : k1 = k2
  rotate_left
  · obtain rfl : r = false := by rw [← HR.out]; simp [ActV.alike, ActV.same, d1, e0] <;> omega
    go_enter Try.func20, Try.ntmps20
    go_wp2
    go_ret
    exact ⟨rfl, HW.out _ _⟩
  by_cases e1 : t1 = t2
  rotate_left
  · obtain rfl : r = false := by rw [← HR.out]; simp [ActV.alike, ActV.same, d1, e0, e1] <;> omega
    go_enter Try.func20, Try.ntmps20
    go_wp2
    go_ret
    exact ⟨rfl, HW.out _ _⟩
  by_cases e2 : f1 = f2
  rotate_left
  · obtain rfl : r = false := by rw [← HR.out]; simp [ActV.alike, ActV.same, d1, e0, e1, e2] <;> omega
    go_enter Try.func20, Try.ntmps20
    go_wp2
    go_ret
    exact ⟨rfl, HW.out _ _⟩
  by_cases e3 : n1 = n2
  rotate_left
  · obtain rfl : r = false := by rw [← HR.out]; simp [ActV.alike, ActV.same, d1, e0, e1, e2, e3] <;> omega
    go_enter Try.func20, Try.ntmps20
    go_wp2
    go_ret
    exact ⟨rfl, HW.out _ _⟩
  by_cases e4 : m1 = m2
  rotate_left
  · obtain rfl : r = false := by rw [← HR.out]; simp [ActV.alike, ActV.same, d1, e0, e1, e2, e3, e4] <;> omega
    go_enter Try.func20, Try.ntmps20
    go_wp2
    go_ret
    exact ⟨rfl, HW.out _ _⟩
  by_cases e5 : i1 = i2
  rotate_left
  · obtain rfl : r = false := by rw [← HR.out]; simp [ActV.alike, ActV.same, d1, e0, e1, e2, e3, e4, e5] <;> omega
    go_enter Try.func20, Try.ntmps20
    go_wp2
    go_ret
    exact ⟨rfl, HW.out _ _⟩
  by_cases e6 : y1 = y2
  rotate_left
  · obtain rfl : r = false := by rw [← HR.out]; simp [ActV.alike, ActV.same, d1, e0, e1, e2, e3, e4, e5, e6] <;> omega
    go_enter Try.func20, Try.ntmps20
    go_wp2
    go_ret
    exact ⟨rfl, HW.out _ _⟩
  by_cases e7 : v1 = v2
  rotate_left
  · obtain rfl : r = false := by rw [← HR.out]; simp [ActV.alike, ActV.same, d1, e0, e1, e2, e3, e4, e5, e6, e7] <;> omega
    go_enter Try.func20, Try.ntmps20
    go_wp2
    go_ret
    exact ⟨rfl, HW.out _ _⟩
  by_cases e8 : u1 = u2
  rotate_left
  · obtain rfl : r = false := by rw [← HR.out]; simp [ActV.alike, ActV.same, d1, e0, e1, e2, e3, e4, e5, e6, e7, e8] <;> omega
    go_enter Try.func20, Try.ntmps20
    go_wp2
    go_ret
    exact ⟨rfl, HW.out _ _⟩
  by_cases e9 : p1.same p2
  rotate_left
  · obtain rfl : r = false := by rw [← HR.out]; simp [ActV.alike, ActV.same, d1, e0, e1, e2, e3, e4, e5, e6, e7, e8, e9] <;> omega
    have HE := Lib.hid e9
    clear e9
    go_enter Try.func20, Try.ntmps20
    go_wp2_with (go_at_call 28; (with_reducible refine (HP.out _ (HA.out _ _) (HB.out _ _)).mono ?_); rintro e w1 ⟨rfl, hb⟩; (rw [decide_eq_false HE.out]); have hc := (bcell hb).1; have HB1 := Lib.hid (below_step (HW.out _ _) hb); clear hb)
    go_ret
    exact ⟨rfl, HB1.out⟩
  obtain rfl : r = true := by rw [← HR.out]; simp [ActV.alike, ActV.same, d1, e0, e1, e2, e3, e4, e5, e6, e7, e8, e9] <;> omega
  have HE := Lib.hid e9
  clear e9
  go_enter Try.func20, Try.ntmps20
  go_wp2_with (go_at_call 28; (with_reducible refine (HP.out _ (HA.out _ _) (HB.out _ _)).mono ?_); rintro e w1 ⟨rfl, hb⟩; (rw [decide_eq_true HE.out]); have hc := (bcell hb).1; have HB1 := Lib.hid (below_step (HW.out _ _) hb); clear hb)
  go_ret
  exact ⟨rfl, HB1.out⟩

set_option maxHeartbeats 4000000 in
theorem same_any (a b : ActV) (w : World) (h1 : a.ok w) (h2 : b.ok w) :
    Calls Try.prog 9 #[a.val, b.val] w fun e w' => e = .returned (.bool (decide (a.same b))) ∧ Below w.heap.size w w' := by
  have HA := Lib.hid (fun (x y : Obj) => ActV.ok.kept h1 (((Below.refl _ w).alloc (Nat.le_refl _) x).alloc (by simp) y))
  have HB := Lib.hid (fun (x y : Obj) => ActV.ok.kept h2 (((Below.refl _ w).alloc (Nat.le_refl _) x).alloc (by simp) y))
  have HW := Lib.hid (fun (x y : Obj) => (((Below.refl _ w).alloc (Nat.le_refl _) x).alloc (by simp) y : Below w.heap.size w ((w.alloc x).alloc y)))
  clear h1 h2
  obtain ⟨r, hr0⟩ : ∃ r, decide (a.same b) = r := ⟨_, rfl⟩
  rw [hr0]
  obtain ⟨k1, t1, f1, n1, p1, m1, i1, y1, v1, u1⟩ := a
  obtain ⟨k2, t2, f2, n2, p2, m2, i2, y2, v2, u2⟩ := b
  simp only [ActV.val, ActV.ok] at HA HB ⊢
  have HR := Lib.hid hr0
  clear hr0

  have HP := Lib.hid (fun (W : World) (q1 : p1.ok W) (q2 : p2.ok W) => (show Calls Try.prog 18 #[.agg #[p1.ops, .int .i64 p1.size, .int .i64 p1.slide, .int .i64 p1.agg, .int .i64 p1.sink, .int .i64 p1.feed], .agg #[p2.ops, .int .i64 p2.size, .int .i64 p2.slide, .int .i64 p2.agg, .int .i64 p2.sink, .int .i64 p2.feed]] W _ from pipesK_any p1 p2 W q1 q2))
  by_cases e0 : k1 = k2
  rotate_left
  · obtain rfl : r = false := by rw [← HR.out]; simp [ActV.alike, ActV.same, e0] <;> omega
    go_enter Try.func9, Try.ntmps9
    go_wp2
    go_ret
    exact ⟨rfl, HW.out _ _⟩
  by_cases e1 : t1 = t2
  rotate_left
  · obtain rfl : r = false := by rw [← HR.out]; simp [ActV.alike, ActV.same, e0, e1] <;> omega
    go_enter Try.func9, Try.ntmps9
    go_wp2
    go_ret
    exact ⟨rfl, HW.out _ _⟩
  by_cases e2 : f1 = f2
  rotate_left
  · obtain rfl : r = false := by rw [← HR.out]; simp [ActV.alike, ActV.same, e0, e1, e2] <;> omega
    go_enter Try.func9, Try.ntmps9
    go_wp2
    go_ret
    exact ⟨rfl, HW.out _ _⟩
  by_cases e3 : n1 = n2
  rotate_left
  · obtain rfl : r = false := by rw [← HR.out]; simp [ActV.alike, ActV.same, e0, e1, e2, e3] <;> omega
    go_enter Try.func9, Try.ntmps9
    go_wp2
    go_ret
    exact ⟨rfl, HW.out _ _⟩
  by_cases e4 : p1.same p2
  rotate_left
  · obtain rfl : r = false := by rw [← HR.out]; simp [ActV.alike, ActV.same, e0, e1, e2, e3, e4] <;> omega
    have HE := Lib.hid e4
    clear e4
    go_enter Try.func9, Try.ntmps9
    go_wp2_with (go_at_call 18; (with_reducible refine (HP.out _ (HA.out _ _) (HB.out _ _)).mono ?_); rintro e w1 ⟨rfl, hb⟩; (rw [decide_eq_false HE.out]); have hc := (bcell hb).1; have HB1 := Lib.hid (below_step (HW.out _ _) hb); clear hb)
    go_ret
    exact ⟨rfl, HB1.out⟩
  by_cases e5 : m1 = m2
  rotate_left
  · obtain rfl : r = false := by rw [← HR.out]; simp [ActV.alike, ActV.same, e0, e1, e2, e3, e4, e5] <;> omega
    have HE := Lib.hid e4
    clear e4
    go_enter Try.func9, Try.ntmps9
    go_wp2_with (go_at_call 18; (with_reducible refine (HP.out _ (HA.out _ _) (HB.out _ _)).mono ?_); rintro e w1 ⟨rfl, hb⟩; (rw [decide_eq_true HE.out]); have hc := (bcell hb).1; have HB1 := Lib.hid (below_step (HW.out _ _) hb); clear hb)
    go_ret
    exact ⟨rfl, HB1.out⟩
  by_cases e6 : i1 = i2
  rotate_left
  · obtain rfl : r = false := by rw [← HR.out]; simp [ActV.alike, ActV.same, e0, e1, e2, e3, e4, e5, e6] <;> omega
    have HE := Lib.hid e4
    clear e4
    go_enter Try.func9, Try.ntmps9
    go_wp2_with (go_at_call 18; (with_reducible refine (HP.out _ (HA.out _ _) (HB.out _ _)).mono ?_); rintro e w1 ⟨rfl, hb⟩; (rw [decide_eq_true HE.out]); have hc := (bcell hb).1; have HB1 := Lib.hid (below_step (HW.out _ _) hb); clear hb)
    go_ret
    exact ⟨rfl, HB1.out⟩
  by_cases e7 : y1 = y2
  rotate_left
  · obtain rfl : r = false := by rw [← HR.out]; simp [ActV.alike, ActV.same, e0, e1, e2, e3, e4, e5, e6, e7] <;> omega
    have HE := Lib.hid e4
    clear e4
    go_enter Try.func9, Try.ntmps9
    go_wp2_with (go_at_call 18; (with_reducible refine (HP.out _ (HA.out _ _) (HB.out _ _)).mono ?_); rintro e w1 ⟨rfl, hb⟩; (rw [decide_eq_true HE.out]); have hc := (bcell hb).1; have HB1 := Lib.hid (below_step (HW.out _ _) hb); clear hb)
    go_ret
    exact ⟨rfl, HB1.out⟩
  by_cases e8 : v1 = v2
  rotate_left
  · obtain rfl : r = false := by rw [← HR.out]; simp [ActV.alike, ActV.same, e0, e1, e2, e3, e4, e5, e6, e7, e8] <;> omega
    have HE := Lib.hid e4
    clear e4
    go_enter Try.func9, Try.ntmps9
    go_wp2_with (go_at_call 18; (with_reducible refine (HP.out _ (HA.out _ _) (HB.out _ _)).mono ?_); rintro e w1 ⟨rfl, hb⟩; (rw [decide_eq_true HE.out]); have hc := (bcell hb).1; have HB1 := Lib.hid (below_step (HW.out _ _) hb); clear hb)
    go_ret
    exact ⟨rfl, HB1.out⟩
  by_cases e9 : u1 = u2
  rotate_left
  · obtain rfl : r = false := by rw [← HR.out]; simp [ActV.alike, ActV.same, e0, e1, e2, e3, e4, e5, e6, e7, e8, e9] <;> omega
    have HE := Lib.hid e4
    clear e4
    go_enter Try.func9, Try.ntmps9
    go_wp2_with (go_at_call 18; (with_reducible refine (HP.out _ (HA.out _ _) (HB.out _ _)).mono ?_); rintro e w1 ⟨rfl, hb⟩; (rw [decide_eq_true HE.out]); have hc := (bcell hb).1; have HB1 := Lib.hid (below_step (HW.out _ _) hb); clear hb)
    go_ret
    exact ⟨rfl, HB1.out⟩
  obtain rfl : r = true := by rw [← HR.out]; simp [ActV.alike, ActV.same, e0, e1, e2, e3, e4, e5, e6, e7, e8, e9] <;> omega
  have HE := Lib.hid e4
  clear e4
  go_enter Try.func9, Try.ntmps9
  go_wp2_with (go_at_call 18; (with_reducible refine (HP.out _ (HA.out _ _) (HB.out _ _)).mono ?_); rintro e w1 ⟨rfl, hb⟩; (rw [decide_eq_true HE.out]); have hc := (bcell hb).1; have HB1 := Lib.hid (below_step (HW.out _ _) hb); clear hb)
  go_ret
  exact ⟨rfl, HB1.out⟩

end Go.Proofs.Ytemmekpmoigdeaa
