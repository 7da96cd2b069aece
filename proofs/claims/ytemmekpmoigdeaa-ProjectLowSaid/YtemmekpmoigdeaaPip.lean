/- What two pipes' comparison says. -/
import Derived.Test.YtemmekpmoigdeaaOps
namespace Go.Proofs.Ytemmekpmoigdeaa
open Go.RowKit

structure PipeV where
  ops : Value
  ol : List OpV
  size : Int
  slide : Int
  agg : Int
  sink : Int
  feed : Int
def PipeV.cs (a : PipeV) : List Value := [a.ops, .int .i64 a.size, .int .i64 a.slide, .int .i64 a.agg, .int .i64 a.sink, .int .i64 a.feed]
def PipeV.val (a : PipeV) : Value := .agg #[a.ops, .int .i64 a.size, .int .i64 a.slide, .int .i64 a.agg, .int .i64 a.sink, .int .i64 a.feed]
def PipeV.same (a b : PipeV) : Prop := a.ol = b.ol ∧ a.size = b.size ∧ a.slide = b.slide ∧ a.agg = b.agg ∧ a.sink = b.sink ∧ a.feed = b.feed
instance (a b : PipeV) : Decidable (a.same b) := by unfold PipeV.same; infer_instance
def PipeV.ok (w : World) (a : PipeV) : Prop := IsR OpV.cs 2 w a.ops a.ol
theorem PipeV.ok.kept {w w' : World} {a : PipeV} (h : a.ok w) (hb : Below w.heap.size w w') : a.ok w' := IsR.kept h hb

set_option maxHeartbeats 2000000 in
theorem pipes_any (a b : PipeV) (w : World) (h1 : a.ok w) (h2 : b.ok w) :
    Calls Try.prog 28 #[a.val, b.val] w fun e w' => e = .returned (.bool (decide (a.same b))) ∧ Below w.heap.size w w' := by
  have HA := Lib.hid (fun (x y : Obj) => h1.kept (((Below.refl _ w).alloc (Nat.le_refl _) x).alloc (by simp) y))
  have HB := Lib.hid (fun (x y : Obj) => h2.kept (((Below.refl _ w).alloc (Nat.le_refl _) x).alloc (by simp) y))
  have HW := Lib.hid (fun (x y : Obj) => (((Below.refl _ w).alloc (Nat.le_refl _) x).alloc (by simp) y : Below w.heap.size w ((w.alloc x).alloc y)))
  clear h1 h2
  obtain ⟨p1, l1, s1, d1, g1, k1, f1⟩ := a
  obtain ⟨p2, l2, s2, d2, g2, k2, f2⟩ := b
  simp only [PipeV.val, PipeV.same, PipeV.ok] at HA HB ⊢
  have hcase : (¬ (l1 = l2)) ∨ (l1 = l2 ∧ ¬ (s1 = s2)) ∨ (l1 = l2 ∧ s1 = s2 ∧ ¬ (d1 = d2)) ∨ (l1 = l2 ∧ s1 = s2 ∧ d1 = d2 ∧ ¬ (g1 = g2)) ∨ (l1 = l2 ∧ s1 = s2 ∧ d1 = d2 ∧ g1 = g2 ∧ ¬ (k1 = k2)) ∨ (l1 = l2 ∧ s1 = s2 ∧ d1 = d2 ∧ g1 = g2 ∧ k1 = k2 ∧ ¬ (f1 = f2)) ∨ (l1 = l2 ∧ s1 = s2 ∧ d1 = d2 ∧ g1 = g2 ∧ k1 = k2 ∧ f1 = f2) := by
    by_cases e0 : l1 = l2 <;> by_cases e1 : s1 = s2 <;> by_cases e2 : d1 = d2 <;> by_cases e3 : g1 = g2 <;> by_cases e4 : k1 = k2 <;> by_cases e5 : f1 = f2 <;> simp [e0, e1, e2, e3, e4, e5]
  rcases hcase with e0 | ⟨e0, e1⟩ | ⟨e0, e1, e2⟩ | ⟨e0, e1, e2, e3⟩ | ⟨e0, e1, e2, e3, e4⟩ | ⟨e0, e1, e2, e3, e4, e5⟩ | ⟨e0, e1, e2, e3, e4, e5⟩
  · have hr : decide (l1 = l2 ∧ s1 = s2 ∧ d1 = d2 ∧ g1 = g2 ∧ k1 = k2 ∧ f1 = f2) = false := by simp [e0]
    rw [hr]
    clear hr
    have HE := Lib.hid e0
    clear e0
    go_enter Try.func28, Try.ntmps28
    go_wp2_with (go_at_call 30; (with_reducible refine (equalO _ _ l1 l2 _ (HA.out _ _) (HB.out _ _)).mono ?_); rintro e w1 ⟨rfl, hb⟩; (rw [decide_eq_false HE.out]); have hc := (bcell hb).1; have HB1 := Lib.hid (below_step (HW.out _ _) hb); clear hb)
    go_ret
    exact ⟨rfl, HB1.out⟩
  · have hr : decide (l1 = l2 ∧ s1 = s2 ∧ d1 = d2 ∧ g1 = g2 ∧ k1 = k2 ∧ f1 = f2) = false := by simp [e0, e1]
    rw [hr]
    clear hr
    have HE := Lib.hid e0
    clear e0
    have q1 : (s1 == s2) = false := by simp [e1]
    clear e1
    go_enter Try.func28, Try.ntmps28
    go_wp2_with (go_at_call 30; (with_reducible refine (equalO _ _ l1 l2 _ (HA.out _ _) (HB.out _ _)).mono ?_); rintro e w1 ⟨rfl, hb⟩; (rw [decide_eq_true HE.out]); have hc := (bcell hb).1; have HB1 := Lib.hid (below_step (HW.out _ _) hb); clear hb)
    go_ret
    exact ⟨rfl, HB1.out⟩
  · have hr : decide (l1 = l2 ∧ s1 = s2 ∧ d1 = d2 ∧ g1 = g2 ∧ k1 = k2 ∧ f1 = f2) = false := by simp [e0, e1, e2]
    rw [hr]
    clear hr
    have HE := Lib.hid e0
    clear e0
    have q1 : (s1 == s2) = true := by simp [e1]
    clear e1
    have q2 : (d1 == d2) = false := by simp [e2]
    clear e2
    go_enter Try.func28, Try.ntmps28
    go_wp2_with (go_at_call 30; (with_reducible refine (equalO _ _ l1 l2 _ (HA.out _ _) (HB.out _ _)).mono ?_); rintro e w1 ⟨rfl, hb⟩; (rw [decide_eq_true HE.out]); have hc := (bcell hb).1; have HB1 := Lib.hid (below_step (HW.out _ _) hb); clear hb)
    go_ret
    exact ⟨rfl, HB1.out⟩
  · have hr : decide (l1 = l2 ∧ s1 = s2 ∧ d1 = d2 ∧ g1 = g2 ∧ k1 = k2 ∧ f1 = f2) = false := by simp [e0, e1, e2, e3]
    rw [hr]
    clear hr
    have HE := Lib.hid e0
    clear e0
    have q1 : (s1 == s2) = true := by simp [e1]
    clear e1
    have q2 : (d1 == d2) = true := by simp [e2]
    clear e2
    have q3 : (g1 == g2) = false := by simp [e3]
    clear e3
    go_enter Try.func28, Try.ntmps28
    go_wp2_with (go_at_call 30; (with_reducible refine (equalO _ _ l1 l2 _ (HA.out _ _) (HB.out _ _)).mono ?_); rintro e w1 ⟨rfl, hb⟩; (rw [decide_eq_true HE.out]); have hc := (bcell hb).1; have HB1 := Lib.hid (below_step (HW.out _ _) hb); clear hb)
    go_ret
    exact ⟨rfl, HB1.out⟩
  · have hr : decide (l1 = l2 ∧ s1 = s2 ∧ d1 = d2 ∧ g1 = g2 ∧ k1 = k2 ∧ f1 = f2) = false := by simp [e0, e1, e2, e3, e4]
    rw [hr]
    clear hr
    have HE := Lib.hid e0
    clear e0
    have q1 : (s1 == s2) = true := by simp [e1]
    clear e1
    have q2 : (d1 == d2) = true := by simp [e2]
    clear e2
    have q3 : (g1 == g2) = true := by simp [e3]
    clear e3
    have q4 : (k1 == k2) = false := by simp [e4]
    clear e4
    go_enter Try.func28, Try.ntmps28
    go_wp2_with (go_at_call 30; (with_reducible refine (equalO _ _ l1 l2 _ (HA.out _ _) (HB.out _ _)).mono ?_); rintro e w1 ⟨rfl, hb⟩; (rw [decide_eq_true HE.out]); have hc := (bcell hb).1; have HB1 := Lib.hid (below_step (HW.out _ _) hb); clear hb)
    go_ret
    exact ⟨rfl, HB1.out⟩
  · have hr : decide (l1 = l2 ∧ s1 = s2 ∧ d1 = d2 ∧ g1 = g2 ∧ k1 = k2 ∧ f1 = f2) = false := by simp [e0, e1, e2, e3, e4, e5]
    rw [hr]
    clear hr
    have HE := Lib.hid e0
    clear e0
    have q1 : (s1 == s2) = true := by simp [e1]
    clear e1
    have q2 : (d1 == d2) = true := by simp [e2]
    clear e2
    have q3 : (g1 == g2) = true := by simp [e3]
    clear e3
    have q4 : (k1 == k2) = true := by simp [e4]
    clear e4
    have q5 : (f1 == f2) = false := by simp [e5]
    clear e5
    go_enter Try.func28, Try.ntmps28
    go_wp2_with (go_at_call 30; (with_reducible refine (equalO _ _ l1 l2 _ (HA.out _ _) (HB.out _ _)).mono ?_); rintro e w1 ⟨rfl, hb⟩; (rw [decide_eq_true HE.out]); have hc := (bcell hb).1; have HB1 := Lib.hid (below_step (HW.out _ _) hb); clear hb)
    go_ret
    exact ⟨rfl, HB1.out⟩
  · have hr : decide (l1 = l2 ∧ s1 = s2 ∧ d1 = d2 ∧ g1 = g2 ∧ k1 = k2 ∧ f1 = f2) = true := by simp [e0, e1, e2, e3, e4, e5]
    rw [hr]
    clear hr
    have HE := Lib.hid e0
    clear e0
    have q1 : (s1 == s2) = true := by simp [e1]
    clear e1
    have q2 : (d1 == d2) = true := by simp [e2]
    clear e2
    have q3 : (g1 == g2) = true := by simp [e3]
    clear e3
    have q4 : (k1 == k2) = true := by simp [e4]
    clear e4
    have q5 : (f1 == f2) = true := by simp [e5]
    clear e5
    go_enter Try.func28, Try.ntmps28
    go_wp2_with (go_at_call 30; (with_reducible refine (equalO _ _ l1 l2 _ (HA.out _ _) (HB.out _ _)).mono ?_); rintro e w1 ⟨rfl, hb⟩; (rw [decide_eq_true HE.out]); have hc := (bcell hb).1; have HB1 := Lib.hid (below_step (HW.out _ _) hb); clear hb)
    go_ret
    exact ⟨rfl, HB1.out⟩

set_option maxHeartbeats 2000000 in
theorem pipesK_any (a b : PipeV) (w : World) (h1 : a.ok w) (h2 : b.ok w) :
    Calls Try.prog 18 #[a.val, b.val] w fun e w' => e = .returned (.bool (decide (a.same b))) ∧ Below w.heap.size w w' := by
  have HA := Lib.hid (fun (x y : Obj) => h1.kept (((Below.refl _ w).alloc (Nat.le_refl _) x).alloc (by simp) y))
  have HB := Lib.hid (fun (x y : Obj) => h2.kept (((Below.refl _ w).alloc (Nat.le_refl _) x).alloc (by simp) y))
  have HW := Lib.hid (fun (x y : Obj) => (((Below.refl _ w).alloc (Nat.le_refl _) x).alloc (by simp) y : Below w.heap.size w ((w.alloc x).alloc y)))
  clear h1 h2
  obtain ⟨p1, l1, s1, d1, g1, k1, f1⟩ := a
  obtain ⟨p2, l2, s2, d2, g2, k2, f2⟩ := b
  simp only [PipeV.val, PipeV.same, PipeV.ok] at HA HB ⊢
  have hcase : (¬ (l1 = l2)) ∨ (l1 = l2 ∧ ¬ (s1 = s2)) ∨ (l1 = l2 ∧ s1 = s2 ∧ ¬ (d1 = d2)) ∨ (l1 = l2 ∧ s1 = s2 ∧ d1 = d2 ∧ ¬ (g1 = g2)) ∨ (l1 = l2 ∧ s1 = s2 ∧ d1 = d2 ∧ g1 = g2 ∧ ¬ (k1 = k2)) ∨ (l1 = l2 ∧ s1 = s2 ∧ d1 = d2 ∧ g1 = g2 ∧ k1 = k2 ∧ ¬ (f1 = f2)) ∨ (l1 = l2 ∧ s1 = s2 ∧ d1 = d2 ∧ g1 = g2 ∧ k1 = k2 ∧ f1 = f2) := by
    by_cases e0 : l1 = l2 <;> by_cases e1 : s1 = s2 <;> by_cases e2 : d1 = d2 <;> by_cases e3 : g1 = g2 <;> by_cases e4 : k1 = k2 <;> by_cases e5 : f1 = f2 <;> simp [e0, e1, e2, e3, e4, e5]
  rcases hcase with e0 | ⟨e0, e1⟩ | ⟨e0, e1, e2⟩ | ⟨e0, e1, e2, e3⟩ | ⟨e0, e1, e2, e3, e4⟩ | ⟨e0, e1, e2, e3, e4, e5⟩ | ⟨e0, e1, e2, e3, e4, e5⟩
  · have hr : decide (l1 = l2 ∧ s1 = s2 ∧ d1 = d2 ∧ g1 = g2 ∧ k1 = k2 ∧ f1 = f2) = false := by simp [e0]
    rw [hr]
    clear hr
    have HE := Lib.hid e0
    clear e0
    go_enter Try.func18, Try.ntmps18
    go_wp2_with (go_at_call 27; (with_reducible refine (sameO _ _ l1 l2 _ (HA.out _ _) (HB.out _ _)).mono ?_); rintro e w1 ⟨rfl, hb⟩; (rw [decide_eq_false HE.out]); have hc := (bcell hb).1; have HB1 := Lib.hid (below_step (HW.out _ _) hb); clear hb)
    go_ret
    exact ⟨rfl, HB1.out⟩
  · have hr : decide (l1 = l2 ∧ s1 = s2 ∧ d1 = d2 ∧ g1 = g2 ∧ k1 = k2 ∧ f1 = f2) = false := by simp [e0, e1]
    rw [hr]
    clear hr
    have HE := Lib.hid e0
    clear e0
    have q1 : (s1 == s2) = false := by simp [e1]
    clear e1
    go_enter Try.func18, Try.ntmps18
    go_wp2_with (go_at_call 27; (with_reducible refine (sameO _ _ l1 l2 _ (HA.out _ _) (HB.out _ _)).mono ?_); rintro e w1 ⟨rfl, hb⟩; (rw [decide_eq_true HE.out]); have hc := (bcell hb).1; have HB1 := Lib.hid (below_step (HW.out _ _) hb); clear hb)
    go_ret
    exact ⟨rfl, HB1.out⟩
  · have hr : decide (l1 = l2 ∧ s1 = s2 ∧ d1 = d2 ∧ g1 = g2 ∧ k1 = k2 ∧ f1 = f2) = false := by simp [e0, e1, e2]
    rw [hr]
    clear hr
    have HE := Lib.hid e0
    clear e0
    have q1 : (s1 == s2) = true := by simp [e1]
    clear e1
    have q2 : (d1 == d2) = false := by simp [e2]
    clear e2
    go_enter Try.func18, Try.ntmps18
    go_wp2_with (go_at_call 27; (with_reducible refine (sameO _ _ l1 l2 _ (HA.out _ _) (HB.out _ _)).mono ?_); rintro e w1 ⟨rfl, hb⟩; (rw [decide_eq_true HE.out]); have hc := (bcell hb).1; have HB1 := Lib.hid (below_step (HW.out _ _) hb); clear hb)
    go_ret
    exact ⟨rfl, HB1.out⟩
  · have hr : decide (l1 = l2 ∧ s1 = s2 ∧ d1 = d2 ∧ g1 = g2 ∧ k1 = k2 ∧ f1 = f2) = false := by simp [e0, e1, e2, e3]
    rw [hr]
    clear hr
    have HE := Lib.hid e0
    clear e0
    have q1 : (s1 == s2) = true := by simp [e1]
    clear e1
    have q2 : (d1 == d2) = true := by simp [e2]
    clear e2
    have q3 : (g1 == g2) = false := by simp [e3]
    clear e3
    go_enter Try.func18, Try.ntmps18
    go_wp2_with (go_at_call 27; (with_reducible refine (sameO _ _ l1 l2 _ (HA.out _ _) (HB.out _ _)).mono ?_); rintro e w1 ⟨rfl, hb⟩; (rw [decide_eq_true HE.out]); have hc := (bcell hb).1; have HB1 := Lib.hid (below_step (HW.out _ _) hb); clear hb)
    go_ret
    exact ⟨rfl, HB1.out⟩
  · have hr : decide (l1 = l2 ∧ s1 = s2 ∧ d1 = d2 ∧ g1 = g2 ∧ k1 = k2 ∧ f1 = f2) = false := by simp [e0, e1, e2, e3, e4]
    rw [hr]
    clear hr
    have HE := Lib.hid e0
    clear e0
    have q1 : (s1 == s2) = true := by simp [e1]
    clear e1
    have q2 : (d1 == d2) = true := by simp [e2]
    clear e2
    have q3 : (g1 == g2) = true := by simp [e3]
    clear e3
    have q4 : (k1 == k2) = false := by simp [e4]
    clear e4
    go_enter Try.func18, Try.ntmps18
    go_wp2_with (go_at_call 27; (with_reducible refine (sameO _ _ l1 l2 _ (HA.out _ _) (HB.out _ _)).mono ?_); rintro e w1 ⟨rfl, hb⟩; (rw [decide_eq_true HE.out]); have hc := (bcell hb).1; have HB1 := Lib.hid (below_step (HW.out _ _) hb); clear hb)
    go_ret
    exact ⟨rfl, HB1.out⟩
  · have hr : decide (l1 = l2 ∧ s1 = s2 ∧ d1 = d2 ∧ g1 = g2 ∧ k1 = k2 ∧ f1 = f2) = false := by simp [e0, e1, e2, e3, e4, e5]
    rw [hr]
    clear hr
    have HE := Lib.hid e0
    clear e0
    have q1 : (s1 == s2) = true := by simp [e1]
    clear e1
    have q2 : (d1 == d2) = true := by simp [e2]
    clear e2
    have q3 : (g1 == g2) = true := by simp [e3]
    clear e3
    have q4 : (k1 == k2) = true := by simp [e4]
    clear e4
    have q5 : (f1 == f2) = false := by simp [e5]
    clear e5
    go_enter Try.func18, Try.ntmps18
    go_wp2_with (go_at_call 27; (with_reducible refine (sameO _ _ l1 l2 _ (HA.out _ _) (HB.out _ _)).mono ?_); rintro e w1 ⟨rfl, hb⟩; (rw [decide_eq_true HE.out]); have hc := (bcell hb).1; have HB1 := Lib.hid (below_step (HW.out _ _) hb); clear hb)
    go_ret
    exact ⟨rfl, HB1.out⟩
  · have hr : decide (l1 = l2 ∧ s1 = s2 ∧ d1 = d2 ∧ g1 = g2 ∧ k1 = k2 ∧ f1 = f2) = true := by simp [e0, e1, e2, e3, e4, e5]
    rw [hr]
    clear hr
    have HE := Lib.hid e0
    clear e0
    have q1 : (s1 == s2) = true := by simp [e1]
    clear e1
    have q2 : (d1 == d2) = true := by simp [e2]
    clear e2
    have q3 : (g1 == g2) = true := by simp [e3]
    clear e3
    have q4 : (k1 == k2) = true := by simp [e4]
    clear e4
    have q5 : (f1 == f2) = true := by simp [e5]
    clear e5
    go_enter Try.func18, Try.ntmps18
    go_wp2_with (go_at_call 27; (with_reducible refine (sameO _ _ l1 l2 _ (HA.out _ _) (HB.out _ _)).mono ?_); rintro e w1 ⟨rfl, hb⟩; (rw [decide_eq_true HE.out]); have hc := (bcell hb).1; have HB1 := Lib.hid (below_step (HW.out _ _) hb); clear hb)
    go_ret
    exact ⟨rfl, HB1.out⟩

end Go.Proofs.Ytemmekpmoigdeaa
