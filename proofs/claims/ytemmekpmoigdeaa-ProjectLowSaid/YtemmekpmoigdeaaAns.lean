/- What two answers' comparison says. -/
import Derived.Test.YtemmekpmoigdeaaLow
set_option linter.unusedSimpArgs false
set_option linter.unusedVariables false
set_option linter.unnecessarySimpa false
namespace Go.Proofs.Ytemmekpmoigdeaa
open Go.RowKit

structure AnsV where
  err : Int
  rows : Value
  rl : List RowV
  told : Value
  tl : List RelV
def AnsV.cs (a : AnsV) : List Value := [.int .i64 a.err, a.rows, a.told]
def AnsV.val (a : AnsV) : Value := .agg #[.int .i64 a.err, a.rows, a.told]
def AnsV.same (a b : AnsV) : Prop := a.err = b.err ∧ a.rl = b.rl ∧ a.tl = b.tl
instance (a b : AnsV) : Decidable (a.same b) := by unfold AnsV.same; infer_instance
structure AnsV.ok (w : World) (a : AnsV) : Prop where
  r : IsR RowV.cs 5 w a.rows a.rl
  t : IsR RelV.cs 4 w a.told a.tl
theorem AnsV.ok.kept {w w' : World} {a : AnsV} (h : a.ok w) (hb : Below w.heap.size w w') : a.ok w' := ⟨IsR.kept h.r hb, IsR.kept h.t hb⟩

set_option maxHeartbeats 2000000 in
theorem ans_any (a b : AnsV) (w : World) (h1 : a.ok w) (h2 : b.ok w) :
    Calls Try.prog 11 #[a.val, b.val] w fun e w' => e = .returned (.bool (decide (a.same b))) ∧ Below w.heap.size w w' := by
  have HW := Lib.hid (fun (x y : Obj) => (((Below.refl _ w).alloc (Nat.le_refl _) x).alloc (by simp) y : Below w.heap.size w ((w.alloc x).alloc y)))
  have HA := Lib.hid (fun (W : World) (hb : Below w.heap.size w W) => h1.kept hb)
  have HB := Lib.hid (fun (W : World) (hb : Below w.heap.size w W) => h2.kept hb)
  clear h1 h2
  obtain ⟨s1, p1, l1, q1, m1⟩ := a
  obtain ⟨s2, p2, l2, q2, m2⟩ := b
  simp only [AnsV.val, AnsV.same] at HA HB ⊢
  have hcase : (¬ (s1 = s2)) ∨ (s1 = s2 ∧ ¬ (l1 = l2)) ∨ (s1 = s2 ∧ l1 = l2 ∧ ¬ (m1 = m2)) ∨ (s1 = s2 ∧ l1 = l2 ∧ m1 = m2) := by
    by_cases e0 : s1 = s2 <;> by_cases e1 : l1 = l2 <;> by_cases e2 : m1 = m2 <;> simp [e0, e1, e2]
  rcases hcase with e0 | ⟨e0, e1⟩ | ⟨e0, e1, e2⟩ | ⟨e0, e1, e2⟩
  · have hr : decide (s1 = s2 ∧ l1 = l2 ∧ m1 = m2) = false := by simp [e0]
    rw [hr]
    clear hr
    have z0 : (s1 == s2) = false := by simp [e0]
    have HE0 := Lib.hid e0
    clear e0
    go_enter Try.func11, Try.ntmps11
    go_wp2
    go_ret
    exact ⟨rfl, HW.out _ _⟩
  · have hr : decide (s1 = s2 ∧ l1 = l2 ∧ m1 = m2) = false := by simp [e0, e1]
    rw [hr]
    clear hr
    have z0 : (s1 == s2) = true := by simp [e0]
    have HE0 := Lib.hid e0
    clear e0
    have HE1 := Lib.hid e1
    clear e1
    go_enter Try.func11, Try.ntmps11
    go_wp2_with (go_at_call 21; (with_reducible refine (equalR _ _ l1 l2 _ (HA.out _ (HW.out _ _)).r (HB.out _ (HW.out _ _)).r).mono ?_); rintro e w1 ⟨rfl, hb⟩; (rw [decide_eq_false HE1.out]); have hc := (bcell hb).1; have HB1 := Lib.hid (below_step (HW.out _ _) hb); clear hb)
    go_ret
    exact ⟨rfl, HB1.out⟩
  · have hr : decide (s1 = s2 ∧ l1 = l2 ∧ m1 = m2) = false := by simp [e0, e1, e2]
    rw [hr]
    clear hr
    have z0 : (s1 == s2) = true := by simp [e0]
    have HE0 := Lib.hid e0
    clear e0
    have HE1 := Lib.hid e1
    clear e1
    have HE2 := Lib.hid e2
    clear e2
    go_enter Try.func11, Try.ntmps11
    go_wp2_with (first
      | (go_at_call 21; (with_reducible refine (equalR _ _ l1 l2 _ (HA.out _ (HW.out _ _)).r (HB.out _ (HW.out _ _)).r).mono ?_); rintro e w1 ⟨rfl, hb⟩; (rw [decide_eq_true HE1.out]); have hc := (bcell hb).1; have HB1 := Lib.hid (below_step (HW.out _ _) hb); clear hb)
      | (go_at_call 22; (with_reducible refine (equalL _ _ m1 m2 _ (HA.out _ HB1.out).t (HB.out _ HB1.out).t).mono ?_); rintro e w2 ⟨rfl, hb⟩; (rw [decide_eq_false HE2.out]); have HB2 := Lib.hid (below_step HB1.out hb); clear hb))
    go_ret
    exact ⟨rfl, HB2.out⟩
  · have hr : decide (s1 = s2 ∧ l1 = l2 ∧ m1 = m2) = true := by simp [e0, e1, e2]
    rw [hr]
    clear hr
    have z0 : (s1 == s2) = true := by simp [e0]
    have HE0 := Lib.hid e0
    clear e0
    have HE1 := Lib.hid e1
    clear e1
    have HE2 := Lib.hid e2
    clear e2
    go_enter Try.func11, Try.ntmps11
    go_wp2_with (first
      | (go_at_call 21; (with_reducible refine (equalR _ _ l1 l2 _ (HA.out _ (HW.out _ _)).r (HB.out _ (HW.out _ _)).r).mono ?_); rintro e w1 ⟨rfl, hb⟩; (rw [decide_eq_true HE1.out]); have hc := (bcell hb).1; have HB1 := Lib.hid (below_step (HW.out _ _) hb); clear hb)
      | (go_at_call 22; (with_reducible refine (equalL _ _ m1 m2 _ (HA.out _ HB1.out).t (HB.out _ HB1.out).t).mono ?_); rintro e w2 ⟨rfl, hb⟩; (rw [decide_eq_true HE2.out]); have HB2 := Lib.hid (below_step HB1.out hb); clear hb))
    go_ret
    exact ⟨rfl, HB2.out⟩

set_option maxHeartbeats 2000000 in
theorem ansK_any (a b : AnsV) (w : World) (h1 : a.ok w) (h2 : b.ok w) :
    Calls Try.prog 15 #[a.val, b.val] w fun e w' => e = .returned (.bool (decide (a.same b))) ∧ Below w.heap.size w w' := by
  have HW := Lib.hid (fun (x y : Obj) => (((Below.refl _ w).alloc (Nat.le_refl _) x).alloc (by simp) y : Below w.heap.size w ((w.alloc x).alloc y)))
  have HA := Lib.hid (fun (W : World) (hb : Below w.heap.size w W) => h1.kept hb)
  have HB := Lib.hid (fun (W : World) (hb : Below w.heap.size w W) => h2.kept hb)
  clear h1 h2
  obtain ⟨s1, p1, l1, q1, m1⟩ := a
  obtain ⟨s2, p2, l2, q2, m2⟩ := b
  simp only [AnsV.val, AnsV.same] at HA HB ⊢
  have hcase : (¬ (s1 = s2)) ∨ (s1 = s2 ∧ ¬ (l1 = l2)) ∨ (s1 = s2 ∧ l1 = l2 ∧ ¬ (m1 = m2)) ∨ (s1 = s2 ∧ l1 = l2 ∧ m1 = m2) := by
    by_cases e0 : s1 = s2 <;> by_cases e1 : l1 = l2 <;> by_cases e2 : m1 = m2 <;> simp [e0, e1, e2]
  rcases hcase with e0 | ⟨e0, e1⟩ | ⟨e0, e1, e2⟩ | ⟨e0, e1, e2⟩
  · have hr : decide (s1 = s2 ∧ l1 = l2 ∧ m1 = m2) = false := by simp [e0]
    rw [hr]
    clear hr
    have z0 : (s1 == s2) = false := by simp [e0]
    have HE0 := Lib.hid e0
    clear e0
    go_enter Try.func15, Try.ntmps15
    go_wp2
    go_ret
    exact ⟨rfl, HW.out _ _⟩
  · have hr : decide (s1 = s2 ∧ l1 = l2 ∧ m1 = m2) = false := by simp [e0, e1]
    rw [hr]
    clear hr
    have z0 : (s1 == s2) = true := by simp [e0]
    have HE0 := Lib.hid e0
    clear e0
    have HE1 := Lib.hid e1
    clear e1
    go_enter Try.func15, Try.ntmps15
    go_wp2_with (go_at_call 25; (with_reducible refine (sameR _ _ l1 l2 _ (HA.out _ (HW.out _ _)).r (HB.out _ (HW.out _ _)).r).mono ?_); rintro e w1 ⟨rfl, hb⟩; (rw [decide_eq_false HE1.out]); have hc := (bcell hb).1; have HB1 := Lib.hid (below_step (HW.out _ _) hb); clear hb)
    go_ret
    exact ⟨rfl, HB1.out⟩
  · have hr : decide (s1 = s2 ∧ l1 = l2 ∧ m1 = m2) = false := by simp [e0, e1, e2]
    rw [hr]
    clear hr
    have z0 : (s1 == s2) = true := by simp [e0]
    have HE0 := Lib.hid e0
    clear e0
    have HE1 := Lib.hid e1
    clear e1
    have HE2 := Lib.hid e2
    clear e2
    go_enter Try.func15, Try.ntmps15
    go_wp2_with (first
      | (go_at_call 25; (with_reducible refine (sameR _ _ l1 l2 _ (HA.out _ (HW.out _ _)).r (HB.out _ (HW.out _ _)).r).mono ?_); rintro e w1 ⟨rfl, hb⟩; (rw [decide_eq_true HE1.out]); have hc := (bcell hb).1; have HB1 := Lib.hid (below_step (HW.out _ _) hb); clear hb)
      | (go_at_call 26; (with_reducible refine (sameL _ _ m1 m2 _ (HA.out _ HB1.out).t (HB.out _ HB1.out).t).mono ?_); rintro e w2 ⟨rfl, hb⟩; (rw [decide_eq_false HE2.out]); have HB2 := Lib.hid (below_step HB1.out hb); clear hb))
    go_ret
    exact ⟨rfl, HB2.out⟩
  · have hr : decide (s1 = s2 ∧ l1 = l2 ∧ m1 = m2) = true := by simp [e0, e1, e2]
    rw [hr]
    clear hr
    have z0 : (s1 == s2) = true := by simp [e0]
    have HE0 := Lib.hid e0
    clear e0
    have HE1 := Lib.hid e1
    clear e1
    have HE2 := Lib.hid e2
    clear e2
    go_enter Try.func15, Try.ntmps15
    go_wp2_with (first
      | (go_at_call 25; (with_reducible refine (sameR _ _ l1 l2 _ (HA.out _ (HW.out _ _)).r (HB.out _ (HW.out _ _)).r).mono ?_); rintro e w1 ⟨rfl, hb⟩; (rw [decide_eq_true HE1.out]); have hc := (bcell hb).1; have HB1 := Lib.hid (below_step (HW.out _ _) hb); clear hb)
      | (go_at_call 26; (with_reducible refine (sameL _ _ m1 m2 _ (HA.out _ HB1.out).t (HB.out _ HB1.out).t).mono ?_); rintro e w2 ⟨rfl, hb⟩; (rw [decide_eq_true HE2.out]); have HB2 := Lib.hid (below_step HB1.out hb); clear hb))
    go_ret
    exact ⟨rfl, HB2.out⟩

end Go.Proofs.Ytemmekpmoigdeaa
