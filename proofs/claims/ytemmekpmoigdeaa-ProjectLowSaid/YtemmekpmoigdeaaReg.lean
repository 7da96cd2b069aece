/- A region that draws its order, walked by ONE plan: which operations are taken ahead (what they yield hangs on no world that meets S), and which are carried out when nothing else may come up. -/
import Derived.OrdersHeld
import Derived.WalkKit
namespace Go.Proofs.Ytemmekpmoigdeaa
open Go.RowKit

section
variable {P : Program} {ops : Array Oper} {Q : Exit → Act → World → Prop} {S : World → Prop}

/-- The plan's own weakest precondition: (true, i): taken ahead; (false, i): carried out. -/
def wpPlan (P : Program) (ops : Array Oper) (Q : Exit → Act → World → Prop) (S : World → Prop) : List (Bool × Nat) → Act → World → Prop
  | [], a, w => Q .normal a w
  | (true, i) :: rest, a, w => ∃ o v, ops[i]? = some o ∧ YieldsIf P ops S o v a ∧ wpPlan P ops Q S rest (a.put o.dst v) w
  | (false, i) :: rest, a, w => wpOp P ops Q i (fun a' w' => S w' ∧ wpPlan P ops Q S rest a' w') a w

/-- Is it a plan of this region? -/
def planOk (ops : Array Oper) : Array Bool → List (Bool × Nat) → Bool
  | listed, [] => Region.ready .any ops listed == []
  | listed, (true, i) :: rest => Region.free .any ops listed i && (Region.ready .any ops listed).contains i && planOk ops (listed.setIfInBounds i true) rest
  | listed, (false, i) :: rest => Region.ready .any ops listed == [i] && planOk ops (listed.setIfInBounds i true) rest

theorem wpAnyH_of_plan (hs : Region.noSelect ops = true) (hQ : ∀ c a d v w, Q (.panic c) (Act.put a d v) w → Q (.panic c) a w) :
    ∀ (p : List (Bool × Nat)) (listed : Array Bool) (a : Act) (w : World), planOk ops listed p = true → S w → wpPlan P ops Q S p a w → wpAnyH P .any ops Q S p.length listed a w
  | [], listed, a, w, hp, _, h => by
    simp only [planOk, beq_iff_eq] at hp
    exact ⟨hp, h⟩
  | (true, i) :: rest, listed, a, w, hp, hS, h => by
    simp only [planOk, Bool.and_eq_true] at hp
    obtain ⟨o, v, ho, hy, hr⟩ := h
    exact wpAnyH_take ho hs hp.1.1 hp.1.2 (fun c a w => hQ c a _ _ w) hy hS (wpAnyH_of_plan hs hQ rest _ _ _ hp.2 hS hr)
  | (false, i) :: rest, listed, a, w, hp, hS, h => by
    simp only [planOk, Bool.and_eq_true, beq_iff_eq] at hp
    refine wpAnyH_all hp.1 (by simp) fun j hj => ?_
    obtain rfl : j = i := by simpa using hj
    exact wpOp_mono (fun a' w' h' => ⟨h'.1, wpAnyH_of_plan hs hQ rest _ _ _ hp.2 h'.1 h'.2⟩) h

theorem wp_region_plan {id : Nat} {a : Act} {w : World} (S : World → Prop) (p : List (Bool × Nat)) (hm : P.follows .mixedOrders = true) (hs : Region.noSelect ops = true)
    (hp : (planOk ops (Array.replicate ops.size false) p && p.length == ops.size) = true) (hQ : ∀ c a d v w, Q (.panic c) (Act.put a d v) w → Q (.panic c) a w) (hS : S w.drew)
    (h : wpPlan P ops Q S p a w.drew) : (Code.region id ops true).wp P Q a w := by
  simp only [Bool.and_eq_true, beq_iff_eq] at hp
  have := wpAnyH_of_plan (P := P) (S := S) hs hQ p _ a w.drew hp.1 hS h
  rw [hp.2] at this
  exact wp_region_held hm this

/-- The same over the operations themselves, written out. -/
def wpPlanO (P : Program) (ops : Array Oper) (Q : Exit → Act → World → Prop) (S : World → Prop) : List (Bool × Option Oper) → Act → World → Prop
  | [], a, w => Q .normal a w
  | (true, some o) :: rest, a, w => ∃ v, YieldsIf P ops S o v a ∧ wpPlanO P ops Q S rest (a.put o.dst v) w
  | (false, some o) :: rest, a, w => if Region.wanted o (yielded ops a.tmps) then o.wp P a w (fun a' w' => S w' ∧ wpPlanO P ops Q S rest a' w') Q else S w ∧ wpPlanO P ops Q S rest (a.put o.dst undef) w
  | (_, none) :: _, _, _ => False
def planOps (ops : Array Oper) (p : List (Bool × Nat)) : List (Bool × Option Oper) := p.map fun x => (x.1, ops[x.2]?)
theorem wpPlan_of_O : ∀ (p : List (Bool × Nat)) (a : Act) (w : World), wpPlanO P ops Q S (planOps ops p) a w → wpPlan P ops Q S p a w
  | [], _, _, h => h
  | (b, i) :: p, a, w, h => by
    have e : planOps ops ((b, i) :: p) = (b, ops[i]?) :: planOps ops p := rfl
    rw [e] at h
    cases ho : ops[i]? with
    | none => rw [ho] at h; cases b <;> exact h.elim
    | some o =>
      rw [ho] at h
      cases b with
      | true =>
        obtain ⟨v, hy, hr⟩ := h
        exact ⟨o, v, ho, hy, wpPlan_of_O p _ _ hr⟩
      | false =>
        show wpOp P ops Q i _ a w
        unfold wpPlanO at h
        unfold wpOp
        simp only [ho]
        split
        · rename_i hw
          rw [if_pos hw] at h
          exact .inl (Oper.wp_mono (fun a' w' h' => ⟨h'.1, wpPlan_of_O p _ _ h'.2⟩) h)
        · rename_i hw
          rw [if_neg hw] at h
          exact ⟨h.1, wpPlan_of_O p _ _ h.2⟩

/-- A REGION THAT DRAWS ITS ORDER, BY A PLAN. Behind it: 'intro l hl; simp only [plan_simps] at hl; subst hl'. -/
theorem wp_region_planO {id : Nat} {a : Act} {w : World} (S : World → Prop) (p : List (Bool × Nat)) (l : List (Bool × Option Oper)) (hm : P.follows .mixedOrders = true) (hs : Region.noSelect ops = true)
    (hp : (planOk ops (Array.replicate ops.size false) p && p.length == ops.size) = true) (hl : planOps ops p = l) (hQ : ∀ c a d v w, Q (.panic c) (Act.put a d v) w → Q (.panic c) a w) (hS : S w.drew)
    (h : wpPlanO P ops Q S l a w.drew) : (Code.region id ops true).wp P Q a w :=
  wp_region_plan S p hm hs hp hQ hS (wpPlan_of_O p _ _ (hl ▸ h))

theorem wpPlan_nil {a : Act} {w : World} (h : Q .normal a w) : wpPlanO P ops Q S [] a w := h
theorem wpPlan_take {rest : List (Bool × Option Oper)} {a : Act} {w : World} {o : Oper} {v : Value} (hw : Region.wanted o (yielded ops a.tmps) = true)
    (hv : ∀ w, S w → (execOp a.eval o).run P w = .ok (.value v) w) (h : wpPlanO P ops Q S rest (a.put o.dst v) w) : wpPlanO P ops Q S ((true, some o) :: rest) a w :=
  ⟨v, .inl ⟨hw, hv⟩, h⟩
theorem wpPlan_pass {rest : List (Bool × Option Oper)} {a : Act} {w : World} {o : Oper} (hw : Region.wanted o (yielded ops a.tmps) = false)
    (h : wpPlanO P ops Q S rest (a.put o.dst undef) w) : wpPlanO P ops Q S ((true, some o) :: rest) a w :=
  ⟨undef, .inr ⟨hw, rfl⟩, h⟩
theorem wpPlan_do {rest : List (Bool × Option Oper)} {a : Act} {w : World} {o : Oper} (hw : Region.wanted o (yielded ops a.tmps) = true)
    (h : ∀ K : Act → World → Prop, (∀ a w, S w ∧ wpPlanO P ops Q S rest a w → K a w) → o.wp P a w K Q) : wpPlanO P ops Q S ((false, some o) :: rest) a w := by
  unfold wpPlanO
  rw [if_pos hw]
  exact h _ fun _ _ q => q
theorem wpPlan_skip {rest : List (Bool × Option Oper)} {a : Act} {w : World} {o : Oper} (hw : Region.wanted o (yielded ops a.tmps) = false)
    (h : S w ∧ wpPlanO P ops Q S rest (a.put o.dst undef) w) : wpPlanO P ops Q S ((false, some o) :: rest) a w := by
  unfold wpPlanO
  rw [if_neg (by simp [hw])]
  exact h
end

/-- Every block of w0 is as it was. -/
structure Keeps (w0 w : World) : Prop where
  size : w0.heap.size ≤ w.heap.size
  block : ∀ k, k < w0.heap.size → w.heap[k]? = w0.heap[k]?
theorem Keeps.refl (w : World) : Keeps w w := ⟨Nat.le_refl _, fun _ _ => rfl⟩
theorem Keeps.cells {w0 w : World} (h : Keeps w0 w) : (∀ b o, b < w0.heap.size → w.cell? ⟨b, o, none⟩ = w0.cell? ⟨b, o, none⟩) ∧ (∀ b o, b < w0.heap.size → w.frozen? ⟨b, o, none⟩ = w0.frozen? ⟨b, o, none⟩) :=
  ⟨fun b _ hb => World.cell?_of_block (h.block b hb), fun b _ hb => World.frozen?_of_block (h.block b hb)⟩
theorem Keeps.alloc {w0 w : World} (h : Keeps w0 w) (o : Obj) : Keeps w0 (w.alloc o) :=
  ⟨Nat.le_trans h.size (by simp), fun k hk => (Below.heap_alloc w o k (Nat.lt_of_lt_of_le hk h.size)).trans (h.block k hk)⟩
theorem Keeps.below {w0 w w' : World} (h : Keeps w0 w) (hb : Below w.heap.size w w') : Keeps w0 w' :=
  ⟨Nat.le_trans h.size hb.size, fun k hk => (hb.block k (Nat.lt_of_lt_of_le hk h.size)).trans (h.block k hk)⟩
theorem Keeps.grown {w0 w w' : World} {r : Option Nat} (h : Keeps w0 w) (hg : w.grownBy w' r) (hr : ∀ k, r = some k → w0.heap.size ≤ k) : Keeps w0 w' :=
  ⟨Nat.le_trans h.size hg.size, fun k hk => (hg.block k (Nat.lt_of_lt_of_le hk h.size) (fun e => by have := hr k e.symm; omega)).trans (h.block k hk)⟩
theorem Keeps.setCell {w0 w : World} (h : Keeps w0 w) (a : Addr) (v : Value) (ha : w0.heap.size ≤ a.block) : Keeps w0 (w.setCell a v) :=
  ⟨by simpa [World.setCell] using h.size, fun k hk => (Below.heap_setCell w a v k (by omega)).trans (h.block k hk)⟩
end Go.Proofs.Ytemmekpmoigdeaa
