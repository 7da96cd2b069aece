/- A region that draws its order, walked by ONE plan: which operations are taken ahead (what they yield hangs on no world that meets S), and which are carried out when nothing else may come up. -/
import Derived.OrdersHeld
import Derived.WalkKit
namespace Go.Proofs.YtcanfmabkklidaaGreat
open Go.RowKit

section
variable {P : Program} {ops : Array Oper} {Q : Exit → Act → World → Prop} {S : World → Prop}

/-- The plan's own weakest precondition: (true, i): taken ahead; (false, i): carried out. -/
def wpPlan (P : Program) (ops : Array Oper) (Q : Exit → Act → World → Prop) (S : World → Prop) : List (Bool × Nat) → Act → World → Prop
  | [], a, w => Q .normal a w
  | (true, i) :: rest, a, w => ∃ o v, ops[i]? = some o ∧ YieldsIf P ops S o v a ∧ wpPlan P ops Q S rest (a.put o.dst v) w
  | (false, i) :: rest, a, w => wpOp P ops Q i (fun a' w' => S w' ∧ wpPlan P ops Q S rest a' w') a w

/-- Is it a plan of this region? -/
def planOk (ops : Array Oper) : Array Bool → List (Bool × Nat) → Bool
  | listed, [] => Region.ready .any ops listed == []
  | listed, (true, i) :: rest => Region.free .any ops listed i && (Region.ready .any ops listed).contains i && planOk ops (listed.setIfInBounds i true) rest
  | listed, (false, i) :: rest => Region.ready .any ops listed == [i] && planOk ops (listed.setIfInBounds i true) rest

theorem wpAnyH_of_plan (hs : Region.noSelect ops = true) (hQ : ∀ c a d v w, Q (.panic c) (Act.put a d v) w → Q (.panic c) a w) :
    ∀ (p : List (Bool × Nat)) (listed : Array Bool) (a : Act) (w : World), planOk ops listed p = true → S w → wpPlan P ops Q S p a w → wpAnyH P .any ops Q S p.length listed a w
  | [], listed, a, w, hp, _, h => by
    simp only [planOk, beq_iff_eq] at hp
    exact ⟨hp, h⟩
  | (true, i) :: rest, listed, a, w, hp, hS, h => by
    simp only [planOk, Bool.and_eq_true] at hp
    obtain ⟨o, v, ho, hy, hr⟩ := h
    exact wpAnyH_take ho hs hp.1.1 hp.1.2 (fun c a w => hQ c a _ _ w) hy hS (wpAnyH_of_plan hs hQ rest _ _ _ hp.2 hS hr)
  | (false, i) :: rest, listed, a, w, hp, hS, h => by
    simp only [planOk, Bool.and_eq_true, beq_iff_eq] at hp
    refine wpAnyH_all hp.1 (by simp) fun j hj => ?_
    obtain rfl : j = i := by simpa using hj
    exact wpOp_mono (fun a' w' h' => ⟨h'.1, wpAnyH_of_plan hs hQ rest _ _ _ hp.2 h'.1 h'.2⟩) h

theorem wp_region_plan {id : Nat} {a : Act} {w : World} (S : World → Prop) (p : List (Bool × Nat)) (hm : P.follows .mixedOrders = true) (hs : Region.noSelect ops = true)
    (hp : (planOk ops (Array.replicate ops.size false) p && p.length == ops.size) = true) (hQ : ∀ c a d v w, Q (.panic c) (Act.put a d v) w → Q (.panic c) a w) (hS : S w.drew)
    (h : wpPlan P ops Q S p a w.drew) : (Code.region id ops true).wp P Q a w := by
  simp only [Bool.and_eq_true, beq_iff_eq] at hp
  have := wpAnyH_of_plan (P := P) (S := S) hs hQ p _ a w.drew hp.1 hS h
  rw [hp.2] at this
  exact wp_region_held hm this

/-- The same over the operations themselves, written out. -/
def wpPlanO (P : Program) (ops : Array Oper) (Q : Exit → Act → World → Prop) (S : World → Prop) : List (Bool × Option Oper) → Act → World → Prop
  | [], a, w => Q .normal a w
  | (true, some o) :: rest, a, w => ∃ v, YieldsIf P ops S o v a ∧ wpPlanO P ops Q S rest (a.put o.dst v) w
  | (false, some o) :: rest, a, w => if Region.wanted o (yielded ops a.tmps) then o.wp P a w (fun a' w' => S w' ∧ wpPlanO P ops Q S rest a' w') Q else S w ∧ wpPlanO P ops Q S rest (a.put o.dst undef) w
  | (_, none) :: _, _, _ => False
def planOps (ops : Array Oper) (p : List (Bool × Nat)) : List (Bool × Option Oper) := p.map fun x => (x.1, ops[x.2]?)
theorem wpPlan_of_O : ∀ (p : List (Bool × Nat)) (a : Act) (w : World), wpPlanO P ops Q S (planOps ops p) a w → wpPlan P ops Q S p a w
  | [], _, _, h => h
  | (b, i) :: p, a, w, h => by
    have e : planOps ops ((b, i) :: p) = (b, ops[i]?) :: planOps ops p := rfl
    rw [e] at h
    cases ho : ops[i]? with
    | none => rw [ho] at h; cases b <;> exact h.elim
    | some o =>
      rw [ho] at h
      cases b with
      | true =>
        obtain ⟨v, hy, hr⟩ := h
        exact ⟨o, v, ho, hy, wpPlan_of_O p _ _ hr⟩
      | false =>
        show wpOp P ops Q i _ a w
        unfold wpPlanO at h
        unfold wpOp
        simp only [ho]
        split
        · rename_i hw
          rw [if_pos hw] at h
          exact .inl (Oper.wp_mono (fun a' w' h' => ⟨h'.1, wpPlan_of_O p _ _ h'.2⟩) h)
        · rename_i hw
          rw [if_neg hw] at h
          exact ⟨h.1, wpPlan_of_O p _ _ h.2⟩

/-- A REGION THAT DRAWS ITS ORDER, BY A PLAN. Behind it: 'intro l hl; simp only [plan_simps] at hl; subst hl'. -/
theorem wp_region_planO {id : Nat} {a : Act} {w : World} (S : World → Prop) (p : List (Bool × Nat)) (l : List (Bool × Option Oper)) (hm : P.follows .mixedOrders = true) (hs : Region.noSelect ops = true)
    (hp : (planOk ops (Array.replicate ops.size false) p && p.length == ops.size) = true) (hl : planOps ops p = l) (hQ : ∀ c a d v w, Q (.panic c) (Act.put a d v) w → Q (.panic c) a w) (hS : S w.drew)
    (h : wpPlanO P ops Q S l a w.drew) : (Code.region id ops true).wp P Q a w :=
  wp_region_plan S p hm hs hp hQ hS (wpPlan_of_O p _ _ (hl ▸ h))

theorem wpPlan_nil {a : Act} {w : World} (h : Q .normal a w) : wpPlanO P ops Q S [] a w := h
theorem wpPlan_take {rest : List (Bool × Option Oper)} {a : Act} {w : World} {o : Oper} {v : Value} (hw : Region.wanted o (yielded ops a.tmps) = true)
    (hv : ∀ w, S w → (execOp a.eval o).run P w = .ok (.value v) w) (h : wpPlanO P ops Q S rest (a.put o.dst v) w) : wpPlanO P ops Q S ((true, some o) :: rest) a w :=
  ⟨v, .inl ⟨hw, hv⟩, h⟩
theorem wpPlan_pass {rest : List (Bool × Option Oper)} {a : Act} {w : World} {o : Oper} (hw : Region.wanted o (yielded ops a.tmps) = false)
    (h : wpPlanO P ops Q S rest (a.put o.dst undef) w) : wpPlanO P ops Q S ((true, some o) :: rest) a w :=
  ⟨undef, .inr ⟨hw, rfl⟩, h⟩
theorem wpPlan_do {rest : List (Bool × Option Oper)} {a : Act} {w : World} {o : Oper} (hw : Region.wanted o (yielded ops a.tmps) = true)
    (h : ∀ K : Act → World → Prop, (∀ a w, S w ∧ wpPlanO P ops Q S rest a w → K a w) → o.wp P a w K Q) : wpPlanO P ops Q S ((false, some o) :: rest) a w := by
  unfold wpPlanO
  rw [if_pos hw]
  exact h _ fun _ _ q => q
theorem wpPlan_skip {rest : List (Bool × Option Oper)} {a : Act} {w : World} {o : Oper} (hw : Region.wanted o (yielded ops a.tmps) = false)
    (h : S w ∧ wpPlanO P ops Q S rest (a.put o.dst undef) w) : wpPlanO P ops Q S ((false, some o) :: rest) a w := by
  unfold wpPlanO
  rw [if_neg (by simp [hw])]
  exact h
end

/-- Every block of w0 is as it was. -/
structure Keeps (w0 w : World) : Prop where
  size : w0.heap.size ≤ w.heap.size
  block : ∀ k, k < w0.heap.size → w.heap[k]? = w0.heap[k]?
theorem Keeps.refl (w : World) : Keeps w w := ⟨Nat.le_refl _, fun _ _ => rfl⟩
theorem Keeps.cells {w0 w : World} (h : Keeps w0 w) : (∀ b o, b < w0.heap.size → w.cell? ⟨b, o, none⟩ = w0.cell? ⟨b, o, none⟩) ∧ (∀ b o, b < w0.heap.size → w.frozen? ⟨b, o, none⟩ = w0.frozen? ⟨b, o, none⟩) :=
  ⟨fun b _ hb => World.cell?_of_block (h.block b hb), fun b _ hb => World.frozen?_of_block (h.block b hb)⟩
theorem Keeps.alloc {w0 w : World} (h : Keeps w0 w) (o : Obj) : Keeps w0 (w.alloc o) :=
  ⟨Nat.le_trans h.size (by simp), fun k hk => (Below.heap_alloc w o k (Nat.lt_of_lt_of_le hk h.size)).trans (h.block k hk)⟩
theorem Keeps.below {w0 w w' : World} (h : Keeps w0 w) (hb : Below w.heap.size w w') : Keeps w0 w' :=
  ⟨Nat.le_trans h.size hb.size, fun k hk => (hb.block k (Nat.lt_of_lt_of_le hk h.size)).trans (h.block k hk)⟩
theorem Keeps.grown {w0 w w' : World} {r : Option Nat} (h : Keeps w0 w) (hg : w.grownBy w' r) (hr : ∀ k, r = some k → w0.heap.size ≤ k) : Keeps w0 w' :=
  ⟨Nat.le_trans h.size hg.size, fun k hk => (hg.block k (Nat.lt_of_lt_of_le hk h.size) (fun e => by have := hr k e.symm; omega)).trans (h.block k hk)⟩
theorem Keeps.setCell {w0 w : World} (h : Keeps w0 w) (a : Addr) (v : Value) (ha : w0.heap.size ≤ a.block) : Keeps w0 (w.setCell a v) :=
  ⟨by simpa [World.setCell] using h.size, fun k hk => (Below.heap_setCell w a v k (by omega)).trans (h.block k hk)⟩
end Go.Proofs.YtcanfmabkklidaaGreat
namespace Go.Proofs.YtcanfmabkklidaaGreat
open Go.RowKit

section
variable {P : Program} {ops : Array Oper} {Q : Exit → Act → World → Prop} {S : World → Prop}

/-- It yields v and leaves the world as it is: at once, or by a call. -/
def Still (P : Program) (a : Act) (o : Oper) (v : Value) (w : World) : Prop :=
  ∀ K : Act → World → Prop, ∀ Q : Exit → Act → World → Prop, ∀ ds : List Deferred, ∀ b : Act, execOp b.eval o = execOp a.eval o → b.defers = ds → K (b.put o.dst v) w → o.wp P b w K Q
def YieldsS (P : Program) (ops : Array Oper) (S : World → Prop) (o : Oper) (v : Value) (a : Act) : Prop :=
  (Region.wanted o (yielded ops a.tmps) = true ∧ ∀ w, S w → Still P a o v w) ∨ (Region.wanted o (yielded ops a.tmps) = false ∧ v = undef)
theorem Still.of_value {a : Act} {o : Oper} {v : Value} {w : World} (h : (execOp a.eval o).run P w = .ok (.value v) w) : Still P a o v w := by
  intro K Q ds b hb _ hk
  unfold Oper.wp
  rw [hb, h]
  exact hk
theorem Still.of_call {a : Act} {o : Oper} {v : Value} {w : World} {f : FuncId} {args : Array Value} (h : (execOp a.eval o).run P w = .ok (.enter f args) w)
    (hc : Calls P f args w fun e w' => e = .returned v ∧ w' = w) : Still P a o v w := by
  intro K Q ds b hb _ hk
  unfold Oper.wp
  rw [hb, h]
  refine Calls.mono hc fun e w' he => ?_
  obtain ⟨rfl, rfl⟩ := he
  exact hk
theorem YieldsS.of_same {o : Oper} {v : Value} {a b : Act} (h : YieldsS P ops S o v a) (he : execOp b.eval o = execOp a.eval o)
    (hw : Region.wanted o (yielded ops b.tmps) = Region.wanted o (yielded ops a.tmps)) : YieldsS P ops S o v b := by
  rcases h with ⟨h1, h2⟩ | ⟨h1, h2⟩
  · exact .inl ⟨hw.trans h1, fun w hS K Q ds c hc hd hk => h2 w hS K Q ds c (hc.trans he) hd hk⟩
  · exact .inr ⟨hw.trans h1, h2⟩
theorem YieldsS.weak {o : Oper} {v : Value} {a : Act} (h : YieldsS P ops S o v a) : YieldsIf P ops (fun _ => False) o v a := by
  rcases h with ⟨h1, _⟩ | h
  · exact .inl ⟨h1, fun _ hf => hf.elim⟩
  · exact .inr h
theorem YieldsS.step {i : Nat} {o : Oper} {v : Value} {a : Act} (hi : ops[i]? = some o) (hy : YieldsS P ops S o v a)
    {K : Act → World → Prop} {w : World} (hS : S w) (h : K (a.put o.dst v) w) : wpOp P ops Q i K a w := by
  unfold wpOp
  simp only [hi]
  rcases hy with ⟨hw, hv⟩ | ⟨hw, rfl⟩
  · simp only [hw, if_true]
    exact .inl (hv w hS K Q a.defers a rfl rfl h)
  · simp only [hw, Bool.false_eq_true, if_false]
    exact h
/-- What an operation leaves is what it found, with its own temporary put. -/
theorem wpOp_form {j : Nat} {oj : Oper} (hj : ops[j]? = some oj) {K : Act → World → Prop} {a : Act} {w : World} (h : wpOp P ops Q j K a w) :
    wpOp P ops Q j (fun a' w' => K a' w' ∧ ∃ (ds : List Deferred) (u : Value), a' = ({ a with defers := ds } : Act).put oj.dst u) a w := by
  unfold wpOp at *
  simp only [hj] at *
  split
  · rename_i hw
    simp only [hw, if_true] at h
    rcases h with h | h
    case inr => exact .inr h
    refine .inl ?_
    unfold Oper.wp at *
    generalize (execOp a.eval oj).run P w = r at *
    cases r with
    | ok n w' =>
      cases n <;> simp only [Oper.upon] at h ⊢
      case value u => exact ⟨h, a.defers, u, rfl⟩
      case skip => exact ⟨h, a.defers, undef, rfl⟩
      case defer d => exact ⟨h, _, undef, rfl⟩
      case enter f args =>
        refine Calls.mono h fun e w'' he => ?_
        cases e with
        | returned u => exact ⟨he, a.defers, u, rfl⟩
        | panicked c => exact he
        | outgrown => exact he
      case row row args => exact Rows.mono h fun u w'' he => ⟨he, a.defers, u, rfl⟩
    | halt x w' => cases x <;> simp only [Oper.upon] at h ⊢ <;> exact h
  · rename_i hw
    simp only [hw] at h
    exact ⟨h, a.defers, undef, rfl⟩
theorem wpOp_past {j : Nat} {oi oj : Oper} {v : Value} (hj : ops[j]? = some oj) (hap : oi.apart ops oj = true)
    (hsi : ∀ cs b, oi.op ≠ .select cs b) (hsj : ∀ cs b, oj.op ≠ .select cs b)
    (hQ : ∀ c a w, Q (.panic c) (a.put oi.dst v) w → Q (.panic c) a w) {K : Act → World → Prop} {a : Act} {w : World}
    (hy : YieldsS P ops S oi v a) (h : wpOp P ops Q j K (a.put oi.dst v) w) :
    wpOp P ops Q j (fun a' w' => YieldsS P ops S oi v a' ∧ K (a'.put oi.dst v) w') a w := by
  obtain ⟨_, _, h3⟩ := Oper.apart_spec hap
  refine wpOp_mono (fun a' w' h' => ?_) (wpOp_form hj (wpOp_putIf hj hap hsi hsj hQ hy.weak h))
  obtain ⟨⟨_, hk⟩, ds, u, rfl⟩ := h'
  refine ⟨?_, hk⟩
  refine YieldsS.of_same (a := ({ a with defers := ds } : Act)) (hy.of_same rfl rfl) (execOp_put oi hsi _ oj.dst u h3) (wanted_put oi _ oj.dst u h3)
theorem wpAnyH_firstS {i : Nat} {oi : Oper} {v : Value} (hi : ops[i]? = some oi) (hsel : ∀ (j : Nat) (o : Oper) cs b, ops[j]? = some o → o.op ≠ .select cs b)
    (hQ : ∀ c a w, Q (.panic c) (a.put oi.dst v) w → Q (.panic c) a w) :
    ∀ (fuel : Nat) (listed : Array Bool) (a : Act) (w : World),
      (∀ j oj, ops[j]? = some oj → j ≠ i → listed.getD j true = false → (∀ e ∈ oj.after, Region.binds .any e = true → e.on ≠ i) → oi.apart ops oj = true) →
      i ∈ Region.ready .any ops listed → YieldsS P ops S oi v a → S w →
      wpAnyH P .any ops Q S fuel (listed.setIfInBounds i true) (a.put oi.dst v) w → wpAnyH P .any ops Q S (fuel + 1) listed a w
  | fuel, listed, a, w, hfree, hr, hy, hS, H => by
    refine ⟨fun h => (by rw [h] at hr; cases hr), fun j hj => ?_⟩
    rcases Nat.decEq j i with hji | rfl
    · have hback := ready_mono hj hji
      cases fuel with
      | zero => rw [H.1] at hback; cases hback
      | succ fuel =>
        obtain ⟨hun, oj, hoj, hall⟩ := mem_ready.1 hj
        have hno : ∀ e ∈ oj.after, Region.binds .any e = true → e.on ≠ i := by
          intro e he hb heq
          have h1 := hall e he hb
          have h0 := (mem_ready.1 hr).1
          rw [heq] at h1
          rcases Nat.lt_or_ge i listed.size with h' | h'
          · simp [h'] at h0 h1
            rw [h0] at h1
            cases h1
          · simp [Array.getElem?_eq_none h'] at h1
        refine wpOp_mono (fun a' w' h3 => ⟨h3.2.1, ?_⟩) (wpOp_past hoj (hfree j oj hoj hji hun hno) (fun cs b => hsel i oi cs b hi) (fun cs b => hsel j oj cs b hoj) hQ hy (H.2 j hback))
        refine wpAnyH_firstS hi hsel hQ fuel (listed.setIfInBounds j true) a' w' (fun k ok hk hki hun' hno' => hfree k ok hk hki ?_ hno') (ready_mono hr (Ne.symm hji)) h3.1 h3.2.1 ?_
        · rcases Nat.decEq j k with hjk | rfl
          · rwa [getD_set_ne true hjk] at hun'
          · exact hun
        · rw [Array.setIfInBounds_comm _ _ hji]
          exact h3.2.2
    · exact hy.step hi hS ⟨hS, H⟩

/-- A plan. -/
inductive Pl
  | done
  | take (i : Nat) (p : Pl)
  | doo (i : Nat) (p : Pl)
  | two (i j : Nat) (p : Pl)
  | fork (i : Nat) (p : Pl) (j : Nat) (q : Pl)
inductive PlO
  | done
  | take (o : Oper) (p : PlO)
  | doo (o : Oper) (p : PlO)
  | two (o o' : Oper) (p : PlO)
  | fork (o : Oper) (p : PlO) (o' : Oper) (q : PlO)
  | bad
def Pl.with (ops : Array Oper) : Pl → PlO
  | .done => .done
  | .take i p => match ops[i]? with | some o => .take o (p.with ops) | none => .bad
  | .doo i p => match ops[i]? with | some o => .doo o (p.with ops) | none => .bad
  | .two i j p => match ops[i]?, ops[j]? with | some o, some o' => .two o o' (p.with ops) | _, _ => .bad
  | .fork i p j q => match ops[i]?, ops[j]? with | some o, some o' => .fork o (p.with ops) o' (q.with ops) | _, _ => .bad
/-- Is it one of this region? -/
def Pl.ok (ops : Array Oper) : Array Bool → Pl → Bool
  | l, .done => Region.ready .any ops l == []
  | l, .take i p => Region.free .any ops l i && (Region.ready .any ops l).contains i && p.ok ops (l.setIfInBounds i true)
  | l, .doo i p => Region.ready .any ops l == [i] && p.ok ops (l.setIfInBounds i true)
  | l, .two i j p => Region.ready .any ops l == [i, j] && Region.ready .any ops (l.setIfInBounds i true) == [j] && Region.ready .any ops (l.setIfInBounds j true) == [i] && p.ok ops ((l.setIfInBounds i true).setIfInBounds j true)
  | l, .fork i p j q => Region.ready .any ops l == [i, j] && p.ok ops (l.setIfInBounds i true) && q.ok ops (l.setIfInBounds j true)
def Pl.steps : Pl → Nat
  | .done => 0
  | .take _ p => p.steps + 1
  | .doo _ p => p.steps + 1
  | .two _ _ p => p.steps + 2
  | .fork _ p _ _ => p.steps + 1
def Pl.even : Pl → Bool
  | .done => true
  | .take _ p => p.even
  | .doo _ p => p.even
  | .two _ _ p => p.even
  | .fork _ p _ q => p.steps == q.steps && p.even && q.even
/-- One operation, carried out. -/
def wpOne (P : Program) (ops : Array Oper) (Q : Exit → Act → World → Prop) (o : Oper) (K : Act → World → Prop) (a : Act) (w : World) : Prop :=
  if Region.wanted o (yielded ops a.tmps) then o.wp P a w K Q else K (a.put o.dst undef) w
theorem wpOne.op {i : Nat} {o : Oper} (hi : ops[i]? = some o) {K : Act → World → Prop} {a : Act} {w : World} (h : wpOne P ops Q o K a w) : wpOp P ops Q i K a w := by
  unfold wpOne at h
  unfold wpOp
  simp only [hi]
  split
  · rename_i hw
    rw [if_pos hw] at h
    exact .inl h
  · rename_i hw
    rwa [if_neg hw] at h
def wpPl (P : Program) (ops : Array Oper) (Q : Exit → Act → World → Prop) (S : World → Prop) : PlO → Act → World → Prop
  | .done, a, w => Q .normal a w
  | .take o p, a, w => ∃ v, YieldsS P ops S o v a ∧ wpPl P ops Q S p (a.put o.dst v) w
  | .doo o p, a, w => wpOne P ops Q o (fun a' w' => S w' ∧ wpPl P ops Q S p a' w') a w
  | .two o o' p, a, w => ∃ R : Act → World → Prop, wpOne P ops Q o (fun b x => S x ∧ wpOne P ops Q o' (fun c y => S y ∧ R c y) b x) a w ∧
      wpOne P ops Q o' (fun b x => S x ∧ wpOne P ops Q o (fun c y => S y ∧ R c y) b x) a w ∧ ∀ c y, R c y → S y → wpPl P ops Q S p c y
  | .fork o p o' q, a, w => wpOne P ops Q o (fun b x => S x ∧ wpPl P ops Q S p b x) a w ∧ wpOne P ops Q o' (fun b x => S x ∧ wpPl P ops Q S q b x) a w
  | .bad, _, _ => False

theorem wpAnyH_of_pl (hs : Region.noSelect ops = true) (hQ : ∀ c a d v w, Q (.panic c) (Act.put a d v) w → Q (.panic c) a w) :
    ∀ (p : Pl) (l : Array Bool) (a : Act) (w : World), p.ok ops l = true → p.even = true → S w → wpPl P ops Q S (p.with ops) a w → wpAnyH P .any ops Q S p.steps l a w
  | .done, l, a, w, hp, _, _, h => by
    simp only [Pl.ok, beq_iff_eq] at hp
    exact ⟨hp, h⟩
  | .take i p, l, a, w, hp, he, hS, h => by
    simp only [Pl.ok, Bool.and_eq_true, List.contains_iff_mem] at hp
    unfold Pl.with at h
    cases ho : ops[i]? with
    | none => rw [ho] at h; exact h.elim
    | some o =>
      rw [ho] at h
      obtain ⟨v, hy, hr⟩ := h
      exact wpAnyH_firstS ho (Region.noSelect_spec hs) (fun c a w => hQ c a _ _ w) _ l a w (Region.free_spec ho hp.1.1) hp.1.2 hy hS (wpAnyH_of_pl hs hQ p _ _ _ hp.2 he hS hr)
  | .doo i p, l, a, w, hp, he, hS, h => by
    simp only [Pl.ok, Bool.and_eq_true, beq_iff_eq] at hp
    unfold Pl.with at h
    cases ho : ops[i]? with
    | none => rw [ho] at h; exact h.elim
    | some o =>
      rw [ho] at h
      refine wpAnyH_all hp.1 (by simp) fun j hj => ?_
      obtain rfl : j = i := by simpa using hj
      exact wpOp_mono (fun a' w' h' => ⟨h'.1, wpAnyH_of_pl hs hQ p _ _ _ hp.2 he h'.1 h'.2⟩) (wpOne.op ho h)
  | .two i j p, l, a, w, hp, he, hS, h => by
    simp only [Pl.ok, Bool.and_eq_true, beq_iff_eq] at hp
    obtain ⟨⟨⟨h1, h2⟩, h3⟩, h4⟩ := hp
    unfold Pl.with at h
    cases ho : ops[i]? with
    | none => rw [ho] at h; exact h.elim
    | some o =>
      cases ho' : ops[j]? with
      | none => rw [ho, ho'] at h; exact h.elim
      | some o' =>
        rw [ho, ho'] at h
        obtain ⟨R, g1, g2, g3⟩ := h
        refine wpAnyH_all h1 (by simp) fun k hk => ?_
        have hcom : (l.setIfInBounds j true).setIfInBounds i true = (l.setIfInBounds i true).setIfInBounds j true := by
          by_cases hij : i = j
          · rw [hij]
          · exact (Array.setIfInBounds_comm _ _ hij).symm
        rcases (by simpa using hk : k = i ∨ k = j) with rfl | rfl
        · refine wpOp_mono (fun a' w' h' => ⟨h'.1, ?_⟩) (wpOne.op ho g1)
          refine wpAnyH_all h2 (by simp) fun k' hk' => ?_
          obtain rfl : k' = j := by simpa using hk'
          exact wpOp_mono (fun a' w' h' => ⟨h'.1, wpAnyH_of_pl hs hQ p _ _ _ h4 he h'.1 (g3 _ _ h'.2 h'.1)⟩) (wpOne.op ho' h'.2)
        · refine wpOp_mono (fun a' w' h' => ⟨h'.1, ?_⟩) (wpOne.op ho' g2)
          refine wpAnyH_all h3 (by simp) fun k' hk' => ?_
          obtain rfl : k' = i := by simpa using hk'
          rw [hcom]
          exact wpOp_mono (fun a' w' h' => ⟨h'.1, wpAnyH_of_pl hs hQ p _ _ _ h4 he h'.1 (g3 _ _ h'.2 h'.1)⟩) (wpOne.op ho h'.2)
  | .fork i p j q, l, a, w, hp, he, hS, h => by
    simp only [Pl.ok, Bool.and_eq_true, beq_iff_eq] at hp
    simp only [Pl.even, Bool.and_eq_true, beq_iff_eq] at he
    unfold Pl.with at h
    cases ho : ops[i]? with
    | none => rw [ho] at h; exact h.elim
    | some o =>
      cases ho' : ops[j]? with
      | none => rw [ho, ho'] at h; exact h.elim
      | some o' =>
        rw [ho, ho'] at h
        obtain ⟨g1, g2⟩ := h
        refine wpAnyH_all hp.1.1 (by simp) fun k hk => ?_
        rcases (by simpa using hk : k = i ∨ k = j) with rfl | rfl
        · exact wpOp_mono (fun a' w' h' => ⟨h'.1, wpAnyH_of_pl hs hQ p _ _ _ hp.1.2 he.1.2 h'.1 h'.2⟩) (wpOne.op ho g1)
        · refine wpOp_mono (fun a' w' h' => ⟨h'.1, ?_⟩) (wpOne.op ho' g2)
          rw [he.1.1]
          exact wpAnyH_of_pl hs hQ q _ _ _ hp.2 he.2 h'.1 h'.2

/-! The check, over the bits of a number: the kernel is quick with these. -/
def readyM (ops : Array Oper) (m : Nat) : List Nat :=
  (List.range ops.size).filter fun i => !m.testBit i && ((ops[i]?).map (·.after.all fun e => !Region.binds .any e || m.testBit e.on)).getD false
def freeM (ops : Array Oper) (m : Nat) (i : Nat) : Bool :=
  match ops[i]? with
  | none => false
  | some oi => (List.range ops.size).all fun j => j == i || m.testBit j || match ops[j]? with
      | some oj => oj.after.any (fun e => Region.binds .any e && e.on == i) || oi.apart ops oj
      | none => true
def okM (ops : Array Oper) : Nat → Pl → Bool
  | m, .done => readyM ops m == []
  | m, .take i p => (readyM ops m).contains i && freeM ops m i && okM ops (m ||| 1 <<< i) p
  | m, .doo i p => readyM ops m == [i] && okM ops (m ||| 1 <<< i) p
  | m, .two i j p => readyM ops m == [i, j] && readyM ops (m ||| 1 <<< i) == [j] && readyM ops (m ||| 1 <<< j) == [i] && okM ops ((m ||| 1 <<< i) ||| 1 <<< j) p
  | m, .fork i p j q => readyM ops m == [i, j] && okM ops (m ||| 1 <<< i) p && okM ops (m ||| 1 <<< j) q
theorem tb1 {k : Nat} (h : ¬ k = 0) : Nat.testBit 1 k = false := by
  obtain ⟨k, rfl⟩ := Nat.exists_eq_succ_of_ne_zero h
  simp [Nat.testBit_succ]
structure Bits (n : Nat) (l : Array Bool) (m : Nat) : Prop where
  size : l.size = n
  get : ∀ j, j < n → l[j]? = some (m.testBit j)
  out : ∀ j, n ≤ j → m.testBit j = false
theorem Bits.start (n : Nat) : Bits n (Array.replicate n false) 0 := ⟨by simp, fun j hj => by simp [hj], fun j _ => by simp⟩
theorem Bits.set {n : Nat} {l : Array Bool} {m : Nat} (h : Bits n l m) {i : Nat} (hi : i < n) : Bits n (l.setIfInBounds i true) (m ||| 1 <<< i) := by
  refine ⟨by simp [h.size], fun j hj => ?_, fun j hj => ?_⟩
  · rw [Array.getElem?_setIfInBounds, h.get j hj]
    by_cases e : i = j
    · subst e
      simp [h.size, hi, Nat.testBit_or, Nat.testBit_shiftLeft]
    · simp only [e, if_false, Nat.testBit_or, Nat.testBit_shiftLeft]
      congr 1
      by_cases g : j ≥ i
      · simp [tb1 (show ¬ (j - i = 0) by omega)]
      · simp [g]
  · rw [Nat.testBit_or, h.out j hj, Nat.testBit_shiftLeft]
    simp [tb1 (show ¬ (j - i = 0) by omega)]
theorem Bits.getT {n : Nat} {l : Array Bool} {m : Nat} (h : Bits n l m) {j : Nat} (hj : j < n) : l.getD j true = m.testBit j := by
  rw [Array.getD_eq_getD_getElem?, h.get j hj]
  rfl
theorem Bits.getF {n : Nat} {l : Array Bool} {m : Nat} (h : Bits n l m) (j : Nat) : l.getD j false = m.testBit j := by
  rw [Array.getD_eq_getD_getElem?]
  rcases Nat.lt_or_ge j n with hj | hj
  · rw [h.get j hj]
    rfl
  · rw [Array.getElem?_eq_none (by rw [h.size]; exact hj), h.out j hj]
    rfl
theorem Bits.ready {l : Array Bool} {m : Nat} (h : Bits ops.size l m) : Region.ready .any ops l = readyM ops m := by
  unfold Region.ready readyM
  refine List.filter_congr fun i hi => ?_
  rw [h.getT (by simpa using hi)]
  congr 2
  congr 1
  funext o
  congr 1
  funext e
  rw [h.getF]
theorem Bits.free {l : Array Bool} {m i : Nat} (h : Bits ops.size l m) (hf : freeM ops m i = true) : Region.free .any ops l i = true := by
  unfold freeM at hf
  unfold Region.free
  cases ho : ops[i]? with
  | none => rw [ho] at hf; exact hf
  | some oi =>
    rw [ho] at hf
    simp only [List.all_eq_true, List.mem_range] at hf ⊢
    intro j hj
    have := hf j hj
    rwa [h.getT hj]
theorem readyM_lt {m i : Nat} (h : i ∈ readyM ops m) : i < ops.size := by
  unfold readyM at h
  simpa using (List.mem_filter.1 h).1
theorem okM_ok : ∀ (p : Pl) (l : Array Bool) (m : Nat), Bits ops.size l m → okM ops m p = true → p.ok ops l = true
  | .done, l, m, h, hp => by
    simp only [okM, Pl.ok] at hp ⊢
    rwa [h.ready]
  | .take i p, l, m, h, hp => by
    simp only [okM, Pl.ok, Bool.and_eq_true] at hp ⊢
    rw [h.ready]
    exact ⟨⟨h.free hp.1.2, hp.1.1⟩, okM_ok p _ _ (h.set (readyM_lt (by simpa using hp.1.1))) hp.2⟩
  | .doo i p, l, m, h, hp => by
    simp only [okM, Pl.ok, Bool.and_eq_true] at hp ⊢
    rw [h.ready]
    have hi : i ∈ readyM ops m := by rw [beq_iff_eq.1 hp.1]; simp
    exact ⟨hp.1, okM_ok p _ _ (h.set (readyM_lt hi)) hp.2⟩
  | .two i j p, l, m, h, hp => by
    simp only [okM, Pl.ok, Bool.and_eq_true] at hp ⊢
    have hi : i ∈ readyM ops m := by rw [beq_iff_eq.1 hp.1.1.1]; simp
    have hj : j ∈ readyM ops m := by rw [beq_iff_eq.1 hp.1.1.1]; simp
    have h1 := h.set (readyM_lt hi)
    have h2 := h.set (readyM_lt hj)
    rw [h.ready, h1.ready, h2.ready]
    exact ⟨⟨⟨hp.1.1.1, hp.1.1.2⟩, hp.1.2⟩, okM_ok p _ _ (h1.set (readyM_lt hj)) hp.2⟩
  | .fork i p j q, l, m, h, hp => by
    simp only [okM, Pl.ok, Bool.and_eq_true] at hp ⊢
    have hi : i ∈ readyM ops m := by rw [beq_iff_eq.1 hp.1.1]; simp
    have hj : j ∈ readyM ops m := by rw [beq_iff_eq.1 hp.1.1]; simp
    rw [h.ready]
    exact ⟨⟨hp.1.1, okM_ok p _ _ (h.set (readyM_lt hi)) hp.1.2⟩, okM_ok q _ _ (h.set (readyM_lt hj)) hp.2⟩

/-- A REGION THAT DRAWS ITS ORDER, BY A PLAN. -/
theorem wp_region_pl {id : Nat} {a : Act} {w : World} (S : World → Prop) (p : Pl) (l : PlO) (hm : P.follows .mixedOrders = true) (hs : Region.noSelect ops = true)
    (hp : (okM ops 0 p && p.even && p.steps == ops.size) = true) (hl : p.with ops = l) (hQ : ∀ c a d v w, Q (.panic c) (Act.put a d v) w → Q (.panic c) a w) (hS : S w.drew)
    (h : wpPl P ops Q S l a w.drew) : (Code.region id ops true).wp P Q a w := by
  simp only [Bool.and_eq_true, beq_iff_eq] at hp
  have := wpAnyH_of_pl (P := P) (S := S) hs hQ p _ a w.drew (okM_ok p _ 0 (Bits.start _) hp.1.1) hp.1.2 hS (hl ▸ h)
  rw [hp.2] at this
  exact wp_region_held hm this
theorem wpPl_done {a : Act} {w : World} (h : Q .normal a w) : wpPl P ops Q S .done a w := h
theorem wpPl_take {p : PlO} {a : Act} {w : World} {o : Oper} {v : Value} (hw : Region.wanted o (yielded ops a.tmps) = true)
    (hv : ∀ w, S w → (execOp a.eval o).run P w = .ok (.value v) w) (h : wpPl P ops Q S p (a.put o.dst v) w) : wpPl P ops Q S (.take o p) a w :=
  ⟨v, .inl ⟨hw, fun w hS => Still.of_value (hv w hS)⟩, h⟩
theorem wpPl_call {p : PlO} {a : Act} {w : World} {o : Oper} {v : Value} {f : FuncId} {args : Array Value} (hw : Region.wanted o (yielded ops a.tmps) = true)
    (hv : ∀ w, S w → (execOp a.eval o).run P w = .ok (.enter f args) w) (hc : ∀ w, S w → Calls P f args w fun e w' => e = .returned v ∧ w' = w)
    (h : wpPl P ops Q S p (a.put o.dst v) w) : wpPl P ops Q S (.take o p) a w :=
  ⟨v, .inl ⟨hw, fun w hS => Still.of_call (hv w hS) (hc w hS)⟩, h⟩
theorem wpPl_pass {p : PlO} {a : Act} {w : World} {o : Oper} (hw : Region.wanted o (yielded ops a.tmps) = false)
    (h : wpPl P ops Q S p (a.put o.dst undef) w) : wpPl P ops Q S (.take o p) a w :=
  ⟨undef, .inr ⟨hw, rfl⟩, h⟩
theorem wpPl_do {p : PlO} {a : Act} {w : World} {o : Oper} (hw : Region.wanted o (yielded ops a.tmps) = true)
    (h : ∀ K : Act → World → Prop, (∀ a w, S w ∧ wpPl P ops Q S p a w → K a w) → o.wp P a w K Q) : wpPl P ops Q S (.doo o p) a w := by
  unfold wpPl wpOne
  rw [if_pos hw]
  exact h _ fun _ _ q => q
theorem wpPl_skip {p : PlO} {a : Act} {w : World} {o : Oper} (hw : Region.wanted o (yielded ops a.tmps) = false)
    (h : S w ∧ wpPl P ops Q S p (a.put o.dst undef) w) : wpPl P ops Q S (.doo o p) a w := by
  unfold wpPl wpOne
  rw [if_neg (by simp [hw])]
  exact h
theorem wpOne_do {a : Act} {w : World} {o : Oper} {X : Act → World → Prop} (hw : Region.wanted o (yielded ops a.tmps) = true)
    (h : ∀ K : Act → World → Prop, (∀ a w, X a w → K a w) → o.wp P a w K Q) : wpOne P ops Q o X a w := by
  unfold wpOne
  rw [if_pos hw]
  exact h _ fun _ _ q => q
theorem wpOne_skip {a : Act} {w : World} {o : Oper} {X : Act → World → Prop} (hw : Region.wanted o (yielded ops a.tmps) = false)
    (h : X (a.put o.dst undef) w) : wpOne P ops Q o X a w := by
  unfold wpOne
  rw [if_neg (by simp [hw])]
  exact h
/-- two in either order, neither wanted -/
theorem wpPl_two_skip {p : PlO} {a : Act} {w : World} {o o' : Oper} (hS : S w) (h1 : Region.wanted o (yielded ops a.tmps) = false) (h2 : Region.wanted o' (yielded ops (a.put o.dst undef).tmps) = false)
    (h3 : Region.wanted o' (yielded ops a.tmps) = false) (h4 : Region.wanted o (yielded ops (a.put o'.dst undef).tmps) = false) (hd : ∀ d, o.dst = some d → o'.dst ≠ some d)
    (h : wpPl P ops Q S p ((a.put o.dst undef).put o'.dst undef) w) : wpPl P ops Q S (.two o o' p) a w :=
  ⟨fun c y => c = (a.put o.dst undef).put o'.dst undef ∧ y = w, wpOne_skip h1 ⟨hS, wpOne_skip h2 ⟨hS, rfl, rfl⟩⟩, wpOne_skip h3 ⟨hS, wpOne_skip h4 ⟨hS, (Act.put_comm _ _ _ hd).symm, rfl⟩⟩, fun c y hc _ => by obtain ⟨rfl, rfl⟩ := hc; exact h⟩
/-- two in either order: F tells what they leave -/
theorem wpPl_two {p : PlO} {a : Act} {w : World} {o o' : Oper} (F : Value → Value → World → Prop) (h1 : Region.wanted o (yielded ops a.tmps) = true) (h3 : Region.wanted o' (yielded ops a.tmps) = true) (hd : ∀ d, o.dst = some d → o'.dst ≠ some d)
    (g1 : ∀ K : Act → World → Prop, (∀ b x, (S x ∧ ∃ u, b = a.put o.dst u ∧ wpOne P ops Q o' (fun c y => S y ∧ ∃ v, c = (a.put o.dst u).put o'.dst v ∧ F u v y) b x) → K b x) → o.wp P a w K Q)
    (g2 : ∀ K : Act → World → Prop, (∀ b x, (S x ∧ ∃ v, b = a.put o'.dst v ∧ wpOne P ops Q o (fun c y => S y ∧ ∃ u, c = (a.put o'.dst v).put o.dst u ∧ F u v y) b x) → K b x) → o'.wp P a w K Q)
    (h : ∀ u v y, F u v y → S y → wpPl P ops Q S p ((a.put o.dst u).put o'.dst v) y) : wpPl P ops Q S (.two o o' p) a w := by
  refine ⟨fun c y => ∃ u v, c = (a.put o.dst u).put o'.dst v ∧ F u v y, ?_, ?_, ?_⟩
  · unfold wpOne
    rw [if_pos h1]
    refine g1 _ fun b x hbx => ⟨hbx.1, ?_⟩
    obtain ⟨_, u, rfl, h2⟩ := hbx
    unfold wpOne at h2
    split
    · rename_i hw
      rw [if_pos hw] at h2
      exact Oper.wp_mono (fun c y hc => ⟨hc.1, u, hc.2⟩) h2
    · rename_i hw
      rw [if_neg hw] at h2
      exact ⟨h2.1, u, h2.2⟩
  · unfold wpOne
    rw [if_pos h3]
    refine g2 _ fun b x hbx => ⟨hbx.1, ?_⟩
    obtain ⟨_, v, rfl, h2⟩ := hbx
    unfold wpOne at h2
    have e : ∀ c u, c = (a.put o'.dst v).put o.dst u → c = (a.put o.dst u).put o'.dst v := fun c u hc => hc.trans (Act.put_comm _ _ _ hd).symm
    split
    · rename_i hw
      rw [if_pos hw] at h2
      refine Oper.wp_mono (fun c y hc => ⟨hc.1, ?_⟩) h2
      obtain ⟨_, u, hc1, hc2⟩ := hc
      exact ⟨u, v, e _ _ hc1, hc2⟩
    · rename_i hw
      rw [if_neg hw] at h2
      obtain ⟨h5, u, hc1, hc2⟩ := h2
      exact ⟨h5, u, v, e _ _ hc1, hc2⟩
  · rintro c y ⟨u, v, rfl, hf⟩ hS
    exact h u v y hf hS
theorem wpPl_fork {p q : PlO} {a : Act} {w : World} {o o' : Oper} (h1 : Region.wanted o (yielded ops a.tmps) = true) (h2 : Region.wanted o' (yielded ops a.tmps) = true)
    (g1 : ∀ K : Act → World → Prop, (∀ b x, S x ∧ wpPl P ops Q S p b x → K b x) → o.wp P a w K Q)
    (g2 : ∀ K : Act → World → Prop, (∀ b x, S x ∧ wpPl P ops Q S q b x → K b x) → o'.wp P a w K Q) : wpPl P ops Q S (.fork o p o' q) a w := by
  refine ⟨?_, ?_⟩
  · unfold wpOne
    rw [if_pos h1]
    exact g1 _ fun _ _ h => h
  · unfold wpOne
    rw [if_pos h2]
    exact g2 _ fun _ _ h => h
end
end Go.Proofs.YtcanfmabkklidaaGreat
