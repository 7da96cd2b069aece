/- A region that draws its order, by a plan for its head; its tail, which waits for all of the head, is walked as a plain list: of it nothing is asked. -/
import Derived.Test.YtcanfmabkklidaaGreatMb5
import Derived.StillTail
set_option linter.unusedSimpArgs false
set_option linter.unusedVariables false
namespace Go.Proofs.YtcanfmabkklidaaGreat
open Go.RowKit

section
variable {P : Program} {ops : Array Oper} {Q : Exit → Act → World → Prop} {S : World → Prop}

def wpAnyM (P : Program) (ops : Array Oper) (Q : Exit → Act → World → Prop) (S : World → Prop) (n : Nat) (Z : Array Bool → Act → World → Prop) : Nat → Array Bool → Act → World → Prop
  | 0, listed, a, w => Z listed a w
  | f + 1, listed, a, w => Region.ready .any ops listed ≠ [] ∧ ∀ i ∈ Region.ready .any ops listed, i < n ∧ wpOp P ops Q i (fun a' w' => S w' ∧ wpAnyM P ops Q S n Z f (listed.setIfInBounds i true) a' w') a w
theorem wpAny_of_M {n g : Nat} {Z : Array Bool → Act → World → Prop} (hZ : ∀ listed a w, Z listed a w → wpAny P .any ops Q g listed a w) :
    ∀ (f : Nat) (listed : Array Bool) (a : Act) (w : World), wpAnyM P ops Q S n Z f listed a w → wpAny P .any ops Q (f + g) listed a w
  | 0, listed, a, w, h => by rw [Nat.zero_add]; exact hZ _ _ _ h
  | f + 1, listed, a, w, h => by
    rw [show f + 1 + g = (f + g) + 1 by omega]
    exact ⟨fun h0 => absurd h0 h.1, fun i hi => wpOp_mono (fun a' w' h' => wpAny_of_M hZ f _ a' w' h'.2) (h.2 i hi).2⟩
theorem wpAnyM_first {n i : Nat} {oi : Oper} {v : Value} {Z : Array Bool → Act → World → Prop} (hi : ops[i]? = some oi) (hsel : ∀ (j : Nat) (o : Oper) cs b, ops[j]? = some o → o.op ≠ .select cs b)
    (hs : Region.sinkB .any ops n = true) (hc : Region.chainB .any ops n = true) (hn : n < ops.size) (hin : i < n)
    (hdone : ∀ listed a w, Z listed a w → ∀ j ∈ Region.ready .any ops listed, n ≤ j)
    (hQ : ∀ c a w, Q (.panic c) (a.put oi.dst v) w → Q (.panic c) a w) :
    ∀ (f : Nat) (listed : Array Bool) (a : Act) (w : World), HeadInv .any ops n listed →
      (∀ j oj, ops[j]? = some oj → j ≠ i → listed.getD j true = false → (∀ e ∈ oj.after, Region.binds .any e = true → e.on ≠ i) → oi.apart ops oj = true) →
      i ∈ Region.ready .any ops listed → YieldsS P ops S oi v a → S w →
      wpAnyM P ops Q S n Z f (listed.setIfInBounds i true) (a.put oi.dst v) w → wpAnyM P ops Q S n Z (f + 1) listed a w := by
  intro f
  induction f with
  | zero =>
    intro listed a w inv _ hr hy hS H
    have hun := (mem_ready.1 hr).1
    refine ⟨fun h => (by rw [h] at hr; cases hr), fun j hj => ?_⟩
    have hjn : j < n := by
      rcases Nat.lt_or_ge j n with h | h
      · exact h
      · exact absurd hj (tail_waits hs hc hn inv _ i rfl hin hun j h)
    refine ⟨hjn, ?_⟩
    by_cases hji : j = i
    · subst hji; exact hy.step hi hS ⟨hS, H⟩
    · have := hdone _ _ _ H j (ready_mono hj hji)
      omega
  | succ f ih =>
    intro listed a w inv hfree hr hy hS H
    have hun := (mem_ready.1 hr).1
    refine ⟨fun h => (by rw [h] at hr; cases hr), fun j hj => ?_⟩
    have hjn : j < n := by
      rcases Nat.lt_or_ge j n with h | h
      · exact h
      · exact absurd hj (tail_waits hs hc hn inv _ i rfl hin hun j h)
    refine ⟨hjn, ?_⟩
    by_cases hji : j = i
    · subst hji; exact hy.step hi hS ⟨hS, H⟩
    · have h1 := (H.2 j (ready_mono hj hji)).2
      obtain ⟨hjun, oj, hoj, hall⟩ := mem_ready.1 hj
      have hnot : ∀ e ∈ oj.after, Region.binds .any e = true → e.on ≠ i := fun e he hb heq => by
        have h1 := hall e he hb
        rw [heq, getD_both hun] at h1
        cases h1
      have h2 := wpOp_past hoj (hfree j oj hoj hji hjun hnot) (fun cs b => hsel i oi cs b hi) (fun cs b => hsel j oj cs b hoj) hQ hy h1
      have hfree' : ∀ k ok, ops[k]? = some ok → k ≠ i → (listed.setIfInBounds j true).getD k true = false →
          (∀ e ∈ ok.after, Region.binds .any e = true → e.on ≠ i) → oi.apart ops ok = true := fun k ok hk hki hun hno => by
        refine hfree k ok hk hki ?_ hno
        by_cases hjk : j = k
        · subst hjk; exact hjun
        · rw [getD_set_ne true hjk] at hun; exact hun
      refine wpOp_mono (fun a' w' h3 => ⟨h3.2.1, ih (listed.setIfInBounds j true) a' w' (inv.set hj hjn) hfree' (ready_mono hr (Ne.symm hji)) h3.1 h3.2.1 ?_⟩) h2
      rw [Array.setIfInBounds_comm _ _ hji]
      exact h3.2.2

/-- A plan of a head. -/
inductive Pt
  | done
  | take (i : Nat) (p : Pt)
  | doo (i : Nat) (p : Pt)
  | two (i j : Nat) (p : Pt)
inductive PtO
  | done
  | take (o : Oper) (p : PtO)
  | doo (o : Oper) (p : PtO)
  | two (o o' : Oper) (p : PtO)
  | bad
def Pt.with (ops : Array Oper) : Pt → PtO
  | .done => .done
  | .take i p => match ops[i]? with | some o => .take o (p.with ops) | none => .bad
  | .doo i p => match ops[i]? with | some o => .doo o (p.with ops) | none => .bad
  | .two i j p => match ops[i]?, ops[j]? with | some o, some o' => .two o o' (p.with ops) | _, _ => .bad
def Pt.steps : Pt → Nat
  | .done => 0
  | .take _ p => p.steps + 1
  | .doo _ p => p.steps + 1
  | .two _ _ p => p.steps + 2
def Pt.okT (ops : Array Oper) (n : Nat) : Array Bool → Pt → Bool
  | l, .done => Region.seqB .any ops (ops.size - n) n l
  | l, .take i p => decide (i < n) && Region.free .any ops l i && (Region.ready .any ops l).contains i && p.okT ops n (l.setIfInBounds i true)
  | l, .doo i p => decide (i < n) && Region.ready .any ops l == [i] && p.okT ops n (l.setIfInBounds i true)
  | l, .two i j p => decide (i < n) && decide (j < n) && Region.ready .any ops l == [i, j] && Region.ready .any ops (l.setIfInBounds i true) == [j] && Region.ready .any ops (l.setIfInBounds j true) == [i] && p.okT ops n ((l.setIfInBounds i true).setIfInBounds j true)
def wpPt (P : Program) (ops : Array Oper) (Q : Exit → Act → World → Prop) (S : World → Prop) (tl : List Oper) : PtO → Act → World → Prop
  | .done, a, w => wpList P ops Q tl a w
  | .take o p, a, w => ∃ v, YieldsS P ops S o v a ∧ wpPt P ops Q S tl p (a.put o.dst v) w
  | .doo o p, a, w => wpOne P ops Q o (fun a' w' => S w' ∧ wpPt P ops Q S tl p a' w') a w
  | .two o o' p, a, w => ∃ R : Act → World → Prop, wpOne P ops Q o (fun b x => S x ∧ wpOne P ops Q o' (fun c y => S y ∧ R c y) b x) a w ∧
      wpOne P ops Q o' (fun b x => S x ∧ wpOne P ops Q o (fun c y => S y ∧ R c y) b x) a w ∧ ∀ c y, R c y → S y → wpPt P ops Q S tl p c y
  | .bad, _, _ => False
theorem wpAnyM_of_pt {n : Nat} (hsel : Region.noSelect ops = true) (hs : Region.sinkB .any ops n = true) (hc : Region.chainB .any ops n = true) (hn : n < ops.size)
    (hQ : ∀ c a d v w, Q (.panic c) (Act.put a d v) w → Q (.panic c) a w) {tl : List Oper} :
    ∀ (p : Pt) (l : Array Bool) (a : Act) (w : World), HeadInv .any ops n l → p.okT ops n l = true → S w → wpPt P ops Q S tl (p.with ops) a w →
      wpAnyM P ops Q S n (fun l a w => Region.seqB .any ops (ops.size - n) n l = true ∧ wpList P ops Q tl a w) p.steps l a w
  | .done, l, a, w, _, hp, _, h => ⟨hp, h⟩
  | .take i p, l, a, w, inv, hp, hS, h => by
    simp only [Pt.okT, Bool.and_eq_true, decide_eq_true_eq, List.contains_iff_mem] at hp
    obtain ⟨⟨⟨h1, h2⟩, h3⟩, h4⟩ := hp
    unfold Pt.with at h
    cases ho : ops[i]? with
    | none => rw [ho] at h; exact h.elim
    | some o =>
      rw [ho] at h
      obtain ⟨v, hy, hr⟩ := h
      exact wpAnyM_first ho (Region.noSelect_spec hsel) hs hc hn h1 (fun l a w hz => seqB_ready hz.1) (fun c a w => hQ c a _ _ w) _ l a w inv (Region.free_spec ho h2) h3 hy hS
        (wpAnyM_of_pt hsel hs hc hn hQ p _ _ _ (inv.set h3 h1) h4 hS hr)
  | .doo i p, l, a, w, inv, hp, hS, h => by
    simp only [Pt.okT, Bool.and_eq_true, decide_eq_true_eq, beq_iff_eq] at hp
    obtain ⟨⟨h1, h2⟩, h4⟩ := hp
    have h3 : i ∈ Region.ready .any ops l := by rw [h2]; simp
    unfold Pt.with at h
    cases ho : ops[i]? with
    | none => rw [ho] at h; exact h.elim
    | some o =>
      rw [ho] at h
      refine ⟨by rw [h2]; simp, fun j hj => ?_⟩
      obtain rfl : j = i := by rw [h2] at hj; simpa using hj
      exact ⟨h1, wpOp_mono (fun a' w' h' => ⟨h'.1, wpAnyM_of_pt hsel hs hc hn hQ p _ _ _ (inv.set h3 h1) h4 h'.1 h'.2⟩) (wpOne.op ho h)⟩
  | .two i j p, l, a, w, inv, hp, hS, h => by
    simp only [Pt.okT, Bool.and_eq_true, decide_eq_true_eq, beq_iff_eq] at hp
    obtain ⟨⟨⟨⟨⟨hi, hj⟩, h1⟩, h2⟩, h3⟩, h4⟩ := hp
    have mi : i ∈ Region.ready .any ops l := by rw [h1]; simp
    have mj : j ∈ Region.ready .any ops l := by rw [h1]; simp
    unfold Pt.with at h
    cases ho : ops[i]? with
    | none => rw [ho] at h; exact h.elim
    | some o =>
      cases ho' : ops[j]? with
      | none => rw [ho, ho'] at h; exact h.elim
      | some o' =>
        rw [ho, ho'] at h
        obtain ⟨R, g1, g2, g3⟩ := h
        have mj' : j ∈ Region.ready .any ops (l.setIfInBounds i true) := by rw [h2]; simp
        have mi' : i ∈ Region.ready .any ops (l.setIfInBounds j true) := by rw [h3]; simp
        have hcom : (l.setIfInBounds j true).setIfInBounds i true = (l.setIfInBounds i true).setIfInBounds j true := by
          by_cases hij : i = j
          · rw [hij]
          · exact (Array.setIfInBounds_comm _ _ hij).symm
        refine ⟨by rw [h1]; simp, fun k hk => ?_⟩
        rw [h1] at hk
        rcases (by simpa using hk : k = i ∨ k = j) with rfl | rfl
        · refine ⟨hi, wpOp_mono (fun a' w' h' => ⟨h'.1, ?_⟩) (wpOne.op ho g1)⟩
          refine ⟨by rw [h2]; simp, fun k' hk' => ?_⟩
          obtain rfl : k' = j := by rw [h2] at hk'; simpa using hk'
          exact ⟨hj, wpOp_mono (fun a' w' h' => ⟨h'.1, wpAnyM_of_pt hsel hs hc hn hQ p _ _ _ ((inv.set mi hi).set mj' hj) h4 h'.1 (g3 _ _ h'.2 h'.1)⟩) (wpOne.op ho' h'.2)⟩
        · refine ⟨hj, wpOp_mono (fun a' w' h' => ⟨h'.1, ?_⟩) (wpOne.op ho' g2)⟩
          refine ⟨by rw [h3]; simp, fun k' hk' => ?_⟩
          obtain rfl : k' = i := by rw [h3] at hk'; simpa using hk'
          rw [hcom]
          exact ⟨hi, wpOp_mono (fun a' w' h' => ⟨h'.1, wpAnyM_of_pt hsel hs hc hn hQ p _ _ _ ((inv.set mi hi).set mj' hj) h4 h'.1 (g3 _ _ h'.2 h'.1)⟩) (wpOne.op ho h'.2)⟩

/-! The check, over the bits of a number. -/
def seqM (ops : Array Oper) : Nat → Nat → Nat → Bool
  | 0, _, m => (readyM ops m).isEmpty
  | g + 1, k, m => decide (readyM ops m = [k]) && seqM ops g (k + 1) (m ||| 1 <<< k)
def okT (ops : Array Oper) (n : Nat) : Nat → Pt → Bool
  | m, .done => seqM ops (ops.size - n) n m
  | m, .take i p => decide (i < n) && (readyM ops m).contains i && freeM ops m i && okT ops n (m ||| 1 <<< i) p
  | m, .doo i p => decide (i < n) && readyM ops m == [i] && okT ops n (m ||| 1 <<< i) p
  | m, .two i j p => decide (i < n) && decide (j < n) && readyM ops m == [i, j] && readyM ops (m ||| 1 <<< i) == [j] && readyM ops (m ||| 1 <<< j) == [i] && okT ops n ((m ||| 1 <<< i) ||| 1 <<< j) p
theorem seqM_ok : ∀ (g k : Nat) (l : Array Bool) (m : Nat), Bits ops.size l m → seqM ops g k m = true → Region.seqB .any ops g k l = true
  | 0, k, l, m, h, hp => by
    simp only [seqM, Region.seqB] at hp ⊢
    rwa [h.ready]
  | g + 1, k, l, m, h, hp => by
    simp only [seqM, Region.seqB, Bool.and_eq_true, decide_eq_true_eq] at hp ⊢
    have hi : k ∈ readyM ops m := by rw [hp.1]; simp
    rw [h.ready]
    exact ⟨hp.1, seqM_ok g (k + 1) _ _ (h.set (readyM_lt hi)) hp.2⟩
theorem okT_ok {n : Nat} : ∀ (p : Pt) (l : Array Bool) (m : Nat), Bits ops.size l m → okT ops n m p = true → p.okT ops n l = true
  | .done, l, m, h, hp => seqM_ok _ _ _ _ h hp
  | .take i p, l, m, h, hp => by
    simp only [okT, Pt.okT, Bool.and_eq_true] at hp ⊢
    rw [h.ready]
    exact ⟨⟨⟨hp.1.1.1, h.free hp.1.2⟩, hp.1.1.2⟩, okT_ok p _ _ (h.set (readyM_lt (by simpa using hp.1.1.2))) hp.2⟩
  | .doo i p, l, m, h, hp => by
    simp only [okT, Pt.okT, Bool.and_eq_true] at hp ⊢
    rw [h.ready]
    have hi : i ∈ readyM ops m := by rw [beq_iff_eq.1 hp.1.2]; simp
    exact ⟨hp.1, okT_ok p _ _ (h.set (readyM_lt hi)) hp.2⟩
  | .two i j p, l, m, h, hp => by
    simp only [okT, Pt.okT, Bool.and_eq_true] at hp ⊢
    have hi : i ∈ readyM ops m := by rw [beq_iff_eq.1 hp.1.1.1.2]; simp
    have hj : j ∈ readyM ops m := by rw [beq_iff_eq.1 hp.1.1.1.2]; simp
    have h1 := h.set (readyM_lt hi)
    have h2 := h.set (readyM_lt hj)
    rw [h.ready, h1.ready, h2.ready]
    exact ⟨hp.1, okT_ok p _ _ (h1.set (readyM_lt hj)) hp.2⟩

/-- A REGION THAT DRAWS ITS ORDER: its head (n operations) by a plan, its tail as a list. -/
theorem wp_region_pt {id : Nat} {a : Act} {w : World} {l : List Oper} (n : Nat) (S : World → Prop) (p : Pt) (lo : PtO) (hm : P.follows .mixedOrders = true)
    (hB : (Region.noSelect l.toArray && decide (n < l.toArray.size) && Region.sinkB .any l.toArray n && Region.chainB .any l.toArray n && p.steps == n && okT l.toArray n 0 p) = true)
    (hl : p.with l.toArray = lo) (hQ : ∀ c a d v w, Q (.panic c) (Act.put a d v) w → Q (.panic c) a w) (hS : S w.drew)
    (h : wpPt P l.toArray Q S (l.drop n) lo a w.drew) : (Code.region id l.toArray true).wp P Q a w := by
  simp only [Bool.and_eq_true, decide_eq_true_eq, beq_iff_eq] at hB
  obtain ⟨⟨⟨⟨⟨hsel, hn⟩, hs⟩, hc⟩, hst⟩, hok⟩ := hB
  have hn' : n < l.length := by simpa using hn
  have hdl : (l.drop n).length = l.toArray.size - n := by simp
  have inv0 : HeadInv .any l.toArray n (Array.replicate l.toArray.size false) :=
    ⟨by simp, fun j oj _ hl => (by rw [getD_replicate_false] at hl; cases hl), fun t _ ht => getD_in (by simpa using ht) (getD_replicate_false _ _)⟩
  have H := wpAnyM_of_pt (P := P) (S := S) hsel hs hc hn hQ p _ a w.drew inv0 (okT_ok p _ 0 (Bits.start _) hok) hS (hl ▸ h)
  rw [hst] at H
  refine wp_region_any hm ?_
  have := wpAny_of_M (Q := Q) (g := l.toArray.size - n) (fun listed a' w' hz => by
    have := wpAny_of_seq (md := .any) (Q' := Q) (l.drop n) n listed a' w' (fun j => by simp [List.getElem?_drop]) (by rw [hdl]; exact hz.1) hz.2
    rwa [hdl] at this) _ _ _ _ H
  rw [show n + (l.toArray.size - n) = l.toArray.size by omega] at this
  exact this
theorem wpPt_done {tl : List Oper} {a : Act} {w : World} (h : wpList P ops Q tl a w) : wpPt P ops Q S tl .done a w := h
theorem wpPt_take {tl : List Oper} {p : PtO} {a : Act} {w : World} {o : Oper} {v : Value} (hw : Region.wanted o (yielded ops a.tmps) = true)
    (hv : ∀ w, S w → (execOp a.eval o).run P w = .ok (.value v) w) (h : wpPt P ops Q S tl p (a.put o.dst v) w) : wpPt P ops Q S tl (.take o p) a w :=
  ⟨v, .inl ⟨hw, fun w hS => Still.of_value (hv w hS)⟩, h⟩
theorem wpPt_call {tl : List Oper} {p : PtO} {a : Act} {w : World} {o : Oper} {v : Value} {f : FuncId} {args : Array Value} (hw : Region.wanted o (yielded ops a.tmps) = true)
    (hv : ∀ w, S w → (execOp a.eval o).run P w = .ok (.enter f args) w) (hc : ∀ w, S w → Calls P f args w fun e w' => e = .returned v ∧ w' = w)
    (h : wpPt P ops Q S tl p (a.put o.dst v) w) : wpPt P ops Q S tl (.take o p) a w :=
  ⟨v, .inl ⟨hw, fun w hS => Still.of_call (hv w hS) (hc w hS)⟩, h⟩
theorem wpPt_pass {tl : List Oper} {p : PtO} {a : Act} {w : World} {o : Oper} (hw : Region.wanted o (yielded ops a.tmps) = false)
    (h : wpPt P ops Q S tl p (a.put o.dst undef) w) : wpPt P ops Q S tl (.take o p) a w :=
  ⟨undef, .inr ⟨hw, rfl⟩, h⟩
theorem wpPt_do {tl : List Oper} {p : PtO} {a : Act} {w : World} {o : Oper} (hw : Region.wanted o (yielded ops a.tmps) = true)
    (h : ∀ K : Act → World → Prop, (∀ a w, S w ∧ wpPt P ops Q S tl p a w → K a w) → o.wp P a w K Q) : wpPt P ops Q S tl (.doo o p) a w := by
  unfold wpPt wpOne
  rw [if_pos hw]
  exact h _ fun _ _ q => q
/-- two in either order: F tells what they leave -/
theorem wpPt_two {tl : List Oper} {p : PtO} {a : Act} {w : World} {o o' : Oper} (F : Value → Value → World → Prop) (h1 : Region.wanted o (yielded ops a.tmps) = true) (h3 : Region.wanted o' (yielded ops a.tmps) = true) (hd : ∀ d, o.dst = some d → o'.dst ≠ some d)
    (g1 : ∀ K : Act → World → Prop, (∀ b x, (S x ∧ ∃ u, b = a.put o.dst u ∧ wpOne P ops Q o' (fun c y => S y ∧ ∃ v, c = (a.put o.dst u).put o'.dst v ∧ F u v y) b x) → K b x) → o.wp P a w K Q)
    (g2 : ∀ K : Act → World → Prop, (∀ b x, (S x ∧ ∃ v, b = a.put o'.dst v ∧ wpOne P ops Q o (fun c y => S y ∧ ∃ u, c = (a.put o'.dst v).put o.dst u ∧ F u v y) b x) → K b x) → o'.wp P a w K Q)
    (h : ∀ u v y, F u v y → S y → wpPt P ops Q S tl p ((a.put o.dst u).put o'.dst v) y) : wpPt P ops Q S tl (.two o o' p) a w := by
  refine ⟨fun c y => ∃ u v, c = (a.put o.dst u).put o'.dst v ∧ F u v y, ?_, ?_, ?_⟩
  · unfold wpOne
    rw [if_pos h1]
    refine g1 _ fun b x hbx => ⟨hbx.1, ?_⟩
    obtain ⟨_, u, rfl, h2⟩ := hbx
    unfold wpOne at h2
    split
    · rename_i hw
      rw [if_pos hw] at h2
      exact Oper.wp_mono (fun c y hc => ⟨hc.1, u, hc.2⟩) h2
    · rename_i hw
      rw [if_neg hw] at h2
      exact ⟨h2.1, u, h2.2⟩
  · unfold wpOne
    rw [if_pos h3]
    refine g2 _ fun b x hbx => ⟨hbx.1, ?_⟩
    obtain ⟨_, v, rfl, h2⟩ := hbx
    unfold wpOne at h2
    have e : ∀ c u, c = (a.put o'.dst v).put o.dst u → c = (a.put o.dst u).put o'.dst v := fun c u hc => hc.trans (Act.put_comm _ _ _ hd).symm
    split
    · rename_i hw
      rw [if_pos hw] at h2
      refine Oper.wp_mono (fun c y hc => ⟨hc.1, ?_⟩) h2
      obtain ⟨_, u, hc1, hc2⟩ := hc
      exact ⟨u, v, e _ _ hc1, hc2⟩
    · rename_i hw
      rw [if_neg hw] at h2
      obtain ⟨h5, u, hc1, hc2⟩ := h2
      exact ⟨h5, u, v, e _ _ hc1, hc2⟩
  · rintro c y ⟨u, v, rfl, hf⟩ hS
    exact h u v y hf hS
end

/-- reads and quiet calls ahead of a forced tail; the world forgotten but for what Φ tells -/
theorem wp_region_tl {P : Program} {id : Nat} {Q : Exit → Act → World → Prop} {a : Act} {w : World} {l : List Oper} (n : Nat) (Φ : World → Prop) (hΦ : Φ w.drew) (hm : P.follows .mixedOrders = true) (hB : Region.lexTailB .any l.toArray n = true)
    (h : ∀ w0, Φ w0 → wpStill P l.toArray w0 (fun a' => wpList P l.toArray Q (l.drop n) a' w0) (l.take n) a) : (Code.region id l.toArray true).wp P Q a w := wp_region_still_tail n hm hB (h _ hΦ)
/-- these cells hold these values -/
def Cl (L : List (Nat × Nat × Value)) (w : World) : Prop := ∀ p ∈ L, w.cell? ⟨p.1, p.2.1, none⟩ = some p.2.2
theorem Cl.at {L : List (Nat × Nat × Value)} {w : World} (h : Cl L w) (b o : Nat) (v : Value) (hm : (b, o, v) ∈ L) : w.cell? ⟨b, o, none⟩ = some v := h _ hm
theorem Cl.nil (w : World) : Cl [] w := fun p hp => by simp at hp
theorem Cl.cons {L : List (Nat × Nat × Value)} {w : World} {b o : Nat} {v : Value} (h1 : w.cell? ⟨b, o, none⟩ = some v) (h : Cl L w) : Cl ((b, o, v) :: L) w := fun p hp => by
  rcases List.mem_cons.1 hp with rfl | h2
  · exact h1
  · exact h p h2
theorem Cl.drew {L : List (Nat × Nat × Value)} {w : World} (h : Cl L w) : Cl L w.drew := h
theorem Cl.lt {L : List (Nat × Nat × Value)} {w : World} (h : Cl L w) : ∀ p ∈ L, p.1 < w.heap.size := fun p hp => World.block_lt_of_cell? w _ (h p hp)
theorem Cl.alloc {L : List (Nat × Nat × Value)} {w : World} (h : Cl L w) (o : Obj) : Cl L (w.alloc o) := fun p hp => by
  rw [cell_old w o _ _ (h.lt p hp)]
  exact h p hp
theorem Cl.below {L : List (Nat × Nat × Value)} {w w' : World} (h : Cl L w) (hb : Below w.heap.size w w') : Cl L w' := fun p hp => by
  rw [hb.cell (p := ⟨p.1, p.2.1, none⟩) (h.lt p hp)]
  exact h p hp
theorem Cl.mod {L : List (Nat × Nat × Value)} {w w' : World} {T : List Nat} (h : Cl L w) (hm : Mod T w w') (hn : ∀ p ∈ L, p.1 ∉ T) : Cl L w' := fun p hp => by
  rw [hm.cell (h.lt p hp) (hn p hp)]
  exact h p hp
theorem Cl.set {L : List (Nat × Nat × Value)} {w : World} (h : Cl L w) (b o : Nat) (v : Value) (hn : ∀ p ∈ L, p.1 ≠ b) : Cl L (w.setCell ⟨b, o, none⟩ v) :=
  h.mod (Mod.setCell w b o v) (fun p hp => by simpa using hn p hp)
end Go.Proofs.YtcanfmabkklidaaGreat
