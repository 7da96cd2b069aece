/- append of a whole list of structs. -/
import Derived.Test.YtcanfmabkklidaaGreatMb16
import Derived.Maps.AppendAt
set_option linter.unusedSimpArgs false
set_option linter.unusedVariables false
set_option linter.unnecessarySimpa false
namespace Go.Proofs.YtcanfmabkklidaaGreat
open Go.RowKit

set_option maxRecDepth 100000 in
theorem wpList_append_rdr_at {α : Type} {cs : α → List Value} {ops : Array Oper} {rest : List Oper} {o : Oper} {a : Act} {Q : Exit → Act → World → Prop} {w : World} (hgd : o.guard = none) (s x : Operand) (t : TypeId)
    (ho : o.op = .call { callee := .builtin .append, args := #[s, x], argTypes := #[t, t] })
    (base : Nat) (e : TypeId) (i : TypeInfo) (z : Value) (size bytes : Nat) (ht : Tryz.prog.underlying t = some (.slice e)) (hi : Tryz.prog.info? e = some i) (hz : i.zero = some z)
    (hsize : i.size = size) (hby : i.bytes = bytes) (hzs : z.cells.size = size) (hsz : 0 < size) (hby2 : bytes ≤ 136) (hcs : ∀ x, (cs x).length = size) (hone : ∀ x, ∀ u ∈ cs x, u.oneCell' = true)
    (v : Value) (l : List α) (hs : a.eval s = v) (hown : w.ownsRow base e size v l.length (l.flatMap cs))
    (v2 : Value) (l2 : List α) (S : List Nat) (hx : a.eval x = v2) (h2 : RdR cs size w v2 l2 S) (h63 : l.length + l2.length ≤ 1000000) (hbase : base ≤ w.heap.size)
    (h : ∀ v' w', w'.ownsRow base e size v' (l ++ l2).length ((l ++ l2).flatMap cs) → w.grownBy w' v.ownBlock → (v'.ownBlock = v.ownBlock ∨ v'.ownBlock = some w.heap.size) → wpList Tryz.prog ops Q rest (a.put o.dst v') w') : wpList Tryz.prog ops Q (o :: rest) a w := by
  have h2' := h2
  obtain ⟨a2, c2, rfl, hc1, hc2, hcase⟩ := h2'
  have hbb : (l.length + l2.length) * bytes ≤ 140737488355328 := Nat.le_trans (Nat.mul_le_mul h63 hby2) (by decide)
  cases a2 with
  | none =>
    rcases hcase with ⟨rfl, _, h0⟩ | ⟨_, _, _, h0, _⟩
    · obtain rfl := h0 rfl
      have hf := h v w (by simpa using hown) ⟨rfl, rfl, rfl, Nat.le_refl _, fun _ _ _ => rfl⟩ (.inl rfl)
      refine wpList_plain hgd fun K hK => ?_
      have hf2 := hK _ _ hf
      have hu : ∀ W, (underlying t).run Tryz.prog W = .ok (.slice e) W := run_underlying ht
      have hu2 : ∀ W, (sizeOf e).run Tryz.prog W = .ok size W := fun W => by simp [sizeOf, typeInfo, go_sem, hi, hsize]
      have hu3 : ∀ W, (typeInfo e).run Tryz.prog W = .ok i W := fun W => by simp [typeInfo, go_sem, hi]
      rcases hown.2 with ⟨rfl, _⟩ | ⟨g, cap, cur, rfl, _, _, hcap, _⟩
      all_goals
        unfold Oper.wp execOp
        simp only [ho, resolve, invoke, builtin, Sem.run_bind, Sem.run_pure, Result.andThen_ok, List.map_toArray, List.map_cons, List.map_nil, hs, hx]
        go_simp
        exact hf2
    · cases h0
  | some ad =>
    refine wpList_append_own_at _ hgd s x t ho base e i z size bytes ht hi hz hsize hby hzs hsz v l.length (l.flatMap cs) hs hown ad l2.length c2 (l2.flatMap cs) hx (flat_len hcs l2) ((RdR.news hcs hsz h2).2) (flat_one hone l2) (by unfold maxLen; omega) hbb hbase ?_
    intro v' w' h1 h3 _ h4
    exact h v' w' (by simpa using h1) h3 h4
theorem wpList_append_rdr {α : Type} {cs : α → List Value} {ops : Array Oper} {rest : List Oper} {o : Oper} {a : Act} {Q : Exit → Act → World → Prop} {w : World} (hgd : o.guard = none) (s x : Operand) (t : TypeId)
    (ho : o.op = .call { callee := .builtin .append, args := #[s, x], argTypes := #[t, t] })
    (base : Nat) (e : TypeId) (i : TypeInfo) (z : Value) (size bytes : Nat) (ht : Tryz.prog.underlying t = some (.slice e)) (hi : Tryz.prog.info? e = some i) (hz : i.zero = some z)
    (hsize : i.size = size) (hby : i.bytes = bytes) (hzs : z.cells.size = size) (hsz : 0 < size) (hby2 : bytes ≤ 136) (hcs : ∀ x, (cs x).length = size) (hone : ∀ x, ∀ u ∈ cs x, u.oneCell' = true)
    (v : Value) (l : List α) (hs : a.eval s = v) (hown : w.ownsRow base e size v l.length (l.flatMap cs))
    (v2 : Value) (l2 : List α) (S : List Nat) (hx : a.eval x = v2) (h2 : RdR cs size w v2 l2 S) (h63 : l.length + l2.length ≤ 1000000) (hbase : base ≤ w.heap.size)
    (h : ∀ v' w', w'.ownsRow base e size v' (l ++ l2).length ((l ++ l2).flatMap cs) → w.grownBy w' v.ownBlock → wpList Tryz.prog ops Q rest (a.put o.dst v') w') : wpList Tryz.prog ops Q (o :: rest) a w :=
  wpList_append_rdr_at hgd s x t ho base e i z size bytes ht hi hz hsize hby hzs hsz hby2 hcs hone v l hs hown v2 l2 S hx h2 h63 hbase fun v' w' h1 h2 _ => h v' w' h1 h2
end Go.Proofs.YtcanfmabkklidaaGreat
set_option linter.unusedSimpArgs false
set_option linter.unusedVariables false
set_option linter.unnecessarySimpa false
namespace Go.Proofs.YtcanfmabkklidaaGreat
open Go.RowKit

set_option maxRecDepth 100000 in
theorem run_append_rdr {α : Type} {cs : α → List Value} {w : World} (t ty : TypeId)
    (base : Nat) (e : TypeId) (i : TypeInfo) (z : Value) (size bytes : Nat) (ht : Tryz.prog.underlying t = some (.slice e)) (hi : Tryz.prog.info? e = some i) (hz : i.zero = some z)
    (hsize : i.size = size) (hby : i.bytes = bytes) (hzs : z.cells.size = size) (hsz : 0 < size) (hby2 : bytes ≤ 136) (hcs : ∀ x, (cs x).length = size) (hone : ∀ x, ∀ u ∈ cs x, u.oneCell' = true)
    (v : Value) (l : List α) (hown : w.ownsRow base e size v l.length (l.flatMap cs))
    (v2 : Value) (l2 : List α) (S : List Nat) (h2 : RdR cs size w v2 l2 S) (h63 : l.length + l2.length ≤ 1000000) (hbase : base ≤ w.heap.size) :
    ∃ v' w', (Builtin.append_ #[t, t] ty #[v, v2]).run Tryz.prog w = .ok v' w' ∧ w'.ownsRow base e size v' (l ++ l2).length ((l ++ l2).flatMap cs) ∧ w.grownBy w' v.ownBlock ∧ (v'.ownBlock = v.ownBlock ∨ v'.ownBlock = some w.heap.size) := by
  have h2' := h2
  obtain ⟨a2, c2, rfl, hc1, hc2, hcase⟩ := h2'
  have hbb : (l.length + l2.length) * bytes ≤ 140737488355328 := Nat.le_trans (Nat.mul_le_mul h63 hby2) (by decide)
  cases a2 with
  | none =>
    rcases hcase with ⟨rfl, _, h0⟩ | ⟨_, _, _, h0, _⟩
    · obtain rfl := h0 rfl
      refine ⟨v, w, ?_, by simpa using hown, ⟨rfl, rfl, rfl, Nat.le_refl _, fun _ _ _ => rfl⟩, .inl rfl⟩
      have hu : ∀ W, (underlying t).run Tryz.prog W = .ok (.slice e) W := run_underlying ht
      have hu2 : ∀ W, (sizeOf e).run Tryz.prog W = .ok size W := fun W => by simp [sizeOf, typeInfo, go_sem, hi, hsize]
      have hu3 : ∀ W, (typeInfo e).run Tryz.prog W = .ok i W := fun W => by simp [typeInfo, go_sem, hi]
      rcases hown.2 with ⟨rfl, _⟩ | ⟨g, cap, cur, rfl, _, _, hcap, _⟩
      all_goals
        unfold Builtin.append_
        go_simp
    · cases h0
  | some ad =>
    obtain ⟨v', w', hr, h3, h4, _, h6⟩ := run_append_own_at (P := Tryz.prog) w base t ty e i z size bytes ht hi hz hsize hby hzs hsz v l.length (l.flatMap cs) hown ad l2.length c2 (l2.flatMap cs) (flat_len hcs l2) ((RdR.news hcs hsz h2).2) (flat_one hone l2) (by unfold maxLen; omega) hbb hbase
    exact ⟨v', w', hr, by simpa using h3, h4, h6⟩
theorem wp_append_rdr {α : Type} {cs : α → List Value} {o : Oper} {a : Act} {K : Act → World → Prop} {Q : Exit → Act → World → Prop} {w : World} (s x : Operand) (t : TypeId)
    (ho : o.op = .call { callee := .builtin .append, args := #[s, x], argTypes := #[t, t] })
    (base : Nat) (e : TypeId) (i : TypeInfo) (z : Value) (size bytes : Nat) (ht : Tryz.prog.underlying t = some (.slice e)) (hi : Tryz.prog.info? e = some i) (hz : i.zero = some z)
    (hsize : i.size = size) (hby : i.bytes = bytes) (hzs : z.cells.size = size) (hsz : 0 < size) (hby2 : bytes ≤ 136) (hcs : ∀ x, (cs x).length = size) (hone : ∀ x, ∀ u ∈ cs x, u.oneCell' = true)
    (v : Value) (l : List α) (hs : a.eval s = v) (hown : w.ownsRow base e size v l.length (l.flatMap cs))
    (v2 : Value) (l2 : List α) (S : List Nat) (hx : a.eval x = v2) (h2 : RdR cs size w v2 l2 S) (h63 : l.length + l2.length ≤ 1000000) (hbase : base ≤ w.heap.size)
    (h : ∀ v' w', w'.ownsRow base e size v' (l ++ l2).length ((l ++ l2).flatMap cs) → w.grownBy w' v.ownBlock → (v'.ownBlock = v.ownBlock ∨ v'.ownBlock = some w.heap.size) → K (a.put o.dst v') w') : o.wp Tryz.prog a w K Q := by
  obtain ⟨v', w', hr, h3, h4, h6⟩ := run_append_rdr t o.type base e i z size bytes ht hi hz hsize hby hzs hsz hby2 hcs hone v l hown v2 l2 S h2 h63 hbase
  unfold Oper.wp execOp
  simp only [ho, resolve, invoke, builtin, Sem.run_bind, Sem.run_pure, Result.andThen_ok, List.map_toArray, List.map_cons, List.map_nil, hs, hx, hr]
  exact h v' w' h3 h4 h6
end Go.Proofs.YtcanfmabkklidaaGreat
