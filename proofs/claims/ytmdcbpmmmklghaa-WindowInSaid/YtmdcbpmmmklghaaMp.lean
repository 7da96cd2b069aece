/- A map with whole numbers for keys and bools for elements, known entry by entry: one new key more; a lookup. -/
import Derived.WalkKit
import Derived.Maps.Own
import Derived.MapKept
import Derived.Test.YtmdcbpmmmklghaaBase
namespace Go.Proofs.Ytmdcbpmmmklghaa
open Go.RowKit

def mpUpd (w : World) (r : Nat) (o : Obj) : World := { w with heap := w.heap.setIfInBounds r o }
theorem mpUpd_grown (w : World) (r : Nat) (o : Obj) : w.grownBy (mpUpd w r o) (some r) :=
  ⟨rfl, rfl, rfl, by simp [mpUpd], fun k _ hk => by
    simp only [mpUpd]
    rw [Array.getElem?_setIfInBounds_ne (by intro e; exact hk (by rw [e]))]⟩
theorem mpUpd_at (w : World) (r : Nat) (o : Obj) (h : r < w.heap.size) : (mpUpd w r o).heap[r]? = some o := by
  simp [mpUpd, h]

theorem findNow_none (n : Int) : ∀ (es : List MapEntry) (i : Nat), (∀ e ∈ es, ∃ m, e.key = .int .i64 m ∧ m ≠ n) → Instr.findNow (.int .i64) (.int .i64 n) es i = some none
  | [], _, _ => rfl
  | e :: es, i, h => by
    obtain ⟨m, hm, hne⟩ := h e (by simp)
    have hb : (n == m) = false := by simp; omega
    simp only [Instr.findNow, hm, Instr.sameNow, if_true, hb]
    exact findNow_none n es (i + 1) fun e he => h e (by simp [he])
theorem findNow_some (n : Int) (v : Value) : ∀ (es : List MapEntry) (i : Nat), (∀ e ∈ es, ∃ m, e.key = .int .i64 m) → (∀ e ∈ es, e.key = .int .i64 n → e.val = v) → (∃ e ∈ es, e.key = .int .i64 n) →
    ∃ j, Instr.findNow (.int .i64) (.int .i64 n) es i = some (some (j, v))
  | [], _, _, _, h => by obtain ⟨e, he, _⟩ := h; simp at he
  | e :: es, i, h1, h2, h3 => by
    obtain ⟨m, hm⟩ := h1 e (by simp)
    by_cases hn : n = m
    · subst hn
      exact ⟨i, by simp [Instr.findNow, hm, Instr.sameNow, h2 e (by simp) hm]⟩
    · have hb : (n == m) = false := by simp; omega
      obtain ⟨j, hj⟩ := findNow_some n v es (i + 1) (fun e he => h1 e (by simp [he])) (fun e he => h2 e (by simp [he])) (by
        obtain ⟨e', he', hk⟩ := h3
        rcases List.mem_cons.1 he' with rfl | h
        · rw [hm] at hk; simp at hk; omega
        · exact ⟨e', h, hk⟩)
      exact ⟨j, by simp only [Instr.findNow, hm, Instr.sameNow, if_true, hb]; exact hj⟩

theorem run_mapUpdate_new {P : Program} (w : World) (t kt et : TypeId) (ht : P.underlying t = some (.map kt et)) (hk : P.underlying kt = some (.int .i64)) (r : Nat) (es : Array MapEntry) (clock : Nat)
    (h : w.heap[r]? = some (.map es clock)) (n : Int) (v : Value) (hnew : ∀ e ∈ es.toList, ∃ m, e.key = .int .i64 m ∧ m ≠ n) :
    (Instr.mapUpdate t (.map (some r)) (.int .i64 n) v).run P w = .ok () (mpUpd w r (.map (es.push { key := .int .i64 n, val := v, born := clock }) (clock + 1))) := by
  have hf := findNow_none n es.toList 0 hnew
  have hi : Go.MapKept.IsKey (.int .i64) (.int .i64 n) := by simp [Go.MapKept.IsKey]
  simp [Instr.mapUpdate, run_underlying ht, Go.MapKept.run_getObj_map h, Go.MapKept.run_checkKey hk hi, Go.MapKept.run_findKey hk hf, Go.MapKept.run_setObj_map _ h, mpUpd, Result.andThen]
theorem run_lookup_yes {P : Program} (w : World) (t kt et : TypeId) (ht : P.underlying t = some (.map kt et)) (hk : P.underlying kt = some (.int .i64)) (r : Nat) (es : Array MapEntry) (clock : Nat)
    (h : w.heap[r]? = some (.map es clock)) (n : Int) (v : Value) (h1 : ∀ e ∈ es.toList, ∃ m, e.key = .int .i64 m) (h2 : ∀ e ∈ es.toList, e.key = .int .i64 n → e.val = v) (h3 : ∃ e ∈ es.toList, e.key = .int .i64 n) :
    (Instr.lookup t (.map (some r)) (.int .i64 n) false).run P w = .ok v w := by
  obtain ⟨j, hf⟩ := findNow_some n v es.toList 0 h1 h2 h3
  have hi : Go.MapKept.IsKey (.int .i64) (.int .i64 n) := by simp [Go.MapKept.IsKey]
  simp [Instr.lookup, run_underlying ht, Go.MapKept.run_getObj_map h, Go.MapKept.run_checkKey hk hi, Go.MapKept.run_findKey hk hf, Result.andThen]
theorem run_lookup_no {P : Program} (w : World) (t kt et : TypeId) (ht : P.underlying t = some (.map kt et)) (hk : P.underlying kt = some (.int .i64)) (z : Value) (hz : ∀ w, (zeroValue et).run P w = .ok z w) (r : Nat) (es : Array MapEntry) (clock : Nat)
    (h : w.heap[r]? = some (.map es clock)) (n : Int) (hnew : ∀ e ∈ es.toList, ∃ m, e.key = .int .i64 m ∧ m ≠ n) :
    (Instr.lookup t (.map (some r)) (.int .i64 n) false).run P w = .ok z w := by
  have hf := findNow_none n es.toList 0 hnew
  have hi : Go.MapKept.IsKey (.int .i64) (.int .i64 n) := by simp [Go.MapKept.IsKey]
  simp [Instr.lookup, run_underlying ht, Go.MapKept.run_getObj_map h, Go.MapKept.run_checkKey hk hi, Go.MapKept.run_findKey hk hf, hz, Result.andThen]

theorem wpList_mapUpdate_new {P : Program} {ops : Array Oper} {rest : List Oper} {o : Oper} {a : Act} {Q : Exit → Act → World → Prop} (w : World) (hg : o.guard = none) (t : TypeId) (m k v : Operand) (hop : o.op = .mapUpdate t m k v)
    (kt et : TypeId) (ht : P.underlying t = some (.map kt et)) (hk : P.underlying kt = some (.int .i64)) (r : Nat) (es : Array MapEntry) (clock : Nat) (h : w.heap[r]? = some (.map es clock)) (n : Int) (u : Value)
    (em : a.eval m = .map (some r)) (ek : a.eval k = .int .i64 n) (ev : a.eval v = u) (hnew : ∀ e ∈ es.toList, ∃ m, e.key = .int .i64 m ∧ m ≠ n)
    (hK : wpList P ops Q rest (a.put o.dst undef) (mpUpd w r (.map (es.push { key := .int .i64 n, val := u, born := clock }) (clock + 1)))) : wpList P ops Q (o :: rest) a w := by
  refine wpList_plain hg fun K hK' => ?_
  have hr := run_mapUpdate_new (P := P) w t kt et ht hk r es clock h n u hnew
  unfold Oper.wp
  simp [execOp, hop, em, ek, ev, hr, Result.andThen]
  exact hK' _ _ hK
theorem wpList_lookup_val {P : Program} {ops : Array Oper} {rest : List Oper} {o : Oper} {a : Act} {Q : Exit → Act → World → Prop} (w : World) (hg : o.guard = none) (t : TypeId) (m k : Operand) (hop : o.op = .lookup t m k false)
    (r : Nat) (n : Int) (v : Value) (em : a.eval m = .map (some r)) (ek : a.eval k = .int .i64 n) (hv : (Instr.lookup t (.map (some r)) (.int .i64 n) false).run P w = .ok v w)
    (hK : wpList P ops Q rest (a.put o.dst v) w) : wpList P ops Q (o :: rest) a w := by
  refine wpList_plain hg fun K hK' => ?_
  unfold Oper.wp
  simp [execOp, hop, em, ek, hv, Result.andThen]
  exact hK' _ _ hK
end Go.Proofs.Ytmdcbpmmmklghaa
