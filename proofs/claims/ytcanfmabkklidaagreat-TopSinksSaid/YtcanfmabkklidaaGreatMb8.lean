/- The map of open windows. -/
import Derived.Test.YtcanfmabkklidaaGreatMb7
import Derived.MapKept
import Derived.Maps.OwnSet
set_option linter.unusedSimpArgs false
set_option linter.unusedVariables false
set_option linter.unnecessarySimpa false
namespace Go.Proofs.YtcanfmabkklidaaGreat
open Go.RowKit

def keyV (k : Int × Int) : Value := .agg #[.int .i64 k.1, .int .i64 k.2]
theorem place_fields : Tryz.prog.underlying 189 = some (.struct (Tryz.prog.fieldsOf 189)) := by kernel_rfl
theorem place_two : ∃ f g : Field, (Tryz.prog.fieldsOf 189).toList = [f, g] ∧ f.name = "start" ∧ f.type = 3 ∧ f.offset = 0 ∧ g.name = "key" ∧ g.type = 3 ∧ g.offset = 1 := by
  have hl : ((Tryz.prog.fieldsOf 189).toList.map fun f => (f.name, f.type, f.offset)) = [("start", 3, 0), ("key", 3, 1)] := by kernel_rfl
  generalize (Tryz.prog.fieldsOf 189).toList = fs at hl
  have hlen : fs.length = 2 := by simpa using congrArg List.length hl
  match fs, hlen with
  | [f, g], _ =>
  simp only [List.map_cons, List.map_nil, List.cons.injEq, Prod.mk.injEq, and_true] at hl
  obtain ⟨⟨h1, h2, h3⟩, h4, h5, h6⟩ := hl
  exact ⟨f, g, rfl, h1, h2, h3, h4, h5, h6⟩
theorem eq_place (a b c d : Int) (w : World) : (Op.equal 189 (.agg #[.int .i64 a, .int .i64 b]) (.agg #[.int .i64 c, .int .i64 d])).run Tryz.prog w = .ok (a == c && b == d) w := by
  have hp : Tryz.prog.stoodInHeld 189 = false := by kernel_rfl
  obtain ⟨f, g, hl, h1, h2, h3, h4, h5, h6⟩ := place_two
  unfold Op.equal
  rw [show Op.maxDepth = 9999 + 1 from rfl, run_equalIn_agg w 9999 189 _ _ place_fields hp, hl]
  simp only [Op.eqFields, h1, h2, h3, h4, h5, h6]
  have u3 := Tryz.underlying3
  have e1 := fun (x y : Int) (W : World) => run_equalIn_int (P := Tryz.prog) W 9998 3 .i64 .i64 x y u3
  by_cases hac : a = c
  · subst hac
    simp [go_sem, e1]
    by_cases hbd : b = d <;> simp [hbd]
  · simp [go_sem, hac, e1]
theorem check_int (em : Bool) (n : Nat) (v : Int) (w : World) : (Instr.checkKey em (n + 1) 3 (.int .i64 v)).run Tryz.prog w = .ok () w := by
  rw [Instr.checkKey]
  simp [go_sem, run_underlying Tryz.underlying3]
theorem check_place (em : Bool) (k : Int × Int) (w : World) : (Instr.checkKey em 10000 189 (keyV k)).run Tryz.prog w = .ok () w := by
  obtain ⟨f, g, hl, h1, h2, h3, h4, h5, h6⟩ := place_two
  rw [show (10000 : Nat) = 9999 + 1 from rfl, Instr.checkKey]
  unfold keyV
  simp only [Sem.run_bind, run_underlying place_fields, Result.andThen_ok]
  rw [← Array.forIn_toList, hl]
  have e1 := fun (x : Int) (W : World) => check_int em 9998 x W
  simp [h1, h2, h3, h4, h5, h6, go_sem, e1]
/-- where a place stands -/
def findL : PaneL → Int × Int → Nat → Option (Nat × PotV)
  | [], _, _ => none
  | y :: l, k, i => if y.1 = k then some (i, y.2) else findL l k (i + 1)
theorem findL_get (l : PaneL) (k : Int × Int) : ∀ i, (findL l k i).map (·.2) = pGet l k := by
  induction l with
  | nil => intro i; rfl
  | cons y l ih =>
    intro i
    unfold findL pGet
    split
    · rfl
    · exact ih (i + 1)
theorem findL_some {l : PaneL} {k : Int × Int} : ∀ {i j : Nat} {x : PotV}, findL l k i = some (j, x) → ∃ q, j = i + q ∧ l[q]? = some (k, x) ∧ (∀ y, pSet l k y = l.set q (k, y)) ∧ pDel l k = l.eraseIdx q := by
  induction l with
  | nil => intro i j x h; simp [findL] at h
  | cons y l ih =>
    intro i j x h
    unfold findL at h
    split at h
    · rename_i e
      simp only [Option.some.injEq, Prod.mk.injEq] at h
      obtain ⟨rfl, rfl⟩ := h
      refine ⟨0, rfl, ?_, fun z => by simp [pSet, e], by simp [pDel, e]⟩
      rw [← e]
      rfl
    · rename_i e
      obtain ⟨q, h1, h2, h3, h4⟩ := ih h
      exact ⟨q + 1, by omega, by simpa using h2, fun z => by simp [pSet, e, h3 z], by simp [pDel, e, h4]⟩
theorem findL_none {l : PaneL} {k : Int × Int} : ∀ {i : Nat}, findL l k i = none → (∀ x, pSet l k x = l ++ [(k, x)]) ∧ pDel l k = l := by
  induction l with
  | nil => intro i h; exact ⟨fun x => rfl, rfl⟩
  | cons y l ih =>
    intro i h
    unfold findL at h
    split at h
    · simp at h
    · rename_i e
      obtain ⟨h1, h2⟩ := ih h
      exact ⟨fun x => by simp [pSet, e, h1 x], by simp [pDel, e, h2]⟩
def entV (x : (Int × Int) × PotV) : Value × Value := (keyV x.1, x.2.val)
theorem ask_place (k : Int × Int) (w : World) : ∀ (es : List MapEntry) (l : PaneL) (i : Nat), es.map (fun e => (e.key, e.val)) = l.map entV →
    (Instr.findAsking 189 (keyV k) es i).run Tryz.prog w = .ok ((findL l k i).map fun p => (p.1, p.2.val)) w
  | [], l, i, h => by
    obtain rfl : l = [] := by simpa using h.symm
    simp [Instr.findAsking, findL, go_sem]
  | e :: es, [], i, h => by simp at h
  | e :: es, y :: l, i, h => by
    simp only [List.map_cons, List.cons.injEq, entV, Prod.mk.injEq] at h
    obtain ⟨⟨h1, h2⟩, h3⟩ := h
    have ih := ask_place k w es l (i + 1) h3
    obtain ⟨⟨a, b⟩, x⟩ := y
    obtain ⟨c, d⟩ := k
    unfold Instr.findAsking findL
    simp only [Sem.run_bind, h1]
    unfold keyV
    rw [eq_place]
    simp only [Result.andThen_ok]
    by_cases e1 : c = a
    · by_cases e2 : d = b
      · subst e1 e2
        simp [h2, go_sem]
      · have e3 : ¬ ((a, b) = (c, d)) := by simp; omega
        simp only [e3, if_false]
        simp [e2]
        exact ih
    · have e3 : ¬ ((a, b) = (c, d)) := by simp; omega
      simp only [e3, if_false]
      simp [e1]
      exact ih
theorem find_place (k : Int × Int) (w : World) (es : List MapEntry) (l : PaneL) (h : es.map (fun e => (e.key, e.val)) = l.map entV) :
    (Instr.findKey 189 (keyV k) es).run Tryz.prog w = .ok ((findL l k 0).map fun p => (p.1, p.2.val)) w := by
  unfold Instr.findKey
  simp only [Sem.run_bind, run_underlying place_fields, Result.andThen_ok]
  cases es with
  | nil =>
    obtain rfl : l = [] := by simpa using h.symm
    simp [Instr.findNow, findL, go_sem]
  | cons e es =>
    cases l with
    | nil => simp at h
    | cons y l =>
      have hk : e.key = keyV y.1 := by simp [entV] at h; exact h.1.1
      have hn : Instr.findNow (.struct (Tryz.prog.fieldsOf 189)) (keyV k) (e :: es) 0 = none := by
        simp [Instr.findNow, hk, keyV, Instr.sameNow]
      rw [hn]
      exact ask_place k w (e :: es) (y :: l) 0 h
/-- block b is a map that holds these -/
def MapAt (w : World) (b : Nat) (l : PaneL) : Prop :=
  ∃ es clock, w.heap[b]? = some (.map es clock) ∧ es.toList.map (fun e => (e.key, e.val)) = l.map entV ∧ (es.toList.map (·.born)).Nodup ∧ ∀ e ∈ es.toList, e.born < clock
theorem MapAt.lt {w : World} {b : Nat} {l : PaneL} (h : MapAt w b l) : b < w.heap.size := by
  obtain ⟨es, clock, h1, _⟩ := h
  exact (Array.getElem?_eq_some_iff.1 h1).1
theorem MapAt.of_block {w w' : World} {b : Nat} {l : PaneL} (h : MapAt w b l) (he : w'.heap[b]? = w.heap[b]?) : MapAt w' b l := by
  obtain ⟨es, clock, h1, h2⟩ := h
  exact ⟨es, clock, he.trans h1, h2⟩
theorem MapAt.alloc {w : World} {b : Nat} {l : PaneL} (h : MapAt w b l) (o : Obj) : MapAt (w.alloc o) b l := h.of_block (Below.heap_alloc w o b h.lt)
theorem MapAt.drew {w : World} {b : Nat} {l : PaneL} (h : MapAt w b l) : MapAt w.drew b l := h
theorem MapAt.below {w w' : World} {b : Nat} {l : PaneL} (h : MapAt w b l) (hb : Below w.heap.size w w') : MapAt w' b l := h.of_block (hb.block b h.lt)
theorem MapAt.mod {w w' : World} {b : Nat} {l : PaneL} {S : List Nat} (h : MapAt w b l) (hm : Mod S w w') (hn : b ∉ S) : MapAt w' b l := h.of_block (hm.block b h.lt hn)
theorem MapAt.set {w : World} {b : Nat} {l : PaneL} (h : MapAt w b l) (c o : Nat) (v : Value) (hn : b ≠ c) : MapAt (w.setCell ⟨c, o, none⟩ v) b l := h.of_block (Below.heap_setCell w _ v b (by simpa using hn))
theorem map_under : Tryz.prog.underlying 158 = some (.map 189 210) := Tryz.underlying158
theorem zero210 (w : World) : (zeroValue 210).run Tryz.prog w = .ok (.agg #[.int .i64 0, .int .i64 0, .int .i64 0, .int .u64 0]) w := by kernel_rfl
theorem run_lookup (b : Nat) (l : PaneL) (k : Int × Int) (w : World) (h : MapAt w b l) :
    (Instr.lookup 158 (.map (some b)) (keyV k) false).run Tryz.prog w = .ok ((pGet l k).getD ⟨0, 0, 0, 0⟩).val w := by
  obtain ⟨es, clock, h1, h2, _, _⟩ := h
  have hf := find_place k w es.toList l h2
  rw [← findL_get l k 0]
  cases hq : findL l k 0 with
  | none => rw [hq] at hf; simp [Instr.lookup, run_underlying map_under, Go.MapKept.run_getObj_map h1, check_place, hf, zero210, Result.andThen]
  | some p => rw [hq] at hf; simp [Instr.lookup, run_underlying map_under, Go.MapKept.run_getObj_map h1, check_place, hf, Result.andThen]
theorem run_lookup_ok (b : Nat) (l : PaneL) (k : Int × Int) (w : World) (h : MapAt w b l) :
    (Instr.lookup 158 (.map (some b)) (keyV k) true).run Tryz.prog w = .ok (.tuple #[((pGet l k).getD ⟨0, 0, 0, 0⟩).val, .bool (pGet l k).isSome]) w := by
  obtain ⟨es, clock, h1, h2, _, _⟩ := h
  have hf := find_place k w es.toList l h2
  rw [← findL_get l k 0]
  cases hq : findL l k 0 with
  | none => rw [hq] at hf; simp [Instr.lookup, run_underlying map_under, Go.MapKept.run_getObj_map h1, check_place, hf, zero210, Result.andThen]
  | some p => rw [hq] at hf; simp [Instr.lookup, run_underlying map_under, Go.MapKept.run_getObj_map h1, check_place, hf, Result.andThen]
def mpUpd (w : World) (r : Nat) (o : Obj) : World := { w with heap := w.heap.setIfInBounds r o }
theorem mpUpd_mod (w : World) (r : Nat) (o : Obj) : Mod [r] w (mpUpd w r o) :=
  ⟨rfl, rfl, rfl, by simp [mpUpd], fun k _ hk => by
    simp only [mpUpd]
    rw [Array.getElem?_setIfInBounds_ne (by intro e; exact hk (by simp [e]))]⟩
theorem mpUpd_at (w : World) (r : Nat) (o : Obj) (h : r < w.heap.size) : (mpUpd w r o).heap[r]? = some o := by
  simp [mpUpd, h]
theorem keep_place (k : Int × Int) (w : World) : (Instr.keyThatStays (keyV k) (keyV k)).run Tryz.prog w = .ok (keyV k) w := by
  unfold Instr.keyThatStays
  rw [if_pos]
  · simp [go_sem]
  · rw [show (10000 : Nat) = 9998 + 1 + 1 from rfl]
    simp [Instr.sameBits, keyV]
theorem run_update (b : Nat) (l : PaneL) (k : Int × Int) (x : PotV) (w : World) (h : MapAt w b l) :
    ∃ o, (Instr.mapUpdate 158 (.map (some b)) (keyV k) x.val).run Tryz.prog w = .ok () (mpUpd w b o) ∧ MapAt (mpUpd w b o) b (pSet l k x) := by
  have hlt := h.lt
  obtain ⟨es, clock, h1, h2, h3, h4⟩ := h
  have hf := find_place k w es.toList l h2
  have hlen : es.size = l.length := by have := congrArg List.length h2; simpa using this
  cases hq : findL l k 0 with
  | none =>
    rw [hq] at hf
    obtain ⟨g1, _⟩ := findL_none hq
    refine ⟨.map (es.push { key := keyV k, val := x.val, born := clock }) (clock + 1), ?_, _, _, mpUpd_at w b _ hlt, ?_, ?_, ?_⟩
    · simp [Instr.mapUpdate, run_underlying map_under, Go.MapKept.run_getObj_map h1, check_place, hf, Go.MapKept.run_setObj_map _ h1, mpUpd, Result.andThen]
    · rw [g1, Array.toList_push, List.map_append, List.map_append, h2]
      rfl
    · rw [Array.toList_push, List.map_append]
      refine List.nodup_append.2 ⟨h3, by simp, fun a ha c hc => ?_⟩
      obtain ⟨e, he, rfl⟩ := List.mem_map.1 ha
      obtain rfl : c = clock := by simpa using hc
      have := h4 e he
      omega
    · intro e he
      rw [Array.toList_push] at he
      rcases List.mem_append.1 he with h5 | h5
      · have := h4 e h5; omega
      · obtain rfl := List.mem_singleton.1 h5
        simp
  | some p =>
    rw [hq] at hf
    obtain ⟨q, hq1, hq2, hq3, hq4⟩ := findL_some hq
    rw [Nat.zero_add] at hq1
    have hql : q < l.length := (List.getElem?_eq_some_iff.1 hq2).1
    have hqe : q < es.size := by omega
    have hkey : es[q].key = keyV k := by
      have h5 := congrArg (fun t => t[q]?) h2
      simp [hqe, hq2, entV] at h5
      exact h5.1
    refine ⟨.map (es.modify q fun e => { e with key := keyV k, val := x.val }) clock, ?_, _, _, mpUpd_at w b _ hlt, ?_, ?_, ?_⟩
    · simp [Instr.mapUpdate, run_underlying map_under, Go.MapKept.run_getObj_map h1, check_place, hf, Go.MapKept.run_setObj_map _ h1, mpUpd, Result.andThen, hq1, hqe, hkey, keep_place]
    · rw [hq3]
      apply List.ext_getElem?
      intro i
      have h5 := congrArg (fun t => t[i]?) h2
      simp only [List.getElem?_map, Array.getElem?_toList] at h5
      simp only [List.getElem?_map, Array.getElem?_toList, Array.getElem?_modify, List.getElem?_set]
      by_cases e : q = i
      · subst e
        simp [hql, hqe, entV]
      · simp only [e, if_false]
        exact h5
    · have : ((es.modify q fun e => { e with key := keyV k, val := x.val }).toList.map (·.born)) = es.toList.map (·.born) := by
        apply List.ext_getElem?
        intro i
        simp only [List.getElem?_map, Array.getElem?_toList, Array.getElem?_modify]
        by_cases e : q = i
        · subst e; simp [hqe]
        · simp [e]
      rw [this]
      exact h3
    · intro e he
      obtain ⟨i, hi, rfl⟩ := List.getElem_of_mem he
      simp only [Array.length_toList, Array.size_modify] at hi
      simp only [Array.getElem_toList, Array.getElem_modify]
      have h5 := h4 es[i] (by simp)
      split <;> exact h5
theorem map_erase {α β : Type} (f : α → β) : ∀ (l : List α) (i : Nat), (l.eraseIdx i).map f = (l.map f).eraseIdx i
  | [], i => by simp
  | a :: l, 0 => by simp
  | a :: l, i + 1 => by simp [map_erase f l i]
theorem run_delete (ty : TypeId) (b : Nat) (l : PaneL) (k : Int × Int) (w : World) (h : MapAt w b l) :
    ∃ o, (Builtin.delete_ #[158, 189] ty #[.map (some b), keyV k]).run Tryz.prog w = .ok (.tuple #[]) (mpUpd w b o) ∧ MapAt (mpUpd w b o) b (pDel l k) := by
  have hlt := h.lt
  obtain ⟨es, clock, h1, h2, h3, h4⟩ := h
  have hf := find_place k w es.toList l h2
  have hlen : es.size = l.length := by have := congrArg List.length h2; simpa using this
  cases hq : findL l k 0 with
  | none =>
    rw [hq] at hf
    obtain ⟨_, g2⟩ := findL_none hq
    refine ⟨.map es clock, ?_, es, clock, mpUpd_at w b _ hlt, by rw [g2]; exact h2, h3, h4⟩
    simp [Builtin.delete_, run_underlying map_under, Go.MapKept.run_getObj_map h1, check_place, hf, Go.MapKept.run_setObj_map _ h1, mpUpd, Result.andThen]
  | some p =>
    rw [hq] at hf
    obtain ⟨q, hq1, hq2, hq3, hq4⟩ := findL_some hq
    rw [Nat.zero_add] at hq1
    have hql : q < l.length := (List.getElem?_eq_some_iff.1 hq2).1
    have hqe : q < es.size := by omega
    have hel : (es.eraseIdxIfInBounds q).toList = es.toList.eraseIdx q := by simp [Array.eraseIdxIfInBounds, hqe]
    refine ⟨.map (es.eraseIdxIfInBounds q) clock, ?_, _, _, mpUpd_at w b _ hlt, ?_, ?_, ?_⟩
    · simp [Builtin.delete_, run_underlying map_under, Go.MapKept.run_getObj_map h1, check_place, hf, Go.MapKept.run_setObj_map _ h1, mpUpd, Result.andThen, hq1]
    · rw [hq4, hel, map_erase, h2, map_erase]
    · rw [hel, map_erase]
      exact h3.sublist (List.eraseIdx_sublist _ _)
    · intro e he
      rw [hel] at he
      exact h4 e ((List.eraseIdx_sublist _ _).subset he)
theorem wpList_update {ops : Array Oper} {rest : List Oper} {o : Oper} {a : Act} {Q : Exit → Act → World → Prop} {w : World} (hg : o.guard = none) (m k v : Operand) (hop : o.op = .mapUpdate 158 m k v)
    (b : Nat) (l : PaneL) (key : Int × Int) (x : PotV) (h : MapAt w b l) (em : a.eval m = .map (some b)) (ek : a.eval k = keyV key) (ev : a.eval v = x.val)
    (hK : ∀ w', MapAt w' b (pSet l key x) → Mod [b] w w' → wpList Tryz.prog ops Q rest (a.put o.dst undef) w') : wpList Tryz.prog ops Q (o :: rest) a w := by
  refine wpList_plain hg fun K hK' => ?_
  obtain ⟨ob, hr, hm⟩ := run_update b l key x w h
  unfold Oper.wp
  simp [execOp, hop, em, ek, ev, hr, Result.andThen]
  exact hK' _ _ (hK _ hm (mpUpd_mod _ _ _))
theorem wpList_del {ops : Array Oper} {rest : List Oper} {o : Oper} {a : Act} {Q : Exit → Act → World → Prop} {w : World} (hg : o.guard = none) (m k : Operand) (hop : o.op = Op.call { callee := Callee.builtin Builtin.delete, args := #[m, k], argTypes := #[158, 189] })
    (b : Nat) (l : PaneL) (key : Int × Int) (h : MapAt w b l) (em : a.eval m = .map (some b)) (ek : a.eval k = keyV key)
    (hK : ∀ w', MapAt w' b (pDel l key) → Mod [b] w w' → wpList Tryz.prog ops Q rest (a.put o.dst (.tuple #[])) w') : wpList Tryz.prog ops Q (o :: rest) a w := by
  refine wpList_plain hg fun K hK' => ?_
  obtain ⟨ob, hr, hm⟩ := run_delete o.type b l key w h
  unfold Oper.wp
  simp [execOp, hop, resolve, invoke, builtin, em, ek, hr, Result.andThen]
  exact hK' _ _ (hK _ hm (mpUpd_mod _ _ _))
end Go.Proofs.YtcanfmabkklidaaGreat
