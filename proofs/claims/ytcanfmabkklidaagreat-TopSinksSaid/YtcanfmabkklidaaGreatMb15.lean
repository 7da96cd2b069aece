/- The keys of a map by its iterator. -/
import Derived.Test.YtcanfmabkklidaaGreatMb14
import Derived.Test.YtcanfmabkklidaaGreatMb8
import Derived.RangeFuncGives
import Derived.Maps.AppendAt
import Derived.Maps.RangeRun
import Derived.Shelf.Abstract
import Derived.Sort.MapsRangeIn
import Derived.WalkKit
import Derived.OwnWalkIn
import Derived.TacticsInMore
import Derived.RegionIn
import Derived.LoopNIn
import Derived.LoopIn
set_option linter.unusedSimpArgs false
set_option linter.unusedVariables false
set_option linter.unnecessarySimpa false
namespace Go.Proofs.YtcanfmabkklidaaGreat
open Go.RowKit Go.ChangeMaps

/-- the iterator in block r over the map in block b that holds l: these keys have come -/
def IterAt (w : World) (b r : Nat) (l : PaneL) (ss : List (Int × Int)) : Prop :=
  ∃ es clock since seen c0, w.heap[b]? = some (.map es clock) ∧ w.heap[r]? = some (.mapIter (some b) since seen c0) ∧ (∀ x ∈ es.toList, x.born < since) ∧ (since ≤ c0 ∧ since ≤ clock) ∧ (es.toList.map (·.born)).Nodup ∧
    es.toList.map (fun e => (e.key, e.val)) = l.map entV ∧ seen.size = ss.length ∧ (ss.map keyV ++ (leftOf es seen).toList.map (·.key)).Perm (l.map fun y => keyV y.1)
theorem IterAt.of_walks {w w' : World} {b r : Nat} {l : PaneL} {ss : List (Int × Int)} (h : IterAt w b r l ss) (hk : KeepsWalks w w') : IterAt w' b r l ss := by
  obtain ⟨es, clock, since, seen, c0, h1, h2, h3⟩ := h
  exact ⟨es, clock, since, seen, c0, hk.same b _ h1 rfl, hk.same r _ h2 rfl, h3⟩
theorem IterAt.len {w : World} {b r : Nat} {l : PaneL} {ss : List (Int × Int)} (h : IterAt w b r l ss) : (w.iterSeen r).size = ss.length := by
  obtain ⟨es, clock, since, seen, c0, h1, h2, h3, h4, h5, h6, h7, h8⟩ := h
  simp [World.iterSeen, h2, h7]
def keyD : Value → Int × Int
  | .agg xs => match xs.toList with
    | [.int _ a, .int _ b] => (a, b)
    | _ => (0, 0)
  | _ => (0, 0)
theorem keyD_keyV (k : Int × Int) : keyD (keyV k) = k := rfl
theorem IterAt.end {w : World} {b r : Nat} {l : PaneL} {ss : List (Int × Int)} (h : IterAt w b r l ss) (es : Array MapEntry) (seen : Array Nat) (h0 : ∀ es' c s' q z, w.heap[b]? = some (.map es' c) → w.heap[r]? = some (.mapIter (some b) q s' z) → (leftOf es' s').size = 0) :
    ss.Perm (l.map (·.1)) := by
  obtain ⟨es, clock, since, seen, c0, h1, h2, h3, h4, h5, h6, h7, h8⟩ := h
  have h9 := h0 _ _ _ _ _ h1 h2
  have h10 : (leftOf es seen).toList = [] := by
    rw [← List.length_eq_zero_iff, Array.length_toList]
    exact h9
  rw [h10, List.map_nil, List.append_nil] at h8
  have h11 := h8.map keyD
  simpa [List.map_map, Function.comp_def, keyD_keyV] using h11
theorem filt_out (e : MapEntry) (q : MapEntry → Bool) : ∀ (es : List MapEntry), (es.map (·.born)).Nodup → e ∈ es → q e = true →
    (es.filter q).Perm (e :: es.filter fun x => q x && !(x.born == e.born))
  | [], _, h, _ => by cases h
  | x :: es, hn, he, hq => by
    simp only [List.map_cons, List.nodup_cons] at hn
    by_cases hx : x = e
    · subst hx
      have h2 : (es.filter fun y => q y && !(y.born == x.born)) = es.filter q := by
        refine List.filter_congr fun y hy => ?_
        have : ¬ y.born = x.born := fun e1 => hn.1 (by rw [← e1]; exact List.mem_map_of_mem hy)
        simp [this]
      simp [List.filter_cons, hq, h2]
    · have he2 : e ∈ es := by
        rcases List.mem_cons.1 he with h | h
        · exact absurd h.symm hx
        · exact h
      have hb : ¬ x.born = e.born := fun e1 => hn.1 (by rw [e1]; exact List.mem_map_of_mem he2)
      have ih := filt_out e q es hn.2 he2 hq
      simp only [List.filter_cons]
      by_cases hqx : q x = true
      · simp only [hqx, if_true, Bool.true_and]
        rw [if_pos (by simp [hb])]
        exact (ih.cons x).trans (List.Perm.swap e x _)
      · have h3 : q x = false := by simpa using hqx
        simp only [h3, Bool.false_and, Bool.false_eq_true, if_false]
        exact ih
theorem IterAt.next {w : World} {b r : Nat} {l : PaneL} {ss : List (Int × Int)} (h : IterAt w b r l ss) (ty : TypeId) :
    (ss.Perm (l.map (·.1)) ∧ (Instr.next (.pointer (some ⟨r, 0, none⟩)) false ty).run Tryz.prog w = .ok (.tuple #[.bool false]) w) ∨
    ∃ (k : Int × Int) (v : Value) (w' : World), (Instr.next (.pointer (some ⟨r, 0, none⟩)) false ty).run Tryz.prog w = .ok (.tuple #[.bool true, keyV k, v]) w' ∧ IterAt w' b r l (ss ++ [k]) ∧ ss.length < l.length ∧
      w.grownBy w' (some r) ∧ (Instr.entry (.pointer (some ⟨r, 0, none⟩))).run Tryz.prog w' = .ok (.tuple #[keyV k, v]) w' := by
  have hh := h
  obtain ⟨es, clock, since, seen, c0, h1, h2, h3, h4, h5, h6, h7, h8⟩ := hh
  rcases run_next_at (P := Tryz.prog) w ty r b since c0 seen es clock h2 h1 h3 h4.1 with ⟨h0, hr⟩ | ⟨e, he, w1, hw1, hr⟩
  · refine .inl ⟨h.end es seen fun es' c s' q z g1 g2 => ?_, hr⟩
    rw [h1] at g1
    rw [h2] at g2
    cases g1
    cases g2
    exact h0
  · right
    have hm := mem_left he
    obtain ⟨i, hi, hie⟩ := List.getElem_of_mem hm.1
    have hkey : ∃ k, e.key = keyV k := by
      have h10 := congrArg (fun t => t[i]?) h6
      simp only [List.getElem?_map, List.getElem?_eq_getElem hi, hie, Option.map_some] at h10
      cases hl : l[i]? with
      | none => rw [hl] at h10; cases h10
      | some y => rw [hl] at h10; simp [entV] at h10; exact ⟨y.1, h10.1⟩
    obtain ⟨k, hk⟩ := hkey
    have hp : (leftOf es seen).toList.Perm (e :: (leftOf es (seen.push e.born)).toList) := by
      have h11 := filt_out e (fun x => !seen.contains x.born) es.toList h5 hm.1 (by simp [hm.2]; simpa using hm.2)
      unfold leftOf
      rw [Array.toList_filter, Array.toList_filter]
      refine h11.trans (List.Perm.cons e (List.Perm.of_eq (List.filter_congr fun x hx => ?_)))
      rw [contains_push, Bool.not_or]
    have hpk := hp.map (·.key)
    rw [List.map_cons, hk] at hpk
    have hbne : b ≠ r := fun e1 => by rw [e1, h2] at h1; cases h1
    have hw1h : w1.heap = w.heap := by rcases hw1 with rfl | rfl <;> rfl
    have hrs : (setBlock w1 r (.mapIter (some b) since (seen.push e.born) clock)).heap[r]? = some (.mapIter (some b) since (seen.push e.born) clock) := by
      have : r < w.heap.size := (Array.getElem?_eq_some_iff.1 h2).1
      simp [setBlock, hw1h, this]
    have hbs : (setBlock w1 r (.mapIter (some b) since (seen.push e.born) clock)).heap[b]? = some (.map es clock) := by
      simp only [setBlock, hw1h]
      rw [Array.getElem?_setIfInBounds_ne (Ne.symm hbne)]
      exact h1
    refine ⟨k, e.val, _, by rw [← hk]; exact hr, ⟨es, clock, since, seen.push e.born, clock, hbs, hrs, h3, ⟨h4.2, h4.2⟩, h5, h6, by simp [h7], ?_⟩, ?_, ?_, ?_⟩
    · refine List.Perm.trans ?_ h8
      rw [List.map_append, List.append_assoc]
      exact List.Perm.append_left _ hpk.symm
    · have h12 := h8.length_eq
      have h13 := hpk.length_eq
      simp at h12 h13
      omega
    · refine ⟨?_, ?_, ?_, by simp [setBlock, hw1h], fun j _ hj => ?_⟩
      · rcases hw1 with rfl | rfl <;> rfl
      · rcases hw1 with rfl | rfl <;> rfl
      · rcases hw1 with rfl | rfl <;> rfl
      · simp only [setBlock, hw1h]
        rw [Array.getElem?_setIfInBounds_ne (fun e1 => hj (by rw [e1]))]
    · rw [← hk]
      exact run_entry_at _ r b since seen es clock e hrs hbs hm.1 h5
theorem IterAt.start {w : World} {b : Nat} {l : PaneL} (h : MapAt w b l) :
    ∃ w', (Instr.range 158 (.map (some b))).run Tryz.prog w = .ok (.pointer (some ⟨w.heap.size, 0, none⟩)) w' ∧ IterAt w' b w.heap.size l [] ∧ w.grownBy w' none ∧ w'.heap.size = w.heap.size + 1 := by
  obtain ⟨es, clock, h1, h2, h3, h4⟩ := h
  refine ⟨_, run_range_map w 158 189 210 b es clock map_under h1, ⟨es, clock, clock, #[], clock, ?_, heap_alloc_new w _, h4, ⟨Nat.le_refl _, Nat.le_refl _⟩, h3, h2, rfl, ?_⟩, ⟨rfl, rfl, rfl, by simp, fun k hk _ => Below.heap_alloc _ _ k hk⟩, by simp⟩
  · exact (Below.heap_alloc _ _ b (Array.getElem?_eq_some_iff.1 h1).1).trans h1
  · have h5 : leftOf es #[] = es := by simp [leftOf]
    rw [h5]
    have h6 := congrArg (List.map (·.1)) h2
    simp only [List.map_map, Function.comp_def, entV] at h6
    simp only [List.map_nil, List.nil_append]
    rw [h6]
theorem wpListIn_range_it {F : Fence} {n : Nat} {ops : Array Oper} {rest : List Oper} {o : Oper} {a : Act} {Q : Exit → Act → World → Prop} {w : World} (hg : o.guard = none) (m : Operand) (hop : o.op = Op.range 158 m) (b : Nat) (l : PaneL)
    (hm : a.eval m = .map (some b)) (h : MapAt w b l)
    (hK : ∀ w', IterAt w' b w.heap.size l [] → w.grownBy w' none → w'.heap.size = w.heap.size + 1 → wpListIn F n Tryz.prog ops Q rest (a.put o.dst (.pointer (some ⟨w.heap.size, 0, none⟩))) w') :
    wpListIn F n Tryz.prog ops Q (o :: rest) a w := by
  refine wpListIn_plain hg fun K' hK' => ?_
  obtain ⟨w', hr, h1, h2, h3⟩ := IterAt.start h
  unfold Oper.wpIn
  refine ⟨by simp [Oper.about, hop], ?_⟩
  rw [Oper.semAt_plain F _ _ (by rw [hop]; intro c hc'; cases hc')]
  simp [execOp, hop, hm, hr, Result.andThen]
  exact hK' _ _ (hK w' h1 h2 h3)
theorem wpListIn_next_it {F : Fence} {n : Nat} {ops : Array Oper} {rest : List Oper} {o : Oper} {a : Act} {Q : Exit → Act → World → Prop} {w : World} (hg : o.guard = none) (it : Operand) (hop : o.op = Op.next it false) (b r : Nat) (l : PaneL) (ss : List (Int × Int))
    (hit : a.eval it = .pointer (some ⟨r, 0, none⟩)) (h : IterAt w b r l ss)
    (hDone : ss.Perm (l.map (·.1)) → wpListIn F n Tryz.prog ops Q rest (a.put o.dst (.tuple #[.bool false])) w)
    (hMore : ∀ (k1 k2 : Int) (v : Value) (w' : World), IterAt w' b r l (ss ++ [(k1, k2)]) → ss.length < l.length → w.grownBy w' (some r) → (Instr.entry (.pointer (some ⟨r, 0, none⟩))).run Tryz.prog w' = .ok (.tuple #[.agg #[.int .i64 k1, .int .i64 k2], v]) w' →
      wpListIn F n Tryz.prog ops Q rest (a.put o.dst (.tuple #[.bool true, .agg #[.int .i64 k1, .int .i64 k2], v])) w') :
    wpListIn F n Tryz.prog ops Q (o :: rest) a w := by
  refine wpListIn_plain hg fun K' hK' => ?_
  unfold Oper.wpIn
  refine ⟨by simp [Oper.about, hop], ?_⟩
  rw [Oper.semAt_plain F _ _ (by rw [hop]; intro c hc'; cases hc')]
  rcases h.next o.type with ⟨h0, hr⟩ | ⟨k, v, w', hr, h1, h2, h3, h4⟩
  · simp [execOp, hop, hit, hr, Result.andThen]
    exact hK' _ _ (hDone h0)
  · simp [execOp, hop, hit, hr, Result.andThen]
    exact hK' _ _ (hMore k.1 k.2 v w' h1 h2 h3 h4)
theorem grownBy_new (w : World) (o : Obj) : w.grownBy (w.alloc o) none := ⟨rfl, rfl, rfl, by simp, fun k hk _ => Below.heap_alloc _ _ k hk⟩
set_option maxRecDepth 100000 in
set_option maxHeartbeats 1000000 in
theorem keysN_in (F : Fence) (n : Nat) (h10 : F.fn 126) (hro : F.round = none) (hn : 1 ≤ n) (ll Bm b : Nat) (l : PaneL) (J : List (Int × Int) → World → Prop)
    (hY : ∀ pre x W, J pre W → pre.length < l.length → YieldAt F (n - 1) Tryz.prog ll #[keyV x] W fun e W' => e = .returned (.bool true) ∧ J (pre ++ [x]) W' ∧ KeepsWalks W W')
    (W : World) (hJ : AbidesFrom W.heap.size J) (hm : W.cell? ⟨Bm, 0, none⟩ = some (.map (some b))) (hown : MapAt W b l) (h0 : J [] W) :
    CallsIn F n Tryz.prog 126 #[.func (.yield ll) #[] #[], .pointer (some ⟨Bm, 0, none⟩)] W fun e W' => (∃ v, e = .returned v) ∧ ∃ ss : List (Int × Int), ss.Perm (l.map (·.1)) ∧ J ss W' := by
  refine callsIn_of_wp Tryz.func126 rfl h10 ?_ hro
  simp only [Tryz.ntmps126, List.size_toArray, List.length_cons, List.length_nil, Nat.reduceAdd, Nat.reduceSub, Array.replicate_succ, Array.replicate_zero, List.push_toArray, List.append_toArray, List.nil_append, List.cons_append]
  gi_wp2_with (first
    | (gi_at_range; refine wpListIn_range_it rfl _ rfl b l rfl hown ?_; intro w0 hrg0 hg0 hs0)
    | gi_in)
  go_frame
  gi_loopw [3] (fun _ wr => ∃ (ss : List (Int × Int)), IterAt wr b W.heap.size l ss ∧ J ss wr)
    (fun _ wr => l.length - (wr.iterSeen W.heap.size).size)
  case atStart =>
    exact ⟨[], hrg0, hJ [] W w0 none h0 hg0 (fun r e => by cases e)⟩
  case round =>
    obtain ⟨ss, hrg, hJs⟩ := hrel
    gi_wp2_with (first
      | (gi_at_next; refine wpListIn_next_it rfl _ rfl b W.heap.size l ss rfl hrg ?_ ?_)
      | gi_in)
    · intro hp
      gi_wp2
      go_end0
      exact ⟨⟨_, rfl⟩, ss, hp, hJs⟩
    · intro k1 k2 v w2 hrg2 hlt hg2 hen
      have hJ2 : J ss w2 := hJ ss wr w2 (some W.heap.size) hJs hg2 (fun r e => by
        cases e
        obtain ⟨es, clock, since, seen, c0, _, h2, _⟩ := hrg
        exact ⟨Nat.le_refl _, _, h2, rfl⟩)
      have hJ3 : J ss (w2.alloc (.cells #[.int .i64 k1, .int .i64 k2] 189)) := hJ ss w2 _ none hJ2 (grownBy_new _ _) (fun r e => by cases e)
      obtain ⟨fn, tmps, assign, body, hy, hR⟩ := hY ss (k1, k2) _ hJ3 hlt
      replace hy : (Instr.yield ll #[.agg #[.int .i64 k1, .int .i64 k2]]).run Tryz.prog _ = _ := hy
      gi_wp2
      refine hR.mono ?_
      rintro e W3 ⟨rfl, hJ4, hk3⟩
      gi_wp2
      have hrg3 := (hrg2.of_walks (KeepsWalks.alloc _ _)).of_walks hk3
      go_roundw
      case rel => exact ⟨ss ++ [(k1, k2)], hrg3, hJ4⟩
      case measure =>
        have e1 := hrg3.len
        have e2 := hrg.len
        rw [e1, e2]
        simp
        omega
theorem keys_gives (F : Fence) (n : Nat) (h10 : F.fn 126) (hro : F.round = none) (hn : 1 ≤ n) (Bm b : Nat) (l : PaneL) (w : World) (hBm : Bm < w.heap.size)
    (hm : w.cell? ⟨Bm, 0, none⟩ = some (.map (some b))) (hown : MapAt w b l) :
    SeqGives F n Tryz.prog 126 #[.pointer (some ⟨Bm, 0, none⟩)] keyV (fun ss => ss.Perm (l.map (·.1))) l.length w := fun ll J W hW hJ hY h0 =>
  keysN_in F n h10 hro hn ll Bm b l J hY W hJ ((hW.cell (p := ⟨Bm, 0, none⟩) hBm).trans hm) (hown.below hW) h0
def apAssign : Code := (Code.region 2
                    #[{ dst := some 5, op := Op.alloc 189, type := 0, pos := "iter.go:51", after := #[],
                        guard := none },
                      { dst := none, op := Op.store 189 (Operand.tmp 5) (Operand.tmp 7), type := 0,
                        pos := "iter.go:51",
                        after := #[{ on := 0, ground := Ground.data }, { on := 0, ground := Ground.phase }],
                        guard := none }]
                    false)
def apBody : Code := (Code.block 1
                    (Code.region 3
                      #[{ dst := some 8, op := Op.load 186 (Operand.tmp 2), type := 186, pos := "iter.go:52",
                          after := #[], guard := none },
                        { dst := some 9, op := Op.load 189 (Operand.tmp 5), type := 189, pos := "iter.go:52",
                          after := #[], guard := none },
                        { dst := some 10, op := Op.buildSlice 186 1 #[(0, Operand.tmp 9)], type := 186,
                          pos := "iter.go:52", after := #[{ on := 1, ground := Ground.data }], guard := none },
                        { dst := some 11,
                          op :=
                            Op.call
                              { callee := Callee.builtin Builtin.append,
                                args := #[Operand.tmp 8, Operand.tmp 10], argTypes := #[186, 186] },
                          type := 186, pos := "iter.go:52",
                          after := #[{ on := 0, ground := Ground.data }, { on := 2, ground := Ground.data }],
                          guard := none },
                        { dst := none, op := Op.store 186 (Operand.tmp 2) (Operand.tmp 11), type := 0,
                          pos := "iter.go:52",
                          after :=
                            #[{ on := 3, ground := Ground.data }, { on := 3, ground := Ground.chain },
                              { on := 0, ground := Ground.phase }, { on := 1, ground := Ground.phase },
                              { on := 2, ground := Ground.phase }, { on := 3, ground := Ground.phase }],
                          guard := none }]
                      false))
def apRec (fn : FuncId) (sv : Value) (Bs D : Nat) (st : LoopState) (pend : Option Code) : Loop :=
  { state := st, pending := pend, fn, tmps := #[.slice none 0 0, sv, .pointer (some ⟨Bs, 0, none⟩), undef, .slice none 0 0, undef, sv, undef, undef, undef, undef, undef, undef], params := #[7], assign := apAssign, body := apBody, defers := D }

structure ApAt (w0 : World) (fn : FuncId) (sv : Value) (Bs l D : Nat) (ss : List (Int × Int)) (W : World) : Prop where
  box : ∃ v, W.heap[Bs]? = some (.cells #[v] 186 (0, 0)) ∧ W.ownsRow w0.heap.size 189 2 v ss.length (ss.flatMap keyCs) ∧ (v = .slice none 0 0 ↔ ss = [])
  L : W.heap[l]? = some (.loop (apRec fn sv Bs D .ready none))
  K : W.heap[D]? = some (.deferred (some []))
  below : Below w0.heap.size w0 W

theorem ownsRow_abides {W W' : World} {row : Option Nat} {base : Nat} {e : TypeId} {size : Nat} {v : Value} {k : Nat} {xs : List Value} (h : W.ownsRow base e size v k xs) (hg : W.grownBy W' row)
    (hrow : ∀ r, row = some r → ∃ o : Obj, W.heap[r]? = some o ∧ o.isWalk = true) : W'.ownsRow base e size v k xs := by
  refine h.kept hg ?_
  rcases h.2 with ⟨rfl, _⟩ | ⟨g, cap, cur, rfl, _, hgb, _⟩
  · exact .inl rfl
  · refine .inr fun e' => ?_
    obtain ⟨o, ho, hw⟩ := hrow g (by simpa [Value.ownBlock] using e'.symm)
    rw [hgb] at ho; cases ho; cases hw

theorem ap_abides (w0 : World) (fn : FuncId) (sv : Value) (Bs l D B : Nat) (hB : w0.heap.size ≤ B) : AbidesFrom B (ApAt w0 fn sv Bs l D) := fun s W W' row h hg hrow => by
  have hrow' : ∀ r, row = some r → ∃ o : Obj, W.heap[r]? = some o ∧ o.isWalk = true := fun r e => (hrow r e).2
  obtain ⟨v, hv, hr, hn⟩ := h.box
  exact ⟨⟨v, (grownBy_keeps hg hrow' hv rfl).trans hv, ownsRow_abides hr hg hrow', hn⟩, (grownBy_keeps hg hrow' h.L rfl).trans h.L, (grownBy_keeps hg hrow' h.K rfl).trans h.K,
    h.below.grown hg h.below.size (fun k e => Nat.le_trans hB (hrow k e).1)⟩

theorem grownBy_putObj (W : World) (l : Nat) (o : Obj) : W.grownBy (W.putObj l o) (some l) :=
  ⟨rfl, rfl, rfl, by simp, fun k _ hk => World.putObj_heap_other (fun e => hk (by rw [e]))⟩
theorem grownBy_setCell0 (W : World) (b : Nat) (v : Value) : W.grownBy (W.setCell ⟨b, 0, none⟩ v) (some b) :=
  ⟨rfl, rfl, rfl, (KeepsWalks.setCell W _ v).size, fun k _ hk => Below.heap_setCell _ _ _ k (fun e => hk (by rw [e]))⟩
theorem ownsRow_ne {W : World} {base : Nat} {e : TypeId} {size : Nat} {v : Value} {k : Nat} {xs : List Value} (h : W.ownsRow base e size v k xs) {j : Nat} {o : Obj} (hj : W.heap[j]? = some o) (hno : ∀ cur, o ≠ .cells cur e (0, 0)) :
    v.ownBlock = none ∨ v.ownBlock ≠ some j := by
  rcases h.2 with ⟨rfl, _⟩ | ⟨g, cap, cur, rfl, _, hgb, _⟩
  · exact .inl rfl
  · refine .inr fun e' => ?_
    have : g = j := by simpa [Value.ownBlock] using e'
    subst this; rw [hgb] at hj; cases hj; exact hno cur rfl
theorem cell_of_box {W : World} {B : Nat} {v : Value} {t : TypeId} (h : W.heap[B]? = some (.cells #[v] t (0, 0))) : W.cell? ⟨B, 0, none⟩ = some v ∧ W.frozen? ⟨B, 0, none⟩ = false := by
  constructor <;> simp [World.cell?, World.frozen?, h]

theorem heap_setCell_box {W : World} {B : Nat} {v : Value} {t : TypeId} (v' : Value) (h : W.heap[B]? = some (.cells #[v] t (0, 0))) : (W.setCell ⟨B, 0, none⟩ v').heap[B]? = some (.cells #[v'] t (0, 0)) := by
  obtain ⟨hlt, hk⟩ := Array.getElem?_eq_some_iff.1 h
  show (W.heap.modify B _)[B]? = _
  rw [Array.getElem?_eq_getElem (by rw [Array.size_modify]; exact hlt), Array.getElem_modify_self, hk]
  rfl
theorem ownsRow_not_walk {W : World} {base : Nat} {e : TypeId} {size : Nat} {v : Value} {k : Nat} {xs : List Value} (h : W.ownsRow base e size v k xs) : ∀ (j : Nat) (o : Obj), v.ownBlock = some j → W.heap[j]? = some o → o.isWalk = false := by
  intro j o hj ho
  rcases h.2 with ⟨rfl, _⟩ | ⟨g, cap, cur, rfl, _, hgb, _⟩
  · simp [Value.ownBlock] at hj
  · have : g = j := by simpa [Value.ownBlock] using hj
    subst this; rw [hgb] at ho; cases ho; rfl

theorem info189 : (Tryz.prog.info? 189).map (fun i => (i.zero, i.size, i.bytes)) = some (some (.agg #[.int .i64 0, .int .i64 0]), 2, 16) := by kernel_rfl

set_option maxRecDepth 100000 in
set_option maxHeartbeats 2000000 in
theorem apYield (F : Fence) (m : Nat) (w0 : World) (fn : FuncId) (hfn : F.fn fn) (sv : Value) (Bs l D : Nat) (hBl : Bs ≠ l) (hDl : D ≠ l) (hDB : D ≠ Bs) (h0B : w0.heap.size ≤ Bs) (h0l : w0.heap.size ≤ l)
    (N : Nat) (hN : N ≤ maxLen) (hNb : N * 16 ≤ 140737488355328) (ss : List (Int × Int)) (x : Int × Int) (W : World) (h : ApAt w0 fn sv Bs l D ss W) (hlen : ss.length < N) :
    YieldAt F m Tryz.prog l #[keyV x] W fun e W' => e = .returned (.bool true) ∧ ApAt w0 fn sv Bs l D (ss ++ [x]) W' ∧ KeepsWalks W W' := by
  obtain ⟨i0, hi, hz0, hz1, hz2⟩ := info_parts info189
  obtain ⟨v, hv, hrow, _⟩ := h.box
  refine ⟨fn, #[.slice none 0 0, sv, .pointer (some ⟨Bs, 0, none⟩), undef, .slice none 0 0, undef, sv, keyV x, undef, undef, undef, undef, undef], apAssign, apBody, by simpa [apRec] using run_yield (P := Tryz.prog) (args := #[keyV x]) h.L rfl, roundIn_of_wpIn hfn ?_⟩
  have hl : l < W.heap.size := (Array.getElem?_eq_some_iff.1 h.L).1
  obtain ⟨x1, x2⟩ := x
  unfold keyV
  unfold apAssign
  gi_wp2_with (rw [Oper.semAt_eq _ _ _ (fun c h => by cases h)]; go_simp; try go_bits)
  obtain ⟨W1, hW1⟩ : ∃ W1, W.alloc (.cells #[.int .i64 x1, .int .i64 x2] 189) = W1 := ⟨_, rfl⟩
  rw [hW1]
  have hold1 : ∀ k, k < W.heap.size → W1.heap[k]? = W.heap[k]? := fun k hk => by rw [← hW1]; exact Below.heap_alloc _ _ k hk
  have hBlt0 : Bs < W.heap.size := (Array.getElem?_eq_some_iff.1 hv).1
  have hDlt0 : D < W.heap.size := (Array.getElem?_eq_some_iff.1 h.K).1
  have hv1 := (hold1 _ hBlt0).trans hv
  have hK1 := (hold1 _ hDlt0).trans h.K
  have hL1 := (hold1 _ hl).trans h.L
  have hl1 : l < W1.heap.size := (Array.getElem?_eq_some_iff.1 hL1).1
  have hrow1 : W1.ownsRow w0.heap.size 189 2 v ss.length (ss.flatMap keyCs) := by rw [← hW1]; exact hrow.alloc _
  have hb1 : Below w0.heap.size w0 W1 := by rw [← hW1]; exact h.below.alloc h.below.size _
  have hk1 : KeepsWalks W W1 := by rw [← hW1]; exact KeepsWalks.alloc _ _
  have hx11 : W1.heap[W.heap.size]? = some (.cells #[.int .i64 x1, .int .i64 x2] 189 (0, 0)) := by rw [← hW1]; exact heap_alloc_new _ _
  have hbr := run_beginRound (P := Tryz.prog) hL1 rfl
  obtain ⟨W5, hW5⟩ : ∃ W5, W1.putObj l (.loop { apRec fn sv Bs D .ready none with state := .busy }) = W5 := ⟨_, rfl⟩
  rw [hW5] at hbr
  have hg5 : W1.grownBy W5 (some l) := by rw [← hW5]; exact grownBy_putObj _ _ _
  have hk5 : KeepsWalks W W5 := by rw [← hW5]; exact hk1.trans (KeepsWalks.putObj _ hL1 rfl)
  have hv5 : W5.heap[Bs]? = some (.cells #[v] 186 (0, 0)) := by rw [← hW5]; exact (World.putObj_heap_other hBl).trans hv1
  have hK5 : W5.heap[D]? = some (.deferred (some [])) := by rw [← hW5]; exact (World.putObj_heap_other hDl).trans hK1
  have hL5 : W5.heap[l]? = some (.loop { apRec fn sv Bs D .ready none with state := .busy }) := by rw [← hW5]; exact World.putObj_heap_same hl1
  have hx5 : W5.heap[W.heap.size]? = some (.cells #[.int .i64 x1, .int .i64 x2] 189 (0, 0)) := by rw [← hW5]; exact (World.putObj_heap_other (by omega)).trans hx11
  have hrow5 : W5.ownsRow w0.heap.size 189 2 v ss.length (ss.flatMap keyCs) := hrow1.kept hg5 (ownsRow_ne hrow1 hL1 (fun cur e => by cases e))
  have hb5 : Below w0.heap.size w0 W5 := hb1.grown hg5 hb1.size (fun k e => by cases e; exact h0l)
  obtain ⟨hc5, hf5⟩ := cell_of_box hv5
  have hx51 : W5.cell? ⟨W.heap.size, 0, none⟩ = some (.int .i64 x1) := by simp [World.cell?, hx5]
  have hx52 : W5.cell? ⟨W.heap.size, 1, none⟩ = some (.int .i64 x2) := by simp [World.cell?, hx5]
  have hBlt5 : Bs < W5.heap.size := (Array.getElem?_eq_some_iff.1 hv5).1
  have hl5 : l < W5.heap.size := (Array.getElem?_eq_some_iff.1 hL5).1
  have hDlt5 : D < W5.heap.size := (Array.getElem?_eq_some_iff.1 hK5).1
  have ne_of : ∀ {j : Nat} {o : Obj}, W5.heap[j]? = some o → (∀ cur, o ≠ .cells cur 189 (0, 0)) → some j ≠ v.ownBlock := fun hj hno => by
    rcases ownsRow_ne hrow5 hj hno with e | e
    · rw [e]; simp
    · exact fun e' => e e'.symm
  clear hW5 hW1
  refine ⟨_, hbr, ?_⟩
  unfold apBody
  gi_wp2_with (first
    | (gi_at_builtin; refine wpListIn_append_own _ rfl _ _ 186 rfl w0.heap.size 189 i0 (.agg #[.int .i64 0, .int .i64 0]) 2 16 Tryz.underlying186 hi hz0 hz1 hz2 rfl (by decide) _ _ _ rfl (hrow5.alloc _) ⟨W5.heap.size, 0, none⟩ 1 1 [.int .i64 x1, .int .i64 x2] rfl rfl (row_cells _ _ _) (by simp [Value.oneCell']) (by omega) (by omega) (by have := hb5.size; simp; omega) ?_; intro v' w3 hown' hg3 hnil3
       have hv3 : w3.heap[Bs]? = some (.cells #[v] 186 (0, 0)) := (hg3.block Bs (by simp; omega) (ne_of hv5 (fun cur e => by cases e))).trans ((Below.heap_alloc _ _ Bs hBlt5).trans hv5)
       obtain ⟨hc3, hf3⟩ := cell_of_box hv3
       obtain ⟨g', cap', cur', rfl, hbase', hgb', hr1, hr2, hr3, hr4⟩ : ∃ g' cap' cur', v' = .slice (some ⟨g', 0, none⟩) (ss.length + 1) cap' ∧ w0.heap.size ≤ g' ∧ w3.heap[g']? = some (.cells cur' 189 (0, 0)) ∧ ss.length + 1 ≤ cap' ∧ cap' ≤ maxLen ∧ cur'.size = cap' * 2 ∧ cur'.toList.take ((ss.length + 1) * 2) = ss.flatMap keyCs ++ [.int .i64 x1, .int .i64 x2] := by
         rcases hown'.2 with ⟨_, h0⟩ | h'
         · exact absurd h0 (by omega)
         · exact h'
       go_frame)
    | (rw [Oper.semAt_eq _ _ _ (fun c h => by cases h)]; go_simp; try go_bits))
  have hg3' : (W5.alloc (.cells #[.int .i64 x1, .int .i64 x2] 189)).grownBy w3 v.ownBlock := hg3
  have hL3 : w3.heap[l]? = some (.loop { apRec fn sv Bs D .ready none with state := .busy }) := (hg3'.block l (by simp; omega) (ne_of hL5 (fun cur e => by cases e))).trans ((Below.heap_alloc _ _ l hl5).trans hL5)
  have hK3 : w3.heap[D]? = some (.deferred (some [])) := (hg3'.block D (by simp; omega) (ne_of hK5 (fun cur e => by cases e))).trans ((Below.heap_alloc _ _ D hDlt5).trans hK5)
  obtain ⟨w4, hw4⟩ : ∃ w4, w3.setCell ⟨Bs, 0, none⟩ (.slice (some ⟨g', 0, none⟩) (ss.length + 1) cap') = w4 := ⟨_, rfl⟩
  rw [hw4]
  have hg4 : w3.grownBy w4 (some Bs) := by rw [← hw4]; exact grownBy_setCell0 _ _ _
  have hv4 : w4.heap[Bs]? = some (.cells #[.slice (some ⟨g', 0, none⟩) (ss.length + 1) cap'] 186 (0, 0)) := by rw [← hw4]; exact heap_setCell_box _ hv3
  have hL4 : w4.heap[l]? = some (.loop { apRec fn sv Bs D .ready none with state := .busy }) := (hg4.block l (Array.getElem?_eq_some_iff.1 hL3).1 (fun e => hBl (by cases e; rfl))).trans hL3
  have hK4 : w4.heap[D]? = some (.deferred (some [])) := (hg4.block D (Array.getElem?_eq_some_iff.1 hK3).1 (fun e => hDB (by cases e; rfl))).trans hK3
  have hrow4 := hown'.kept hg4 (ownsRow_ne hown' hv3 (fun cur e => by cases e))
  have hl4 : l < w4.heap.size := (Array.getElem?_eq_some_iff.1 hL4).1
  have hb3 : Below w0.heap.size w0 w3 := (hb5.alloc hb5.size _).grown hg3' (by have := hb5.size; simp; omega) (fun k e => (hrow5.lt k e).1)
  have hb4 : Below w0.heap.size w0 w4 := hb3.grown hg4 hb3.size (fun k e => by cases e; exact h0B)
  have hk4 : KeepsWalks W w4 := ((hk5.trans (KeepsWalks.alloc _ _)).trans (KeepsWalks.of_grownBy hg3' (ownsRow_not_walk (hrow5.alloc _)))).trans (by rw [← hw4]; exact KeepsWalks.setCell _ _ _)
  clear hw4
  refine ⟨_, _, run_endRound none hL4, rfl, ⟨⟨_, (World.putObj_heap_other hBl).trans hv4, ?_, by simp⟩, World.putObj_heap_same hl4, (World.putObj_heap_other hDl).trans hK4, hb4.grown (grownBy_putObj _ _ _) hb4.size (fun k e => by cases e; exact h0l)⟩, hk4.trans (KeepsWalks.putObj _ hL4 rfl)⟩
  have := hrow4.kept (grownBy_putObj w4 l (.loop { { apRec fn sv Bs D .ready none with state := .busy } with state := if (none : Option Code).isNone then .ready else .done, pending := none })) (ownsRow_ne hrow4 hL4 (fun cur e => by cases e))
  simpa [keyCs] using this


set_option maxRecDepth 100000 in
set_option maxHeartbeats 2000000 in
theorem appendSeq_in (F : Fence) (n : Nat) (h11 : F.fn 129) (hro : F.round = none) (hn : 2 ≤ n) (g : Nat) (lb : Array Value) (hFg : F.fn g) (eg : ∀ args w, (callFunc g args).run Tryz.prog w = .ok (.enter g args) w)
    (S : List (Int × Int) → Prop) (N : Nat) (hN : N ≤ maxLen) (hNb : N * 16 ≤ 140737488355328) (w : World) (hseq : SeqGives F (n - 1) Tryz.prog g lb keyV S N w) :
    CallsIn F n Tryz.prog 129 #[.slice none 0 0, .func (.func g) #[] lb] w fun e w' => ∃ (v : Value) (ss : List (Int × Int)), e = .returned v ∧ S ss ∧ w'.ownsRow w.heap.size 189 2 v ss.length (ss.flatMap keyCs) ∧ (v = .slice none 0 0 ↔ ss = []) ∧ Below w.heap.size w w' := by
  have h1 : 1 ≤ n := by omega
  refine callsIn_of_wp_marks Tryz.func129 rfl h11 ?_ hro
  simp only [Tryz.ntmps129, List.size_toArray, List.length_cons, List.length_nil, Nat.reduceAdd, Nat.reduceSub, Array.replicate_succ, Array.replicate_zero, List.push_toArray, List.append_toArray, List.nil_append, List.cons_append]
  gi_wp2
  refine wpIn_rangeFunc ?_
  intro fn hfn
  rw [hro]
  obtain ⟨W0, hW0⟩ : ∃ W0, w.alloc (.cells #[.slice none 0 0] 186) = W0 := ⟨_, rfl⟩
  have hs0 : W0.heap.size = w.heap.size + 1 := by rw [← hW0]; simp
  have hv0 : W0.heap[w.heap.size]? = some (.cells #[.slice none 0 0] 186 (0, 0)) := by rw [← hW0]; exact World.alloc_heap_new w _
  have hb0 : Below w.heap.size w W0 := by rw [← hW0]; exact (Below.refl _ w).alloc (Nat.le_refl _) _
  rw [hW0]
  obtain ⟨W1, hW1⟩ : ∃ W1, (W0.alloc (.deferred (some []))).alloc (.loop (apRec fn (.func (.func g) #[] lb) w.heap.size W0.heap.size .ready none)) = W1 := ⟨_, rfl⟩
  have hold : ∀ k, k < W0.heap.size → W1.heap[k]? = W0.heap[k]? := fun k hk => by
    rw [← hW1]; exact (Below.heap_alloc _ _ k (by simp; omega)).trans (Below.heap_alloc _ _ k hk)
  have hb1 : Below w.heap.size w W1 := by rw [← hW1]; exact (hb0.alloc hb0.size _).alloc (by have := hb0.size; simp; omega) _
  have hs1 : W1.heap.size = W0.heap.size + 2 := by rw [← hW1]; simp
  have hM : ApAt w fn (.func (.func g) #[] lb) w.heap.size (W0.heap.size + 1) W0.heap.size [] W1 :=
    ⟨⟨_, (hold w.heap.size (by omega)).trans hv0, ⟨rfl, .inl ⟨rfl, rfl⟩⟩, by simp⟩,
     by rw [← hW1]; have := World.alloc_heap_new (W0.alloc (.deferred (some []))) (.loop (apRec fn (.func (.func g) #[] lb) w.heap.size W0.heap.size .ready none)); rwa [World.size_alloc] at this,
     by rw [← hW1]; exact (Below.heap_alloc _ _ _ (by simp)).trans (World.alloc_heap_new W0 _), hb1⟩
  refine ⟨W0.heap.size + 1, [{ target := .collected W0.heap.size, args := #[] }], W1, { target := .fn (.func g) lb, args := #[.func (.yield (W0.heap.size + 1)) #[] #[]] }, W1, g,
    #[.func (.yield (W0.heap.size + 1)) #[] #[]] ++ lb, W1, ?_, ?_, ?_, ?_, fun _ => h1, ?_⟩
  · rw [← hW1]; exact run_enterLoop_outer _ _ _ _ _
  · simp [resolve, go_sem]
  · intro f' hf'; simp [Target.leads] at hf'; subst hf'; exact hFg
  · simp [invoke, go_sem, eg]
  · refine (hseq (W0.heap.size + 1) (ApAt w fn (.func (.func g) #[] lb) w.heap.size (W0.heap.size + 1) W0.heap.size) W1 hb1 (ap_abides _ _ _ _ _ _ _ hb1.size)
      (fun pre x W hJ hl => apYield F (n - 1 - 1) w fn hfn _ w.heap.size (W0.heap.size + 1) W0.heap.size (by omega) (by omega) (by omega) (Nat.le_refl _) (by omega) N hN hNb pre x W hJ hl) hM).mono ?_
    rintro e W2 ⟨⟨v0, rfl⟩, ss, hS, h2⟩
    obtain ⟨v, hv, hrow, hnil⟩ := h2.box
    have hend := run_endLoop (P := Tryz.prog) h2.L (by simp [apRec])
    obtain ⟨W3, hW3⟩ : ∃ W3, W2.putObj (W0.heap.size + 1) (.loop { apRec fn (.func (.func g) #[] lb) w.heap.size W0.heap.size .ready none with state := .exhausted }) = W3 := ⟨_, rfl⟩
    rw [hW3] at hend
    have hg3 : W2.grownBy W3 (some (W0.heap.size + 1)) := by rw [← hW3]; exact grownBy_putObj _ _ _
    have hv3 : W3.heap[w.heap.size]? = some (.cells #[v] 186 (0, 0)) := by rw [← hW3]; exact (World.putObj_heap_other (by omega)).trans hv
    have hK3 : W3.heap[W0.heap.size]? = some (.deferred (some [])) := by rw [← hW3]; exact (World.putObj_heap_other (by omega)).trans h2.K
    have hrow3 := hrow.kept hg3 (ownsRow_ne hrow h2.L (fun cur e => by cases e))
    have hb3 : Below w.heap.size w W3 := h2.below.grown hg3 h2.below.size (fun k e => by cases e; omega)
    obtain ⟨hc3, hf3⟩ := cell_of_box hv3
    clear hW3
    refine ⟨none, W3, hend, ?_⟩
    gi_wp2
    rw [← hs0]
    refine ⟨by simp, .inl ⟨_, _, rfl, run_takeDeferred hK3, ?_⟩⟩
    exact ⟨_, results_tmp rfl _ _ _, v, ss, rfl, hS, hrow3.kept (grownBy_putObj _ _ _) (ownsRow_ne hrow3 hK3 (fun cur e => by cases e)), hnil, hb3.grown (grownBy_putObj _ _ _) hb3.size (fun k e => by cases e; omega)⟩


set_option maxHeartbeats 1000000 in
theorem collect_in (F : Fence) (n : Nat) (h8 : F.fn 124) (h11 : F.fn 129) (hro : F.round = none) (hn : 3 ≤ n) (g : Nat) (lb : Array Value) (hFg : F.fn g) (eg : ∀ args w, (callFunc g args).run Tryz.prog w = .ok (.enter g args) w)
    (S : List (Int × Int) → Prop) (N : Nat) (hN : N ≤ maxLen) (hNb : N * 16 ≤ 140737488355328) (w : World) (hseq : SeqGives F (n - 1 - 1) Tryz.prog g lb keyV S N w) :
    CallsIn F n Tryz.prog 124 #[.func (.func g) #[] lb] w fun e w' => ∃ (v : Value) (ss : List (Int × Int)), e = .returned v ∧ S ss ∧ w'.ownsRow w.heap.size 189 2 v ss.length (ss.flatMap keyCs) ∧ (v = .slice none 0 0 ↔ ss = []) ∧ Below w.heap.size w w' := by
  have h1 : 1 ≤ n := by omega
  refine callsIn_of_wp Tryz.func124 rfl h8 ?_ hro
  simp only [Tryz.ntmps124, List.size_toArray, List.length_cons, List.length_nil, Nat.reduceAdd, Nat.reduceSub, Array.replicate_succ, Array.replicate_zero, List.push_toArray, List.append_toArray, List.nil_append, List.cons_append]
  gi_wp2_with (gi_at_call 129; refine (appendSeq_in F (n - 1) h11 hro (by omega) g lb hFg eg S N hN hNb _ hseq).mono ?_; rintro e w' ⟨v, ss, rfl, hS, hrow, hnil, hb⟩)
  go_ret
  exact ⟨v, ss, rfl, hS, hrow, hnil, hb⟩

end Go.Proofs.YtcanfmabkklidaaGreat
set_option linter.unusedSimpArgs false
set_option linter.unusedVariables false
set_option linter.unnecessarySimpa false
namespace Go.Proofs.YtcanfmabkklidaaGreat
open Go.RowKit

theorem keys_any (mb : Option Nat) (w : World) :
    Calls Tryz.prog 116 #[.map mb] w fun e w' => e = .returned (.func (.func 126) #[] #[.pointer (some ⟨w.heap.size, 0, none⟩)]) ∧ w' = w.alloc (.cells #[.map mb] 158) := by
  go_enter Tryz.func116, Tryz.ntmps116
  go_wp2
  go_ret
  exact ⟨rfl, rfl⟩
theorem collect_any (Bm b : Nat) (l : PaneL) (w : World) (hBm : Bm < w.heap.size) (hm : w.cell? ⟨Bm, 0, none⟩ = some (.map (some b))) (hown : MapAt w b l) (hl : l.length ≤ 1000000) :
    Calls Tryz.prog 124 #[.func (.func 126) #[] #[.pointer (some ⟨Bm, 0, none⟩)]] w fun e w' => ∃ (v : Value) (ss : List (Int × Int)), e = .returned v ∧ ss.Perm (l.map (·.1)) ∧ w'.ownsRow w.heap.size 189 2 v ss.length (ss.flatMap keyCs) ∧ (v = .slice none 0 0 ↔ ss = []) ∧ Below w.heap.size w w' :=
  callsIn_wide.1 (collect_in Fence.wide 3 trivial trivial rfl (Nat.le_refl _) 126 _ trivial (enters_of Tryz.func126 (by kernel_rfl) rfl) (fun ss => ss.Perm (l.map (·.1))) l.length (by unfold maxLen; omega) (by omega) w
    (keys_gives Fence.wide _ trivial rfl (Nat.le_refl _) Bm b l w hBm hm hown))
theorem sorted_any (Bm b : Nat) (l : PaneL) (w : World) (hBm : Bm < w.heap.size) (hm : w.cell? ⟨Bm, 0, none⟩ = some (.map (some b))) (hown : MapAt w b l) (hl : l.length ≤ 1000000) :
    Calls Tryz.prog 115 #[.func (.func 126) #[] #[.pointer (some ⟨Bm, 0, none⟩)], .func (.func 117) #[] #[]] w fun e w' => ∃ v, e = .returned v ∧ w'.ownsRow w.heap.size 189 2 v (placesL l).length ((placesL l).flatMap keyCs) ∧ Below w.heap.size w w' := by
  go_enter Tryz.func115, Tryz.ntmps115
  go_wp2_with (go_at_call 124; (with_reducible refine (collect_any Bm b l _ hBm hm hown hl).mono ?_); rintro e w1 ⟨v, ss, rfl, hp, hrow, hnil, hb⟩)
  have hpl : ss.mergeSort leP = placesL l := sorted_merge _ _ ((List.mergeSort_perm ss leP).trans hp) (List.pairwise_mergeSort (fun a b c => leP_trans a b c) (fun a b => leP_total a b) ss)
  have hsl : ss.length = (placesL l).length := by rw [← hpl, List.length_mergeSort]
  by_cases h0 : ss = []
  · have h1 := hnil.2 h0
    subst h0 h1
    go_wp2_with (go_at_call 125; (with_reducible refine (sort0_any _).mono ?_); rintro e w2 ⟨⟨u, rfl⟩, rfl⟩)
    go_ret
    have : placesL l = [] := by rw [← hpl]; simp
    rw [this]
    exact ⟨_, rfl, hrow, hb⟩
  · have h1 : 0 < ss.length := List.length_pos_iff.2 h0
    have h2 : ss.length ≤ 1000000 := by have := hp.length_eq; simp at this; omega
    have H := Lib.hid (sort_any w.heap.size v ss w1 hrow h2 h1)
    clear hnil
    obtain ⟨g, cap, rfl⟩ : ∃ g cap, v = .slice (some ⟨g, 0, none⟩) ss.length cap := by
      rcases hrow.2 with ⟨_, h3⟩ | ⟨g, cap, cur, hv, _⟩
      · omega
      · exact ⟨g, cap, hv⟩
    go_wp2_with (go_at_call 125; (with_reducible refine H.out.mono ?_); rintro e w2 ⟨⟨u, rfl⟩, hr2, hm2⟩)
    go_ret
    rw [← hpl, List.length_mergeSort]
    exact ⟨_, rfl, hr2, hm2.belowB hb hb.size (own_new hrow)⟩
/-- panes: its block -/
def panCs (s d k : Int) (m : Nat) : List Value := [.int .i64 s, .int .i64 d, .int .i64 k, .map (some m)]
theorem places_any (s d k : Int) (b m : Nat) (l : PaneL) (w : World) (h : At w b (panCs s d k m)) (hm : MapAt w m l) (hl : l.length ≤ 1000000) :
    Calls Tryz.prog 95 #[.pointer (some ⟨b, 0, none⟩)] w fun e w' => ∃ v, e = .returned v ∧ w'.ownsRow w.heap.size 189 2 v (placesL l).length ((placesL l).flatMap keyCs) ∧ Below w.heap.size w w' := by
  have hlt := h.lt
  have c3 := h.c 3 _ rfl
  go_enter Tryz.func95, Tryz.ntmps95
  go_wp2_with (first
    | (go_at_call 116; (with_reducible refine (keys_any _ _).mono ?_); rintro e w1 ⟨rfl, rfl⟩)
    | (go_at_call 115; (with_reducible refine (sorted_any w.heap.size m l _ (by simp) (by simp) (hm.alloc _) hl).mono ?_); rintro e w2 ⟨v, rfl, hr, hb⟩))
  go_ret
  refine ⟨v, rfl, ?_, ((Below.refl _ w).alloc (Nat.le_refl _) _).trans (hb.mono (by simp))⟩
  refine ⟨hr.1, ?_⟩
  rcases hr.2 with hn | ⟨g, cap, cur, h1, h2, h3⟩
  · exact .inl hn
  · exact .inr ⟨g, cap, cur, h1, by simp at h2; omega, h3⟩
end Go.Proofs.YtcanfmabkklidaaGreat
