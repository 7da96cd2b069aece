/- ProjectSame: two answers are the same just if all three parts are. -/
import Derived.Test.YtemmekpmoigdeaaAt
import Derived.Test.YtemmekpmoigdeaaOpen
set_option linter.unusedSimpArgs false
set_option linter.unusedVariables false
set_option linter.unnecessarySimpa false
namespace Go.Proofs.Ytemmekpmoigdeaa
open Go.ChangeShapes Go.WideShapes Go.RowKit

theorem IsR.of_fun {α : Type} [Inhabited α] (cs : α → List Value) (k : Nat) (w : World) (a : Option Addr) (len cap b o : Nat) (h1 : len ≤ cap) (h2 : cap ≤ maxLen) (hd : 0 < len → a = some ⟨b, o, none⟩ ∧ b < w.heap.size)
    (h : ∀ i, i < len → ∃ x : α, ∀ j u, (cs x)[j]? = some u → w.cell? ⟨b, o + (i * k + j), none⟩ = some u) : ∃ l : List α, l.length = len ∧ IsR cs k w (.slice a len cap) l := by
  obtain ⟨f, hf⟩ := Go.Deep.choose_lt h
  refine ⟨(List.range len).map f, by simp, a, cap, by simp, by simpa using h1, h2, b, o, by simpa using hd, fun i x hi j u hj => ?_⟩
  have hlt : i < len := by have := (List.getElem?_eq_some_iff.1 hi).1; simpa using this
  obtain rfl : f i = x := by simpa [hlt] using hi
  rw [Nat.add_assoc]
  exact hf i hlt j u hj
theorem IsR.take {α : Type} {cs : α → List Value} {k : Nat} {w : World} {a : Option Addr} {len cap m : Nat} {l : List α} (h : IsR cs k w (.slice a len cap) l) (hm : m ≤ len) : IsR cs k w (.slice a m cap) (l.take m) := by
  obtain ⟨a', c', hv, h1, h2, b, o, hd, hc⟩ := h
  simp only [Value.slice.injEq] at hv
  obtain ⟨rfl, rfl, rfl⟩ := hv
  have hl : (l.take m).length = m := by simp; omega
  refine ⟨a, cap, by rw [hl], by omega, h2, b, o, fun hp => hd (by omega), fun i x hi j u hj => hc i x ?_ j u hj⟩
  rw [List.getElem?_take] at hi
  split at hi
  · exact hi
  · simp at hi
instance : Inhabited RowV := ⟨RowV.none⟩
instance : Inhabited RelV := ⟨RelV.none⟩
theorem rows_of {w : World} {a : Option Addr} {len cap : Nat} (h : Rd Try.prog w 38 [.slice a len cap]) : ∃ l : List RowV, l.length = len ∧ IsR RowV.cs 5 w (.slice a len cap) l := by
  obtain ⟨a', len', cap', hee, h1, h2, b, o, hd, hr⟩ := h.slice Try.underlying38 (show _ = 5 by kernel_rfl) (by omega)
  simp at hee
  obtain ⟨rfl, rfl, rfl⟩ := hee
  have key : ∀ i, i < len → ∃ x : RowV, ∀ j u, x.cs[j]? = some u → w.cell? ⟨b, o + (i * 5 + j), none⟩ = some u := by
    intro i hi
    obtain ⟨es, h3, h4, h5⟩ := hr i hi
    obtain ⟨_, hf⟩ := h3.struct Try.underlying60
    match es, h4 with
    | [e0, e1, e2, e3, e4], _ =>
      obtain ⟨n0, p0, _⟩ := (show Rd Try.prog w 3 [e0] from hf 0 _ rfl).int Try.underlying3
      obtain ⟨n1, p1, _⟩ := (show Rd Try.prog w 3 [e1] from hf 1 _ rfl).int Try.underlying3
      obtain ⟨n2, p2, _⟩ := (show Rd Try.prog w 3 [e2] from hf 2 _ rfl).int Try.underlying3
      obtain ⟨n3, p3, _⟩ := (show Rd Try.prog w 3 [e3] from hf 3 _ rfl).int Try.underlying3
      obtain ⟨n4, p4, _⟩ := (show Rd Try.prog w 25 [e4] from hf 4 _ rfl).int Try.underlying25
      simp only [List.cons.injEq, and_true] at p0 p1 p2 p3 p4
      subst p0 p1 p2 p3 p4
      refine ⟨⟨n0, n1, n2, n3, n4⟩, fun j u hj => ?_⟩
      have hj5 : j < 5 := (List.getElem?_eq_some_iff.1 hj).1
      rw [h5 j hj5]
      exact hj
  refine IsR.of_fun RowV.cs 5 w a len cap b o h1 h2 (fun hp => ⟨hd hp, ?_⟩) key
  obtain ⟨x, hx⟩ := key 0 hp
  exact World.block_lt_of_cell? w _ (hx 0 _ rfl)
theorem rels_of {w : World} {a : Option Addr} {len cap : Nat} (h : Rd Try.prog w 39 [.slice a len cap]) : ∃ l : List RelV, l.length = len ∧ IsR RelV.cs 4 w (.slice a len cap) l := by
  obtain ⟨a', len', cap', hee, h1, h2, b, o, hd, hr⟩ := h.slice Try.underlying39 (show _ = 4 by kernel_rfl) (by omega)
  simp at hee
  obtain ⟨rfl, rfl, rfl⟩ := hee
  have key : ∀ i, i < len → ∃ x : RelV, ∀ j u, x.cs[j]? = some u → w.cell? ⟨b, o + (i * 4 + j), none⟩ = some u := by
    intro i hi
    obtain ⟨es, h3, h4, h5⟩ := hr i hi
    obtain ⟨_, hf⟩ := h3.struct Try.underlying63
    match es, h4 with
    | [e0, e1, e2, e3], _ =>
      obtain ⟨n0, p0, _⟩ := (show Rd Try.prog w 3 [e0] from hf 0 _ rfl).int Try.underlying3
      obtain ⟨n1, p1, _⟩ := (show Rd Try.prog w 3 [e1] from hf 1 _ rfl).int Try.underlying3
      obtain ⟨n2, p2, _⟩ := (show Rd Try.prog w 3 [e2] from hf 2 _ rfl).int Try.underlying3
      obtain ⟨n3, p3⟩ := (show Rd Try.prog w 4 [e3] from hf 3 _ rfl).bool Try.underlying4
      simp only [List.cons.injEq, and_true] at p0 p1 p2 p3
      subst p0 p1 p2 p3
      refine ⟨⟨n0, n1, n2, n3⟩, fun j u hj => ?_⟩
      have hj4 : j < 4 := (List.getElem?_eq_some_iff.1 hj).1
      rw [h5 j hj4]
      exact hj
  refine IsR.of_fun RelV.cs 4 w a len cap b o h1 h2 (fun hp => ⟨hd hp, ?_⟩) key
  obtain ⟨x, hx⟩ := key 0 hp
  exact World.block_lt_of_cell? w _ (hx 0 _ rfl)
theorem addr0 (a : Option Addr) : a.map (fun x => x.add 0) = a := by cases a <;> simp [Addr.add]
theorem slice38 (W : World) (ρ : Operand → Value) (d : Option Tmp) (x hi : Operand) {t : TypeId} {ps : String} {af : Array Edge} {g : Option (Nat × Bool)} (a : Option Addr) (len cap m : Nat) (hx : ρ x = .slice a len cap) (hh : ρ hi = .int .i64 m) (hm : m ≤ cap) :
    (execOp ρ { dst := d, op := .slice 38 x none (some hi) none, type := t, pos := ps, after := af, guard := g }).run Try.prog W = .ok (.value (.slice a m cap)) W := by
  go_simp
  try simp [addr0]
theorem slice39 (W : World) (ρ : Operand → Value) (d : Option Tmp) (x hi : Operand) {t : TypeId} {ps : String} {af : Array Edge} {g : Option (Nat × Bool)} (a : Option Addr) (len cap m : Nat) (hx : ρ x = .slice a len cap) (hh : ρ hi = .int .i64 m) (hm : m ≤ cap) :
    (execOp ρ { dst := d, op := .slice 39 x none (some hi) none, type := t, pos := ps, after := af, guard := g }).run Try.prog W = .ok (.value (.slice a m cap)) W := by
  go_simp
  try simp [addr0]
theorem min4 (W : World) (ρ : Operand → Value) (d : Option Tmp) (x : Operand) {t : TypeId} {ps : String} {af : Array Edge} {g : Option (Nat × Bool)} (n : Nat) (hx : ρ x = .int .i64 n) (h4 : ρ (.const (.int .i64 4)) = .int .i64 4) :
    (execOp ρ { dst := d, op := .call { callee := .builtin .min, args := #[x, .const (.int .i64 4)], argTypes := #[3, 3] }, type := t, pos := ps, after := af, guard := g }).run Try.prog W = .ok (.value (.int .i64 ((min n 4 : Nat) : Int))) W := by
  go_simp
  by_cases h : n < 4
  · simp [h, show min n 4 = n by omega]
    intro _
    omega
  · simp [h, show min n 4 = 4 by omega]
    intro _
    omega
theorem load41 (W : World) (ρ : Operand → Value) (d : Option Tmp) (x : Operand) {t : TypeId} {ps : String} {af : Array Edge} {g : Option (Nat × Bool)} (b o : Nat) (a : AnsV) (hx : ρ x = .pointer (some ⟨b, o, none⟩))
    (h : ∀ j u, a.cs[j]? = some u → W.cell? ⟨b, o + j, none⟩ = some u) : (execOp ρ { dst := d, op := .load 41 x, type := t, pos := ps, after := af, guard := g }).run Try.prog W = .ok (.value a.val) W := by
  obtain ⟨e1, v1, l1, v2, l2⟩ := a
  have c0 := h 0 _ rfl
  have c1 := h 1 _ rfl
  have c2 := h 2 _ rfl
  simp only [Nat.add_zero] at c0 c1 c2
  clear h
  go_simp
  rfl
/-- the same region, its world forgotten but for what Φ tells -/
theorem wp_region_plB {P : Program} {ops : Array Oper} {Q : Exit → Act → World → Prop} {id : Nat} {a : Act} {w : World} (Φ : World → Prop) (hΦ : Φ w) (p : Pl) (l : PlO) (hm : P.follows .mixedOrders = true) (hs : Region.noSelect ops = true)
    (hp : (okM ops 0 p && p.even && p.steps == ops.size) = true) (hl : p.with ops = l) (hQ : ∀ c a d v w, Q (.panic c) (Act.put a d v) w → Q (.panic c) a w)
    (h : ∀ w0, Φ w0 → wpPl P ops Q (fun x => Below w0.heap.size w0 x) l a w0.drew) : (Code.region id ops true).wp P Q a w :=
  wp_region_pl _ p l hm hs hp hl hQ (Below.refl _ w).drew (h w hΦ)
theorem same_comm (X Y : AnsV) : decide (X.same Y) = decide (Y.same X) := by
  unfold AnsV.same
  exact decide_eq_decide.2 ⟨fun h => ⟨h.1.symm, h.2.1.symm, h.2.2.symm⟩, fun h => ⟨h.1.symm, h.2.1.symm, h.2.2.symm⟩⟩


set_option maxRecDepth 100000 in
set_option maxHeartbeats 8000000 in
theorem same_law (W : World) (e : Int) (we : (Lit.int .i64 e).wf = true) (f : Int) (wf : (Lit.int .i64 f).wf = true) (a2 : Option Addr) (len2 cap2 : Nat) (h2 : Rd Try.prog W 38 [.slice a2 len2 cap2]) (a3 : Option Addr) (len3 cap3 : Nat) (h3 : Rd Try.prog W 38 [.slice a3 len3 cap3])
    (a4 : Option Addr) (len4 cap4 : Nat) (h4 : Rd Try.prog W 39 [.slice a4 len4 cap4]) (a5 : Option Addr) (len5 cap5 : Nat) (h5 : Rd Try.prog W 39 [.slice a5 len5 cap5]) :
    Calls Try.prog 5 #[.int .i64 e, .int .i64 f, .slice a2 len2 cap2, .slice a3 len3 cap3, .slice a4 len4 cap4, .slice a5 len5 cap5] W fun e w' => e = .returned (.bool true) ∧ Below W.heap.size W w' := by
  clear we wf
  obtain ⟨l2, hl2, i2⟩ := rows_of h2
  obtain ⟨l3, hl3, i3⟩ := rows_of h3
  obtain ⟨l4, hl4, i4⟩ := rels_of h4
  obtain ⟨l5, hl5, i5⟩ := rels_of h5
  clear h2 h3 h4 h5
  have hc2 : len2 ≤ cap2 := by obtain ⟨_, _, hv, h, _⟩ := i2; simp only [Value.slice.injEq] at hv; omega
  have hc3 : len3 ≤ cap3 := by obtain ⟨_, _, hv, h, _⟩ := i3; simp only [Value.slice.injEq] at hv; omega
  have hc4 : len4 ≤ cap4 := by obtain ⟨_, _, hv, h, _⟩ := i4; simp only [Value.slice.injEq] at hv; omega
  have hc5 : len5 ≤ cap5 := by obtain ⟨_, _, hv, h, _⟩ := i5; simp only [Value.slice.injEq] at hv; omega
  have I2 := Lib.hid (i2.take (m := min len2 4) (by omega))
  have I3 := Lib.hid (i3.take (m := min len3 4) (by omega))
  have I4 := Lib.hid (i4.take (m := min len4 4) (by omega))
  have I5 := Lib.hid (i5.take (m := min len5 4) (by omega))
  clear i2 i3 i4 i5 hl2 hl3 hl4 hl5
  go_enter Try.func5, Try.ntmps5
  go_wp2_with fail
  refine wp_region_pl (fun _ => True) (.take 0 <| .take 1 <| .take 2 <| .take 3 <| .take 4 <| .take 5 <| .take 6 <| .take 7 <| .take 8 <| .take 9 <| .take 10 <| .take 11 <| .take 12 <| .doo 13 <| .doo 14 <| .done) ?plL1 (by kernel_rfl) (by kernel_rfl) (by kernel_rfl) ?plH1 (by intro c a d v w; cases d <;> exact fun h => h) trivial ?_
  case plH1 =>
    simp only [Pl.with, List.getElem?_toArray, List.getElem?_cons_zero, List.getElem?_cons_succ]
    try rfl
  iterate 5 (refine wpPl_take (v := ?_) (by rfl) (fun w' hS => ?_) ?_; rotate_left; (focus (go_simp; with_reducible rfl)); simp only [Act.put, List.setIfInBounds_toArray, List.set_cons_zero, List.set_cons_succ])
  refine wpPl_take (v := .int .i64 ((min len2 4 : Nat) : Int)) (by rfl) (fun w' hS => min4 w' _ _ _ _ rfl rfl) ?_
  simp only [Act.put, List.setIfInBounds_toArray, List.set_cons_zero, List.set_cons_succ]
  refine wpPl_take (v := .slice a2 (min len2 4) cap2) (by rfl) (fun w' hS => slice38 w' _ _ _ _ _ _ _ _ rfl rfl (by omega)) ?_
  simp only [Act.put, List.setIfInBounds_toArray, List.set_cons_zero, List.set_cons_succ]
  iterate 3 (refine wpPl_take (v := ?_) (by rfl) (fun w' hS => ?_) ?_; rotate_left; (focus (go_simp; with_reducible rfl)); simp only [Act.put, List.setIfInBounds_toArray, List.set_cons_zero, List.set_cons_succ])
  refine wpPl_take (v := .int .i64 ((min len4 4 : Nat) : Int)) (by rfl) (fun w' hS => min4 w' _ _ _ _ rfl rfl) ?_
  simp only [Act.put, List.setIfInBounds_toArray, List.set_cons_zero, List.set_cons_succ]
  refine wpPl_take (v := .slice a4 (min len4 4) cap4) (by rfl) (fun w' hS => slice39 w' _ _ _ _ _ _ _ _ rfl rfl (by omega)) ?_
  simp only [Act.put, List.setIfInBounds_toArray, List.set_cons_zero, List.set_cons_succ]
  iterate 1 (refine wpPl_take (v := ?_) (by rfl) (fun w' hS => ?_) ?_; rotate_left; (focus (go_simp; with_reducible rfl)); simp only [Act.put, List.setIfInBounds_toArray, List.set_cons_zero, List.set_cons_succ])
  refine wpPl_do (by rfl) (fun K hK => ?_)
  go_wp2_with fail
  (try refine ⟨trivial, ?_⟩)
  refine wpPl_do (by rfl) (fun K hK => ?_)
  go_wp2_with fail
  (try refine ⟨trivial, ?_⟩)
  refine wpPl_done ?_
  go_wp2_with fail
  refine wp_region_pl (fun _ => True) (.take 0 <| .take 1 <| .take 2 <| .take 3 <| .take 4 <| .take 5 <| .take 6 <| .take 7 <| .take 8 <| .take 9 <| .take 10 <| .take 11 <| .take 12 <| .doo 13 <| .doo 14 <| .done) ?plL2 (by kernel_rfl) (by kernel_rfl) (by kernel_rfl) ?plH2 (by intro c a d v w; cases d <;> exact fun h => h) trivial ?_
  case plH2 =>
    simp only [Pl.with, List.getElem?_toArray, List.getElem?_cons_zero, List.getElem?_cons_succ]
    try rfl
  iterate 5 (refine wpPl_take (v := ?_) (by rfl) (fun w' hS => ?_) ?_; rotate_left; (focus (go_simp; with_reducible rfl)); simp only [Act.put, List.setIfInBounds_toArray, List.set_cons_zero, List.set_cons_succ])
  refine wpPl_take (v := .int .i64 ((min len3 4 : Nat) : Int)) (by rfl) (fun w' hS => min4 w' _ _ _ _ rfl rfl) ?_
  simp only [Act.put, List.setIfInBounds_toArray, List.set_cons_zero, List.set_cons_succ]
  refine wpPl_take (v := .slice a3 (min len3 4) cap3) (by rfl) (fun w' hS => slice38 w' _ _ _ _ _ _ _ _ rfl rfl (by omega)) ?_
  simp only [Act.put, List.setIfInBounds_toArray, List.set_cons_zero, List.set_cons_succ]
  iterate 3 (refine wpPl_take (v := ?_) (by rfl) (fun w' hS => ?_) ?_; rotate_left; (focus (go_simp; with_reducible rfl)); simp only [Act.put, List.setIfInBounds_toArray, List.set_cons_zero, List.set_cons_succ])
  refine wpPl_take (v := .int .i64 ((min len5 4 : Nat) : Int)) (by rfl) (fun w' hS => min4 w' _ _ _ _ rfl rfl) ?_
  simp only [Act.put, List.setIfInBounds_toArray, List.set_cons_zero, List.set_cons_succ]
  refine wpPl_take (v := .slice a5 (min len5 4) cap5) (by rfl) (fun w' hS => slice39 w' _ _ _ _ _ _ _ _ rfl rfl (by omega)) ?_
  simp only [Act.put, List.setIfInBounds_toArray, List.set_cons_zero, List.set_cons_succ]
  iterate 1 (refine wpPl_take (v := ?_) (by rfl) (fun w' hS => ?_) ?_; rotate_left; (focus (go_simp; with_reducible rfl)); simp only [Act.put, List.setIfInBounds_toArray, List.set_cons_zero, List.set_cons_succ])
  refine wpPl_do (by rfl) (fun K hK => ?_)
  go_wp2_with fail
  (try refine ⟨trivial, ?_⟩)
  refine wpPl_do (by rfl) (fun K hK => ?_)
  go_wp2_with fail
  (try refine ⟨trivial, ?_⟩)
  refine wpPl_done ?_
  go_wp2_with fail

  refine wp_region_plB (fun w0 => At w0 W.heap.size [.int .i64 (bits .and .i64 e 3), .slice a2 (min len2 4) cap2, .slice a4 (min len4 4) cap4] ∧ At w0 (W.heap.size + 1) [.int .i64 (bits .and .i64 f 3), .slice a3 (min len3 4) cap3, .slice a5 (min len5 4) cap5] ∧ Below W.heap.size W w0) ?ph3 (.take 0 <| .take 1 <| .take 3 <| .take 4 <| .doo 2 <| .doo 5 <| .take 6 <| .take 7 <| .take 8 <| .take 9 <| .doo 10 <| .take 11 <| .take 12 <| .take 13 <| .take 14 <| .take 16 <| .take 17 <| .doo 15 <| .doo 18 <| .take 19 <| .take 20 <| .take 21 <| .doo 22 <| .take 23 <| .take 24 <| .done) ?plL3 (by kernel_rfl) (by kernel_rfl) (by kernel_rfl) ?plH3 (by intro c a d v w; cases d <;> exact fun h => h) ?_
  case plH3 =>
    simp only [Pl.with, List.getElem?_toArray, List.getElem?_cons_zero, List.getElem?_cons_succ]
    try rfl
  case ph3 =>
    refine ⟨(((At.new _ _ _).alloc _).drew).drew, ?_, ((((Below.refl _ W).alloc (Nat.le_refl _) _).alloc (by simp) _).drew).drew⟩
    have := At.new (W.alloc (.cells #[.int .i64 (bits .and .i64 e 3), .slice a2 (min len2 4) cap2, .slice a4 (min len4 4) cap4] 41)) #[.int .i64 (bits .and .i64 f 3), .slice a3 (min len3 4) cap3, .slice a5 (min len5 4) cap5] 41
    rw [show (W.alloc (.cells #[.int .i64 (bits .and .i64 e 3), .slice a2 (min len2 4) cap2, .slice a4 (min len4 4) cap4] 41)).heap.size = W.heap.size + 1 by simp] at this
    exact this.drew.drew
  rintro w0 ⟨hx, hy, hb⟩
  have HX := Lib.hid hx
  have HY := Lib.hid hy
  have HB := Lib.hid hb
  clear hx hy hb
  obtain ⟨s, hs⟩ : ∃ s, decide (AnsV.same ⟨bits .and .i64 e 3, .slice a2 (min len2 4) cap2, l2.take (min len2 4), .slice a4 (min len4 4) cap4, l4.take (min len4 4)⟩ ⟨bits .and .i64 f 3, .slice a3 (min len3 4) cap3, l3.take (min len3 4), .slice a5 (min len5 4) cap5, l5.take (min len5 4)⟩) = s := ⟨_, rfl⟩
  have OX := Lib.hid (fun (x : World) (hx : Below w0.heap.size w0 x) => (show AnsV.ok x ⟨bits .and .i64 e 3, .slice a2 (min len2 4) cap2, l2.take (min len2 4), .slice a4 (min len4 4) cap4, l4.take (min len4 4)⟩ from ⟨(I2.out.kept HB.out).kept hx, (I4.out.kept HB.out).kept hx⟩))
  have OY := Lib.hid (fun (x : World) (hx : Below w0.heap.size w0 x) => (show AnsV.ok x ⟨bits .and .i64 f 3, .slice a3 (min len3 4) cap3, l3.take (min len3 4), .slice a5 (min len5 4) cap5, l5.take (min len5 4)⟩ from ⟨(I3.out.kept HB.out).kept hx, (I5.out.kept HB.out).kept hx⟩))
  have HXY := Lib.hid (fun (x : World) (hx : Below w0.heap.size w0 x) => (show Calls Try.prog 11 #[.agg #[.int .i64 (bits .and .i64 e 3), .slice a2 (min len2 4) cap2, .slice a4 (min len4 4) cap4], .agg #[.int .i64 (bits .and .i64 f 3), .slice a3 (min len3 4) cap3, .slice a5 (min len5 4) cap5]] x (fun e w' => e = .returned (.bool s) ∧ Below x.heap.size x w') from hs ▸ ans_any ⟨bits .and .i64 e 3, .slice a2 (min len2 4) cap2, l2.take (min len2 4), .slice a4 (min len4 4) cap4, l4.take (min len4 4)⟩ ⟨bits .and .i64 f 3, .slice a3 (min len3 4) cap3, l3.take (min len3 4), .slice a5 (min len5 4) cap5, l5.take (min len5 4)⟩ x (OX.out x hx) (OY.out x hx)))
  have HKK := Lib.hid (fun (x : World) (hx : Below w0.heap.size w0 x) => (show Calls Try.prog 15 #[.agg #[.int .i64 (bits .and .i64 e 3), .slice a2 (min len2 4) cap2, .slice a4 (min len4 4) cap4], .agg #[.int .i64 (bits .and .i64 f 3), .slice a3 (min len3 4) cap3, .slice a5 (min len5 4) cap5]] x (fun e w' => e = .returned (.bool s) ∧ Below x.heap.size x w') from hs ▸ ansK_any ⟨bits .and .i64 e 3, .slice a2 (min len2 4) cap2, l2.take (min len2 4), .slice a4 (min len4 4) cap4, l4.take (min len4 4)⟩ ⟨bits .and .i64 f 3, .slice a3 (min len3 4) cap3, l3.take (min len3 4), .slice a5 (min len5 4) cap5, l5.take (min len5 4)⟩ x (OX.out x hx) (OY.out x hx)))
  have HYX := Lib.hid (fun (x : World) (hx : Below w0.heap.size w0 x) => (show Calls Try.prog 11 #[.agg #[.int .i64 (bits .and .i64 f 3), .slice a3 (min len3 4) cap3, .slice a5 (min len5 4) cap5], .agg #[.int .i64 (bits .and .i64 e 3), .slice a2 (min len2 4) cap2, .slice a4 (min len4 4) cap4]] x (fun e w' => e = .returned (.bool s) ∧ Below x.heap.size x w') from hs ▸ same_comm ⟨bits .and .i64 e 3, .slice a2 (min len2 4) cap2, l2.take (min len2 4), .slice a4 (min len4 4) cap4, l4.take (min len4 4)⟩ ⟨bits .and .i64 f 3, .slice a3 (min len3 4) cap3, l3.take (min len3 4), .slice a5 (min len5 4) cap5, l5.take (min len5 4)⟩ ▸ ans_any ⟨bits .and .i64 f 3, .slice a3 (min len3 4) cap3, l3.take (min len3 4), .slice a5 (min len5 4) cap5, l5.take (min len5 4)⟩ ⟨bits .and .i64 e 3, .slice a2 (min len2 4) cap2, l2.take (min len2 4), .slice a4 (min len4 4) cap4, l4.take (min len4 4)⟩ x (OY.out x hx) (OX.out x hx)))
  have HXX := Lib.hid (fun (x : World) (hx : Below w0.heap.size w0 x) => (show Calls Try.prog 11 #[.agg #[.int .i64 (bits .and .i64 e 3), .slice a2 (min len2 4) cap2, .slice a4 (min len4 4) cap4], .agg #[.int .i64 (bits .and .i64 e 3), .slice a2 (min len2 4) cap2, .slice a4 (min len4 4) cap4]] x (fun e w' => e = .returned (.bool true) ∧ Below x.heap.size x w') from (decide_eq_true (show AnsV.same ⟨bits .and .i64 e 3, .slice a2 (min len2 4) cap2, l2.take (min len2 4), .slice a4 (min len4 4) cap4, l4.take (min len4 4)⟩ ⟨bits .and .i64 e 3, .slice a2 (min len2 4) cap2, l2.take (min len2 4), .slice a4 (min len4 4) cap4, l4.take (min len4 4)⟩ from ⟨rfl, rfl, rfl⟩)) ▸ ans_any ⟨bits .and .i64 e 3, .slice a2 (min len2 4) cap2, l2.take (min len2 4), .slice a4 (min len4 4) cap4, l4.take (min len4 4)⟩ ⟨bits .and .i64 e 3, .slice a2 (min len2 4) cap2, l2.take (min len2 4), .slice a4 (min len4 4) cap4, l4.take (min len4 4)⟩ x (OX.out x hx) (OX.out x hx)))
  clear hs OX OY I2 I3 I4 I5
  (refine wpPl_take (v := .agg #[.int .i64 (bits .and .i64 e 3), .slice a2 (min len2 4) cap2, .slice a4 (min len4 4) cap4]) (by rfl) (fun w' hS => load41 w' _ _ _ W.heap.size 0 ⟨bits .and .i64 e 3, .slice a2 (min len2 4) cap2, l2.take (min len2 4), .slice a4 (min len4 4) cap4, l4.take (min len4 4)⟩ rfl (fun j u hj => by rw [Nat.zero_add]; exact (HX.out.below hS).c j u hj)) ?_; simp only [Act.put, List.setIfInBounds_toArray, List.set_cons_zero, List.set_cons_succ])
  (refine wpPl_take (v := .agg #[.int .i64 (bits .and .i64 f 3), .slice a3 (min len3 4) cap3, .slice a5 (min len5 4) cap5]) (by rfl) (fun w' hS => load41 w' _ _ _ (W.heap.size + 1) 0 ⟨bits .and .i64 f 3, .slice a3 (min len3 4) cap3, l3.take (min len3 4), .slice a5 (min len5 4) cap5, l5.take (min len5 4)⟩ rfl (fun j u hj => by rw [Nat.zero_add]; exact (HY.out.below hS).c j u hj)) ?_; simp only [Act.put, List.setIfInBounds_toArray, List.set_cons_zero, List.set_cons_succ])
  (refine wpPl_take (v := .agg #[.int .i64 (bits .and .i64 e 3), .slice a2 (min len2 4) cap2, .slice a4 (min len4 4) cap4]) (by rfl) (fun w' hS => load41 w' _ _ _ W.heap.size 0 ⟨bits .and .i64 e 3, .slice a2 (min len2 4) cap2, l2.take (min len2 4), .slice a4 (min len4 4) cap4, l4.take (min len4 4)⟩ rfl (fun j u hj => by rw [Nat.zero_add]; exact (HX.out.below hS).c j u hj)) ?_; simp only [Act.put, List.setIfInBounds_toArray, List.set_cons_zero, List.set_cons_succ])
  (refine wpPl_take (v := .agg #[.int .i64 (bits .and .i64 f 3), .slice a3 (min len3 4) cap3, .slice a5 (min len5 4) cap5]) (by rfl) (fun w' hS => load41 w' _ _ _ (W.heap.size + 1) 0 ⟨bits .and .i64 f 3, .slice a3 (min len3 4) cap3, l3.take (min len3 4), .slice a5 (min len5 4) cap5, l5.take (min len5 4)⟩ rfl (fun j u hj => by rw [Nat.zero_add]; exact (HY.out.below hS).c j u hj)) ?_; simp only [Act.put, List.setIfInBounds_toArray, List.set_cons_zero, List.set_cons_succ])
  refine wpPl_do (by rfl) (fun K hK => ?_)
  go_wp2_with (go_at_call 11; (with_reducible refine (HXY.out _ (Below.refl _ w0).drew).mono ?_); rintro e1 w1 ⟨rfl, hb⟩; have HSw1 := Lib.hid (below_step (Below.refl _ w0).drew hb); clear hb)
  refine ⟨HSw1.out, ?_⟩
  refine wpPl_do (by rfl) (fun K hK => ?_)
  go_wp2_with (go_at_call 15; (with_reducible refine (HKK.out _ HSw1.out).mono ?_); rintro e1 w2 ⟨rfl, hb⟩; have HSw2 := Lib.hid (below_step HSw1.out hb); clear hb)
  refine ⟨HSw2.out, ?_⟩
  (refine wpPl_take (v := ?_) (by rfl) (fun w' hS => ?_) ?_; rotate_left; (focus (go_simp; with_reducible rfl)); simp only [Act.put, List.setIfInBounds_toArray, List.set_cons_zero, List.set_cons_succ])
  (refine wpPl_take (v := ?_) (by rfl) (fun w' hS => ?_) ?_; rotate_left; (focus (go_simp; with_reducible rfl)); simp only [Act.put, List.setIfInBounds_toArray, List.set_cons_zero, List.set_cons_succ])
  (refine wpPl_take (v := .agg #[.int .i64 (bits .and .i64 e 3), .slice a2 (min len2 4) cap2, .slice a4 (min len4 4) cap4]) (by rfl) (fun w' hS => load41 w' _ _ _ W.heap.size 0 ⟨bits .and .i64 e 3, .slice a2 (min len2 4) cap2, l2.take (min len2 4), .slice a4 (min len4 4) cap4, l4.take (min len4 4)⟩ rfl (fun j u hj => by rw [Nat.zero_add]; exact (HX.out.below hS).c j u hj)) ?_; simp only [Act.put, List.setIfInBounds_toArray, List.set_cons_zero, List.set_cons_succ])
  (refine wpPl_take (v := .agg #[.int .i64 (bits .and .i64 e 3), .slice a2 (min len2 4) cap2, .slice a4 (min len4 4) cap4]) (by rfl) (fun w' hS => load41 w' _ _ _ W.heap.size 0 ⟨bits .and .i64 e 3, .slice a2 (min len2 4) cap2, l2.take (min len2 4), .slice a4 (min len4 4) cap4, l4.take (min len4 4)⟩ rfl (fun j u hj => by rw [Nat.zero_add]; exact (HX.out.below hS).c j u hj)) ?_; simp only [Act.put, List.setIfInBounds_toArray, List.set_cons_zero, List.set_cons_succ])
  refine wpPl_do (by rfl) (fun K hK => ?_)
  go_wp2_with (go_at_call 11; (with_reducible refine (HXX.out _ HSw2.out).mono ?_); rintro e1 w3 ⟨rfl, hb⟩; have HSw3 := Lib.hid (below_step HSw2.out hb); clear hb)
  refine ⟨HSw3.out, ?_⟩
  (refine wpPl_take (v := ?_) (by rfl) (fun w' hS => ?_) ?_; rotate_left; (focus (go_simp; with_reducible rfl)); simp only [Act.put, List.setIfInBounds_toArray, List.set_cons_zero, List.set_cons_succ])
  (refine wpPl_take (v := ?_) (by rfl) (fun w' hS => ?_) ?_; rotate_left; (focus (go_simp; with_reducible rfl)); simp only [Act.put, List.setIfInBounds_toArray, List.set_cons_zero, List.set_cons_succ])
  (refine wpPl_take (v := .agg #[.int .i64 (bits .and .i64 f 3), .slice a3 (min len3 4) cap3, .slice a5 (min len5 4) cap5]) (by rfl) (fun w' hS => load41 w' _ _ _ (W.heap.size + 1) 0 ⟨bits .and .i64 f 3, .slice a3 (min len3 4) cap3, l3.take (min len3 4), .slice a5 (min len5 4) cap5, l5.take (min len5 4)⟩ rfl (fun j u hj => by rw [Nat.zero_add]; exact (HY.out.below hS).c j u hj)) ?_; simp only [Act.put, List.setIfInBounds_toArray, List.set_cons_zero, List.set_cons_succ])
  (refine wpPl_take (v := .agg #[.int .i64 (bits .and .i64 e 3), .slice a2 (min len2 4) cap2, .slice a4 (min len4 4) cap4]) (by rfl) (fun w' hS => load41 w' _ _ _ W.heap.size 0 ⟨bits .and .i64 e 3, .slice a2 (min len2 4) cap2, l2.take (min len2 4), .slice a4 (min len4 4) cap4, l4.take (min len4 4)⟩ rfl (fun j u hj => by rw [Nat.zero_add]; exact (HX.out.below hS).c j u hj)) ?_; simp only [Act.put, List.setIfInBounds_toArray, List.set_cons_zero, List.set_cons_succ])
  (refine wpPl_take (v := .agg #[.int .i64 (bits .and .i64 e 3), .slice a2 (min len2 4) cap2, .slice a4 (min len4 4) cap4]) (by rfl) (fun w' hS => load41 w' _ _ _ W.heap.size 0 ⟨bits .and .i64 e 3, .slice a2 (min len2 4) cap2, l2.take (min len2 4), .slice a4 (min len4 4) cap4, l4.take (min len4 4)⟩ rfl (fun j u hj => by rw [Nat.zero_add]; exact (HX.out.below hS).c j u hj)) ?_; simp only [Act.put, List.setIfInBounds_toArray, List.set_cons_zero, List.set_cons_succ])
  (refine wpPl_take (v := .agg #[.int .i64 (bits .and .i64 f 3), .slice a3 (min len3 4) cap3, .slice a5 (min len5 4) cap5]) (by rfl) (fun w' hS => load41 w' _ _ _ (W.heap.size + 1) 0 ⟨bits .and .i64 f 3, .slice a3 (min len3 4) cap3, l3.take (min len3 4), .slice a5 (min len5 4) cap5, l5.take (min len5 4)⟩ rfl (fun j u hj => by rw [Nat.zero_add]; exact (HY.out.below hS).c j u hj)) ?_; simp only [Act.put, List.setIfInBounds_toArray, List.set_cons_zero, List.set_cons_succ])
  refine wpPl_do (by rfl) (fun K hK => ?_)
  go_wp2_with (go_at_call 11; (with_reducible refine (HYX.out _ HSw3.out).mono ?_); rintro e1 w4 ⟨rfl, hb⟩; have HSw4 := Lib.hid (below_step HSw3.out hb); clear hb)
  refine ⟨HSw4.out, ?_⟩
  refine wpPl_do (by rfl) (fun K hK => ?_)
  go_wp2_with (go_at_call 11; (with_reducible refine (HXY.out _ HSw4.out).mono ?_); rintro e1 w5 ⟨rfl, hb⟩; have HSw5 := Lib.hid (below_step HSw4.out hb); clear hb)
  refine ⟨HSw5.out, ?_⟩
  (refine wpPl_take (v := ?_) (by rfl) (fun w' hS => ?_) ?_; rotate_left; (focus (go_simp; with_reducible rfl)); simp only [Act.put, List.setIfInBounds_toArray, List.set_cons_zero, List.set_cons_succ])
  (refine wpPl_take (v := ?_) (by rfl) (fun w' hS => ?_) ?_; rotate_left; (focus (go_simp; with_reducible rfl)); simp only [Act.put, List.setIfInBounds_toArray, List.set_cons_zero, List.set_cons_succ])
  (refine wpPl_take (v := ?_) (by rfl) (fun w' hS => ?_) ?_; rotate_left; (focus (go_simp; with_reducible rfl)); simp only [Act.put, List.setIfInBounds_toArray, List.set_cons_zero, List.set_cons_succ])
  refine wpPl_do (by rfl) (fun K hK => ?_)
  go_wp2_with (go_at_call 3; (with_reducible refine (runs_any _).mono ?_); rintro e1 w6 ⟨rfl, hb⟩; have HSw6 := Lib.hid (below_step HSw5.out hb); clear hb)
  refine ⟨HSw6.out, ?_⟩
  (refine wpPl_take (v := ?_) (by rfl) (fun w' hS => ?_) ?_; rotate_left; (focus (go_simp; with_reducible rfl)); simp only [Act.put, List.setIfInBounds_toArray, List.set_cons_zero, List.set_cons_succ])
  (refine wpPl_take (v := ?_) (by rfl) (fun w' hS => ?_) ?_; rotate_left; (focus (go_simp; with_reducible rfl)); simp only [Act.put, List.setIfInBounds_toArray, List.set_cons_zero, List.set_cons_succ])
  refine wpPl_done ?_
  go_wp2
  go_ret
  exact ⟨rfl, below_step HB.out HSw6.out⟩
end Go.Proofs.Ytemmekpmoigdeaa
