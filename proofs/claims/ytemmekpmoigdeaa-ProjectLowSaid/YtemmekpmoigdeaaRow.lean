/- Rows put together; parts of lists; lists of zero answers. -/
import Derived.Test.YtemmekpmoigdeaaTells
set_option linter.unusedSimpArgs false
set_option linter.unusedVariables false
set_option linter.unnecessarySimpa false
namespace Go.Proofs.Ytemmekpmoigdeaa
open Go.RowKit

theorem cellsA_one (l : List ActV) (w : World) (hok : ∀ a ∈ l, a.ok w) : ∀ u ∈ cellsA l, u.oneCell' = true := by
  intro u hu
  obtain ⟨a, ha, hu⟩ := List.mem_flatMap.1 hu
  obtain ⟨pa, pc, hv, _⟩ := hok a ha
  simp only [ActV.cs, hv, List.mem_cons, List.not_mem_nil, or_false] at hu
  rcases hu with rfl | rfl | rfl | rfl | rfl | rfl | rfl | rfl | rfl | rfl | rfl | rfl | rfl | rfl | rfl <;> simp [Value.oneCell']
/-- a row of the call's own, and another list put behind it -/
theorem wp_append_rows {o : Oper} {a : Act} {w : World} {K : Act → World → Prop} {Q : Exit → Act → World → Prop} (s x : Operand)
    (ho : o.op = .call { callee := .builtin .append, args := #[s, x], argTypes := #[32, 32] })
    (base : Nat) (v v2 : Value) (n : Nat) (l l2 : List ActV) (hs : a.eval s = v) (hown : w.ownsRow base 31 15 v n (cellsA l)) (hx : a.eval x = v2) (h2 : IsR ActV.cs 15 w v2 l2) (hok : ∀ a ∈ l2, a.ok w)
    (h63 : n + l2.length ≤ 1000000) (hbase : base ≤ w.heap.size)
    (h : ∀ v' w', w'.ownsRow base 31 15 v' (n + l2.length) (cellsA (l ++ l2)) → w.grownBy w' v.ownBlock → K (a.put o.dst v') w') : o.wp Try.prog a w K Q := by
  rcases Nat.eq_zero_or_pos l2.length with h0 | h0
  · obtain rfl : l2 = [] := List.eq_nil_of_length_eq_zero h0
    obtain ⟨a2, c2, hv2, _⟩ := h2
    simp only [List.length_nil] at hv2
    subst hv2
    cases a2 with
    | none =>
      have hf := h v w (by simpa using hown) (grown_refl w _)
      rcases hown.2 with ⟨rfl, _⟩ | ⟨g, cap, cur, rfl, _, _, hcap, _⟩
      all_goals
        unfold Oper.wp execOp
        simp only [ho, resolve, invoke, builtin, Sem.run_bind, Sem.run_pure, Result.andThen_ok, List.map_toArray, List.map_cons, List.map_nil, hs, hx]
        go_simp
        exact hf
    | some ad =>
      obtain ⟨i0, hi3, hz0, hz1, hz2⟩ := info_parts info31
      refine wp_append_own w s x 32 ho base 31 i0 _ 15 136 Try.underlying32 hi3 hz0 hz1 hz2 rfl (by decide) v n (cellsA l) hs hown ad 0 c2 [] hx rfl (fun j u hu => by simp at hu) (by simp) (by unfold maxLen; omega) (by omega) hbase ?_
      intro v' w' h1 h2 _
      exact h v' w' (by simpa using h1) h2
  · obtain ⟨g, c, rfl, hc1, hc2, b, o', hd, hcs⟩ := h2
    obtain ⟨rfl, hb⟩ := hd h0
    obtain ⟨i0, hi3, hz0, hz1, hz2⟩ := info_parts info31
    refine wp_append_own w s x 32 ho base 31 i0 _ 15 136 Try.underlying32 hi3 hz0 hz1 hz2 rfl (by decide) v n (cellsA l) hs hown ⟨b, o', none⟩ l2.length c (cellsA l2) hx (by rw [cellsA_length]) ?_ (cellsA_one l2 w hok) (by unfold maxLen; omega) (by omega) hbase ?_
    · intro j u hu
      have hadd : (⟨b, o', none⟩ : Addr).add j = ⟨b, o' + j, none⟩ := by unfold Addr.add; split <;> simp_all
      rw [hadd]
      have hj : j < l2.length * 15 := by have := (List.getElem?_eq_some_iff.1 hu).1; rwa [cellsA_length] at this
      have hq : j / 15 < l2.length := by omega
      have hx := hcs (j / 15) (l2[j / 15]) (by simp [hq]) (j % 15) u (by
        have h1 : ∀ u', (l2[j / 15]).cs[j % 15]? = some u' → (cellsA l2)[j]? = some u' := fun u' hu' => by
          have := cellsA_get (l := l2) (i := j / 15) (j := j % 15) (x := l2[j / 15]) (u := u') (by simp [hq]) hu'
          rwa [show j / 15 * 15 + j % 15 = j by omega] at this
        have h2 : j % 15 < (l2[j / 15]).cs.length := by show j % 15 < 15; omega
        have h3 := h1 _ (List.getElem?_eq_getElem h2)
        rw [hu] at h3
        rw [List.getElem?_eq_getElem h2, ← h3])
      rwa [Nat.add_assoc, show j / 15 * 15 + j % 15 = j by omega] at hx
    · intro v' w' h1 h2 _
      rw [show cellsA l ++ cellsA l2 = cellsA (l ++ l2) by simp [cellsA]] at h1
      exact h v' w' h1 h2
theorem slice32hi (W : World) (ρ : Operand → Value) (d : Option Tmp) (x hi : Operand) {t : TypeId} {ps : String} {af : Array Edge} {g : Option (Nat × Bool)} (a : Option Addr) (len cap m : Nat) (hx : ρ x = .slice a len cap) (hh : ρ hi = .int .i64 m) (hm : m ≤ cap) :
    (execOp ρ { dst := d, op := .slice 32 x none (some hi) none, type := t, pos := ps, after := af, guard := g }).run Try.prog W = .ok (.value (.slice a m cap)) W := by
  go_simp
  try simp [addr0]
theorem slice32lo (W : World) (ρ : Operand → Value) (d : Option Tmp) (x lo : Operand) {t : TypeId} {ps : String} {af : Array Edge} {g : Option (Nat × Bool)} (a : Option Addr) (len cap m : Nat) (hx : ρ x = .slice a len cap) (hh : ρ lo = .int .i64 m) (hm : m ≤ len) (hl : len ≤ cap) :
    (execOp ρ { dst := d, op := .slice 32 x (some lo) none none, type := t, pos := ps, after := af, guard := g }).run Try.prog W = .ok (.value (.slice (if cap = m then a else a.map (fun q => q.add (m * 15))) (len - m) (cap - m))) W := by
  go_simp
theorem IsR.drop {w : World} {a : Option Addr} {len cap m : Nat} {l : List ActV} (h : IsR ActV.cs 15 w (.slice a len cap) l) (hm : m ≤ len) : IsR ActV.cs 15 w (.slice (if cap = m then a else a.map (fun q => q.add (m * 15))) (len - m) (cap - m)) (l.drop m) := by
  obtain ⟨a', c', hv, h1, h2, b, o, hd, hc⟩ := h
  simp only [Value.slice.injEq] at hv
  obtain ⟨rfl, rfl, rfl⟩ := hv
  have hl : (l.drop m).length = l.length - m := by simp
  refine ⟨_, _, by rw [hl], by rw [hl]; omega, by omega, b, o + m * 15, fun hp => ?_, fun i x hi j u hj => ?_⟩
  · rw [hl] at hp
    obtain ⟨rfl, hb⟩ := hd (by omega)
    rw [if_neg (by omega)]
    refine ⟨?_, hb⟩
    simp only [Option.map_some, Option.some.injEq]
    unfold Addr.add
    split <;> simp_all
  · rw [List.getElem?_drop] at hi
    have := hc (m + i) x hi j u hj
    rwa [show o + m * 15 + i * 15 + j = o + (m + i) * 15 + j by omega]
theorem zeros_is (w : World) (n : Nat) (hn : n ≤ 1000000) : IsR AnsV.cs 3 (w.alloc (.cells (madeCells #[.int .i64 0, .slice none 0 0, .slice none 0 0] (n * 3)) 41)) (.slice (some ⟨w.heap.size, 0, none⟩) n n) (List.replicate n N0) := by
  refine ⟨_, n, by simp, by simp, by unfold maxLen; omega, w.heap.size, 0, fun _ => ⟨rfl, by simp⟩, fun i x hi j u hj => ?_⟩
  have hin : i < n := by have := (List.getElem?_eq_some_iff.1 hi).1; simpa using this
  obtain rfl : N0 = x := by simpa [hin] using hi
  have hj3 : j < 3 := (List.getElem?_eq_some_iff.1 hj).1
  refine cell_new _ _ _ _ _ _ rfl ?_
  rw [Nat.zero_add]
  unfold madeCells
  have hlt : i * 3 + j < n * 3 := by omega
  rcases (by omega : j = 0 ∨ j = 1 ∨ j = 2) with rfl | rfl | rfl
  · simp only [AnsV.cs, N0] at hj
    have hlt0 : i * 3 < n * 3 := by omega
    have hg : (Array.range (n * 3))[i * 3]? = some (i * 3) := by simp [hlt0]
    simp [hg, show (i * 3) % 3 = 0 by omega] at hj ⊢
    exact hj
  · simp only [AnsV.cs, N0] at hj
    simp [hlt, show (i * 3 + 1) % 3 = 1 by omega] at hj ⊢
    exact hj
  · simp only [AnsV.cs, N0] at hj
    simp [hlt, show (i * 3 + 2) % 3 = 2 by omega] at hj ⊢
    exact hj
theorem ofA_idem (t : Int) (R : List ActV) : ofA t (ofA t R) = ofA t R := by simp [ofA]
theorem ofA_take_drop (t : Int) (R : List ActV) (c : Nat) : ofA t (R.take c) ++ ofA t (R.drop c) = ofA t R := by rw [← ofA_app, List.take_append_drop]
def ticksA (l : List ActV) : List ActV := l.filter fun a => decide (a.kind = 3)
theorem ticks_of (t : Int) (R : List ActV) : ticksA (ofA t R) = ticksA R := by
  unfold ticksA ofA
  rw [List.filter_filter]
  refine List.filter_congr fun a _ => ?_
  by_cases h : a.kind = 3 <;> simp [h]
theorem of7 (R : List ActV) (h : ∀ x ∈ R, x.tenant ≤ 3) : ofA 7 R = ticksA R := by
  unfold ticksA ofA
  refine List.filter_congr fun a ha => ?_
  have := h a ha
  by_cases hk : a.kind = 3
  · simp [hk]
  · have hn : ¬ ActV.own 7 a := fun ho => by have := ho.1; omega
    simp [hk, hn]
theorem ans7 (R : List ActV) (N : List AnsV) (h : ∀ x ∈ R, x.tenant ≤ 3) : ansA 7 (R.zip N) = [] := by
  unfold ansA
  rw [List.map_eq_nil_iff, List.filter_eq_nil_iff]
  rintro ⟨x, y⟩ hp
  have hx := h x (List.of_mem_zip hp).1
  simp only [decide_eq_true_eq]
  exact fun ho => by have := ho.1; omega
theorem alikeL_refl (l : List ActV) : alikeL l l := ⟨rfl, fun i x y hx hy => by rw [hx] at hy; cases hy; exact .inr (ActV.same_refl x)⟩
theorem ticks_yes {l : List ActV} {i : Nat} {x : ActV} (hx : l[i]? = some x) (h : x.kind = 3) : ticksA (l.take (i + 1)) = ticksA (l.take i) ++ [x] := by
  unfold ticksA
  rw [List.take_add_one, hx]
  simp [h]
theorem ticks_no {l : List ActV} {i : Nat} {x : ActV} (hx : l[i]? = some x) (h : ¬ x.kind = 3) : ticksA (l.take (i + 1)) = ticksA (l.take i) := by
  unfold ticksA
  rw [List.take_add_one, hx]
  simp [h]
theorem ticks_len (l : List ActV) (i : Nat) : (ticksA (l.take i)).length ≤ i := by
  have h1 := List.length_filter_le (fun a : ActV => decide (a.kind = 3)) (l.take i)
  have h2 : (l.take i).length ≤ i := by simp; omega
  exact Nat.le_trans h1 h2
end Go.Proofs.Ytemmekpmoigdeaa
