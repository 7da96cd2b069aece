/- EqualFunc over alike, and Low. -/
import Derived.Test.YtemmekpmoigdeaaOf
set_option linter.unusedSimpArgs false
set_option linter.unusedVariables false
set_option linter.unnecessarySimpa false
namespace Go.Proofs.Ytemmekpmoigdeaa
open Go.RowKit

/-- one by one alike -/
def alikeL (l1 l2 : List ActV) : Prop := l1.length = l2.length ∧ ∀ (i : Nat) (x y : ActV), l1[i]? = some x → l2[i]? = some y → x.alike y
theorem IsR.of_ownA {w : World} {base : Nat} {v : Value} {l : List ActV} (h : w.ownsRow base 31 15 v l.length (cellsA l)) : IsR ActV.cs 15 w v l := by
  rcases Nat.eq_zero_or_pos l.length with h0 | h0
  · obtain rfl : l = [] := List.eq_nil_of_length_eq_zero h0
    rcases h.2 with ⟨hv, _⟩ | ⟨g, cap, cur, hv, _, _, _, hcm, _⟩
    · rw [hv]; exact IsR.nil _ _ w
    · rw [hv]; exact ⟨_, cap, rfl, by simp, hcm, 0, 0, fun h => absurd h (by simp), fun i x hi => absurd hi (by simp)⟩
  · obtain ⟨g, cap, hv, _, hg, h1, h2, hc⟩ := own_form h h0
    rw [hv]
    refine ⟨_, cap, rfl, h1, h2, g, 0, fun _ => ⟨rfl, hg⟩, fun i x hi j u hj => ?_⟩
    rw [Nat.zero_add]
    refine hc _ _ ?_
    clear hc h h0 hv h1
    unfold cellsA
    induction l generalizing i with
    | nil => simp at hi
    | cons a l ih =>
      have hl : a.cs.length = 15 := rfl
      rw [List.flatMap_cons]
      cases i with
      | zero =>
        obtain rfl : a = x := by simpa using hi
        rw [List.getElem?_append_left (by have := (List.getElem?_eq_some_iff.1 hj).1; omega), Nat.zero_mul, Nat.zero_add]
        exact hj
      | succ i =>
        rw [List.getElem?_append_right (by omega), hl, show (i + 1) * 15 + j - 15 = i * 15 + j by omega]
        exact ih i (by simpa using hi)
set_option maxRecDepth 100000 in
set_option maxHeartbeats 8000000 in
theorem eqf_any (v1 v2 : Value) (l1 l2 : List ActV) (w : World) (h1 : IsR ActV.cs 15 w v1 l1) (h2 : IsR ActV.cs 15 w v2 l2) (k1 : ∀ a ∈ l1, a.ok w) (k2 : ∀ a ∈ l2, a.ok w) :
    Calls Try.prog 19 #[v1, v2, .func (.func 20) #[] #[]] w fun e w' => ∃ b : Bool, e = .returned (.bool b) ∧ (b = true ↔ alikeL l1 l2) ∧ Below w.heap.size w w' := by
  obtain ⟨a1, c1, rfl, h11, h12, b1, o1, h13, h14⟩ := h1
  obtain ⟨a2, c2, rfl, h21, h22, b2, o2, h23, h24⟩ := h2
  unfold maxLen at h12 h22
  have HOK1 := Lib.hid k1
  have HOK2 := Lib.hid k2
  clear k1 k2
  by_cases hne : l1.length = l2.length
  · obtain ⟨n, hn⟩ : ∃ n, n = l1.length := ⟨_, rfl⟩
    have h2n : l2.length = n := by omega
    have H14 := Lib.hid h14
    have H24 := Lib.hid h24
    have HA1 := Lib.hid (show 0 < n → a1 = some ⟨b1, o1, none⟩ ∧ b1 < w.heap.size from fun h => h13 (by omega))
    have HA2 := Lib.hid (show 0 < n → a2 = some ⟨b2, o2, none⟩ ∧ b2 < w.heap.size from fun h => h23 (by omega))
    have HN := Lib.hid (And.intro hn h2n)
    rw [h2n] at h21 ⊢
    rw [← hn] at h11 ⊢
    clear h14 h24 hne hn h2n h13 h23
    go_enter Try.func19, Try.ntmps19
    go_wp2
    go_loopg [17] n (fun g v17 wr => ∃ i : Nat, i ≤ n ∧ g = n - i ∧ v17 = .int .i64 i ∧ (∀ (j : Nat) (x y : ActV), j < i → l1[j]? = some x → l2[j]? = some y → x.alike y) ∧ Below w.heap.size w wr)
    case atStart => exact ⟨0, by omega, by omega, rfl, fun j _ _ hj => absurd hj (by omega), Below.refl _ _⟩
    case round =>
      obtain ⟨i, hi, rfl, rfl, hal, hb⟩ := hrel
      have HAL := Lib.hid hal
      have HB := Lib.hid hb
      have hz := hb.size
      clear hb hal
      by_cases hlt : i < n
      · obtain ⟨rfl, hbl1⟩ := HA1.out (by omega)
        obtain ⟨rfl, hbl2⟩ := HA2.out (by omega)
        obtain ⟨x, hx⟩ : ∃ x, l1[i]? = some x := ⟨l1[i]'(by have := HN.out.1; omega), by simp [← HN.out.1, hlt]⟩
        obtain ⟨y, hy⟩ : ∃ y, l2[i]? = some y := ⟨l2[i]'(by have := HN.out.2; omega), by simp [HN.out.2, hlt]⟩
        have hsl : ∃ pa pl pc, x.pipe.ops = .slice pa pl pc := by
          obtain ⟨pa, pc, hv, _⟩ := HOK1.out x (List.mem_of_getElem? hx)
          exact ⟨pa, _, pc, hv⟩
        have HQ1 := Lib.hid (HOK1.out x (List.mem_of_getElem? hx))
        have HK1 := Lib.hid (fun (j : Nat) (u : Value) (hj : x.cs[j]? = some u) => (HB.out.cell (p := ⟨b1, o1 + i * 15 + j, none⟩) hbl1).trans (H14.out i x hx j u hj))
        have HX1 := Lib.hid hx
        clear hx
        obtain ⟨pa1, pl1, pc1, hsl⟩ := hsl
        obtain ⟨k1, t1, f1, n1, ⟨p1, ol1, s1, d1, g1, sk1, fd1⟩, m1, i1, y1, v1, u1⟩ := x
        simp only at hsl
        subst hsl
        have c1_0 := HK1.out 0 _ rfl
        have c1_1 := HK1.out 1 _ rfl
        have c1_2 := HK1.out 2 _ rfl
        have c1_3 := HK1.out 3 _ rfl
        have c1_4 := HK1.out 4 _ rfl
        have c1_5 := HK1.out 5 _ rfl
        have c1_6 := HK1.out 6 _ rfl
        have c1_7 := HK1.out 7 _ rfl
        have c1_8 := HK1.out 8 _ rfl
        have c1_9 := HK1.out 9 _ rfl
        have c1_10 := HK1.out 10 _ rfl
        have c1_11 := HK1.out 11 _ rfl
        have c1_12 := HK1.out 12 _ rfl
        have c1_13 := HK1.out 13 _ rfl
        have c1_14 := HK1.out 14 _ rfl
        simp only [Nat.add_zero] at c1_0 c1_1 c1_2 c1_3 c1_4 c1_5 c1_6 c1_7 c1_8 c1_9 c1_10 c1_11 c1_12 c1_13 c1_14
        have hsl : ∃ pa pl pc, y.pipe.ops = .slice pa pl pc := by
          obtain ⟨pa, pc, hv, _⟩ := HOK2.out y (List.mem_of_getElem? hy)
          exact ⟨pa, _, pc, hv⟩
        have HQ2 := Lib.hid (HOK2.out y (List.mem_of_getElem? hy))
        have HK2 := Lib.hid (fun (j : Nat) (u : Value) (hj : y.cs[j]? = some u) => (HB.out.cell (p := ⟨b2, o2 + i * 15 + j, none⟩) hbl2).trans (H24.out i y hy j u hj))
        have HX2 := Lib.hid hy
        clear hy
        obtain ⟨pa2, pl2, pc2, hsl⟩ := hsl
        obtain ⟨k2, t2, f2, n2, ⟨p2, ol2, s2, d2, g2, sk2, fd2⟩, m2, i2, y2, v2, u2⟩ := y
        simp only at hsl
        subst hsl
        have c2_0 := HK2.out 0 _ rfl
        have c2_1 := HK2.out 1 _ rfl
        have c2_2 := HK2.out 2 _ rfl
        have c2_3 := HK2.out 3 _ rfl
        have c2_4 := HK2.out 4 _ rfl
        have c2_5 := HK2.out 5 _ rfl
        have c2_6 := HK2.out 6 _ rfl
        have c2_7 := HK2.out 7 _ rfl
        have c2_8 := HK2.out 8 _ rfl
        have c2_9 := HK2.out 9 _ rfl
        have c2_10 := HK2.out 10 _ rfl
        have c2_11 := HK2.out 11 _ rfl
        have c2_12 := HK2.out 12 _ rfl
        have c2_13 := HK2.out 13 _ rfl
        have c2_14 := HK2.out 14 _ rfl
        simp only [Nat.add_zero] at c2_0 c2_1 c2_2 c2_3 c2_4 c2_5 c2_6 c2_7 c2_8 c2_9 c2_10 c2_11 c2_12 c2_13 c2_14
        have hlt2 : b2 < wr.heap.size := by omega
        have hne2 : b2 ≠ wr.heap.size := by omega
        have hne2' : wr.heap.size ≠ b2 := by omega
        have HAW := Lib.hid (fun (W : World) (hb : Below w.heap.size w W) => (show Calls Try.prog 20 #[.agg #[.int .i64 k1, .int .i64 t1, .int .i64 f1, .int .i64 n1, .slice pa1 pl1 pc1, .int .i64 s1, .int .i64 d1, .int .i64 g1, .int .i64 sk1, .int .i64 fd1, .bool m1, .int .i64 i1, .int .i64 y1, .int .i64 v1, .int .u64 u1], .agg #[.int .i64 k2, .int .i64 t2, .int .i64 f2, .int .i64 n2, .slice pa2 pl2 pc2, .int .i64 s2, .int .i64 d2, .int .i64 g2, .int .i64 sk2, .int .i64 fd2, .bool m2, .int .i64 i2, .int .i64 y2, .int .i64 v2, .int .u64 u2]] W _ from alike_any ⟨k1, t1, f1, n1, ⟨.slice pa1 pl1 pc1, ol1, s1, d1, g1, sk1, fd1⟩, m1, i1, y1, v1, u1⟩ ⟨k2, t2, f2, n2, ⟨.slice pa2 pl2 pc2, ol2, s2, d2, g2, sk2, fd2⟩, m2, i2, y2, v2, u2⟩ W (HQ1.out.kept hb) (HQ2.out.kept hb)))
        by_cases hal : ActV.alike ⟨k1, t1, f1, n1, ⟨.slice pa1 pl1 pc1, ol1, s1, d1, g1, sk1, fd1⟩, m1, i1, y1, v1, u1⟩ ⟨k2, t2, f2, n2, ⟨.slice pa2 pl2 pc2, ol2, s2, d2, g2, sk2, fd2⟩, m2, i2, y2, v2, u2⟩
        · have HE := Lib.hid hal
          clear hal
          go_wp2_with (go_at_call 20; (with_reducible refine (HAW.out _ ((HB.out.alloc hz _).alloc (by simp; omega) _)).mono ?_); rintro e w1 ⟨rfl, hb⟩; (rw [decide_eq_true HE.out]); have HB1 := Lib.hid (below_step ((HB.out.alloc hz _).alloc (by simp; omega) _) hb); clear hb)
          go_roundg (n - (i + 1))
          case measure => omega
          case rel =>
            refine ⟨i + 1, by omega, rfl, by go_num, fun j x y hj hx hy => ?_, HB1.out⟩
            rcases (by omega : j < i ∨ j = i) with h | rfl
            · exact HAL.out j x y h hx hy
            · rw [HX1.out] at hx
              rw [HX2.out] at hy
              cases hx
              cases hy
              exact HE.out
        · have HE := Lib.hid hal
          clear hal
          go_wp2_with (go_at_call 20; (with_reducible refine (HAW.out _ ((HB.out.alloc hz _).alloc (by simp; omega) _)).mono ?_); rintro e w1 ⟨rfl, hb⟩; (rw [decide_eq_false HE.out]); have HB1 := Lib.hid (below_step ((HB.out.alloc hz _).alloc (by simp; omega) _) hb); clear hb)
          go_ret
          exact ⟨false, rfl, ⟨fun h => absurd h (by simp), fun h => absurd (h.2 i _ _ HX1.out HX2.out) HE.out⟩, HB1.out⟩
      · obtain rfl : i = n := by omega
        go_wp2
        go_ret
        exact ⟨true, rfl, ⟨fun _ => ⟨by have := HN.out; omega, fun j x y hx hy => HAL.out j x y (by have := HN.out.1; have := (List.getElem?_eq_some_iff.1 hx).1; omega) hx hy⟩, fun _ => rfl⟩, HB.out⟩
  · have hz : ((l1.length : Int) != l2.length) = true := by simp; omega
    have HNE := Lib.hid hne
    clear hne h14 h24 h13 h23
    go_enter Try.func19, Try.ntmps19
    go_wp2
    go_ret
    exact ⟨false, rfl, ⟨fun h => absurd h (by simp), fun h => absurd h.1 HNE.out⟩, Below.refl _ _⟩

set_option maxHeartbeats 4000000 in
theorem low_any (t : Int) (v1 v2 : Value) (l1 l2 : List ActV) (w : World) (h1 : IsR ActV.cs 15 w v1 l1) (h2 : IsR ActV.cs 15 w v2 l2) (k1 : ∀ a ∈ l1, a.ok w) (k2 : ∀ a ∈ l2, a.ok w) (n1 : l1.length ≤ 1000000) (n2 : l2.length ≤ 1000000) :
    Calls Try.prog 10 #[.int .i64 t, v1, v2] w fun e w' => ∃ b : Bool, e = .returned (.bool b) ∧ (b = true ↔ alikeL (ofA t l1) (ofA t l2)) ∧ Below w.heap.size w w' := by
  have H1 := Lib.hid (of_any t v1 l1 w h1 k1 n1)
  have H2 := Lib.hid (fun (w' : World) (hb : Below w.heap.size w w') => of_any t v2 l2 w' (h2.kept hb) (fun a ha => (k2 a ha).kept hb) n2)
  have HK1 := Lib.hid (fun (W : World) (hb : Below w.heap.size w W) (a : ActV) (ha : a ∈ ofA t l1) => (k1 a (List.mem_filter.1 ha).1).kept hb)
  have HK2 := Lib.hid (fun (W : World) (hb : Below w.heap.size w W) (a : ActV) (ha : a ∈ ofA t l2) => (k2 a (List.mem_filter.1 ha).1).kept hb)
  clear h1 h2 k1 k2 n1 n2
  go_enter Try.func10, Try.ntmps10
  go_wp2_with (first
    | (go_at_call 8; (with_reducible refine H1.out.mono ?_); rintro e w1 ⟨r1, rfl, ho, hb⟩; have HO1 := Lib.hid ho; have HB1 := Lib.hid hb; clear ho hb)
    | (go_at_call 8; (with_reducible refine (H2.out _ HB1.out).mono ?_); rintro e w2 ⟨r2, rfl, ho, hb⟩; have HO2 := Lib.hid ho; have HB2 := Lib.hid hb; have HB3 := Lib.hid (below_step HB1.out hb); clear ho hb)
    | (go_at_call 19; (with_reducible refine (eqf_any _ _ (ofA t l1) (ofA t l2) _ ((IsR.of_ownA HO1.out).kept HB2.out) (IsR.of_ownA HO2.out) (HK1.out _ HB3.out) (HK2.out _ HB3.out)).mono ?_); rintro e w3 ⟨b, rfl, hiff, hb⟩; have HIF := Lib.hid hiff; have HB4 := Lib.hid (below_step HB3.out hb); clear hiff hb))
  go_ret
  exact ⟨b, rfl, HIF.out, HB4.out⟩
end Go.Proofs.Ytemmekpmoigdeaa
