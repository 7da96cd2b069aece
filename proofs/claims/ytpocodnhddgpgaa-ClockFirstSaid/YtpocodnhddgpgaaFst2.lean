/- The walk of ClockFirst. -/
import Derived.Test.YtpocodnhddgpgaaFirst
import Derived.Test.YtpocodnhddgpgaaReg
namespace Go.Proofs.Ytpocodnhddgpgaa
open Go.RowKit Go.ChangeShapes Go.WideShapes

theorem Clks.one (w : World) (t l s : Int) : Clks (w.alloc (.cells #[.int .i64 t, .int .i64 l, .int .i64 s] 23)) (some ⟨w.heap.size, 0, none⟩) 1 w.heap.size 0 (fun _ => t) (fun _ => l) (fun _ => s) := by
  refine ⟨fun _ => rfl, fun _ => by simp, ?_, ?_, ?_⟩ <;> intro i hi <;> obtain rfl : i = 0 := by omega
  all_goals simp [go_sem]
theorem Clks.one1 (w : World) (x : Obj) (t l s : Int) : Clks ((w.alloc x).alloc (.cells #[.int .i64 t, .int .i64 l, .int .i64 s] 23)) (some ⟨w.heap.size + 1, 0, none⟩) 1 (w.heap.size + 1) 0 (fun _ => t) (fun _ => l) (fun _ => s) := by
  simpa using Clks.one (w.alloc x) t l s
theorem lo_one (t : Int) : lo (fun _ => t) 1 = t := by simp [lo]

theorem first_one (w : World) (x : Obj) (t l s : Int) :
    Calls Try.prog 13 #[.slice (some ⟨w.heap.size + 1, 0, none⟩) 1 1] ((w.alloc x).alloc (.cells #[.int .i64 t, .int .i64 l, .int .i64 s] 23)) fun e w' => e = .returned (.int .i64 t) ∧ Below ((w.alloc x).alloc (.cells #[.int .i64 t, .int .i64 l, .int .i64 s] 23)).heap.size ((w.alloc x).alloc (.cells #[.int .i64 t, .int .i64 l, .int .i64 s] 23)) w' :=
  (first_some _ 1 1 _ _ _ _ _ _ (Clks.one1 w x t l s) (by omega) (by omega)).mono fun _ _ ⟨he, hw⟩ => ⟨by rw [he, lo_one], hw⟩
def flatM (M : Nat → Int) (k : Nat) : List Value := (List.range k).flatMap fun i => [.int .i64 (M i), .int .i64 0, .int .i64 0]
theorem flatM_succ (M : Nat → Int) (k : Nat) : flatM M (k + 1) = flatM M k ++ [.int .i64 (M k), .int .i64 0, .int .i64 0] := by
  simp [flatM, List.range_succ]
theorem flatM_length (M : Nat → Int) (k : Nat) : (flatM M k).length = k * 3 := by
  induction k with
  | zero => rfl
  | succ k ih => rw [flatM_succ, List.length_append, ih]; simp; omega
theorem flatM_at (M : Nat → Int) (k i : Nat) (hi : i < k) : (flatM M k)[i * 3]? = some (.int .i64 (M i)) ∧ (flatM M k)[i * 3 + 1]? = some (.int .i64 0) ∧ (flatM M k)[i * 3 + 2]? = some (.int .i64 0) := by
  induction k with
  | zero => omega
  | succ k ih =>
    have hl := flatM_length M k
    rw [flatM_succ]
    by_cases h : i < k
    · have := ih h
      rw [List.getElem?_append_left (by omega), List.getElem?_append_left (by omega), List.getElem?_append_left (by omega)]
      exact this
    · obtain rfl : i = k := by omega
      rw [List.getElem?_append_right (by omega), List.getElem?_append_right (by omega), List.getElem?_append_right (by omega), hl]
      simp
theorem flatM_at0 (M : Nat → Int) (k i : Nat) (hi : i < k) : (flatM M k)[i * 3]? = some (.int .i64 (M i)) := (flatM_at M k i hi).1
theorem flatM_at1 (M : Nat → Int) (k i : Nat) (hi : i < k) : (flatM M k)[i * 3 + 1]? = some (.int .i64 0) := (flatM_at M k i hi).2.1
theorem flatM_at2 (M : Nat → Int) (k i : Nat) (hi : i < k) : (flatM M k)[i * 3 + 2]? = some (.int .i64 0) := (flatM_at M k i hi).2.2
theorem lo_le (M : Nat → Int) (n : Nat) : ∀ i, i < n → lo M n ≤ M i := by
  induction n with
  | zero => intro i hi; omega
  | succ n ih =>
    intro i hi
    simp only [lo]
    by_cases h : i < n
    · have := ih i h
      split <;> omega
    · obtain rfl : i = n := by omega
      split <;> omega
theorem lo_mem (M : Nat → Int) (n : Nat) (hn : 0 < n) : ∃ i, i < n ∧ lo M n = M i := by
  induction n with
  | zero => omega
  | succ n ih =>
    simp only [lo]
    by_cases h : n = 0
    · subst h
      exact ⟨0, by omega, by simp [lo]⟩
    · obtain ⟨i, hi, he⟩ := ih (by omega)
      split
      · exact ⟨n, by omega, rfl⟩
      · exact ⟨i, by omega, he⟩
theorem lo_same (M N : Nat → Int) (n m : Nat) (hn : 0 < n) (hm : 0 < m) (h1 : ∀ i, i < n → ∃ j, j < m ∧ M i = N j) (h2 : ∀ j, j < m → ∃ i, i < n ∧ N j = M i) : lo M n = lo N m := by
  obtain ⟨i, hi, he⟩ := lo_mem M n hn
  obtain ⟨j, hj, hf⟩ := lo_mem N m hm
  obtain ⟨j', hj', e1⟩ := h1 i hi
  obtain ⟨i', hi', e2⟩ := h2 j hj
  have a1 := lo_le N m j' hj'
  have a2 := lo_le M n i' hi'
  omega
/-- from k on, then the first q -/
def rot (M : Nat → Int) (k q : Nat) (i : Nat) : Int := if i < k - q then M (q + i) else M (i - (k - q))
theorem lo_rot (M : Nat → Int) (k q : Nat) (hk : 0 < k) (hq : q ≤ k) : lo (rot M k q) (0 + (k - q) + q) = lo M k := by
  refine lo_same _ _ _ _ (by omega) hk (fun i hi => ?_) (fun j hj => ?_)
  · unfold rot
    split
    · exact ⟨q + i, by omega, rfl⟩
    · exact ⟨i - (k - q), by omega, rfl⟩
  · by_cases h : q ≤ j
    · exact ⟨j - q, by omega, by unfold rot; rw [if_pos (by omega)]; congr 1; omega⟩
    · exact ⟨k - q + j, by omega, by unfold rot; rw [if_neg (by omega)]; congr 1; omega⟩
def more (M : Nat → Int) (k : Nat) (i : Nat) : Int := if i < k then M i else 0
theorem lo_more (M : Nat → Int) (k : Nat) (h : ∀ i, 1 ≤ M i) : lo (more M k) (k + 1) = 0 := by
  have a1 := lo_le (more M k) (k + 1) k (by omega)
  obtain ⟨i, hi, he⟩ := lo_mem (more M k) (k + 1) (by omega)
  have e1 : more M k k = 0 := by unfold more; rw [if_neg (by omega)]
  rw [e1] at a1
  have e2 : 0 ≤ more M k i := by
    unfold more
    split
    · have := h i; omega
    · omega
  omega
theorem flatM_ext {M N : Nat → Int} {k : Nat} (h : ∀ i, i < k → M i = N i) : flatM M k = flatM N k := by
  unfold flatM
  rw [List.flatMap_def, List.flatMap_def, List.map_congr_left fun i hi => ?_]
  rw [h i (List.mem_range.1 hi)]
theorem flatM_add (M : Nat → Int) (a b : Nat) : flatM M (a + b) = flatM M a ++ flatM (fun i => M (a + i)) b := by
  induction b with
  | zero => simp [flatM]
  | succ b ih => rw [← Nat.add_assoc, flatM_succ, ih, flatM_succ, List.append_assoc]
theorem flatM_more (M : Nat → Int) (k : Nat) : flatM M k ++ [.int .i64 0, .int .i64 0, .int .i64 0] = flatM (more M k) (k + 1) := by
  rw [flatM_succ, flatM_ext (M := M) (N := more M k) (fun i hi => by unfold more; rw [if_pos hi])]
  simp [more]
theorem flatM_drop (M : Nat → Int) (k q : Nat) (h : q ≤ k) : (flatM M k).drop (q * 3) = flatM (fun i => M (q + i)) (k - q) := by
  have := flatM_add M q (k - q)
  rw [show q + (k - q) = k by omega] at this
  rw [this, List.drop_append_of_le_length (by rw [flatM_length]; omega), List.drop_of_length_le (by rw [flatM_length]; omega), List.nil_append]
theorem flatM_take (M : Nat → Int) (k q : Nat) (h : q ≤ k) : (flatM M k).take (q * 3) = flatM M q := by
  have := flatM_add M q (k - q)
  rw [show q + (k - q) = k by omega] at this
  rw [this, List.take_append_of_le_length (by rw [flatM_length]; omega), List.take_of_length_le (by rw [flatM_length]; omega)]
theorem flatM_rot (M : Nat → Int) (k q : Nat) : flatM (fun i => M (q + i)) (k - q) ++ flatM M q = flatM (rot M k q) (0 + (k - q) + q) := by
  rw [show 0 + (k - q) + q = (k - q) + q by omega, flatM_add]
  congr 1
  · exact flatM_ext fun i hi => by unfold rot; rw [if_pos hi]
  · exact flatM_ext fun i hi => by unfold rot; rw [if_neg (by omega)]; congr 1; omega
theorem flatM_one (M : Nat → Int) (k : Nat) : ∀ u ∈ flatM M k, u.oneCell' = true := by
  intro u hu
  simp [flatM] at hu
  rcases hu with ⟨_, _, rfl | rfl | rfl⟩ <;> rfl
theorem cells_of_own {w : World} {base g cap n m : Nat} {M : Nat → Int} (h : w.ownsRow base 23 3 (.slice (some ⟨g, 0, none⟩) n cap) n (flatM M n)) (q : Nat) (hq : q + m ≤ n) :
    ∀ j u, (flatM (fun i => M (q + i)) m)[j]? = some u → w.cell? ((⟨g, q * 3, none⟩ : Addr).add j) = some u := by
  intro j u hu
  have hc := h.cells (g := g) rfl (q * 3 + j) u ?_
  · have hadd : ∀ a b, (⟨g, a, none⟩ : Addr).add b = ⟨g, a + b, none⟩ := fun a b => by unfold Addr.add; split <;> simp_all
    rw [hadd] at hc ⊢
    simpa using hc
  · have hl := (List.getElem?_eq_some_iff.1 hu).1
    rw [flatM_length] at hl
    have e := flatM_add M (q + m) (n - (q + m))
    rw [show q + m + (n - (q + m)) = n by omega, flatM_add M q m] at e
    rw [e, List.getElem?_append_left (by simp [flatM_length]; omega), List.getElem?_append_right (by simp [flatM_length]), flatM_length, show q * 3 + j - q * 3 = j by omega]
    exact hu
theorem row_cells (w : World) (xs : Array Value) (e : TypeId) : ∀ j u, xs.toList[j]? = some u → (w.alloc (.cells xs e)).cell? ((⟨w.heap.size, 0, none⟩ : Addr).add j) = some u := by
  intro j u hu
  have hadd : (⟨w.heap.size, 0, none⟩ : Addr).add j = ⟨w.heap.size, j, none⟩ := by unfold Addr.add; split <;> simp_all
  rw [hadd]
  simp only [World.cell?]
  rw [heap_alloc_new]
  simpa using hu
theorem row_cells3 (w : World) (x y : Obj) (xs : Array Value) (e : TypeId) : ∀ j u, xs.toList[j]? = some u → (((w.alloc x).drew.alloc y).alloc (.cells xs e)).cell? ((⟨w.heap.size + 2, 0, none⟩ : Addr).add j) = some u := by
  intro j u hu
  have h := row_cells ((w.alloc x).drew.alloc y) xs e j u hu
  rw [show ((w.alloc x).drew.alloc y).heap.size = w.heap.size + 2 by simp] at h
  exact h
theorem cells_of_own0 {w : World} {base g cap n : Nat} {M : Nat → Int} (h : w.ownsRow base 23 3 (.slice (some ⟨g, 0, none⟩) n cap) n (flatM M n)) (m : Nat) (hq : m ≤ n) :
    ∀ j u, (flatM M m)[j]? = some u → w.cell? ((⟨g, 0, none⟩ : Addr).add j) = some u := by
  have := cells_of_own h 0 (m := m) (by omega)
  simpa using this
theorem own_apart {w : World} {base g n cap m : Nat} {e : TypeId} {size : Nat} {v : Value} {xs : List Value} (h : w.ownsRow base e size v n xs) (hg : g < base) :
    (Value.slice (some ⟨g, 0, none⟩) m cap).ownBlock = none ∨ (Value.slice (some ⟨g, 0, none⟩) m cap).ownBlock ≠ v.ownBlock := by
  right
  intro hh
  have := h.lt g (by rw [← hh]; rfl)
  omega
theorem clks_of {w : World} {base g cap k : Nat} {M : Nat → Int} (h : w.ownsRow base 23 3 (.slice (some ⟨g, 0, none⟩) k cap) k (flatM M k)) (hg : g < w.heap.size) : Clks w (some ⟨g, 0, none⟩) k g 0 M (fun _ => 0) (fun _ => 0) := by
  have hc := h.cells (g := g) rfl
  have hadd : ∀ j, (⟨g, 0, none⟩ : Addr).add j = ⟨g, 0 + j, none⟩ := fun j => by unfold Addr.add; split <;> simp_all
  refine ⟨fun _ => rfl, fun _ => hg, fun i hi => ?_, fun i hi => ?_, fun i hi => ?_⟩
  · rw [← hadd]; exact hc _ _ (flatM_at0 M k i hi)
  · rw [show 0 + i * 3 + 1 = 0 + (i * 3 + 1) by omega, ← hadd]; exact hc _ _ (flatM_at1 M k i hi)
  · rw [show 0 + i * 3 + 2 = 0 + (i * 3 + 2) by omega, ← hadd]; exact hc _ _ (flatM_at2 M k i hi)
theorem info23 : (Try.prog.info? 23).map (fun i => (i.zero, i.size, i.bytes)) = some (some (.agg #[.int .i64 0, .int .i64 0, .int .i64 0]), 3, 24) := by kernel_rfl

theorem lo_succ0 (M : Nat → Int) : lo M (0 + 1) = M 0 := by simp [lo]


set_option maxRecDepth 100000 in
set_option maxHeartbeats 4000000 in
theorem cfirst_any (W : World) (a1 : Option Addr) (len1 cap1 : Nat) (hr1 : Rd Try.prog W 31 [.slice a1 len1 cap1]) (cut : Int) (_hcut : (Lit.int .i64 cut).wf = true) :
    Calls Try.prog 6 #[.slice a1 len1 cap1, .int .i64 cut] W fun e w' => e = .returned (.bool true) ∧ Below W.heap.size W w' := by
  obtain ⟨hlen1, b1, o1, X1, hA1⟩ := ints_of hr1 Try.underlying31 Try.underlying3 (by kernel_rfl)
  have HA1 := Lib.hid hA1
  unfold maxLen at hlen1
  clear hr1 hA1
  obtain ⟨M, hM⟩ : ∃ M : Nat → Int, ∀ i, within (X1 i) 1 1099511627776 = M i := ⟨_, fun _ => rfl⟩
  have HM := Lib.hid hM
  have HMb := Lib.hid (fun i => hM i ▸ within_bd (X1 i) 1 1099511627776 (by omega) : ∀ i, 1 ≤ M i ∧ M i ≤ 1099511627776)
  clear hM
  obtain ⟨i0, hi23, hz0, hz1, hz2⟩ := info_parts info23
  have HI := Lib.hid (And.intro hi23 (And.intro hz0 (And.intro hz1 hz2)))
  clear hi23 hz0 hz1 hz2
  go_enter Try.func6, Try.ntmps6
  go_wp2
  go_loopg [5, 6, 7] 12 (fun g v5 v6 v7 wr => ∃ k : Nat, k ≤ 12 ∧ g = 12 - k ∧ v6 = .int .i64 (if k = 0 then 0 else lo M k) ∧ v7 = .int .i64 k ∧
    wr.ownsRow W.heap.size 23 3 v5 k (flatM M k) ∧ (k = 0 → v5 = .slice none 0 0) ∧ Below W.heap.size W wr)
  case atStart => exact ⟨0, by omega, rfl, rfl, rfl, World.ownsRow_nil _ _ _ _, fun _ => rfl, Below.refl _ _⟩
  case round =>
    obtain ⟨k, hk, rfl, rfl, rfl, hown, hnil, hb⟩ := hrel
    have HB := Lib.hid hb
    have hz := hb.size
    have HO := Lib.hid hown
    by_cases hlt : k < len1 ∧ k < 12
    · obtain ⟨hlt, h15⟩ := hlt
      obtain ⟨h1, h2, h3, h4⟩ := HA1.out.below HB.out
      obtain rfl := h1 (by omega)
      have hc0 := h3 k hlt
      have hbb := h2 (by omega)
      clear h1 h2 h3 h4 hown hb hnil
      obtain ⟨ht0, ht1⟩ := HMb.out k
      have HB1 := Lib.hid ((HB.out.alloc hz (.cells #[.int .i64 (M k), .int .i64 0, .int .i64 0] 23)).alloc (by simp; omega) (.cells #[.int .i64 (M k), .int .i64 0, .int .i64 0] 23))
      have HO1 := Lib.hid ((HO.out.alloc (.cells #[.int .i64 (M k), .int .i64 0, .int .i64 0] 23)).alloc (.cells #[.int .i64 (M k), .int .i64 0, .int .i64 0] 23))
      rcases (by omega : k = 0 ∨ 0 < k) with hk0 | hk0
      · have HL := Lib.hid (show lo M (k + 1) = M k by subst hk0; exact lo_succ0 M)
        have hk1 : (k = 0) = True := by simp [hk0]
        have hk2 : ((k : Int) == 0) = true := by simp [hk0]
        have HK0 := Lib.hid hk0
        clear hk0
        simp only [hk1, if_true]
        go_wp2_with (first
          | (go_at_call 12; (with_reducible refine (within_any _ _ _ _ (by omega) (by omega) (by omega)).mono ?_); rintro e w1 ⟨rfl, rfl⟩; rw [HM.out])
          | (go_at_call 7; (with_reducible refine (adv_yes_x _ _ _ _ _ _ _ (clk_new _ _ _ _) (by omega) (by omega)).mono ?_); rintro e w' ⟨rfl, rfl⟩)
          | (go_at_call 13; (with_reducible refine (first_one _ _ _ _ _).mono ?_); rintro e w3 ⟨rfl, hb⟩; obtain ⟨hc, hf⟩ := bcell hb; have hz3 := (by have := hb.size; simp at this; omega : wr.heap.size + 2 ≤ w3.heap.size); have HB2 := Lib.hid (below_step HB1.out hb); have HO2 := Lib.hid (HO1.out.kept (grown_of_below hb none) (by cases u5.ownBlock <;> simp)); clear hb)
          | (at_builtin; refine wpList_append_own _ rfl (.tmp 45) (.tmp 47) 34 rfl W.heap.size 23 i0 _ 3 24 Try.underlying34 HI.out.1 HI.out.2.1 HI.out.2.2.1 HI.out.2.2.2 rfl (by decide) u5 k _ rfl (HO2.out.alloc _) ⟨w3.heap.size, 0, none⟩ 1 1 [.int .i64 (M k), .int .i64 0, .int .i64 0] rfl rfl (row_cells _ _ _) (by simp [Value.oneCell']) (by unfold maxLen; omega) (by omega) (by simp; omega) ?_; intro v' w5 hown5 hgrow5 _; have HO5 := Lib.hid hown5; have HB5 := Lib.hid ((HB2.out.alloc HB2.out.size (.cells #[.int .i64 (M k), .int .i64 0, .int .i64 0] 23)).grown hgrow5 (by simp; omega) (fun q hq => (HO2.out.lt q hq).1)); clear hown5 hgrow5))
        go_roundg (12 - (k + 1))
        case measure => omega
        case rel => exact ⟨k + 1, by omega, rfl, by rw [if_neg (by omega)]; simp [HL.out], by go_num, by rw [flatM_succ]; exact HO5.out, fun h => absurd h (by omega), HB5.out⟩
      · have hk1 : (k = 0) = False := by simp; omega
        have hk2 : ((k : Int) == 0) = false := by simp; omega
        simp only [hk1, if_false]
        rcases (by omega : M k < lo M k ∨ ¬ M k < lo M k) with hm | hm
        · have HL := Lib.hid ((show lo M (k + 1) = if M k < lo M k then M k else lo M k from rfl).trans (if_pos hm))
          go_wp2_with (first
            | (go_at_call 12; (with_reducible refine (within_any _ _ _ _ (by omega) (by omega) (by omega)).mono ?_); rintro e w1 ⟨rfl, rfl⟩; rw [HM.out])
            | (go_at_call 7; (with_reducible refine (adv_yes_x _ _ _ _ _ _ _ (clk_new _ _ _ _) (by omega) (by omega)).mono ?_); rintro e w' ⟨rfl, rfl⟩)
            | (go_at_call 13; (with_reducible refine (first_one _ _ _ _ _).mono ?_); rintro e w3 ⟨rfl, hb⟩; obtain ⟨hc, hf⟩ := bcell hb; have hz3 := (by have := hb.size; simp at this; omega : wr.heap.size + 2 ≤ w3.heap.size); have HB2 := Lib.hid (below_step HB1.out hb); have HO2 := Lib.hid (HO1.out.kept (grown_of_below hb none) (by cases u5.ownBlock <;> simp)); clear hb)
            | (at_builtin; refine wpList_append_own _ rfl (.tmp 45) (.tmp 47) 34 rfl W.heap.size 23 i0 _ 3 24 Try.underlying34 HI.out.1 HI.out.2.1 HI.out.2.2.1 HI.out.2.2.2 rfl (by decide) u5 k _ rfl (HO2.out.alloc _) ⟨w3.heap.size, 0, none⟩ 1 1 [.int .i64 (M k), .int .i64 0, .int .i64 0] rfl rfl (row_cells _ _ _) (by simp [Value.oneCell']) (by unfold maxLen; omega) (by omega) (by simp; omega) ?_; intro v' w5 hown5 hgrow5 _; have HO5 := Lib.hid hown5; have HB5 := Lib.hid ((HB2.out.alloc HB2.out.size (.cells #[.int .i64 (M k), .int .i64 0, .int .i64 0] 23)).grown hgrow5 (by simp; omega) (fun q hq => (HO2.out.lt q hq).1)); clear hown5 hgrow5))
          go_roundg (12 - (k + 1))
          case measure => omega
          case rel => exact ⟨k + 1, by omega, rfl, by rw [if_neg (by omega)]; simp [HL.out], by go_num, by rw [flatM_succ]; exact HO5.out, fun h => absurd h (by omega), HB5.out⟩
        · have HL := Lib.hid ((show lo M (k + 1) = if M k < lo M k then M k else lo M k from rfl).trans (if_neg hm))
          go_wp2_with (first
            | (go_at_call 12; (with_reducible refine (within_any _ _ _ _ (by omega) (by omega) (by omega)).mono ?_); rintro e w1 ⟨rfl, rfl⟩; rw [HM.out])
            | (go_at_call 7; (with_reducible refine (adv_yes_x _ _ _ _ _ _ _ (clk_new _ _ _ _) (by omega) (by omega)).mono ?_); rintro e w' ⟨rfl, rfl⟩)
            | (go_at_call 13; (with_reducible refine (first_one _ _ _ _ _).mono ?_); rintro e w3 ⟨rfl, hb⟩; obtain ⟨hc, hf⟩ := bcell hb; have hz3 := (by have := hb.size; simp at this; omega : wr.heap.size + 2 ≤ w3.heap.size); have HB2 := Lib.hid (below_step HB1.out hb); have HO2 := Lib.hid (HO1.out.kept (grown_of_below hb none) (by cases u5.ownBlock <;> simp)); clear hb)
            | (at_builtin; refine wpList_append_own _ rfl (.tmp 45) (.tmp 47) 34 rfl W.heap.size 23 i0 _ 3 24 Try.underlying34 HI.out.1 HI.out.2.1 HI.out.2.2.1 HI.out.2.2.2 rfl (by decide) u5 k _ rfl (HO2.out.alloc _) ⟨w3.heap.size, 0, none⟩ 1 1 [.int .i64 (M k), .int .i64 0, .int .i64 0] rfl rfl (row_cells _ _ _) (by simp [Value.oneCell']) (by unfold maxLen; omega) (by omega) (by simp; omega) ?_; intro v' w5 hown5 hgrow5 _; have HO5 := Lib.hid hown5; have HB5 := Lib.hid ((HB2.out.alloc HB2.out.size (.cells #[.int .i64 (M k), .int .i64 0, .int .i64 0] 23)).grown hgrow5 (by simp; omega) (fun q hq => (HO2.out.lt q hq).1)); clear hown5 hgrow5))
          go_roundg (12 - (k + 1))
          case measure => omega
          case rel => exact ⟨k + 1, by omega, rfl, by rw [if_neg (by omega)]; simp [HL.out], by go_num, by rw [flatM_succ]; exact HO5.out, fun h => absurd h (by omega), HB5.out⟩
    · have case1 : len1 ≤ k ∨ k < len1 ∧ 12 ≤ k := by omega
      clear hlt
      obtain ⟨wo, rfl⟩ : ∃ wo : World, wo = wr := ⟨_, rfl⟩
      obtain ⟨q, hq, hq1⟩ : ∃ q : Nat, within cut 0 k = (q : Int) ∧ q ≤ k := by
        have := within_bd cut 0 k (by omega)
        exact ⟨(within cut 0 k).toNat, by omega, by omega⟩
      have HQ := Lib.hid hq
      clear hq
      rcases (by omega : k = 0 ∨ 0 < k) with hk0 | hk0
      · obtain rfl := hnil hk0
        obtain rfl : q = 0 := by omega
        have HKK := Lib.hid hk0
        have hk1 : (k = 0) = True := by simp [hk0]
        simp only [hk1, if_true]
        have hkc : (k : Int) = 0 := by simp [hk0]
        have hq0 := within_bd cut 0 0 (by omega)
        have HQ0 := Lib.hid (show within cut 0 0 = 0 by omega)
        clear hnil hb hown hk0 hq0
        rcases case1 with hx | ⟨hx, hx2⟩
        rotate_left
        · exfalso
          have := HKK.out
          omega
        · have HB1 := Lib.hid ((HB.out.alloc hz (.cells #[.int .i64 0, .int .i64 0, .int .i64 0] 23)).drew)
          go_wp2_with (first
            | (go_at_call 12; (with_reducible refine (within_any _ _ _ _ (by omega) (by omega) (by omega)).mono ?_); rintro e w1 ⟨rfl, rfl⟩; rw [HQ0.out]))
          refine wp_region_planO (fun _ => True) [(true, 0), (true, 2), (false, 1), (true, 3), (true, 4), (true, 6), (true, 7), (true, 8), (true, 10), (true, 11), (true, 12), (true, 15), (false, 5), (false, 9), (false, 13), (false, 14), (true, 16), (true, 17), (true, 18), (true, 19), (false, 20), (false, 21), (false, 22), (false, 23), (true, 24), (true, 25), (true, 26), (false, 27), (true, 28), (true, 29)] ?planL0
            (by kernel_rfl) (by kernel_rfl) (by kernel_rfl) ?planH0 (by intro c a d v w; cases d <;> exact fun h => h) trivial ?_
          case planH0 =>
            simp only [planOps, List.map_cons, List.map_nil, List.getElem?_toArray, List.getElem?_cons_zero, List.getElem?_cons_succ]
            try rfl
          iterate 2 (refine wpPlan_take (v := ?_) (by rfl) (fun w' hS => ?_) ?_; rotate_left; (focus (go_simp; with_reducible rfl)); simp only [Act.put, List.setIfInBounds_toArray, List.set_cons_zero, List.set_cons_succ])
          refine wpPlan_do (by rfl) (fun K hK => ?_)
          go_wp2_with (go_at_call 13; (with_reducible refine (first_none _ _ _).mono ?_); rintro e w' ⟨rfl, rfl⟩)
          (try refine ⟨trivial, ?_⟩)
          iterate 9 (refine wpPlan_take (v := ?_) (by rfl) (fun w' hS => ?_) ?_; rotate_left; (focus (go_simp; with_reducible rfl)); simp only [Act.put, List.setIfInBounds_toArray, List.set_cons_zero, List.set_cons_succ])
          refine wpPlan_do (by rfl) (fun K hK => ?_)
          go_wp2_with fail
          (try refine ⟨trivial, ?_⟩)
          refine wpPlan_do (by rfl) (fun K hK => ?_)
          go_wp2_with fail
          (try refine ⟨trivial, ?_⟩)
          refine wpPlan_do (by rfl) (fun K hK => ?_)
          go_wp2_with fail
          (try refine ⟨trivial, ?_⟩)
          refine wpPlan_do (by rfl) (fun K hK => ?_)
          go_wp2_with (go_at_call 13;  (with_reducible refine (first_none _ _ _).mono ?_); rintro e w' ⟨rfl, rfl⟩)
          (try refine ⟨trivial, ?_⟩)
          iterate 4 (refine wpPlan_take (v := ?_) (by rfl) (fun w' hS => ?_) ?_; rotate_left; (focus (go_simp; with_reducible rfl)); simp only [Act.put, List.setIfInBounds_toArray, List.set_cons_zero, List.set_cons_succ])
          refine wpPlan_do (by rfl) (fun K hK => ?_)
          go_wp2_with fail
          (try refine ⟨trivial, ?_⟩)
          refine wpPlan_do (by rfl) (fun K hK => ?_)
          go_wp2_with fail
          (try refine ⟨trivial, ?_⟩)
          have HB2 := Lib.hid ((HB1.out.alloc HB1.out.size (.cells #[] 23)).alloc (by have := HB1.out.size; simp at this ⊢; omega) (.cells #[.int .i64 0, .int .i64 0, .int .i64 0] 23))
          refine wpPlan_do (by rfl) (fun K hK => ?_)
          refine wp_append_own _ (.tmp 72) (.tmp 74) 34 rfl W.heap.size 23 i0 _ 3 24 Try.underlying34 HI.out.1 HI.out.2.1 HI.out.2.2.1 HI.out.2.2.2 rfl (by decide) (.slice none 0 0) 0 [] rfl (World.ownsRow_nil _ _ _ _) ⟨wo.heap.size + 2, 0, none⟩ 1 1 [.int .i64 0, .int .i64 0, .int .i64 0] rfl rfl (row_cells3 _ _ _ _ _) (by simp [Value.oneCell']) (by unfold maxLen; omega) (by omega) (by simp; omega) ?_
          intro v3 w8 ho8 hg8 _
          have HB8 := Lib.hid (HB2.out.grown hg8 (by simp; omega) (fun k hk => by simp [Value.ownBlock] at hk))
          refine hK _ _ ⟨trivial, ?_⟩
          simp only [Act.put, List.setIfInBounds_toArray, List.set_cons_zero, List.set_cons_succ]
          have e8 := flatM_more M 0
          rw [show flatM M 0 = [] from rfl] at e8
          rw [e8] at ho8
          obtain ⟨g3, cap3, rfl, hg31, hg32, _, _, _⟩ := own_form ho8 (by omega)
          have HK8 := Lib.hid (clks_of ho8 hg32)
          have HR8 := Lib.hid (lo_more M 0 (fun i => (HMb.out i).1))
          refine wpPlan_do (by rfl) (fun K hK => ?_)
          go_wp2_with (go_at_call 13; (with_reducible refine (first_some _ _ _ _ _ _ _ _ _ HK8.out (by omega) (by omega)).mono ?_); rintro e w9 ⟨rfl, hb⟩; rw [HR8.out]; have HB9 := Lib.hid (below_step HB8.out hb); clear hb)
          refine ⟨trivial, ?_⟩
          iterate 3 (refine wpPlan_take (v := ?_) (by rfl) (fun w' hS => ?_) ?_; rotate_left; (focus (go_simp; with_reducible rfl)); simp only [Act.put, List.setIfInBounds_toArray, List.set_cons_zero, List.set_cons_succ])
          refine wpPlan_do (by rfl) (fun K hK => ?_)
          go_wp2_with (go_at_call 3; refine (runs_any _).mono ?_; rintro e w10 ⟨rfl, hb⟩; have HB10 := Lib.hid (below_step HB9.out hb); clear hb)
          refine ⟨trivial, ?_⟩
          iterate 2 (refine wpPlan_take (v := ?_) (by rfl) (fun w' hS => ?_) ?_; rotate_left; (focus (go_simp; with_reducible rfl)); simp only [Act.put, List.setIfInBounds_toArray, List.set_cons_zero, List.set_cons_succ])
          refine wpPlan_nil ?_
          go_wp2
          go_ret
          exact ⟨rfl, HB10.out⟩
      · obtain ⟨g, cap, rfl, hg1, hg2, hcap, hcap2, hcs⟩ := own_form hown hk0
        have HC := Lib.hid hcs
        clear hcs
        have hk1 : (k = 0) = False := by simp; omega
        simp only [hk1, if_false]
        clear hnil hb hown
        have hq2 : q ≤ cap := by omega
        have hcq : ((cap = q) = True ∧ Hid (k - q = 0)) ∨ ((cap = q) = False ∧ Hid True) := by
          by_cases h : cap = q
          · exact .inl ⟨by simp [h], show k - q = 0 by omega⟩
          · exact .inr ⟨by simp [h], trivial⟩
        rcases hcq with ⟨hcq, HKQ⟩ | ⟨hcq, HKQ⟩
        all_goals rcases case1 with hx | ⟨hx, hx2⟩
        all_goals
          go_wp2_with (first
            | (go_at_call 12; (with_reducible refine (within_any _ _ _ _ (by omega) (by omega) (by omega)).mono ?_); rintro e w1 ⟨rfl, rfl⟩; rw [HQ.out]))
          have HB1 := Lib.hid ((HB.out.alloc hz (.cells #[.int .i64 0, .int .i64 0, .int .i64 0] 23)).drew)
          have HO1 := Lib.hid (show (wo.alloc (.cells #[.int .i64 0, .int .i64 0, .int .i64 0] 23)).drew.ownsRow _ _ _ _ _ _ from HO.out.alloc (.cells #[.int .i64 0, .int .i64 0, .int .i64 0] 23))
          have HK1 := Lib.hid (clks_of HO1.out (by simp; omega))
          have HZ1 := Lib.hid (show ClkAt (wo.alloc (.cells #[.int .i64 0, .int .i64 0, .int .i64 0] 23)).drew wo.heap.size 0 0 0 0 from (clk_new wo 0 0 0).of_block rfl)
          refine wp_region_planO (fun _ => True) [(true, 0), (true, 2), (false, 1), (true, 3), (true, 4), (true, 6), (true, 7), (true, 8), (true, 10), (true, 11), (true, 12), (true, 15), (false, 5), (false, 9), (false, 13), (false, 14), (true, 16), (true, 17), (true, 18), (true, 19), (false, 20), (false, 21), (false, 22), (false, 23), (true, 24), (true, 25), (true, 26), (false, 27), (true, 28), (true, 29)] ?planL
            (by kernel_rfl) (by kernel_rfl) (by kernel_rfl) ?planH (by intro c a d v w; cases d <;> exact fun h => h) trivial ?_
          case planH =>
            simp only [planOps, List.map_cons, List.map_nil, List.getElem?_toArray, List.getElem?_cons_zero, List.getElem?_cons_succ]
            try rfl
          iterate 2 (refine wpPlan_take (v := ?_) (by rfl) (fun w' hS => ?_) ?_; rotate_left; (focus (go_simp; with_reducible rfl)); simp only [Act.put, List.setIfInBounds_toArray, List.set_cons_zero, List.set_cons_succ])
          refine wpPlan_do (by rfl) (fun K hK => ?_)
          go_wp2_with (go_at_call 13; (with_reducible refine (first_some _ _ _ _ _ _ _ _ _ HK1.out hk0 (by omega)).mono ?_); rintro e w3 ⟨rfl, hb⟩; obtain ⟨hc, hf⟩ := bcell hb; have hz3 := (by have := hb.size; simp at this; omega : wo.heap.size + 1 ≤ w3.heap.size); have HB3 := Lib.hid (below_step HB1.out hb); have HO3 := Lib.hid (HO1.out.kept (grown_of_below hb none) (Classical.em _)); have HZ3 := Lib.hid (HZ1.out.below hb); clear hb)
          refine ⟨trivial, ?_⟩
          iterate 9 (refine wpPlan_take (v := ?_) (by rfl) (fun w' hS => ?_) ?_; rotate_left; (focus (go_simp; with_reducible rfl)); simp only [Act.put, List.setIfInBounds_toArray, List.set_cons_zero, List.set_cons_succ])
          refine wpPlan_do (by rfl) (fun K hK => ?_)
          go_wp2_with fail
          (try refine ⟨trivial, ?_⟩)
          refine wpPlan_do (by rfl) (fun K hK => ?_)
          first
            | (refine wp_append_own _ (.tmp 58) (.tmp 61) 34 rfl w3.heap.size 23 i0 _ 3 24 Try.underlying34 HI.out.1 HI.out.2.1 HI.out.2.2.1 HI.out.2.2.2 rfl (by decide) (.slice (some ⟨w3.heap.size, 0, none⟩) 0 0) 0 [] rfl (World.ownsRow_made w3 #[] 0 (Nat.le_refl _) (by unfold maxLen; omega) rfl) ⟨g, q * 3, none⟩ (k - q) (cap - q) (flatM (fun i => M (q + i)) (k - q)) ?_ (by rw [flatM_length]) (cells_of_own (HO3.out.alloc _) q (by omega)) (flatM_one _ _) (by unfold maxLen; omega) (by omega) (by simp) ?_; · (go_simp; done))
            | (refine wp_append_own _ (.tmp 58) (.tmp 61) 34 rfl w3.heap.size 23 i0 _ 3 24 Try.underlying34 HI.out.1 HI.out.2.1 HI.out.2.2.1 HI.out.2.2.2 rfl (by decide) (.slice (some ⟨w3.heap.size, 0, none⟩) 0 0) 0 [] rfl (World.ownsRow_made w3 #[] 0 (Nat.le_refl _) (by unfold maxLen; omega) rfl) ⟨g, 0, none⟩ (k - q) (cap - q) (flatM (fun i => M (q + i)) (k - q)) ?_ (by rw [flatM_length]) (fun j u hu => absurd hu (by simp [HKQ.out, flatM])) (flatM_one _ _) (by unfold maxLen; omega) (by omega) (by simp) ?_; · (go_simp; done))
          intro v1 w5 ho5 hg5 _
          have hz5 : wo.heap.size + 2 ≤ w5.heap.size := by have := hg5.size; simp at this; omega
          have hz53 : w3.heap.size ≤ w5.heap.size := by have := hg5.size; simp at this; omega
          have HO5 := Lib.hid ((HO3.out.alloc (.cells #[] 23)).kept hg5 (Or.inr (by simp [Value.ownBlock]; omega)))
          have HZ5 := Lib.hid ((HZ3.out.alloc (.cells #[] 23)).grown hg5 (fun k hk => by simp [Value.ownBlock] at hk; omega))
          have HB5 := Lib.hid ((HB3.out.alloc HB3.out.size (.cells #[] 23)).grown hg5 (by simp; omega) (fun k hk => by simp [Value.ownBlock] at hk; omega))
          refine hK _ _ ⟨trivial, ?_⟩
          simp only [Act.put, List.setIfInBounds_toArray, List.set_cons_zero, List.set_cons_succ]
          refine wpPlan_do (by rfl) (fun K hK => ?_)
          refine wp_append_own _ (.tmp 62) (.tmp 65) 34 rfl w3.heap.size 23 i0 _ 3 24 Try.underlying34 HI.out.1 HI.out.2.1 HI.out.2.2.1 HI.out.2.2.2 rfl (by decide) v1 (0 + (k - q)) _ rfl ho5 ⟨g, 0, none⟩ q cap (flatM M q) ?cx2 (by rw [flatM_length]) (cells_of_own0 HO5.out q hq1) (flatM_one _ _) (by unfold maxLen; omega) (by omega) (by omega) ?_
          case cx2 => go_simp
          intro v2 w6 ho6 hg6 _
          have hz6 : wo.heap.size + 2 ≤ w6.heap.size := by have := hg6.size; omega
          have HO6 := Lib.hid (HO5.out.kept hg6 (own_apart ho5 (by omega)))
          have HZ6 := Lib.hid (HZ5.out.grown hg6 (fun k hk => by have := ho5.lt k hk; omega))
          have HB6 := Lib.hid (HB5.out.grown hg6 (by have := HB5.out.size; omega) (fun k hk => by have := ho5.lt k hk; omega))
          refine hK _ _ ⟨trivial, ?_⟩
          simp only [Act.put, List.setIfInBounds_toArray, List.set_cons_zero, List.set_cons_succ]
          rw [List.nil_append, flatM_rot, show 0 + (k - q) + q = k by omega] at ho6
          obtain ⟨g2, cap2, rfl, hg21, hg22, _, _, _⟩ := own_form ho6 (by omega)
          have HK6 := Lib.hid (clks_of ho6 hg22)
          have HR := Lib.hid ((show 0 + (k - q) + q = k by omega) ▸ lo_rot M k q hk0 hq1)
          refine wpPlan_do (by rfl) (fun K hK => ?_)
          go_wp2_with (go_at_call 13; (with_reducible refine (first_some _ _ _ _ _ _ _ _ _ HK6.out (by omega) (by omega)).mono ?_); rintro e w7 ⟨rfl, hb⟩; rw [HR.out]; obtain ⟨hc, hf⟩ := bcell hb; have HB7 := Lib.hid (below_step HB6.out hb); have HO7 := Lib.hid (HO6.out.kept (grown_of_below hb none) (Classical.em _)); have HZ7 := Lib.hid (HZ6.out.below hb); have hz7 := (by have := hb.size; omega : wo.heap.size + 2 ≤ w7.heap.size); clear hb)
          refine ⟨trivial, ?_⟩
          iterate 4 (refine wpPlan_take (v := ?_) (by rfl) (fun w' hS => ?_) ?_; rotate_left; (focus (go_simp; with_reducible rfl)); simp only [Act.put, List.setIfInBounds_toArray, List.set_cons_zero, List.set_cons_succ])
          obtain ⟨k0, k1, k2, f0, f1, f2⟩ := HZ7.out
          refine wpPlan_do (by rfl) (fun K hK => ?_)
          go_wp2_with fail
          (try refine ⟨trivial, ?_⟩)
          refine wpPlan_do (by rfl) (fun K hK => ?_)
          go_wp2_with fail
          (try refine ⟨trivial, ?_⟩)
          refine wpPlan_do (by rfl) (fun K hK => ?_)
          refine wp_append_own _ (.tmp 72) (.tmp 74) 34 rfl W.heap.size 23 i0 _ 3 24 Try.underlying34 HI.out.1 HI.out.2.1 HI.out.2.2.1 HI.out.2.2.2 rfl (by decide) (.slice (some ⟨g, 0, none⟩) k cap) k _ rfl (HO7.out.alloc _) ⟨w7.heap.size, 0, none⟩ 1 1 [.int .i64 0, .int .i64 0, .int .i64 0] rfl rfl (row_cells _ _ _) (by simp [Value.oneCell']) (by unfold maxLen; omega) (by omega) (by simp; omega) ?_
          intro v3 w8 ho8 hg8 _
          have HB8 := Lib.hid ((HB7.out.alloc HB7.out.size (.cells #[.int .i64 0, .int .i64 0, .int .i64 0] 23)).grown hg8 (by simp; omega) (fun k hk => by simp [Value.ownBlock] at hk; omega))
          refine hK _ _ ⟨trivial, ?_⟩
          simp only [Act.put, List.setIfInBounds_toArray, List.set_cons_zero, List.set_cons_succ]
          rw [flatM_more] at ho8
          obtain ⟨g3, cap3, rfl, hg31, hg32, _, _, _⟩ := own_form ho8 (by omega)
          have HK8 := Lib.hid (clks_of ho8 hg32)
          have HR8 := Lib.hid (lo_more M k (fun i => (HMb.out i).1))
          refine wpPlan_do (by rfl) (fun K hK => ?_)
          go_wp2_with (go_at_call 13; (with_reducible refine (first_some _ _ _ _ _ _ _ _ _ HK8.out (by omega) (by omega)).mono ?_); rintro e w9 ⟨rfl, hb⟩; rw [HR8.out]; have HB9 := Lib.hid (below_step HB8.out hb); clear hb)
          refine ⟨trivial, ?_⟩
          iterate 3 (refine wpPlan_take (v := ?_) (by rfl) (fun w' hS => ?_) ?_; rotate_left; (focus (go_simp; with_reducible rfl)); simp only [Act.put, List.setIfInBounds_toArray, List.set_cons_zero, List.set_cons_succ])
          refine wpPlan_do (by rfl) (fun K hK => ?_)
          go_wp2_with (go_at_call 3; refine (runs_any _).mono ?_; rintro e w10 ⟨rfl, hb⟩; have HB10 := Lib.hid (below_step HB9.out hb); clear hb)
          refine ⟨trivial, ?_⟩
          iterate 2 (refine wpPlan_take (v := ?_) (by rfl) (fun w' hS => ?_) ?_; rotate_left; (focus (go_simp; with_reducible rfl)); simp only [Act.put, List.setIfInBounds_toArray, List.set_cons_zero, List.set_cons_succ])
          refine wpPlan_nil ?_
          go_wp2
          go_ret
          exact ⟨rfl, HB10.out⟩
end Go.Proofs.Ytpocodnhddgpgaa
