/- The closed sentence of chapter 20's runs. -/
import Derived.Test.YtemmekpmoigdeaaAns
import Derived.Test.YtemmekpmoigdeaaPlan
set_option linter.unusedSimpArgs false
set_option linter.unusedVariables false
set_option linter.unnecessarySimpa false
namespace Go.Proofs.Ytemmekpmoigdeaa
open Go.RowKit

theorem cellsA_get {l : List ActV} {i j : Nat} {x : ActV} {u : Value} (hi : l[i]? = some x) (hj : x.cs[j]? = some u) : (cellsA l)[i * 15 + j]? = some u := by
  unfold cellsA
  induction l generalizing i with
  | nil => simp at hi
  | cons a l ih =>
    have hl : a.cs.length = 15 := rfl
    rw [List.flatMap_cons]
    cases i with
    | zero =>
      obtain rfl : a = x := by simpa using hi
      rw [List.getElem?_append_left (by have := (List.getElem?_eq_some_iff.1 hj).1; omega), Nat.zero_mul, Nat.zero_add]
      exact hj
    | succ i =>
      rw [List.getElem?_append_right (by omega), hl, show (i + 1) * 15 + j - 15 = i * 15 + j by omega]
      exact ih (by simpa using hi)
theorem IsR.of_row (w : World) (l : List ActV) (xs : Array Value) (e : TypeId) (hx : xs.toList = cellsA l) (hl : l.length ≤ maxLen) : IsR ActV.cs 15 (w.alloc (.cells xs e)) (.slice (some ⟨w.heap.size, 0, none⟩) l.length l.length) l := by
  refine ⟨_, _, rfl, Nat.le_refl _, hl, w.heap.size, 0, fun _ => ⟨rfl, by simp⟩, fun i x hi j u hj => ?_⟩
  have h := row_cells w xs e (i * 15 + j) u (by rw [hx]; exact cellsA_get hi hj)
  have hadd : (⟨w.heap.size, 0, none⟩ : Addr).add (i * 15 + j) = ⟨w.heap.size, i * 15 + j, none⟩ := by unfold Addr.add; split <;> simp_all
  rwa [hadd, ← Nat.zero_add (i * 15 + j), ← Nat.add_assoc] at h
def P00 : PipeV := ⟨.slice none 0 0, [], 0, 0, 0, 0, 0⟩
def A0 : ActV := ⟨2, 0, 0, 0, P00, false, 0, 0, 0, 0⟩
def T0 : ActV := ⟨3, 5, 0, 0, P00, false, 0, 0, 0, 0⟩
def B0 : ActV := ⟨2, 1, 0, 0, P00, false, 0, 0, 0, 0⟩
def T00 : ActV := ⟨3, 0, 0, 0, P00, false, 0, 0, 0, 0⟩
theorem ok0 (w : World) (a : ActV) (h : a = A0 ∨ a = T0 ∨ a = B0 ∨ a = T00) : a.ok w := by
  rcases h with rfl | rfl | rfl | rfl <;> exact IsR.nil _ _ w
def N0 : AnsV := ⟨0, .slice none 0 0, [], .slice none 0 0, []⟩
theorem okN0 (w : World) : N0.ok w := ⟨IsR.nil _ _ w, IsR.nil _ _ w⟩
theorem of0 : ofA 0 [A0, T0, B0] = [A0, T0] := by simp [ofA, A0, T0, B0, ActV.own]
theorem of1 : ofA 0 [A0, T0] = [A0, T0] := by simp [ofA, A0, T0, ActV.own]
theorem of2 : ofA 0 [T0, A0] = [T0, A0] := by simp [ofA, A0, T0, ActV.own]
theorem of3 : ofA 0 [B0, A0, T00] = [A0, T00] := by simp [ofA, A0, B0, T00, ActV.own]
theorem al1 : ¬ alikeL [A0, T0] [T0, A0] := fun h => by
  have := h.2 0 A0 T0 rfl rfl
  simp [ActV.alike, ActV.same, A0, T0] at this
theorem al2 : alikeL [A0, T0] [A0, T00] := by
  refine ⟨rfl, fun i x y hx hy => ?_⟩
  match i, hx, hy with
  | 0, hx, hy =>
    obtain rfl : A0 = x := by simpa using hx
    obtain rfl : A0 = y := by simpa using hy
    simp [ActV.alike, ActV.same, PipeV.same]
  | 1, hx, hy =>
    obtain rfl : T0 = x := by simpa using hx
    obtain rfl : T00 = y := by simpa using hy
    simp [ActV.alike, T0, T00]
theorem low1 (v1 v2 : Value) (w : World) (h1 : IsR ActV.cs 15 w v1 [A0, T0]) (h2 : IsR ActV.cs 15 w v2 [T0, A0]) :
    Calls Try.prog 10 #[.int .i64 0, v1, v2] w fun e w' => e = .returned (.bool false) ∧ Below w.heap.size w w' := by
  refine (low_any 0 v1 v2 _ _ w h1 h2 (fun a ha => ok0 w a (by simp at ha; rcases ha with h | h <;> simp [h])) (fun a ha => ok0 w a (by simp at ha; rcases ha with h | h <;> simp [h])) (by simp) (by simp)).mono ?_
  rintro e w' ⟨b, rfl, hb, h⟩
  rw [of1, of2] at hb
  cases b with
  | false => exact ⟨rfl, h⟩
  | true => exact absurd (hb.1 rfl) al1
theorem low2 (v1 v2 : Value) (w : World) (h1 : IsR ActV.cs 15 w v1 [A0, T0, B0]) (h2 : IsR ActV.cs 15 w v2 [B0, A0, T00]) :
    Calls Try.prog 10 #[.int .i64 0, v1, v2] w fun e w' => e = .returned (.bool true) ∧ Below w.heap.size w w' := by
  refine (low_any 0 v1 v2 _ _ w h1 h2 (fun a ha => ok0 w a (by simp at ha; rcases ha with h | h | h <;> simp [h])) (fun a ha => ok0 w a (by simp at ha; rcases ha with h | h | h <;> simp [h])) (by simp) (by simp)).mono ?_
  rintro e w' ⟨b, rfl, hb, h⟩
  rw [of0, of3] at hb
  exact ⟨by rw [hb.2 al2], h⟩
theorem same0 (w : World) : Calls Try.prog 9 #[.agg #[.int .i64 2, .int .i64 0, .int .i64 0, .int .i64 0, .slice none 0 0, .int .i64 0, .int .i64 0, .int .i64 0, .int .i64 0, .int .i64 0, .bool false, .int .i64 0, .int .i64 0, .int .i64 0, .int .u64 0], .agg #[.int .i64 2, .int .i64 0, .int .i64 0, .int .i64 0, .slice none 0 0, .int .i64 0, .int .i64 0, .int .i64 0, .int .i64 0, .int .i64 0, .bool false, .int .i64 0, .int .i64 0, .int .i64 0, .int .u64 0]] w fun e w' => e = .returned (.bool true) ∧ Below w.heap.size w w' :=
  (same_any A0 A0 w (ok0 w A0 (by simp)) (ok0 w A0 (by simp))).mono fun e w' h => ⟨by rw [h.1]; simp [ActV.same, PipeV.same], h.2⟩
theorem ans0 (w : World) : Calls Try.prog 11 #[.agg #[.int .i64 0, .slice none 0 0, .slice none 0 0], .agg #[.int .i64 0, .slice none 0 0, .slice none 0 0]] w fun e w' => e = .returned (.bool true) ∧ Below w.heap.size w w' :=
  (ans_any N0 N0 w (okN0 w) (okN0 w)).mono fun e w' h => ⟨by rw [h.1]; simp [AnsV.same], h.2⟩
theorem of_runs (v : Value) (w : World) (h : IsR ActV.cs 15 w v [A0, T0, B0]) : Calls Try.prog 8 #[.int .i64 0, v] w fun e w' => ∃ g cap, e = .returned (.slice (some ⟨g, 0, none⟩) 2 cap) ∧ Below w.heap.size w w' ∧ 2 ≤ cap ∧ cap ≤ maxLen ∧ g < w'.heap.size ∧ w.heap.size ≤ g ∧ ∀ i x, [A0, T0][i]? = some x → ∀ j u, x.cs[j]? = some u → w'.cell? ⟨g, i * 15 + j, none⟩ = some u := by
  refine (of_any 0 v _ w h (fun a ha => ok0 w a (by simp at ha; rcases ha with h | h | h <;> simp [h])) (by simp)).mono ?_
  rintro e w' ⟨r, rfl, ho, hb⟩
  rw [of0] at ho
  obtain ⟨g, cap, rfl, hg, hg2, h1, h2, hc⟩ := own_form ho (by simp)
  exact ⟨g, cap, rfl, hb, h1, h2, hg2, hg, fun i x hi j u hj => hc _ _ (cellsA_get hi hj)⟩

theorem load31 (W : World) (ρ : Operand → Value) (d : Option Tmp) (x : Operand) {t : TypeId} {ps : String} {af : Array Edge} {g : Option (Nat × Bool)} (b o : Nat) (a : ActV) (hx : ρ x = .pointer (some ⟨b, o, none⟩))
    (h : ∀ j u, a.cs[j]? = some u → W.cell? ⟨b, o + j, none⟩ = some u) : (execOp ρ { dst := d, op := .load 31 x, type := t, pos := ps, after := af, guard := g }).run Try.prog W = .ok (.value a.val) W := by
  obtain ⟨k1, t1, f1, n1, ⟨p1, ol1, s1, d1, g1, sk1, fd1⟩, m1, i1, y1, v1, u1⟩ := a
  have c0 := h 0 _ rfl
  have c1 := h 1 _ rfl
  have c2 := h 2 _ rfl
  have c3 := h 3 _ rfl
  have c4 := h 4 _ rfl
  have c5 := h 5 _ rfl
  have c6 := h 6 _ rfl
  have c7 := h 7 _ rfl
  have c8 := h 8 _ rfl
  have c9 := h 9 _ rfl
  have c10 := h 10 _ rfl
  have c11 := h 11 _ rfl
  have c12 := h 12 _ rfl
  have c13 := h 13 _ rfl
  have c14 := h 14 _ rfl
  simp only [Nat.add_zero] at c0 c1 c2 c3 c4 c5 c6 c7 c8 c9 c10 c11 c12 c13 c14
  clear h
  go_simp
  rfl
theorem cell_old (w : World) (o : Obj) (b j : Nat) (h : b < w.heap.size) : (w.alloc o).cell? ⟨b, j, none⟩ = w.cell? ⟨b, j, none⟩ := World.cell?_of_block (Below.heap_alloc w o b h)
theorem cell_new (w : World) (xs : Array Value) (e : TypeId) (b j : Nat) (u : Value) (hb : b = w.heap.size) (h : xs[j]? = some u) : (w.alloc (.cells xs e)).cell? ⟨b, j, none⟩ = some u := by
  subst hb
  simp only [World.cell?]
  rw [heap_alloc_new]
  simpa using h
theorem IsR.of_row' (w : World) (l : List ActV) (xs : Array Value) (e : TypeId) (n m : Nat) (hn : n = w.heap.size) (hm : m = l.length) (hx : xs.toList = cellsA l) (hl : l.length ≤ maxLen) : IsR ActV.cs 15 (w.alloc (.cells xs e)) (.slice (some ⟨n, 0, none⟩) m m) l := by
  subst hn hm
  exact IsR.of_row w l xs e hx hl
theorem IsR.of_rowO (w : World) (l : List ActV) (xs : Array Value) (e : TypeId) (n m : Nat) (o : Obj) (hn : n = w.heap.size) (hm : m = l.length) (hx : xs.toList = cellsA l) (hl : l.length ≤ maxLen) : IsR ActV.cs 15 ((w.alloc (.cells xs e)).alloc o) (.slice (some ⟨n, 0, none⟩) m m) l :=
  (IsR.of_row' w l xs e n m hn hm hx hl).kept ((Below.refl _ _).alloc (Nat.le_refl _) _)
theorem three (w w3 : World) (o : Obj) (hb : Below ((((w.alloc (.cells A0.cs.toArray 31)).alloc (.cells T0.cs.toArray 31)).alloc (.cells B0.cs.toArray 31)).alloc o).heap.size ((((w.alloc (.cells A0.cs.toArray 31)).alloc (.cells T0.cs.toArray 31)).alloc (.cells B0.cs.toArray 31)).alloc o) w3) :
    Below w.heap.size w w3 ∧ w.heap.size + 4 ≤ w3.heap.size ∧ (∀ j u, A0.cs[j]? = some u → w3.cell? ⟨w.heap.size, j, none⟩ = some u) ∧ (∀ j u, T0.cs[j]? = some u → w3.cell? ⟨w.heap.size + 1, j, none⟩ = some u) ∧ (∀ j u, B0.cs[j]? = some u → w3.cell? ⟨w.heap.size + 2, j, none⟩ = some u) := by
  refine ⟨below_step (((((Below.refl _ w).alloc (Nat.le_refl _) _).alloc (by simp) _).alloc (by simp <;> omega) _).alloc (by simp <;> omega) _) hb, by have := hb.size; simp at this; omega, fun j u hj => ?_, fun j u hj => ?_, fun j u hj => ?_⟩
  · exact (hb.cell (by simp <;> omega)).trans ((cell_old _ _ _ _ (by simp <;> omega)).trans ((cell_old _ _ _ _ (by simp <;> omega)).trans ((cell_old _ _ _ _ (by simp)).trans (cell_new _ _ _ _ _ _ rfl (by simpa using hj)))))
  · exact (hb.cell (by simp <;> omega)).trans ((cell_old _ _ _ _ (by simp <;> omega)).trans ((cell_old _ _ _ _ (by simp)).trans (cell_new _ _ _ _ _ _ (by simp) (by simpa using hj))))
  · exact (hb.cell (by simp <;> omega)).trans ((cell_old _ _ _ _ (by simp)).trans (cell_new _ _ _ _ _ _ (by simp) (by simpa using hj)))


set_option maxRecDepth 100000 in
set_option maxHeartbeats 8000000 in
theorem runs_any (w : World) : Calls Try.prog 3 #[] w fun e w' => e = .returned (.bool true) ∧ Below w.heap.size w w' := by
  go_enter Try.func3, Try.ntmps3
  go_wp2_with (go_at_call 8; (with_reducible refine (of_runs _ _ ?_).mono ?_); rotate_left; rintro e w3 ⟨g, cap, rfl, hb, hcap, hcap2, hg, hg0, hcs⟩; obtain ⟨hB, hsz, hA, hT, hBB⟩ := three w w3 _ hb; have HB := Lib.hid hB; have HA := Lib.hid hA; have HT := Lib.hid hT; have HBB := Lib.hid hBB; have HC := Lib.hid hcs; clear hb hcs hB hA hT hBB hg0)
  rotate_left
  · exact IsR.of_row' _ [A0, T0, B0] _ _ _ _ (by simp) rfl rfl (by unfold maxLen; simp)
  unfold maxLen at hcap2

  refine wp_region_pl (fun W => Below w3.heap.size w3 W) (.take 0 <| .take 1 <| .take 2 <| .take 3 <| .take 4 <| .take 5 <| .take 6 <| .take 7 <| .doo 8 <| .take 9 <| .take 10 <| .take 11 <| .take 12 <| .take 13 <| .take 14 <| .take 15 <| .take 16 <| .take 17 <| .take 18 <| .take 19 <| .take 21 <| .take 22 <| .two 20 23 <| .doo 24 <| .take 25 <| .take 26 <| .take 27 <| .take 28 <| .take 29 <| .take 30 <| .take 32 <| .take 33 <| .take 34 <| .two 31 35 <| .doo 36 <| .take 37 <| .take 38 <| .take 39 <| .take 40 <| .doo 41 <| .take 42 <| .take 43 <| .done) ?plL (by kernel_rfl) (by kernel_rfl) (by kernel_rfl) ?plH (by intro c a d v w; cases d <;> exact fun h => h) (Below.refl _ w3).drew ?_
  case plH =>
    simp only [Pl.with, List.getElem?_toArray, List.getElem?_cons_zero, List.getElem?_cons_succ]
    try rfl
  iterate 6 (refine wpPl_take (v := ?_) (by rfl) (fun w' hS => ?_) ?_; rotate_left; (focus (go_simp; with_reducible rfl)); simp only [Act.put, List.setIfInBounds_toArray, List.set_cons_zero, List.set_cons_succ])
  (refine wpPl_take (v := .agg #[.int .i64 2, .int .i64 0, .int .i64 0, .int .i64 0, .slice none 0 0, .int .i64 0, .int .i64 0, .int .i64 0, .int .i64 0, .int .i64 0, .bool false, .int .i64 0, .int .i64 0, .int .i64 0, .int .u64 0]) (by rfl) (fun w' hS => load31 w' _ _ _ g 0 A0 rfl (fun j u hj => (hS.cell (p := ⟨g, 0 + j, none⟩) (show g < w3.heap.size by omega)).trans (by rw [Nat.zero_add]; exact (by have := HC.out 0 _ rfl j u hj; simpa using this)))) ?_; simp only [Act.put, List.setIfInBounds_toArray, List.set_cons_zero, List.set_cons_succ])
  (refine wpPl_take (v := .agg #[.int .i64 2, .int .i64 0, .int .i64 0, .int .i64 0, .slice none 0 0, .int .i64 0, .int .i64 0, .int .i64 0, .int .i64 0, .int .i64 0, .bool false, .int .i64 0, .int .i64 0, .int .i64 0, .int .u64 0]) (by rfl) (fun w' hS => load31 w' _ _ _ w.heap.size 0 A0 rfl (fun j u hj => (hS.cell (p := ⟨w.heap.size, 0 + j, none⟩) (show w.heap.size < w3.heap.size by omega)).trans (by rw [Nat.zero_add]; exact HA.out j u hj))) ?_; simp only [Act.put, List.setIfInBounds_toArray, List.set_cons_zero, List.set_cons_succ])
  refine wpPl_do (by rfl) (fun K hK => ?_)
  go_wp2_with (go_at_call 9; (with_reducible refine (same0 _).mono ?_); rintro e w4 ⟨rfl, hb⟩; have HS4 := Lib.hid (below_step (Below.refl _ w3).drew hb); clear hb)
  refine ⟨HS4.out, ?_⟩
  iterate 5 (refine wpPl_take (v := ?_) (by rfl) (fun w' hS => ?_) ?_; rotate_left; (focus (go_simp; with_reducible rfl)); simp only [Act.put, List.setIfInBounds_toArray, List.set_cons_zero, List.set_cons_succ])
  have cg15 : ∀ W : World, Below w3.heap.size w3 W → W.cell? ⟨g, 15, none⟩ = some (.int .i64 3) := fun W hW => (hW.cell (p := ⟨g, 15, none⟩) (show g < w3.heap.size by omega)).trans (HC.out 1 _ rfl 0 _ rfl)
  iterate 4 (refine wpPl_take (v := ?_) (by rfl) (fun w' hS => ?_) ?_; rotate_left; (focus (go_simp; with_reducible rfl)); simp only [Act.put, List.setIfInBounds_toArray, List.set_cons_zero, List.set_cons_succ])
  clear cg15
  (refine wpPl_take (v := .agg #[.int .i64 2, .int .i64 0, .int .i64 0, .int .i64 0, .slice none 0 0, .int .i64 0, .int .i64 0, .int .i64 0, .int .i64 0, .int .i64 0, .bool false, .int .i64 0, .int .i64 0, .int .i64 0, .int .u64 0]) (by rfl) (fun w' hS => load31 w' _ _ _ w.heap.size 0 A0 rfl (fun j u hj => (hS.cell (p := ⟨w.heap.size, 0 + j, none⟩) (show w.heap.size < w3.heap.size by omega)).trans (by rw [Nat.zero_add]; exact HA.out j u hj))) ?_; simp only [Act.put, List.setIfInBounds_toArray, List.set_cons_zero, List.set_cons_succ])
  (refine wpPl_take (v := .agg #[.int .i64 3, .int .i64 5, .int .i64 0, .int .i64 0, .slice none 0 0, .int .i64 0, .int .i64 0, .int .i64 0, .int .i64 0, .int .i64 0, .bool false, .int .i64 0, .int .i64 0, .int .i64 0, .int .u64 0]) (by rfl) (fun w' hS => load31 w' _ _ _ (w.heap.size + 1) 0 T0 rfl (fun j u hj => (hS.cell (p := ⟨(w.heap.size + 1), 0 + j, none⟩) (show (w.heap.size + 1) < w3.heap.size by omega)).trans (by rw [Nat.zero_add]; exact HT.out j u hj))) ?_; simp only [Act.put, List.setIfInBounds_toArray, List.set_cons_zero, List.set_cons_succ])
  (refine wpPl_take (v := .agg #[.int .i64 3, .int .i64 5, .int .i64 0, .int .i64 0, .slice none 0 0, .int .i64 0, .int .i64 0, .int .i64 0, .int .i64 0, .int .i64 0, .bool false, .int .i64 0, .int .i64 0, .int .i64 0, .int .u64 0]) (by rfl) (fun w' hS => load31 w' _ _ _ (w.heap.size + 1) 0 T0 rfl (fun j u hj => (hS.cell (p := ⟨(w.heap.size + 1), 0 + j, none⟩) (show (w.heap.size + 1) < w3.heap.size by omega)).trans (by rw [Nat.zero_add]; exact HT.out j u hj))) ?_; simp only [Act.put, List.setIfInBounds_toArray, List.set_cons_zero, List.set_cons_succ])
  (refine wpPl_take (v := .agg #[.int .i64 2, .int .i64 0, .int .i64 0, .int .i64 0, .slice none 0 0, .int .i64 0, .int .i64 0, .int .i64 0, .int .i64 0, .int .i64 0, .bool false, .int .i64 0, .int .i64 0, .int .i64 0, .int .u64 0]) (by rfl) (fun w' hS => load31 w' _ _ _ w.heap.size 0 A0 rfl (fun j u hj => (hS.cell (p := ⟨w.heap.size, 0 + j, none⟩) (show w.heap.size < w3.heap.size by omega)).trans (by rw [Nat.zero_add]; exact HA.out j u hj))) ?_; simp only [Act.put, List.setIfInBounds_toArray, List.set_cons_zero, List.set_cons_succ])
  refine wpPl_two (fun u v y => IsR ActV.cs 15 y u [A0, T0] ∧ IsR ActV.cs 15 y v [T0, A0]) (by rfl) (by rfl) (by rintro d ⟨⟩; decide) (fun K hK => ?_) (fun K hK => ?_) ?_
  · go_wp2_with fail
    refine ⟨HS4.out.alloc HS4.out.size _, wpOne_do (by rfl) (fun K hK => ?_)⟩
    go_wp2_with fail
    refine ⟨(HS4.out.alloc HS4.out.size _).alloc (by have := HS4.out.size; simp; omega) _, ?_⟩
    first | refine ⟨_, rfl, ?_, ?_⟩ | refine ⟨?_, ?_⟩
    · (refine IsR.of_rowO _ _ _ _ _ _ _ ?_ ?_ ?_ ?_ <;> first | (unfold maxLen; simp; done) | rfl | (simp; done))
    · (refine IsR.of_row' _ _ _ _ _ _ ?_ ?_ ?_ ?_ <;> first | (unfold maxLen; simp; done) | rfl | (simp; done))
  · go_wp2_with fail
    refine ⟨HS4.out.alloc HS4.out.size _, wpOne_do (by rfl) (fun K hK => ?_)⟩
    go_wp2_with fail
    refine ⟨(HS4.out.alloc HS4.out.size _).alloc (by have := HS4.out.size; simp; omega) _, ?_⟩
    first | refine ⟨_, rfl, ?_, ?_⟩ | refine ⟨?_, ?_⟩
    · (refine IsR.of_row' _ _ _ _ _ _ ?_ ?_ ?_ ?_ <;> first | (unfold maxLen; simp; done) | rfl | (simp; done))
    · (refine IsR.of_rowO _ _ _ _ _ _ _ ?_ ?_ ?_ ?_ <;> first | (unfold maxLen; simp; done) | rfl | (simp; done))
  clear HS4
  rintro u v w5 ⟨hu, hv⟩ hS5
  have HS5 := Lib.hid hS5
  have HU := Lib.hid hu
  have HV := Lib.hid hv
  clear hS5 hu hv
  simp only [Act.put, List.setIfInBounds_toArray, List.set_cons_zero, List.set_cons_succ]
  refine wpPl_do (by rfl) (fun K hK => ?_)
  go_wp2_with (go_at_call 10; (with_reducible refine (low1 _ _ _ HU.out HV.out).mono ?_); rintro e w6 ⟨rfl, hb⟩; have HS6 := Lib.hid (below_step HS5.out hb); clear hb)
  refine ⟨HS6.out, ?_⟩
  clear HS5 HU HV
  iterate 3 (refine wpPl_take (v := ?_) (by rfl) (fun w' hS => ?_) ?_; rotate_left; (focus (go_simp; with_reducible rfl)); simp only [Act.put, List.setIfInBounds_toArray, List.set_cons_zero, List.set_cons_succ])
  (refine wpPl_take (v := .agg #[.int .i64 2, .int .i64 0, .int .i64 0, .int .i64 0, .slice none 0 0, .int .i64 0, .int .i64 0, .int .i64 0, .int .i64 0, .int .i64 0, .bool false, .int .i64 0, .int .i64 0, .int .i64 0, .int .u64 0]) (by rfl) (fun w' hS => load31 w' _ _ _ w.heap.size 0 A0 rfl (fun j u hj => (hS.cell (p := ⟨w.heap.size, 0 + j, none⟩) (show w.heap.size < w3.heap.size by omega)).trans (by rw [Nat.zero_add]; exact HA.out j u hj))) ?_; simp only [Act.put, List.setIfInBounds_toArray, List.set_cons_zero, List.set_cons_succ])
  (refine wpPl_take (v := .agg #[.int .i64 3, .int .i64 5, .int .i64 0, .int .i64 0, .slice none 0 0, .int .i64 0, .int .i64 0, .int .i64 0, .int .i64 0, .int .i64 0, .bool false, .int .i64 0, .int .i64 0, .int .i64 0, .int .u64 0]) (by rfl) (fun w' hS => load31 w' _ _ _ (w.heap.size + 1) 0 T0 rfl (fun j u hj => (hS.cell (p := ⟨(w.heap.size + 1), 0 + j, none⟩) (show (w.heap.size + 1) < w3.heap.size by omega)).trans (by rw [Nat.zero_add]; exact HT.out j u hj))) ?_; simp only [Act.put, List.setIfInBounds_toArray, List.set_cons_zero, List.set_cons_succ])
  (refine wpPl_take (v := .agg #[.int .i64 2, .int .i64 1, .int .i64 0, .int .i64 0, .slice none 0 0, .int .i64 0, .int .i64 0, .int .i64 0, .int .i64 0, .int .i64 0, .bool false, .int .i64 0, .int .i64 0, .int .i64 0, .int .u64 0]) (by rfl) (fun w' hS => load31 w' _ _ _ (w.heap.size + 2) 0 B0 rfl (fun j u hj => (hS.cell (p := ⟨(w.heap.size + 2), 0 + j, none⟩) (show (w.heap.size + 2) < w3.heap.size by omega)).trans (by rw [Nat.zero_add]; exact HBB.out j u hj))) ?_; simp only [Act.put, List.setIfInBounds_toArray, List.set_cons_zero, List.set_cons_succ])
  (refine wpPl_take (v := .agg #[.int .i64 2, .int .i64 1, .int .i64 0, .int .i64 0, .slice none 0 0, .int .i64 0, .int .i64 0, .int .i64 0, .int .i64 0, .int .i64 0, .bool false, .int .i64 0, .int .i64 0, .int .i64 0, .int .u64 0]) (by rfl) (fun w' hS => load31 w' _ _ _ (w.heap.size + 2) 0 B0 rfl (fun j u hj => (hS.cell (p := ⟨(w.heap.size + 2), 0 + j, none⟩) (show (w.heap.size + 2) < w3.heap.size by omega)).trans (by rw [Nat.zero_add]; exact HBB.out j u hj))) ?_; simp only [Act.put, List.setIfInBounds_toArray, List.set_cons_zero, List.set_cons_succ])
  (refine wpPl_take (v := .agg #[.int .i64 2, .int .i64 0, .int .i64 0, .int .i64 0, .slice none 0 0, .int .i64 0, .int .i64 0, .int .i64 0, .int .i64 0, .int .i64 0, .bool false, .int .i64 0, .int .i64 0, .int .i64 0, .int .u64 0]) (by rfl) (fun w' hS => load31 w' _ _ _ w.heap.size 0 A0 rfl (fun j u hj => (hS.cell (p := ⟨w.heap.size, 0 + j, none⟩) (show w.heap.size < w3.heap.size by omega)).trans (by rw [Nat.zero_add]; exact HA.out j u hj))) ?_; simp only [Act.put, List.setIfInBounds_toArray, List.set_cons_zero, List.set_cons_succ])
  iterate 1 (refine wpPl_take (v := ?_) (by rfl) (fun w' hS => ?_) ?_; rotate_left; (focus (go_simp; with_reducible rfl)); simp only [Act.put, List.setIfInBounds_toArray, List.set_cons_zero, List.set_cons_succ])
  refine wpPl_two (fun u v y => IsR ActV.cs 15 y u [A0, T0, B0] ∧ IsR ActV.cs 15 y v [B0, A0, T00]) (by rfl) (by rfl) (by rintro d ⟨⟩; decide) (fun K hK => ?_) (fun K hK => ?_) ?_
  · go_wp2_with fail
    refine ⟨HS6.out.alloc HS6.out.size _, wpOne_do (by rfl) (fun K hK => ?_)⟩
    go_wp2_with fail
    refine ⟨(HS6.out.alloc HS6.out.size _).alloc (by have := HS6.out.size; simp; omega) _, ?_⟩
    first | refine ⟨_, rfl, ?_, ?_⟩ | refine ⟨?_, ?_⟩
    · (refine IsR.of_rowO _ _ _ _ _ _ _ ?_ ?_ ?_ ?_ <;> first | (unfold maxLen; simp; done) | rfl | (simp; done))
    · (refine IsR.of_row' _ _ _ _ _ _ ?_ ?_ ?_ ?_ <;> first | (unfold maxLen; simp; done) | rfl | (simp; done))
  · go_wp2_with fail
    refine ⟨HS6.out.alloc HS6.out.size _, wpOne_do (by rfl) (fun K hK => ?_)⟩
    go_wp2_with fail
    refine ⟨(HS6.out.alloc HS6.out.size _).alloc (by have := HS6.out.size; simp; omega) _, ?_⟩
    first | refine ⟨_, rfl, ?_, ?_⟩ | refine ⟨?_, ?_⟩
    · (refine IsR.of_row' _ _ _ _ _ _ ?_ ?_ ?_ ?_ <;> first | (unfold maxLen; simp; done) | rfl | (simp; done))
    · (refine IsR.of_rowO _ _ _ _ _ _ _ ?_ ?_ ?_ ?_ <;> first | (unfold maxLen; simp; done) | rfl | (simp; done))
  clear HS6
  rintro u v w7 ⟨hu, hv⟩ hS7
  have HS7 := Lib.hid hS7
  have HU := Lib.hid hu
  have HV := Lib.hid hv
  clear hS7 hu hv
  simp only [Act.put, List.setIfInBounds_toArray, List.set_cons_zero, List.set_cons_succ]
  refine wpPl_do (by rfl) (fun K hK => ?_)
  go_wp2_with (go_at_call 10; (with_reducible refine (low2 _ _ _ HU.out HV.out).mono ?_); rintro e w8 ⟨rfl, hb⟩; have HS8 := Lib.hid (below_step HS7.out hb); clear hb)
  refine ⟨HS8.out, ?_⟩
  clear HS7 HU HV
  iterate 4 (refine wpPl_take (v := ?_) (by rfl) (fun w' hS => ?_) ?_; rotate_left; (focus (go_simp; with_reducible rfl)); simp only [Act.put, List.setIfInBounds_toArray, List.set_cons_zero, List.set_cons_succ])
  refine wpPl_do (by rfl) (fun K hK => ?_)
  go_wp2_with (go_at_call 11; (with_reducible refine (ans0 _).mono ?_); rintro e w9 ⟨rfl, hb⟩; have HS9 := Lib.hid (below_step HS8.out hb); clear hb)
  refine ⟨HS9.out, ?_⟩
  iterate 2 (refine wpPl_take (v := ?_) (by rfl) (fun w' hS => ?_) ?_; rotate_left; (focus (go_simp; with_reducible rfl)); simp only [Act.put, List.setIfInBounds_toArray, List.set_cons_zero, List.set_cons_succ])
  refine wpPl_done ?_
  go_wp2
  go_ret
  exact ⟨rfl, below_step HB.out HS9.out⟩
end Go.Proofs.Ytemmekpmoigdeaa
