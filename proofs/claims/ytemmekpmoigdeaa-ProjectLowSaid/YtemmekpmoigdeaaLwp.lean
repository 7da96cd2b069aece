/- Plain facts about lists of acts: when a tenant does the same in two of them. -/
import Derived.Test.YtemmekpmoigdeaaWov
set_option linter.unusedSimpArgs false
set_option linter.unusedVariables false
set_option linter.unnecessarySimpa false
namespace Go.Proofs.Ytemmekpmoigdeaa
open Go.RowKit

theorem PipeV.same_trans {a b c : PipeV} (h : a.same b) (k : b.same c) : a.same c := ⟨h.1.trans k.1, h.2.1.trans k.2.1, h.2.2.1.trans k.2.2.1, h.2.2.2.1.trans k.2.2.2.1, h.2.2.2.2.1.trans k.2.2.2.2.1, h.2.2.2.2.2.trans k.2.2.2.2.2⟩
theorem PipeV.same_symm {a b : PipeV} (h : a.same b) : b.same a := ⟨h.1.symm, h.2.1.symm, h.2.2.1.symm, h.2.2.2.1.symm, h.2.2.2.2.1.symm, h.2.2.2.2.2.symm⟩
theorem ActV.same_trans {a b c : ActV} (h : a.same b) (k : b.same c) : a.same c := by
  obtain ⟨h1, h2, h3, h4, h5, h6, h7, h8, h9, h10⟩ := h
  obtain ⟨k1, k2, k3, k4, k5, k6, k7, k8, k9, k10⟩ := k
  exact ⟨h1.trans k1, h2.trans k2, h3.trans k3, h4.trans k4, h5.trans k5, h6.trans k6, h7.trans k7, h8.trans k8, h9.trans k9, PipeV.same_trans h10 k10⟩
theorem ActV.same_symm {a b : ActV} (h : a.same b) : b.same a := by
  obtain ⟨h1, h2, h3, h4, h5, h6, h7, h8, h9, h10⟩ := h
  exact ⟨h1.symm, h2.symm, h3.symm, h4.symm, h5.symm, h6.symm, h7.symm, h8.symm, h9.symm, PipeV.same_symm h10⟩
theorem ActV.alike_symm {a b : ActV} (h : a.alike b) : b.alike a := by
  rcases h with h | h
  · exact .inl ⟨h.2, h.1⟩
  · exact .inr (ActV.same_symm h)
theorem ActV.alike_trans {a b c : ActV} (h : a.alike b) (k : b.alike c) : a.alike c := by
  rcases h with h | h
  · rcases k with k | k
    · exact .inl ⟨h.1, k.2⟩
    · exact .inl ⟨h.1, k.1.symm.trans h.2⟩
  · rcases k with k | k
    · exact .inl ⟨h.1.trans k.1, k.2⟩
    · exact .inr (ActV.same_trans h k)
theorem alikeL_symm {a b : List ActV} (h : alikeL a b) : alikeL b a := ⟨h.1.symm, fun i x y hx hy => ActV.alike_symm (h.2 i y x hy hx)⟩
theorem alikeL_trans {a b c : List ActV} (h : alikeL a b) (k : alikeL b c) : alikeL a c := by
  refine ⟨h.1.trans k.1, fun i x z hx hz => ?_⟩
  have hi : i < b.length := by have := (List.getElem?_eq_some_iff.1 hx).1; have := h.1; omega
  exact ActV.alike_trans (h.2 i x b[i] hx (by simp [hi])) (k.2 i b[i] z (by simp [hi]) hz)
theorem alikeL_cons {a b : List ActV} {x y : ActV} (h : alikeL a b) (hx : x.alike y) : alikeL (x :: a) (y :: b) := by
  refine ⟨by simp [h.1], fun i u v hu hv => ?_⟩
  cases i with
  | zero =>
    obtain rfl : x = u := by simpa using hu
    obtain rfl : y = v := by simpa using hv
    exact hx
  | succ i => exact h.2 i u v (by simpa using hu) (by simpa using hv)
/-- the same, or both ticks -/
def Tk (x y : ActV) : Prop := x = y ∨ (x.kind = 3 ∧ y.kind = 3)
theorem tk_alike (t : Int) : ∀ (a b : List ActV), a.length = b.length → (∀ (k : Nat) (x y : ActV), a[k]? = some x → b[k]? = some y → Tk x y) → alikeL (ofA t a) (ofA t b)
  | [], [], _, _ => alikeL_refl _
  | [], _ :: _, hl, _ => by simp at hl
  | _ :: _, [], hl, _ => by simp at hl
  | x :: a, y :: b, hl, h => by
    have h0 := h 0 x y rfl rfl
    have ih := tk_alike t a b (by simpa using hl) (fun k u v hu hv => h (k + 1) u v (by simpa using hu) (by simpa using hv))
    by_cases qx : x.kind = 3 ∨ x.own t
    · have qy : y.kind = 3 ∨ y.own t := by
        rcases h0 with rfl | ⟨_, h⟩
        · exact qx
        · exact .inl h
      have e1 : ofA t (x :: a) = x :: ofA t a := by simp [ofA, qx]
      have e2 : ofA t (y :: b) = y :: ofA t b := by simp [ofA, qy]
      rw [e1, e2]
      refine alikeL_cons ih ?_
      rcases h0 with rfl | h
      · exact .inr (ActV.same_refl _)
      · exact .inl h
    · have qy : ¬ (y.kind = 3 ∨ y.own t) := by
        rcases h0 with rfl | ⟨h, _⟩
        · exact qx
        · exact absurd (.inl h) qx
      have e1 : ofA t (x :: a) = ofA t a := by simp [ofA, qx]
      have e2 : ofA t (y :: b) = ofA t b := by simp [ofA, qy]
      rw [e1, e2]
      exact ih
theorem ofA_mine (t : Int) (l : List ActV) (h : ∀ x ∈ l, x.kind ≤ 5) : ofA t l = mine t l := by
  unfold ofA mine
  refine List.filter_congr fun a ha => ?_
  have hk := h a ha
  by_cases h3 : a.kind = 3
  · simp [h3]
  · by_cases ht : a.tenant = t
    · have : a.own t := ⟨ht, h3, by omega, by omega⟩
      simp [ht, this]
    · have : ¬ a.own t := fun h => ht h.1
      simp [ht, h3, this]
theorem ofA_all {t : Int} {l : List ActV} (h : ∀ x ∈ l, x.kind = 3 ∨ x.own t) : ofA t l = l := by
  unfold ofA
  rw [List.filter_eq_self]
  intro x hx
  simpa using h x hx
theorem ofA_mem {t : Int} {l : List ActV} {x : ActV} (h : x ∈ ofA t l) : x.kind = 3 ∨ x.own t := by
  have := (List.mem_filter.1 h).2
  simpa using this
theorem cellsA_setG {l : List ActV} {i j : Nat} {x x' : ActV} {v : Value} (hi : l[i]? = some x) (hj : j < 15) (hx : x'.cs = x.cs.set j v) : (cellsA l).set (i * 15 + j) v = cellsA (l.set i x') := by
  induction l generalizing i with
  | nil => simp at hi
  | cons a l ih =>
    have hc : ∀ (b : ActV) (l : List ActV), cellsA (b :: l) = b.cs ++ cellsA l := fun _ _ => rfl
    cases i with
    | zero =>
      obtain rfl : a = x := by simpa using hi
      rw [List.set_cons_zero, hc, hc, List.set_append, if_pos (by show 0 * 15 + j < 15; omega), hx, Nat.zero_mul, Nat.zero_add]
    | succ i =>
      rw [List.set_cons_succ, hc, hc, List.set_append, if_neg (by show ¬ (i + 1) * 15 + j < 15; omega), show (i + 1) * 15 + j - a.cs.length = i * 15 + j by show (i + 1) * 15 + j - 15 = _; omega, ih (by simpa using hi)]
theorem tk_set {Y0 Y : List ActV} {k : Nat} {x x' : ActV} (hl : Y.length = Y0.length) (h : ∀ (k : Nat) (x y : ActV), Y[k]? = some x → Y0[k]? = some y → Tk x y) (hx : Y[k]? = some x) (h3 : x.kind = 3) (h3' : x'.kind = 3) : ∀ (j : Nat) (u y : ActV), (Y.set k x')[j]? = some u → Y0[j]? = some y → Tk u y := by
  intro j u y hu hy
  rw [List.getElem?_set] at hu
  by_cases e : k = j
  · subst e
    have hk : k < Y.length := (List.getElem?_eq_some_iff.1 hx).1
    simp [hk] at hu
    subst hu
    rcases h k x y hx hy with rfl | ⟨_, h⟩
    · exact .inr ⟨h3', h3⟩
    · exact .inr ⟨h3', h⟩
  · rw [if_neg e] at hu
    exact h j u y hu hy
theorem not_alike_len {a b : List ActV} (h : a.length ≠ b.length) : ¬ alikeL a b := fun k => h k.1
theorem not_alike_set {l : List ActV} {i : Nat} {x x' : ActV} (hx : l[i]? = some x) (h : ¬ x'.alike x) : ¬ alikeL (l.set i x') l := fun k => by
  have hi : i < l.length := (List.getElem?_eq_some_iff.1 hx).1
  exact h (k.2 i x' x (by simp [hi]) hx)
theorem St.store {W w : World} {xv yv : Value} {X Y : List ActV} (h : St W w xv yv X Y) {g cap : Nat} (hy : yv = .slice (some ⟨g, 0, none⟩) Y.length cap) {k j : Nat} {x x' : ActV} {v : Value} (hk : Y[k]? = some x) (hj : j < 15) (hx : x'.cs = x.cs.set j v) : St W (w.setCell ⟨g, k * 15 + j, none⟩ v) xv yv X (Y.set k x') := by
  subst hy
  have hs := h.oy.stored (k * 15 + j) v
  rw [cellsA_setG hk hj hx] at hs
  have hne : xv.ownBlock ≠ some g := fun e => h.ap g e rfl
  exact ⟨ownsRow_setCell_other h.ox hne v, by simpa using hs.1, h.ap, h.bl.setCell (h.oy.lt g rfl).1 v⟩
end Go.Proofs.Ytemmekpmoigdeaa
