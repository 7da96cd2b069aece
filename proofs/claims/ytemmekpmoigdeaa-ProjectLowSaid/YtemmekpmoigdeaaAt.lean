/- Blocks of cells that are the call's own; lists of structs out of rows; Within; pick. -/
import Derived.Test.YtemmekpmoigdeaaRuns
set_option linter.unusedSimpArgs false
set_option linter.unusedVariables false
set_option linter.unnecessarySimpa false
namespace Go.Proofs.Ytemmekpmoigdeaa
open Go.RowKit

/-- block b holds the cells xs, and none is frozen -/
structure At (w : World) (b : Nat) (xs : List Value) : Prop where
  c : ∀ j u, xs[j]? = some u → w.cell? ⟨b, j, none⟩ = some u
  f : ∀ j, w.frozen? ⟨b, j, none⟩ = false
  lt : b < w.heap.size
theorem At.of_block {w w' : World} {b : Nat} {xs : List Value} (h : At w b xs) (he : w'.heap[b]? = w.heap[b]?) : At w' b xs := by
  refine ⟨fun j u hj => (World.cell?_of_block he).trans (h.c j u hj), fun j => (World.frozen?_of_block he).trans (h.f j), ?_⟩
  have h1 : b < w.heap.size := h.lt
  rcases Nat.lt_or_ge b w'.heap.size with h2 | h2
  · exact h2
  · rw [Array.getElem?_eq_none h2, Array.getElem?_eq_getElem h1] at he
    cases he
theorem At.alloc {w : World} {b : Nat} {xs : List Value} (h : At w b xs) (x : Obj) : At (w.alloc x) b xs := h.of_block (Below.heap_alloc w x b h.lt)
theorem At.below {w w' : World} {b : Nat} {xs : List Value} (h : At w b xs) (hb : Below w.heap.size w w') : At w' b xs := h.of_block (hb.block b h.lt)
theorem At.belowB {B : Nat} {w w' : World} {b : Nat} {xs : List Value} (h : At w b xs) (hb : Below B w w') (hl : b < B) : At w' b xs := h.of_block (hb.block b hl)
theorem At.grown {w w' : World} {b : Nat} {xs : List Value} {r : Option Nat} (h : At w b xs) (hg : w.grownBy w' r) (hr : ∀ k, r = some k → k ≠ b) : At w' b xs := h.of_block (hg.block b h.lt fun e => hr b e.symm rfl)
theorem At.other {w : World} {b : Nat} {xs : List Value} (h : At w b xs) (a : Addr) (v : Value) (hne : b ≠ a.block) : At (w.setCell a v) b xs := h.of_block (Below.heap_setCell w a v b hne)
theorem At.drew {w : World} {b : Nat} {xs : List Value} (h : At w b xs) : At w.drew b xs := h.of_block rfl
theorem At.set {w : World} {b : Nat} {xs : List Value} (h : At w b xs) (j : Nat) (v : Value) (hj : j < xs.length) : At (w.setCell ⟨b, j, none⟩ v) b (xs.set j v) := by
  have hc := h.c j xs[j] (by simp [hj])
  refine ⟨fun k u hk => ?_, fun k => ?_, by simpa [World.setCell] using h.lt⟩
  · rw [cell_set w b j k v _ hc]
    rw [List.getElem?_set] at hk
    by_cases e : k = j
    · subst e
      simpa [hj] using hk
    · rw [if_neg (fun q => e q.symm)] at hk
      rw [if_neg e]
      exact h.c k u hk
  · rw [frozen_set]
    exact h.f k
theorem At.new (w : World) (xs : Array Value) (e : TypeId) : At (w.alloc (.cells xs e)) w.heap.size xs.toList := by
  refine ⟨fun j u hj => cell_new w xs e _ j u rfl (by simpa using hj), fun j => ?_, by simp⟩
  simp [go_sem]
/-- a list of structs, out of a row of the call's own -/
theorem flat_get {α : Type} {cs : α → List Value} {k : Nat} (hk : ∀ x, (cs x).length = k) {l : List α} {i j : Nat} {x : α} {u : Value} (hi : l[i]? = some x) (hj : (cs x)[j]? = some u) : (l.flatMap cs)[i * k + j]? = some u := by
  induction l generalizing i with
  | nil => simp at hi
  | cons a l ih =>
    rw [List.flatMap_cons]
    cases i with
    | zero =>
      obtain rfl : a = x := by simpa using hi
      rw [List.getElem?_append_left (by have := (List.getElem?_eq_some_iff.1 hj).1; omega), Nat.zero_mul, Nat.zero_add]
      exact hj
    | succ i =>
      rw [List.getElem?_append_right (by rw [hk]; rw [Nat.succ_mul]; omega), hk, show (i + 1) * k + j - k = i * k + j by rw [Nat.succ_mul]; omega]
      exact ih (by simpa using hi)
theorem flat_len {α : Type} {cs : α → List Value} {k : Nat} (hk : ∀ x, (cs x).length = k) (l : List α) : (l.flatMap cs).length = l.length * k := by
  induction l with
  | nil => simp
  | cons a l ih => rw [List.flatMap_cons, List.length_append, ih, hk, List.length_cons, Nat.succ_mul]; omega
theorem IsR.of_own {α : Type} {cs : α → List Value} {k : Nat} (hk : ∀ x, (cs x).length = k) {w : World} {base : Nat} {e : TypeId} {v : Value} {l : List α} (h : w.ownsRow base e k v l.length (l.flatMap cs)) : IsR cs k w v l := by
  rcases Nat.eq_zero_or_pos l.length with h0 | h0
  · obtain rfl : l = [] := List.eq_nil_of_length_eq_zero h0
    rcases h.2 with ⟨hv, _⟩ | ⟨g, cap, cur, hv, _, _, _, hcm, _⟩
    · rw [hv]; exact IsR.nil _ _ w
    · rw [hv]; exact ⟨_, cap, rfl, by simp, hcm, 0, 0, fun h => absurd h (by simp), fun i x hi => absurd hi (by simp)⟩
  · obtain ⟨g, cap, hv, _, hg, h1, h2, hc⟩ := own_form h h0
    rw [hv]
    refine ⟨_, cap, rfl, h1, h2, g, 0, fun _ => ⟨rfl, hg⟩, fun i x hi j u hj => ?_⟩
    rw [Nat.zero_add]
    exact hc _ _ (flat_get hk hi hj)

def within (n lo hi : Int) : Int := lo + (if n.tmod (hi - lo + 1) < 0 then n.tmod (hi - lo + 1) + hi - lo + 1 else n.tmod (hi - lo + 1))
theorem tmod_bd (n d : Int) (hp : 0 < d) : -d < n.tmod d ∧ n.tmod d < d := by
  refine ⟨?_, Int.tmod_lt_of_pos _ hp⟩
  have := Int.tmod_lt_of_pos (-n) hp
  rw [Int.neg_tmod] at this
  omega
theorem within_bd (n lo hi : Int) (h : lo ≤ hi) : lo ≤ within n lo hi ∧ within n lo hi ≤ hi := by
  have hb := tmod_bd n (hi - lo + 1) (by omega)
  unfold within
  split <;> omega
set_option maxHeartbeats 400000 in
theorem within_any (n lo hi : Int) (w : World) (h0 : -1000000000000000 ≤ lo) (h1 : lo ≤ hi) (h2 : hi ≤ 2000000000000000) :
    Calls Try.prog 12 #[.int .i64 n, .int .i64 lo, .int .i64 hi] w fun e w' => e = .returned (.int .i64 (within n lo hi)) ∧ w' = w := by
  obtain ⟨hb1, hb2⟩ := tmod_bd n (hi - lo + 1) (by omega)
  have hne : ((hi - lo + 1) == 0) = false := by simp; omega
  by_cases hn : n.tmod (hi - lo + 1) < 0
  · have hw1 : within n lo hi = lo + (n.tmod (hi - lo + 1) + hi - lo + 1) := by unfold within; rw [if_pos hn]
    rw [hw1]
    clear hw1
    go_enter Try.func12, Try.ntmps12
    go_wp2
    go_ret
    exact ⟨rfl, rfl⟩
  · have hw1 : within n lo hi = lo + n.tmod (hi - lo + 1) := by unfold within; rw [if_neg hn]
    rw [hw1]
    clear hw1
    go_enter Try.func12, Try.ntmps12
    go_wp2
    go_ret
    exact ⟨rfl, rfl⟩
def pickV (l : List Int) (i : Nat) : Int := l.getD (i % l.length) 0
set_option maxHeartbeats 400000 in
theorem pick_any (v : Value) (l : List Int) (i : Nat) (w : World) (h : IsL w v l) (hi : i ≤ 1000000) :
    Calls Try.prog 29 #[v, .int .i64 i] w fun e w' => e = .returned (.int .i64 (pickV l i)) ∧ w' = w := by
  obtain ⟨a, c, rfl, h1, h2, b, o, h3, h4⟩ := h
  unfold maxLen at h2
  rcases Nat.eq_zero_or_pos l.length with h0 | h0
  · have hp : pickV l i = 0 := by
      obtain rfl : l = [] := List.eq_nil_of_length_eq_zero h0
      simp [pickV]
    rw [hp, h0]
    clear hp h4 h3
    go_enter Try.func29, Try.ntmps29
    go_wp2
    go_ret
    exact ⟨rfl, rfl⟩
  · obtain ⟨rfl, hb⟩ := h3 h0
    obtain ⟨n, hn⟩ : ∃ n, n = l.length := ⟨_, rfl⟩
    obtain ⟨k, hk⟩ : ∃ k, k = i % n := ⟨_, rfl⟩
    have hkn : k < n := by rw [hk]; exact Nat.mod_lt _ (by omega)
    have hc := h4 k (by omega)
    have hp : pickV l i = l.getD k 0 := by rw [hk, hn]; rfl
    have ht : Int.tmod (i : Int) (n : Int) = (k : Int) := by rw [hk]; rfl
    have hz : ((n : Int) == 0) = false := by simp; omega
    rw [hp]
    rw [← hn] at h1 h2 ⊢
    generalize l.getD k 0 = x at hc ⊢
    clear hp hk h4 h3 h0 hn
    go_enter Try.func29, Try.ntmps29
    go_wp2
    go_ret
    exact ⟨rfl, rfl⟩
end Go.Proofs.Ytemmekpmoigdeaa
