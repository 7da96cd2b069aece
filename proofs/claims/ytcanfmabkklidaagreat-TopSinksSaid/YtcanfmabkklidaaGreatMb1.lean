/- Words of this seat's own that name no function of the program. -/
import Derived.Test.YtcanfmabkklidaaGreatProg
import Derived.WalkKit
import Derived.KernelRfl
import Derived.RowKit3
import Derived.Deep.LoopGhost
import Derived.Deep.DeepCutAuto
import Derived.Deep.CutBlock
import Derived.Lib.Hide
import Derived.Deep.RegionLaw
namespace Go.Proofs.YtcanfmabkklidaaGreat
open Go.RowKit

theorem bcell {W w1 : World} (hb : Below W.heap.size W w1) : (∀ b o, b < W.heap.size → w1.cell? ⟨b, o, none⟩ = W.cell? ⟨b, o, none⟩) ∧ (∀ b o, b < W.heap.size → w1.frozen? ⟨b, o, none⟩ = W.frozen? ⟨b, o, none⟩) :=
  ⟨fun b o h => hb.cell (p := ⟨b, o, none⟩) h, fun b o h => hb.frozen (p := ⟨b, o, none⟩) h⟩

theorem below_step {w w1 w2 : World} (h : Below w.heap.size w w1) (k : Below w1.heap.size w1 w2) : Below w.heap.size w w2 := h.trans (k.mono h.size)

theorem grown_of_below {w w1 : World} (h : Below w.heap.size w w1) (row : Option Nat) : w.grownBy w1 row := ⟨h.os, h.tape, h.output, h.size, fun i hi _ => h.block i hi⟩

theorem own_form {w : World} {base : Nat} {e : TypeId} {size : Nat} {v : Value} {n : Nat} {xs : List Value} (h : w.ownsRow base e size v n xs) (hn : 0 < n) :
    ∃ g cap, v = .slice (some ⟨g, 0, none⟩) n cap ∧ base ≤ g ∧ g < w.heap.size ∧ n ≤ cap ∧ cap ≤ maxLen ∧ ∀ j u, xs[j]? = some u → w.cell? ⟨g, j, none⟩ = some u := by
  have h0 := h
  rcases h.2 with ⟨_, h0⟩ | ⟨g, cap, cur, hv, hb, hg, h1, h2, _⟩
  · omega
  · refine ⟨g, cap, hv, hb, (Array.getElem?_eq_some_iff.1 hg).1, h1, h2, fun j u hu => ?_⟩
    have := h0.cells (g := g) (by rw [hv]; rfl) j u hu
    have hadd : (⟨g, 0, none⟩ : Addr).add j = ⟨g, j, none⟩ := by unfold Addr.add; split <;> simp_all
    rwa [hadd] at this

/-- append onto a row of the call's own, as one step of a region that draws -/
theorem step_append_own {P : Program} {ops : Array Oper} {o : Oper} {a : Act} {w : World} {K : Act → World → Prop} {Q : Exit → Act → World → Prop} {E : Prop}
    (hw : Region.wanted o (yielded ops a.tmps) = true) (s x : Operand) (t : TypeId)
    (ho : o.op = .call { callee := .builtin .append, args := #[s, x], argTypes := #[t, t] })
    (base : Nat) (e : TypeId) (i : TypeInfo) (z : Value) (size bytes : Nat) (ht : P.underlying t = some (.slice e)) (hi : P.info? e = some i) (hz : i.zero = some z)
    (hsize : i.size = size) (hby : i.bytes = bytes) (hzs : z.cells.size = size) (hsz : 0 < size)
    (v : Value) (n : Nat) (xs : List Value) (hs : a.eval s = v) (hown : w.ownsRow base e size v n xs)
    (ad : Addr) (m c : Nat) (news : List Value) (hx : a.eval x = .slice (some ad) m c) (hl : news.length = m * size) (hnews : ∀ j u, news[j]? = some u → w.cell? (ad.add j) = some u) (h1 : ∀ u ∈ news, u.oneCell' = true)
    (h63 : n + m ≤ maxLen) (hbytes : (n + m) * bytes ≤ 140737488355328) (hbase : base ≤ w.heap.size)
    (h : ∀ v' w', w'.ownsRow base e size v' (n + m) (xs ++ news) → w.grownBy w' v.ownBlock → (v' = .slice none 0 0 ↔ v = .slice none 0 0 ∧ m = 0) → K (a.put o.dst v') w') :
    if Region.wanted o (yielded ops a.tmps) = true then Oper.wp P o a w K Q else E := by
  rw [if_pos hw]
  exact wp_append_own w s x t ho base e i z size bytes ht hi hz hsize hby hzs hsz v n xs hs hown ad m c news hx hl hnews h1 h63 hbytes hbase h

theorem heap_setCell_at (w : World) (b o : Nat) (cs : Array Value) (e : TypeId) (fz : Nat × Nat) (v : Value) (h : w.heap[b]? = some (.cells cs e fz)) :
    (w.setCell ⟨b, o, none⟩ v).heap[b]? = some (.cells (cs.setIfInBounds o v) e fz) := by
  simp [World.setCell, Array.getElem?_modify, h]
theorem cell_set (w : World) (b o k : Nat) (v u : Value) (h : w.cell? ⟨b, o, none⟩ = some u) : (w.setCell ⟨b, o, none⟩ v).cell? ⟨b, k, none⟩ = if k = o then some v else w.cell? ⟨b, k, none⟩ := by
  unfold World.cell? at h ⊢
  cases hb : w.heap[b]? with
  | none => simp [hb] at h
  | some x =>
    cases x <;> simp [hb] at h
    rename_i cs e fz
    rw [heap_setCell_at w b o cs e fz v hb]
    simp [Array.getElem?_setIfInBounds]
    by_cases hk : k = o
    · subst hk
      simp
      exact (Array.getElem?_eq_some_iff.1 h).1
    · rw [if_neg (fun e => hk e.symm), if_neg hk]
theorem frozen_set (w : World) (a : Addr) (v : Value) (b k : Nat) : (w.setCell a v).frozen? ⟨b, k, none⟩ = w.frozen? ⟨b, k, none⟩ := by
  unfold World.frozen? World.setCell
  simp only [Array.getElem?_modify]
  by_cases h : a.block = b
  · rw [if_pos h]
    cases hb : w.heap[b]? with
    | none => simp
    | some x => cases x <;> simp
  · rw [if_neg h]
theorem grown_set (w : World) (b o : Nat) (v : Value) : w.grownBy (w.setCell ⟨b, o, none⟩ v) (some b) :=
  ⟨rfl, rfl, rfl, by simp [World.setCell], fun k _ hk => Below.heap_setCell _ _ _ _ (by intro e; exact hk (by simp at e; simp [e]))⟩
theorem grown_trans {a b c : World} {r : Option Nat} (h : a.grownBy b r) (k : b.grownBy c r) : a.grownBy c r :=
  ⟨k.os.trans h.os, k.tape.trans h.tape, k.output.trans h.output, Nat.le_trans h.size k.size, fun i hi hr => (k.block i (Nat.lt_of_lt_of_le hi h.size) hr).trans (h.block i hi hr)⟩
theorem grown_refl (w : World) (r : Option Nat) : w.grownBy w r := ⟨rfl, rfl, rfl, Nat.le_refl _, fun _ _ _ => rfl⟩
theorem row_cells (w : World) (xs : Array Value) (e : TypeId) : ∀ j u, xs.toList[j]? = some u → (w.alloc (.cells xs e)).cell? ((⟨w.heap.size, 0, none⟩ : Addr).add j) = some u := by
  intro j u hu
  have hadd : (⟨w.heap.size, 0, none⟩ : Addr).add j = ⟨w.heap.size, j, none⟩ := by unfold Addr.add; split <;> simp_all
  rw [hadd]
  simp only [World.cell?]
  rw [heap_alloc_new]
  simpa using hu
theorem row_cells3 (w : World) (x y : Obj) (xs : Array Value) (e : TypeId) : ∀ j u, xs.toList[j]? = some u → (((w.alloc x).drew.alloc y).alloc (.cells xs e)).cell? ((⟨w.heap.size + 2, 0, none⟩ : Addr).add j) = some u := by
  intro j u hu
  have h := row_cells ((w.alloc x).drew.alloc y) xs e j u hu
  rw [show ((w.alloc x).drew.alloc y).heap.size = w.heap.size + 2 by simp] at h
  exact h
/-- a list of whole numbers, as a slice value reads it -/
def IsL (w : World) (v : Value) (l : List Int) : Prop :=
  ∃ a c, v = .slice a l.length c ∧ l.length ≤ c ∧ l.length ≤ maxLen ∧ ∃ b o, (0 < l.length → a = some ⟨b, o, none⟩ ∧ b < w.heap.size) ∧ ∀ i, i < l.length → w.cell? ⟨b, o + i, none⟩ = some (.int .i64 (l.getD i 0))
theorem IsL.nil (w : World) : IsL w (.slice none 0 0) [] := ⟨none, 0, rfl, by simp, by simp, 0, 0, fun h => absurd h (by simp), fun i hi => absurd hi (by simp)⟩
theorem IsL.kept {w w' : World} {v : Value} {l : List Int} (h : IsL w v l) (hb : Below w.heap.size w w') : IsL w' v l := by
  obtain ⟨a, c, hv, h1, h2, b, o, h3, h4⟩ := h
  refine ⟨a, c, hv, h1, h2, b, o, fun hp => ⟨(h3 hp).1, Nat.lt_of_lt_of_le (h3 hp).2 hb.size⟩, fun i hi => ?_⟩
  rw [hb.cell (p := ⟨b, _, none⟩) (h3 (by omega)).2]
  exact h4 i hi
def ints (l : List Int) : List Value := l.map (Value.int .i64)
theorem IsL.of_own {w : World} {base : Nat} {e : TypeId} {v : Value} {l : List Int} (h : w.ownsRow base e 1 v l.length (ints l)) : IsL w v l := by
  rcases Nat.eq_zero_or_pos l.length with h0 | h0
  · obtain rfl : l = [] := List.eq_nil_of_length_eq_zero h0
    rcases h.2 with ⟨hv, _⟩ | ⟨g, cap, cur, hv, _, _, _⟩
    · rw [hv]; exact IsL.nil w
    · rw [hv]; exact ⟨_, cap, rfl, by simp, by simp, 0, 0, fun h => absurd h (by simp), fun i hi => absurd hi (by simp)⟩
  · obtain ⟨g, cap, hv, _, hg, h1, h2, hc⟩ := own_form h h0
    rw [hv]
    refine ⟨_, cap, rfl, h1, by omega, g, 0, fun _ => ⟨rfl, hg⟩, fun i hi => ?_⟩
    rw [Nat.zero_add]
    refine hc i _ ?_
    simp [ints, List.getD_eq_getElem?_getD, hi]
/-- what a call that makes a list of whole numbers leaves -/
def RetL (w : World) (l : List Int) (e : Ending) (w' : World) : Prop := ∃ v, e = .returned v ∧ w'.ownsRow w.heap.size 3 1 v l.length (ints l) ∧ Below w.heap.size w w'
end Go.Proofs.YtcanfmabkklidaaGreat
