/- Words of this seat's own that name no function of the program: facts carried over growth, a clock's three cells, an argument's slice. -/
import Derived.Test.YtpocodnhddgpgaaProg
import Derived.WalkKit
import Derived.KernelRfl
import Derived.RowKit3
import Derived.Deep.LoopGhost
import Derived.Deep.DeepCutAuto
import Derived.Deep.CutBlock
import Derived.Lib.Hide
import Derived.Deep.RegionLaw
namespace Go.Proofs.Ytpocodnhddgpgaa
open Go.RowKit

theorem bcell {W w1 : World} (hb : Below W.heap.size W w1) : (∀ b o, b < W.heap.size → w1.cell? ⟨b, o, none⟩ = W.cell? ⟨b, o, none⟩) ∧ (∀ b o, b < W.heap.size → w1.frozen? ⟨b, o, none⟩ = W.frozen? ⟨b, o, none⟩) :=
  ⟨fun b o h => hb.cell (p := ⟨b, o, none⟩) h, fun b o h => hb.frozen (p := ⟨b, o, none⟩) h⟩

theorem below_step {w w1 w2 : World} (h : Below w.heap.size w w1) (k : Below w1.heap.size w1 w2) : Below w.heap.size w w2 := h.trans (k.mono h.size)

theorem grown_of_below {w w1 : World} (h : Below w.heap.size w w1) (row : Option Nat) : w.grownBy w1 row := ⟨h.os, h.tape, h.output, h.size, fun i hi _ => h.block i hi⟩

theorem own_form {w : World} {base : Nat} {e : TypeId} {size : Nat} {v : Value} {n : Nat} {xs : List Value} (h : w.ownsRow base e size v n xs) (hn : 0 < n) :
    ∃ g cap, v = .slice (some ⟨g, 0, none⟩) n cap ∧ base ≤ g ∧ g < w.heap.size ∧ n ≤ cap ∧ cap ≤ maxLen ∧ ∀ j u, xs[j]? = some u → w.cell? ⟨g, j, none⟩ = some u := by
  have h0 := h
  rcases h.2 with ⟨_, h0⟩ | ⟨g, cap, cur, hv, hb, hg, h1, h2, _⟩
  · omega
  · refine ⟨g, cap, hv, hb, (Array.getElem?_eq_some_iff.1 hg).1, h1, h2, fun j u hu => ?_⟩
    have := h0.cells (g := g) (by rw [hv]; rfl) j u hu
    have hadd : (⟨g, 0, none⟩ : Addr).add j = ⟨g, j, none⟩ := by unfold Addr.add; split <;> simp_all
    rwa [hadd] at this

/-- append onto a row of the call's own, as one step of a region that draws -/
theorem step_append_own {P : Program} {ops : Array Oper} {o : Oper} {a : Act} {w : World} {K : Act → World → Prop} {Q : Exit → Act → World → Prop} {E : Prop}
    (hw : Region.wanted o (yielded ops a.tmps) = true) (s x : Operand) (t : TypeId)
    (ho : o.op = .call { callee := .builtin .append, args := #[s, x], argTypes := #[t, t] })
    (base : Nat) (e : TypeId) (i : TypeInfo) (z : Value) (size bytes : Nat) (ht : P.underlying t = some (.slice e)) (hi : P.info? e = some i) (hz : i.zero = some z)
    (hsize : i.size = size) (hby : i.bytes = bytes) (hzs : z.cells.size = size) (hsz : 0 < size)
    (v : Value) (n : Nat) (xs : List Value) (hs : a.eval s = v) (hown : w.ownsRow base e size v n xs)
    (ad : Addr) (m c : Nat) (news : List Value) (hx : a.eval x = .slice (some ad) m c) (hl : news.length = m * size) (hnews : ∀ j u, news[j]? = some u → w.cell? (ad.add j) = some u) (h1 : ∀ u ∈ news, u.oneCell' = true)
    (h63 : n + m ≤ maxLen) (hbytes : (n + m) * bytes ≤ 140737488355328) (hbase : base ≤ w.heap.size)
    (h : ∀ v' w', w'.ownsRow base e size v' (n + m) (xs ++ news) → w.grownBy w' v.ownBlock → (v' = .slice none 0 0 ↔ v = .slice none 0 0 ∧ m = 0) → K (a.put o.dst v') w') :
    if Region.wanted o (yielded ops a.tmps) = true then Oper.wp P o a w K Q else E := by
  rw [if_pos hw]
  exact wp_append_own w s x t ho base e i z size bytes ht hi hz hsize hby hzs hsz v n xs hs hown ad m c news hx hl hnews h1 h63 hbytes hbase h

/-- a clock's three cells at b, o -/
structure ClkAt (w : World) (b o : Nat) (m l s : Int) : Prop where
  c0 : w.cell? ⟨b, o, none⟩ = some (.int .i64 m)
  c1 : w.cell? ⟨b, o + 1, none⟩ = some (.int .i64 l)
  c2 : w.cell? ⟨b, o + 2, none⟩ = some (.int .i64 s)
  f0 : w.frozen? ⟨b, o, none⟩ = false
  f1 : w.frozen? ⟨b, o + 1, none⟩ = false
  f2 : w.frozen? ⟨b, o + 2, none⟩ = false

theorem ClkAt.lt {w : World} {b o : Nat} {m l s : Int} (h : ClkAt w b o m l s) : b < w.heap.size := World.block_lt_of_cell? w _ h.c0
theorem ClkAt.of_block {w w' : World} {b o : Nat} {m l s : Int} (h : ClkAt w b o m l s) (he : w'.heap[b]? = w.heap[b]?) : ClkAt w' b o m l s := by
  have hc : ∀ k, w'.cell? ⟨b, k, none⟩ = w.cell? ⟨b, k, none⟩ := fun k => World.cell?_of_block he
  have hf : ∀ k, w'.frozen? ⟨b, k, none⟩ = w.frozen? ⟨b, k, none⟩ := fun k => World.frozen?_of_block he
  exact ⟨(hc _).trans h.c0, (hc _).trans h.c1, (hc _).trans h.c2, (hf _).trans h.f0, (hf _).trans h.f1, (hf _).trans h.f2⟩
theorem ClkAt.grown {w w' : World} {b o : Nat} {m l s : Int} {r : Option Nat} (h : ClkAt w b o m l s) (hg : w.grownBy w' r) (hr : ∀ k, r = some k → k ≠ b) : ClkAt w' b o m l s :=
  h.of_block (hg.block b h.lt fun e => hr b e.symm rfl)
theorem ClkAt.alloc {w : World} {b o : Nat} {m l s : Int} (h : ClkAt w b o m l s) (x : Obj) : ClkAt (w.alloc x) b o m l s :=
  h.of_block (Below.heap_alloc w x b h.lt)
theorem ClkAt.below {w w' : World} {b o : Nat} {m l s : Int} (h : ClkAt w b o m l s) (hb : Below w.heap.size w w') : ClkAt w' b o m l s :=
  h.of_block (hb.block b h.lt)
theorem ClkAt.other {w : World} {b o : Nat} {m l s : Int} (h : ClkAt w b o m l s) (a : Addr) (v : Value) (hne : b ≠ a.block) : ClkAt (w.setCell a v) b o m l s :=
  h.of_block (Below.heap_setCell w a v b hne)
theorem clk_new (w : World) (m l s : Int) : ClkAt (w.alloc (.cells #[.int .i64 m, .int .i64 l, .int .i64 s] 23)) w.heap.size 0 m l s := by
  constructor <;> simp [go_sem]

theorem clk_new1 (w : World) (x : Obj) (m l s : Int) : ClkAt ((w.alloc x).alloc (.cells #[.int .i64 m, .int .i64 l, .int .i64 s] 23)) (w.heap.size + 1) 0 m l s := by
  have := clk_new (w.alloc x) m l s
  simpa using this
theorem heap_setCell_at (w : World) (b o : Nat) (cs : Array Value) (e : TypeId) (fz : Nat × Nat) (v : Value) (h : w.heap[b]? = some (.cells cs e fz)) :
    (w.setCell ⟨b, o, none⟩ v).heap[b]? = some (.cells (cs.setIfInBounds o v) e fz) := by
  simp [World.setCell, Array.getElem?_modify, h]

theorem cell_set (w : World) (b o k : Nat) (v u : Value) (h : w.cell? ⟨b, o, none⟩ = some u) : (w.setCell ⟨b, o, none⟩ v).cell? ⟨b, k, none⟩ = if k = o then some v else w.cell? ⟨b, k, none⟩ := by
  unfold World.cell? at h ⊢
  cases hb : w.heap[b]? with
  | none => simp [hb] at h
  | some x =>
    cases x <;> simp [hb] at h
    rename_i cs e fz
    rw [heap_setCell_at w b o cs e fz v hb]
    simp [Array.getElem?_setIfInBounds]
    by_cases hk : k = o
    · subst hk
      simp
      exact (Array.getElem?_eq_some_iff.1 h).1
    · rw [if_neg (fun e => hk e.symm), if_neg hk]
theorem frozen_set (w : World) (a : Addr) (v : Value) (b k : Nat) : (w.setCell a v).frozen? ⟨b, k, none⟩ = w.frozen? ⟨b, k, none⟩ := by
  unfold World.frozen? World.setCell
  simp only [Array.getElem?_modify]
  by_cases h : a.block = b
  · rw [if_pos h]
    cases hb : w.heap[b]? with
    | none => simp
    | some x => cases x <;> simp
  · rw [if_neg h]
theorem ClkAt.set0 {w : World} {b o : Nat} {m l s : Int} (h : ClkAt w b o m l s) (x : Int) : ClkAt (w.setCell ⟨b, o, none⟩ (.int .i64 x)) b o x l s := by
  have hc := fun k => cell_set w b o k (.int .i64 x) _ h.c0
  exact ⟨by rw [hc]; simp, by rw [hc, if_neg (by omega)]; exact h.c1, by rw [hc, if_neg (by omega)]; exact h.c2,
    by rw [frozen_set]; exact h.f0, by rw [frozen_set]; exact h.f1, by rw [frozen_set]; exact h.f2⟩
theorem ClkAt.set1 {w : World} {b o : Nat} {m l s : Int} (h : ClkAt w b o m l s) (x : Int) : ClkAt (w.setCell ⟨b, o + 1, none⟩ (.int .i64 x)) b o m x s := by
  have hc := fun k => cell_set w b (o + 1) k (.int .i64 x) _ h.c1
  exact ⟨by rw [hc, if_neg (by omega)]; exact h.c0, by rw [hc]; simp, by rw [hc, if_neg (by omega)]; exact h.c2,
    by rw [frozen_set]; exact h.f0, by rw [frozen_set]; exact h.f1, by rw [frozen_set]; exact h.f2⟩
theorem ClkAt.set2 {w : World} {b o : Nat} {m l s : Int} (h : ClkAt w b o m l s) (x : Int) : ClkAt (w.setCell ⟨b, o + 2, none⟩ (.int .i64 x)) b o m l x := by
  have hc := fun k => cell_set w b (o + 2) k (.int .i64 x) _ h.c2
  exact ⟨by rw [hc, if_neg (by omega)]; exact h.c0, by rw [hc, if_neg (by omega)]; exact h.c1, by rw [hc]; simp,
    by rw [frozen_set]; exact h.f0, by rw [frozen_set]; exact h.f1, by rw [frozen_set]; exact h.f2⟩

/-- what a method of a clock leaves: its own block may be turned, nothing else; its cells are these -/
structure ClkNow (w w' : World) (b o : Nat) (m l s : Int) : Prop where
  at_ : ClkAt w' b o m l s
  gr : w.grownBy w' (some b)
theorem grown_set (w : World) (b o : Nat) (v : Value) : w.grownBy (w.setCell ⟨b, o, none⟩ v) (some b) :=
  ⟨rfl, rfl, rfl, by simp [World.setCell], fun k _ hk => Below.heap_setCell _ _ _ _ (by intro e; exact hk (by simp at e; simp [e]))⟩
theorem grown_trans {a b c : World} {r : Option Nat} (h : a.grownBy b r) (k : b.grownBy c r) : a.grownBy c r :=
  ⟨k.os.trans h.os, k.tape.trans h.tape, k.output.trans h.output, Nat.le_trans h.size k.size, fun i hi hr => (k.block i (Nat.lt_of_lt_of_le hi h.size) hr).trans (h.block i hi hr)⟩
theorem grown_refl (w : World) (r : Option Nat) : w.grownBy w r := ⟨rfl, rfl, rfl, Nat.le_refl _, fun _ _ _ => rfl⟩
theorem ClkNow.below {B : Nat} {a w w' : World} {b o : Nat} {m l s : Int} (h : ClkNow w w' b o m l s) (hb : Below B a w) (hB : B ≤ w.heap.size) (hr : B ≤ b) : Below B a w' :=
  hb.grown h.gr hB (fun k hk => by simp at hk; omega)
theorem ClkNow.far {w w' : World} {b o : Nat} {m l s : Int} (h : ClkNow w w' b o m l s) {c p : Nat} {x y z : Int} (hc : ClkAt w c p x y z) (hne : c ≠ b) : ClkAt w' c p x y z :=
  hc.of_block (h.gr.block c hc.lt (by simpa using hne))
/-- what a call on a clock that nobody looks at again leaves -/
def SomeOn (w : World) (b o : Nat) (e : Ending) (w' : World) : Prop := ∃ v m l s, e = .returned (.bool v) ∧ ClkNow w w' b o m l s
theorem ClkNow.cells {w w' : World} {b o : Nat} {m l s : Int} (h : ClkNow w w' b o m l s) :
    (∀ k i, k < w.heap.size → k ≠ b → w'.cell? ⟨k, i, none⟩ = w.cell? ⟨k, i, none⟩) ∧ (∀ k i, k < w.heap.size → k ≠ b → w'.frozen? ⟨k, i, none⟩ = w.frozen? ⟨k, i, none⟩) :=
  ⟨fun k i hk hne => World.cell?_of_block (h.gr.block k hk (by simpa using hne)), fun k i hk hne => World.frozen?_of_block (h.gr.block k hk (by simpa using hne))⟩
end Go.Proofs.Ytpocodnhddgpgaa
