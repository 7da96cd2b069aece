/- What a call may turn: a list of blocks, and new ones; objects with the blocks that they own. -/
import Derived.Test.YtcanfmabkklidaaGreatMb4
import Derived.StillTailTactics
import Derived.Deep.QuietTactic
import Derived.BigQuiet
set_option linter.unusedSimpArgs false
set_option linter.unusedVariables false
set_option linter.unnecessarySimpa false
namespace Go.Proofs.YtcanfmabkklidaaGreat
open Go.RowKit

/-- w' is w but for the blocks of S, and new ones -/
structure Mod (S : List Nat) (w w' : World) : Prop where
  os : w'.os = w.os
  tape : w'.tape = w.tape
  output : w'.output = w.output
  size : w.heap.size ≤ w'.heap.size
  block : ∀ k, k < w.heap.size → k ∉ S → w'.heap[k]? = w.heap[k]?
theorem Mod.refl (S : List Nat) (w : World) : Mod S w w := ⟨rfl, rfl, rfl, Nat.le_refl _, fun _ _ _ => rfl⟩
/-- what a list of blocks became: old ones, or new ones -/
def Into (S' S : List Nat) (n : Nat) : Prop := ∀ b ∈ S', b ∈ S ∨ n ≤ b
theorem Into.refl (S : List Nat) (n : Nat) : Into S S n := fun _ h => .inl h
theorem Into.nil (S : List Nat) (n : Nat) : Into [] S n := fun _ h => by simp at h
theorem Into.sub {S S' : List Nat} (h : ∀ b ∈ S', b ∈ S) (n : Nat) : Into S' S n := fun b hb => .inl (h b hb)
theorem Into.new {S' : List Nat} {n : Nat} (h : ∀ b ∈ S', n ≤ b) (S : List Nat) : Into S' S n := fun b hb => .inr (h b hb)
theorem Into.trans {A B C : List Nat} {n m : Nat} (h : Into B A n) (k : Into C B m) (hn : n ≤ m) : Into C A n := fun b hb => by
  rcases k b hb with h1 | h1
  · exact h b h1
  · exact .inr (by omega)
theorem Into.append {A B C D : List Nat} {n : Nat} (h : Into A C n) (k : Into B D n) : Into (A ++ B) (C ++ D) n := fun b hb => by
  rcases List.mem_append.1 hb with h1 | h1
  · rcases h b h1 with h | h
    · exact .inl (by simp [h])
    · exact .inr h
  · rcases k b h1 with h | h
    · exact .inl (by simp [h])
    · exact .inr h
theorem Into.cons {A C : List Nat} {x : Nat} {n : Nat} (h : Into A C n) : Into (x :: A) (x :: C) n := fun b hb => by
  rcases List.mem_cons.1 hb with rfl | h1
  · exact .inl (by simp)
  · rcases h b h1 with h | h
    · exact .inl (by simp [h])
    · exact .inr h
theorem Mod.trans {S T : List Nat} {a b c : World} (h : Mod S a b) (k : Mod T b c) (hT : Into T S a.heap.size) : Mod S a c :=
  ⟨k.os.trans h.os, k.tape.trans h.tape, k.output.trans h.output, Nat.le_trans h.size k.size, fun i hi hn => (k.block i (Nat.lt_of_lt_of_le hi h.size) (fun hm => by
    rcases hT i hm with h1 | h1
    · exact hn h1
    · omega)).trans (h.block i hi hn)⟩
theorem Mod.wide {S T : List Nat} {a b : World} (h : Mod S a b) (hS : ∀ x ∈ S, x ∈ T) : Mod T a b :=
  ⟨h.os, h.tape, h.output, h.size, fun i hi hn => h.block i hi fun hm => hn (hS i hm)⟩
theorem Mod.then {S : List Nat} {a b c : World} (h : Mod S a b) (k : Mod S b c) : Mod S a c := h.trans k (.refl _ _)
theorem Mod.of_below {a b : World} (h : Below a.heap.size a b) (S : List Nat) : Mod S a b := ⟨h.os, h.tape, h.output, h.size, fun i hi _ => h.block i hi⟩
theorem Mod.below {a b : World} {S : List Nat} (h : Mod S a b) (hS : ∀ x ∈ S, a.heap.size ≤ x) : Below a.heap.size a b := ⟨h.os, h.tape, h.output, h.size, fun i hi => h.block i hi fun hm => by have := hS i hm; omega⟩
theorem Mod.below0 {a b : World} (h : Mod [] a b) : Below a.heap.size a b := h.below (by simp)
theorem Mod.belowB {B : Nat} {w a b : World} {S : List Nat} (h : Mod S a b) (hw : Below B w a) (hB : B ≤ a.heap.size) (hS : ∀ x ∈ S, B ≤ x) : Below B w b :=
  hw.trans ⟨h.os, h.tape, h.output, h.size, fun i hi => h.block i (by omega) fun hm => by have := hS i hm; omega⟩
theorem Mod.of_grown {a b : World} {r : Option Nat} (h : a.grownBy b r) (S : List Nat) (hS : ∀ k, r = some k → k ∈ S ∨ a.heap.size ≤ k) : Mod S a b :=
  ⟨h.os, h.tape, h.output, h.size, fun i hi hn => h.block i hi fun e => by
    rcases hS i e.symm with h1 | h1
    · exact hn h1
    · omega⟩
theorem Mod.setCell (w : World) (b o : Nat) (v : Value) : Mod [b] w (w.setCell ⟨b, o, none⟩ v) :=
  ⟨rfl, rfl, rfl, by simp [World.setCell], fun k _ hk => Below.heap_setCell _ _ _ _ (by simpa using hk)⟩
theorem Mod.alloc (S : List Nat) (w : World) (o : Obj) : Mod S w (w.alloc o) := ⟨rfl, rfl, rfl, by simp, fun k hk _ => Below.heap_alloc _ _ _ hk⟩
theorem Mod.drew (S : List Nat) (w : World) : Mod S w w.drew := ⟨rfl, rfl, rfl, Nat.le_refl _, fun _ _ _ => rfl⟩
theorem Mod.set {S : List Nat} {a b : World} (h : Mod S a b) (c o : Nat) (v : Value) (hc : c ∈ S ∨ a.heap.size ≤ c) : Mod S a (b.setCell ⟨c, o, none⟩ v) :=
  h.trans (Mod.setCell b c o v) fun x hx => by obtain rfl : x = c := (by simpa using hx); exact hc
theorem Mod.new {S : List Nat} {a b : World} (h : Mod S a b) (o : Obj) : Mod S a (b.alloc o) := h.trans (Mod.alloc [] b o) (.nil _ _)
theorem Mod.draw {S : List Nat} {a b : World} (h : Mod S a b) : Mod S a b.drew := h.trans (Mod.drew [] b) (.nil _ _)
theorem Mod.bel {S : List Nat} {a b c : World} (h : Mod S a b) (k : Below b.heap.size b c) : Mod S a c := h.trans (Mod.of_below k []) (.nil _ _)
theorem Mod.grow {S : List Nat} {a b c : World} {r : Option Nat} (h : Mod S a b) (k : b.grownBy c r) (hr : ∀ x, r = some x → x ∈ S ∨ a.heap.size ≤ x) : Mod S a c :=
  h.trans (Mod.of_grown k r.toList (fun x hx => .inl (by simp [hx]))) fun x hx => hr x (by simpa using hx)
theorem Mod.cell {S : List Nat} {a b : World} (h : Mod S a b) {c o : Nat} (hc : c < a.heap.size) (hn : c ∉ S) : b.cell? ⟨c, o, none⟩ = a.cell? ⟨c, o, none⟩ := World.cell?_of_block (h.block c hc hn)
theorem Mod.same {S T : List Nat} {a b : World} (h : Mod T a b) (hS : ∀ x ∈ S, x < a.heap.size) (hd : ∀ x ∈ S, x ∉ T) : ∀ x ∈ S, b.heap[x]? = a.heap[x]? := fun x hx => h.block x (hS x hx) (hd x hx)
theorem At.mod {w w' : World} {b : Nat} {xs : List Value} {S : List Nat} (h : At w b xs) (hm : Mod S w w') (hn : b ∉ S) : At w' b xs := h.of_block (hm.block b h.lt hn)

theorem At.newAt {w : World} {b : Nat} (hb : b = w.heap.size) (xs : Array Value) (e : TypeId) : At (w.alloc (.cells xs e)) b xs.toList := by
  subst hb
  exact At.new w xs e
theorem bel_alloc {w w' : World} (h : Below w.heap.size w w') (o : Obj) : Below w.heap.size w (w'.alloc o) := h.alloc h.size o
theorem bel_draw {w w' : World} (h : Below w.heap.size w w') : Below w.heap.size w w'.drew := h.drew
theorem bel_drawN {w w' : World} (h : Below w.heap.size w w') (n : Nat) : Below w.heap.size w (w'.drewN n) := ⟨h.os, h.tape, h.output, h.size, h.block⟩
theorem Mod.drawN {S : List Nat} {a b : World} (h : Mod S a b) (n : Nat) : Mod S a (b.drewN n) := ⟨h.os, h.tape, h.output, h.size, h.block⟩
theorem bel_set {w w' : World} (h : Below w.heap.size w w') {b o : Nat} (hp : w.heap.size ≤ b) (v : Value) : Below w.heap.size w (w'.setCell ⟨b, o, none⟩ v) := h.setCell (p := ⟨b, o, none⟩) hp v

/-- parts that own blocks, none two parts the same -/
structure Parts (n k : Nat) (F : Nat → List Nat) : Prop where
  lt : ∀ i, i < k → ∀ b ∈ F i, b < n
  dis : ∀ i j, i < k → j < k → i ≠ j → ∀ b ∈ F i, b ∉ F j
def put (F : Nat → List Nat) (i : Nat) (S : List Nat) : Nat → List Nat := fun j => if j = i then S else F j
theorem put_same (F : Nat → List Nat) (i : Nat) (S : List Nat) : put F i S i = S := by simp [put]
theorem put_ne (F : Nat → List Nat) {i j : Nat} (S : List Nat) (h : j ≠ i) : put F i S j = F j := by simp [put, h]
theorem Parts.upd {n n' k : Nat} {F : Nat → List Nat} (h : Parts n k F) (i : Nat) {S : List Nat} (hi : Into S (F i) n) (hs : ∀ b ∈ S, b < n') (hn : n ≤ n') : Parts n' k (put F i S) := by
  refine ⟨fun j hj b hb => ?_, fun j l hj hl hne b hb => ?_⟩
  · by_cases e : j = i
    · subst e; rw [put_same] at hb; exact hs b hb
    · rw [put_ne F S e] at hb; have := h.lt j hj b hb; omega
  · by_cases e : j = i
    · subst e
      rw [put_same] at hb
      rw [put_ne F S (Ne.symm hne)]
      rcases hi b hb with h1 | h1
      · exact h.dis j l hj hl hne b h1
      · intro h2; have := h.lt l hl b h2; omega
    · rw [put_ne F S e] at hb
      by_cases e2 : l = i
      · subst e2
        rw [put_same]
        intro h2
        rcases hi b h2 with h1 | h1
        · exact h.dis j l hj hl hne b hb h1
        · have := h.lt j hj b hb; omega
      · rw [put_ne F S e2]; exact h.dis j l hj hl hne b hb
theorem Parts.grow {n n' k : Nat} {F : Nat → List Nat} (h : Parts n k F) (hn : n ≤ n') : Parts n' k F := ⟨fun i hi b hb => Nat.lt_of_lt_of_le (h.lt i hi b hb) hn, h.dis⟩
/-- all blocks of the parts -/
def allOf (k : Nat) (F : Nat → List Nat) : List Nat := (List.range k).flatMap F
theorem mem_allOf {k : Nat} {F : Nat → List Nat} {b : Nat} : b ∈ allOf k F ↔ ∃ i, i < k ∧ b ∈ F i := by simp [allOf]
theorem allOf_put {k n : Nat} {F : Nat → List Nat} {i : Nat} {S : List Nat} (hi : i < k) (h : Into S (F i) n) : Into (allOf k (put F i S)) (allOf k F) n := by
  intro b hb
  obtain ⟨j, hj, hb⟩ := mem_allOf.1 hb
  by_cases e : j = i
  · subst e
    rw [put_same] at hb
    rcases h b hb with h1 | h1
    · exact .inl (mem_allOf.2 ⟨j, hj, h1⟩)
    · exact .inr h1
  · rw [put_ne F S e] at hb
    exact .inl (mem_allOf.2 ⟨j, hj, hb⟩)
theorem Parts.same {n k : Nat} {F : Nat → List Nat} (h : Parts n k F) {w w' : World} (hn : n = w.heap.size) {i j : Nat} {T : List Nat} (hm : Mod T w w') (hT : ∀ b ∈ T, b ∈ F i) (hi : i < k) (hj : j < k) (hne : j ≠ i) : ∀ b ∈ F j, w'.heap[b]? = w.heap[b]? :=
  hm.same (fun b hb => hn ▸ h.lt j hj b hb) fun b hb hT' => h.dis j i hj hi hne b hb (hT b hT')

/-- what is owned hangs on its block alone -/
theorem own_of_block {w w' : World} {base : Nat} {e : TypeId} {size : Nat} {v : Value} {n : Nat} {xs : List Value} (h : w.ownsRow base e size v n xs) (hb : ∀ b ∈ v.ownBlock.toList, w'.heap[b]? = w.heap[b]?) : w'.ownsRow base e size v n xs := by
  refine ⟨h.1, ?_⟩
  rcases h.2 with hn | ⟨g, cap, cur, rfl, hg, hgg, rest⟩
  · exact .inl hn
  · exact .inr ⟨g, cap, cur, rfl, hg, (hb g (by simp [Value.ownBlock])).trans hgg, rest⟩
theorem At.same {w w' : World} {b : Nat} {xs : List Value} {S : List Nat} (h : At w b xs) (hs : ∀ x ∈ S, w'.heap[x]? = w.heap[x]?) (hb : b ∈ S) : At w' b xs := h.of_block (hs b hb)
/-- a list of structs that is only read, and the block that it lies in -/
def RdR {α : Type} (cs : α → List Value) (k : Nat) (w : World) (v : Value) (l : List α) (S : List Nat) : Prop :=
  ∃ a c, v = .slice a l.length c ∧ l.length ≤ c ∧ c ≤ maxLen ∧ ((l = [] ∧ S = [] ∧ (a = none → c = 0)) ∨ ∃ b o, S = [b] ∧ a = some ⟨b, o, none⟩ ∧ b < w.heap.size ∧ ∀ i x, l[i]? = some x → ∀ j u, (cs x)[j]? = some u → w.cell? ⟨b, o + i * k + j, none⟩ = some u)
theorem RdR.isr {α : Type} {cs : α → List Value} {k : Nat} {w : World} {v : Value} {l : List α} {S : List Nat} (h : RdR cs k w v l S) : IsR cs k w v l := by
  obtain ⟨a, c, hv, h1, h2, h3⟩ := h
  rcases h3 with ⟨rfl, rfl, _⟩ | ⟨b, o, rfl, rfl, hb, h4⟩
  · exact ⟨a, c, hv, h1, h2, 0, 0, fun h => by simp at h, fun i x hi => by simp at hi⟩
  · exact ⟨_, c, hv, h1, h2, b, o, fun _ => ⟨rfl, hb⟩, h4⟩
theorem RdR.same {α : Type} {cs : α → List Value} {k : Nat} {w w' : World} {v : Value} {l : List α} {S : List Nat} (h : RdR cs k w v l S) (hs : ∀ b ∈ S, w'.heap[b]? = w.heap[b]?) : RdR cs k w' v l S := by
  obtain ⟨a, c, hv, h1, h2, h3⟩ := h
  refine ⟨a, c, hv, h1, h2, ?_⟩
  rcases h3 with h3 | ⟨b, o, rfl, rfl, hb, h4⟩
  · exact .inl h3
  · have e := hs b (by simp)
    refine .inr ⟨b, o, rfl, rfl, ?_, fun i x hi j u hj => (World.cell?_of_block e).trans (h4 i x hi j u hj)⟩
    rcases Nat.lt_or_ge b w'.heap.size with h2 | h2
    · exact h2
    · rw [Array.getElem?_eq_none h2, Array.getElem?_eq_getElem hb] at e
      cases e
theorem RdR.lt {α : Type} {cs : α → List Value} {k : Nat} {w : World} {v : Value} {l : List α} {S : List Nat} (h : RdR cs k w v l S) : ∀ b ∈ S, b < w.heap.size := by
  obtain ⟨a, c, hv, h1, h2, h3⟩ := h
  rcases h3 with ⟨_, rfl, _⟩ | ⟨b, o, rfl, rfl, hb, h4⟩
  · simp
  · simpa using hb
theorem RdR.nil {α : Type} (cs : α → List Value) (k : Nat) (w : World) : RdR cs k w (.slice none 0 0) [] [] := ⟨none, 0, rfl, by simp, by simp, .inl ⟨rfl, rfl, fun _ => rfl⟩⟩
theorem RdR.of_own {α : Type} {cs : α → List Value} {k : Nat} (hk : ∀ x, (cs x).length = k) {w : World} {base : Nat} {e : TypeId} {v : Value} {l : List α} (h : w.ownsRow base e k v l.length (l.flatMap cs)) : RdR cs k w v l v.ownBlock.toList := by
  have hi := IsR.of_own hk h
  obtain ⟨a, c, hv, h1, h2, b, o, h3, h4⟩ := hi
  rcases h.2 with ⟨hn, h0⟩ | ⟨g, cap, cur, hg, _, hgg, hcap, _⟩
  · obtain rfl : l = [] := List.eq_nil_of_length_eq_zero h0
    refine ⟨none, 0, by rw [hn]; rfl, by simp, by simp, .inl ⟨rfl, by rw [hn]; simp [Value.ownBlock], fun _ => rfl⟩⟩
  · have hlt : g < w.heap.size := (Array.getElem?_eq_some_iff.1 hgg).1
    refine ⟨some ⟨g, 0, none⟩, cap, hg, hcap, ?_, .inr ⟨g, 0, by rw [hg]; simp [Value.ownBlock], rfl, hlt, fun i x hi j u hj => ?_⟩⟩
    · rw [hg] at hv; simp at hv; omega
    · have hp : 0 < l.length := by have := (List.getElem?_eq_some_iff.1 hi).1; omega
      have e1 := (h3 hp).1
      rw [hg] at hv
      simp only [Value.slice.injEq] at hv
      rw [e1] at hv
      simp only [Option.some.injEq, Addr.mk.injEq] at hv
      obtain ⟨⟨rfl, rfl, _⟩, _⟩ := hv
      exact h4 i x hi j u hj
theorem own_lt {w : World} {base : Nat} {e : TypeId} {size : Nat} {v : Value} {n : Nat} {xs : List Value} (h : w.ownsRow base e size v n xs) : ∀ b ∈ v.ownBlock.toList, b < w.heap.size := fun b hb => (h.lt b (by simpa using hb)).2
theorem own_new {w : World} {base : Nat} {e : TypeId} {size : Nat} {v : Value} {n : Nat} {xs : List Value} (h : w.ownsRow base e size v n xs) : ∀ b ∈ v.ownBlock.toList, base ≤ b := fun b hb => (h.lt b (by simpa using hb)).1
end Go.Proofs.YtcanfmabkklidaaGreat
