/- Lists of acts beside cores. -/
import Derived.Test.YtcanfmabkklidaaGreatMb27
set_option linter.unusedSimpArgs false
set_option linter.unusedVariables false
set_option linter.unnecessarySimpa false
namespace Go.Proofs.YtcanfmabkklidaaGreat
open Go.RowKit

theorem KActV.ok.kept {w w' : World} {k : KActV} (h : k.ok w) (hb : Below w.heap.size w w') : k.ok w' := ⟨h.o.kept hb, h.n.kept hb⟩
/-- acts that lie beside the cores -/
structure ActsL (w : World) (S0 : List Nat) (v : Value) (l : List ActV) : Prop where
  o : w.ownsRow 0 43 15 v l.length (cellsA l)
  d : ∀ x ∈ v.ownBlock.toList, x ∉ S0
  a : ∀ x ∈ l, ActBd x ∧ ∃ So, RdR OpV.cs 2 w x.pipe.ops x.pipe.ol So ∧ ∀ y ∈ So, y ∉ S0
theorem ActsL.below {w w' : World} {S0 : List Nat} {v : Value} {l : List ActV} (h : ActsL w S0 v l) (hb : Below w.heap.size w w') : ActsL w' S0 v l :=
  ⟨own_of_block h.o (fun x hx => hb.block x (own_lt h.o x hx)), h.d, fun x hx => by
    obtain ⟨h1, So, h2, h3⟩ := h.a x hx
    exact ⟨h1, So, h2.same (fun y hy => hb.block y (h2.lt y hy)), h3⟩⟩
theorem ActsL.of {w w' : World} {n : Nat} {e : Ending} (h : RetK w n e w') (S0 : List Nat) (hS : ∀ x ∈ S0, x < w.heap.size) : ∃ v l, e = .returned v ∧ l.length = n ∧ ActsL w' S0 v l ∧ Below w.heap.size w w' := by
  obtain ⟨v, l, he, ho, hn, ha, hb⟩ := h
  refine ⟨v, l, he, hn, ⟨ownsRow_base ho (Nat.zero_le _), fun x hx hh => ?_, fun x hx => ?_⟩, hb⟩
  · have := own_new ho x hx
    have := hS x hh
    omega
  · obtain ⟨h1, h2⟩ := ha x hx
    refine ⟨h1, _, RdR.of_own opcs_len h2, fun y hy hh => ?_⟩
    have := own_new h2 y hy
    have := hS y hh
    omega
/-- the acts' cells, read where the cores may have turned -/
theorem ActsL.cell {w w' : World} {S0 : List Nat} {v : Value} {l : List ActV} (h : ActsL w S0 v l) (hm : Mod S0 w w') {i : Nat} {x : ActV} (hi : l[i]? = some x) : ∃ g cap, v = .slice (some ⟨g, 0, none⟩) l.length cap ∧ ∀ j u, x.cs[j]? = some u → w'.cell? ⟨g, i * 15 + j, none⟩ = some u := by
  have hlt := (List.getElem?_eq_some_iff.1 hi).1
  obtain ⟨g, cap, rfl, _, hg, _, _, hc⟩ := own_form h.o (by omega)
  refine ⟨g, cap, rfl, fun j u hj => ?_⟩
  rw [hm.cell hg (h.d g (by simp [Value.ownBlock]))]
  have hc2 : (cellsA l)[i * 15 + j]? = some u := cellsA_get hi hj
  exact hc _ u hc2
end Go.Proofs.YtcanfmabkklidaaGreat
