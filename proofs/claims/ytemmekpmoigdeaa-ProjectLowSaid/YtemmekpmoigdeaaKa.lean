/- How a list of numbers of acts reads. -/
import Derived.Test.YtemmekpmoigdeaaActs
set_option linter.unusedSimpArgs false
set_option linter.unusedVariables false
set_option linter.unnecessarySimpa false
namespace Go.Proofs.Ytemmekpmoigdeaa
open Go.ChangeShapes Go.WideShapes Go.RowKit

theorem IsR.of_funP {α : Type} [Inhabited α] (p : α → Prop) (cs : α → List Value) (k : Nat) (w : World) (a : Option Addr) (len cap b o : Nat) (h1 : len ≤ cap) (h2 : cap ≤ maxLen) (hd : 0 < len → a = some ⟨b, o, none⟩ ∧ b < w.heap.size)
    (h : ∀ i, i < len → ∃ x : α, p x ∧ ∀ j u, (cs x)[j]? = some u → w.cell? ⟨b, o + (i * k + j), none⟩ = some u) : ∃ l : List α, l.length = len ∧ IsR cs k w (.slice a len cap) l ∧ ∀ x ∈ l, p x := by
  obtain ⟨f, hf⟩ := Go.Deep.choose_lt h
  refine ⟨(List.range len).map f, by simp, ⟨a, cap, by simp, by simpa using h1, h2, b, o, by simpa using hd, fun i x hi j u hj => ?_⟩, fun x hx => ?_⟩
  · have hlt : i < len := by have := (List.getElem?_eq_some_iff.1 hi).1; simpa using this
    obtain rfl : f i = x := by simpa [hlt] using hi
    rw [Nat.add_assoc]
    exact (hf i hlt).2 j u hj
  · obtain ⟨i, hi, rfl⟩ := List.mem_map.1 hx
    exact (hf i (by simpa using hi)).1
theorem isl_of {w : World} {v : Value} (h : Rd Try.prog w 50 [v]) : ∃ l : List Int, IsL w v l := by
  obtain ⟨a, len, cap, hee, h1, h2, b, o, hd, hr⟩ := h.slice Try.underlying50 (show _ = 1 by kernel_rfl) (by omega)
  simp at hee
  subst hee
  have each : ∀ i, i < len → ∃ q : Int, w.cell? ⟨b, o + i, none⟩ = some (.int .i64 q) := by
    intro i hi
    obtain ⟨es, h3, h4, h5⟩ := hr i hi
    obtain ⟨n, rfl, _⟩ := h3.int Try.underlying3
    exact ⟨n, by simpa using h5 0 (by omega)⟩
  obtain ⟨q, hq⟩ := Go.Deep.choose_lt each
  refine ⟨(List.range len).map q, a, cap, by simp, by simpa using h1, by simp; omega, b, o, fun hp => ⟨hd (by simpa using hp), World.block_lt_of_cell? w _ (hq 0 (by simpa using hp))⟩, fun i hi => ?_⟩
  have hi' : i < len := by simpa using hi
  rw [hq i hi']
  simp [hi']
instance : Inhabited KActV := ⟨⟨0, 0, 0, 0, .slice none 0 0, [], .slice none 0 0, [], 0, 0, 0, 0, 0, ⟨0, 0, 0, 0⟩⟩⟩
theorem kacts_of {w : World} {a : Option Addr} {len cap : Nat} (h : Rd Try.prog w 43 [.slice a len cap]) : ∃ l : List KActV, l.length = len ∧ IsR KActV.cs 15 w (.slice a len cap) l ∧ ∀ k ∈ l, k.ok w := by
  obtain ⟨a', len', cap', hee, h1, h2, b, o, hd, hr⟩ := h.slice Try.underlying43 (show _ = 15 by kernel_rfl) (by omega)
  simp at hee
  obtain ⟨rfl, rfl, rfl⟩ := hee
  have key : ∀ i, i < len → ∃ x : KActV, x.ok w ∧ ∀ j u, x.cs[j]? = some u → w.cell? ⟨b, o + (i * 15 + j), none⟩ = some u := by
    intro i hi
    obtain ⟨es, h3, h4, h5⟩ := hr i hi
    obtain ⟨_, hf⟩ := h3.struct Try.underlying69
    match es, h4 with
    | [e0, e1, e2, e3, e4, e5, e6, e7, e8, e9, e10, e11, e12, e13, e14], _ =>
      obtain ⟨n0, p0, _⟩ := (show Rd Try.prog w 3 [e0] from hf 0 _ rfl).int Try.underlying3
      obtain ⟨n1, p1, _⟩ := (show Rd Try.prog w 3 [e1] from hf 1 _ rfl).int Try.underlying3
      obtain ⟨n2, p2, _⟩ := (show Rd Try.prog w 3 [e2] from hf 2 _ rfl).int Try.underlying3
      obtain ⟨n3, p3, _⟩ := (show Rd Try.prog w 3 [e3] from hf 3 _ rfl).int Try.underlying3
      obtain ⟨_, hg⟩ := (show Rd Try.prog w 65 [e4, e5, e6, e7, e8, e9, e10] from hf 4 _ rfl).struct Try.underlying65
      obtain ⟨_, hi⟩ := (show Rd Try.prog w 67 [e11, e12, e13, e14] from hf 5 _ rfl).struct Try.underlying67
      obtain ⟨ol, ho⟩ := isl_of (show Rd Try.prog w 50 [e4] from hg 0 _ rfl)
      obtain ⟨nl, hn⟩ := isl_of (show Rd Try.prog w 50 [e5] from hg 1 _ rfl)
      obtain ⟨n6, p6, _⟩ := (show Rd Try.prog w 3 [e6] from hg 2 _ rfl).int Try.underlying3
      obtain ⟨n7, p7, _⟩ := (show Rd Try.prog w 3 [e7] from hg 3 _ rfl).int Try.underlying3
      obtain ⟨n8, p8, _⟩ := (show Rd Try.prog w 3 [e8] from hg 4 _ rfl).int Try.underlying3
      obtain ⟨n9, p9, _⟩ := (show Rd Try.prog w 3 [e9] from hg 5 _ rfl).int Try.underlying3
      obtain ⟨n10, p10, _⟩ := (show Rd Try.prog w 3 [e10] from hg 6 _ rfl).int Try.underlying3
      obtain ⟨n11, p11, _⟩ := (show Rd Try.prog w 3 [e11] from hi 0 _ rfl).int Try.underlying3
      obtain ⟨n12, p12, _⟩ := (show Rd Try.prog w 3 [e12] from hi 1 _ rfl).int Try.underlying3
      obtain ⟨n13, p13, _⟩ := (show Rd Try.prog w 3 [e13] from hi 2 _ rfl).int Try.underlying3
      obtain ⟨n14, p14, _⟩ := (show Rd Try.prog w 3 [e14] from hi 3 _ rfl).int Try.underlying3
      simp only [List.cons.injEq, and_true] at p0 p1 p2 p3 p6 p7 p8 p9 p10 p11 p12 p13 p14
      subst p0 p1 p2 p3 p6 p7 p8 p9 p10 p11 p12 p13 p14
      refine ⟨⟨n0, n1, n2, n3, e4, ol, e5, nl, n6, n7, n8, n9, n10, ⟨n11, n12, n13, n14⟩⟩, ⟨ho, hn⟩, fun j u hj => ?_⟩
      have hj5 : j < 15 := (List.getElem?_eq_some_iff.1 hj).1
      rw [h5 j hj5]
      exact hj
  refine IsR.of_funP _ KActV.cs 15 w a len cap b o h1 h2 (fun hp => ⟨hd hp, ?_⟩) key
  obtain ⟨x, _, hx⟩ := key 0 hp
  exact World.block_lt_of_cell? w _ (hx 0 _ rfl)
end Go.Proofs.Ytemmekpmoigdeaa
