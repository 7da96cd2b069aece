/- How the laws' arguments read. -/
import Derived.Test.YtcanfmabkklidaaGreatMb27
import Derived.Test.YtcanfmabkklidaaGreatMb4
import Derived.WideShapes
set_option linter.unusedSimpArgs false
set_option linter.unusedVariables false
set_option linter.unnecessarySimpa false
namespace Go.Proofs.YtcanfmabkklidaaGreat
open Go.RowKit

instance : Inhabited InV := ⟨⟨0, 0, 0, 0⟩⟩
set_option maxRecDepth 10000 in
theorem ksinks_of {w : World} {a : Option Addr} {len cap : Nat} (h : Rd Tryz.prog w 22 [.slice a len cap]) : ∃ l : List KSinkV, l.length = len ∧ IsR KSinkV.cs 5 w (.slice a len cap) l := by
  obtain ⟨a', len', cap', hee, h1, h2, b, o, hd, hr⟩ := h.slice Tryz.underlying22 (show _ = 5 by kernel_rfl) (by omega)
  simp at hee
  obtain ⟨rfl, rfl, rfl⟩ := hee
  have key : ∀ i, i < len → ∃ x : KSinkV, True ∧ ∀ j u, x.cs[j]? = some u → w.cell? ⟨b, o + (i * 5 + j), none⟩ = some u := by
    intro i hi
    obtain ⟨es, h3, h4, h5⟩ := hr i hi
    obtain ⟨_, hf⟩ := h3.struct Tryz.underlying125
    match es, h4 with
    | [e0, e1, e2, e3, e4], _ =>
      obtain ⟨n0, p0, _⟩ := (show Rd Tryz.prog w 3 [e0] from hf 0 _ rfl).int Tryz.underlying3
      obtain ⟨n1, p1, _⟩ := (show Rd Tryz.prog w 3 [e1] from hf 1 _ rfl).int Tryz.underlying3
      obtain ⟨n2, p2, _⟩ := (show Rd Tryz.prog w 3 [e2] from hf 2 _ rfl).int Tryz.underlying3
      obtain ⟨n3, p3, _⟩ := (show Rd Tryz.prog w 3 [e3] from hf 3 _ rfl).int Tryz.underlying3
      obtain ⟨n4, p4, _⟩ := (show Rd Tryz.prog w 3 [e4] from hf 4 _ rfl).int Tryz.underlying3
      simp only [List.cons.injEq, and_true] at p0 p1 p2 p3 p4
      subst p0 p1 p2 p3 p4
      refine ⟨⟨n0, n1, n2, n3, n4⟩, trivial, fun j u hj => ?_⟩
      have hj5 : j < 5 := (List.getElem?_eq_some_iff.1 hj).1
      rw [h5 j hj5]
      exact hj
  obtain ⟨l, hl1, hl2, _⟩ := IsR.of_funP (fun _ => True) KSinkV.cs 5 w a len cap b o h1 h2 (fun hp => ⟨hd hp, by
    obtain ⟨x, _, hx⟩ := key 0 hp
    exact World.block_lt_of_cell? w _ (hx 0 _ rfl)⟩) key
  exact ⟨l, hl1, hl2⟩
set_option maxRecDepth 10000 in
theorem kins_of {w : World} {a : Option Addr} {len cap : Nat} (h : Rd Tryz.prog w 67 [.slice a len cap]) : ∃ l : List InV, l.length = len ∧ IsR InV.cs 4 w (.slice a len cap) l := by
  obtain ⟨a', len', cap', hee, h1, h2, b, o, hd, hr⟩ := h.slice Tryz.underlying67 (show _ = 4 by kernel_rfl) (by omega)
  simp at hee
  obtain ⟨rfl, rfl, rfl⟩ := hee
  have key : ∀ i, i < len → ∃ x : InV, True ∧ ∀ j u, x.cs[j]? = some u → w.cell? ⟨b, o + (i * 4 + j), none⟩ = some u := by
    intro i hi
    obtain ⟨es, h3, h4, h5⟩ := hr i hi
    obtain ⟨_, hf⟩ := h3.struct Tryz.underlying119
    match es, h4 with
    | [e0, e1, e2, e3], _ =>
      obtain ⟨n0, p0, _⟩ := (show Rd Tryz.prog w 3 [e0] from hf 0 _ rfl).int Tryz.underlying3
      obtain ⟨n1, p1, _⟩ := (show Rd Tryz.prog w 3 [e1] from hf 1 _ rfl).int Tryz.underlying3
      obtain ⟨n2, p2, _⟩ := (show Rd Tryz.prog w 3 [e2] from hf 2 _ rfl).int Tryz.underlying3
      obtain ⟨n3, p3, _⟩ := (show Rd Tryz.prog w 3 [e3] from hf 3 _ rfl).int Tryz.underlying3
      simp only [List.cons.injEq, and_true] at p0 p1 p2 p3
      subst p0 p1 p2 p3
      refine ⟨⟨n0, n1, n2, n3⟩, trivial, fun j u hj => ?_⟩
      have hj5 : j < 4 := (List.getElem?_eq_some_iff.1 hj).1
      rw [h5 j hj5]
      exact hj
  obtain ⟨l, hl1, hl2, _⟩ := IsR.of_funP (α := InV) (fun _ => True) InV.cs 4 w a len cap b o h1 h2 (fun hp => ⟨hd hp, by
    obtain ⟨x, _, hx⟩ := key 0 hp
    exact World.block_lt_of_cell? w _ (hx 0 _ rfl)⟩) key
  exact ⟨l, hl1, hl2⟩
set_option maxRecDepth 10000 in
theorem setup_open {W : World} {base : Nat} {v : Value} (h : Value.okWide Tryz.prog W .any base 24 v) (r : Rd Tryz.prog W 24 v.cells.toList) :
    ∃ kb kr kq vs l, v = .agg #[.int .i64 kb, .int .i64 kr, .int .i64 kq, vs] ∧ IsR KSinkV.cs 5 W vs l := by
  obtain ⟨⟨cs⟩, rfl, hsz⟩ := Go.WideShapes.okWide_struct Tryz.underlying24 h
  have hsz2 : cs.length = 4 := by
    have h4 : Tryz.prog.cellsOf 24 = 4 := by kernel_rfl
    rw [h4] at hsz
    simpa using hsz
  have r' : Rd Tryz.prog W 24 cs := r
  obtain ⟨_, hf⟩ := r'.struct Tryz.underlying24
  match cs, hsz2 with
  | [e0, e1, e2, e3], _ =>
    obtain ⟨n0, p0, _⟩ := (show Rd Tryz.prog W 3 [e0] from hf 0 _ rfl).int Tryz.underlying3
    obtain ⟨n1, p1, _⟩ := (show Rd Tryz.prog W 3 [e1] from hf 1 _ rfl).int Tryz.underlying3
    obtain ⟨n2, p2, _⟩ := (show Rd Tryz.prog W 3 [e2] from hf 2 _ rfl).int Tryz.underlying3
    have hs : Rd Tryz.prog W 22 [e3] := hf 3 _ rfl
    obtain ⟨a', len', cap', hee, _⟩ := hs.slice Tryz.underlying22 (show _ = 5 by kernel_rfl) (by omega)
    simp only [List.cons.injEq, and_true] at p0 p1 p2 hee
    subst p0 p1 p2 hee
    obtain ⟨l, _, hl⟩ := ksinks_of hs
    exact ⟨n0, n1, n2, _, l, rfl, hl⟩
end Go.Proofs.YtcanfmabkklidaaGreat
