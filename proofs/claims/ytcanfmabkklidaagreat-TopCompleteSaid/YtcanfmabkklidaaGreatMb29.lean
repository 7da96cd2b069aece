/- One core in a world, told from a world on. -/
import Derived.Test.YtcanfmabkklidaaGreatMb27
import Derived.Test.YtcanfmabkklidaaGreatMb28
set_option linter.unusedSimpArgs false
set_option linter.unusedVariables false
set_option linter.unnecessarySimpa false
namespace Go.Proofs.YtcanfmabkklidaaGreat
open Go.RowKit

def One (w0 : World) (S0 : List Nat) (w : World) (a : Nat) (c : CoreV) : Prop := ∃ S, CoreAt w a S c ∧ Into S S0 w0.heap.size ∧ Mod S0 w0 w
theorem One.below {w0 : World} {S0 : List Nat} {w w' : World} {a : Nat} {c : CoreV} (h : One w0 S0 w a c) (hb : Below w.heap.size w w') : One w0 S0 w' a c := by
  obtain ⟨S, h1, h2, h3⟩ := h
  exact ⟨S, h1.below hb, h2, h3.bel hb⟩
theorem One.mod {w0 : World} {S0 : List Nat} {w : World} {a : Nat} {c : CoreV} (h : One w0 S0 w a c) : Mod S0 w0 w := by
  obtain ⟨S, h1, h2, h3⟩ := h
  exact h3
theorem One.comp {w0 w1 : World} {S0 S1 : List Nat} {w : World} {a : Nat} {c : CoreV} (hm : Mod S0 w0 w1) (hi : Into S1 S0 w0.heap.size) (h : One w1 S1 w a c) : One w0 S0 w a c := by
  obtain ⟨S, h1, h2, h3⟩ := h
  exact ⟨S, h1, hi.trans h2 hm.size, hm.trans h3 hi⟩
theorem CoreAt.one {w : World} {a : Nat} {S : List Nat} {c : CoreV} (h : CoreAt w a S c) : One w S w a c := ⟨S, h, Into.refl _ _, Mod.refl _ _⟩
/-- some acts, their answers in a row -/
theorem one_dos {w0 : World} {S0 : List Nat} {w : World} {a : Nat} {c : CoreV} (h : One w0 S0 w a c) (N : Nat) (l : List ActV) (hl : l.length ≤ 1000) (h0 : 0 < l.length) (ho : ∀ x ∈ l, ActBd7 x ∧ ∃ So, RdR OpV.cs 2 w0 x.pipe.ops x.pipe.ol So ∧ ∀ y ∈ So, y ∉ S0) (hq0 : 0 ≤ c.quota) (hq1 : c.quota ≤ 1000) (ok : CoreOk c N) (hN : N + 6 * l.length ≤ 100000) :
    Calls Tryz.prog 12 #[.pointer (some ⟨a, 0, none⟩), .slice (some ⟨w.heap.size, 0, none⟩) l.length l.length] (w.alloc (.cells (l.flatMap ActV.cs).toArray 43)) fun e w' => ∃ (g cap : Nat) (L : List AnsV) (S1 : List Nat), e = .returned (.slice (some ⟨g, 0, none⟩) l.length cap) ∧ l.length ≤ cap ∧ At w' g (L.flatMap AnsV.cs) ∧ L.map AnsV.m = (c.acts (l.map ActV.m)).2 ∧ One w' S1 w' a (c.acts (l.map ActV.m)).1 ∧ Into S1 S0 w0.heap.size ∧ Mod S0 w0 w' := by
  obtain ⟨S, h1, h2, h3⟩ := h
  have hal := acts_lit w l S h1.lt hl h0 (fun y hy => by
    obtain ⟨hx, So, hop, hSo⟩ := ho y hy
    refine ⟨hx, So, hop.same (fun z hz => h3.block z (hop.lt z hz) (hSo z hz)), fun z hz hh => ?_⟩
    rcases h2 z hh with h5 | h5
    · exact hSo z hz h5
    · have := hop.lt z hz
      omega)
  refine (dos_at a S c N _ l hq0 hq1 _ (h1.below (bel_alloc (Below.refl _ _) _)) hal ok hN).mono ?_
  rintro e w' ⟨⟨v, L, S', rfl, ho, hm1, _, hc, hi, _, _⟩, hm⟩
  have hL : L.length = l.length := by
    have := congrArg List.length hm1
    rw [List.length_map, acts_len, List.length_map] at this
    exact this
  obtain ⟨g, cap, hv, _, _, hcap, _, _⟩ := own_form ho (by omega)
  have hsz : w.heap.size ≤ (w.alloc (.cells (l.flatMap ActV.cs).toArray 43)).heap.size := by simp
  refine ⟨g, cap, L, S', by rw [hv, hL], by omega, At.of_row ho (by rw [hv]; rfl), hm1, hc.one, h2.trans hi (Nat.le_trans h3.size hsz), (h3.new _).trans hm h2⟩
theorem one_rows {w0 : World} {S0 : List Nat} {w : World} {a : Nat} {c : CoreV} (h : One w0 S0 w a c) (N t : Nat) (ht : t ≤ 7) (hq0 : 0 ≤ c.quota) (hq1 : c.quota ≤ 1000) (ok : CoreOk c N) (hN : N + 6 ≤ 100000) (hl : (rowsV c t).length ≤ 6400) :
    Calls Tryz.prog 19 #[.pointer (some ⟨a, 0, none⟩), .int .i64 t] w fun e w' => ∃ v S1, e = .returned v ∧ w'.ownsRow w.heap.size 64 5 v (rowsV c t).length ((rowsV c t).flatMap RowV.cs) ∧ (∀ x ∈ v.ownBlock.toList, x ∉ S1) ∧ One w' S1 w' a c ∧ Into S1 S0 w0.heap.size ∧ Mod S0 w0 w' := by
  obtain ⟨S, h1, h2, h3⟩ := h
  refine (rowsall_any a S c N t ht hq0 hq1 w h1 ok hN hl).mono ?_
  rintro e w' ⟨v, S', rfl, ho, hc, hi, hd, hm⟩
  exact ⟨v, S', rfl, ho, hd, hc.one, h2.trans hi h3.size, h3.trans hm h2⟩
set_option maxRecDepth 10000 in
theorem pipe_open {W : World} {base : Nat} {v : Value} (h : Value.okWide Tryz.prog W .any base 75 v) (r : Rd Tryz.prog W 75 v.cells.toList) :
    ∃ vo ol vn nl sz sl ag si fd, v = .agg #[vo, vn, .int .i64 sz, .int .i64 sl, .int .i64 ag, .int .i64 si, .int .i64 fd] ∧ IsL W vo ol ∧ IsL W vn nl := by
  obtain ⟨⟨cs⟩, rfl, hsz⟩ := Go.WideShapes.okWide_struct Tryz.underlying75 h
  have hsz2 : cs.length = 7 := by
    have h4 : Tryz.prog.cellsOf 75 = 7 := by kernel_rfl
    rw [h4] at hsz
    simpa using hsz
  have r' : Rd Tryz.prog W 75 cs := r
  obtain ⟨_, hg⟩ := r'.struct Tryz.underlying75
  match cs, hsz2 with
  | [e4, e5, e6, e7, e8, e9, e10], _ =>
    obtain ⟨ol, ho⟩ := isl_of (show Rd Tryz.prog W 73 [e4] from hg 0 _ rfl)
    obtain ⟨nl, hn⟩ := isl_of (show Rd Tryz.prog W 73 [e5] from hg 1 _ rfl)
    obtain ⟨n6, p6, _⟩ := (show Rd Tryz.prog W 3 [e6] from hg 2 _ rfl).int Tryz.underlying3
    obtain ⟨n7, p7, _⟩ := (show Rd Tryz.prog W 3 [e7] from hg 3 _ rfl).int Tryz.underlying3
    obtain ⟨n8, p8, _⟩ := (show Rd Tryz.prog W 3 [e8] from hg 4 _ rfl).int Tryz.underlying3
    obtain ⟨n9, p9, _⟩ := (show Rd Tryz.prog W 3 [e9] from hg 5 _ rfl).int Tryz.underlying3
    obtain ⟨n10, p10, _⟩ := (show Rd Tryz.prog W 3 [e10] from hg 6 _ rfl).int Tryz.underlying3
    simp only [List.cons.injEq, and_true] at p6 p7 p8 p9 p10
    subst p6 p7 p8 p9 p10
    exact ⟨e4, ol, e5, nl, n6, n7, n8, n9, n10, rfl, ho, hn⟩
end Go.Proofs.YtcanfmabkklidaaGreat
