/- The plain part of awake: what five acts answer. -/
import Derived.Test.YtcanfmabkklidaaGreatMb27
set_option linter.unusedSimpArgs false
set_option linter.unusedVariables false
set_option linter.unnecessarySimpa false
namespace Go.Proofs.YtcanfmabkklidaaGreat
open Go.RowKit

theorem actcs_len (a : ActV) : a.cs.length = 15 := rfl
/-- acts laid in a new block -/
theorem acts_lit (w : World) (l : List ActV) (F : List Nat) (hF : ∀ x ∈ F, x < w.heap.size) (hl : l.length ≤ 1000) (h0 : 0 < l.length)
    (ho : ∀ a ∈ l, ActBd7 a ∧ ∃ S, RdR OpV.cs 2 w a.pipe.ops a.pipe.ol S ∧ ∀ x ∈ S, x ∉ F) : ActsIn (w.alloc (.cells (l.flatMap ActV.cs).toArray 43)) (.slice (some ⟨w.heap.size, 0, none⟩) l.length l.length) l F := by
  refine ⟨⟨[w.heap.size], ⟨_, l.length, rfl, Nat.le_refl _, by unfold maxLen; omega, .inr ⟨w.heap.size, 0, rfl, rfl, by simp, fun i x hi j u hj => ?_⟩⟩, fun x hx hh => ?_⟩, fun x hx => ?_⟩
  · refine cell_new _ _ _ _ _ _ rfl ?_
    rw [Nat.zero_add]
    simpa using flat_get actcs_len hi hj
  · have := hF x hh
    obtain rfl : x = w.heap.size := by simpa using hx
    omega
  · obtain ⟨h1, S, h2, h3⟩ := ho x hx
    exact ⟨h1, S, h2.same (fun y hy => (bel_alloc (Below.refl _ w) _).block y (h2.lt y hy)), h3⟩
def noP : PipeV := ⟨.slice none 0 0, [], 0, 0, 0, 0, 0⟩
def awkL : List ActV := [⟨1, 0, 0, 0, ⟨.slice none 0 0, [], 10, 10, 2, 0, -1⟩, false, 0, 0, 0, 0⟩, ⟨2, 0, 0, 0, noP, false, 1, 0, 5, 0⟩, ⟨2, 0, 0, 0, noP, true, 10, 0, 0, 0⟩, ⟨3, 0, 0, 0, noP, false, 0, 0, 0, 0⟩, ⟨4, 0, 0, 3, noP, false, 0, 0, 0, 0⟩]
theorem awk_eq : (((CoreV.new 4 8 50 [⟨3, 3, 2, 2, 4⟩]).acts (awkL.map ActV.m)).2.map (fun a => a.rows.map RowV.value)) = [[], [], [], [], [5]] := by
  decide +kernel
end Go.Proofs.YtcanfmabkklidaaGreat
set_option linter.unusedSimpArgs false
set_option linter.unusedVariables false
set_option linter.unnecessarySimpa false
namespace Go.Proofs.YtcanfmabkklidaaGreat
open Go.RowKit

structure Two (w : World) (a : Nat) (Sa : List Nat) (ca : CoreV) (b : Nat) (Sb : List Nat) (cb : CoreV) : Prop where
  x : CoreAt w a Sa ca
  y : CoreAt w b Sb cb
  d : ∀ z ∈ Sa, z ∉ Sb
theorem Two.swap {w : World} {a b : Nat} {Sa Sb : List Nat} {ca cb : CoreV} (h : Two w a Sa ca b Sb cb) : Two w b Sb cb a Sa ca := ⟨h.y, h.x, fun z hz hh => h.d z hh hz⟩
theorem Two.left {w w' : World} {a b : Nat} {Sa Sb Sa' : List Nat} {ca cb ca' : CoreV} (h : Two w a Sa ca b Sb cb) (hm : Mod Sa w w') (hc : CoreAt w' a Sa' ca') (hi : Into Sa' Sa w.heap.size) : Two w' a Sa' ca' b Sb cb :=
  ⟨hc, h.y.apart hm (fun x hx => h.d x hx), fun z hz hh => by
    rcases hi z hz with h1 | h1
    · exact h.d z h1 hh
    · have := h.y.lt z hh
      omega⟩
theorem Two.below {w w' : World} {a b : Nat} {Sa Sb : List Nat} {ca cb : CoreV} (h : Two w a Sa ca b Sb cb) (hb : Below w.heap.size w w') : Two w' a Sa ca b Sb cb := ⟨h.x.below hb, h.y.below hb, h.d⟩
/-- two cores, told from a world on: nothing else was turned -/
def Duo2 (w0 : World) (S0 : List Nat) (w : World) (a b : Nat) (ca cb : CoreV) : Prop :=
  ∃ Sa Sb, Two w a Sa ca b Sb cb ∧ Into Sa S0 w0.heap.size ∧ Into Sb S0 w0.heap.size ∧ Mod S0 w0 w
theorem Duo2.swap {w0 : World} {S0 : List Nat} {w : World} {a b : Nat} {ca cb : CoreV} (h : Duo2 w0 S0 w a b ca cb) : Duo2 w0 S0 w b a cb ca := by
  obtain ⟨Sa, Sb, h1, h2, h3, h4⟩ := h
  exact ⟨Sb, Sa, h1.swap, h3, h2, h4⟩
theorem Duo2.below {w0 : World} {S0 : List Nat} {w w' : World} {a b : Nat} {ca cb : CoreV} (h : Duo2 w0 S0 w a b ca cb) (hb : Below w.heap.size w w') : Duo2 w0 S0 w' a b ca cb := by
  obtain ⟨Sa, Sb, h1, h2, h3, h4⟩ := h
  exact ⟨Sa, Sb, h1.below hb, h2, h3, h4.bel hb⟩
theorem Duo2.comp {w0 w1 : World} {S0 S1 : List Nat} {w : World} {a b : Nat} {ca cb : CoreV} (hm : Mod S0 w0 w1) (hi : Into S1 S0 w0.heap.size) (h : Duo2 w1 S1 w a b ca cb) : Duo2 w0 S0 w a b ca cb := by
  obtain ⟨Sa, Sb, h1, h2, h3, h4⟩ := h
  exact ⟨Sa, Sb, h1, hi.trans h2 hm.size, hi.trans h3 hm.size, hm.trans h4 hi⟩
theorem Duo2.mod {w0 : World} {S0 : List Nat} {w : World} {a b : Nat} {ca cb : CoreV} (h : Duo2 w0 S0 w a b ca cb) : Mod S0 w0 w := by
  obtain ⟨Sa, Sb, h1, h2, h3, h4⟩ := h
  exact h4
theorem Two.duo {w : World} {a b : Nat} {Sa Sb : List Nat} {ca cb : CoreV} (h : Two w a Sa ca b Sb cb) : Duo2 w (Sa ++ Sb) w a b ca cb :=
  ⟨Sa, Sb, h, fun x hx => .inl (List.mem_append_left _ hx), fun x hx => .inl (List.mem_append_right _ hx), Mod.refl _ _⟩
/-- one act at the first of two cores -/
theorem duo_do {w0 : World} {S0 : List Nat} {w : World} {a b : Nat} {ca cb : CoreV} (h : Duo2 w0 S0 w a b ca cb) (N : Nat) (x : ActV) (hx : ActBd7 x) (So : List Nat) (hop : RdR OpV.cs 2 w0 x.pipe.ops x.pipe.ol So) (hSo : ∀ y ∈ So, y ∉ S0) (hq0 : 0 ≤ ca.quota) (hq1 : ca.quota ≤ 1000) (ok : CoreOk ca N) (hN : N + 6 ≤ 100000) :
    Calls Tryz.prog 12 #[.pointer (some ⟨a, 0, none⟩), .slice (some ⟨w.heap.size, 0, none⟩) 1 1] (w.alloc (.cells x.cs.toArray 43)) fun e w' => (∃ v, e = .returned v) ∧ Duo2 w0 S0 w' a b (ca.act x.m).1 cb := by
  obtain ⟨Sa, Sb, h1, h2, h3, h4⟩ := h
  have hal := acts_lit w [x] Sa h1.x.lt (by simp) (by simp) (fun y hy => by
    obtain rfl : y = x := by simpa using hy
    refine ⟨hx, So, hop.same (fun z hz => h4.block z (hop.lt z hz) (hSo z hz)), fun z hz hh => ?_⟩
    rcases h2 z hh with h5 | h5
    · exact hSo z hz h5
    · have := hop.lt z hz
      omega)
  simp only [List.flatMap_cons, List.flatMap_nil, List.append_nil, List.length_cons, List.length_nil, Nat.zero_add] at hal
  refine (dos_at a Sa ca N _ [x] hq0 hq1 _ (h1.x.below (bel_alloc (Below.refl _ _) _)) hal ok (by simpa using hN)).mono ?_
  rintro e w' ⟨⟨v, L, S', rfl, _, _, _, hc, hi, _, _⟩, hm⟩
  have e1 : (ca.acts ([x].map ActV.m)).1 = (ca.act x.m).1 := by simp [CoreV.acts]
  rw [e1] at hc
  have hsz : w.heap.size ≤ (w.alloc (.cells x.cs.toArray 43)).heap.size := by simp
  refine ⟨⟨v, rfl⟩, S', Sb, (h1.below (bel_alloc (Below.refl _ _) _)).left hm hc hi, h2.trans hi (Nat.le_trans h4.size hsz), h3, (h4.new _).trans hm h2⟩
/-- what a tenant was told, of the first of two cores -/
theorem duo_told {w0 : World} {S0 : List Nat} {w : World} {a b : Nat} {ca cb : CoreV} (h : Duo2 w0 S0 w a b ca cb) (N t : Nat) (ht : t ≤ 7) (hq0 : 0 ≤ ca.quota) (hq1 : ca.quota ≤ 1000) (ok : CoreOk ca N) (hN : N + 6 ≤ 100000) (hl : (ca.board t).length ≤ 640) :
    Calls Tryz.prog 13 #[.pointer (some ⟨a, 0, none⟩), .int .i64 t] w fun e w' => ∃ v S1, e = .returned v ∧ w'.ownsRow w.heap.size 52 4 v (ca.board t).length ((ca.board t).flatMap RelV.cs) ∧ (∀ x ∈ v.ownBlock.toList, x ∉ S1) ∧ Duo2 w' S1 w' a b ca cb ∧ Into S1 S0 w0.heap.size ∧ Mod S0 w0 w' := by
  obtain ⟨Sa, Sb, h1, h2, h3, h4⟩ := h
  refine (told_all a Sa ca N t ht hq0 hq1 w h1.x ok hN hl).mono ?_
  rintro e w' ⟨v, S', rfl, ho, hc, hi, hd, hm⟩
  have h5 := h1.left hm hc hi
  refine ⟨v, S' ++ Sb, rfl, ho, fun x hx hh => ?_, h5.duo, fun x hx => ?_, h4.trans hm h2⟩
  · rcases List.mem_append.1 hh with hh | hh
    · exact hd x hx hh
    · have := own_new ho x hx
      have := h1.y.lt x hh
      omega
  · rcases List.mem_append.1 hx with hx | hx
    · exact (h2.trans hi h4.size) x hx
    · exact h3 x hx
/-- all rows of a tenant, of the first of two cores -/
theorem duo_rows {w0 : World} {S0 : List Nat} {w : World} {a b : Nat} {ca cb : CoreV} (h : Duo2 w0 S0 w a b ca cb) (N t : Nat) (ht : t ≤ 7) (hq0 : 0 ≤ ca.quota) (hq1 : ca.quota ≤ 1000) (ok : CoreOk ca N) (hN : N + 6 ≤ 100000) (hl : (rowsV ca t).length ≤ 6400) :
    Calls Tryz.prog 19 #[.pointer (some ⟨a, 0, none⟩), .int .i64 t] w fun e w' => ∃ v S1, e = .returned v ∧ w'.ownsRow w.heap.size 64 5 v (rowsV ca t).length ((rowsV ca t).flatMap RowV.cs) ∧ (∀ x ∈ v.ownBlock.toList, x ∉ S1) ∧ Duo2 w' S1 w' a b ca cb ∧ Into S1 S0 w0.heap.size ∧ Mod S0 w0 w' := by
  obtain ⟨Sa, Sb, h1, h2, h3, h4⟩ := h
  refine (rowsall_any a Sa ca N t ht hq0 hq1 w h1.x ok hN hl).mono ?_
  rintro e w' ⟨v, S', rfl, ho, hc, hi, hd, hm⟩
  have h5 := h1.left hm hc hi
  refine ⟨v, S' ++ Sb, rfl, ho, fun x hx hh => ?_, h5.duo, fun x hx => ?_, h4.trans hm h2⟩
  · rcases List.mem_append.1 hh with hh | hh
    · exact hd x hx hh
    · have := own_new ho x hx
      have := h1.y.lt x hh
      omega
  · rcases List.mem_append.1 hx with hx | hx
    · exact (h2.trans hi h4.size) x hx
    · exact h3 x hx
end Go.Proofs.YtcanfmabkklidaaGreat
set_option linter.unusedSimpArgs false
set_option linter.unusedVariables false
set_option linter.unnecessarySimpa false
namespace Go.Proofs.YtcanfmabkklidaaGreat
open Go.RowKit

theorem KActV.ok.kept {w w' : World} {k : KActV} (h : k.ok w) (hb : Below w.heap.size w w') : k.ok w' := ⟨h.o.kept hb, h.n.kept hb⟩
/-- acts that lie beside the cores -/
structure ActsL (w : World) (S0 : List Nat) (v : Value) (l : List ActV) : Prop where
  o : w.ownsRow 0 43 15 v l.length (cellsA l)
  d : ∀ x ∈ v.ownBlock.toList, x ∉ S0
  a : ∀ x ∈ l, ActBd x ∧ ∃ So, RdR OpV.cs 2 w x.pipe.ops x.pipe.ol So ∧ ∀ y ∈ So, y ∉ S0
theorem ActsL.below {w w' : World} {S0 : List Nat} {v : Value} {l : List ActV} (h : ActsL w S0 v l) (hb : Below w.heap.size w w') : ActsL w' S0 v l :=
  ⟨own_of_block h.o (fun x hx => hb.block x (own_lt h.o x hx)), h.d, fun x hx => by
    obtain ⟨h1, So, h2, h3⟩ := h.a x hx
    exact ⟨h1, So, h2.same (fun y hy => hb.block y (h2.lt y hy)), h3⟩⟩
theorem ActsL.of {w w' : World} {n : Nat} {e : Ending} (h : RetK w n e w') (S0 : List Nat) (hS : ∀ x ∈ S0, x < w.heap.size) : ∃ v l, e = .returned v ∧ l.length = n ∧ ActsL w' S0 v l ∧ Below w.heap.size w w' := by
  obtain ⟨v, l, he, ho, hn, ha, hb⟩ := h
  refine ⟨v, l, he, hn, ⟨ownsRow_base ho (Nat.zero_le _), fun x hx hh => ?_, fun x hx => ?_⟩, hb⟩
  · have := own_new ho x hx
    have := hS x hh
    omega
  · obtain ⟨h1, h2⟩ := ha x hx
    refine ⟨h1, _, RdR.of_own opcs_len h2, fun y hy hh => ?_⟩
    have := own_new h2 y hy
    have := hS y hh
    omega
/-- the acts' cells, read where the cores may have turned -/
theorem ActsL.cell {w w' : World} {S0 : List Nat} {v : Value} {l : List ActV} (h : ActsL w S0 v l) (hm : Mod S0 w w') {i : Nat} {x : ActV} (hi : l[i]? = some x) : ∃ g cap, v = .slice (some ⟨g, 0, none⟩) l.length cap ∧ ∀ j u, x.cs[j]? = some u → w'.cell? ⟨g, i * 15 + j, none⟩ = some u := by
  have hlt := (List.getElem?_eq_some_iff.1 hi).1
  obtain ⟨g, cap, rfl, _, hg, _, _, hc⟩ := own_form h.o (by omega)
  refine ⟨g, cap, rfl, fun j u hj => ?_⟩
  rw [hm.cell hg (h.d g (by simp [Value.ownBlock]))]
  have hc2 : (cellsA l)[i * 15 + j]? = some u := cellsA_get hi hj
  exact hc _ u hc2
end Go.Proofs.YtcanfmabkklidaaGreat
