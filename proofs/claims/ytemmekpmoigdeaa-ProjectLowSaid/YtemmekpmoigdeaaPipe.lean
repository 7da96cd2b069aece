/- What (Pipe).Pipe makes of numbers. -/
import Derived.Test.YtemmekpmoigdeaaAt
import Derived.Test.YtemmekpmoigdeaaSame
set_option linter.unusedSimpArgs false
set_option linter.unusedVariables false
set_option linter.unnecessarySimpa false
namespace Go.Proofs.Ytemmekpmoigdeaa
open Go.RowKit

structure OpBd (o : OpV) : Prop where
  k1 : 1 ≤ o.kind
  k2 : o.kind ≤ 6
  n1 : -5 ≤ o.n
  n2 : o.n ≤ 9
  key : o.kind = 3 → 1 ≤ o.n ∧ o.n ≤ 4
  only : o.kind = 6 → 0 ≤ o.n ∧ o.n ≤ 2
structure PipeBd (p : PipeV) : Prop where
  slide1 : 1 ≤ p.slide
  slide2 : p.slide ≤ 12
  size1 : p.slide ≤ p.size
  size2 : p.size ≤ 4 * p.slide
  agg1 : 1 ≤ p.agg
  agg2 : p.agg ≤ 4
  sink1 : -1 ≤ p.sink
  sink2 : p.sink ≤ 1
  feed1 : -1 ≤ p.feed
  feed2 : p.feed ≤ 1
  len : p.ol.length ≤ 4
  ops : ∀ o ∈ p.ol, OpBd o
theorem opcs_len (x : OpV) : x.cs.length = 2 := rfl
theorem info76 : (Try.prog.info? 76).map (fun i => (i.zero, i.size, i.bytes)) = some (some (.agg #[.int .i64 0, .int .i64 0]), 2, 16) := by kernel_rfl
theorem ownsRow_base {w : World} {base b' : Nat} {e : TypeId} {size : Nat} {v : Value} {n : Nat} {xs : List Value} (h : w.ownsRow base e size v n xs) (hb : b' ≤ base) : w.ownsRow b' e size v n xs := by
  refine ⟨h.1, ?_⟩
  rcases h.2 with h | ⟨g, cap, cur, h1, h2, h3⟩
  · exact .inl h
  · exact .inr ⟨g, cap, cur, h1, by omega, h3⟩
theorem rows_apart {w : World} {b1 b2 : Nat} {e1 e2 : TypeId} {s1 s2 : Nat} {v1 v2 : Value} {n1 n2 : Nat} {xs1 xs2 : List Value} (h1 : w.ownsRow b1 e1 s1 v1 n1 xs1) (h2 : w.ownsRow b2 e2 s2 v2 n2 xs2) (he : e1 ≠ e2) : v1.ownBlock = none ∨ v1.ownBlock ≠ v2.ownBlock := by
  rcases h1.2 with ⟨rfl, _⟩ | ⟨g, cap, cur, rfl, _, hg, _⟩
  · exact .inl rfl
  · rcases h2.2 with ⟨rfl, _⟩ | ⟨g2, cap2, cur2, rfl, _, hg2, _⟩
    · exact .inr (by simp [Value.ownBlock])
    · refine .inr fun h => ?_
      simp only [Value.ownBlock, Option.some.injEq] at h
      subst h
      rw [hg] at hg2
      simp only [Option.some.injEq, Obj.cells.injEq] at hg2
      exact he hg2.2.1
theorem At.set6 (w : World) (b : Nat) (x0 x1 x2 x3 x4 x5 : Value) (h : At w b [x0, x1, x2, x3, x4, x5]) (y0 y1 y2 y3 y4 y5 : Value) :
    At ((((((w.setCell ⟨b, 0, none⟩ y0).setCell ⟨b, 1, none⟩ y1).setCell ⟨b, 2, none⟩ y2).setCell ⟨b, 3, none⟩ y3).setCell ⟨b, 4, none⟩ y4).setCell ⟨b, 5, none⟩ y5) b [y0, y1, y2, y3, y4, y5] := by
  have h0 : At _ b [y0, x1, x2, x3, x4, x5] := h.set 0 y0 (by simp)
  have h1 : At _ b [y0, y1, x2, x3, x4, x5] := h0.set 1 y1 (by simp)
  have h2 : At _ b [y0, y1, y2, x3, x4, x5] := h1.set 2 y2 (by simp)
  have h3 : At _ b [y0, y1, y2, y3, x4, x5] := h2.set 3 y3 (by simp)
  have h4 : At _ b [y0, y1, y2, y3, y4, x5] := h3.set 4 y4 (by simp)
  exact h4.set 5 y5 (by simp)
theorem res23 (w : World) (b : Nat) (v : Value) (Z S G I F : Int) (tmps : Array Value) (ht : tmps[2]?.getD undef = .pointer (some ⟨b, 0, none⟩)) (h : At w b [v, .int .i64 Z, .int .i64 S, .int .i64 G, .int .i64 I, .int .i64 F]) :
    (results Try.f23 tmps).run Try.prog w = .ok (.agg #[v, .int .i64 Z, .int .i64 S, .int .i64 G, .int .i64 I, .int .i64 F]) w := by
  have c0 := h.c 0 _ rfl
  have c1 := h.c 1 _ rfl
  have c2 := h.c 2 _ rfl
  have c3 := h.c 3 _ rfl
  have c4 := h.c 4 _ rfl
  have c5 := h.c 5 _ rfl
  simp only [results, Try.results23]
  simp [go_sem, ht, c0, c1, c2, c3, c4, c5]
/-- what a pipe's making leaves -/
def RetP (W : World) (e : Ending) (w' : World) : Prop := ∃ p : PipeV, e = .returned p.val ∧ w'.ownsRow W.heap.size 76 2 p.ops p.ol.length (p.ol.flatMap OpV.cs) ∧ PipeBd p ∧ Below W.heap.size W w'

set_option maxRecDepth 100000 in
set_option maxHeartbeats 8000000 in
theorem pipe_any (W : World) (vo vn : Value) (ol nl : List Int) (sz sl ag si fd : Int) (ho : IsL W vo ol) (hn : IsL W vn nl) :
    Calls Try.prog 23 #[.agg #[vo, vn, .int .i64 sz, .int .i64 sl, .int .i64 ag, .int .i64 si, .int .i64 fd]] W (RetP W) := by
  have HN := Lib.hid hn
  obtain ⟨ao, co, rfl, ho1, ho2, bo, oo, ho3, ho4⟩ := ho
  obtain ⟨an, cn, rfl, hn1, hn2, _⟩ := hn
  have HO3 := Lib.hid ho3
  have HO4 := Lib.hid ho4
  clear ho3 ho4
  unfold maxLen at ho2 hn2
  have bsl := within_bd sl 1 12 (by omega)
  have bag := within_bd ag 1 4 (by omega)
  have bsi := within_bd si (-1) 1 (by omega)
  have bfd := within_bd fd (-1) 1 (by omega)
  have bsz := within_bd sz (within sl 1 12) (4 * within sl 1 12) (by omega)
  obtain ⟨S, hS⟩ : ∃ S, within sl 1 12 = S := ⟨_, rfl⟩
  rw [hS] at bsl bsz
  obtain ⟨Z, hZ⟩ : ∃ Z, within sz S (4 * S) = Z := ⟨_, rfl⟩
  rw [hZ] at bsz
  have HS := Lib.hid hS
  have HZ := Lib.hid hZ
  clear hS hZ
  go_enter Try.func23, Try.ntmps23
  go_wp2_with fail
  refine wp_region_plB (fun w0 => At w0 W.heap.size [.slice ao ol.length co, .slice an nl.length cn, .int .i64 sz, .int .i64 sl, .int .i64 ag, .int .i64 si, .int .i64 fd] ∧ At w0 (W.heap.size + 1) [.slice none 0 0, .int .i64 0, .int .i64 0, .int .i64 0, .int .i64 0, .int .i64 0] ∧ Below W.heap.size W w0 ∧ w0.heap.size = W.heap.size + 2) ?ph1 (.take 0 <| .take 1 <| .take 2 <| .take 3 <| .take 4 <| .take 5 <| .take 6 <| .take 7 <| .take 8 <| .take 9 <| .take 10 <| .take 11 <| .take 12 <| .doo 13 <| .doo 14 <| .done) ?plL1 (by kernel_rfl) (by kernel_rfl) (by kernel_rfl) ?plH1 (by intro c a d v w; cases d <;> exact fun h => h) ?_
  case plH1 =>
    simp only [Pl.with, List.getElem?_toArray, List.getElem?_cons_zero, List.getElem?_cons_succ]
    try rfl
  case ph1 =>
    refine ⟨(At.new _ _ _).alloc _, ?_, ((Below.refl _ W).alloc (Nat.le_refl _) _).alloc (by simp) _, by simp⟩
    have := At.new (W.alloc (.cells [.slice ao ol.length co, .slice an nl.length cn, .int .i64 sz, .int .i64 sl, .int .i64 ag, .int .i64 si, .int .i64 fd].toArray 65)) [.slice none 0 0, .int .i64 0, .int .i64 0, .int .i64 0, .int .i64 0, .int .i64 0].toArray 24
    rwa [show (W.alloc (.cells [.slice ao ol.length co, .slice an nl.length cn, .int .i64 sz, .int .i64 sl, .int .i64 ag, .int .i64 si, .int .i64 fd].toArray 65)).heap.size = W.heap.size + 1 by simp] at this
  rintro w0 ⟨hk, hz, hb, hsz⟩
  have HK := Lib.hid hk
  have HZ0 := Lib.hid hz
  have HB := Lib.hid hb
  have HSZ := Lib.hid hsz
  clear hk hz hb hsz
  have q3 : ∀ x, Below w0.heap.size w0 x → x.cell? ⟨W.heap.size, 3, none⟩ = some (.int .i64 sl) := fun x hx => (HK.out.below hx).c 3 _ rfl
  have q4 : ∀ x, Below w0.heap.size w0 x → x.cell? ⟨W.heap.size, 4, none⟩ = some (.int .i64 ag) := fun x hx => (HK.out.below hx).c 4 _ rfl
  have q5 : ∀ x, Below w0.heap.size w0 x → x.cell? ⟨W.heap.size, 5, none⟩ = some (.int .i64 si) := fun x hx => (HK.out.below hx).c 5 _ rfl
  have q6 : ∀ x, Below w0.heap.size w0 x → x.cell? ⟨W.heap.size, 6, none⟩ = some (.int .i64 fd) := fun x hx => (HK.out.below hx).c 6 _ rfl
  iterate 2 (refine wpPl_take (v := ?_) (by rfl) (fun w' hS => ?_) ?_; rotate_left; (focus (go_simp; with_reducible rfl)); simp only [Act.put, List.setIfInBounds_toArray, List.set_cons_zero, List.set_cons_succ])
  (refine wpPl_call (v := .int .i64 (within sl 1 12)) (f := 12) (args := #[.int .i64 sl, .int .i64 1, .int .i64 12]) (by rfl) (fun w' hS => ?_) (fun w' hS => within_any _ _ _ _ (by omega) (by omega) (by omega)) ?_; (focus (go_simp; done)); simp only [Act.put, List.setIfInBounds_toArray, List.set_cons_zero, List.set_cons_succ])
  iterate 2 (refine wpPl_take (v := ?_) (by rfl) (fun w' hS => ?_) ?_; rotate_left; (focus (go_simp; with_reducible rfl)); simp only [Act.put, List.setIfInBounds_toArray, List.set_cons_zero, List.set_cons_succ])
  (refine wpPl_call (v := .int .i64 (within ag 1 4)) (f := 12) (args := #[.int .i64 ag, .int .i64 1, .int .i64 4]) (by rfl) (fun w' hS => ?_) (fun w' hS => within_any _ _ _ _ (by omega) (by omega) (by omega)) ?_; (focus (go_simp; done)); simp only [Act.put, List.setIfInBounds_toArray, List.set_cons_zero, List.set_cons_succ])
  iterate 2 (refine wpPl_take (v := ?_) (by rfl) (fun w' hS => ?_) ?_; rotate_left; (focus (go_simp; with_reducible rfl)); simp only [Act.put, List.setIfInBounds_toArray, List.set_cons_zero, List.set_cons_succ])
  (refine wpPl_call (v := .int .i64 (within si (-1) 1)) (f := 12) (args := #[.int .i64 si, .int .i64 (-1), .int .i64 1]) (by rfl) (fun w' hS => ?_) (fun w' hS => within_any _ _ _ _ (by omega) (by omega) (by omega)) ?_; (focus (go_simp; done)); simp only [Act.put, List.setIfInBounds_toArray, List.set_cons_zero, List.set_cons_succ])
  iterate 2 (refine wpPl_take (v := ?_) (by rfl) (fun w' hS => ?_) ?_; rotate_left; (focus (go_simp; with_reducible rfl)); simp only [Act.put, List.setIfInBounds_toArray, List.set_cons_zero, List.set_cons_succ])
  (refine wpPl_call (v := .int .i64 (within fd (-1) 1)) (f := 12) (args := #[.int .i64 fd, .int .i64 (-1), .int .i64 1]) (by rfl) (fun w' hS => ?_) (fun w' hS => within_any _ _ _ _ (by omega) (by omega) (by omega)) ?_; (focus (go_simp; done)); simp only [Act.put, List.setIfInBounds_toArray, List.set_cons_zero, List.set_cons_succ])
  iterate 1 (refine wpPl_take (v := ?_) (by rfl) (fun w' hS => ?_) ?_; rotate_left; (focus (go_simp; with_reducible rfl)); simp only [Act.put, List.setIfInBounds_toArray, List.set_cons_zero, List.set_cons_succ])
  clear q3 q4 q5 q6
  refine wpPl_do (by rfl) (fun K hK => ?_)
  go_wp2_with fail
  refine ⟨(Below.refl _ w0).drew.alloc (by simp) _, ?_⟩
  refine wpPl_do (by rfl) (fun K hK => ?_)
  go_wp2_with fail

  refine ⟨((Below.refl _ w0).alloc (by simp) _).drew, ?_⟩
  refine wpPl_done ?_
  have hlt : W.heap.size < w0.heap.size := by have := HSZ.out; omega
  have hlt1 : W.heap.size + 1 < w0.heap.size := by have := HSZ.out; omega
  have k2 := HK.out.c 2 _ rfl
  simp only [HS.out]
  have hw4 : IntKind.wrap .i64 (4 * S) = 4 * S := IntWalk.i64_in _ (by omega)
  go_wp2_with (go_at_call 12; (with_reducible refine (within_any _ _ _ _ (by omega) (by omega) (by omega)).mono ?_); rintro e w1 ⟨rfl, rfl⟩; rw [HZ.out])
  obtain ⟨n, hn⟩ : ∃ n, n = min ol.length 4 := ⟨_, rfl⟩
  obtain ⟨G, hG⟩ : ∃ G, within ag 1 4 = G := ⟨_, rfl⟩
  obtain ⟨I, hI⟩ : ∃ I, within si (-1) 1 = I := ⟨_, rfl⟩
  obtain ⟨F, hF⟩ : ∃ F, within fd (-1) 1 = F := ⟨_, rfl⟩
  rw [hG] at bag
  rw [hI] at bsi
  rw [hF] at bfd
  simp only [hG, hI, hF]
  clear hG hI hF
  have hn1 : n ≤ 4 := by omega
  have hn2 : n ≤ ol.length := by omega
  have HN3 := Lib.hid (show n = ol.length ∨ n = 4 by omega)
  clear hn
  go_loopg [4] n (fun g v4 wr => ∃ (i : Nat) (vO : Value) (L : List OpV), i ≤ n ∧ g = n - i ∧ v4 = .int .i64 i ∧ L.length = i ∧ (∀ o ∈ L, OpBd o) ∧ At wr W.heap.size [.slice ao ol.length co, .slice an nl.length cn, .int .i64 sz, .int .i64 sl, .int .i64 ag, .int .i64 si, .int .i64 fd] ∧ At wr (W.heap.size + 1) [.slice none 0 0, .int .i64 0, .int .i64 0, .int .i64 0, .int .i64 0, .int .i64 0] ∧
    At wr w0.heap.size [vO, .int .i64 Z, .int .i64 S, .int .i64 G, .int .i64 I, .int .i64 F] ∧ wr.ownsRow (w0.heap.size + 1) 76 2 vO i (L.flatMap OpV.cs) ∧ Below W.heap.size W wr ∧ w0.heap.size + 1 ≤ wr.heap.size)
  case atStart =>
    refine ⟨0, .slice none 0 0, [], by omega, by omega, rfl, rfl, by simp, ?_, ?_, ?_, World.ownsRow_nil _ _ _ _, ?_, ?_⟩
    · exact ((HK.out).alloc _).drew
    · exact ((HZ0.out).alloc _).drew
    · exact (At.new w0 _ _).drew
    · exact (HB.out.alloc (by omega) _).drew
    · simp
  case round =>
    obtain ⟨i, vO, L, hi, rfl, rfl, hL, hbd, hk, hz, ht, ho, hb, hsz⟩ := hrel
    have HKr := Lib.hid hk
    have HZr := Lib.hid hz
    have HTr := Lib.hid ht
    have HOr := Lib.hid ho
    have HBr := Lib.hid hb
    have HBD := Lib.hid hbd
    have HLr := Lib.hid hL
    have k0 := hk.c 0 _ rfl
    have hb2 : W.heap.size ≤ wr.heap.size := hb.size
    have hvO : ∃ a c, vO = .slice a i c := by
      rcases ho.2 with ⟨h1, h2, h3⟩ | ⟨g, cap, cur, h1, _⟩
      · exact ⟨none, 0, by rw [h1]⟩
      · exact ⟨_, cap, h1⟩
    obtain ⟨va, vc, rfl⟩ := hvO
    clear hk hz ht ho hb hbd hL
    by_cases hlt : i < n
    · have hlt1 : i < 4 := by omega
      have hlt2 : i < ol.length := by omega
      obtain ⟨rfl, hbl⟩ := HO3.out (by omega)
      obtain ⟨X, hX⟩ : ∃ X, ol.getD i 0 = X := ⟨_, rfl⟩
      have hcX : wr.cell? ⟨bo, oo + i, none⟩ = some (.int .i64 X) := by
        rw [HBr.out.cell (p := ⟨bo, oo + i, none⟩) hbl, HO4.out i hlt2, hX]
      have HNr := Lib.hid (HN.out.kept HBr.out)
      clear hX
      have bk := within_bd X 1 6 (by omega)
      have bn := within_bd (pickV nl i) (-5) 9 (by omega)
      go_wp2_with fail
      refine wp_region_pl (fun x => Below wr.heap.size wr x) (.take 0 <| .take 1 <| .take 2 <| .take 3 <| .take 4 <| .take 5 <| .take 6 <| .take 7 <| .take 8 <| .take 9 <| .take 10 <| .take 11 <| .doo 12 <| .doo 13 <| .done) ?plL6 (by kernel_rfl) (by kernel_rfl) (by kernel_rfl) ?plH6 (by intro c a d v w; cases d <;> exact fun h => h) (Below.refl _ wr).drew ?_
      case plH6 =>
        simp only [Pl.with, List.getElem?_toArray, List.getElem?_cons_zero, List.getElem?_cons_succ]
        try rfl
      have q0 : ∀ x, Below wr.heap.size wr x → x.cell? ⟨W.heap.size, 0, none⟩ = some (.slice (some ⟨bo, oo, none⟩) ol.length co) := fun x hx => (HKr.out.below hx).c 0 _ rfl
      have q1 : ∀ x, Below wr.heap.size wr x → x.cell? ⟨W.heap.size, 1, none⟩ = some (.slice an nl.length cn) := fun x hx => (HKr.out.below hx).c 1 _ rfl
      have qX : ∀ x, Below wr.heap.size wr x → x.cell? ⟨bo, oo + i, none⟩ = some (.int .i64 X) := fun x hx => (hx.cell (p := ⟨bo, oo + i, none⟩) (show bo < wr.heap.size by omega)).trans hcX
      iterate 5 (refine wpPl_take (v := ?_) (by rfl) (fun w' hS => ?_) ?_; rotate_left; (focus (go_simp; with_reducible rfl)); simp only [Act.put, List.setIfInBounds_toArray, List.set_cons_zero, List.set_cons_succ])
      (refine wpPl_call (v := .int .i64 (within X 1 6)) (f := 12) (args := #[.int .i64 X, .int .i64 1, .int .i64 6]) (by rfl) (fun w' hS => ?_) (fun w' hS => within_any _ _ _ _ (by omega) (by omega) (by omega)) ?_; (focus (go_simp; done)); simp only [Act.put, List.setIfInBounds_toArray, List.set_cons_zero, List.set_cons_succ])
      iterate 3 (refine wpPl_take (v := ?_) (by rfl) (fun w' hS => ?_) ?_; rotate_left; (focus (go_simp; with_reducible rfl)); simp only [Act.put, List.setIfInBounds_toArray, List.set_cons_zero, List.set_cons_succ])
      (refine wpPl_call (v := .int .i64 (pickV nl i)) (f := 29) (args := #[.slice an nl.length cn, .int .i64 i]) (by rfl) (fun w' hS => ?_) (fun w' hS => pick_any _ _ _ _ (HNr.out.kept hS) (by omega)) ?_; (focus (go_simp; done)); simp only [Act.put, List.setIfInBounds_toArray, List.set_cons_zero, List.set_cons_succ])
      (refine wpPl_call (v := .int .i64 (within (pickV nl i) (-5) 9)) (f := 12) (args := #[.int .i64 (pickV nl i), .int .i64 (-5), .int .i64 9]) (by rfl) (fun w' hS => ?_) (fun w' hS => within_any _ _ _ _ (by omega) (by omega) (by omega)) ?_; (focus (go_simp; done)); simp only [Act.put, List.setIfInBounds_toArray, List.set_cons_zero, List.set_cons_succ])
      iterate 1 (refine wpPl_take (v := ?_) (by rfl) (fun w' hS => ?_) ?_; rotate_left; (focus (go_simp; with_reducible rfl)); simp only [Act.put, List.setIfInBounds_toArray, List.set_cons_zero, List.set_cons_succ])
      clear q0 q1 qX
      obtain ⟨K1, hK1⟩ : ∃ K1, within X 1 6 = K1 := ⟨_, rfl⟩
      obtain ⟨N1, hN1⟩ : ∃ N1, within (pickV nl i) (-5) 9 = N1 := ⟨_, rfl⟩
      rw [hK1] at bk
      rw [hN1] at bn
      simp only [hK1, hN1]
      clear hK1 hN1
      refine wpPl_do (by rfl) (fun K hK => ?_)
      go_wp2_with fail
      refine ⟨(Below.refl _ wr).drew.alloc (by simp) _, ?_⟩
      refine wpPl_do (by rfl) (fun K hK => ?_)
      go_wp2_with fail
      refine ⟨((Below.refl _ wr).alloc (by simp) _).drew, ?_⟩
      refine wpPl_done ?_
      by_cases h3 : K1 = 3
      · subst h3
        have bm := within_bd N1 1 4 (by omega)
        obtain ⟨M1, hM1⟩ : ∃ M1, within N1 1 4 = M1 := ⟨_, rfl⟩
        rw [hM1] at bm
        have HM := Lib.hid hM1
        clear hM1
        have t0 := HTr.out.c 0 _ rfl
        have hlt3 : w0.heap.size < wr.heap.size := by omega
        obtain ⟨i0, hi3, hz0, hz1, hz2⟩ := info_parts info76
        have HI := Lib.hid (And.intro hi3 (And.intro hz0 (And.intro hz1 hz2)))
        clear hi3 hz0 hz1 hz2
        go_wp2_with (first
          | (go_at_call 12; (with_reducible refine (within_any _ _ _ _ (by omega) (by omega) (by omega)).mono ?_); rintro e w1 ⟨rfl, rfl⟩; rw [HM.out])
          | (at_builtin; refine wpList_append_own _ rfl (.tmp 66) (.tmp 68) 22 rfl (w0.heap.size + 1) 76 i0 _ 2 16 Try.underlying22 HI.out.1 HI.out.2.1 HI.out.2.2.1 HI.out.2.2.2 rfl (by decide) (.slice va i vc) i (L.flatMap OpV.cs) rfl ((HOr.out.alloc _).drew.alloc _) ⟨wr.heap.size + 1, 0, none⟩ 1 1 [.int .i64 3, .int .i64 M1] rfl rfl (row_cells2 _ _ _ _) (by simp [Value.oneCell']) (by unfold maxLen; omega) (by omega) (by simp; omega) ?_; intro v' w5 hown5 hgrow5 _; have HO5 := Lib.hid hown5; have HK5 := Lib.hid (((HKr.out.alloc _).drew.alloc _).grown hgrow5 (fun k hk => by have := (HOr.out.lt k hk).1; omega)); have HZ5 := Lib.hid (((HZr.out.alloc _).drew.alloc _).grown hgrow5 (fun k hk => by have := (HOr.out.lt k hk).1; omega)); have HT5 := Lib.hid (((HTr.out.alloc _).drew.alloc _).grown hgrow5 (fun k hk => by have := (HOr.out.lt k hk).1; omega)); have HB5 := Lib.hid ((((HBr.out.alloc hb2 _).drew).alloc (by simp; omega) _).grown hgrow5 (by simp; omega) (fun k hk => by have := (HOr.out.lt k hk).1; omega)); have hz5 := (by have := hgrow5.size; simp at this; omega : w0.heap.size + 1 ≤ w5.heap.size); clear hown5 hgrow5; obtain ⟨g5, cap5, rfl, _⟩ := own_form HO5.out (by omega); have s0 := HT5.out.c 0 _ rfl; have f0 := HT5.out.f 0))
        go_roundg (n - (i + 1))
        case measure => omega
        case rel =>
          refine ⟨i + 1, .slice (some ⟨g5, 0, none⟩) (i + 1) cap5, L ++ [⟨3, M1⟩], by omega, rfl, by go_num, by simp [HLr.out], fun o ho => ?_, HK5.out.other _ _ (by simp; omega), HZ5.out.other _ _ (by simp; omega), HT5.out.set 0 _ (by simp), ?_, HB5.out.setCell (by simp; omega) _, by simpa [World.setCell] using hz5⟩
          · rcases List.mem_append.1 ho with h | h
            · exact HBD.out o h
            · obtain rfl : o = ⟨3, M1⟩ := by simpa using h
              exact ⟨by simp <;> omega, by simp <;> omega, by simp <;> omega, by simp <;> omega, fun h => by simp at h ⊢ <;> omega, fun h => by simp at h ⊢ <;> omega⟩
          · have := HO5.out
            rw [List.flatMap_append]
            exact ownsRow_setCell_below this (by simp) _
      · by_cases h6 : K1 = 6
        · subst h6
          have bm := within_bd N1 0 2 (by omega)
          obtain ⟨M1, hM1⟩ : ∃ M1, within N1 0 2 = M1 := ⟨_, rfl⟩
          rw [hM1] at bm
          have HM := Lib.hid hM1
          clear hM1
          have t0 := HTr.out.c 0 _ rfl
          have hlt3 : w0.heap.size < wr.heap.size := by omega
          obtain ⟨i0, hi3, hz0, hz1, hz2⟩ := info_parts info76
          have HI := Lib.hid (And.intro hi3 (And.intro hz0 (And.intro hz1 hz2)))
          clear hi3 hz0 hz1 hz2
          go_wp2_with (first
            | (go_at_call 12; (with_reducible refine (within_any _ _ _ _ (by omega) (by omega) (by omega)).mono ?_); rintro e w1 ⟨rfl, rfl⟩; rw [HM.out])
            | (at_builtin; refine wpList_append_own _ rfl (.tmp 66) (.tmp 68) 22 rfl (w0.heap.size + 1) 76 i0 _ 2 16 Try.underlying22 HI.out.1 HI.out.2.1 HI.out.2.2.1 HI.out.2.2.2 rfl (by decide) (.slice va i vc) i (L.flatMap OpV.cs) rfl ((HOr.out.alloc _).drew.alloc _) ⟨wr.heap.size + 1, 0, none⟩ 1 1 [.int .i64 6, .int .i64 M1] rfl rfl (row_cells2 _ _ _ _) (by simp [Value.oneCell']) (by unfold maxLen; omega) (by omega) (by simp; omega) ?_; intro v' w5 hown5 hgrow5 _; have HO5 := Lib.hid hown5; have HK5 := Lib.hid (((HKr.out.alloc _).drew.alloc _).grown hgrow5 (fun k hk => by have := (HOr.out.lt k hk).1; omega)); have HZ5 := Lib.hid (((HZr.out.alloc _).drew.alloc _).grown hgrow5 (fun k hk => by have := (HOr.out.lt k hk).1; omega)); have HT5 := Lib.hid (((HTr.out.alloc _).drew.alloc _).grown hgrow5 (fun k hk => by have := (HOr.out.lt k hk).1; omega)); have HB5 := Lib.hid ((((HBr.out.alloc hb2 _).drew).alloc (by simp; omega) _).grown hgrow5 (by simp; omega) (fun k hk => by have := (HOr.out.lt k hk).1; omega)); have hz5 := (by have := hgrow5.size; simp at this; omega : w0.heap.size + 1 ≤ w5.heap.size); clear hown5 hgrow5; obtain ⟨g5, cap5, rfl, _⟩ := own_form HO5.out (by omega); have s0 := HT5.out.c 0 _ rfl; have f0 := HT5.out.f 0))
          go_roundg (n - (i + 1))
          case measure => omega
          case rel =>
            refine ⟨i + 1, .slice (some ⟨g5, 0, none⟩) (i + 1) cap5, L ++ [⟨6, M1⟩], by omega, rfl, by go_num, by simp [HLr.out], fun o ho => ?_, HK5.out.other _ _ (by simp; omega), HZ5.out.other _ _ (by simp; omega), HT5.out.set 0 _ (by simp), ?_, HB5.out.setCell (by simp; omega) _, by simpa [World.setCell] using hz5⟩
            · rcases List.mem_append.1 ho with h | h
              · exact HBD.out o h
              · obtain rfl : o = ⟨6, M1⟩ := by simpa using h
                exact ⟨by simp <;> omega, by simp <;> omega, by simp <;> omega, by simp <;> omega, fun h => by simp at h ⊢ <;> omega, fun h => by simp at h ⊢ <;> omega⟩
            · have := HO5.out
              rw [List.flatMap_append]
              exact ownsRow_setCell_below this (by simp) _
        · have HM := Lib.hid trivial
          have h3' : (K1 == 3) = false := by simp [h3]
          have h6' : (K1 == 6) = false := by simp [h6]
          have t0 := HTr.out.c 0 _ rfl
          have hlt3 : w0.heap.size < wr.heap.size := by omega
          obtain ⟨i0, hi3, hz0, hz1, hz2⟩ := info_parts info76
          have HI := Lib.hid (And.intro hi3 (And.intro hz0 (And.intro hz1 hz2)))
          clear hi3 hz0 hz1 hz2
          go_wp2_with (first
            | (go_at_call 12; (with_reducible refine (within_any _ _ _ _ (by omega) (by omega) (by omega)).mono ?_); rintro e w1 ⟨rfl, rfl⟩; skip)
            | (at_builtin; refine wpList_append_own _ rfl (.tmp 66) (.tmp 68) 22 rfl (w0.heap.size + 1) 76 i0 _ 2 16 Try.underlying22 HI.out.1 HI.out.2.1 HI.out.2.2.1 HI.out.2.2.2 rfl (by decide) (.slice va i vc) i (L.flatMap OpV.cs) rfl ((HOr.out.alloc _).drew.alloc _) ⟨wr.heap.size + 1, 0, none⟩ 1 1 [.int .i64 K1, .int .i64 N1] rfl rfl (row_cells2 _ _ _ _) (by simp [Value.oneCell']) (by unfold maxLen; omega) (by omega) (by simp; omega) ?_; intro v' w5 hown5 hgrow5 _; have HO5 := Lib.hid hown5; have HK5 := Lib.hid (((HKr.out.alloc _).drew.alloc _).grown hgrow5 (fun k hk => by have := (HOr.out.lt k hk).1; omega)); have HZ5 := Lib.hid (((HZr.out.alloc _).drew.alloc _).grown hgrow5 (fun k hk => by have := (HOr.out.lt k hk).1; omega)); have HT5 := Lib.hid (((HTr.out.alloc _).drew.alloc _).grown hgrow5 (fun k hk => by have := (HOr.out.lt k hk).1; omega)); have HB5 := Lib.hid ((((HBr.out.alloc hb2 _).drew).alloc (by simp; omega) _).grown hgrow5 (by simp; omega) (fun k hk => by have := (HOr.out.lt k hk).1; omega)); have hz5 := (by have := hgrow5.size; simp at this; omega : w0.heap.size + 1 ≤ w5.heap.size); clear hown5 hgrow5; obtain ⟨g5, cap5, rfl, _⟩ := own_form HO5.out (by omega); have s0 := HT5.out.c 0 _ rfl; have f0 := HT5.out.f 0))
          go_roundg (n - (i + 1))
          case measure => omega
          case rel =>
            refine ⟨i + 1, .slice (some ⟨g5, 0, none⟩) (i + 1) cap5, L ++ [⟨K1, N1⟩], by omega, rfl, by go_num, by simp [HLr.out], fun o ho => ?_, HK5.out.other _ _ (by simp; omega), HZ5.out.other _ _ (by simp; omega), HT5.out.set 0 _ (by simp), ?_, HB5.out.setCell (by simp; omega) _, by simpa [World.setCell] using hz5⟩
            · rcases List.mem_append.1 ho with h | h
              · exact HBD.out o h
              · obtain rfl : o = ⟨K1, N1⟩ := by simpa using h
                exact ⟨by simp <;> omega, by simp <;> omega, by simp <;> omega, by simp <;> omega, fun h => by simp at h ⊢ <;> omega, fun h => by simp at h ⊢ <;> omega⟩
            · have := HO5.out
              rw [List.flatMap_append]
              exact ownsRow_setCell_below this (by simp) _
    · have t0 := HTr.out.c 0 _ rfl
      have t1 := HTr.out.c 1 _ rfl
      have t2 := HTr.out.c 2 _ rfl
      have t3 := HTr.out.c 3 _ rfl
      have t4 := HTr.out.c 4 _ rfl
      have t5 := HTr.out.c 5 _ rfl
      have z0 := HZr.out.c 0 _ rfl
      have z1 := HZr.out.c 1 _ rfl
      have z2 := HZr.out.c 2 _ rfl
      have z3 := HZr.out.c 3 _ rfl
      have z4 := HZr.out.c 4 _ rfl
      have z5 := HZr.out.c 5 _ rfl
      have y0 := HZr.out.f 0
      have y1 := HZr.out.f 1
      have y2 := HZr.out.f 2
      have y3 := HZr.out.f 3
      have y4 := HZr.out.f 4
      have y5 := HZr.out.f 5
      rcases (by have := HN3.out; omega : ¬ i < ol.length ∨ (i < ol.length ∧ ¬ i < 4)) with hx | ⟨hx, hx4⟩
      all_goals
        go_wp2_with fail
        refine bodyPost_ret (res23 _ (W.heap.size + 1) (.slice va i vc) Z S G I F _ rfl (At.set6 _ _ _ _ _ _ _ _ HZr.out _ _ _ _ _ _)) rfl ?_
        refine ⟨⟨.slice va i vc, L, Z, S, G, I, F⟩, rfl, ?_, ⟨bsl.1, bsl.2, bsz.1, bsz.2, bag.1, bag.2, bsi.1, bsi.2, bfd.1, bfd.2, by have := HLr.out; simp; omega, HBD.out⟩, ?_⟩
        · refine ownsRow_base (base := w0.heap.size + 1) ?_ (by omega)
          have hl := HLr.out
          have := HOr.out
          subst hl
          repeat (first | with_reducible exact this | refine ownsRow_setCell_below ?_ (by simp; omega) _)
        · repeat (first | with_reducible exact HBr.out | refine Below.setCell ?_ (by simp) _)
end Go.Proofs.Ytemmekpmoigdeaa
