/- A cell's twin: new blocks alone. -/
import Derived.Test.YtcanfmabkklidaaGreatMb25
import Derived.Shelf.SlMaps.Clone
set_option linter.unusedSimpArgs false
set_option linter.unusedVariables false
set_option linter.unnecessarySimpa false
namespace Go.Proofs.YtcanfmabkklidaaGreat
open Go.RowKit

set_option maxRecDepth 100000 in
set_option maxHeartbeats 2000000 in
theorem mclone_any (b : Nat) (l : PaneL) (w : World) (h : MapAt w b l) :
    Calls Tryz.prog 120 #[.map (some b)] w fun e w' => e = .returned (.map (some w.heap.size)) ∧ MapAt w' w.heap.size l ∧ Below w.heap.size w w' := by
  obtain ⟨es, clock, hb, hes⟩ := h
  have HES := Lib.hid hes
  clear hes
  have hq := fun w => run_eql_map_nil_sl (P := Tryz.prog) w 158 _ _ (some b) Tryz.underlying158
  go_enter Tryz.func120, Tryz.ntmps120
  go_wp2
  rw [run_callFunc_extern Tryz.func128 (by kernel_rfl) (by kernel_rfl) (by kernel_rfl) (e := Extern.MapsClone.clone) (by kernel_rfl), run_maps_clone_sl w 158 hb]
  simp only [Result.andThen]
  rw [Oper.upon_value]
  go_wp2
  rw [run_typeAssert_map_sl _ 158 20 _ _ _ Tryz.underlying158]
  simp only [Result.andThen]
  rw [Oper.upon_value]
  go_wp2
  go_ret
  exact ⟨rfl, ⟨es, clock, by rw [heap_alloc_new], HES.out⟩, bel_alloc (Below.refl _ _) _⟩
set_option maxRecDepth 100000 in
set_option maxHeartbeats 2000000 in
theorem pcopy_any (bp bm : Nat) (z d k : Int) (l : PaneL) (w : World) (h1 : At w bp (panCs z d k bm)) (h2 : MapAt w bm l) :
    Calls Tryz.prog 98 #[.pointer (some ⟨bp, 0, none⟩)] w fun e w' => (∃ p, e = .returned (.pointer (some ⟨p, 0, none⟩))) ∧ Below w.heap.size w w' := by
  have c0 := h1.c 0 _ rfl
  have c1 := h1.c 1 _ rfl
  have c2 := h1.c 2 _ rfl
  have c3 := h1.c 3 _ rfl
  have hb := h1.lt
  have HM := Lib.hid h2
  clear h1 h2
  go_enter Tryz.func98, Tryz.ntmps98
  go_wp2_with (go_at_call 120; (with_reducible refine (mclone_any bm l _ (HM.out.alloc _)).mono ?_); rintro e w1 ⟨rfl, hm, hb1⟩; have HB1 := Lib.hid hb1; have f3 := (At.new w #[.int .i64 z, .int .i64 d, .int .i64 k, .map (some bm)] 160).below hb1; have f4 := f3.f 3; have f6 := f3.c 3 _ rfl; have f5 := f3.lt; clear hb1 hm f3)
  go_ret
  exact ⟨⟨_, rfl⟩, bel_set (below_step (bel_alloc (Below.refl _ _) _) HB1.out) (Nat.le_refl _) _⟩
set_option maxRecDepth 100000 in
set_option maxHeartbeats 2000000 in
theorem rtwin_any (b : Nat) (S : List Nat) (r : RunV) (ok : PipOk r.pipe) (w : World) (h : RunAt w b S r) :
    Calls Tryz.prog 69 #[.pointer (some ⟨b, 0, none⟩)] w fun e w' => (∃ p bp vo, e = .returned (.pointer (some ⟨p, 0, none⟩)) ∧ At w' p (runCs r.clk bp vo r.pipe) ∧ w.heap.size ≤ p) ∧ Below w.heap.size w w' := by
  obtain ⟨bp, bm, vo, So, rfl, h⟩ := h
  obtain ⟨oa, oc, hvo, _⟩ := id h.o
  subst hvo
  have c0 := h.a.c 0 _ rfl
  have c1 := h.a.c 1 _ rfl
  have c2 := h.a.c 2 _ rfl
  have c3 := h.a.c 3 _ rfl
  have c4 := h.a.c 4 _ rfl
  have c5 := h.a.c 5 _ rfl
  have c6 := h.a.c 6 _ rfl
  have c7 := h.a.c 7 _ rfl
  have c8 := h.a.c 8 _ rfl
  have c9 := h.a.c 9 _ rfl
  have hb := h.a.lt
  have HL := Lib.hid ok.len
  have H := Lib.hid h
  clear h ok
  go_enter Tryz.func69, Tryz.ntmps69
  go_wp2_with (first
    | (go_at_call 98; (with_reducible refine (pcopy_any bp bm _ _ _ _ _ (H.out.p.alloc _) (H.out.mp.alloc _)).mono ?_); rintro e w1 ⟨⟨p, rfl⟩, hb1⟩; have HB1 := Lib.hid hb1; have f3 := (At.new w #[.int .i64 r.clk.mark, .int .i64 r.clk.late, .int .i64 r.clk.seen, .pointer (some ⟨bp, 0, none⟩), .slice oa r.pipe.ol.length oc, .int .i64 r.pipe.size, .int .i64 r.pipe.slide, .int .i64 r.pipe.agg, .int .i64 r.pipe.sink, .int .i64 r.pipe.feed] 105).below hb1; have f4 := f3.f 3; have f6 := f3.c 3 _ rfl; have f5 := f3.lt; have HF3 := Lib.hid f3; have d4 := (H.out.a.alloc _).below hb1 |>.c 4 _ rfl; clear hb1 f3)
    | (go_at_call 62; (with_reducible refine (clone62 _ _ So _ (RdR.same (H.out.o) (fun x hx => ?_)) (by have := HL.out; omega)).mono ?_); (focus exact (((bel_set (below_step (bel_alloc (Below.refl _ w) _) HB1.out) (Nat.le_refl _) _).block x (H.out.o.lt x hx)))); rintro e w2 ⟨v2, rfl, ho2, hb2⟩; have HO2 := Lib.hid ho2; have HB2 := Lib.hid hb2; have g3 := (HF3.out.set 3 (.pointer (some ⟨p, 0, none⟩)) (by simp)).below hb2; have g4 := g3.f 4; have g6 := g3.c 4 _ rfl; have g5 := g3.lt; have HG3 := Lib.hid g3; obtain ⟨pa, pc, rfl⟩ := own_shape2 ho2; clear hb2 ho2 g3))
  go_ret
  exact ⟨⟨_, p, _, rfl, HG3.out.set 4 (.slice pa r.pipe.ol.length pc) (by simp), Nat.le_refl _⟩, bel_set (below_step (bel_set (below_step (bel_alloc (Below.refl _ _) _) HB1.out) (Nat.le_refl _) _) HB2.out) (Nat.le_refl _) _⟩
set_option maxRecDepth 100000 in
theorem all_any (v : Value) (l : List InpV) (S : List Nat) (w : World) (h : RdR InpV.cs 5 w v l S) (hl : l.length ≤ 1000000) :
    Calls Tryz.prog 97 #[.agg #[v]] w fun e w' => ∃ v', e = .returned v' ∧ w'.ownsRow w.heap.size 41 5 v' l.length (l.flatMap InpV.cs) ∧ Below w.heap.size w w' := by
  obtain ⟨oa, oc, rfl, _⟩ := id h
  have H := Lib.hid h
  clear h
  go_enter Tryz.func97, Tryz.ntmps97
  go_wp2_with (go_at_call 99; (with_reducible refine (clone99 _ _ S _ (H.out.same (fun x hx => (bel_alloc (Below.refl _ w) _).block x (H.out.lt x hx))) hl).mono ?_); rintro e w1 ⟨v1, rfl, ho1, hb1⟩; have HO1 := Lib.hid ho1; have HB1 := Lib.hid hb1; clear ho1 hb1)
  go_ret
  exact ⟨_, rfl, ownsRow_base HO1.out (by simp), below_step (bel_alloc (Below.refl _ _) _) HB1.out⟩
set_option maxRecDepth 100000 in
theorem split_any (v : Value) (l : List InpV) (S : List Nat) (w : World) (h : RdR InpV.cs 5 w v l S) (hl : l.length ≤ 1000000) :
    Calls Tryz.prog 68 #[.agg #[v]] w fun e w' => (∃ a c, e = .returned (.agg #[.slice a l.length c])) ∧ Below w.heap.size w w' := by
  obtain ⟨oa, oc, rfl, _⟩ := id h
  have H := Lib.hid h
  clear h
  go_enter Tryz.func68, Tryz.ntmps68
  go_wp2_with (go_at_call 97; (with_reducible refine (all_any _ _ S _ (H.out.same (fun x hx => (bel_alloc (bel_alloc (Below.refl _ w) _) _).block x (H.out.lt x hx))) hl).mono ?_); rintro e w1 ⟨v1, rfl, ho1, hb1⟩; obtain ⟨pa, pc, rfl⟩ := own_shape2 ho1; have HB1 := Lib.hid hb1; have f3 := (At.new (w.alloc (.cells #[.slice oa l.length oc] 97)) #[.slice none 0 0] 97).below hb1; have f4 := f3.f 0; have f6 := f3.c 0 _ rfl; have f5 := f3.lt; simp at f4 f5 f6; clear ho1 hb1 f3)
  refine bodyPost_ret (v := .agg #[.slice pa l.length pc]) (by simp [results, Tryz.results68, go_sem, f5, f6, f4]) rfl ?_
  exact ⟨⟨_, _, rfl⟩, bel_set (below_step (bel_alloc (bel_alloc (Below.refl _ _) _) _) HB1.out) (by omega) _⟩
set_option maxRecDepth 100000 in
theorem taken_any (b : Nat) (S : List Nat) (x : CellV) (N : Nat) (ok : CellOk x N) (hN : N ≤ 100000) (w : World) (h : CellAt w b S x) :
    Calls Tryz.prog 71 #[.pointer (some ⟨b, 0, none⟩)] w fun e w' => (∃ a c, e = .returned (.slice a x.taken.length c)) ∧ Below w.heap.size w w' := by
  obtain ⟨br, vq, vr, vt, Sq, Sr, Sv, St, rfl, h⟩ := h
  obtain ⟨ta, tc, rfl⟩ := own_shape2 h.t
  have c5 := h.a.c 7 _ rfl
  have hb := h.a.lt
  have hl : x.taken.length ≤ 1000000 := by have := ok.len; omega
  have HR := Lib.hid (RdR.of_own (cs := InpV.cs) (k := 5) (fun _ => rfl) h.t)
  clear h ok
  go_enter Tryz.func71, Tryz.ntmps71
  go_wp2_with (go_at_call 99; (with_reducible refine (clone99 _ _ _ _ HR.out hl).mono ?_); rintro e w1 ⟨v1, rfl, ho1, hb1⟩; obtain ⟨pa, pc, rfl⟩ := own_shape2 ho1; have HB1 := Lib.hid hb1; clear ho1 hb1)
  go_ret
  exact ⟨⟨_, _, rfl⟩, HB1.out⟩
/-- block q is a cell's twin -/
def TwinAt (w : World) (q : Nat) (x : CellV) : Prop :=
  ∃ br bp vo va vc ra rc ta tc, At w q [.int .i64 x.left, .int .i64 x.spent, .int .i64 x.refused, .slice va x.queue.length vc, .pointer (some ⟨br, 0, none⟩), .int .i64 x.id, .slice ra x.rows.length rc, .slice ta x.taken.length tc] ∧ At w br (runCs x.run.clk bp vo x.run.pipe)
set_option maxRecDepth 100000 in
set_option maxHeartbeats 2000000 in
theorem twin_any (b : Nat) (S : List Nat) (x : CellV) (N : Nat) (ok : CellOk x N) (hN : N ≤ 100000) (w : World) (h : CellAt w b S x) :
    Calls Tryz.prog 48 #[.pointer (some ⟨b, 0, none⟩)] w fun e w' => (∃ q, e = .returned (.pointer (some ⟨q, 0, none⟩)) ∧ TwinAt w' q x) ∧ Below w.heap.size w w' := by
  have HA := Lib.hid h
  have HN := Lib.hid hN
  have HOK := Lib.hid ok
  obtain ⟨br, vq, vr, vt, Sq, Sr, Sv, St, rfl, h⟩ := h
  obtain ⟨ta, tc, rfl⟩ := own_shape2 h.t
  obtain ⟨ra, rc, rfl⟩ := own_shape2 h.v
  obtain ⟨qa, qc, rfl, _⟩ := id h.q
  have H := Lib.hid h
  have c0 := h.a.c 0 _ rfl
  have c1 := h.a.c 1 _ rfl
  have c2 := h.a.c 2 _ rfl
  have c3 := h.a.c 3 _ rfl
  have c4 := h.a.c 4 _ rfl
  have c5 := h.a.c 5 _ rfl
  have c6 := h.a.c 6 _ rfl
  have c7 := h.a.c 7 _ rfl
  have hb := h.a.lt
  clear h ok hN
  go_enter Tryz.func48, Tryz.ntmps48
  have HL := Lib.hid (show x.queue.length ≤ 1000000 from by have := HOK.out.len; have := HN.out; omega)
  have HL2 := Lib.hid (show x.rows.length ≤ 1000000 from by have := HOK.out.rows; have := HN.out; omega)
  go_wp2_with (first
    | (go_at_call 68; (with_reducible refine (split_any _ _ Sq _ (H.out.q.same (fun y hy => (bel_alloc (Below.refl _ w) _).block y (H.out.q.lt y hy))) HL.out).mono ?_); rintro e w1 ⟨⟨a1, k1, rfl⟩, hb1⟩; have HB1 := Lib.hid (below_step (bel_alloc (Below.refl _ w) _) hb1); have f3 := (At.new w #[.int .i64 x.left, .int .i64 x.spent, .int .i64 x.refused, .slice qa x.queue.length qc, .pointer (some ⟨br, 0, none⟩), .int .i64 x.id, .slice ra x.rows.length rc, .slice ta x.taken.length tc] 100).below hb1; have f4 := f3.f 3; have f6 := f3.c 3 _ rfl; have f5 := f3.lt; have HF3 := Lib.hid f3; have d4 := (H.out.a.alloc _).below hb1 |>.c 4 _ rfl; clear hb1 f3)
    | (go_at_call 69; (with_reducible refine (rtwin_any br Sr x.run HOK.out.run.pip _ (H.out.r.same (fun y hy => (bel_set HB1.out (Nat.le_refl _) _).block y (H.out.r.lt y hy)))).mono ?_); rintro e w2 ⟨⟨p, bp2, vo2, rfl, hp, hpn⟩, hb2⟩; have HPG := Lib.hid hpn; have HP := Lib.hid hp; have HPN := Lib.hid hp.lt; have HB2 := Lib.hid (below_step (bel_set HB1.out (Nat.le_refl _) _) hb2); have g3 := (HF3.out.set 3 (.slice a1 x.queue.length k1) (by simp)).below hb2; have g4 := g3.f 4; have g6 := g3.c 4 _ rfl; have g5 := g3.lt; have HG3 := Lib.hid g3; have d6 := H.out.a.below HB2.out |>.c 6 _ rfl; clear hb2 hp g3 hpn)
    | (go_at_call 70; (with_reducible refine (clone70 _ _ _ _ ((RdR.of_own (cs := RowV.cs) (k := 5) (fun _ => rfl) H.out.v).same (fun y hy => (bel_set HB2.out (Nat.le_refl _) _).block y (own_lt H.out.v y hy))) HL2.out).mono ?_); rintro e w3 ⟨v3, rfl, ho3, hb3⟩; obtain ⟨pa, pc, rfl⟩ := own_shape2 ho3; have HB3 := Lib.hid (below_step (bel_set HB2.out (Nat.le_refl _) _) hb3); have HI3 := Lib.hid ((HG3.out.set 4 (.pointer (some ⟨p, 0, none⟩)) (by simp)).below hb3); have HQ3 := Lib.hid hb3; clear hb3 ho3)
    | (go_at_call 71; (with_reducible refine (taken_any b _ x N HOK.out HN.out _ (HA.out.same (fun y hy => HB3.out.block y (HA.out.lt y hy)))).mono ?_); rintro e w4 ⟨⟨a4, k4, rfl⟩, hb4⟩; have HB4 := Lib.hid (below_step HB3.out hb4); have i3 := HI3.out.below hb4; have i4 := i3.f 6; have i5 := i3.c 6 _ rfl; have i6 := i3.f 7; have i7 := i3.c 7 _ rfl; have i8 := i3.lt; have HI4 := Lib.hid i3; have HQ4 := Lib.hid hb4; clear hb4 i3))
  go_ret
  have hne : p ≠ w.heap.size := by have := HPG.out; simp at this; omega
  refine ⟨⟨_, rfl, p, bp2, vo2, a1, k1, pa, pc, a4, k4, ?_, ?_⟩, bel_set (bel_set HB4.out (Nat.le_refl _) _) (Nat.le_refl _) _⟩
  · exact (HI4.out.set 6 (.slice pa x.rows.length pc) (by simp)).set 7 (.slice a4 x.taken.length k4) (by simp)
  · exact (((((HP.out.other ⟨w.heap.size, 4, none⟩ _ hne).below HQ3.out)).below HQ4.out).other ⟨w.heap.size, 6, none⟩ _ hne).other ⟨w.heap.size, 7, none⟩ _ hne
theorem cell_none (b : Nat) (G : Nat → List Nat) (vs vp : Value) (bb : Nat) (pc : Nat → Option Nat) (c : CoreV) (t : Nat) (ht : t ≤ 7) (w : World) (h : CoreIn w b G vs vp bb pc c) (hx : c.cells t = none) :
    Calls Tryz.prog 29 #[.pointer (some ⟨b, 0, none⟩), .int .i64 t] w fun e w' => e = .returned (.pointer none) ∧ w' = w := by
  have hp : pc t = none := by have := h.cs t (by omega); rw [hx] at this; exact this.1
  have HA := Lib.hid (at_any b G vs vp bb pc c t ht w h)
  rw [hp] at HA
  unfold ptrOf at HA
  clear h hx hp
  go_enter Tryz.func29, Tryz.ntmps29
  go_wp2_with (go_at_call 47; (with_reducible refine HA.out.mono ?_); rintro e w1 ⟨rfl, rfl⟩; simp only [Option.map_none])
  go_ret
  exact ⟨rfl, rfl⟩
theorem cell_some (b : Nat) (G : Nat → List Nat) (vs vp : Value) (bb : Nat) (pc : Nat → Option Nat) (c : CoreV) (N : Nat) (t : Nat) (ht : t ≤ 7) (w : World) (h : CoreIn w b G vs vp bb pc c) (ok : CoreOk c N) (hN : N ≤ 100000) (x : CellV) (hx : c.cells t = some x) :
    Calls Tryz.prog 29 #[.pointer (some ⟨b, 0, none⟩), .int .i64 t] w fun e w' => (∃ q, e = .returned (.pointer (some ⟨q, 0, none⟩)) ∧ TwinAt w' q x) ∧ Below w.heap.size w w' := by
  obtain ⟨bt, hp, hc⟩ : ∃ bt, pc t = some bt ∧ CellAt w bt (G (4 + t)) x := by have := h.cs t (by omega); rw [hx] at this; exact this
  have HA := Lib.hid (at_any b G vs vp bb pc c t ht w h)
  rw [hp] at HA
  unfold ptrOf at HA
  have HT := Lib.hid (twin_any bt _ x N (ok.cell t x hx) hN w hc)
  clear h hx hp hc ok
  go_enter Tryz.func29, Tryz.ntmps29
  go_wp2_with (first
    | (go_at_call 47; (with_reducible refine HA.out.mono ?_); rintro e w1 ⟨rfl, rfl⟩; simp only [Option.map_some])
    | (go_at_call 48; (with_reducible refine HT.out.mono ?_); rintro e w1 ⟨⟨q, rfl, hq⟩, hb⟩; have HQ := Lib.hid hq; have HB := Lib.hid hb; clear hq hb))
  go_ret
  exact ⟨⟨_, rfl, HQ.out⟩, HB.out⟩
theorem count_cell (q : Nat) (x : CellV) (w : World) (h : TwinAt w q x) : Calls Tryz.prog 30 #[.pointer (some ⟨q, 0, none⟩)] w fun e w' => e = .returned (.int .i64 x.rows.length) ∧ w' = w := by
  obtain ⟨br, bp, vo, va, vc, ra, rc, ta, tc, h1, h2⟩ := h
  have c6 := h1.c 6 _ rfl
  have hb := h1.lt
  clear h1 h2
  go_enter Tryz.func30, Tryz.ntmps30
  go_wp2
  go_ret
  exact ⟨rfl, rfl⟩
end Go.Proofs.YtcanfmabkklidaaGreat
