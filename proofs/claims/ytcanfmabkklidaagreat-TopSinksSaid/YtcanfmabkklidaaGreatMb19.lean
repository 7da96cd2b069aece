/- A runner takes an event. -/
import Derived.Test.YtcanfmabkklidaaGreatMb17
import Derived.Test.YtcanfmabkklidaaGreatMb18
import Derived.Test.YtcanfmabkklidaaGreatMb7
set_option linter.unusedSimpArgs false
set_option linter.unusedVariables false
set_option linter.unnecessarySimpa false
namespace Go.Proofs.YtcanfmabkklidaaGreat
open Go.RowKit

/-- what a pipe keeps to, its list of operations no matter where it lies -/
structure PipOk (p : PipM) : Prop where
  slide1 : 1 ≤ p.slide
  slide2 : p.slide ≤ 12
  size1 : p.slide ≤ p.size
  size2 : p.size ≤ 4 * p.slide
  agg1 : 1 ≤ p.agg
  agg2 : p.agg ≤ 4
  sink1 : -1 ≤ p.sink
  sink2 : p.sink ≤ 1
  feed1 : -1 ≤ p.feed
  feed2 : p.feed ≤ 1
  len : p.ol.length ≤ 4
  ops : ∀ o ∈ p.ol, OpBd o
def runCs (c : ClkV) (bp : Nat) (vo : Value) (p : PipM) : List Value := clkCs c ++ [.pointer (some ⟨bp, 0, none⟩), vo, .int .i64 p.size, .int .i64 p.slide, .int .i64 p.agg, .int .i64 p.sink, .int .i64 p.feed]
structure RunIn (w : World) (b bp bm : Nat) (vo : Value) (So : List Nat) (r : RunV) : Prop where
  a : At w b (runCs r.clk bp vo r.pipe)
  p : At w bp (panCs r.pipe.size r.pipe.slide r.pipe.agg bm)
  mp : MapAt w bm r.opn
  o : RdR OpV.cs 2 w vo r.pipe.ol So
  nd : (b :: bp :: bm :: So).Nodup
/-- a runner in memory: its block, and all the blocks that it owns -/
def RunAt (w : World) (b : Nat) (S : List Nat) (r : RunV) : Prop := ∃ bp bm vo So, S = b :: bp :: bm :: So ∧ RunIn w b bp bm vo So r
theorem RunIn.same {w w' : World} {b bp bm : Nat} {vo : Value} {So : List Nat} {r : RunV} (h : RunIn w b bp bm vo So r) (hs : ∀ x ∈ b :: bp :: bm :: So, w'.heap[x]? = w.heap[x]?) : RunIn w' b bp bm vo So r :=
  ⟨h.a.of_block (hs b (by simp)), h.p.of_block (hs bp (by simp)), h.mp.of_block (hs bm (by simp)), h.o.same (fun x hx => hs x (by simp [hx])), h.nd⟩
theorem RunIn.lt {w : World} {b bp bm : Nat} {vo : Value} {So : List Nat} {r : RunV} (h : RunIn w b bp bm vo So r) : ∀ x ∈ b :: bp :: bm :: So, x < w.heap.size := fun x hx => by
  simp only [List.mem_cons] at hx
  rcases hx with rfl | rfl | rfl | hx
  · exact h.a.lt
  · exact h.p.lt
  · exact h.mp.lt
  · exact h.o.lt x hx
theorem RunIn.below {w w' : World} {b bp bm : Nat} {vo : Value} {So : List Nat} {r : RunV} (h : RunIn w b bp bm vo So r) (hb : Below w.heap.size w w') : RunIn w' b bp bm vo So r :=
  h.same fun x hx => hb.block x (h.lt x hx)
theorem RunIn.mod {w w' : World} {b bp bm : Nat} {vo : Value} {So : List Nat} {r : RunV} {T : List Nat} (h : RunIn w b bp bm vo So r) (hm : Mod T w w') (hT : ∀ x ∈ b :: bp :: bm :: So, x ∉ T) : RunIn w' b bp bm vo So r :=
  h.same fun x hx => hm.block x (h.lt x hx) (hT x hx)
theorem RunAt.lt {w : World} {b : Nat} {S : List Nat} {r : RunV} (h : RunAt w b S r) : ∀ x ∈ S, x < w.heap.size := by
  obtain ⟨bp, bm, vo, So, rfl, h⟩ := h
  exact h.lt
theorem RunAt.same {w w' : World} {b : Nat} {S : List Nat} {r : RunV} (h : RunAt w b S r) (hs : ∀ x ∈ S, w'.heap[x]? = w.heap[x]?) : RunAt w' b S r := by
  obtain ⟨bp, bm, vo, So, rfl, h⟩ := h
  exact ⟨bp, bm, vo, So, rfl, h.same hs⟩
/-- the clock turned -/
theorem RunIn.clk {w w' : World} {b bp bm : Nat} {vo : Value} {So : List Nat} {r : RunV} (h : RunIn w b bp bm vo So r) {c : ClkV} (ha : At w' b (runCs c bp vo r.pipe)) (hm : Mod [b] w w') : RunIn w' b bp bm vo So ⟨c, r.pipe, r.opn⟩ := by
  have nd := h.nd
  simp only [List.nodup_cons, List.mem_cons, not_or] at nd
  refine ⟨ha, h.p.mod hm (by simp; exact fun e => nd.1.1 e.symm), h.mp.mod hm (by simp; exact fun e => nd.1.2.1 e.symm), h.o.same fun x hx => hm.block x (h.o.lt x hx) ?_, h.nd⟩
  simp only [List.mem_singleton]
  rintro rfl
  exact nd.1.2.2 hx
/-- the windows turned -/
theorem RunIn.opn {w w' : World} {b bp bm : Nat} {vo : Value} {So : List Nat} {r : RunV} (h : RunIn w b bp bm vo So r) {l : PaneL} (ha : MapAt w' bm l) (hm : Mod [bm] w w') : RunIn w' b bp bm vo So ⟨r.clk, r.pipe, l⟩ := by
  have nd := h.nd
  simp only [List.nodup_cons, List.mem_cons, not_or] at nd
  refine ⟨h.a.mod hm (by simp; exact nd.1.2.1), h.p.mod hm (by simp; exact nd.2.1.1), ha, h.o.same fun x hx => hm.block x (h.o.lt x hx) ?_, h.nd⟩
  simp only [List.mem_singleton]
  rintro rfl
  exact nd.2.2.1 hx
theorem runO_time {l : List OpV} : ∀ {e x : EvV}, runO e l = some x → x.time = e.time := by
  induction l with
  | nil => intro e x h; simp [runO] at h; rw [h]
  | cons o l ih =>
    intro e x h
    unfold runO at h
    split at h
    · rename_i y hy
      have h1 := ih h
      have h2 : y.time = e.time := by
        unfold applyO at hy
        (repeat' split at hy) <;> first | (cases hy; rfl) | cases hy
      rw [h1, h2]
    · cases h
theorem on_time {c : ClkV} {t : Int} (h : (c.on t).2 = true) : 0 ≤ t ∧ t ≤ 1099511627776 := by
  unfold ClkV.on at h
  split at h
  · cases h
  · omega
theorem optEv_form (X : Option EvV) : ∃ x1 x2 x3 x4 ok, optEv X = .tuple #[.agg #[.int .i64 x1, .int .i64 x2, .int .i64 x3, .int .u64 x4], .bool ok] ∧ (ok = true → X = some ⟨x1, x2, x3, x4⟩) ∧ (ok = false → X = none) := by
  cases X with
  | none => exact ⟨0, 0, 0, 0, false, rfl, by simp, by simp⟩
  | some x => exact ⟨x.time, x.key, x.value, x.label, true, rfl, by simp, by simp⟩
structure EvW (b bp bm q : Nat) (vo : Value) (So : List Nat) (r : RunV) (e : EvV) (w W : World) : Prop where
  r : RunIn W b bp bm vo So r
  q : At W q e.cs
  e : Mod (b :: bp :: bm :: So) w W
theorem EvW.below {b bp bm q : Nat} {vo : Value} {So : List Nat} {r : RunV} {e : EvV} {w W W' : World} (h : EvW b bp bm q vo So r e w W) (hb : Below W.heap.size W W') : EvW b bp bm q vo So r e w W' :=
  ⟨h.r.below hb, h.q.below hb, h.e.bel hb⟩
theorem EvW.drew {b bp bm q : Nat} {vo : Value} {So : List Nat} {r : RunV} {e : EvV} {w W : World} (h : EvW b bp bm q vo So r e w W) : EvW b bp bm q vo So r e w W.drew := h.below (bel_draw (Below.refl _ _))
theorem EvW.alloc {b bp bm q : Nat} {vo : Value} {So : List Nat} {r : RunV} {e : EvV} {w W : World} (h : EvW b bp bm q vo So r e w W) (o : Obj) : EvW b bp bm q vo So r e w (W.alloc o) := h.below (bel_alloc (Below.refl _ _) o)
set_option maxRecDepth 100000 in
set_option maxHeartbeats 4000000 in
theorem event_in (b bp bm : Nat) (vo : Value) (So : List Nat) (r : RunV) (e : EvV) (w : World) (h : RunIn w b bp bm vo So r) (ok : PipOk r.pipe) (hk : ∀ x ∈ r.opn, x.2.kind = r.pipe.agg) :
    Calls Tryz.prog 64 #[.pointer (some ⟨b, 0, none⟩), e.val] w fun x w' => (∃ u, x = .returned u) ∧ RunIn w' b bp bm vo So (r.event e) ∧ Mod (b :: bp :: bm :: So) w w' := by
  have hb := h.a.lt
  obtain ⟨e1, e2, e3, e4⟩ := e
  have F0 : EvW b bp bm w.heap.size vo So r ⟨e1, e2, e3, e4⟩ w (w.alloc (.cells #[.int .i64 e1, .int .i64 e2, .int .i64 e3, .int .u64 e4] 39)) := ⟨h.below (bel_alloc (Below.refl _ _) _), At.new _ _ _, (Mod.refl _ _).new _⟩
  have HF0 := Lib.hid F0
  have HOK := Lib.hid ok
  have HK := Lib.hid hk
  clear h ok hk F0
  go_enter Tryz.func64, Tryz.ntmps64
  go_wp2
  refine wp_region_tl 5 (fun W => EvW b bp bm w.heap.size vo So r ⟨e1, e2, e3, e4⟩ w W) HF0.out.drew (by kernel_rfl) (by kernel_rfl) ?_
  intro W F
  have HF := Lib.hid F
  have z0 := F.q.c 0 _ rfl
  have l1 := F.q.lt
  have l2 := F.r.a.lt
  clear F
  simp only [List.take_succ_cons, List.take_zero, List.drop_succ_cons, List.drop_zero]
  repeat still_step
  refine wpStill_nil ?_
  obtain ⟨c1, hc1⟩ : ∃ c1, c1 = (r.clk.on e1).1 := ⟨_, rfl⟩
  obtain ⟨ok1, hok1⟩ : ∃ ok1, ok1 = (r.clk.on e1).2 := ⟨_, rfl⟩
  have HC := Lib.hid (And.intro hc1 hok1)
  have HO := Lib.hid (on_any b r.clk _ e1 W HF.out.r.a)
  rw [← hc1, ← hok1] at HO
  clear hc1 hok1 z0
  cases ok1 with
  | false =>
    go_wp2_with (go_at_call 92; (with_reducible refine HO.out.mono ?_); rintro x w1 ⟨rfl, ha1, hm1⟩; have HA1 := Lib.hid ha1; have HM1 := Lib.hid hm1; clear ha1 hm1)
    refine bodyPost_ret (results_none rfl _ _ _) rfl ?_
    refine ⟨⟨_, rfl⟩, ?_, HF.out.e.trans HM1.out (Into.sub (by simp) _)⟩
    have e0 : r.event ⟨e1, e2, e3, e4⟩ = ⟨c1, r.pipe, r.opn⟩ := by simp [RunV.event, ← HC.out.1, ← HC.out.2]
    rw [e0]
    exact HF.out.r.clk HA1.out HM1.out
  | true =>
    go_wp2_with (go_at_call 92; (with_reducible refine HO.out.mono ?_); rintro x w1 ⟨rfl, ha1, hm1⟩; have HA1 := Lib.hid ha1; have HM1 := Lib.hid hm1; clear ha1 hm1)
    have hne1 : b ≠ w.heap.size := by omega
    have F1 : EvW b bp bm w.heap.size vo So ⟨c1, r.pipe, r.opn⟩ ⟨e1, e2, e3, e4⟩ w w1 := ⟨HF.out.r.clk HA1.out HM1.out, HF.out.q.mod HM1.out (by simp; omega), HF.out.e.trans HM1.out (Into.sub (by simp) _)⟩
    have HF1 := Lib.hid F1
    clear F1
    obtain ⟨X, hX⟩ : ∃ X, X = runO ⟨e1, e2, e3, e4⟩ r.pipe.ol := ⟨_, rfl⟩
    have HX := Lib.hid hX
    have HRU := Lib.hid (show ∀ y, EvW b bp bm w.heap.size vo So ⟨c1, r.pipe, r.opn⟩ ⟨e1, e2, e3, e4⟩ w y → Calls Tryz.prog 93 #[.agg #[.int .i64 e1, .int .i64 e2, .int .i64 e3, .int .u64 e4], vo] y fun r w' => r = .returned (optEv X) ∧ Below y.heap.size y w' from fun y hy => hX ▸ run_any ⟨e1, e2, e3, e4⟩ vo _ y hy.r.o.isr HOK.out.ops)
    clear hX
    obtain ⟨x1, x2, x3, x4, ok2, hx, hok2⟩ := optEv_form X
    rw [hx] at HRU
    have HOK2 := Lib.hid hok2
    clear hx hok2
    have hsv : ∃ a n c, vo = .slice a n c := by obtain ⟨a, c, h, _⟩ := HF1.out.r.o; exact ⟨_, _, _, h⟩
    obtain ⟨va, vn, vc, rfl⟩ := hsv
    refine wp_region_pl (EvW b bp bm w.heap.size (.slice va vn vc) So ⟨c1, r.pipe, r.opn⟩ ⟨e1, e2, e3, e4⟩ w) (.take 0 <| .take 1 <| .take 2 <| .take 3 <| .take 4 <| .take 5 <| .fork 6 (.take 7 <| .take 8 <| .take 9 <| .doo 10 <| .doo 11 <| .take 12 <| .done) 10 (.doo 6 <| .take 7 <| .take 8 <| .take 9 <| .doo 11 <| .take 12 <| .done)) ?plA (by kernel_rfl) (by kernel_rfl) (by kernel_rfl) ?plB (by intro c a d v w; cases d <;> exact fun h => h) ?plC ?_
    case plB =>
      simp only [Pl.with, List.getElem?_toArray, List.getElem?_cons_zero, List.getElem?_cons_succ]
      try rfl
    case plC => exact HF1.out.drew
    have q0 : ∀ x, EvW b bp bm w.heap.size (.slice va vn vc) So ⟨c1, r.pipe, r.opn⟩ ⟨e1, e2, e3, e4⟩ w x → x.cell? ⟨w.heap.size, 0, none⟩ = some (.int .i64 e1) := fun x h => h.q.c 0 _ rfl
    have q1 : ∀ x, EvW b bp bm w.heap.size (.slice va vn vc) So ⟨c1, r.pipe, r.opn⟩ ⟨e1, e2, e3, e4⟩ w x → x.cell? ⟨w.heap.size, 1, none⟩ = some (.int .i64 e2) := fun x h => h.q.c 1 _ rfl
    have q2 : ∀ x, EvW b bp bm w.heap.size (.slice va vn vc) So ⟨c1, r.pipe, r.opn⟩ ⟨e1, e2, e3, e4⟩ w x → x.cell? ⟨w.heap.size, 2, none⟩ = some (.int .i64 e3) := fun x h => h.q.c 2 _ rfl
    have q3 : ∀ x, EvW b bp bm w.heap.size (.slice va vn vc) So ⟨c1, r.pipe, r.opn⟩ ⟨e1, e2, e3, e4⟩ w x → x.cell? ⟨w.heap.size, 3, none⟩ = some (.int .u64 e4) := fun x h => h.q.c 3 _ rfl
    have q4 : ∀ x, EvW b bp bm w.heap.size (.slice va vn vc) So ⟨c1, r.pipe, r.opn⟩ ⟨e1, e2, e3, e4⟩ w x → x.cell? ⟨b, 4, none⟩ = some (.slice va vn vc) := fun x h => h.r.a.c 4 _ rfl
    iterate 6 (refine wpPl_take (v := ?_) (by rfl) (fun w' hS => ?_) ?_; rotate_left; (focus (go_simp; with_reducible rfl)); simp only [Act.put, List.setIfInBounds_toArray, List.set_cons_zero, List.set_cons_succ])
    refine wpPl_fork (by rfl) (by rfl) (fun K hK => ?_) (fun K hK => ?_)
    · go_wp2_with (go_at_call 93; (with_reducible refine (HRU.out _ HF1.out.drew).mono ?_); rintro x w2 ⟨rfl, hb2⟩; have HB2 := Lib.hid hb2; clear hb2)
      have HF2 := Lib.hid (HF1.out.drew.below HB2.out)
      refine ⟨HF2.out, ?_⟩
      iterate 3 (refine wpPl_take (v := ?_) (by rfl) (fun w' hS => ?_) ?_; rotate_left; (focus (go_simp; with_reducible rfl)); simp only [Act.put, List.setIfInBounds_toArray, List.set_cons_zero, List.set_cons_succ])
      refine wpPl_do (by rfl) (fun K hK => ?_)
      go_wp2_with fail
      refine ⟨HF2.out.alloc _, ?_⟩
      refine wpPl_do (by rfl) (fun K hK => ?_)
      go_wp2_with fail
      refine ⟨HF2.out.alloc _, ?_⟩
      iterate 1 (refine wpPl_take (v := ?_) (by rfl) (fun w' hS => ?_) ?_; rotate_left; (focus (go_simp; with_reducible rfl)); simp only [Act.put, List.setIfInBounds_toArray, List.set_cons_zero, List.set_cons_succ])
      refine wpPl_done ?_
      have HG := Lib.hid (And.intro (HF2.out.alloc (.cells #[.int .i64 x1, .int .i64 x2, .int .i64 x3, .int .u64 x4] 39)) (show At (w2.alloc (.cells #[.int .i64 x1, .int .i64 x2, .int .i64 x3, .int .u64 x4] 39)) w2.heap.size [.int .i64 x1, .int .i64 x2, .int .i64 x3, .int .u64 x4] from At.new _ _ _))
      clear q0 q1 q2 q3 q4
      cases ok2 with
      | false =>
        have HX2 := Lib.hid (HOK2.out.2 rfl)
        go_wp2
        refine bodyPost_end (results_none rfl _ _ _) rfl ?_
        have e0 : r.event ⟨e1, e2, e3, e4⟩ = ⟨c1, r.pipe, r.opn⟩ := by simp [RunV.event, ← HC.out.1, ← HC.out.2, ← HX.out, HX2.out]
        rw [e0]
        exact ⟨⟨_, rfl⟩, HG.out.1.r, HG.out.1.e⟩
      | true =>
        have HX2 := Lib.hid (HOK2.out.1 rfl)
        go_wp2
        obtain ⟨W4, hW4⟩ : ∃ W4, W4 = w2.alloc (.cells #[.int .i64 x1, .int .i64 x2, .int .i64 x3, .int .u64 x4] 39) := ⟨_, rfl⟩
        rw [← hW4] at HG ⊢
        have HF4 := HG
        clear hW4
        refine wp_region_pl (fun W => At W b (runCs c1 bp (.slice va vn vc) r.pipe) ∧ At W w2.heap.size [.int .i64 x1, .int .i64 x2, .int .i64 x3, .int .u64 x4]) (.take 0 <| .take 1 <| .take 2 <| .take 3 <| .take 4 <| .doo 5 <| .doo 6 <| .done) ?plD (by kernel_rfl) (by kernel_rfl) (by kernel_rfl) ?plE (by intro c a d v w; cases d <;> exact fun h => h) ?plF ?_
        case plE =>
          simp only [Pl.with, List.getElem?_toArray, List.getElem?_cons_zero, List.getElem?_cons_succ]
          try rfl
        case plF => exact ⟨HF4.out.1.r.a.drew, HF4.out.2.drew⟩
        have q0 : ∀ x, (fun W => At W b (runCs c1 bp (.slice va vn vc) r.pipe) ∧ At W w2.heap.size [.int .i64 x1, .int .i64 x2, .int .i64 x3, .int .u64 x4]) x → x.cell? ⟨w2.heap.size, 0, none⟩ = some (.int .i64 x1) := fun x h => h.2.c 0 _ rfl
        have q1 : ∀ x, (fun W => At W b (runCs c1 bp (.slice va vn vc) r.pipe) ∧ At W w2.heap.size [.int .i64 x1, .int .i64 x2, .int .i64 x3, .int .u64 x4]) x → x.cell? ⟨w2.heap.size, 1, none⟩ = some (.int .i64 x2) := fun x h => h.2.c 1 _ rfl
        have q2 : ∀ x, (fun W => At W b (runCs c1 bp (.slice va vn vc) r.pipe) ∧ At W w2.heap.size [.int .i64 x1, .int .i64 x2, .int .i64 x3, .int .u64 x4]) x → x.cell? ⟨w2.heap.size, 2, none⟩ = some (.int .i64 x3) := fun x h => h.2.c 2 _ rfl
        have q3 : ∀ x, (fun W => At W b (runCs c1 bp (.slice va vn vc) r.pipe) ∧ At W w2.heap.size [.int .i64 x1, .int .i64 x2, .int .i64 x3, .int .u64 x4]) x → x.cell? ⟨w2.heap.size, 3, none⟩ = some (.int .u64 x4) := fun x h => h.2.c 3 _ rfl
        have q4 : ∀ x, (fun W => At W b (runCs c1 bp (.slice va vn vc) r.pipe) ∧ At W w2.heap.size [.int .i64 x1, .int .i64 x2, .int .i64 x3, .int .u64 x4]) x → x.cell? ⟨b, 3, none⟩ = some (.pointer (some ⟨bp, 0, none⟩)) := fun x h => h.1.c 3 _ rfl
        iterate 5 (refine wpPl_take (v := ?_) (by rfl) (fun w' hS => ?_) ?_; rotate_left; (focus (go_simp; with_reducible rfl)); simp only [Act.put, List.setIfInBounds_toArray, List.set_cons_zero, List.set_cons_succ])
        refine wpPl_do (by rfl) (fun K hK => ?_)
        go_wp2_with fail
        refine ⟨⟨(HF4.out.1.r.a.alloc _).drew, (HF4.out.2.alloc _).drew⟩, ?_⟩
        refine wpPl_do (by rfl) (fun K hK => ?_)
        have ht := on_time HC.out.2.symm
        have hxt : x1 = e1 := runO_time (HX.out.symm.trans HX2.out)
        have HPUT := Lib.hid (put_any bp bm W4.heap.size r.pipe.size r.pipe.slide r.pipe.agg r.opn ⟨x1, x2, x3, x4⟩ (W4.alloc (.cells #[.int .i64 x1, .int .i64 x2, .int .i64 x3, .int .u64 x4] 39)).drew (HF4.out.1.alloc _).drew.r.p (HF4.out.1.alloc _).drew.r.mp (At.new _ _ _).drew HOK.out.slide1 HOK.out.slide2 HOK.out.size1 HOK.out.size2 HOK.out.agg1 HOK.out.agg2 (by rw [hxt]; exact ht.1) (by rw [hxt]; exact ht.2) HK.out)
        clear ht hxt
        go_wp2_with (go_at_call 94; (with_reducible refine HPUT.out.mono ?_); rintro x w5 ⟨⟨u, rfl⟩, hm5, hd5⟩; have HM5 := Lib.hid hm5; have HD5 := Lib.hid hd5; clear hm5 hd5)
        have G := (HF4.out.1.alloc (.cells #[.int .i64 x1, .int .i64 x2, .int .i64 x3, .int .u64 x4] 39)).drew
        have hnd := G.r.nd
        simp only [List.nodup_cons, List.mem_cons, not_or] at hnd
        have hqb : w2.heap.size ≠ bm := by
          have h1 := HF1.out.r.mp.lt
          have h2 := HB2.out.size
          simp at h2
          omega
        refine ⟨⟨G.r.a.mod HD5.out (by simpa using hnd.1.2.1), ((HF4.out.2.alloc _).drew).mod HD5.out (by simpa using hqb)⟩, ?_⟩
        refine wpPl_done ?_
        clear q0 q1 q2 q3 q4 hnd hqb
        go_wp2
        refine bodyPost_end (results_none rfl _ _ _) rfl ?_
        have e0 : r.event ⟨e1, e2, e3, e4⟩ = ⟨c1, r.pipe, putL r.pipe ⟨x1, x2, x3, x4⟩ r.opn⟩ := by simp [RunV.event, ← HC.out.1, ← HC.out.2, ← HX.out, HX2.out]
        rw [e0]
        refine ⟨⟨_, rfl⟩, ?_, G.e.trans HD5.out (Into.sub (by simp) _)⟩
        exact G.r.opn HM5.out HD5.out
    · go_wp2_with fail
      refine ⟨HF1.out.drew.alloc _, ?_⟩
      refine wpPl_do (by rfl) (fun K hK => ?_)
      go_wp2_with (go_at_call 93; (with_reducible refine (HRU.out _ (HF1.out.alloc _).drew).mono ?_); rintro x w2 ⟨rfl, hb2⟩; have HB2 := Lib.hid hb2; clear hb2)
      have HF2 := Lib.hid (((HF1.out.alloc (.cells #[.int .i64 0, .int .i64 0, .int .i64 0, .int .u64 0] 39)).drew).below HB2.out)
      have HZ2 := Lib.hid (((At.new w1 #[.int .i64 0, .int .i64 0, .int .i64 0, .int .u64 0] 39).drew).below HB2.out)
      refine ⟨HF2.out, ?_⟩
      iterate 3 (refine wpPl_take (v := ?_) (by rfl) (fun w' hS => ?_) ?_; rotate_left; (focus (go_simp; with_reducible rfl)); simp only [Act.put, List.setIfInBounds_toArray, List.set_cons_zero, List.set_cons_succ])
      refine wpPl_do (by rfl) (fun K hK => ?_)
      have g0 := HZ2.out.c 0 _ rfl
      have g1 := HZ2.out.c 1 _ rfl
      have g2 := HZ2.out.c 2 _ rfl
      have g3 := HZ2.out.c 3 _ rfl
      have f0 := HZ2.out.f 0
      have f1 := HZ2.out.f 1
      have f2 := HZ2.out.f 2
      have f3 := HZ2.out.f 3
      have l5 := HZ2.out.lt
      go_wp2_with fail
      have HG := Lib.hid (show EvW b bp bm w.heap.size (.slice va vn vc) So ⟨c1, r.pipe, r.opn⟩ ⟨e1, e2, e3, e4⟩ w ((((w2.setCell ⟨w1.heap.size, 0, none⟩ (.int .i64 x1)).setCell ⟨w1.heap.size, 1, none⟩ (.int .i64 x2)).setCell ⟨w1.heap.size, 2, none⟩ (.int .i64 x3)).setCell ⟨w1.heap.size, 3, none⟩ (.int .u64 x4)) ∧ At ((((w2.setCell ⟨w1.heap.size, 0, none⟩ (.int .i64 x1)).setCell ⟨w1.heap.size, 1, none⟩ (.int .i64 x2)).setCell ⟨w1.heap.size, 2, none⟩ (.int .i64 x3)).setCell ⟨w1.heap.size, 3, none⟩ (.int .u64 x4)) w1.heap.size [.int .i64 x1, .int .i64 x2, .int .i64 x3, .int .u64 x4] from by
        have hm : Mod [w1.heap.size] w2 ((((w2.setCell ⟨w1.heap.size, 0, none⟩ (.int .i64 x1)).setCell ⟨w1.heap.size, 1, none⟩ (.int .i64 x2)).setCell ⟨w1.heap.size, 2, none⟩ (.int .i64 x3)).setCell ⟨w1.heap.size, 3, none⟩ (.int .u64 x4)) := ((((Mod.refl _ _).set _ _ _ (.inl (by simp))).set _ _ _ (.inl (by simp))).set _ _ _ (.inl (by simp))).set _ _ _ (.inl (by simp))
        have hwl := HF1.out.r.lt
        have hql := HF1.out.q.lt
        have hw1 := HF1.out.e.size
        refine ⟨⟨HF2.out.r.mod hm (fun x hx => ?_), HF2.out.q.mod hm (by simp; omega), HF2.out.e.trans hm (Into.new (by simp; exact hw1) _)⟩, HZ2.out.ev (.int .i64 x1) (.int .i64 x2) (.int .i64 x3) (.int .u64 x4)⟩
        have := hwl x hx
        simp
        omega)
      refine ⟨HG.out.1, ?_⟩
      iterate 1 (refine wpPl_take (v := ?_) (by rfl) (fun w' hS => ?_) ?_; rotate_left; (focus (go_simp; with_reducible rfl)); simp only [Act.put, List.setIfInBounds_toArray, List.set_cons_zero, List.set_cons_succ])
      refine wpPl_done ?_
      clear q0 q1 q2 q3 q4 g0 g1 g2 g3 f0 f1 f2 f3
      cases ok2 with
      | false =>
        have HX2 := Lib.hid (HOK2.out.2 rfl)
        go_wp2
        refine bodyPost_end (results_none rfl _ _ _) rfl ?_
        have e0 : r.event ⟨e1, e2, e3, e4⟩ = ⟨c1, r.pipe, r.opn⟩ := by simp [RunV.event, ← HC.out.1, ← HC.out.2, ← HX.out, HX2.out]
        rw [e0]
        exact ⟨⟨_, rfl⟩, HG.out.1.r, HG.out.1.e⟩
      | true =>
        have HX2 := Lib.hid (HOK2.out.1 rfl)
        go_wp2
        obtain ⟨W4, hW4⟩ : ∃ W4, W4 = ((((w2.setCell ⟨w1.heap.size, 0, none⟩ (.int .i64 x1)).setCell ⟨w1.heap.size, 1, none⟩ (.int .i64 x2)).setCell ⟨w1.heap.size, 2, none⟩ (.int .i64 x3)).setCell ⟨w1.heap.size, 3, none⟩ (.int .u64 x4)) := ⟨_, rfl⟩
        rw [← hW4] at HG ⊢
        have HF4 := HG
        clear hW4
        refine wp_region_pl (fun W => At W b (runCs c1 bp (.slice va vn vc) r.pipe) ∧ At W w1.heap.size [.int .i64 x1, .int .i64 x2, .int .i64 x3, .int .u64 x4]) (.take 0 <| .take 1 <| .take 2 <| .take 3 <| .take 4 <| .doo 5 <| .doo 6 <| .done) ?plD (by kernel_rfl) (by kernel_rfl) (by kernel_rfl) ?plE (by intro c a d v w; cases d <;> exact fun h => h) ?plF ?_
        case plE =>
          simp only [Pl.with, List.getElem?_toArray, List.getElem?_cons_zero, List.getElem?_cons_succ]
          try rfl
        case plF => exact ⟨HF4.out.1.r.a.drew, HF4.out.2.drew⟩
        have q0 : ∀ x, (fun W => At W b (runCs c1 bp (.slice va vn vc) r.pipe) ∧ At W w1.heap.size [.int .i64 x1, .int .i64 x2, .int .i64 x3, .int .u64 x4]) x → x.cell? ⟨w1.heap.size, 0, none⟩ = some (.int .i64 x1) := fun x h => h.2.c 0 _ rfl
        have q1 : ∀ x, (fun W => At W b (runCs c1 bp (.slice va vn vc) r.pipe) ∧ At W w1.heap.size [.int .i64 x1, .int .i64 x2, .int .i64 x3, .int .u64 x4]) x → x.cell? ⟨w1.heap.size, 1, none⟩ = some (.int .i64 x2) := fun x h => h.2.c 1 _ rfl
        have q2 : ∀ x, (fun W => At W b (runCs c1 bp (.slice va vn vc) r.pipe) ∧ At W w1.heap.size [.int .i64 x1, .int .i64 x2, .int .i64 x3, .int .u64 x4]) x → x.cell? ⟨w1.heap.size, 2, none⟩ = some (.int .i64 x3) := fun x h => h.2.c 2 _ rfl
        have q3 : ∀ x, (fun W => At W b (runCs c1 bp (.slice va vn vc) r.pipe) ∧ At W w1.heap.size [.int .i64 x1, .int .i64 x2, .int .i64 x3, .int .u64 x4]) x → x.cell? ⟨w1.heap.size, 3, none⟩ = some (.int .u64 x4) := fun x h => h.2.c 3 _ rfl
        have q4 : ∀ x, (fun W => At W b (runCs c1 bp (.slice va vn vc) r.pipe) ∧ At W w1.heap.size [.int .i64 x1, .int .i64 x2, .int .i64 x3, .int .u64 x4]) x → x.cell? ⟨b, 3, none⟩ = some (.pointer (some ⟨bp, 0, none⟩)) := fun x h => h.1.c 3 _ rfl
        iterate 5 (refine wpPl_take (v := ?_) (by rfl) (fun w' hS => ?_) ?_; rotate_left; (focus (go_simp; with_reducible rfl)); simp only [Act.put, List.setIfInBounds_toArray, List.set_cons_zero, List.set_cons_succ])
        refine wpPl_do (by rfl) (fun K hK => ?_)
        go_wp2_with fail
        refine ⟨⟨(HF4.out.1.r.a.alloc _).drew, (HF4.out.2.alloc _).drew⟩, ?_⟩
        refine wpPl_do (by rfl) (fun K hK => ?_)
        have ht := on_time HC.out.2.symm
        have hxt : x1 = e1 := runO_time (HX.out.symm.trans HX2.out)
        have HPUT := Lib.hid (put_any bp bm W4.heap.size r.pipe.size r.pipe.slide r.pipe.agg r.opn ⟨x1, x2, x3, x4⟩ (W4.alloc (.cells #[.int .i64 x1, .int .i64 x2, .int .i64 x3, .int .u64 x4] 39)).drew (HF4.out.1.alloc _).drew.r.p (HF4.out.1.alloc _).drew.r.mp (At.new _ _ _).drew HOK.out.slide1 HOK.out.slide2 HOK.out.size1 HOK.out.size2 HOK.out.agg1 HOK.out.agg2 (by rw [hxt]; exact ht.1) (by rw [hxt]; exact ht.2) HK.out)
        clear ht hxt
        go_wp2_with (go_at_call 94; (with_reducible refine HPUT.out.mono ?_); rintro x w5 ⟨⟨u, rfl⟩, hm5, hd5⟩; have HM5 := Lib.hid hm5; have HD5 := Lib.hid hd5; clear hm5 hd5)
        have G := (HF4.out.1.alloc (.cells #[.int .i64 x1, .int .i64 x2, .int .i64 x3, .int .u64 x4] 39)).drew
        have hnd := G.r.nd
        simp only [List.nodup_cons, List.mem_cons, not_or] at hnd
        have hqb : w1.heap.size ≠ bm := by
          have h1 := HF1.out.r.mp.lt
          have h2 := HB2.out.size
          simp at h2
          omega
        refine ⟨⟨G.r.a.mod HD5.out (by simpa using hnd.1.2.1), ((HF4.out.2.alloc _).drew).mod HD5.out (by simpa using hqb)⟩, ?_⟩
        refine wpPl_done ?_
        clear q0 q1 q2 q3 q4 hnd hqb
        go_wp2
        refine bodyPost_end (results_none rfl _ _ _) rfl ?_
        have e0 : r.event ⟨e1, e2, e3, e4⟩ = ⟨c1, r.pipe, putL r.pipe ⟨x1, x2, x3, x4⟩ r.opn⟩ := by simp [RunV.event, ← HC.out.1, ← HC.out.2, ← HX.out, HX2.out]
        rw [e0]
        refine ⟨⟨_, rfl⟩, ?_, G.e.trans HD5.out (Into.sub (by simp) _)⟩
        exact G.r.opn HM5.out HD5.out
end Go.Proofs.YtcanfmabkklidaaGreat
set_option linter.unusedSimpArgs false
set_option linter.unusedVariables false
set_option linter.unnecessarySimpa false
namespace Go.Proofs.YtcanfmabkklidaaGreat
open Go.RowKit

theorem pSet_mem {l : PaneL} {k : Int × Int} {x : PotV} : ∀ {j : Int × Int}, j ∈ (pSet l k x).map (·.1) → j = k ∨ j ∈ l.map (·.1) := by
  induction l with
  | nil => intro j h; simp [pSet] at h; exact .inl h
  | cons y l ih =>
    intro j h
    unfold pSet at h
    split at h
    · rename_i e
      simp only [List.map_cons, List.mem_cons] at h ⊢
      rcases h with h | h
      · exact .inl h
      · exact .inr (.inr h)
    · simp only [List.map_cons, List.mem_cons] at h ⊢
      rcases h with h | h
      · exact .inr (.inl h)
      · rcases ih h with h | h
        · exact .inl h
        · exact .inr (.inr h)
theorem pSet_nd {l : PaneL} (h : (l.map (·.1)).Nodup) (k : Int × Int) (x : PotV) : ((pSet l k x).map (·.1)).Nodup := by
  induction l with
  | nil => simp [pSet]
  | cons y l ih =>
    simp only [List.map_cons, List.nodup_cons] at h
    unfold pSet
    split
    · rename_i e
      simp only [List.map_cons, List.nodup_cons]
      exact ⟨by rw [← e]; exact h.1, h.2⟩
    · rename_i e
      simp only [List.map_cons, List.nodup_cons]
      refine ⟨fun hm => ?_, ih h.2⟩
      rcases pSet_mem hm with h1 | h1
      · exact e h1
      · exact h.1 h1
theorem pSet_len (l : PaneL) (k : Int × Int) (x : PotV) : (pSet l k x).length ≤ l.length + 1 := by
  induction l with
  | nil => simp [pSet]
  | cons y l ih =>
    unfold pSet
    split <;> simp <;> omega
theorem pDel_mem {l : PaneL} {k : Int × Int} : ∀ {y : (Int × Int) × PotV}, y ∈ pDel l k → y ∈ l := by
  induction l with
  | nil => intro y h; simp [pDel] at h
  | cons z l ih =>
    intro y h
    unfold pDel at h
    split at h
    · exact List.mem_cons_of_mem _ h
    · rcases List.mem_cons.1 h with h | h
      · rw [h]; exact List.mem_cons_self
      · exact List.mem_cons_of_mem _ (ih h)
theorem pDel_nd {l : PaneL} (h : (l.map (·.1)).Nodup) (k : Int × Int) : ((pDel l k).map (·.1)).Nodup := by
  induction l with
  | nil => simp [pDel]
  | cons y l ih =>
    simp only [List.map_cons, List.nodup_cons] at h
    unfold pDel
    split
    · exact h.2
    · simp only [List.map_cons, List.nodup_cons]
      refine ⟨fun hm => ?_, ih h.2⟩
      obtain ⟨z, hz, e⟩ := List.mem_map.1 hm
      exact h.1 (e ▸ List.mem_map_of_mem (pDel_mem hz))
theorem pDel_keep {l : PaneL} {k j : Int × Int} (hj : j ∈ l.map (·.1)) (hne : j ≠ k) : j ∈ (pDel l k).map (·.1) := by
  induction l with
  | nil => simp at hj
  | cons y l ih =>
    simp only [List.map_cons, List.mem_cons] at hj
    unfold pDel
    split
    · rename_i e
      rcases hj with h | h
      · exact absurd (h.trans e) hne
      · exact h
    · simp only [List.map_cons, List.mem_cons]
      rcases hj with h | h
      · exact .inl h
      · exact .inr (ih h)
theorem pDel_len {l : PaneL} {k : Int × Int} (hk : k ∈ l.map (·.1)) : (pDel l k).length + 1 = l.length := by
  induction l with
  | nil => simp at hk
  | cons y l ih =>
    simp only [List.map_cons, List.mem_cons] at hk
    unfold pDel
    split
    · simp
    · rename_i e
      rcases hk with h | h
      · exact absurd h.symm e
      · have := ih h
        simp
        omega
theorem closeL_all (size mark : Int) : ∀ (ks : List (Int × Int)) (l : PaneL), ks.Nodup → (∀ k ∈ ks, k ∈ l.map (·.1)) → (l.map (·.1)).Nodup →
    (closeL size mark ks l).1.length + (closeL size mark ks l).2.length = l.length ∧ (∀ y ∈ (closeL size mark ks l).2, y ∈ l) ∧ ((closeL size mark ks l).2.map (·.1)).Nodup
  | [], l, _, _, hn => by simp [closeL, hn]
  | k :: ks, l, hk, hm, hn => by
    rw [closeL_cons]
    simp only [List.nodup_cons] at hk
    split
    · exact closeL_all size mark ks l hk.2 (fun j hj => hm j (by simp [hj])) hn
    · have h1 := closeL_all size mark ks (pDel l k) hk.2 (fun j hj => pDel_keep (hm j (by simp [hj])) (fun e => hk.1 (e ▸ hj))) (pDel_nd hn k)
      have h2 := pDel_len (hm k (by simp))
      refine ⟨by simp only [List.length_cons]; omega, fun y hy => pDel_mem (h1.2.1 y hy), h1.2.2⟩
structure RunOk (r : RunV) : Prop where
  pip : PipOk r.pipe
  kind : ∀ x ∈ r.opn, x.2.kind = r.pipe.agg
  nd : (r.opn.map (·.1)).Nodup
theorem puts_nd (kind : Int) (e : EvV) : ∀ (ss : List Int) (l : PaneL), (l.map (·.1)).Nodup → (((ss.foldl (put1 kind e) l)).map (·.1)).Nodup
  | [], l, h => h
  | s :: ss, l, h => puts_nd kind e ss _ (pSet_nd h _ _)
theorem puts_len (kind : Int) (e : EvV) : ∀ (ss : List Int) (l : PaneL), (ss.foldl (put1 kind e) l).length ≤ l.length + ss.length
  | [], l => by simp
  | s :: ss, l => by
    have h1 := puts_len kind e ss (put1 kind e l s)
    have h2 : (put1 kind e l s).length ≤ l.length + 1 := pSet_len _ _ _
    simp only [List.foldl_cons, List.length_cons]
    omega
theorem putL_len {p : PipM} (ok : PipOk p) (e : EvV) (l : PaneL) : (putL p e l).length ≤ l.length + 4 := by
  have h1 := puts_len p.agg e (startsI e.time p.size p.slide (mostI p.size p.slide)) l
  have h2 := startsI_len e.time p.size p.slide (mostI p.size p.slide)
  obtain ⟨_, _, h⟩ := winR_of p.size p.slide ok.slide1 ok.slide2 ok.size1 ok.size2
  unfold putL mostI at *
  omega
theorem RunOk.event {r : RunV} (ok : RunOk r) (e : EvV) : RunOk (r.event e) ∧ (r.event e).opn.length ≤ r.opn.length + 4 ∧ (r.event e).pipe = r.pipe := by
  unfold RunV.event
  split
  · split
    · rename_i x hx
      exact ⟨⟨ok.pip, puts_kind _ _ _ ok.kind, puts_nd _ _ _ _ ok.nd⟩, putL_len ok.pip x r.opn, rfl⟩
    · exact ⟨⟨ok.pip, ok.kind, ok.nd⟩, by simp, rfl⟩
  · exact ⟨⟨ok.pip, ok.kind, ok.nd⟩, by simp, rfl⟩
theorem RunOk.take1 {r : RunV} (ok : RunOk r) (i : InpV) : RunOk (r.take1 i).1 ∧ (r.take1 i).2.length + (r.take1 i).1.opn.length ≤ r.opn.length + 4 ∧ (r.take1 i).1.pipe = r.pipe := by
  unfold RunV.take1
  split
  · split
    · have hp : (placesL r.opn).Perm (r.opn.map (·.1)) := List.mergeSort_perm _ _
      have h := closeL_all r.pipe.size i.time (placesL r.opn) r.opn (hp.nodup_iff.2 ok.nd) (fun k hk => hp.mem_iff.1 hk) ok.nd
      refine ⟨⟨ok.pip, fun x hx => ok.kind x (h.2.1 x hx), h.2.2⟩, ?_, rfl⟩
      have := h.1
      simp only
      omega
    · exact ⟨ok, by simp, rfl⟩
  · have h := ok.event i.ev
    exact ⟨h.1, by simpa using h.2.1, h.2.2⟩
theorem RunV.take_snoc (r : RunV) (l : List InpV) (i : InpV) : r.take (l ++ [i]) = (((r.take l).1.take1 i).1, (r.take l).2 ++ ((r.take l).1.take1 i).2) := by
  induction l generalizing r with
  | nil => simp [RunV.take]
  | cons j l ih => simp [RunV.take, ih]
theorem RunOk.take {r : RunV} (ok : RunOk r) (l : List InpV) : RunOk (r.take l).1 ∧ (r.take l).2.length + (r.take l).1.opn.length ≤ r.opn.length + 4 * l.length ∧ (r.take l).1.pipe = r.pipe := by
  induction l generalizing r with
  | nil => exact ⟨ok, by simp [RunV.take], rfl⟩
  | cons i l ih =>
    have h1 := ok.take1 i
    have h2 := ih h1.1
    refine ⟨h2.1, ?_, h2.2.2.trans h1.2.2⟩
    simp only [RunV.take, List.length_append, List.length_cons]
    omega
end Go.Proofs.YtcanfmabkklidaaGreat
