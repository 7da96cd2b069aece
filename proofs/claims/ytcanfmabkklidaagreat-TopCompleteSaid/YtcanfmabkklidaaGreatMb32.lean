/- The whole, by one runner alone. -/
import Derived.Test.YtcanfmabkklidaaGreatMb21
set_option linter.unusedSimpArgs false
set_option linter.unusedVariables false
set_option linter.unnecessarySimpa false
namespace Go.Proofs.YtcanfmabkklidaaGreat
open Go.RowKit

theorem RunOk.new {p : PipM} (hp : PipOk p) : RunOk (RunV.new p) := ⟨hp, by simp [RunV.new], by simp [RunV.new]⟩
set_option maxRecDepth 100000 in
set_option maxHeartbeats 4000000 in
theorem wrows_any (p : PipeV) (S : List Nat) (hp : PipeBd p) (vi : Value) (l : List InpV) (Si : List Nat) (w : World) (h : RdR OpV.cs 2 w p.ops p.ol S) (hi : RdR InpV.cs 5 w vi l Si) (hl : l.length ≤ 100000) :
    Calls Tryz.prog 26 #[p.val, vi] w fun e w' => ∃ v, e = .returned v ∧ w'.ownsRow w.heap.size 64 5 v ((RunV.new p.m).take l).2.length (((RunV.new p.m).take l).2.flatMap RowV.cs) ∧ Below w.heap.size w w' := by
  have HN := Lib.hid (fun y (hy : RdR OpV.cs 2 y p.ops p.ol S) => rnew_any p S hp y hy)
  have HOK := Lib.hid (RunOk.new hp.m)
  obtain ⟨PM, hPM⟩ : ∃ PM, PM = p.m := ⟨_, rfl⟩
  rw [← hPM] at HN HOK ⊢
  obtain ⟨vo, ol, sz, sl, ag, si, fd⟩ := p
  obtain ⟨a, c, rfl, _⟩ : ∃ a c, vo = .slice a ol.length c ∧ True := by obtain ⟨a, c, h, _⟩ := h; exact ⟨a, c, h, trivial⟩
  obtain ⟨ia, ic, rfl⟩ : ∃ ia ic, vi = .slice ia l.length ic := by obtain ⟨a, c', h, _⟩ := hi; exact ⟨a, c', h⟩
  have HO0 := Lib.hid (h.same (w' := w.alloc (.cells #[.slice a ol.length c, .int .i64 sz, .int .i64 sl, .int .i64 ag, .int .i64 si, .int .i64 fd] 36)) (fun x hx => Below.heap_alloc _ _ _ (h.lt x hx)))
  have HI0 := Lib.hid hi
  clear h hp hi hPM
  unfold PipeV.val at HN ⊢
  simp only at HN HO0 ⊢
  go_enter Tryz.func26, Tryz.ntmps26
  go_wp2_with (first
    | (go_at_call 43; (with_reducible refine (HN.out _ HO0.out).mono ?_); rintro e w1 ⟨b, Sr, rfl, hr1, hn1, hb1⟩; have HR1 := Lib.hid hr1; have HN1 := Lib.hid hn1; have HB1 := Lib.hid ((bel_alloc (Below.refl w.heap.size w) (.cells #[.slice a ol.length c, .int .i64 sz, .int .i64 sl, .int .i64 ag, .int .i64 si, .int .i64 fd] 36)).trans (hb1.mono (by simp))); clear hr1 hn1 hb1)
    | (go_at_call 44; (with_reducible refine (take_at b Sr (RunV.new PM) (.slice ia l.length ic) l Si w1 HR1.out HOK.out (HI0.out.same (fun x hx => HB1.out.block x (HI0.out.lt x hx))) (fun x hx hxi => by have := HN1.out x hx; have := HI0.out.lt x hxi; simp at *; omega) (by simp [RunV.new]; omega)).mono ?_); rintro e w2 ⟨v2, rfl, ho2, hr2, hm2⟩; have HO2 := Lib.hid ho2; have HM2 := Lib.hid hm2; clear ho2 hr2 hm2))
  go_ret
  have hs := HB1.out.size
  exact ⟨v2, rfl, ownsRow_base HO2.out hs, HM2.out.belowB HB1.out hs (fun x hx => by have := HN1.out x hx; simp at this; omega)⟩
end Go.Proofs.YtcanfmabkklidaaGreat
set_option linter.unusedSimpArgs false
set_option linter.unusedVariables false
set_option linter.unnecessarySimpa false
namespace Go.Proofs.YtcanfmabkklidaaGreat
open Go.RowKit

theorem run_lenmap (b : Nat) (l : PaneL) (ty : TypeId) (w : World) (h : MapAt w b l) : (Builtin.len_ #[158] ty #[.map (some b)]).run Tryz.prog w = .ok (.int .i64 (l.length : Int)) w := by
  obtain ⟨es, clock, h1, h2, _⟩ := h
  have hlen : es.size = l.length := by have := congrArg List.length h2; simpa using this
  simp [Builtin.len_, run_underlying map_under, Go.MapKept.run_getObj_map h1, hlen, Result.andThen]
  rfl
theorem plen_any (s d k : Int) (b m : Nat) (l : PaneL) (w : World) (h : At w b (panCs s d k m)) (hm : MapAt w m l) : Calls Tryz.prog 45 #[.pointer (some ⟨b, 0, none⟩)] w fun e w' => e = .returned (.int .i64 (l.length : Int)) ∧ w' = w := by
  have c3 := h.c 3 _ rfl
  have hb := h.lt
  have hl := fun ty => run_lenmap m l ty w hm
  clear h hm
  go_enter Tryz.func45, Tryz.ntmps45
  go_wp2
  go_ret
  exact ⟨rfl, rfl⟩
set_option maxRecDepth 100000 in
set_option maxHeartbeats 4000000 in
theorem wpast_any (p : PipeV) (S : List Nat) (hp : PipeBd p) (vi : Value) (l : List InpV) (Si : List Nat) (w : World) (h : RdR OpV.cs 2 w p.ops p.ol S) (hi : RdR InpV.cs 5 w vi l Si) (hl : l.length ≤ 100000) :
    Calls Tryz.prog 27 #[p.val, vi] w fun e w' => e = .returned (.bool (((RunV.new p.m).take l).1.opn.length == 0)) ∧ Below w.heap.size w w' := by
  have HN := Lib.hid (fun y (hy : RdR OpV.cs 2 y p.ops p.ol S) => rnew_any p S hp y hy)
  have HOK := Lib.hid (RunOk.new hp.m)
  obtain ⟨PM, hPM⟩ : ∃ PM, PM = p.m := ⟨_, rfl⟩
  rw [← hPM] at HN HOK ⊢
  obtain ⟨R, hR⟩ : ∃ R, R = ((RunV.new PM).take l).1 := ⟨_, rfl⟩
  have HR := Lib.hid hR
  rw [← hR]
  obtain ⟨vo, ol, sz, sl, ag, si, fd⟩ := p
  obtain ⟨a, c, rfl, _⟩ : ∃ a c, vo = .slice a ol.length c ∧ True := by obtain ⟨a, c, h, _⟩ := h; exact ⟨a, c, h, trivial⟩
  obtain ⟨ia, ic, rfl⟩ : ∃ ia ic, vi = .slice ia l.length ic := by obtain ⟨a, c', h, _⟩ := hi; exact ⟨a, c', h⟩
  have HO0 := Lib.hid (h.same (w' := w.alloc (.cells #[.slice a ol.length c, .int .i64 sz, .int .i64 sl, .int .i64 ag, .int .i64 si, .int .i64 fd] 36)) (fun x hx => Below.heap_alloc _ _ _ (h.lt x hx)))
  have HI0 := Lib.hid hi
  clear h hp hi hPM hR
  unfold PipeV.val at HN ⊢
  simp only at HN HO0 ⊢
  go_enter Tryz.func27, Tryz.ntmps27
  go_wp2_with (first
    | (go_at_call 43; (with_reducible refine (HN.out _ HO0.out).mono ?_); rintro e w1 ⟨b, Sr, rfl, hr1, hn1, hb1⟩; have HR1 := Lib.hid hr1; have HN1 := Lib.hid hn1; have HB1 := Lib.hid ((bel_alloc (Below.refl w.heap.size w) (.cells #[.slice a ol.length c, .int .i64 sz, .int .i64 sl, .int .i64 ag, .int .i64 si, .int .i64 fd] 36)).trans (hb1.mono (by simp))); clear hr1 hn1 hb1)
    | (go_at_call 44; (with_reducible refine (take_at b Sr (RunV.new PM) (.slice ia l.length ic) l Si w1 HR1.out HOK.out (HI0.out.same (fun x hx => HB1.out.block x (HI0.out.lt x hx))) (fun x hx hxi => by have := HN1.out x hx; have := HI0.out.lt x hxi; simp at *; omega) (by simp [RunV.new]; omega)).mono ?_); rintro e w2 ⟨v2, rfl, ho2, hr2, hm2⟩; rw [← HR.out] at hr2; obtain ⟨bp, bm, vo2, So2, hS2, hin⟩ := hr2; have HIN := Lib.hid hin; have r3 := hin.a.c 3 _ rfl; have lbr := hin.a.lt; have HM2 := Lib.hid hm2; clear ho2 hm2 hin)
    | (go_at_call 45; (with_reducible refine (plen_any _ _ _ bp bm R.opn _ HIN.out.p HIN.out.mp).mono ?_); rintro e w3 ⟨rfl, rfl⟩))
  go_ret
  have hs := HB1.out.size
  have e : (((R.opn.length : Nat) : Int) == 0) = (R.opn.length == 0) := by
    by_cases h : R.opn.length = 0
    · simp [h]
    · have h2 : ¬ ((R.opn.length : Nat) : Int) = 0 := by omega
      rw [beq_eq_false_iff_ne.2 h, beq_eq_false_iff_ne.2 h2]
  refine ⟨?_, HM2.out.belowB HB1.out hs (fun x hx => by have := HN1.out x hx; simp at this; omega)⟩
  show Ending.returned (.bool (((R.opn.length : Nat) : Int) == 0)) = _
  rw [e]
end Go.Proofs.YtcanfmabkklidaaGreat
