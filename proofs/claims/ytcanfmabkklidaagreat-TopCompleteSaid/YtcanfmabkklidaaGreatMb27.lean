/- A new core: the walk. -/
import Derived.Test.YtcanfmabkklidaaGreatMb26
import Derived.Test.YtcanfmabkklidaaGreatMb24
import Derived.Test.YtcanfmabkklidaaGreatMb20
set_option linter.unusedSimpArgs false
set_option linter.unusedVariables false
set_option linter.unnecessarySimpa false
namespace Go.Proofs.YtcanfmabkklidaaGreat
open Go.RowKit

theorem take_new (l : List SinkV) (k : Nat) (s : SinkV) (h : l[k]? = some s) : ((l.take (k + 1)).map PotV.new).flatMap PotV.cs = ((l.take k).map PotV.new).flatMap PotV.cs ++ (PotV.new s).cs := by
  rw [List.take_add_one, h]
  simp
set_option maxHeartbeats 2000000 in
set_option maxRecDepth 100000 in
theorem cnew10 (v : Value) (l : List SinkV) (S : List Nat) (B R Q : Int) (w : World) (h : RdR SinkV.cs 5 w v l S) (hs : SetBd B R Q l) :
    Calls Tryz.prog 10 #[.agg #[.int .i64 B, .int .i64 R, .int .i64 Q, v]] w fun e w' => ∃ b F, e = .returned (.pointer (some ⟨b, 0, none⟩)) ∧ CoreAt w' b F (CoreV.new B R Q l) ∧ (∀ x ∈ F, w.heap.size ≤ x) ∧ Below w.heap.size w w' := by
  obtain ⟨a, c, rfl, hc1, hc2, _⟩ := id h
  have hl2 := hs.len
  have HSB := Lib.hid hs
  have hS1 : RdR SinkV.cs 5 (w.alloc (.cells #[.int .i64 B, .int .i64 R, .int .i64 Q, .slice a l.length c] 28)) (.slice a l.length c) l S := h.same (fun x hx => (bel_alloc (Below.refl _ w) _).block x (h.lt x hx))
  have HS1 := Lib.hid hS1
  obtain ⟨i0, hi3, hz0, hz1, hz2⟩ := info_parts info87
  have HI := Lib.hid (And.intro hi3 (And.intro hz0 (And.intro hz1 hz2)))
  clear h hs hS1 hi3 hz0 hz1 hz2
  go_enter Tryz.func10, Tryz.ntmps10
  go_wp2_with (first
    | (go_at_call 35; (with_reducible refine (cright_any B R Q _ l _ HS1.out.isr HSB.out).mono ?_); rintro e w1 ⟨rfl, hb⟩; have HB1 := Lib.hid (below_step (bel_alloc (Below.refl _ w) _) hb); have HR1 := Lib.hid (HS1.out.same (fun x hx => hb.block x (HS1.out.lt x hx))); have A1 := (At.new w #[.int .i64 B, .int .i64 R, .int .i64 Q, .slice a l.length c] 28).below hb; have HA1 := Lib.hid A1; have q3 := A1.c 3 _ rfl; have l1 := A1.lt; clear hb A1)
    | (go_at_call 36; (with_reducible refine (clone36 _ l S _ HR1.out (by omega)).mono ?_); rintro e w2 ⟨v2, rfl, ho, hb⟩; have HB2 := Lib.hid (below_step HB1.out hb); have HO2 := Lib.hid ho; have A2 := HA1.out.below hb; have HA2 := Lib.hid A2; have q3' := A2.c 3 _ rfl; have f3 := A2.f 3; have l2 := A2.lt; have hs2 := hb.size; obtain ⟨sa, sc, rfl⟩ := own_shape2 ho; clear ho hb A2))
  refine wp_region_plB (fun w0 => At w0 w.heap.size [.int .i64 B, .int .i64 R, .int .i64 Q, .slice sa l.length sc] ∧ w0.ownsRow w1.heap.size 49 5 (.slice sa l.length sc) l.length (l.flatMap SinkV.cs) ∧ Below w.heap.size w w0 ∧ w.heap.size + 1 ≤ w1.heap.size) ?ph4 (.take 0 <| .doo 1 <| .take 2 <| .doo 3 <| .take 4 <| .done) ?plL4 (by kernel_rfl) (by kernel_rfl) (by kernel_rfl) ?plH4 (by intro c a d v w; cases d <;> exact fun h => h) ?_
  case plH4 =>
    simp only [Pl.with, List.getElem?_toArray, List.getElem?_cons_zero, List.getElem?_cons_succ]
    try rfl
  case ph4 =>
    refine ⟨HA2.out.set 3 _ (by simp), ?_, bel_set HB2.out (Nat.le_refl _) _, by omega⟩
    exact own_of_block HO2.out (fun x hx => Below.heap_setCell _ _ _ _ (by have := own_new HO2.out x hx; simp; omega))
  rintro w3 ⟨ha3, ho3, hb3, hs3⟩
  have HA3 := Lib.hid ha3
  have HO3 := Lib.hid ho3
  have HB3 := Lib.hid hb3
  have l3 := ha3.lt
  clear ha3 ho3 hb3
  have q0 : ∀ x, Below w3.heap.size w3 x → x.cell? ⟨w.heap.size, 0, none⟩ = some (.int .i64 B) := fun x hx => (HA3.out.below hx).c 0 _ rfl
  have q1 : ∀ x, Below w3.heap.size w3 x → x.cell? ⟨w.heap.size, 1, none⟩ = some (.int .i64 R) := fun x hx => (HA3.out.below hx).c 1 _ rfl
  have q2 : ∀ x, Below w3.heap.size w3 x → x.cell? ⟨w.heap.size, 2, none⟩ = some (.int .i64 Q) := fun x hx => (HA3.out.below hx).c 2 _ rfl
  have q3 : ∀ x, Below w3.heap.size w3 x → x.cell? ⟨w.heap.size, 3, none⟩ = some (.slice sa l.length sc) := fun x hx => (HA3.out.below hx).c 3 _ rfl
  iterate 1 (refine wpPl_take (v := ?_) (by rfl) (fun w' hS => ?_) ?_; rotate_left; (focus (go_simp; with_reducible rfl)); simp only [Act.put, List.setIfInBounds_toArray, List.set_cons_zero, List.set_cons_succ])
  clear q0 q1 q2 q3
  refine wpPl_do (by rfl) (fun K hK => ?_)
  go_wp2_with (go_at_call 37; (with_reducible refine (bnew_any _).mono ?_); rintro e w1 ⟨rfl, rfl⟩)
  refine ⟨bel_draw (bel_alloc (Below.refl _ w3) _), ?_⟩
  iterate 1 (refine wpPl_take (v := ?_) (by rfl) (fun w' hS => ?_) ?_; rotate_left; (focus (go_simp; with_reducible rfl)); simp only [Act.put, List.setIfInBounds_toArray, List.set_cons_zero, List.set_cons_succ])
  refine wpPl_do (by rfl) (fun K hK => ?_)
  go_wp2_with fail
  refine ⟨bel_draw (bel_alloc (bel_alloc (Below.refl _ w3) _) _), ?_⟩
  iterate 1 (refine wpPl_take (v := ?_) (by rfl) (fun w' hS => ?_) ?_; rotate_left; (focus (go_simp; with_reducible rfl)); simp only [Act.put, List.setIfInBounds_toArray, List.set_cons_zero, List.set_cons_succ])
  refine wpPl_done ?_
  obtain ⟨w4, hw4⟩ : ∃ w4, w4 = ((w3.alloc (.cells #[.slice none 0 0, .slice none 0 0, .slice none 0 0, .slice none 0 0, .slice none 0 0, .slice none 0 0, .slice none 0 0, .slice none 0 0] 145)).alloc (.cells #[.int .i64 B, .int .i64 R, .int .i64 Q, .slice sa l.length sc, .pointer none, .pointer none, .pointer none, .pointer none, .pointer none, .pointer none, .pointer none, .pointer none, .slice none 0 0, .pointer (some ⟨w3.heap.size, 0, none⟩), .int .i64 0] 117)).drew := ⟨_, rfl⟩
  have A0 : At w4 w.heap.size [.int .i64 B, .int .i64 R, .int .i64 Q, .slice sa l.length sc] := by rw [hw4]; exact HA3.out.below (bel_draw (bel_alloc (bel_alloc (Below.refl _ w3) _) _))
  have AB : At w4 w3.heap.size [.slice none 0 0, .slice none 0 0, .slice none 0 0, .slice none 0 0, .slice none 0 0, .slice none 0 0, .slice none 0 0, .slice none 0 0] := by rw [hw4]; exact ((At.newAt (by rfl) _ _).alloc _).drew
  have AC : At w4 (w3.heap.size + 1) [.int .i64 B, .int .i64 R, .int .i64 Q, .slice sa l.length sc, .pointer none, .pointer none, .pointer none, .pointer none, .pointer none, .pointer none, .pointer none, .pointer none, .slice none 0 0, .pointer (some ⟨w3.heap.size, 0, none⟩), .int .i64 0] := by rw [hw4]; exact (At.newAt (by simp) _ _).drew
  have AO : w4.ownsRow w1.heap.size 49 5 (.slice sa l.length sc) l.length (l.flatMap SinkV.cs) := by rw [hw4]; exact ((HO3.out.alloc _).alloc _).drew
  have AW : Below w.heap.size w w4 := by rw [hw4]; exact bel_draw (bel_alloc (bel_alloc HB3.out _) _)
  have hz4 : w4.heap.size = w3.heap.size + 2 := by rw [hw4]; simp
  try rw [← hw4]
  have c3 := A0.c 3 _ rfl
  have HA0 := Lib.hid A0
  have HAB := Lib.hid AB
  have HAC := Lib.hid AC
  have HAO := Lib.hid AO
  have HAW := Lib.hid AW
  have hsl : ∀ x ∈ (Value.slice sa l.length sc).ownBlock.toList, x < w3.heap.size := own_lt HO3.out
  have HSL := Lib.hid hsl
  clear hw4 A0 AB AC AO AW hsl
  obtain ⟨bb, hbb⟩ : ∃ bb, bb = w3.heap.size := ⟨_, rfl⟩
  obtain ⟨b, hb⟩ : ∃ b, b = w3.heap.size + 1 := ⟨_, rfl⟩
  rw [← hb] at HAC ⊢
  rw [← hbb] at HAB HAC HSL hz4
  have HBB := Lib.hid (show b = bb + 1 by omega)
  have hbl : bb < b := by omega
  have HZ4 := Lib.hid hz4
  have hwb : w.heap.size ≤ bb := by omega
  have HBW4 := Lib.hid (show w.heap.size ≤ b by omega)
  clear hb hbb hz4
  go_wp2
  go_loopg [20] l.length (fun g v20 wr => ∃ (k : Nat) (va : Option Addr) (vc : Nat), k ≤ l.length ∧ g = l.length - k ∧ v20 = .int .i64 k ∧ At wr b [.int .i64 B, .int .i64 R, .int .i64 Q, .slice sa l.length sc, .pointer none, .pointer none, .pointer none, .pointer none, .pointer none, .pointer none, .pointer none, .pointer none, .slice va k vc, .pointer (some ⟨bb, 0, none⟩), .int .i64 0] ∧ At wr bb [.slice none 0 0, .slice none 0 0, .slice none 0 0, .slice none 0 0, .slice none 0 0, .slice none 0 0, .slice none 0 0, .slice none 0 0] ∧ wr.ownsRow w1.heap.size 49 5 (.slice sa l.length sc) l.length (l.flatMap SinkV.cs) ∧ wr.ownsRow (b + 1) 87 4 (.slice va k vc) k (((l.take k).map PotV.new).flatMap PotV.cs) ∧ Below w.heap.size w wr ∧ b + 1 ≤ wr.heap.size)
  case atStart => exact ⟨0, none, 0, by omega, by omega, rfl, HAC.out, HAB.out, HAO.out, World.ownsRow_nil _ _ _ _, HAW.out, by have := HZ4.out; have := HBB.out; omega⟩
  case round =>
    obtain ⟨k, va, vc, hk, rfl, rfl, hac, hab, hao, hop, hbw, hsz⟩ := hrel
    have HACr := Lib.hid hac
    have HABr := Lib.hid hab
    have HAOr := Lib.hid hao
    have HOPr := Lib.hid hop
    have HBWr := Lib.hid hbw
    clear hac hab hao hop hbw
    by_cases hlt : k < l.length
    · obtain ⟨s, hse⟩ : ∃ s, l[k]? = some s := ⟨l[k], by simp [hlt]⟩
      obtain ⟨sg, sc2, hsg, _, hsglt, _, _, hcs⟩ := own_form HAOr.out (by omega)
      simp only [Value.slice.injEq, true_and] at hsg
      obtain ⟨rfl, rfl⟩ := hsg
      have HX := Lib.hid (fun (j : Nat) (u : Value) (hj : s.cs[j]? = some u) => hcs (k * 5 + j) u (flat_get (cs := SinkV.cs) (k := 5) (fun _ => rfl) hse hj))
      have HSE := Lib.hid hse
      clear hcs hse
      obtain ⟨s1, s2, s3, s4, s5⟩ := s
      have x0 := HX.out 0 _ rfl
      have x1 := HX.out 1 _ rfl
      have x2 := HX.out 2 _ rfl
      have x3 := HX.out 3 _ rfl
      have x4 := HX.out 4 _ rfl
      simp only [Nat.add_zero] at x0
      go_wp2_with fail
      obtain ⟨P, hP⟩ : ∃ P : World → Prop, ∀ y, Hold P y ↔ (fun y : World => At y b [.int .i64 B, .int .i64 R, .int .i64 Q, .slice (some ⟨sg, 0, none⟩) l.length sc, .pointer none, .pointer none, .pointer none, .pointer none, .pointer none, .pointer none, .pointer none, .pointer none, .slice va k vc, .pointer (some ⟨bb, 0, none⟩), .int .i64 0] ∧ At y wr.heap.size [.int .u64 s1, .int .u64 s2, .int .i64 s3, .int .i64 s4, .int .i64 s5] ∧ At y bb [.slice none 0 0, .slice none 0 0, .slice none 0 0, .slice none 0 0, .slice none 0 0, .slice none 0 0, .slice none 0 0, .slice none 0 0] ∧ y.ownsRow w1.heap.size 49 5 (.slice (some ⟨sg, 0, none⟩) l.length sc) l.length (l.flatMap SinkV.cs) ∧ Below w.heap.size w y ∧ wr.heap.size + 1 ≤ y.heap.size) y := ⟨(fun y : World => At y b [.int .i64 B, .int .i64 R, .int .i64 Q, .slice (some ⟨sg, 0, none⟩) l.length sc, .pointer none, .pointer none, .pointer none, .pointer none, .pointer none, .pointer none, .pointer none, .pointer none, .slice va k vc, .pointer (some ⟨bb, 0, none⟩), .int .i64 0] ∧ At y wr.heap.size [.int .u64 s1, .int .u64 s2, .int .i64 s3, .int .i64 s4, .int .i64 s5] ∧ At y bb [.slice none 0 0, .slice none 0 0, .slice none 0 0, .slice none 0 0, .slice none 0 0, .slice none 0 0, .slice none 0 0, .slice none 0 0] ∧ y.ownsRow w1.heap.size 49 5 (.slice (some ⟨sg, 0, none⟩) l.length sc) l.length (l.flatMap SinkV.cs) ∧ Below w.heap.size w y ∧ wr.heap.size + 1 ≤ y.heap.size), fun _ => Iff.rfl⟩
      refine wp_region_pt 9 (Hold P) (.take 0 <| .take 1 <| .take 2 <| .take 3 <| .take 4 <| .take 5 <| .doo 6 <| .doo 7 <| .doo 8 <| .done) ?plA8 (by kernel_rfl) (by kernel_rfl) ?plB8 (by intro c a d v w; cases d <;> exact fun h => h) ?plC8 ?_
      case plB8 =>
        simp only [Pt.with, List.getElem?_toArray, List.getElem?_cons_zero, List.getElem?_cons_succ]
        try rfl
      case plC8 => exact (hP _).2 ⟨(HACr.out.alloc _).drew, (At.new wr _ _).drew, (HABr.out.alloc _).drew, (HAOr.out.alloc _).drew, bel_draw (bel_alloc HBWr.out _), by simp⟩
      have y12 : ∀ y : World, Hold P y → y.cell? ⟨b, 12, none⟩ = some (.slice va k vc) := fun y h => ((hP y).1 h).1.c 12 _ rfl
      have y0 : ∀ y : World, Hold P y → y.cell? ⟨wr.heap.size, 0, none⟩ = some (.int .u64 s1) := fun y h => ((hP y).1 h).2.1.c 0 _ rfl
      have y1 : ∀ y : World, Hold P y → y.cell? ⟨wr.heap.size, 1, none⟩ = some (.int .u64 s2) := fun y h => ((hP y).1 h).2.1.c 1 _ rfl
      have y2 : ∀ y : World, Hold P y → y.cell? ⟨wr.heap.size, 2, none⟩ = some (.int .i64 s3) := fun y h => ((hP y).1 h).2.1.c 2 _ rfl
      have y3 : ∀ y : World, Hold P y → y.cell? ⟨wr.heap.size, 3, none⟩ = some (.int .i64 s4) := fun y h => ((hP y).1 h).2.1.c 3 _ rfl
      have y4 : ∀ y : World, Hold P y → y.cell? ⟨wr.heap.size, 4, none⟩ = some (.int .i64 s5) := fun y h => ((hP y).1 h).2.1.c 4 _ rfl
      have HP := Lib.hid hP
      clear hP
      iterate 6 (refine wpPt_take (v := ?_) (by rfl) (fun w' hS => ?_) ?_; rotate_left; (focus (go_simp; with_reducible rfl)); simp only [Act.put, List.setIfInBounds_toArray, List.set_cons_zero, List.set_cons_succ])
      clear y12 y0 y1 y2 y3 y4
      refine wpPt_do (by rfl) (fun K hK => ?_)
      go_wp2_with (go_at_call 28; (with_reducible refine (snew_any ⟨s1, s2, s3, s4, s5⟩ _).mono ?_); rintro e w8 ⟨rfl, hb8⟩; have HB8 := Lib.hid hb8; clear hb8)
      have HF8 := Lib.hid (show (fun y : World => At y b [.int .i64 B, .int .i64 R, .int .i64 Q, .slice (some ⟨sg, 0, none⟩) l.length sc, .pointer none, .pointer none, .pointer none, .pointer none, .pointer none, .pointer none, .pointer none, .pointer none, .slice va k vc, .pointer (some ⟨bb, 0, none⟩), .int .i64 0] ∧ At y wr.heap.size [.int .u64 s1, .int .u64 s2, .int .i64 s3, .int .i64 s4, .int .i64 s5] ∧ At y bb [.slice none 0 0, .slice none 0 0, .slice none 0 0, .slice none 0 0, .slice none 0 0, .slice none 0 0, .slice none 0 0, .slice none 0 0] ∧ y.ownsRow w1.heap.size 49 5 (.slice (some ⟨sg, 0, none⟩) l.length sc) l.length (l.flatMap SinkV.cs) ∧ Below w.heap.size w y ∧ wr.heap.size + 1 ≤ y.heap.size) w8 from ⟨(HACr.out.alloc _).drew.below HB8.out, (At.new wr _ _).drew.below HB8.out, (HABr.out.alloc _).drew.below HB8.out, ((HAOr.out.alloc _).drew).kept (grown_of_below HB8.out none) (Classical.em _), below_step (bel_draw (bel_alloc HBWr.out _)) HB8.out, by have := HB8.out.size; simpa using this⟩)
      have HOP8 := Lib.hid (((HOPr.out.alloc _).drew).kept (grown_of_below HB8.out none) (Classical.em _))
      refine ⟨(HP.out _).2 HF8.out, ?_⟩
      refine wpPt_do (by rfl) (fun K hK => ?_)
      go_wp2_with fail
      have HF9 := Lib.hid (show (fun y : World => At y b [.int .i64 B, .int .i64 R, .int .i64 Q, .slice (some ⟨sg, 0, none⟩) l.length sc, .pointer none, .pointer none, .pointer none, .pointer none, .pointer none, .pointer none, .pointer none, .pointer none, .slice va k vc, .pointer (some ⟨bb, 0, none⟩), .int .i64 0] ∧ At y wr.heap.size [.int .u64 s1, .int .u64 s2, .int .i64 s3, .int .i64 s4, .int .i64 s5] ∧ At y bb [.slice none 0 0, .slice none 0 0, .slice none 0 0, .slice none 0 0, .slice none 0 0, .slice none 0 0, .slice none 0 0, .slice none 0 0] ∧ y.ownsRow w1.heap.size 49 5 (.slice (some ⟨sg, 0, none⟩) l.length sc) l.length (l.flatMap SinkV.cs) ∧ Below w.heap.size w y ∧ wr.heap.size + 1 ≤ y.heap.size) (w8.alloc (.cells #[.int .i64 (PotV.new ⟨s1, s2, s3, s4, s5⟩).count, .int .i64 (PotV.new ⟨s1, s2, s3, s4, s5⟩).kind, .int .i64 (PotV.new ⟨s1, s2, s3, s4, s5⟩).value, .int .u64 (PotV.new ⟨s1, s2, s3, s4, s5⟩).who] 87)) from ⟨HF8.out.1.alloc _, HF8.out.2.1.alloc _, HF8.out.2.2.1.alloc _, HF8.out.2.2.2.1.alloc _, bel_alloc HF8.out.2.2.2.2.1 _, by have := HF8.out.2.2.2.2.2; simp; omega⟩)
      refine ⟨(HP.out _).2 HF9.out, ?_⟩
      refine wpPt_do (by rfl) (fun K hK => ?_)
      have hs8 := HF8.out.2.2.2.2.2
      refine wp_append_own _ (.tmp 28) (.tmp 31) 81 rfl (b + 1) 87 i0 _ 4 32 Tryz.underlying81 HI.out.1 HI.out.2.1 HI.out.2.2.1 HI.out.2.2.2 rfl (by decide) (.slice va k vc) k (((l.take k).map PotV.new).flatMap PotV.cs) rfl (HOP8.out.alloc _) ⟨w8.heap.size, 0, none⟩ 1 1 (PotV.new ⟨s1, s2, s3, s4, s5⟩).cs rfl rfl (row_cells _ _ _) (PotV.one _) (by unfold maxLen; omega) (by omega) (by simp; omega) ?_
      intro v' w9 hown9 hgrow9 _
      have HO9 := Lib.hid hown9
      have hbk : ∀ x, (Value.slice va k vc).ownBlock = some x → b + 1 ≤ x := fun x hx => (HOP8.out.lt x hx).1
      have hbk2 : ∀ x, (Value.slice va k vc).ownBlock = some x → x ≠ wr.heap.size := fun x hx => by have := (HOPr.out.lt x hx).2; omega
      have HF10 := Lib.hid (show (fun y : World => At y b [.int .i64 B, .int .i64 R, .int .i64 Q, .slice (some ⟨sg, 0, none⟩) l.length sc, .pointer none, .pointer none, .pointer none, .pointer none, .pointer none, .pointer none, .pointer none, .pointer none, .slice va k vc, .pointer (some ⟨bb, 0, none⟩), .int .i64 0] ∧ At y wr.heap.size [.int .u64 s1, .int .u64 s2, .int .i64 s3, .int .i64 s4, .int .i64 s5] ∧ At y bb [.slice none 0 0, .slice none 0 0, .slice none 0 0, .slice none 0 0, .slice none 0 0, .slice none 0 0, .slice none 0 0, .slice none 0 0] ∧ y.ownsRow w1.heap.size 49 5 (.slice (some ⟨sg, 0, none⟩) l.length sc) l.length (l.flatMap SinkV.cs) ∧ Below w.heap.size w y ∧ wr.heap.size + 1 ≤ y.heap.size) w9 from ⟨HF9.out.1.grown hgrow9 (fun x hx => by have := hbk x hx; omega), HF9.out.2.1.grown hgrow9 (fun x hx => hbk2 x hx), HF9.out.2.2.1.grown hgrow9 (fun x hx => by have := hbk x hx; omega), HF9.out.2.2.2.1.kept hgrow9 (.inr (fun e => by
        have h1 := HSL.out sg (by simp [Value.ownBlock])
        have h2 := hbk sg e.symm
        omega)), HF9.out.2.2.2.2.1.grown hgrow9 HF9.out.2.2.2.2.1.size (fun x hx => by have := hbk x hx; have := HBW4.out; omega), by have := hgrow9.size; have := HF9.out.2.2.2.2.2; omega⟩)
      have d12 := HF10.out.1.f 12
      have e12 := HF10.out.1.c 12 _ rfl
      have l9 := HF10.out.1.lt
      clear hown9 hgrow9 hbk hbk2
      obtain ⟨g9, cap9, rfl, hg9, _⟩ := own_form HO9.out (by omega)
      refine hK _ _ ⟨(HP.out _).2 HF10.out, ?_⟩
      simp only [Act.put, List.setIfInBounds_toArray, List.set_cons_zero, List.set_cons_succ]
      refine wpPt_done ?_
      try simp only [List.drop_succ_cons, List.drop_zero]
      go_wp2
      go_roundg (l.length - (k + 1))
      case measure => omega
      case rel =>
        have hm := Mod.setCell w9 b 12 (.slice (some ⟨g9, 0, none⟩) (k + 1) cap9)
        refine ⟨k + 1, _, cap9, by omega, rfl, by go_num, HF10.out.1.set 12 _ (by simp), HF10.out.2.2.1.mod hm (by simp; omega), own_of_block HF10.out.2.2.2.1 (fun x hx => hm.block x (own_lt HF10.out.2.2.2.1 x hx) (by have := HSL.out x hx; simp; omega)), ?_, bel_set HF10.out.2.2.2.2.1 (by have := HBW4.out; omega) _, by have := HF10.out.2.2.2.2.2; simp [World.setCell]; omega⟩
        rw [take_new l k _ HSE.out]
        exact own_of_block HO9.out (fun x hx => hm.block x (own_lt HO9.out x hx) (by have := own_new HO9.out x hx; simp; omega))
    · obtain rfl : k = l.length := by omega
      rw [List.take_length] at HOPr
      go_wp2
      go_ret
      refine ⟨b, _, rfl, ⟨_, _, _, _, _, rfl, CoreIn.fresh (B := B) (R := R) (Q := Q) (l := l) HACr.out HABr.out HAOr.out (by rw [List.length_map]; exact HOPr.out) (by omega) (by omega) HSL.out⟩, fun x hx => ?_, HBWr.out⟩
      obtain ⟨j, hj, hx⟩ := mem_allOf.1 hx
      have h1 := HBW4.out
      split at hx
      · have e : x = b := by simpa using hx
        omega
      · split at hx
        · have := own_new HAOr.out x hx
          omega
        · split at hx
          · have := own_new HOPr.out x hx
            omega
          · split at hx
            · have e : x = bb := by simpa using hx
              have := HBB.out
              omega
            · simp at hx
end Go.Proofs.YtcanfmabkklidaaGreat
set_option linter.unusedSimpArgs false
set_option linter.unusedVariables false
set_option linter.unnecessarySimpa false
namespace Go.Proofs.YtcanfmabkklidaaGreat
open Go.RowKit

structure KSinkV where
  frm : Int
  tos : Int
  least : Int
  agg : Int
  ticks : Int
def KSinkV.cs (x : KSinkV) : List Value := [.int .i64 x.frm, .int .i64 x.tos, .int .i64 x.least, .int .i64 x.agg, .int .i64 x.ticks]
instance : Inhabited KSinkV := ⟨⟨0, 0, 0, 0, 0⟩⟩
set_option maxHeartbeats 2000000 in
set_option maxRecDepth 100000 in
theorem sinks_any (W : World) (v : Value) (l : List KSinkV) (h : IsR KSinkV.cs 5 W v l) :
    Calls Tryz.prog 21 #[v] W fun e w' => ∃ (v' : Value) (r : List SinkV), e = .returned v' ∧ w'.ownsRow W.heap.size 49 5 v' r.length (r.flatMap SinkV.cs) ∧ r.length = min l.length 2 ∧ (∀ s ∈ r, SinkBd s) ∧ Below W.heap.size W w' := by
  obtain ⟨al, cl, rfl, hl1, hl2, bl, ol, hl3, hl4⟩ := h
  unfold maxLen at hl2
  have H3 := Lib.hid hl3
  have H4 := Lib.hid hl4
  clear hl3 hl4
  obtain ⟨n, hn⟩ : ∃ n, n = min l.length 2 := ⟨_, rfl⟩
  rw [← hn]
  have hn1 : n ≤ 2 := by omega
  have hn2 : n ≤ l.length := by omega
  have HN3 := Lib.hid (show n = l.length ∨ n = 2 by omega)
  clear hn
  go_enter Tryz.func21, Tryz.ntmps21
  go_wp2_with fail
  go_loopg [3, 4] n (fun g v3 v4 wr => ∃ (i : Nat) (va : Option Addr) (vc : Nat) (L : List SinkV), i ≤ n ∧ g = n - i ∧ v3 = .slice va i vc ∧ v4 = .int .i64 i ∧ L.length = i ∧ (∀ o ∈ L, SinkBd o) ∧ wr.ownsRow W.heap.size 49 5 (.slice va i vc) i (L.flatMap SinkV.cs) ∧ Below W.heap.size W wr)
  case atStart => exact ⟨0, none, 0, [], by omega, by omega, rfl, rfl, rfl, by simp, World.ownsRow_nil _ _ _ _, Below.refl _ _⟩
  case round =>
    obtain ⟨i, va, vc, L, hi, rfl, rfl, rfl, hL, hbd, ho, hb⟩ := hrel
    have HOr := Lib.hid ho
    have HBr := Lib.hid hb
    have HBD := Lib.hid hbd
    have HLr := Lib.hid hL
    have hb2 : W.heap.size ≤ wr.heap.size := hb.size
    obtain ⟨i0, hi3, hz0, hz1, hz2⟩ := info_parts info49
    have HI := Lib.hid (And.intro hi3 (And.intro hz0 (And.intro hz1 hz2)))
    clear hi3 hz0 hz1 hz2 ho hb hbd hL
    by_cases hlt : i < n
    · have hlt1 : i < 2 := by omega
      have hlt2 : i < l.length := by omega
      obtain ⟨rfl, hbl⟩ := H3.out (by omega)
      obtain ⟨x, hx⟩ : ∃ x, l[i]? = some x := ⟨l[i], by simp [hlt2]⟩
      have HX := Lib.hid (fun (j : Nat) (u : Value) (hj : x.cs[j]? = some u) => (HBr.out.cell (p := ⟨bl, ol + i * 5 + j, none⟩) hbl).trans (H4.out i x hx j u hj))
      clear hx
      obtain ⟨kf, kt, kl, ka, kk⟩ := x
      have c0 := HX.out 0 _ rfl
      have c1 := HX.out 1 _ rfl
      have c2 := HX.out 2 _ rfl
      have c3 := HX.out 3 _ rfl
      have c4 := HX.out 4 _ rfl
      simp only [Nat.add_zero] at c0
      clear HX
      have bF := within_bd kf 1 255 (by omega)
      obtain ⟨F, hF⟩ : ∃ z, within kf 1 255 = z := ⟨_, rfl⟩
      rw [hF] at bF
      have HVF := Lib.hid hF
      clear hF
      have bT := within_bd kt 0 255 (by omega)
      obtain ⟨T, hT⟩ : ∃ z, within kt 0 255 = z := ⟨_, rfl⟩
      rw [hT] at bT
      have HVT := Lib.hid hT
      clear hT
      have bM := within_bd kl 2 4 (by omega)
      obtain ⟨M, hM⟩ : ∃ z, within kl 2 4 = z := ⟨_, rfl⟩
      rw [hM] at bM
      have HVM := Lib.hid hM
      clear hM
      have bA := within_bd ka 1 4 (by omega)
      obtain ⟨A, hA⟩ : ∃ z, within ka 1 4 = z := ⟨_, rfl⟩
      rw [hA] at bA
      have HVA := Lib.hid hA
      clear hA
      have bD := within_bd kk 1 6 (by omega)
      obtain ⟨D, hD⟩ : ∃ z, within kk 1 6 = z := ⟨_, rfl⟩
      rw [hD] at bD
      have HVD := Lib.hid hD
      clear hD
      have u1 : IntKind.wrap .u64 F = F := IntWalk.u64_in _ (by omega)
      have u2 : IntKind.wrap .u64 T = T := IntWalk.u64_in _ (by omega)
      go_wp2_with fail
      refine wp_region_plS (fun x => At x wr.heap.size [.int .i64 kf, .int .i64 kt, .int .i64 kl, .int .i64 ka, .int .i64 kk]) (fun w1 => At w1 wr.heap.size [.int .i64 kf, .int .i64 kt, .int .i64 kl, .int .i64 ka, .int .i64 kk] ∧ Below W.heap.size W w1 ∧ w1.ownsRow W.heap.size 49 5 (.slice va i vc) i (L.flatMap SinkV.cs) ∧ wr.heap.size + 1 ≤ w1.heap.size) ?ph6 (fun w1 h => h.1.drew) (.take 0 <| .take 1 <| .take 2 <| .take 3 <| .take 4 <| .take 5 <| .take 6 <| .take 7 <| .take 8 <| .take 9 <| .take 10 <| .take 11 <| .take 12 <| .take 13 <| .take 14 <| .take 15 <| .take 16 <| .take 17 <| .take 18 <| .doo 19 <| .doo 20 <| .take 21 <| .done) ?plL6 (by kernel_rfl) (by kernel_rfl) (by kernel_rfl) ?plH6 (by intro c a d v w; cases d <;> exact fun h => h) ?_
      case plH6 =>
        simp only [Pl.with, List.getElem?_toArray, List.getElem?_cons_zero, List.getElem?_cons_succ]
        try rfl
      case ph6 => exact ⟨At.new wr _ _, HBr.out.alloc hb2 _, HOr.out.alloc _, by simp⟩
      rintro w1 ⟨ha, hb1, ho1, hsz⟩
      have HA := Lib.hid ha
      have HB1 := Lib.hid hb1
      have HO1 := Lib.hid ho1
      have hsz1 : wr.heap.size < w1.heap.size := by omega
      clear ha hb1 ho1 hsz
      have q0 : ∀ x, At x wr.heap.size [.int .i64 kf, .int .i64 kt, .int .i64 kl, .int .i64 ka, .int .i64 kk] → x.cell? ⟨wr.heap.size, 0, none⟩ = some (.int .i64 kf) := fun x hx => hx.c 0 _ rfl
      have q1 : ∀ x, At x wr.heap.size [.int .i64 kf, .int .i64 kt, .int .i64 kl, .int .i64 ka, .int .i64 kk] → x.cell? ⟨wr.heap.size, 1, none⟩ = some (.int .i64 kt) := fun x hx => hx.c 1 _ rfl
      have q2 : ∀ x, At x wr.heap.size [.int .i64 kf, .int .i64 kt, .int .i64 kl, .int .i64 ka, .int .i64 kk] → x.cell? ⟨wr.heap.size, 2, none⟩ = some (.int .i64 kl) := fun x hx => hx.c 2 _ rfl
      have q3 : ∀ x, At x wr.heap.size [.int .i64 kf, .int .i64 kt, .int .i64 kl, .int .i64 ka, .int .i64 kk] → x.cell? ⟨wr.heap.size, 3, none⟩ = some (.int .i64 ka) := fun x hx => hx.c 3 _ rfl
      have q4 : ∀ x, At x wr.heap.size [.int .i64 kf, .int .i64 kt, .int .i64 kl, .int .i64 ka, .int .i64 kk] → x.cell? ⟨wr.heap.size, 4, none⟩ = some (.int .i64 kk) := fun x hx => hx.c 4 _ rfl
      iterate 3 (refine wpPl_take (v := ?_) (by rfl) (fun w' hS => ?_) ?_; rotate_left; (focus (go_simp; with_reducible rfl)); simp only [Act.put, List.setIfInBounds_toArray, List.set_cons_zero, List.set_cons_succ])
      (refine wpPl_call (v := .int .i64 F) (f := 16) (args := #[.int .i64 kf, .int .i64 1, .int .i64 255]) (by rfl) (fun w' hS => ?_) (fun w' hS => by rw [← HVF.out]; exact within_any _ _ _ _ (by omega) (by omega) (by omega)) ?_; (focus (go_simp; done)); simp only [Act.put, List.setIfInBounds_toArray, List.set_cons_zero, List.set_cons_succ])
      iterate 3 (refine wpPl_take (v := ?_) (by rfl) (fun w' hS => ?_) ?_; rotate_left; (focus (go_simp; with_reducible rfl)); simp only [Act.put, List.setIfInBounds_toArray, List.set_cons_zero, List.set_cons_succ])
      (refine wpPl_call (v := .int .i64 T) (f := 16) (args := #[.int .i64 kt, .int .i64 0, .int .i64 255]) (by rfl) (fun w' hS => ?_) (fun w' hS => by rw [← HVT.out]; exact within_any _ _ _ _ (by omega) (by omega) (by omega)) ?_; (focus (go_simp; done)); simp only [Act.put, List.setIfInBounds_toArray, List.set_cons_zero, List.set_cons_succ])
      iterate 3 (refine wpPl_take (v := ?_) (by rfl) (fun w' hS => ?_) ?_; rotate_left; (focus (go_simp; with_reducible rfl)); simp only [Act.put, List.setIfInBounds_toArray, List.set_cons_zero, List.set_cons_succ])
      (refine wpPl_call (v := .int .i64 M) (f := 16) (args := #[.int .i64 kl, .int .i64 2, .int .i64 4]) (by rfl) (fun w' hS => ?_) (fun w' hS => by rw [← HVM.out]; exact within_any _ _ _ _ (by omega) (by omega) (by omega)) ?_; (focus (go_simp; done)); simp only [Act.put, List.setIfInBounds_toArray, List.set_cons_zero, List.set_cons_succ])
      iterate 2 (refine wpPl_take (v := ?_) (by rfl) (fun w' hS => ?_) ?_; rotate_left; (focus (go_simp; with_reducible rfl)); simp only [Act.put, List.setIfInBounds_toArray, List.set_cons_zero, List.set_cons_succ])
      (refine wpPl_call (v := .int .i64 A) (f := 16) (args := #[.int .i64 ka, .int .i64 1, .int .i64 4]) (by rfl) (fun w' hS => ?_) (fun w' hS => by rw [← HVA.out]; exact within_any _ _ _ _ (by omega) (by omega) (by omega)) ?_; (focus (go_simp; done)); simp only [Act.put, List.setIfInBounds_toArray, List.set_cons_zero, List.set_cons_succ])
      iterate 2 (refine wpPl_take (v := ?_) (by rfl) (fun w' hS => ?_) ?_; rotate_left; (focus (go_simp; with_reducible rfl)); simp only [Act.put, List.setIfInBounds_toArray, List.set_cons_zero, List.set_cons_succ])
      (refine wpPl_call (v := .int .i64 D) (f := 16) (args := #[.int .i64 kk, .int .i64 1, .int .i64 6]) (by rfl) (fun w' hS => ?_) (fun w' hS => by rw [← HVD.out]; exact within_any _ _ _ _ (by omega) (by omega) (by omega)) ?_; (focus (go_simp; done)); simp only [Act.put, List.setIfInBounds_toArray, List.set_cons_zero, List.set_cons_succ])
      iterate 1 (refine wpPl_take (v := ?_) (by rfl) (fun w' hS => ?_) ?_; rotate_left; (focus (go_simp; with_reducible rfl)); simp only [Act.put, List.setIfInBounds_toArray, List.set_cons_zero, List.set_cons_succ])
      clear q0 q1 q2 q3 q4
      refine wpPl_do (by rfl) (fun K hK => ?_)
      go_wp2_with fail
      refine ⟨HA.out.drew.alloc _, ?_⟩
      refine wpPl_do (by rfl) (fun K hK => ?_)
      refine wp_append_own _ (.tmp 20) (.tmp 39) 26 rfl W.heap.size 49 i0 _ 5 40 Tryz.underlying26 HI.out.1 HI.out.2.1 HI.out.2.2.1 HI.out.2.2.2 rfl (by decide) (.slice va i vc) i (L.flatMap SinkV.cs) rfl (HO1.out.drew.alloc _) ⟨w1.heap.size, 0, none⟩ 1 1 [.int .u64 F, .int .u64 T, .int .i64 M, .int .i64 A, .int .i64 D] rfl rfl (row_cells _ _ _) (by simp [Value.oneCell']) (by unfold maxLen; omega) (by omega) (by simp; omega) ?_
      intro v' w5 hown5 hgrow5 _
      have HO5 := Lib.hid hown5
      have HB5 := Lib.hid ((HB1.out.drew.alloc (by simp; omega) _).grown hgrow5 (by simp; omega) (fun k hk => (HO1.out.lt k hk).1))
      have hS5 := (HA.out.drew.alloc _).grown hgrow5 (fun k hk => by have := (HOr.out.lt k hk).2; omega)
      clear hown5 hgrow5
      obtain ⟨g5, cap5, rfl, _⟩ := own_form HO5.out (by omega)
      refine hK _ _ ⟨hS5, ?_⟩
      simp only [Act.put, List.setIfInBounds_toArray, List.set_cons_zero, List.set_cons_succ]
      iterate 1 (refine wpPl_take (v := ?_) (by rfl) (fun w' hS => ?_) ?_; rotate_left; (focus (go_simp; with_reducible rfl)); simp only [Act.put, List.setIfInBounds_toArray, List.set_cons_zero, List.set_cons_succ])
      refine wpPl_done ?_
      go_wp2_with fail
      go_roundg (n - (i + 1))
      case measure => omega
      case rel =>
        refine ⟨i + 1, _, cap5, L ++ [⟨F, T, M, A, D⟩], by omega, rfl, rfl, by go_num, by simp [HLr.out], fun o ho => ?_, ?_, HB5.out⟩
        · rcases List.mem_append.1 ho with h | h
          · exact HBD.out o h
          · obtain rfl : o = ⟨F, T, M, A, D⟩ := by simpa using h
            exact ⟨bF.1, bF.2, bT.1, bT.2, bM.1, bM.2, bA.1, bA.2, bD.1, bD.2⟩
        · rw [List.flatMap_append]
          exact HO5.out
    · rcases (by have := HN3.out; omega : ¬ i < l.length ∨ (i < l.length ∧ ¬ i < 2)) with hx | ⟨hx, hx4⟩
      all_goals
        go_wp2_with fail
        go_ret
        have hl := HLr.out
        have hin : i = n := by omega
        refine ⟨_, L, rfl, ?_, by omega, HBD.out, HBr.out⟩
        rw [hl]
        exact HOr.out
end Go.Proofs.YtcanfmabkklidaaGreat
set_option linter.unusedSimpArgs false
set_option linter.unusedVariables false
set_option linter.unnecessarySimpa false
namespace Go.Proofs.YtcanfmabkklidaaGreat
open Go.RowKit

theorem res9 (w : World) (b : Nat) (v : Value) (B R Q : Int) (tmps : Array Value) (ht : tmps[2]?.getD undef = .pointer (some ⟨b, 0, none⟩)) (h : At w b [.int .i64 B, .int .i64 R, .int .i64 Q, v]) :
    (results Tryz.f9 tmps).run Tryz.prog w = .ok (.agg #[.int .i64 B, .int .i64 R, .int .i64 Q, v]) w := by
  have c0 := h.c 0 _ rfl
  have c1 := h.c 1 _ rfl
  have c2 := h.c 2 _ rfl
  have c3 := h.c 3 _ rfl
  simp only [results, Tryz.results9]
  simp [go_sem, ht, c0, c1, c2, c3]
set_option maxHeartbeats 2000000 in
set_option maxRecDepth 100000 in
theorem setup_any (W : World) (v : Value) (l : List KSinkV) (kb kr kq : Int) (h : IsR KSinkV.cs 5 W v l) :
    Calls Tryz.prog 9 #[.agg #[.int .i64 kb, .int .i64 kr, .int .i64 kq, v]] W fun e w' => ∃ (B R Q : Int) (v' : Value) (r : List SinkV), e = .returned (.agg #[.int .i64 B, .int .i64 R, .int .i64 Q, v']) ∧ w'.ownsRow W.heap.size 49 5 v' r.length (r.flatMap SinkV.cs) ∧ SetBd B R Q r ∧ Below W.heap.size W w' := by
  have HV := Lib.hid h
  obtain ⟨al, cl, rfl, hl1, hl2, bl, ol, hl3, hl4⟩ := h
  clear hl3 hl4
  have bB := within_bd kb 1 4 (by omega)
  obtain ⟨B, hB⟩ : ∃ z, within kb 1 4 = z := ⟨_, rfl⟩
  rw [hB] at bB
  have HVB := Lib.hid hB
  clear hB
  have bR := within_bd kr 1 8 (by omega)
  obtain ⟨R, hR⟩ : ∃ z, within kr 1 8 = z := ⟨_, rfl⟩
  rw [hR] at bR
  have HVR := Lib.hid hR
  clear hR
  have bQ := within_bd kq 0 30 (by omega)
  obtain ⟨Q, hQ⟩ : ∃ z, within kq 0 30 = z := ⟨_, rfl⟩
  rw [hQ] at bQ
  have HVQ := Lib.hid hQ
  clear hQ
  go_enter Tryz.func9, Tryz.ntmps9
  go_wp2_with fail
  refine wp_region_plS (fun x => At x W.heap.size [.int .i64 kb, .int .i64 kr, .int .i64 kq, .slice al l.length cl]) (fun w0 => At w0 W.heap.size [.int .i64 kb, .int .i64 kr, .int .i64 kq, .slice al l.length cl] ∧ At w0 (W.heap.size + 1) [.int .i64 0, .int .i64 0, .int .i64 0, .slice none 0 0] ∧ Below W.heap.size W w0 ∧ w0.heap.size = W.heap.size + 2) ?ph1 (fun w0 h => h.1.drew) (.take 0 <| .take 1 <| .take 2 <| .take 3 <| .take 4 <| .take 5 <| .take 6 <| .take 7 <| .take 8 <| .take 9 <| .take 10 <| .doo 11 <| .take 12 <| .doo 13 <| .done) ?plL1 (by kernel_rfl) (by kernel_rfl) (by kernel_rfl) ?plH1 (by intro c a d v w; cases d <;> exact fun h => h) ?_
  case plH1 =>
    simp only [Pl.with, List.getElem?_toArray, List.getElem?_cons_zero, List.getElem?_cons_succ]
    try rfl
  case ph1 => exact ⟨(At.new _ _ _).alloc _, At.newAt (by simp) _ _, bel_alloc (bel_alloc (Below.refl _ W) _) _, by simp⟩
  rintro w0 ⟨ha, hz, hb, hsz⟩
  have HA := Lib.hid ha
  have HZ := Lib.hid hz
  have HB := Lib.hid hb
  have HSZ := Lib.hid hsz
  clear ha hz hb hsz
  have q0 : ∀ x, At x W.heap.size [.int .i64 kb, .int .i64 kr, .int .i64 kq, .slice al l.length cl] → x.cell? ⟨W.heap.size, 0, none⟩ = some (.int .i64 kb) := fun x hx => hx.c 0 _ rfl
  have q1 : ∀ x, At x W.heap.size [.int .i64 kb, .int .i64 kr, .int .i64 kq, .slice al l.length cl] → x.cell? ⟨W.heap.size, 1, none⟩ = some (.int .i64 kr) := fun x hx => hx.c 1 _ rfl
  have q2 : ∀ x, At x W.heap.size [.int .i64 kb, .int .i64 kr, .int .i64 kq, .slice al l.length cl] → x.cell? ⟨W.heap.size, 2, none⟩ = some (.int .i64 kq) := fun x hx => hx.c 2 _ rfl
  have q3 : ∀ x, At x W.heap.size [.int .i64 kb, .int .i64 kr, .int .i64 kq, .slice al l.length cl] → x.cell? ⟨W.heap.size, 3, none⟩ = some (.slice al l.length cl) := fun x hx => hx.c 3 _ rfl
  iterate 2 (refine wpPl_take (v := ?_) (by rfl) (fun w' hS => ?_) ?_; rotate_left; (focus (go_simp; with_reducible rfl)); simp only [Act.put, List.setIfInBounds_toArray, List.set_cons_zero, List.set_cons_succ])
  (refine wpPl_call (v := .int .i64 B) (f := 16) (args := #[.int .i64 kb, .int .i64 1, .int .i64 4]) (by rfl) (fun w' hS => ?_) (fun w' hS => by rw [← HVB.out]; exact within_any _ _ _ _ (by omega) (by omega) (by omega)) ?_; (focus (go_simp; done)); simp only [Act.put, List.setIfInBounds_toArray, List.set_cons_zero, List.set_cons_succ])
  iterate 2 (refine wpPl_take (v := ?_) (by rfl) (fun w' hS => ?_) ?_; rotate_left; (focus (go_simp; with_reducible rfl)); simp only [Act.put, List.setIfInBounds_toArray, List.set_cons_zero, List.set_cons_succ])
  (refine wpPl_call (v := .int .i64 R) (f := 16) (args := #[.int .i64 kr, .int .i64 1, .int .i64 8]) (by rfl) (fun w' hS => ?_) (fun w' hS => by rw [← HVR.out]; exact within_any _ _ _ _ (by omega) (by omega) (by omega)) ?_; (focus (go_simp; done)); simp only [Act.put, List.setIfInBounds_toArray, List.set_cons_zero, List.set_cons_succ])
  iterate 2 (refine wpPl_take (v := ?_) (by rfl) (fun w' hS => ?_) ?_; rotate_left; (focus (go_simp; with_reducible rfl)); simp only [Act.put, List.setIfInBounds_toArray, List.set_cons_zero, List.set_cons_succ])
  (refine wpPl_call (v := .int .i64 Q) (f := 16) (args := #[.int .i64 kq, .int .i64 0, .int .i64 30]) (by rfl) (fun w' hS => ?_) (fun w' hS => by rw [← HVQ.out]; exact within_any _ _ _ _ (by omega) (by omega) (by omega)) ?_; (focus (go_simp; done)); simp only [Act.put, List.setIfInBounds_toArray, List.set_cons_zero, List.set_cons_succ])
  iterate 2 (refine wpPl_take (v := ?_) (by rfl) (fun w' hS => ?_) ?_; rotate_left; (focus (go_simp; with_reducible rfl)); simp only [Act.put, List.setIfInBounds_toArray, List.set_cons_zero, List.set_cons_succ])
  clear q0 q1 q2 q3
  refine wpPl_do (by rfl) (fun K hK => ?_)
  go_wp2_with (go_at_call 21; (with_reducible refine (sinks_any _ _ l (HV.out.kept HB.out).drew).mono ?_); rintro e w1 ⟨v', r, rfl, ho, hlr, hbd, hb1⟩; have HO := Lib.hid ho; have HLR := Lib.hid hlr; have HBD := Lib.hid hbd; have HB1 := Lib.hid hb1; have HA1 := Lib.hid (HA.out.drew.below hb1); have HZ1 := Lib.hid (HZ.out.drew.below hb1); obtain ⟨pa, pl, rfl⟩ := own_shape2 ho; clear ho hlr hbd hb1)
  refine ⟨HA1.out, ?_⟩
  iterate 1 (refine wpPl_take (v := ?_) (by rfl) (fun w' hS => ?_) ?_; rotate_left; (focus (go_simp; with_reducible rfl)); simp only [Act.put, List.setIfInBounds_toArray, List.set_cons_zero, List.set_cons_succ])
  refine wpPl_do (by rfl) (fun K hK => ?_)
  have z0 := HZ1.out.c 0 _ rfl
  have z1 := HZ1.out.c 1 _ rfl
  have z2 := HZ1.out.c 2 _ rfl
  have z3 := HZ1.out.c 3 _ rfl
  have f0 := HZ1.out.f 0
  have f1 := HZ1.out.f 1
  have f2 := HZ1.out.f 2
  have f3 := HZ1.out.f 3
  have lz := HZ1.out.lt
  go_wp2_with fail
  obtain ⟨w2, hw2⟩ : ∃ w2, w2 = ((((w1.setCell ⟨W.heap.size + 1, 0, none⟩ (.int .i64 B)).setCell ⟨W.heap.size + 1, 1, none⟩ (.int .i64 R)).setCell ⟨W.heap.size + 1, 2, none⟩ (.int .i64 Q)).setCell ⟨W.heap.size + 1, 3, none⟩ (.slice pa r.length pl)) := ⟨_, rfl⟩
  have hm2 : Mod [W.heap.size + 1] w1 w2 := by rw [hw2]; exact ((((Mod.refl _ _).set _ _ _ (.inl (by simp))).set _ _ _ (.inl (by simp))).set _ _ _ (.inl (by simp))).set _ _ _ (.inl (by simp))
  have ha2 : At w2 (W.heap.size + 1) [.int .i64 B, .int .i64 R, .int .i64 Q, .slice pa r.length pl] := by
    rw [hw2]
    have h0 : At _ (W.heap.size + 1) [.int .i64 B, .int .i64 0, .int .i64 0, .slice none 0 0] := HZ1.out.set 0 (.int .i64 B) (by simp)
    have h1 : At _ (W.heap.size + 1) [.int .i64 B, .int .i64 R, .int .i64 0, .slice none 0 0] := h0.set 1 (.int .i64 R) (by simp)
    have h2 : At _ (W.heap.size + 1) [.int .i64 B, .int .i64 R, .int .i64 Q, .slice none 0 0] := h1.set 2 (.int .i64 Q) (by simp)
    exact h2.set 3 _ (by simp)
  rw [← hw2]
  refine ⟨HA1.out.mod hm2 (by simp), ?_⟩
  refine wpPl_done ?_
  go_wp2_with fail
  refine bodyPost_ret (res9 _ (W.heap.size + 1) (.slice pa r.length pl) B R Q _ rfl ha2) rfl ?_
  have hs0 := HSZ.out
  have hle := HLR.out
  have hb1 := below_step HB.out.drew HB1.out
  exact ⟨B, R, Q, _, r, rfl, ownsRow_base (own_of_block HO.out (fun x hx => hm2.block x (own_lt HO.out x hx) (by have := own_new HO.out x hx; simp at this ⊢; omega))) (by simp; omega), ⟨bB.1, bB.2, bR.1, bR.2, bQ.1, by omega, by omega, HBD.out⟩, hm2.belowB hb1 hb1.size (by simp)⟩
end Go.Proofs.YtcanfmabkklidaaGreat
set_option linter.unusedSimpArgs false
set_option linter.unusedVariables false
set_option linter.unnecessarySimpa false
namespace Go.Proofs.YtcanfmabkklidaaGreat
open Go.RowKit

theorem cutL_32 {α : Type} (l : List α) (f : Nat) (hf : f ≤ l.length) : cutL l (f : Int) 32 = (l.drop f).take 32 := by
  have h1 : cutOk l (f : Int) = true := by simp [cutOk]; omega
  unfold cutL
  rw [if_pos h1]
  have h2 : (f : Int).toNat = f := by omega
  rw [h2]
  have h3 : (max 0 (min (min (32 : Int) 32) ((l.length : Int) - f))).toNat = min 32 (l.length - f) := by omega
  rw [h3]
  have h4 : (l.drop f).length = l.length - f := List.length_drop
  rcases Nat.le_total 32 (l.length - f) with h | h
  · rw [Nat.min_eq_left h]
  · rw [Nat.min_eq_right h, List.take_of_length_le (by omega), List.take_of_length_le (by omega)]
theorem acts_one (w : World) (a : ActV) (F : List Nat) (hF : ∀ x ∈ F, x < w.heap.size) (hb : ActBd7 a) (h1 : a.pipe.ops = .slice none 0 0) (h2 : a.pipe.ol = []) : ActsIn (w.alloc (.cells a.cs.toArray 43)) (.slice (some ⟨w.heap.size, 0, none⟩) 1 1) [a] F := by
  refine ⟨⟨[w.heap.size], ⟨_, 1, rfl, by simp, by unfold maxLen; simp, .inr ⟨w.heap.size, 0, rfl, rfl, by simp, fun i x hi j u hj => ?_⟩⟩, fun x hx hh => ?_⟩, fun x hx => ?_⟩
  · match i, hi with
    | 0, hi =>
      obtain rfl : a = x := by simpa using hi
      refine cell_new _ _ _ _ _ _ rfl ?_
      simpa using hj
  · have := hF x hh
    obtain rfl : x = w.heap.size := by simpa using hx
    omega
  · obtain rfl : x = a := by simpa using hx
    exact ⟨hb, [], by rw [h1, h2]; exact RdR.nil _ _ _, by simp⟩
/-- the one answer of one act -/
theorem DosAt.one {w : World} {b : Nat} {S : List Nat} {c : CoreV} {lm : List ActM} {e : Ending} {w' : World} (h : DosAt w b S c lm e w') {a : AnsM} (ha : (c.acts lm).2 = [a]) :
    ∃ g cap ra rc ta tc S2, e = .returned (.slice (some ⟨g, 0, none⟩) 1 cap) ∧ w.heap.size ≤ g ∧ g < w'.heap.size ∧ 1 ≤ cap ∧ cap ≤ maxLen ∧ w'.cell? ⟨g, 0, none⟩ = some (.int .i64 a.err) ∧ w'.cell? ⟨g, 1, none⟩ = some (.slice ra a.rows.length rc) ∧ w'.cell? ⟨g, 2, none⟩ = some (.slice ta a.told.length tc) ∧
      w'.ownsRow w.heap.size 64 5 (.slice ra a.rows.length rc) a.rows.length (a.rows.flatMap RowV.cs) ∧ w'.ownsRow w.heap.size 52 4 (.slice ta a.told.length tc) a.told.length (a.told.flatMap RelV.cs) ∧
      CoreAt w' b S2 (c.acts lm).1 ∧ Into S2 S w.heap.size ∧ Mod S w w' ∧ (∀ x ∈ (Value.slice ra a.rows.length rc).ownBlock.toList, x ∉ S2) ∧ (∀ x ∈ (Value.slice ta a.told.length tc).ownBlock.toList, x ∉ S2) ∧ g ∉ S2 := by
  obtain ⟨⟨v1, LA, S2, rfl, ho1, hm1, hao, hc1, hi1, hd1, hd2⟩, hmm⟩ := h
  rw [ha] at hm1
  match LA, hm1 with
  | [x], hm1 =>
    simp only [List.map_cons, List.map_nil, List.cons.injEq, and_true] at hm1
    subst hm1
    have hoa := hao x (by simp)
    obtain ⟨g1, cap1, hv, hg1, hgl1, hcp1, hcm1, hcs1⟩ := own_form ho1 (by simp)
    obtain ⟨ra, rc, er⟩ := own_shape2 hoa.r
    obtain ⟨ta, tc, et⟩ := own_shape2 hoa.t
    have hb := hd1 x (by simp)
    have e0 := hcs1 0 _ rfl
    have e1 := hcs1 1 _ rfl
    have e2 := hcs1 2 _ rfl
    have hr := hoa.r
    have ht := hoa.t
    unfold AnsV.bl at hb
    rw [er] at e1 hr hb
    rw [et] at e2 ht hb
    refine ⟨g1, cap1, ra, rc, ta, tc, S2, by rw [hv]; rfl, hg1, hgl1, hcp1, hcm1, e0, e1, e2, hr, ht, hc1, hi1, hmm, fun y hy => hb y (List.mem_append_left _ hy), fun y hy => hb y (List.mem_append_right _ hy), hd2 g1 (by rw [hv]; simp [Value.ownBlock])⟩
/-- all rows of a tenant -/
def rowsV (c : CoreV) (t : Nat) : List RowV := match c.cells t with | some x => x.rows | none => []
theorem act_told (c : CoreV) (t : Nat) (f n : Int) : (c.acts [ActV.m ⟨5, (t : Int), f, n, ⟨.slice none 0 0, [], 0, 0, 0, 0, 0⟩, false, 0, 0, 0, 0⟩]).1 = c ∧ ∃ a : AnsM, (c.acts [ActV.m ⟨5, (t : Int), f, n, ⟨.slice none 0 0, [], 0, 0, 0, 0, 0⟩, false, 0, 0, 0, 0⟩]).2 = [a] ∧ a.told = cutL (c.board t) f n := by
  simp [CoreV.acts, CoreV.act, ActV.m]
theorem act_rows (c : CoreV) (t : Nat) (f n : Int) : (c.acts [ActV.m ⟨4, (t : Int), f, n, ⟨.slice none 0 0, [], 0, 0, 0, 0, 0⟩, false, 0, 0, 0, 0⟩]).1 = c ∧ ∃ a : AnsM, (c.acts [ActV.m ⟨4, (t : Int), f, n, ⟨.slice none 0 0, [], 0, 0, 0, 0, 0⟩, false, 0, 0, 0, 0⟩]).2 = [a] ∧ a.rows = cutL (rowsV c t) f n := by
  cases h : c.cells t with
  | none => simp [CoreV.acts, CoreV.act, ActV.m, h, rowsV, cutL]
  | some x => simp [CoreV.acts, CoreV.act, ActV.m, h, rowsV]
theorem one_ans {α : Type} {L : List AnsV} {m : List AnsM} (h : L.map AnsV.m = m) {g : AnsM → α} {x : α} (hm : ∃ a, m = [a] ∧ g a = x) : ∃ a, L = [a] ∧ g a.m = x := by
  obtain ⟨a, rfl, hx⟩ := hm
  match L, h with
  | [y], h =>
    simp only [List.map_cons, List.map_nil, List.cons.injEq, and_true] at h
    exact ⟨y, rfl, by rw [h]; exact hx⟩

set_option maxHeartbeats 2000000 in
set_option maxRecDepth 100000 in
theorem told_all (b : Nat) (S : List Nat) (c : CoreV) (N : Nat) (t : Nat) (ht : t ≤ 7) (hq0 : 0 ≤ c.quota) (hq1 : c.quota ≤ 1000) (w : World) (h : CoreAt w b S c) (ok : CoreOk c N) (hN : N + 6 ≤ 100000) (hl : (c.board t).length ≤ 640) :
    Calls Tryz.prog 13 #[.pointer (some ⟨b, 0, none⟩), .int .i64 t] w fun e w' => ∃ (v : Value) (S' : List Nat), e = .returned v ∧ w'.ownsRow w.heap.size 52 4 v (c.board t).length ((c.board t).flatMap RelV.cs) ∧ CoreAt w' b S' c ∧ Into S' S w.heap.size ∧ (∀ x ∈ v.ownBlock.toList, x ∉ S') ∧ Mod S w w' := by
  obtain ⟨l, hle⟩ : ∃ l, l = c.board t := ⟨_, rfl⟩
  rw [← hle] at hl ⊢
  have HLE := Lib.hid hle
  have HC0 := Lib.hid h
  have HOK := Lib.hid ok
  have HQ := Lib.hid (And.intro hq0 hq1)
  obtain ⟨i0, hi3, hz0, hz1, hz2⟩ := info_parts info52
  have HI := Lib.hid (And.intro hi3 (And.intro hz0 (And.intro hz1 hz2)))
  have hwl := h.lt
  clear hi3 hz0 hz1 hz2 h ok hq0 hq1 hle
  go_enter Tryz.func13, Tryz.ntmps13
  go_wp2
  go_loopg [5, 7] 20 (fun g v5 v7 wr => ∃ (k : Nat) (va : Option Addr) (vc : Nat) (L : List RelV) (S' : List Nat), k ≤ 20 ∧ g = 20 - k ∧ v5 = .slice va L.length vc ∧ v7 = .int .i64 k ∧ L = l.take (32 * k) ∧ CoreAt wr b S' c ∧ wr.ownsRow w.heap.size 52 4 (.slice va L.length vc) L.length (L.flatMap RelV.cs) ∧ (∀ x ∈ (Value.slice va L.length vc).ownBlock.toList, x ∉ S') ∧ Into S' S w.heap.size ∧ Mod S w wr)
  case atStart => exact ⟨0, none, 0, [], S, by omega, by omega, rfl, rfl, rfl, HC0.out, World.ownsRow_nil _ _ _ _, by simp [Value.ownBlock], Into.refl _ _, Mod.refl _ _⟩
  case round =>
    obtain ⟨k, va, vc, L, S', hk, rfl, rfl, rfl, hL, hcr, hor, hvd, hir, hmr⟩ := hrel
    have HLr := Lib.hid hL
    have hLl : L.length ≤ l.length := by rw [hL, List.length_take]; omega
    have HCR := Lib.hid hcr
    have HOR := Lib.hid hor
    have HVD := Lib.hid hvd
    have HIR := Lib.hid hir
    have HMR := Lib.hid hmr
    have hb2 : w.heap.size ≤ wr.heap.size := hmr.size
    clear hL hcr hor hvd hir hmr
    by_cases hlt : k < 20
    · have HAI := Lib.hid (acts_one wr ⟨5, (t : Int), (L.length : Int), 32, ⟨.slice none 0 0, [], 0, 0, 0, 0, 0⟩, false, 0, 0, 0, 0⟩ S' HCR.out.lt ⟨by simp, by simp, by simp, by simp; omega, by simp⟩ rfl rfl)
      obtain ⟨hac1, am, hac2, hac3⟩ := act_told c t L.length 32
      have HDO := Lib.hid (show Calls Tryz.prog 12 #[.pointer (some ⟨b, 0, none⟩), .slice (some ⟨wr.heap.size, 0, none⟩) 1 1] (wr.alloc (.cells #[.int .i64 5, .int .i64 t, .int .i64 (L.length : Int), .int .i64 32, .slice none 0 0, .int .i64 0, .int .i64 0, .int .i64 0, .int .i64 0, .int .i64 0, .bool false, .int .i64 0, .int .i64 0, .int .i64 0, .int .u64 0] 43)) (DosAt (wr.alloc (.cells #[.int .i64 5, .int .i64 t, .int .i64 (L.length : Int), .int .i64 32, .slice none 0 0, .int .i64 0, .int .i64 0, .int .i64 0, .int .i64 0, .int .i64 0, .bool false, .int .i64 0, .int .i64 0, .int .i64 0, .int .u64 0] 43)) b S' c [ActV.m ⟨5, (t : Int), (L.length : Int), 32, ⟨.slice none 0 0, [], 0, 0, 0, 0, 0⟩, false, 0, 0, 0, 0⟩]) from dos_at b S' c N _ [⟨5, (t : Int), (L.length : Int), 32, ⟨.slice none 0 0, [], 0, 0, 0, 0, 0⟩, false, 0, 0, 0, 0⟩] HQ.out.1 HQ.out.2 _ (HCR.out.below (bel_alloc (Below.refl _ _) _)) HAI.out HOK.out (by simp; omega))
      rw [← HLE.out, cutL_32 l _ hLl] at hac3
      have HA1 := Lib.hid hac1
      have HA2 := Lib.hid hac2
      obtain ⟨aer, arl, atl⟩ := am
      simp only at hac3
      subst hac3
      obtain ⟨tl, htl⟩ : ∃ tl, tl = (l.drop L.length).take 32 := ⟨_, rfl⟩
      have htl3 : tl.length ≤ 32 := by rw [htl, List.length_take]; omega
      have HTL := Lib.hid htl
      rw [← htl] at HA2
      clear hac1 hac2 htl
      by_cases hnil : tl.length = 0
      · go_wp2_with (go_at_call 12; (with_reducible refine HDO.out.mono ?_); rintro e w1 hdo; obtain ⟨g1, cap1, ra, rc, ta, tc, S2, rfl, hg1, hgl1, hcp1, hcm1, e0, e1, e2, hr1, ht1, hc1, hi1, hmm, hbr, hbt, hgs⟩ := hdo.one HA2.out; simp only at e0 e1 e2 hr1 ht1; rw [HA1.out] at hc1; have HC1 := Lib.hid hc1; have HI1 := Lib.hid hi1; have HM1 := Lib.hid hmm; have HT1 := Lib.hid ht1; have HOR1 := Lib.hid (own_mod (HOR.out.alloc _) hmm HVD.out); have hs1 := hmm.size; simp at hs1; clear hdo hr1 ht1 hc1 hi1 hmm hbr hbt hgs)
        go_ret
        have hfull : L = l := by
          have h0 : tl = [] := List.eq_nil_of_length_eq_zero hnil
          have h1 := HTL.out
          rw [h0] at h1
          have h2 : ((l.drop L.length).take 32).length = 0 := by rw [← h1]; rfl
          rw [List.length_take, List.length_drop] at h2
          have h3 : L.length = min (32 * k) l.length := by rw [HLr.out, List.length_take]
          rw [HLr.out]
          exact List.take_of_length_le (by omega)
        clear HLr HTL
        subst hfull
        exact ⟨_, S2, rfl, HOR1.out, HC1.out, HIR.out.trans HI1.out (by simp; omega), fun x hx => into_not HI1.out (by have := own_lt HOR.out x hx; simp; omega) (HVD.out x hx), (HMR.out.new _).trans HM1.out HIR.out⟩
      · have hn1 : ((tl.length : Int) == 0) = false := beq_eq_false_iff_ne.2 (by omega)
        have hn2 : ¬ (32 < (tl.length : Int)) := by omega
        have hn3 : ¬ ((tl.length : Int) = 0) := by omega
        go_wp2_with (first
          | (go_at_call 12; (with_reducible refine HDO.out.mono ?_); rintro e w1 hdo; obtain ⟨g1, cap1, ra, rc, ta, tc, S2, rfl, hg1, hgl1, hcp1, hcm1, e0, e1, e2, hr1, ht1, hc1, hi1, hmm, hbr, hbt, hgs⟩ := hdo.one HA2.out; simp only at e0 e1 e2 hr1 ht1; rw [HA1.out] at hc1; have HC1 := Lib.hid hc1; have HI1 := Lib.hid hi1; have HM1 := Lib.hid hmm; have HT1 := Lib.hid ht1; have HOR1 := Lib.hid (own_mod (HOR.out.alloc _) hmm HVD.out); have hs1 := hmm.size; simp at hs1; clear hdo hr1 ht1 hc1 hi1 hmm hbr hbt hgs)
          | (at_builtin; refine wpList_append_rdr_at rfl (.tmp 35) (.tmp 39) 46 rfl w.heap.size 52 i0 _ 4 32 Tryz.underlying46 HI.out.1 HI.out.2.1 HI.out.2.2.1 HI.out.2.2.2 rfl (by decide) (by decide) (fun _ => rfl) RelV.one (.slice va L.length vc) L rfl HOR1.out (.slice ta tl.length tc) tl _ rfl (RdR.of_own (cs := RelV.cs) (k := 4) (fun _ => rfl) HT1.out) (by omega) (by omega) ?_; intro v2 w2 hown2 hgrow2 hat2; have HO2 := Lib.hid hown2; have HG2 := Lib.hid hgrow2; have HT2 := Lib.hid hat2; obtain ⟨ta2, tc2, rfl⟩ := own_shape2 hown2; clear hown2 hgrow2 hat2))
        go_roundg (20 - (k + 1))
        case measure => omega
        case rel =>
          have hvd2 : ∀ x ∈ (Value.slice va L.length vc).ownBlock.toList, x ∉ S2 := fun x hx => into_not HI1.out (by have := own_lt HOR.out x hx; simp; omega) (HVD.out x hx)
          have hm2 := Mod.of_grown HG2.out (Value.slice va L.length vc).ownBlock.toList (fun k hk => .inl (by simpa using hk))
          have hcl := HC1.out.lt
          refine ⟨k + 1, _, _, L ++ tl, S2, by omega, rfl, by rw [List.length_append], by go_num, ?_, HC1.out.apart hm2 hvd2, HO2.out, app_block (n := 0) HT2.out hvd2 (fun hh => by have := hcl _ hh; omega), HIR.out.trans HI1.out (by simp; omega), ((HMR.out.new _).trans HM1.out HIR.out).grow HG2.out (fun x hx => .inr (own_new HOR.out x (by simpa using hx)))⟩
          have h1 := HTL.out
          have h2 : tl.length = min 32 (l.length - L.length) := by rw [h1, List.length_take, List.length_drop]
          have h3 : L.length = min (32 * k) l.length := by rw [HLr.out, List.length_take]
          have h4 : L.length = 32 * k := by omega
          rw [h1, h4, show 32 * (k + 1) = 32 * k + 32 by omega, List.take_add]
          exact congrArg (· ++ _) HLr.out
    · obtain rfl : k = 20 := by omega
      have hfull : L = l := by rw [HLr.out]; exact List.take_of_length_le (by omega)
      go_wp2
      go_ret
      subst hfull
      exact ⟨_, S', rfl, HOR.out, HCR.out, HIR.out, HVD.out, HMR.out⟩

set_option maxHeartbeats 2000000 in
set_option maxRecDepth 100000 in
theorem rowsall_any (b : Nat) (S : List Nat) (c : CoreV) (N : Nat) (t : Nat) (ht : t ≤ 7) (hq0 : 0 ≤ c.quota) (hq1 : c.quota ≤ 1000) (w : World) (h : CoreAt w b S c) (ok : CoreOk c N) (hN : N + 6 ≤ 100000) (hl : (rowsV c t).length ≤ 6400) :
    Calls Tryz.prog 19 #[.pointer (some ⟨b, 0, none⟩), .int .i64 t] w fun e w' => ∃ (v : Value) (S' : List Nat), e = .returned v ∧ w'.ownsRow w.heap.size 64 5 v (rowsV c t).length ((rowsV c t).flatMap RowV.cs) ∧ CoreAt w' b S' c ∧ Into S' S w.heap.size ∧ (∀ x ∈ v.ownBlock.toList, x ∉ S') ∧ Mod S w w' := by
  obtain ⟨l, hle⟩ : ∃ l, l = rowsV c t := ⟨_, rfl⟩
  rw [← hle] at hl ⊢
  have HLE := Lib.hid hle
  have HC0 := Lib.hid h
  have HOK := Lib.hid ok
  have HQ := Lib.hid (And.intro hq0 hq1)
  obtain ⟨i0, hi3, hz0, hz1, hz2⟩ := info_parts info64
  have HI := Lib.hid (And.intro hi3 (And.intro hz0 (And.intro hz1 hz2)))
  have hwl := h.lt
  clear hi3 hz0 hz1 hz2 h ok hq0 hq1 hle
  go_enter Tryz.func19, Tryz.ntmps19
  go_wp2
  go_loopg [5, 7] 200 (fun g v5 v7 wr => ∃ (k : Nat) (va : Option Addr) (vc : Nat) (L : List RowV) (S' : List Nat), k ≤ 200 ∧ g = 200 - k ∧ v5 = .slice va L.length vc ∧ v7 = .int .i64 k ∧ L = l.take (32 * k) ∧ CoreAt wr b S' c ∧ wr.ownsRow w.heap.size 64 5 (.slice va L.length vc) L.length (L.flatMap RowV.cs) ∧ (∀ x ∈ (Value.slice va L.length vc).ownBlock.toList, x ∉ S') ∧ Into S' S w.heap.size ∧ Mod S w wr)
  case atStart => exact ⟨0, none, 0, [], S, by omega, by omega, rfl, rfl, rfl, HC0.out, World.ownsRow_nil _ _ _ _, by simp [Value.ownBlock], Into.refl _ _, Mod.refl _ _⟩
  case round =>
    obtain ⟨k, va, vc, L, S', hk, rfl, rfl, rfl, hL, hcr, hor, hvd, hir, hmr⟩ := hrel
    have HLr := Lib.hid hL
    have hLl : L.length ≤ l.length := by rw [hL, List.length_take]; omega
    have HCR := Lib.hid hcr
    have HOR := Lib.hid hor
    have HVD := Lib.hid hvd
    have HIR := Lib.hid hir
    have HMR := Lib.hid hmr
    have hb2 : w.heap.size ≤ wr.heap.size := hmr.size
    clear hL hcr hor hvd hir hmr
    by_cases hlt : k < 200
    · have HAI := Lib.hid (acts_one wr ⟨4, (t : Int), (L.length : Int), 32, ⟨.slice none 0 0, [], 0, 0, 0, 0, 0⟩, false, 0, 0, 0, 0⟩ S' HCR.out.lt ⟨by simp, by simp, by simp, by simp; omega, by simp⟩ rfl rfl)
      obtain ⟨hac1, am, hac2, hac3⟩ := act_rows c t L.length 32
      have HDO := Lib.hid (show Calls Tryz.prog 12 #[.pointer (some ⟨b, 0, none⟩), .slice (some ⟨wr.heap.size, 0, none⟩) 1 1] (wr.alloc (.cells #[.int .i64 4, .int .i64 t, .int .i64 (L.length : Int), .int .i64 32, .slice none 0 0, .int .i64 0, .int .i64 0, .int .i64 0, .int .i64 0, .int .i64 0, .bool false, .int .i64 0, .int .i64 0, .int .i64 0, .int .u64 0] 43)) (DosAt (wr.alloc (.cells #[.int .i64 4, .int .i64 t, .int .i64 (L.length : Int), .int .i64 32, .slice none 0 0, .int .i64 0, .int .i64 0, .int .i64 0, .int .i64 0, .int .i64 0, .bool false, .int .i64 0, .int .i64 0, .int .i64 0, .int .u64 0] 43)) b S' c [ActV.m ⟨4, (t : Int), (L.length : Int), 32, ⟨.slice none 0 0, [], 0, 0, 0, 0, 0⟩, false, 0, 0, 0, 0⟩]) from dos_at b S' c N _ [⟨4, (t : Int), (L.length : Int), 32, ⟨.slice none 0 0, [], 0, 0, 0, 0, 0⟩, false, 0, 0, 0, 0⟩] HQ.out.1 HQ.out.2 _ (HCR.out.below (bel_alloc (Below.refl _ _) _)) HAI.out HOK.out (by simp; omega))
      rw [← HLE.out, cutL_32 l _ hLl] at hac3
      have HA1 := Lib.hid hac1
      have HA2 := Lib.hid hac2
      obtain ⟨aer, arl, atl⟩ := am
      simp only at hac3
      subst hac3
      obtain ⟨tl, htl⟩ : ∃ tl, tl = (l.drop L.length).take 32 := ⟨_, rfl⟩
      have htl3 : tl.length ≤ 32 := by rw [htl, List.length_take]; omega
      have HTL := Lib.hid htl
      rw [← htl] at HA2
      clear hac1 hac2 htl
      by_cases hnil : tl.length = 0
      · go_wp2_with (go_at_call 12; (with_reducible refine HDO.out.mono ?_); rintro e w1 hdo; obtain ⟨g1, cap1, ra, rc, ta, tc, S2, rfl, hg1, hgl1, hcp1, hcm1, e0, e1, e2, hr1, ht1, hc1, hi1, hmm, hbr, hbt, hgs⟩ := hdo.one HA2.out; simp only at e0 e1 e2 hr1 ht1; rw [HA1.out] at hc1; have HC1 := Lib.hid hc1; have HI1 := Lib.hid hi1; have HM1 := Lib.hid hmm; have HT1 := Lib.hid hr1; have HOR1 := Lib.hid (own_mod (HOR.out.alloc _) hmm HVD.out); have hs1 := hmm.size; simp at hs1; clear hdo hr1 ht1 hc1 hi1 hmm hbr hbt hgs)
        go_ret
        have hfull : L = l := by
          have h0 : tl = [] := List.eq_nil_of_length_eq_zero hnil
          have h1 := HTL.out
          rw [h0] at h1
          have h2 : ((l.drop L.length).take 32).length = 0 := by rw [← h1]; rfl
          rw [List.length_take, List.length_drop] at h2
          have h3 : L.length = min (32 * k) l.length := by rw [HLr.out, List.length_take]
          rw [HLr.out]
          exact List.take_of_length_le (by omega)
        clear HLr HTL
        subst hfull
        exact ⟨_, S2, rfl, HOR1.out, HC1.out, HIR.out.trans HI1.out (by simp; omega), fun x hx => into_not HI1.out (by have := own_lt HOR.out x hx; simp; omega) (HVD.out x hx), (HMR.out.new _).trans HM1.out HIR.out⟩
      · have hn1 : ((tl.length : Int) == 0) = false := beq_eq_false_iff_ne.2 (by omega)
        have hn2 : ¬ (32 < (tl.length : Int)) := by omega
        have hn3 : ¬ ((tl.length : Int) = 0) := by omega
        go_wp2_with (first
          | (go_at_call 12; (with_reducible refine HDO.out.mono ?_); rintro e w1 hdo; obtain ⟨g1, cap1, ra, rc, ta, tc, S2, rfl, hg1, hgl1, hcp1, hcm1, e0, e1, e2, hr1, ht1, hc1, hi1, hmm, hbr, hbt, hgs⟩ := hdo.one HA2.out; simp only at e0 e1 e2 hr1 ht1; rw [HA1.out] at hc1; have HC1 := Lib.hid hc1; have HI1 := Lib.hid hi1; have HM1 := Lib.hid hmm; have HT1 := Lib.hid hr1; have HOR1 := Lib.hid (own_mod (HOR.out.alloc _) hmm HVD.out); have hs1 := hmm.size; simp at hs1; clear hdo hr1 ht1 hc1 hi1 hmm hbr hbt hgs)
          | (at_builtin; refine wpList_append_rdr_at rfl (.tmp 35) (.tmp 39) 59 rfl w.heap.size 64 i0 _ 5 40 Tryz.underlying59 HI.out.1 HI.out.2.1 HI.out.2.2.1 HI.out.2.2.2 rfl (by decide) (by decide) (fun _ => rfl) RowV.one (.slice va L.length vc) L rfl HOR1.out (.slice ra tl.length rc) tl _ rfl (RdR.of_own (cs := RowV.cs) (k := 5) (fun _ => rfl) HT1.out) (by omega) (by omega) ?_; intro v2 w2 hown2 hgrow2 hat2; have HO2 := Lib.hid hown2; have HG2 := Lib.hid hgrow2; have HT2 := Lib.hid hat2; obtain ⟨ta2, tc2, rfl⟩ := own_shape2 hown2; clear hown2 hgrow2 hat2))
        go_roundg (200 - (k + 1))
        case measure => omega
        case rel =>
          have hvd2 : ∀ x ∈ (Value.slice va L.length vc).ownBlock.toList, x ∉ S2 := fun x hx => into_not HI1.out (by have := own_lt HOR.out x hx; simp; omega) (HVD.out x hx)
          have hm2 := Mod.of_grown HG2.out (Value.slice va L.length vc).ownBlock.toList (fun k hk => .inl (by simpa using hk))
          have hcl := HC1.out.lt
          refine ⟨k + 1, _, _, L ++ tl, S2, by omega, rfl, by rw [List.length_append], by go_num, ?_, HC1.out.apart hm2 hvd2, HO2.out, app_block (n := 0) HT2.out hvd2 (fun hh => by have := hcl _ hh; omega), HIR.out.trans HI1.out (by simp; omega), ((HMR.out.new _).trans HM1.out HIR.out).grow HG2.out (fun x hx => .inr (own_new HOR.out x (by simpa using hx)))⟩
          have h1 := HTL.out
          have h2 : tl.length = min 32 (l.length - L.length) := by rw [h1, List.length_take, List.length_drop]
          have h3 : L.length = min (32 * k) l.length := by rw [HLr.out, List.length_take]
          have h4 : L.length = 32 * k := by omega
          rw [h1, h4, show 32 * (k + 1) = 32 * k + 32 by omega, List.take_add]
          exact congrArg (· ++ _) HLr.out
    · obtain rfl : k = 200 := by omega
      have hfull : L = l := by rw [HLr.out]; exact List.take_of_length_le (by omega)
      go_wp2
      go_ret
      subst hfull
      exact ⟨_, S', rfl, HOR.out, HCR.out, HIR.out, HVD.out, HMR.out⟩
end Go.Proofs.YtcanfmabkklidaaGreat
set_option linter.unusedSimpArgs false
set_option linter.unusedVariables false
set_option linter.unnecessarySimpa false
namespace Go.Proofs.YtcanfmabkklidaaGreat
open Go.RowKit

theorem actcs_len (a : ActV) : a.cs.length = 15 := rfl
/-- acts laid in a new block -/
theorem acts_lit (w : World) (l : List ActV) (F : List Nat) (hF : ∀ x ∈ F, x < w.heap.size) (hl : l.length ≤ 1000) (h0 : 0 < l.length)
    (ho : ∀ a ∈ l, ActBd7 a ∧ ∃ S, RdR OpV.cs 2 w a.pipe.ops a.pipe.ol S ∧ ∀ x ∈ S, x ∉ F) : ActsIn (w.alloc (.cells (l.flatMap ActV.cs).toArray 43)) (.slice (some ⟨w.heap.size, 0, none⟩) l.length l.length) l F := by
  refine ⟨⟨[w.heap.size], ⟨_, l.length, rfl, Nat.le_refl _, by unfold maxLen; omega, .inr ⟨w.heap.size, 0, rfl, rfl, by simp, fun i x hi j u hj => ?_⟩⟩, fun x hx hh => ?_⟩, fun x hx => ?_⟩
  · refine cell_new _ _ _ _ _ _ rfl ?_
    rw [Nat.zero_add]
    simpa using flat_get actcs_len hi hj
  · have := hF x hh
    obtain rfl : x = w.heap.size := by simpa using hx
    omega
  · obtain ⟨h1, S, h2, h3⟩ := ho x hx
    exact ⟨h1, S, h2.same (fun y hy => (bel_alloc (Below.refl _ w) _).block y (h2.lt y hy)), h3⟩
def noP : PipeV := ⟨.slice none 0 0, [], 0, 0, 0, 0, 0⟩
def awkL : List ActV := [⟨1, 0, 0, 0, ⟨.slice none 0 0, [], 10, 10, 2, 0, -1⟩, false, 0, 0, 0, 0⟩, ⟨2, 0, 0, 0, noP, false, 1, 0, 5, 0⟩, ⟨2, 0, 0, 0, noP, true, 10, 0, 0, 0⟩, ⟨3, 0, 0, 0, noP, false, 0, 0, 0, 0⟩, ⟨4, 0, 0, 3, noP, false, 0, 0, 0, 0⟩]
theorem awk_eq : (((CoreV.new 4 8 50 [⟨3, 3, 2, 2, 4⟩]).acts (awkL.map ActV.m)).2.map (fun a => a.rows.map RowV.value)) = [[], [], [], [], [5]] := by
  decide +kernel
end Go.Proofs.YtcanfmabkklidaaGreat
set_option linter.unusedSimpArgs false
set_option linter.unusedVariables false
set_option linter.unnecessarySimpa false
namespace Go.Proofs.YtcanfmabkklidaaGreat
open Go.RowKit

structure Two (w : World) (a : Nat) (Sa : List Nat) (ca : CoreV) (b : Nat) (Sb : List Nat) (cb : CoreV) : Prop where
  x : CoreAt w a Sa ca
  y : CoreAt w b Sb cb
  d : ∀ z ∈ Sa, z ∉ Sb
theorem Two.swap {w : World} {a b : Nat} {Sa Sb : List Nat} {ca cb : CoreV} (h : Two w a Sa ca b Sb cb) : Two w b Sb cb a Sa ca := ⟨h.y, h.x, fun z hz hh => h.d z hh hz⟩
theorem Two.left {w w' : World} {a b : Nat} {Sa Sb Sa' : List Nat} {ca cb ca' : CoreV} (h : Two w a Sa ca b Sb cb) (hm : Mod Sa w w') (hc : CoreAt w' a Sa' ca') (hi : Into Sa' Sa w.heap.size) : Two w' a Sa' ca' b Sb cb :=
  ⟨hc, h.y.apart hm (fun x hx => h.d x hx), fun z hz hh => by
    rcases hi z hz with h1 | h1
    · exact h.d z h1 hh
    · have := h.y.lt z hh
      omega⟩
theorem Two.below {w w' : World} {a b : Nat} {Sa Sb : List Nat} {ca cb : CoreV} (h : Two w a Sa ca b Sb cb) (hb : Below w.heap.size w w') : Two w' a Sa ca b Sb cb := ⟨h.x.below hb, h.y.below hb, h.d⟩
/-- two cores, told from a world on: nothing else was turned -/
def Duo2 (w0 : World) (S0 : List Nat) (w : World) (a b : Nat) (ca cb : CoreV) : Prop :=
  ∃ Sa Sb, Two w a Sa ca b Sb cb ∧ Into Sa S0 w0.heap.size ∧ Into Sb S0 w0.heap.size ∧ Mod S0 w0 w
theorem Duo2.swap {w0 : World} {S0 : List Nat} {w : World} {a b : Nat} {ca cb : CoreV} (h : Duo2 w0 S0 w a b ca cb) : Duo2 w0 S0 w b a cb ca := by
  obtain ⟨Sa, Sb, h1, h2, h3, h4⟩ := h
  exact ⟨Sb, Sa, h1.swap, h3, h2, h4⟩
theorem Duo2.below {w0 : World} {S0 : List Nat} {w w' : World} {a b : Nat} {ca cb : CoreV} (h : Duo2 w0 S0 w a b ca cb) (hb : Below w.heap.size w w') : Duo2 w0 S0 w' a b ca cb := by
  obtain ⟨Sa, Sb, h1, h2, h3, h4⟩ := h
  exact ⟨Sa, Sb, h1.below hb, h2, h3, h4.bel hb⟩
theorem Duo2.comp {w0 w1 : World} {S0 S1 : List Nat} {w : World} {a b : Nat} {ca cb : CoreV} (hm : Mod S0 w0 w1) (hi : Into S1 S0 w0.heap.size) (h : Duo2 w1 S1 w a b ca cb) : Duo2 w0 S0 w a b ca cb := by
  obtain ⟨Sa, Sb, h1, h2, h3, h4⟩ := h
  exact ⟨Sa, Sb, h1, hi.trans h2 hm.size, hi.trans h3 hm.size, hm.trans h4 hi⟩
theorem Duo2.mod {w0 : World} {S0 : List Nat} {w : World} {a b : Nat} {ca cb : CoreV} (h : Duo2 w0 S0 w a b ca cb) : Mod S0 w0 w := by
  obtain ⟨Sa, Sb, h1, h2, h3, h4⟩ := h
  exact h4
theorem Two.duo {w : World} {a b : Nat} {Sa Sb : List Nat} {ca cb : CoreV} (h : Two w a Sa ca b Sb cb) : Duo2 w (Sa ++ Sb) w a b ca cb :=
  ⟨Sa, Sb, h, fun x hx => .inl (List.mem_append_left _ hx), fun x hx => .inl (List.mem_append_right _ hx), Mod.refl _ _⟩
/-- one act at the first of two cores -/
theorem duo_do {w0 : World} {S0 : List Nat} {w : World} {a b : Nat} {ca cb : CoreV} (h : Duo2 w0 S0 w a b ca cb) (N : Nat) (x : ActV) (hx : ActBd7 x) (So : List Nat) (hop : RdR OpV.cs 2 w0 x.pipe.ops x.pipe.ol So) (hSo : ∀ y ∈ So, y ∉ S0) (hq0 : 0 ≤ ca.quota) (hq1 : ca.quota ≤ 1000) (ok : CoreOk ca N) (hN : N + 6 ≤ 100000) :
    Calls Tryz.prog 12 #[.pointer (some ⟨a, 0, none⟩), .slice (some ⟨w.heap.size, 0, none⟩) 1 1] (w.alloc (.cells x.cs.toArray 43)) fun e w' => (∃ v, e = .returned v) ∧ Duo2 w0 S0 w' a b (ca.act x.m).1 cb := by
  obtain ⟨Sa, Sb, h1, h2, h3, h4⟩ := h
  have hal := acts_lit w [x] Sa h1.x.lt (by simp) (by simp) (fun y hy => by
    obtain rfl : y = x := by simpa using hy
    refine ⟨hx, So, hop.same (fun z hz => h4.block z (hop.lt z hz) (hSo z hz)), fun z hz hh => ?_⟩
    rcases h2 z hh with h5 | h5
    · exact hSo z hz h5
    · have := hop.lt z hz
      omega)
  simp only [List.flatMap_cons, List.flatMap_nil, List.append_nil, List.length_cons, List.length_nil, Nat.zero_add] at hal
  refine (dos_at a Sa ca N _ [x] hq0 hq1 _ (h1.x.below (bel_alloc (Below.refl _ _) _)) hal ok (by simpa using hN)).mono ?_
  rintro e w' ⟨⟨v, L, S', rfl, _, _, _, hc, hi, _, _⟩, hm⟩
  have e1 : (ca.acts ([x].map ActV.m)).1 = (ca.act x.m).1 := by simp [CoreV.acts]
  rw [e1] at hc
  have hsz : w.heap.size ≤ (w.alloc (.cells x.cs.toArray 43)).heap.size := by simp
  refine ⟨⟨v, rfl⟩, S', Sb, (h1.below (bel_alloc (Below.refl _ _) _)).left hm hc hi, h2.trans hi (Nat.le_trans h4.size hsz), h3, (h4.new _).trans hm h2⟩
/-- what a tenant was told, of the first of two cores -/
theorem duo_told {w0 : World} {S0 : List Nat} {w : World} {a b : Nat} {ca cb : CoreV} (h : Duo2 w0 S0 w a b ca cb) (N t : Nat) (ht : t ≤ 7) (hq0 : 0 ≤ ca.quota) (hq1 : ca.quota ≤ 1000) (ok : CoreOk ca N) (hN : N + 6 ≤ 100000) (hl : (ca.board t).length ≤ 640) :
    Calls Tryz.prog 13 #[.pointer (some ⟨a, 0, none⟩), .int .i64 t] w fun e w' => ∃ v S1, e = .returned v ∧ w'.ownsRow w.heap.size 52 4 v (ca.board t).length ((ca.board t).flatMap RelV.cs) ∧ (∀ x ∈ v.ownBlock.toList, x ∉ S1) ∧ Duo2 w' S1 w' a b ca cb ∧ Into S1 S0 w0.heap.size ∧ Mod S0 w0 w' := by
  obtain ⟨Sa, Sb, h1, h2, h3, h4⟩ := h
  refine (told_all a Sa ca N t ht hq0 hq1 w h1.x ok hN hl).mono ?_
  rintro e w' ⟨v, S', rfl, ho, hc, hi, hd, hm⟩
  have h5 := h1.left hm hc hi
  refine ⟨v, S' ++ Sb, rfl, ho, fun x hx hh => ?_, h5.duo, fun x hx => ?_, h4.trans hm h2⟩
  · rcases List.mem_append.1 hh with hh | hh
    · exact hd x hx hh
    · have := own_new ho x hx
      have := h1.y.lt x hh
      omega
  · rcases List.mem_append.1 hx with hx | hx
    · exact (h2.trans hi h4.size) x hx
    · exact h3 x hx
/-- all rows of a tenant, of the first of two cores -/
theorem duo_rows {w0 : World} {S0 : List Nat} {w : World} {a b : Nat} {ca cb : CoreV} (h : Duo2 w0 S0 w a b ca cb) (N t : Nat) (ht : t ≤ 7) (hq0 : 0 ≤ ca.quota) (hq1 : ca.quota ≤ 1000) (ok : CoreOk ca N) (hN : N + 6 ≤ 100000) (hl : (rowsV ca t).length ≤ 6400) :
    Calls Tryz.prog 19 #[.pointer (some ⟨a, 0, none⟩), .int .i64 t] w fun e w' => ∃ v S1, e = .returned v ∧ w'.ownsRow w.heap.size 64 5 v (rowsV ca t).length ((rowsV ca t).flatMap RowV.cs) ∧ (∀ x ∈ v.ownBlock.toList, x ∉ S1) ∧ Duo2 w' S1 w' a b ca cb ∧ Into S1 S0 w0.heap.size ∧ Mod S0 w0 w' := by
  obtain ⟨Sa, Sb, h1, h2, h3, h4⟩ := h
  refine (rowsall_any a Sa ca N t ht hq0 hq1 w h1.x ok hN hl).mono ?_
  rintro e w' ⟨v, S', rfl, ho, hc, hi, hd, hm⟩
  have h5 := h1.left hm hc hi
  refine ⟨v, S' ++ Sb, rfl, ho, fun x hx hh => ?_, h5.duo, fun x hx => ?_, h4.trans hm h2⟩
  · rcases List.mem_append.1 hh with hh | hh
    · exact hd x hx hh
    · have := own_new ho x hx
      have := h1.y.lt x hh
      omega
  · rcases List.mem_append.1 hx with hx | hx
    · exact (h2.trans hi h4.size) x hx
    · exact h3 x hx
end Go.Proofs.YtcanfmabkklidaaGreat
set_option linter.unusedSimpArgs false
set_option linter.unusedVariables false
set_option linter.unnecessarySimpa false
namespace Go.Proofs.YtcanfmabkklidaaGreat
open Go.RowKit

/-- the one answer of one act, as it lies -/
structure AnsAt (w : World) (n : Nat) (v : Value) (g : Nat) (vr vt : Value) (a : AnsM) : Prop where
  v : ∃ cap, v = .slice (some ⟨g, 0, none⟩) 1 cap ∧ 1 ≤ cap ∧ cap ≤ maxLen
  c : At w g [.int .i64 a.err, vr, vt]
  ge : n ≤ g
  r : w.ownsRow n 64 5 vr a.rows.length (a.rows.flatMap RowV.cs)
  t : w.ownsRow n 52 4 vt a.told.length (a.told.flatMap RelV.cs)
theorem AnsAt.mod {w w' : World} {n : Nat} {v : Value} {g : Nat} {vr vt : Value} {a : AnsM} {S : List Nat} (h : AnsAt w n v g vr vt a) (hm : Mod S w w') (hS : ∀ x ∈ S, x < n) : AnsAt w' n v g vr vt a :=
  ⟨h.v, h.c.mod hm (fun hh => by have := hS g hh; have := h.ge; omega), h.ge, own_mod h.r hm (fun x hx hh => by have := hS x hh; have := own_new h.r x hx; omega), own_mod h.t hm (fun x hx hh => by have := hS x hh; have := own_new h.t x hx; omega)⟩
theorem AnsAt.below {w w' : World} {n : Nat} {v : Value} {g : Nat} {vr vt : Value} {a : AnsM} (h : AnsAt w n v g vr vt a) (hb : Below w.heap.size w w') : AnsAt w' n v g vr vt a :=
  ⟨h.v, h.c.below hb, h.ge, own_of_block h.r (fun x hx => hb.block x (own_lt h.r x hx)), own_of_block h.t (fun x hx => hb.block x (own_lt h.t x hx))⟩
/-- one act at the first of two cores, its answer kept -/
theorem two_one {w : World} {a b : Nat} {Sa Sb : List Nat} {ca cb : CoreV} (h : Two w a Sa ca b Sb cb) (N : Nat) (x : ActV) (v : Value) (Sv : List Nat) (hv : RdR ActV.cs 15 w v [x] Sv) (hSv : ∀ y ∈ Sv, y ∉ Sa) (hx : ActBd7 x) (So : List Nat) (hop : RdR OpV.cs 2 w x.pipe.ops x.pipe.ol So) (hSo : ∀ y ∈ So, y ∉ Sa) (hq0 : 0 ≤ ca.quota) (hq1 : ca.quota ≤ 1000) (ok : CoreOk ca N) (hN : N + 6 ≤ 100000) :
    Calls Tryz.prog 12 #[.pointer (some ⟨a, 0, none⟩), v] w fun e w' => ∃ (v' : Value) (g : Nat) (vr vt : Value) (Sa' : List Nat), e = .returned v' ∧ AnsAt w' w.heap.size v' g vr vt (ca.act x.m).2 ∧ Two w' a Sa' (ca.act x.m).1 b Sb cb ∧ Into Sa' Sa w.heap.size ∧ Mod Sa w w' ∧ g ∉ Sa' ∧ (∀ y ∈ vr.ownBlock.toList ++ vt.ownBlock.toList, y ∉ Sa') := by
  refine (dos_at a Sa ca N v [x] hq0 hq1 w h.x ⟨⟨Sv, hv, hSv⟩, fun y hy => ((List.mem_singleton.1 hy) ▸ ⟨hx, So, hop, hSo⟩)⟩ ok (by simpa using hN)).mono ?_
  rintro e w' ⟨⟨v1, L, S', rfl, ho, hm1, hao, hc, hi, hd1, hd2⟩, hm⟩
  have e1 : (ca.acts ([x].map ActV.m)).1 = (ca.act x.m).1 := by simp [CoreV.acts]
  have e2 : (ca.acts ([x].map ActV.m)).2 = [(ca.act x.m).2] := by simp [CoreV.acts]
  rw [e1] at hc
  rw [e2] at hm1
  have hl1 : L.length = 1 := by have := congrArg List.length hm1; simpa using this
  match L, hl1 with
  | [y], _ =>
    simp only [List.map_cons, List.map_nil, List.cons.injEq, and_true] at hm1
    have hoa := hao y (by simp)
    obtain ⟨g, cap, hv', hge, hgl, hcap, hcap2, hcs⟩ := own_form ho (by simp)
    have hat : At w' g y.cs := by
      have := At.of_row ho (g := g) (by rw [hv']; rfl)
      simpa using this
    have hr := hoa.r
    have ht := hoa.t
    have he : y.err = (ca.act x.m).2.err := by rw [← hm1]; rfl
    have hrl : y.rl = (ca.act x.m).2.rows := by rw [← hm1]; rfl
    have htl : y.tl = (ca.act x.m).2.told := by rw [← hm1]; rfl
    rw [hrl] at hr
    rw [htl] at ht
    refine ⟨_, g, y.rows, y.told, S', rfl, ⟨⟨cap, by rw [hv']; rfl, by simpa using hcap, hcap2⟩, by rw [← he]; exact hat, hge, hr, ht⟩, h.left hm hc hi, hi, hm, hd2 g (by rw [hv']; simp [Value.ownBlock]), hd1 y (by simp)⟩
/-- all rows of a tenant, at the first of two cores -/
theorem two_rows {w : World} {a b : Nat} {Sa Sb : List Nat} {ca cb : CoreV} (h : Two w a Sa ca b Sb cb) (N t : Nat) (ht : t ≤ 7) (hq0 : 0 ≤ ca.quota) (hq1 : ca.quota ≤ 1000) (ok : CoreOk ca N) (hN : N + 6 ≤ 100000) (hl : (rowsV ca t).length ≤ 6400) :
    Calls Tryz.prog 19 #[.pointer (some ⟨a, 0, none⟩), .int .i64 t] w fun e w' => ∃ v Sa', e = .returned v ∧ w'.ownsRow w.heap.size 64 5 v (rowsV ca t).length ((rowsV ca t).flatMap RowV.cs) ∧ (∀ x ∈ v.ownBlock.toList, x ∉ Sa') ∧ Two w' a Sa' ca b Sb cb ∧ Into Sa' Sa w.heap.size ∧ Mod Sa w w' := by
  refine (rowsall_any a Sa ca N t ht hq0 hq1 w h.x ok hN hl).mono ?_
  rintro e w' ⟨v, S', rfl, ho, hc, hi, hd, hm⟩
  exact ⟨v, S', rfl, ho, hd, h.left hm hc hi, hi, hm⟩
theorem Duo2.two {w0 : World} {S0 : List Nat} {w : World} {a b : Nat} {ca cb : CoreV} (h : Duo2 w0 S0 w a b ca cb) : ∃ Sa Sb, Two w a Sa ca b Sb cb ∧ Into (Sa ++ Sb) S0 w0.heap.size ∧ Mod S0 w0 w := by
  obtain ⟨Sa, Sb, h1, h2, h3, h4⟩ := h
  exact ⟨Sa, Sb, h1, fun x hx => by
    rcases List.mem_append.1 hx with h | h
    · exact h2 x h
    · exact h3 x h, h4⟩
theorem Two.duo0 {w0 w : World} {S0 : List Nat} {a b : Nat} {Sa Sb : List Nat} {ca cb : CoreV} (h : Two w a Sa ca b Sb cb) (hi : Into (Sa ++ Sb) S0 w0.heap.size) (hm : Mod S0 w0 w) : Duo2 w0 S0 w a b ca cb :=
  ⟨Sa, Sb, h, fun x hx => hi x (List.mem_append_left _ hx), fun x hx => hi x (List.mem_append_right _ hx), hm⟩
/-- some acts at the first of two cores -/
theorem duo_dos {w0 : World} {S0 : List Nat} {w : World} {a b : Nat} {ca cb : CoreV} (h : Duo2 w0 S0 w a b ca cb) (N : Nat) (l : List ActV) (hl : l.length ≤ 1000) (h0 : 0 < l.length) (ho : ∀ x ∈ l, ActBd7 x ∧ ∃ So, RdR OpV.cs 2 w0 x.pipe.ops x.pipe.ol So ∧ ∀ y ∈ So, y ∉ S0) (hq0 : 0 ≤ ca.quota) (hq1 : ca.quota ≤ 1000) (ok : CoreOk ca N) (hN : N + 6 * l.length ≤ 100000) :
    Calls Tryz.prog 12 #[.pointer (some ⟨a, 0, none⟩), .slice (some ⟨w.heap.size, 0, none⟩) l.length l.length] (w.alloc (.cells (l.flatMap ActV.cs).toArray 43)) fun e w' => (∃ v, e = .returned v) ∧ Duo2 w0 S0 w' a b (ca.acts (l.map ActV.m)).1 cb := by
  obtain ⟨Sa, Sb, h1, h2, h3, h4⟩ := h
  have hal := acts_lit w l Sa h1.x.lt hl h0 (fun y hy => by
    obtain ⟨hx, So, hop, hSo⟩ := ho y hy
    refine ⟨hx, So, hop.same (fun z hz => h4.block z (hop.lt z hz) (hSo z hz)), fun z hz hh => ?_⟩
    rcases h2 z hh with h5 | h5
    · exact hSo z hz h5
    · have := hop.lt z hz
      omega)
  refine (dos_at a Sa ca N _ l hq0 hq1 _ (h1.x.below (bel_alloc (Below.refl _ _) _)) hal ok hN).mono ?_
  rintro e w' ⟨⟨v, L, S', rfl, _, _, _, hc, hi, _, _⟩, hm⟩
  have hsz : w.heap.size ≤ (w.alloc (.cells (l.flatMap ActV.cs).toArray 43)).heap.size := by simp
  exact ⟨⟨v, rfl⟩, S', Sb, (h1.below (bel_alloc (Below.refl _ _) _)).left hm hc hi, h2.trans hi (Nat.le_trans h4.size hsz), h3, (h4.new _).trans hm h2⟩
theorem rdr_one (w : World) (x : ActV) : RdR ActV.cs 15 (w.alloc (.cells x.cs.toArray 43)) (.slice (some ⟨w.heap.size, 0, none⟩) 1 1) [x] [w.heap.size] := by
  refine ⟨_, 1, rfl, by simp, by unfold maxLen; simp, .inr ⟨w.heap.size, 0, rfl, rfl, by simp, fun i y hi j u hj => ?_⟩⟩
  match i, hi with
  | 0, hi =>
    obtain rfl : x = y := by simpa using hi
    refine cell_new _ _ _ _ _ _ rfl ?_
    simpa using hj
theorem AnsAt.base {w : World} {n m : Nat} {v : Value} {g : Nat} {vr vt : Value} {a : AnsM} (h : AnsAt w n v g vr vt a) (hm : m ≤ n) : AnsAt w m v g vr vt a :=
  ⟨h.v, h.c, Nat.le_trans hm h.ge, ownsRow_base h.r hm, ownsRow_base h.t hm⟩
/-- the first of two cores acted, the second one's act lies ready -/
structure HalfW (wB : World) (Sa Sb : List Nat) (a b : Nat) (ca1 cb : CoreV) (A : AnsM) (x : ActV) (u v : Value) (y : World) : Prop where
  h : ∃ (g : Nat) (vr vt : Value) (Sa' : List Nat) (gb : Nat), v = .slice (some ⟨gb, 0, none⟩) 1 1 ∧ RdR ActV.cs 15 y v [x] [gb] ∧ wB.heap.size ≤ gb ∧ AnsAt y wB.heap.size u g vr vt A ∧ Two y a Sa' ca1 b Sb cb ∧ Into Sa' Sa wB.heap.size ∧ Mod Sa wB y ∧ (∀ z ∈ g :: (vr.ownBlock.toList ++ vt.ownBlock.toList), z ∉ Sa')
def FullW (wB : World) (S3 : List Nat) (a b : Nat) (ca1 cb1 : CoreV) (A A2 : AnsM) (u v : Value) (y : World) : Prop :=
  ∃ g1 r1 t1 g2 r2 t2 Sa4 Sb4, AnsAt y wB.heap.size u g1 r1 t1 A ∧ AnsAt y wB.heap.size v g2 r2 t2 A2 ∧ Two y a Sa4 ca1 b Sb4 cb1 ∧ Into (Sa4 ++ Sb4) S3 wB.heap.size ∧ Mod S3 wB y ∧ (∀ z ∈ g1 :: g2 :: (r1.ownBlock.toList ++ t1.ownBlock.toList) ++ (r2.ownBlock.toList ++ t2.ownBlock.toList), z ∉ Sa4 ++ Sb4)
theorem full_of {wB y y2 : World} {Sa Sb Sa' Sb' : List Nat} {a b : Nat} {ca1 cb cb1 : CoreV} {A A2 : AnsM} {u v : Value} {g g2 : Nat} {vr vt vr2 vt2 : Value} (hSb : ∀ z ∈ Sb, z < wB.heap.size)
    (h1 : AnsAt y wB.heap.size u g vr vt A) (ht : Two y a Sa' ca1 b Sb cb) (hi : Into Sa' Sa wB.heap.size) (hm : Mod Sa wB y) (hd : ∀ z ∈ g :: (vr.ownBlock.toList ++ vt.ownBlock.toList), z ∉ Sa')
    (h2 : AnsAt y2 y.heap.size v g2 vr2 vt2 A2) (ht2 : Two y2 b Sb' cb1 a Sa' ca1) (hi2 : Into Sb' Sb y.heap.size) (hm2 : Mod Sb y y2) (hg2 : g2 ∉ Sb') (hd2 : ∀ z ∈ vr2.ownBlock.toList ++ vt2.ownBlock.toList, z ∉ Sb') :
    FullW wB (Sa ++ Sb) a b ca1 cb1 A A2 u v y2 := by
  have hsz := hm.size
  have hlt : ∀ z ∈ g :: (vr.ownBlock.toList ++ vt.ownBlock.toList), wB.heap.size ≤ z ∧ z < y.heap.size := fun z hz => by
    rcases List.mem_cons.1 hz with rfl | hz
    · exact ⟨h1.ge, h1.c.lt⟩
    · rcases List.mem_append.1 hz with hz | hz
      · exact ⟨own_new h1.r z hz, own_lt h1.r z hz⟩
      · exact ⟨own_new h1.t z hz, own_lt h1.t z hz⟩
  have hge : ∀ z ∈ g2 :: (vr2.ownBlock.toList ++ vt2.ownBlock.toList), y.heap.size ≤ z ∧ z ∉ Sb' := fun z hz => by
    rcases List.mem_cons.1 hz with rfl | hz
    · exact ⟨h2.ge, hg2⟩
    · refine ⟨?_, hd2 z hz⟩
      rcases List.mem_append.1 hz with hz | hz
      · exact own_new h2.r z hz
      · exact own_new h2.t z hz
  refine ⟨g, vr, vt, g2, vr2, vt2, Sa', Sb', h1.mod hm2 hSb, h2.base hsz, ht2.swap, fun z hz => ?_, ?_, fun z hz hh => ?_⟩
  · rcases List.mem_append.1 hz with hz | hz
    · rcases hi z hz with h | h
      · exact .inl (List.mem_append_left _ h)
      · exact .inr h
    · rcases hi2 z hz with h | h
      · exact .inl (List.mem_append_right _ h)
      · exact .inr (by omega)
  · exact (hm.wide (fun z hz => List.mem_append_left _ hz)).trans (hm2.wide (fun z hz => List.mem_append_right Sa hz)) (Into.refl _ _)
  · have hz' : z ∈ g :: (vr.ownBlock.toList ++ vt.ownBlock.toList) ∨ z ∈ g2 :: (vr2.ownBlock.toList ++ vt2.ownBlock.toList) := by
      simp only [List.mem_cons, List.mem_append] at hz ⊢
      rcases hz with (h | h | h) | h
      · exact .inl (.inl h)
      · exact .inr (.inl h)
      · exact .inl (.inr h)
      · exact .inr (.inr h)
    rcases hz' with hz' | hz'
    · have h3 := hlt z hz'
      rcases List.mem_append.1 hh with hh | hh
      · exact hd z hz' hh
      · rcases hi2 z hh with h | h
        · have := hSb z h
          omega
        · omega
    · have h3 := hge z hz'
      rcases List.mem_append.1 hh with hh | hh
      · have := ht.x.lt z hh
        omega
      · exact h3.2 hh
end Go.Proofs.YtcanfmabkklidaaGreat
