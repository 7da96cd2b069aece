/- A new core: the walk. -/
import Derived.Test.YtcanfmabkklidaaGreatMb26
import Derived.Test.YtcanfmabkklidaaGreatMb24
import Derived.Test.YtcanfmabkklidaaGreatMb20
set_option linter.unusedSimpArgs false
set_option linter.unusedVariables false
set_option linter.unnecessarySimpa false
namespace Go.Proofs.YtcanfmabkklidaaGreat
open Go.RowKit

theorem take_new (l : List SinkV) (k : Nat) (s : SinkV) (h : l[k]? = some s) : ((l.take (k + 1)).map PotV.new).flatMap PotV.cs = ((l.take k).map PotV.new).flatMap PotV.cs ++ (PotV.new s).cs := by
  rw [List.take_add_one, h]
  simp
set_option maxHeartbeats 2000000 in
set_option maxRecDepth 100000 in
theorem cnew10 (v : Value) (l : List SinkV) (S : List Nat) (B R Q : Int) (w : World) (h : RdR SinkV.cs 5 w v l S) (hs : SetBd B R Q l) :
    Calls Tryz.prog 10 #[.agg #[.int .i64 B, .int .i64 R, .int .i64 Q, v]] w fun e w' => ∃ b F, e = .returned (.pointer (some ⟨b, 0, none⟩)) ∧ CoreAt w' b F (CoreV.new B R Q l) ∧ (∀ x ∈ F, w.heap.size ≤ x) ∧ Below w.heap.size w w' := by
  obtain ⟨a, c, rfl, hc1, hc2, _⟩ := id h
  have hl2 := hs.len
  have HSB := Lib.hid hs
  have hS1 : RdR SinkV.cs 5 (w.alloc (.cells #[.int .i64 B, .int .i64 R, .int .i64 Q, .slice a l.length c] 28)) (.slice a l.length c) l S := h.same (fun x hx => (bel_alloc (Below.refl _ w) _).block x (h.lt x hx))
  have HS1 := Lib.hid hS1
  obtain ⟨i0, hi3, hz0, hz1, hz2⟩ := info_parts info87
  have HI := Lib.hid (And.intro hi3 (And.intro hz0 (And.intro hz1 hz2)))
  clear h hs hS1 hi3 hz0 hz1 hz2
  go_enter Tryz.func10, Tryz.ntmps10
  go_wp2_with (first
    | (go_at_call 35; (with_reducible refine (cright_any B R Q _ l _ HS1.out.isr HSB.out).mono ?_); rintro e w1 ⟨rfl, hb⟩; have HB1 := Lib.hid (below_step (bel_alloc (Below.refl _ w) _) hb); have HR1 := Lib.hid (HS1.out.same (fun x hx => hb.block x (HS1.out.lt x hx))); have A1 := (At.new w #[.int .i64 B, .int .i64 R, .int .i64 Q, .slice a l.length c] 28).below hb; have HA1 := Lib.hid A1; have q3 := A1.c 3 _ rfl; have l1 := A1.lt; clear hb A1)
    | (go_at_call 36; (with_reducible refine (clone36 _ l S _ HR1.out (by omega)).mono ?_); rintro e w2 ⟨v2, rfl, ho, hb⟩; have HB2 := Lib.hid (below_step HB1.out hb); have HO2 := Lib.hid ho; have A2 := HA1.out.below hb; have HA2 := Lib.hid A2; have q3' := A2.c 3 _ rfl; have f3 := A2.f 3; have l2 := A2.lt; have hs2 := hb.size; obtain ⟨sa, sc, rfl⟩ := own_shape2 ho; clear ho hb A2))
  refine wp_region_plB (fun w0 => At w0 w.heap.size [.int .i64 B, .int .i64 R, .int .i64 Q, .slice sa l.length sc] ∧ w0.ownsRow w1.heap.size 49 5 (.slice sa l.length sc) l.length (l.flatMap SinkV.cs) ∧ Below w.heap.size w w0 ∧ w.heap.size + 1 ≤ w1.heap.size) ?ph4 (.take 0 <| .doo 1 <| .take 2 <| .doo 3 <| .take 4 <| .done) ?plL4 (by kernel_rfl) (by kernel_rfl) (by kernel_rfl) ?plH4 (by intro c a d v w; cases d <;> exact fun h => h) ?_
  case plH4 =>
    simp only [Pl.with, List.getElem?_toArray, List.getElem?_cons_zero, List.getElem?_cons_succ]
    try rfl
  case ph4 =>
    refine ⟨HA2.out.set 3 _ (by simp), ?_, bel_set HB2.out (Nat.le_refl _) _, by omega⟩
    exact own_of_block HO2.out (fun x hx => Below.heap_setCell _ _ _ _ (by have := own_new HO2.out x hx; simp; omega))
  rintro w3 ⟨ha3, ho3, hb3, hs3⟩
  have HA3 := Lib.hid ha3
  have HO3 := Lib.hid ho3
  have HB3 := Lib.hid hb3
  have l3 := ha3.lt
  clear ha3 ho3 hb3
  have q0 : ∀ x, Below w3.heap.size w3 x → x.cell? ⟨w.heap.size, 0, none⟩ = some (.int .i64 B) := fun x hx => (HA3.out.below hx).c 0 _ rfl
  have q1 : ∀ x, Below w3.heap.size w3 x → x.cell? ⟨w.heap.size, 1, none⟩ = some (.int .i64 R) := fun x hx => (HA3.out.below hx).c 1 _ rfl
  have q2 : ∀ x, Below w3.heap.size w3 x → x.cell? ⟨w.heap.size, 2, none⟩ = some (.int .i64 Q) := fun x hx => (HA3.out.below hx).c 2 _ rfl
  have q3 : ∀ x, Below w3.heap.size w3 x → x.cell? ⟨w.heap.size, 3, none⟩ = some (.slice sa l.length sc) := fun x hx => (HA3.out.below hx).c 3 _ rfl
  iterate 1 (refine wpPl_take (v := ?_) (by rfl) (fun w' hS => ?_) ?_; rotate_left; (focus (go_simp; with_reducible rfl)); simp only [Act.put, List.setIfInBounds_toArray, List.set_cons_zero, List.set_cons_succ])
  clear q0 q1 q2 q3
  refine wpPl_do (by rfl) (fun K hK => ?_)
  go_wp2_with (go_at_call 37; (with_reducible refine (bnew_any _).mono ?_); rintro e w1 ⟨rfl, rfl⟩)
  refine ⟨bel_draw (bel_alloc (Below.refl _ w3) _), ?_⟩
  iterate 1 (refine wpPl_take (v := ?_) (by rfl) (fun w' hS => ?_) ?_; rotate_left; (focus (go_simp; with_reducible rfl)); simp only [Act.put, List.setIfInBounds_toArray, List.set_cons_zero, List.set_cons_succ])
  refine wpPl_do (by rfl) (fun K hK => ?_)
  go_wp2_with fail
  refine ⟨bel_draw (bel_alloc (bel_alloc (Below.refl _ w3) _) _), ?_⟩
  iterate 1 (refine wpPl_take (v := ?_) (by rfl) (fun w' hS => ?_) ?_; rotate_left; (focus (go_simp; with_reducible rfl)); simp only [Act.put, List.setIfInBounds_toArray, List.set_cons_zero, List.set_cons_succ])
  refine wpPl_done ?_
  obtain ⟨w4, hw4⟩ : ∃ w4, w4 = ((w3.alloc (.cells #[.slice none 0 0, .slice none 0 0, .slice none 0 0, .slice none 0 0, .slice none 0 0, .slice none 0 0, .slice none 0 0, .slice none 0 0] 145)).alloc (.cells #[.int .i64 B, .int .i64 R, .int .i64 Q, .slice sa l.length sc, .pointer none, .pointer none, .pointer none, .pointer none, .pointer none, .pointer none, .pointer none, .pointer none, .slice none 0 0, .pointer (some ⟨w3.heap.size, 0, none⟩), .int .i64 0] 117)).drew := ⟨_, rfl⟩
  have A0 : At w4 w.heap.size [.int .i64 B, .int .i64 R, .int .i64 Q, .slice sa l.length sc] := by rw [hw4]; exact HA3.out.below (bel_draw (bel_alloc (bel_alloc (Below.refl _ w3) _) _))
  have AB : At w4 w3.heap.size [.slice none 0 0, .slice none 0 0, .slice none 0 0, .slice none 0 0, .slice none 0 0, .slice none 0 0, .slice none 0 0, .slice none 0 0] := by rw [hw4]; exact ((At.newAt (by rfl) _ _).alloc _).drew
  have AC : At w4 (w3.heap.size + 1) [.int .i64 B, .int .i64 R, .int .i64 Q, .slice sa l.length sc, .pointer none, .pointer none, .pointer none, .pointer none, .pointer none, .pointer none, .pointer none, .pointer none, .slice none 0 0, .pointer (some ⟨w3.heap.size, 0, none⟩), .int .i64 0] := by rw [hw4]; exact (At.newAt (by simp) _ _).drew
  have AO : w4.ownsRow w1.heap.size 49 5 (.slice sa l.length sc) l.length (l.flatMap SinkV.cs) := by rw [hw4]; exact ((HO3.out.alloc _).alloc _).drew
  have AW : Below w.heap.size w w4 := by rw [hw4]; exact bel_draw (bel_alloc (bel_alloc HB3.out _) _)
  have hz4 : w4.heap.size = w3.heap.size + 2 := by rw [hw4]; simp
  try rw [← hw4]
  have c3 := A0.c 3 _ rfl
  have HA0 := Lib.hid A0
  have HAB := Lib.hid AB
  have HAC := Lib.hid AC
  have HAO := Lib.hid AO
  have HAW := Lib.hid AW
  have hsl : ∀ x ∈ (Value.slice sa l.length sc).ownBlock.toList, x < w3.heap.size := own_lt HO3.out
  have HSL := Lib.hid hsl
  clear hw4 A0 AB AC AO AW hsl
  obtain ⟨bb, hbb⟩ : ∃ bb, bb = w3.heap.size := ⟨_, rfl⟩
  obtain ⟨b, hb⟩ : ∃ b, b = w3.heap.size + 1 := ⟨_, rfl⟩
  rw [← hb] at HAC ⊢
  rw [← hbb] at HAB HAC HSL hz4
  have HBB := Lib.hid (show b = bb + 1 by omega)
  have hbl : bb < b := by omega
  have HZ4 := Lib.hid hz4
  have hwb : w.heap.size ≤ bb := by omega
  have HBW4 := Lib.hid (show w.heap.size ≤ b by omega)
  clear hb hbb hz4
  go_wp2
  go_loopg [20] l.length (fun g v20 wr => ∃ (k : Nat) (va : Option Addr) (vc : Nat), k ≤ l.length ∧ g = l.length - k ∧ v20 = .int .i64 k ∧ At wr b [.int .i64 B, .int .i64 R, .int .i64 Q, .slice sa l.length sc, .pointer none, .pointer none, .pointer none, .pointer none, .pointer none, .pointer none, .pointer none, .pointer none, .slice va k vc, .pointer (some ⟨bb, 0, none⟩), .int .i64 0] ∧ At wr bb [.slice none 0 0, .slice none 0 0, .slice none 0 0, .slice none 0 0, .slice none 0 0, .slice none 0 0, .slice none 0 0, .slice none 0 0] ∧ wr.ownsRow w1.heap.size 49 5 (.slice sa l.length sc) l.length (l.flatMap SinkV.cs) ∧ wr.ownsRow (b + 1) 87 4 (.slice va k vc) k (((l.take k).map PotV.new).flatMap PotV.cs) ∧ Below w.heap.size w wr ∧ b + 1 ≤ wr.heap.size)
  case atStart => exact ⟨0, none, 0, by omega, by omega, rfl, HAC.out, HAB.out, HAO.out, World.ownsRow_nil _ _ _ _, HAW.out, by have := HZ4.out; have := HBB.out; omega⟩
  case round =>
    obtain ⟨k, va, vc, hk, rfl, rfl, hac, hab, hao, hop, hbw, hsz⟩ := hrel
    have HACr := Lib.hid hac
    have HABr := Lib.hid hab
    have HAOr := Lib.hid hao
    have HOPr := Lib.hid hop
    have HBWr := Lib.hid hbw
    clear hac hab hao hop hbw
    by_cases hlt : k < l.length
    · obtain ⟨s, hse⟩ : ∃ s, l[k]? = some s := ⟨l[k], by simp [hlt]⟩
      obtain ⟨sg, sc2, hsg, _, hsglt, _, _, hcs⟩ := own_form HAOr.out (by omega)
      simp only [Value.slice.injEq, true_and] at hsg
      obtain ⟨rfl, rfl⟩ := hsg
      have HX := Lib.hid (fun (j : Nat) (u : Value) (hj : s.cs[j]? = some u) => hcs (k * 5 + j) u (flat_get (cs := SinkV.cs) (k := 5) (fun _ => rfl) hse hj))
      have HSE := Lib.hid hse
      clear hcs hse
      obtain ⟨s1, s2, s3, s4, s5⟩ := s
      have x0 := HX.out 0 _ rfl
      have x1 := HX.out 1 _ rfl
      have x2 := HX.out 2 _ rfl
      have x3 := HX.out 3 _ rfl
      have x4 := HX.out 4 _ rfl
      simp only [Nat.add_zero] at x0
      go_wp2_with fail
      obtain ⟨P, hP⟩ : ∃ P : World → Prop, ∀ y, Hold P y ↔ (fun y : World => At y b [.int .i64 B, .int .i64 R, .int .i64 Q, .slice (some ⟨sg, 0, none⟩) l.length sc, .pointer none, .pointer none, .pointer none, .pointer none, .pointer none, .pointer none, .pointer none, .pointer none, .slice va k vc, .pointer (some ⟨bb, 0, none⟩), .int .i64 0] ∧ At y wr.heap.size [.int .u64 s1, .int .u64 s2, .int .i64 s3, .int .i64 s4, .int .i64 s5] ∧ At y bb [.slice none 0 0, .slice none 0 0, .slice none 0 0, .slice none 0 0, .slice none 0 0, .slice none 0 0, .slice none 0 0, .slice none 0 0] ∧ y.ownsRow w1.heap.size 49 5 (.slice (some ⟨sg, 0, none⟩) l.length sc) l.length (l.flatMap SinkV.cs) ∧ Below w.heap.size w y ∧ wr.heap.size + 1 ≤ y.heap.size) y := ⟨(fun y : World => At y b [.int .i64 B, .int .i64 R, .int .i64 Q, .slice (some ⟨sg, 0, none⟩) l.length sc, .pointer none, .pointer none, .pointer none, .pointer none, .pointer none, .pointer none, .pointer none, .pointer none, .slice va k vc, .pointer (some ⟨bb, 0, none⟩), .int .i64 0] ∧ At y wr.heap.size [.int .u64 s1, .int .u64 s2, .int .i64 s3, .int .i64 s4, .int .i64 s5] ∧ At y bb [.slice none 0 0, .slice none 0 0, .slice none 0 0, .slice none 0 0, .slice none 0 0, .slice none 0 0, .slice none 0 0, .slice none 0 0] ∧ y.ownsRow w1.heap.size 49 5 (.slice (some ⟨sg, 0, none⟩) l.length sc) l.length (l.flatMap SinkV.cs) ∧ Below w.heap.size w y ∧ wr.heap.size + 1 ≤ y.heap.size), fun _ => Iff.rfl⟩
      refine wp_region_pt 9 (Hold P) (.take 0 <| .take 1 <| .take 2 <| .take 3 <| .take 4 <| .take 5 <| .doo 6 <| .doo 7 <| .doo 8 <| .done) ?plA8 (by kernel_rfl) (by kernel_rfl) ?plB8 (by intro c a d v w; cases d <;> exact fun h => h) ?plC8 ?_
      case plB8 =>
        simp only [Pt.with, List.getElem?_toArray, List.getElem?_cons_zero, List.getElem?_cons_succ]
        try rfl
      case plC8 => exact (hP _).2 ⟨(HACr.out.alloc _).drew, (At.new wr _ _).drew, (HABr.out.alloc _).drew, (HAOr.out.alloc _).drew, bel_draw (bel_alloc HBWr.out _), by simp⟩
      have y12 : ∀ y : World, Hold P y → y.cell? ⟨b, 12, none⟩ = some (.slice va k vc) := fun y h => ((hP y).1 h).1.c 12 _ rfl
      have y0 : ∀ y : World, Hold P y → y.cell? ⟨wr.heap.size, 0, none⟩ = some (.int .u64 s1) := fun y h => ((hP y).1 h).2.1.c 0 _ rfl
      have y1 : ∀ y : World, Hold P y → y.cell? ⟨wr.heap.size, 1, none⟩ = some (.int .u64 s2) := fun y h => ((hP y).1 h).2.1.c 1 _ rfl
      have y2 : ∀ y : World, Hold P y → y.cell? ⟨wr.heap.size, 2, none⟩ = some (.int .i64 s3) := fun y h => ((hP y).1 h).2.1.c 2 _ rfl
      have y3 : ∀ y : World, Hold P y → y.cell? ⟨wr.heap.size, 3, none⟩ = some (.int .i64 s4) := fun y h => ((hP y).1 h).2.1.c 3 _ rfl
      have y4 : ∀ y : World, Hold P y → y.cell? ⟨wr.heap.size, 4, none⟩ = some (.int .i64 s5) := fun y h => ((hP y).1 h).2.1.c 4 _ rfl
      have HP := Lib.hid hP
      clear hP
      iterate 6 (refine wpPt_take (v := ?_) (by rfl) (fun w' hS => ?_) ?_; rotate_left; (focus (go_simp; with_reducible rfl)); simp only [Act.put, List.setIfInBounds_toArray, List.set_cons_zero, List.set_cons_succ])
      clear y12 y0 y1 y2 y3 y4
      refine wpPt_do (by rfl) (fun K hK => ?_)
      go_wp2_with (go_at_call 28; (with_reducible refine (snew_any ⟨s1, s2, s3, s4, s5⟩ _).mono ?_); rintro e w8 ⟨rfl, hb8⟩; have HB8 := Lib.hid hb8; clear hb8)
      have HF8 := Lib.hid (show (fun y : World => At y b [.int .i64 B, .int .i64 R, .int .i64 Q, .slice (some ⟨sg, 0, none⟩) l.length sc, .pointer none, .pointer none, .pointer none, .pointer none, .pointer none, .pointer none, .pointer none, .pointer none, .slice va k vc, .pointer (some ⟨bb, 0, none⟩), .int .i64 0] ∧ At y wr.heap.size [.int .u64 s1, .int .u64 s2, .int .i64 s3, .int .i64 s4, .int .i64 s5] ∧ At y bb [.slice none 0 0, .slice none 0 0, .slice none 0 0, .slice none 0 0, .slice none 0 0, .slice none 0 0, .slice none 0 0, .slice none 0 0] ∧ y.ownsRow w1.heap.size 49 5 (.slice (some ⟨sg, 0, none⟩) l.length sc) l.length (l.flatMap SinkV.cs) ∧ Below w.heap.size w y ∧ wr.heap.size + 1 ≤ y.heap.size) w8 from ⟨(HACr.out.alloc _).drew.below HB8.out, (At.new wr _ _).drew.below HB8.out, (HABr.out.alloc _).drew.below HB8.out, ((HAOr.out.alloc _).drew).kept (grown_of_below HB8.out none) (Classical.em _), below_step (bel_draw (bel_alloc HBWr.out _)) HB8.out, by have := HB8.out.size; simpa using this⟩)
      have HOP8 := Lib.hid (((HOPr.out.alloc _).drew).kept (grown_of_below HB8.out none) (Classical.em _))
      refine ⟨(HP.out _).2 HF8.out, ?_⟩
      refine wpPt_do (by rfl) (fun K hK => ?_)
      go_wp2_with fail
      have HF9 := Lib.hid (show (fun y : World => At y b [.int .i64 B, .int .i64 R, .int .i64 Q, .slice (some ⟨sg, 0, none⟩) l.length sc, .pointer none, .pointer none, .pointer none, .pointer none, .pointer none, .pointer none, .pointer none, .pointer none, .slice va k vc, .pointer (some ⟨bb, 0, none⟩), .int .i64 0] ∧ At y wr.heap.size [.int .u64 s1, .int .u64 s2, .int .i64 s3, .int .i64 s4, .int .i64 s5] ∧ At y bb [.slice none 0 0, .slice none 0 0, .slice none 0 0, .slice none 0 0, .slice none 0 0, .slice none 0 0, .slice none 0 0, .slice none 0 0] ∧ y.ownsRow w1.heap.size 49 5 (.slice (some ⟨sg, 0, none⟩) l.length sc) l.length (l.flatMap SinkV.cs) ∧ Below w.heap.size w y ∧ wr.heap.size + 1 ≤ y.heap.size) (w8.alloc (.cells #[.int .i64 (PotV.new ⟨s1, s2, s3, s4, s5⟩).count, .int .i64 (PotV.new ⟨s1, s2, s3, s4, s5⟩).kind, .int .i64 (PotV.new ⟨s1, s2, s3, s4, s5⟩).value, .int .u64 (PotV.new ⟨s1, s2, s3, s4, s5⟩).who] 87)) from ⟨HF8.out.1.alloc _, HF8.out.2.1.alloc _, HF8.out.2.2.1.alloc _, HF8.out.2.2.2.1.alloc _, bel_alloc HF8.out.2.2.2.2.1 _, by have := HF8.out.2.2.2.2.2; simp; omega⟩)
      refine ⟨(HP.out _).2 HF9.out, ?_⟩
      refine wpPt_do (by rfl) (fun K hK => ?_)
      have hs8 := HF8.out.2.2.2.2.2
      refine wp_append_own _ (.tmp 28) (.tmp 31) 81 rfl (b + 1) 87 i0 _ 4 32 Tryz.underlying81 HI.out.1 HI.out.2.1 HI.out.2.2.1 HI.out.2.2.2 rfl (by decide) (.slice va k vc) k (((l.take k).map PotV.new).flatMap PotV.cs) rfl (HOP8.out.alloc _) ⟨w8.heap.size, 0, none⟩ 1 1 (PotV.new ⟨s1, s2, s3, s4, s5⟩).cs rfl rfl (row_cells _ _ _) (PotV.one _) (by unfold maxLen; omega) (by omega) (by simp; omega) ?_
      intro v' w9 hown9 hgrow9 _
      have HO9 := Lib.hid hown9
      have hbk : ∀ x, (Value.slice va k vc).ownBlock = some x → b + 1 ≤ x := fun x hx => (HOP8.out.lt x hx).1
      have hbk2 : ∀ x, (Value.slice va k vc).ownBlock = some x → x ≠ wr.heap.size := fun x hx => by have := (HOPr.out.lt x hx).2; omega
      have HF10 := Lib.hid (show (fun y : World => At y b [.int .i64 B, .int .i64 R, .int .i64 Q, .slice (some ⟨sg, 0, none⟩) l.length sc, .pointer none, .pointer none, .pointer none, .pointer none, .pointer none, .pointer none, .pointer none, .pointer none, .slice va k vc, .pointer (some ⟨bb, 0, none⟩), .int .i64 0] ∧ At y wr.heap.size [.int .u64 s1, .int .u64 s2, .int .i64 s3, .int .i64 s4, .int .i64 s5] ∧ At y bb [.slice none 0 0, .slice none 0 0, .slice none 0 0, .slice none 0 0, .slice none 0 0, .slice none 0 0, .slice none 0 0, .slice none 0 0] ∧ y.ownsRow w1.heap.size 49 5 (.slice (some ⟨sg, 0, none⟩) l.length sc) l.length (l.flatMap SinkV.cs) ∧ Below w.heap.size w y ∧ wr.heap.size + 1 ≤ y.heap.size) w9 from ⟨HF9.out.1.grown hgrow9 (fun x hx => by have := hbk x hx; omega), HF9.out.2.1.grown hgrow9 (fun x hx => hbk2 x hx), HF9.out.2.2.1.grown hgrow9 (fun x hx => by have := hbk x hx; omega), HF9.out.2.2.2.1.kept hgrow9 (.inr (fun e => by
        have h1 := HSL.out sg (by simp [Value.ownBlock])
        have h2 := hbk sg e.symm
        omega)), HF9.out.2.2.2.2.1.grown hgrow9 HF9.out.2.2.2.2.1.size (fun x hx => by have := hbk x hx; have := HBW4.out; omega), by have := hgrow9.size; have := HF9.out.2.2.2.2.2; omega⟩)
      have d12 := HF10.out.1.f 12
      have e12 := HF10.out.1.c 12 _ rfl
      have l9 := HF10.out.1.lt
      clear hown9 hgrow9 hbk hbk2
      obtain ⟨g9, cap9, rfl, hg9, _⟩ := own_form HO9.out (by omega)
      refine hK _ _ ⟨(HP.out _).2 HF10.out, ?_⟩
      simp only [Act.put, List.setIfInBounds_toArray, List.set_cons_zero, List.set_cons_succ]
      refine wpPt_done ?_
      try simp only [List.drop_succ_cons, List.drop_zero]
      go_wp2
      go_roundg (l.length - (k + 1))
      case measure => omega
      case rel =>
        have hm := Mod.setCell w9 b 12 (.slice (some ⟨g9, 0, none⟩) (k + 1) cap9)
        refine ⟨k + 1, _, cap9, by omega, rfl, by go_num, HF10.out.1.set 12 _ (by simp), HF10.out.2.2.1.mod hm (by simp; omega), own_of_block HF10.out.2.2.2.1 (fun x hx => hm.block x (own_lt HF10.out.2.2.2.1 x hx) (by have := HSL.out x hx; simp; omega)), ?_, bel_set HF10.out.2.2.2.2.1 (by have := HBW4.out; omega) _, by have := HF10.out.2.2.2.2.2; simp [World.setCell]; omega⟩
        rw [take_new l k _ HSE.out]
        exact own_of_block HO9.out (fun x hx => hm.block x (own_lt HO9.out x hx) (by have := own_new HO9.out x hx; simp; omega))
    · obtain rfl : k = l.length := by omega
      rw [List.take_length] at HOPr
      go_wp2
      go_ret
      refine ⟨b, _, rfl, ⟨_, _, _, _, _, rfl, CoreIn.fresh (B := B) (R := R) (Q := Q) (l := l) HACr.out HABr.out HAOr.out (by rw [List.length_map]; exact HOPr.out) (by omega) (by omega) HSL.out⟩, fun x hx => ?_, HBWr.out⟩
      obtain ⟨j, hj, hx⟩ := mem_allOf.1 hx
      have h1 := HBW4.out
      split at hx
      · have e : x = b := by simpa using hx
        omega
      · split at hx
        · have := own_new HAOr.out x hx
          omega
        · split at hx
          · have := own_new HOPr.out x hx
            omega
          · split at hx
            · have e : x = bb := by simpa using hx
              have := HBB.out
              omega
            · simp at hx
end Go.Proofs.YtcanfmabkklidaaGreat
set_option linter.unusedSimpArgs false
set_option linter.unusedVariables false
set_option linter.unnecessarySimpa false
namespace Go.Proofs.YtcanfmabkklidaaGreat
open Go.RowKit

structure KSinkV where
  frm : Int
  tos : Int
  least : Int
  agg : Int
  ticks : Int
def KSinkV.cs (x : KSinkV) : List Value := [.int .i64 x.frm, .int .i64 x.tos, .int .i64 x.least, .int .i64 x.agg, .int .i64 x.ticks]
instance : Inhabited KSinkV := ⟨⟨0, 0, 0, 0, 0⟩⟩
set_option maxHeartbeats 2000000 in
set_option maxRecDepth 100000 in
theorem sinks_any (W : World) (v : Value) (l : List KSinkV) (h : IsR KSinkV.cs 5 W v l) :
    Calls Tryz.prog 21 #[v] W fun e w' => ∃ (v' : Value) (r : List SinkV), e = .returned v' ∧ w'.ownsRow W.heap.size 49 5 v' r.length (r.flatMap SinkV.cs) ∧ r.length = min l.length 2 ∧ (∀ s ∈ r, SinkBd s) ∧ Below W.heap.size W w' := by
  obtain ⟨al, cl, rfl, hl1, hl2, bl, ol, hl3, hl4⟩ := h
  unfold maxLen at hl2
  have H3 := Lib.hid hl3
  have H4 := Lib.hid hl4
  clear hl3 hl4
  obtain ⟨n, hn⟩ : ∃ n, n = min l.length 2 := ⟨_, rfl⟩
  rw [← hn]
  have hn1 : n ≤ 2 := by omega
  have hn2 : n ≤ l.length := by omega
  have HN3 := Lib.hid (show n = l.length ∨ n = 2 by omega)
  clear hn
  go_enter Tryz.func21, Tryz.ntmps21
  go_wp2_with fail
  go_loopg [3, 4] n (fun g v3 v4 wr => ∃ (i : Nat) (va : Option Addr) (vc : Nat) (L : List SinkV), i ≤ n ∧ g = n - i ∧ v3 = .slice va i vc ∧ v4 = .int .i64 i ∧ L.length = i ∧ (∀ o ∈ L, SinkBd o) ∧ wr.ownsRow W.heap.size 49 5 (.slice va i vc) i (L.flatMap SinkV.cs) ∧ Below W.heap.size W wr)
  case atStart => exact ⟨0, none, 0, [], by omega, by omega, rfl, rfl, rfl, by simp, World.ownsRow_nil _ _ _ _, Below.refl _ _⟩
  case round =>
    obtain ⟨i, va, vc, L, hi, rfl, rfl, rfl, hL, hbd, ho, hb⟩ := hrel
    have HOr := Lib.hid ho
    have HBr := Lib.hid hb
    have HBD := Lib.hid hbd
    have HLr := Lib.hid hL
    have hb2 : W.heap.size ≤ wr.heap.size := hb.size
    obtain ⟨i0, hi3, hz0, hz1, hz2⟩ := info_parts info49
    have HI := Lib.hid (And.intro hi3 (And.intro hz0 (And.intro hz1 hz2)))
    clear hi3 hz0 hz1 hz2 ho hb hbd hL
    by_cases hlt : i < n
    · have hlt1 : i < 2 := by omega
      have hlt2 : i < l.length := by omega
      obtain ⟨rfl, hbl⟩ := H3.out (by omega)
      obtain ⟨x, hx⟩ : ∃ x, l[i]? = some x := ⟨l[i], by simp [hlt2]⟩
      have HX := Lib.hid (fun (j : Nat) (u : Value) (hj : x.cs[j]? = some u) => (HBr.out.cell (p := ⟨bl, ol + i * 5 + j, none⟩) hbl).trans (H4.out i x hx j u hj))
      clear hx
      obtain ⟨kf, kt, kl, ka, kk⟩ := x
      have c0 := HX.out 0 _ rfl
      have c1 := HX.out 1 _ rfl
      have c2 := HX.out 2 _ rfl
      have c3 := HX.out 3 _ rfl
      have c4 := HX.out 4 _ rfl
      simp only [Nat.add_zero] at c0
      clear HX
      have bF := within_bd kf 1 255 (by omega)
      obtain ⟨F, hF⟩ : ∃ z, within kf 1 255 = z := ⟨_, rfl⟩
      rw [hF] at bF
      have HVF := Lib.hid hF
      clear hF
      have bT := within_bd kt 0 255 (by omega)
      obtain ⟨T, hT⟩ : ∃ z, within kt 0 255 = z := ⟨_, rfl⟩
      rw [hT] at bT
      have HVT := Lib.hid hT
      clear hT
      have bM := within_bd kl 2 4 (by omega)
      obtain ⟨M, hM⟩ : ∃ z, within kl 2 4 = z := ⟨_, rfl⟩
      rw [hM] at bM
      have HVM := Lib.hid hM
      clear hM
      have bA := within_bd ka 1 4 (by omega)
      obtain ⟨A, hA⟩ : ∃ z, within ka 1 4 = z := ⟨_, rfl⟩
      rw [hA] at bA
      have HVA := Lib.hid hA
      clear hA
      have bD := within_bd kk 1 6 (by omega)
      obtain ⟨D, hD⟩ : ∃ z, within kk 1 6 = z := ⟨_, rfl⟩
      rw [hD] at bD
      have HVD := Lib.hid hD
      clear hD
      have u1 : IntKind.wrap .u64 F = F := IntWalk.u64_in _ (by omega)
      have u2 : IntKind.wrap .u64 T = T := IntWalk.u64_in _ (by omega)
      go_wp2_with fail
      refine wp_region_plS (fun x => At x wr.heap.size [.int .i64 kf, .int .i64 kt, .int .i64 kl, .int .i64 ka, .int .i64 kk]) (fun w1 => At w1 wr.heap.size [.int .i64 kf, .int .i64 kt, .int .i64 kl, .int .i64 ka, .int .i64 kk] ∧ Below W.heap.size W w1 ∧ w1.ownsRow W.heap.size 49 5 (.slice va i vc) i (L.flatMap SinkV.cs) ∧ wr.heap.size + 1 ≤ w1.heap.size) ?ph6 (fun w1 h => h.1.drew) (.take 0 <| .take 1 <| .take 2 <| .take 3 <| .take 4 <| .take 5 <| .take 6 <| .take 7 <| .take 8 <| .take 9 <| .take 10 <| .take 11 <| .take 12 <| .take 13 <| .take 14 <| .take 15 <| .take 16 <| .take 17 <| .take 18 <| .doo 19 <| .doo 20 <| .take 21 <| .done) ?plL6 (by kernel_rfl) (by kernel_rfl) (by kernel_rfl) ?plH6 (by intro c a d v w; cases d <;> exact fun h => h) ?_
      case plH6 =>
        simp only [Pl.with, List.getElem?_toArray, List.getElem?_cons_zero, List.getElem?_cons_succ]
        try rfl
      case ph6 => exact ⟨At.new wr _ _, HBr.out.alloc hb2 _, HOr.out.alloc _, by simp⟩
      rintro w1 ⟨ha, hb1, ho1, hsz⟩
      have HA := Lib.hid ha
      have HB1 := Lib.hid hb1
      have HO1 := Lib.hid ho1
      have hsz1 : wr.heap.size < w1.heap.size := by omega
      clear ha hb1 ho1 hsz
      have q0 : ∀ x, At x wr.heap.size [.int .i64 kf, .int .i64 kt, .int .i64 kl, .int .i64 ka, .int .i64 kk] → x.cell? ⟨wr.heap.size, 0, none⟩ = some (.int .i64 kf) := fun x hx => hx.c 0 _ rfl
      have q1 : ∀ x, At x wr.heap.size [.int .i64 kf, .int .i64 kt, .int .i64 kl, .int .i64 ka, .int .i64 kk] → x.cell? ⟨wr.heap.size, 1, none⟩ = some (.int .i64 kt) := fun x hx => hx.c 1 _ rfl
      have q2 : ∀ x, At x wr.heap.size [.int .i64 kf, .int .i64 kt, .int .i64 kl, .int .i64 ka, .int .i64 kk] → x.cell? ⟨wr.heap.size, 2, none⟩ = some (.int .i64 kl) := fun x hx => hx.c 2 _ rfl
      have q3 : ∀ x, At x wr.heap.size [.int .i64 kf, .int .i64 kt, .int .i64 kl, .int .i64 ka, .int .i64 kk] → x.cell? ⟨wr.heap.size, 3, none⟩ = some (.int .i64 ka) := fun x hx => hx.c 3 _ rfl
      have q4 : ∀ x, At x wr.heap.size [.int .i64 kf, .int .i64 kt, .int .i64 kl, .int .i64 ka, .int .i64 kk] → x.cell? ⟨wr.heap.size, 4, none⟩ = some (.int .i64 kk) := fun x hx => hx.c 4 _ rfl
      iterate 3 (refine wpPl_take (v := ?_) (by rfl) (fun w' hS => ?_) ?_; rotate_left; (focus (go_simp; with_reducible rfl)); simp only [Act.put, List.setIfInBounds_toArray, List.set_cons_zero, List.set_cons_succ])
      (refine wpPl_call (v := .int .i64 F) (f := 16) (args := #[.int .i64 kf, .int .i64 1, .int .i64 255]) (by rfl) (fun w' hS => ?_) (fun w' hS => by rw [← HVF.out]; exact within_any _ _ _ _ (by omega) (by omega) (by omega)) ?_; (focus (go_simp; done)); simp only [Act.put, List.setIfInBounds_toArray, List.set_cons_zero, List.set_cons_succ])
      iterate 3 (refine wpPl_take (v := ?_) (by rfl) (fun w' hS => ?_) ?_; rotate_left; (focus (go_simp; with_reducible rfl)); simp only [Act.put, List.setIfInBounds_toArray, List.set_cons_zero, List.set_cons_succ])
      (refine wpPl_call (v := .int .i64 T) (f := 16) (args := #[.int .i64 kt, .int .i64 0, .int .i64 255]) (by rfl) (fun w' hS => ?_) (fun w' hS => by rw [← HVT.out]; exact within_any _ _ _ _ (by omega) (by omega) (by omega)) ?_; (focus (go_simp; done)); simp only [Act.put, List.setIfInBounds_toArray, List.set_cons_zero, List.set_cons_succ])
      iterate 3 (refine wpPl_take (v := ?_) (by rfl) (fun w' hS => ?_) ?_; rotate_left; (focus (go_simp; with_reducible rfl)); simp only [Act.put, List.setIfInBounds_toArray, List.set_cons_zero, List.set_cons_succ])
      (refine wpPl_call (v := .int .i64 M) (f := 16) (args := #[.int .i64 kl, .int .i64 2, .int .i64 4]) (by rfl) (fun w' hS => ?_) (fun w' hS => by rw [← HVM.out]; exact within_any _ _ _ _ (by omega) (by omega) (by omega)) ?_; (focus (go_simp; done)); simp only [Act.put, List.setIfInBounds_toArray, List.set_cons_zero, List.set_cons_succ])
      iterate 2 (refine wpPl_take (v := ?_) (by rfl) (fun w' hS => ?_) ?_; rotate_left; (focus (go_simp; with_reducible rfl)); simp only [Act.put, List.setIfInBounds_toArray, List.set_cons_zero, List.set_cons_succ])
      (refine wpPl_call (v := .int .i64 A) (f := 16) (args := #[.int .i64 ka, .int .i64 1, .int .i64 4]) (by rfl) (fun w' hS => ?_) (fun w' hS => by rw [← HVA.out]; exact within_any _ _ _ _ (by omega) (by omega) (by omega)) ?_; (focus (go_simp; done)); simp only [Act.put, List.setIfInBounds_toArray, List.set_cons_zero, List.set_cons_succ])
      iterate 2 (refine wpPl_take (v := ?_) (by rfl) (fun w' hS => ?_) ?_; rotate_left; (focus (go_simp; with_reducible rfl)); simp only [Act.put, List.setIfInBounds_toArray, List.set_cons_zero, List.set_cons_succ])
      (refine wpPl_call (v := .int .i64 D) (f := 16) (args := #[.int .i64 kk, .int .i64 1, .int .i64 6]) (by rfl) (fun w' hS => ?_) (fun w' hS => by rw [← HVD.out]; exact within_any _ _ _ _ (by omega) (by omega) (by omega)) ?_; (focus (go_simp; done)); simp only [Act.put, List.setIfInBounds_toArray, List.set_cons_zero, List.set_cons_succ])
      iterate 1 (refine wpPl_take (v := ?_) (by rfl) (fun w' hS => ?_) ?_; rotate_left; (focus (go_simp; with_reducible rfl)); simp only [Act.put, List.setIfInBounds_toArray, List.set_cons_zero, List.set_cons_succ])
      clear q0 q1 q2 q3 q4
      refine wpPl_do (by rfl) (fun K hK => ?_)
      go_wp2_with fail
      refine ⟨HA.out.drew.alloc _, ?_⟩
      refine wpPl_do (by rfl) (fun K hK => ?_)
      refine wp_append_own _ (.tmp 20) (.tmp 39) 26 rfl W.heap.size 49 i0 _ 5 40 Tryz.underlying26 HI.out.1 HI.out.2.1 HI.out.2.2.1 HI.out.2.2.2 rfl (by decide) (.slice va i vc) i (L.flatMap SinkV.cs) rfl (HO1.out.drew.alloc _) ⟨w1.heap.size, 0, none⟩ 1 1 [.int .u64 F, .int .u64 T, .int .i64 M, .int .i64 A, .int .i64 D] rfl rfl (row_cells _ _ _) (by simp [Value.oneCell']) (by unfold maxLen; omega) (by omega) (by simp; omega) ?_
      intro v' w5 hown5 hgrow5 _
      have HO5 := Lib.hid hown5
      have HB5 := Lib.hid ((HB1.out.drew.alloc (by simp; omega) _).grown hgrow5 (by simp; omega) (fun k hk => (HO1.out.lt k hk).1))
      have hS5 := (HA.out.drew.alloc _).grown hgrow5 (fun k hk => by have := (HOr.out.lt k hk).2; omega)
      clear hown5 hgrow5
      obtain ⟨g5, cap5, rfl, _⟩ := own_form HO5.out (by omega)
      refine hK _ _ ⟨hS5, ?_⟩
      simp only [Act.put, List.setIfInBounds_toArray, List.set_cons_zero, List.set_cons_succ]
      iterate 1 (refine wpPl_take (v := ?_) (by rfl) (fun w' hS => ?_) ?_; rotate_left; (focus (go_simp; with_reducible rfl)); simp only [Act.put, List.setIfInBounds_toArray, List.set_cons_zero, List.set_cons_succ])
      refine wpPl_done ?_
      go_wp2_with fail
      go_roundg (n - (i + 1))
      case measure => omega
      case rel =>
        refine ⟨i + 1, _, cap5, L ++ [⟨F, T, M, A, D⟩], by omega, rfl, rfl, by go_num, by simp [HLr.out], fun o ho => ?_, ?_, HB5.out⟩
        · rcases List.mem_append.1 ho with h | h
          · exact HBD.out o h
          · obtain rfl : o = ⟨F, T, M, A, D⟩ := by simpa using h
            exact ⟨bF.1, bF.2, bT.1, bT.2, bM.1, bM.2, bA.1, bA.2, bD.1, bD.2⟩
        · rw [List.flatMap_append]
          exact HO5.out
    · rcases (by have := HN3.out; omega : ¬ i < l.length ∨ (i < l.length ∧ ¬ i < 2)) with hx | ⟨hx, hx4⟩
      all_goals
        go_wp2_with fail
        go_ret
        have hl := HLr.out
        have hin : i = n := by omega
        refine ⟨_, L, rfl, ?_, by omega, HBD.out, HBr.out⟩
        rw [hl]
        exact HOr.out
end Go.Proofs.YtcanfmabkklidaaGreat
set_option linter.unusedSimpArgs false
set_option linter.unusedVariables false
set_option linter.unnecessarySimpa false
namespace Go.Proofs.YtcanfmabkklidaaGreat
open Go.RowKit

theorem res9 (w : World) (b : Nat) (v : Value) (B R Q : Int) (tmps : Array Value) (ht : tmps[2]?.getD undef = .pointer (some ⟨b, 0, none⟩)) (h : At w b [.int .i64 B, .int .i64 R, .int .i64 Q, v]) :
    (results Tryz.f9 tmps).run Tryz.prog w = .ok (.agg #[.int .i64 B, .int .i64 R, .int .i64 Q, v]) w := by
  have c0 := h.c 0 _ rfl
  have c1 := h.c 1 _ rfl
  have c2 := h.c 2 _ rfl
  have c3 := h.c 3 _ rfl
  simp only [results, Tryz.results9]
  simp [go_sem, ht, c0, c1, c2, c3]
set_option maxHeartbeats 2000000 in
set_option maxRecDepth 100000 in
theorem setup_any (W : World) (v : Value) (l : List KSinkV) (kb kr kq : Int) (h : IsR KSinkV.cs 5 W v l) :
    Calls Tryz.prog 9 #[.agg #[.int .i64 kb, .int .i64 kr, .int .i64 kq, v]] W fun e w' => ∃ (B R Q : Int) (v' : Value) (r : List SinkV), e = .returned (.agg #[.int .i64 B, .int .i64 R, .int .i64 Q, v']) ∧ w'.ownsRow W.heap.size 49 5 v' r.length (r.flatMap SinkV.cs) ∧ SetBd B R Q r ∧ Below W.heap.size W w' := by
  have HV := Lib.hid h
  obtain ⟨al, cl, rfl, hl1, hl2, bl, ol, hl3, hl4⟩ := h
  clear hl3 hl4
  have bB := within_bd kb 1 4 (by omega)
  obtain ⟨B, hB⟩ : ∃ z, within kb 1 4 = z := ⟨_, rfl⟩
  rw [hB] at bB
  have HVB := Lib.hid hB
  clear hB
  have bR := within_bd kr 1 8 (by omega)
  obtain ⟨R, hR⟩ : ∃ z, within kr 1 8 = z := ⟨_, rfl⟩
  rw [hR] at bR
  have HVR := Lib.hid hR
  clear hR
  have bQ := within_bd kq 0 30 (by omega)
  obtain ⟨Q, hQ⟩ : ∃ z, within kq 0 30 = z := ⟨_, rfl⟩
  rw [hQ] at bQ
  have HVQ := Lib.hid hQ
  clear hQ
  go_enter Tryz.func9, Tryz.ntmps9
  go_wp2_with fail
  refine wp_region_plS (fun x => At x W.heap.size [.int .i64 kb, .int .i64 kr, .int .i64 kq, .slice al l.length cl]) (fun w0 => At w0 W.heap.size [.int .i64 kb, .int .i64 kr, .int .i64 kq, .slice al l.length cl] ∧ At w0 (W.heap.size + 1) [.int .i64 0, .int .i64 0, .int .i64 0, .slice none 0 0] ∧ Below W.heap.size W w0 ∧ w0.heap.size = W.heap.size + 2) ?ph1 (fun w0 h => h.1.drew) (.take 0 <| .take 1 <| .take 2 <| .take 3 <| .take 4 <| .take 5 <| .take 6 <| .take 7 <| .take 8 <| .take 9 <| .take 10 <| .doo 11 <| .take 12 <| .doo 13 <| .done) ?plL1 (by kernel_rfl) (by kernel_rfl) (by kernel_rfl) ?plH1 (by intro c a d v w; cases d <;> exact fun h => h) ?_
  case plH1 =>
    simp only [Pl.with, List.getElem?_toArray, List.getElem?_cons_zero, List.getElem?_cons_succ]
    try rfl
  case ph1 => exact ⟨(At.new _ _ _).alloc _, At.newAt (by simp) _ _, bel_alloc (bel_alloc (Below.refl _ W) _) _, by simp⟩
  rintro w0 ⟨ha, hz, hb, hsz⟩
  have HA := Lib.hid ha
  have HZ := Lib.hid hz
  have HB := Lib.hid hb
  have HSZ := Lib.hid hsz
  clear ha hz hb hsz
  have q0 : ∀ x, At x W.heap.size [.int .i64 kb, .int .i64 kr, .int .i64 kq, .slice al l.length cl] → x.cell? ⟨W.heap.size, 0, none⟩ = some (.int .i64 kb) := fun x hx => hx.c 0 _ rfl
  have q1 : ∀ x, At x W.heap.size [.int .i64 kb, .int .i64 kr, .int .i64 kq, .slice al l.length cl] → x.cell? ⟨W.heap.size, 1, none⟩ = some (.int .i64 kr) := fun x hx => hx.c 1 _ rfl
  have q2 : ∀ x, At x W.heap.size [.int .i64 kb, .int .i64 kr, .int .i64 kq, .slice al l.length cl] → x.cell? ⟨W.heap.size, 2, none⟩ = some (.int .i64 kq) := fun x hx => hx.c 2 _ rfl
  have q3 : ∀ x, At x W.heap.size [.int .i64 kb, .int .i64 kr, .int .i64 kq, .slice al l.length cl] → x.cell? ⟨W.heap.size, 3, none⟩ = some (.slice al l.length cl) := fun x hx => hx.c 3 _ rfl
  iterate 2 (refine wpPl_take (v := ?_) (by rfl) (fun w' hS => ?_) ?_; rotate_left; (focus (go_simp; with_reducible rfl)); simp only [Act.put, List.setIfInBounds_toArray, List.set_cons_zero, List.set_cons_succ])
  (refine wpPl_call (v := .int .i64 B) (f := 16) (args := #[.int .i64 kb, .int .i64 1, .int .i64 4]) (by rfl) (fun w' hS => ?_) (fun w' hS => by rw [← HVB.out]; exact within_any _ _ _ _ (by omega) (by omega) (by omega)) ?_; (focus (go_simp; done)); simp only [Act.put, List.setIfInBounds_toArray, List.set_cons_zero, List.set_cons_succ])
  iterate 2 (refine wpPl_take (v := ?_) (by rfl) (fun w' hS => ?_) ?_; rotate_left; (focus (go_simp; with_reducible rfl)); simp only [Act.put, List.setIfInBounds_toArray, List.set_cons_zero, List.set_cons_succ])
  (refine wpPl_call (v := .int .i64 R) (f := 16) (args := #[.int .i64 kr, .int .i64 1, .int .i64 8]) (by rfl) (fun w' hS => ?_) (fun w' hS => by rw [← HVR.out]; exact within_any _ _ _ _ (by omega) (by omega) (by omega)) ?_; (focus (go_simp; done)); simp only [Act.put, List.setIfInBounds_toArray, List.set_cons_zero, List.set_cons_succ])
  iterate 2 (refine wpPl_take (v := ?_) (by rfl) (fun w' hS => ?_) ?_; rotate_left; (focus (go_simp; with_reducible rfl)); simp only [Act.put, List.setIfInBounds_toArray, List.set_cons_zero, List.set_cons_succ])
  (refine wpPl_call (v := .int .i64 Q) (f := 16) (args := #[.int .i64 kq, .int .i64 0, .int .i64 30]) (by rfl) (fun w' hS => ?_) (fun w' hS => by rw [← HVQ.out]; exact within_any _ _ _ _ (by omega) (by omega) (by omega)) ?_; (focus (go_simp; done)); simp only [Act.put, List.setIfInBounds_toArray, List.set_cons_zero, List.set_cons_succ])
  iterate 2 (refine wpPl_take (v := ?_) (by rfl) (fun w' hS => ?_) ?_; rotate_left; (focus (go_simp; with_reducible rfl)); simp only [Act.put, List.setIfInBounds_toArray, List.set_cons_zero, List.set_cons_succ])
  clear q0 q1 q2 q3
  refine wpPl_do (by rfl) (fun K hK => ?_)
  go_wp2_with (go_at_call 21; (with_reducible refine (sinks_any _ _ l (HV.out.kept HB.out).drew).mono ?_); rintro e w1 ⟨v', r, rfl, ho, hlr, hbd, hb1⟩; have HO := Lib.hid ho; have HLR := Lib.hid hlr; have HBD := Lib.hid hbd; have HB1 := Lib.hid hb1; have HA1 := Lib.hid (HA.out.drew.below hb1); have HZ1 := Lib.hid (HZ.out.drew.below hb1); obtain ⟨pa, pl, rfl⟩ := own_shape2 ho; clear ho hlr hbd hb1)
  refine ⟨HA1.out, ?_⟩
  iterate 1 (refine wpPl_take (v := ?_) (by rfl) (fun w' hS => ?_) ?_; rotate_left; (focus (go_simp; with_reducible rfl)); simp only [Act.put, List.setIfInBounds_toArray, List.set_cons_zero, List.set_cons_succ])
  refine wpPl_do (by rfl) (fun K hK => ?_)
  have z0 := HZ1.out.c 0 _ rfl
  have z1 := HZ1.out.c 1 _ rfl
  have z2 := HZ1.out.c 2 _ rfl
  have z3 := HZ1.out.c 3 _ rfl
  have f0 := HZ1.out.f 0
  have f1 := HZ1.out.f 1
  have f2 := HZ1.out.f 2
  have f3 := HZ1.out.f 3
  have lz := HZ1.out.lt
  go_wp2_with fail
  obtain ⟨w2, hw2⟩ : ∃ w2, w2 = ((((w1.setCell ⟨W.heap.size + 1, 0, none⟩ (.int .i64 B)).setCell ⟨W.heap.size + 1, 1, none⟩ (.int .i64 R)).setCell ⟨W.heap.size + 1, 2, none⟩ (.int .i64 Q)).setCell ⟨W.heap.size + 1, 3, none⟩ (.slice pa r.length pl)) := ⟨_, rfl⟩
  have hm2 : Mod [W.heap.size + 1] w1 w2 := by rw [hw2]; exact ((((Mod.refl _ _).set _ _ _ (.inl (by simp))).set _ _ _ (.inl (by simp))).set _ _ _ (.inl (by simp))).set _ _ _ (.inl (by simp))
  have ha2 : At w2 (W.heap.size + 1) [.int .i64 B, .int .i64 R, .int .i64 Q, .slice pa r.length pl] := by
    rw [hw2]
    have h0 : At _ (W.heap.size + 1) [.int .i64 B, .int .i64 0, .int .i64 0, .slice none 0 0] := HZ1.out.set 0 (.int .i64 B) (by simp)
    have h1 : At _ (W.heap.size + 1) [.int .i64 B, .int .i64 R, .int .i64 0, .slice none 0 0] := h0.set 1 (.int .i64 R) (by simp)
    have h2 : At _ (W.heap.size + 1) [.int .i64 B, .int .i64 R, .int .i64 Q, .slice none 0 0] := h1.set 2 (.int .i64 Q) (by simp)
    exact h2.set 3 _ (by simp)
  rw [← hw2]
  refine ⟨HA1.out.mod hm2 (by simp), ?_⟩
  refine wpPl_done ?_
  go_wp2_with fail
  refine bodyPost_ret (res9 _ (W.heap.size + 1) (.slice pa r.length pl) B R Q _ rfl ha2) rfl ?_
  have hs0 := HSZ.out
  have hle := HLR.out
  have hb1 := below_step HB.out.drew HB1.out
  exact ⟨B, R, Q, _, r, rfl, ownsRow_base (own_of_block HO.out (fun x hx => hm2.block x (own_lt HO.out x hx) (by have := own_new HO.out x hx; simp at this ⊢; omega))) (by simp; omega), ⟨bB.1, bB.2, bR.1, bR.2, bQ.1, by omega, by omega, HBD.out⟩, hm2.belowB hb1 hb1.size (by simp)⟩
end Go.Proofs.YtcanfmabkklidaaGreat
set_option linter.unusedSimpArgs false
set_option linter.unusedVariables false
set_option linter.unnecessarySimpa false
namespace Go.Proofs.YtcanfmabkklidaaGreat
open Go.RowKit

theorem cutL_32 {α : Type} (l : List α) (f : Nat) (hf : f ≤ l.length) : cutL l (f : Int) 32 = (l.drop f).take 32 := by
  have h1 : cutOk l (f : Int) = true := by simp [cutOk]; omega
  unfold cutL
  rw [if_pos h1]
  have h2 : (f : Int).toNat = f := by omega
  rw [h2]
  have h3 : (max 0 (min (min (32 : Int) 32) ((l.length : Int) - f))).toNat = min 32 (l.length - f) := by omega
  rw [h3]
  have h4 : (l.drop f).length = l.length - f := List.length_drop
  rcases Nat.le_total 32 (l.length - f) with h | h
  · rw [Nat.min_eq_left h]
  · rw [Nat.min_eq_right h, List.take_of_length_le (by omega), List.take_of_length_le (by omega)]
theorem acts_one (w : World) (a : ActV) (F : List Nat) (hF : ∀ x ∈ F, x < w.heap.size) (hb : ActBd7 a) (h1 : a.pipe.ops = .slice none 0 0) (h2 : a.pipe.ol = []) : ActsIn (w.alloc (.cells a.cs.toArray 43)) (.slice (some ⟨w.heap.size, 0, none⟩) 1 1) [a] F := by
  refine ⟨⟨[w.heap.size], ⟨_, 1, rfl, by simp, by unfold maxLen; simp, .inr ⟨w.heap.size, 0, rfl, rfl, by simp, fun i x hi j u hj => ?_⟩⟩, fun x hx hh => ?_⟩, fun x hx => ?_⟩
  · match i, hi with
    | 0, hi =>
      obtain rfl : a = x := by simpa using hi
      refine cell_new _ _ _ _ _ _ rfl ?_
      simpa using hj
  · have := hF x hh
    obtain rfl : x = w.heap.size := by simpa using hx
    omega
  · obtain rfl : x = a := by simpa using hx
    exact ⟨hb, [], by rw [h1, h2]; exact RdR.nil _ _ _, by simp⟩
/-- the one answer of one act -/
theorem DosAt.one {w : World} {b : Nat} {S : List Nat} {c : CoreV} {lm : List ActM} {e : Ending} {w' : World} (h : DosAt w b S c lm e w') {a : AnsM} (ha : (c.acts lm).2 = [a]) :
    ∃ g cap ra rc ta tc S2, e = .returned (.slice (some ⟨g, 0, none⟩) 1 cap) ∧ w.heap.size ≤ g ∧ g < w'.heap.size ∧ 1 ≤ cap ∧ cap ≤ maxLen ∧ w'.cell? ⟨g, 0, none⟩ = some (.int .i64 a.err) ∧ w'.cell? ⟨g, 1, none⟩ = some (.slice ra a.rows.length rc) ∧ w'.cell? ⟨g, 2, none⟩ = some (.slice ta a.told.length tc) ∧
      w'.ownsRow w.heap.size 64 5 (.slice ra a.rows.length rc) a.rows.length (a.rows.flatMap RowV.cs) ∧ w'.ownsRow w.heap.size 52 4 (.slice ta a.told.length tc) a.told.length (a.told.flatMap RelV.cs) ∧
      CoreAt w' b S2 (c.acts lm).1 ∧ Into S2 S w.heap.size ∧ Mod S w w' ∧ (∀ x ∈ (Value.slice ra a.rows.length rc).ownBlock.toList, x ∉ S2) ∧ (∀ x ∈ (Value.slice ta a.told.length tc).ownBlock.toList, x ∉ S2) ∧ g ∉ S2 := by
  obtain ⟨⟨v1, LA, S2, rfl, ho1, hm1, hao, hc1, hi1, hd1, hd2⟩, hmm⟩ := h
  rw [ha] at hm1
  match LA, hm1 with
  | [x], hm1 =>
    simp only [List.map_cons, List.map_nil, List.cons.injEq, and_true] at hm1
    subst hm1
    have hoa := hao x (by simp)
    obtain ⟨g1, cap1, hv, hg1, hgl1, hcp1, hcm1, hcs1⟩ := own_form ho1 (by simp)
    obtain ⟨ra, rc, er⟩ := own_shape2 hoa.r
    obtain ⟨ta, tc, et⟩ := own_shape2 hoa.t
    have hb := hd1 x (by simp)
    have e0 := hcs1 0 _ rfl
    have e1 := hcs1 1 _ rfl
    have e2 := hcs1 2 _ rfl
    have hr := hoa.r
    have ht := hoa.t
    unfold AnsV.bl at hb
    rw [er] at e1 hr hb
    rw [et] at e2 ht hb
    refine ⟨g1, cap1, ra, rc, ta, tc, S2, by rw [hv]; rfl, hg1, hgl1, hcp1, hcm1, e0, e1, e2, hr, ht, hc1, hi1, hmm, fun y hy => hb y (List.mem_append_left _ hy), fun y hy => hb y (List.mem_append_right _ hy), hd2 g1 (by rw [hv]; simp [Value.ownBlock])⟩
/-- all rows of a tenant -/
def rowsV (c : CoreV) (t : Nat) : List RowV := match c.cells t with | some x => x.rows | none => []
theorem act_told (c : CoreV) (t : Nat) (f n : Int) : (c.acts [ActV.m ⟨5, (t : Int), f, n, ⟨.slice none 0 0, [], 0, 0, 0, 0, 0⟩, false, 0, 0, 0, 0⟩]).1 = c ∧ ∃ a : AnsM, (c.acts [ActV.m ⟨5, (t : Int), f, n, ⟨.slice none 0 0, [], 0, 0, 0, 0, 0⟩, false, 0, 0, 0, 0⟩]).2 = [a] ∧ a.told = cutL (c.board t) f n := by
  simp [CoreV.acts, CoreV.act, ActV.m]
theorem act_rows (c : CoreV) (t : Nat) (f n : Int) : (c.acts [ActV.m ⟨4, (t : Int), f, n, ⟨.slice none 0 0, [], 0, 0, 0, 0, 0⟩, false, 0, 0, 0, 0⟩]).1 = c ∧ ∃ a : AnsM, (c.acts [ActV.m ⟨4, (t : Int), f, n, ⟨.slice none 0 0, [], 0, 0, 0, 0, 0⟩, false, 0, 0, 0, 0⟩]).2 = [a] ∧ a.rows = cutL (rowsV c t) f n := by
  cases h : c.cells t with
  | none => simp [CoreV.acts, CoreV.act, ActV.m, h, rowsV, cutL]
  | some x => simp [CoreV.acts, CoreV.act, ActV.m, h, rowsV]
theorem one_ans {α : Type} {L : List AnsV} {m : List AnsM} (h : L.map AnsV.m = m) {g : AnsM → α} {x : α} (hm : ∃ a, m = [a] ∧ g a = x) : ∃ a, L = [a] ∧ g a.m = x := by
  obtain ⟨a, rfl, hx⟩ := hm
  match L, h with
  | [y], h =>
    simp only [List.map_cons, List.map_nil, List.cons.injEq, and_true] at h
    exact ⟨y, rfl, by rw [h]; exact hx⟩

set_option maxHeartbeats 2000000 in
set_option maxRecDepth 100000 in
theorem told_all (b : Nat) (S : List Nat) (c : CoreV) (N : Nat) (t : Nat) (ht : t ≤ 7) (hq0 : 0 ≤ c.quota) (hq1 : c.quota ≤ 1000) (w : World) (h : CoreAt w b S c) (ok : CoreOk c N) (hN : N + 6 ≤ 100000) (hl : (c.board t).length ≤ 640) :
    Calls Tryz.prog 13 #[.pointer (some ⟨b, 0, none⟩), .int .i64 t] w fun e w' => ∃ (v : Value) (S' : List Nat), e = .returned v ∧ w'.ownsRow w.heap.size 52 4 v (c.board t).length ((c.board t).flatMap RelV.cs) ∧ CoreAt w' b S' c ∧ Into S' S w.heap.size ∧ (∀ x ∈ v.ownBlock.toList, x ∉ S') ∧ Mod S w w' := by
  obtain ⟨l, hle⟩ : ∃ l, l = c.board t := ⟨_, rfl⟩
  rw [← hle] at hl ⊢
  have HLE := Lib.hid hle
  have HC0 := Lib.hid h
  have HOK := Lib.hid ok
  have HQ := Lib.hid (And.intro hq0 hq1)
  obtain ⟨i0, hi3, hz0, hz1, hz2⟩ := info_parts info52
  have HI := Lib.hid (And.intro hi3 (And.intro hz0 (And.intro hz1 hz2)))
  have hwl := h.lt
  clear hi3 hz0 hz1 hz2 h ok hq0 hq1 hle
  go_enter Tryz.func13, Tryz.ntmps13
  go_wp2
  go_loopg [5, 7] 20 (fun g v5 v7 wr => ∃ (k : Nat) (va : Option Addr) (vc : Nat) (L : List RelV) (S' : List Nat), k ≤ 20 ∧ g = 20 - k ∧ v5 = .slice va L.length vc ∧ v7 = .int .i64 k ∧ L = l.take (32 * k) ∧ CoreAt wr b S' c ∧ wr.ownsRow w.heap.size 52 4 (.slice va L.length vc) L.length (L.flatMap RelV.cs) ∧ (∀ x ∈ (Value.slice va L.length vc).ownBlock.toList, x ∉ S') ∧ Into S' S w.heap.size ∧ Mod S w wr)
  case atStart => exact ⟨0, none, 0, [], S, by omega, by omega, rfl, rfl, rfl, HC0.out, World.ownsRow_nil _ _ _ _, by simp [Value.ownBlock], Into.refl _ _, Mod.refl _ _⟩
  case round =>
    obtain ⟨k, va, vc, L, S', hk, rfl, rfl, rfl, hL, hcr, hor, hvd, hir, hmr⟩ := hrel
    have HLr := Lib.hid hL
    have hLl : L.length ≤ l.length := by rw [hL, List.length_take]; omega
    have HCR := Lib.hid hcr
    have HOR := Lib.hid hor
    have HVD := Lib.hid hvd
    have HIR := Lib.hid hir
    have HMR := Lib.hid hmr
    have hb2 : w.heap.size ≤ wr.heap.size := hmr.size
    clear hL hcr hor hvd hir hmr
    by_cases hlt : k < 20
    · have HAI := Lib.hid (acts_one wr ⟨5, (t : Int), (L.length : Int), 32, ⟨.slice none 0 0, [], 0, 0, 0, 0, 0⟩, false, 0, 0, 0, 0⟩ S' HCR.out.lt ⟨by simp, by simp, by simp, by simp; omega, by simp⟩ rfl rfl)
      obtain ⟨hac1, am, hac2, hac3⟩ := act_told c t L.length 32
      have HDO := Lib.hid (show Calls Tryz.prog 12 #[.pointer (some ⟨b, 0, none⟩), .slice (some ⟨wr.heap.size, 0, none⟩) 1 1] (wr.alloc (.cells #[.int .i64 5, .int .i64 t, .int .i64 (L.length : Int), .int .i64 32, .slice none 0 0, .int .i64 0, .int .i64 0, .int .i64 0, .int .i64 0, .int .i64 0, .bool false, .int .i64 0, .int .i64 0, .int .i64 0, .int .u64 0] 43)) (DosAt (wr.alloc (.cells #[.int .i64 5, .int .i64 t, .int .i64 (L.length : Int), .int .i64 32, .slice none 0 0, .int .i64 0, .int .i64 0, .int .i64 0, .int .i64 0, .int .i64 0, .bool false, .int .i64 0, .int .i64 0, .int .i64 0, .int .u64 0] 43)) b S' c [ActV.m ⟨5, (t : Int), (L.length : Int), 32, ⟨.slice none 0 0, [], 0, 0, 0, 0, 0⟩, false, 0, 0, 0, 0⟩]) from dos_at b S' c N _ [⟨5, (t : Int), (L.length : Int), 32, ⟨.slice none 0 0, [], 0, 0, 0, 0, 0⟩, false, 0, 0, 0, 0⟩] HQ.out.1 HQ.out.2 _ (HCR.out.below (bel_alloc (Below.refl _ _) _)) HAI.out HOK.out (by simp; omega))
      rw [← HLE.out, cutL_32 l _ hLl] at hac3
      have HA1 := Lib.hid hac1
      have HA2 := Lib.hid hac2
      obtain ⟨aer, arl, atl⟩ := am
      simp only at hac3
      subst hac3
      obtain ⟨tl, htl⟩ : ∃ tl, tl = (l.drop L.length).take 32 := ⟨_, rfl⟩
      have htl3 : tl.length ≤ 32 := by rw [htl, List.length_take]; omega
      have HTL := Lib.hid htl
      rw [← htl] at HA2
      clear hac1 hac2 htl
      by_cases hnil : tl.length = 0
      · go_wp2_with (go_at_call 12; (with_reducible refine HDO.out.mono ?_); rintro e w1 hdo; obtain ⟨g1, cap1, ra, rc, ta, tc, S2, rfl, hg1, hgl1, hcp1, hcm1, e0, e1, e2, hr1, ht1, hc1, hi1, hmm, hbr, hbt, hgs⟩ := hdo.one HA2.out; simp only at e0 e1 e2 hr1 ht1; rw [HA1.out] at hc1; have HC1 := Lib.hid hc1; have HI1 := Lib.hid hi1; have HM1 := Lib.hid hmm; have HT1 := Lib.hid ht1; have HOR1 := Lib.hid (own_mod (HOR.out.alloc _) hmm HVD.out); have hs1 := hmm.size; simp at hs1; clear hdo hr1 ht1 hc1 hi1 hmm hbr hbt hgs)
        go_ret
        have hfull : L = l := by
          have h0 : tl = [] := List.eq_nil_of_length_eq_zero hnil
          have h1 := HTL.out
          rw [h0] at h1
          have h2 : ((l.drop L.length).take 32).length = 0 := by rw [← h1]; rfl
          rw [List.length_take, List.length_drop] at h2
          have h3 : L.length = min (32 * k) l.length := by rw [HLr.out, List.length_take]
          rw [HLr.out]
          exact List.take_of_length_le (by omega)
        clear HLr HTL
        subst hfull
        exact ⟨_, S2, rfl, HOR1.out, HC1.out, HIR.out.trans HI1.out (by simp; omega), fun x hx => into_not HI1.out (by have := own_lt HOR.out x hx; simp; omega) (HVD.out x hx), (HMR.out.new _).trans HM1.out HIR.out⟩
      · have hn1 : ((tl.length : Int) == 0) = false := beq_eq_false_iff_ne.2 (by omega)
        have hn2 : ¬ (32 < (tl.length : Int)) := by omega
        have hn3 : ¬ ((tl.length : Int) = 0) := by omega
        go_wp2_with (first
          | (go_at_call 12; (with_reducible refine HDO.out.mono ?_); rintro e w1 hdo; obtain ⟨g1, cap1, ra, rc, ta, tc, S2, rfl, hg1, hgl1, hcp1, hcm1, e0, e1, e2, hr1, ht1, hc1, hi1, hmm, hbr, hbt, hgs⟩ := hdo.one HA2.out; simp only at e0 e1 e2 hr1 ht1; rw [HA1.out] at hc1; have HC1 := Lib.hid hc1; have HI1 := Lib.hid hi1; have HM1 := Lib.hid hmm; have HT1 := Lib.hid ht1; have HOR1 := Lib.hid (own_mod (HOR.out.alloc _) hmm HVD.out); have hs1 := hmm.size; simp at hs1; clear hdo hr1 ht1 hc1 hi1 hmm hbr hbt hgs)
          | (at_builtin; refine wpList_append_rdr_at rfl (.tmp 35) (.tmp 39) 46 rfl w.heap.size 52 i0 _ 4 32 Tryz.underlying46 HI.out.1 HI.out.2.1 HI.out.2.2.1 HI.out.2.2.2 rfl (by decide) (by decide) (fun _ => rfl) RelV.one (.slice va L.length vc) L rfl HOR1.out (.slice ta tl.length tc) tl _ rfl (RdR.of_own (cs := RelV.cs) (k := 4) (fun _ => rfl) HT1.out) (by omega) (by omega) ?_; intro v2 w2 hown2 hgrow2 hat2; have HO2 := Lib.hid hown2; have HG2 := Lib.hid hgrow2; have HT2 := Lib.hid hat2; obtain ⟨ta2, tc2, rfl⟩ := own_shape2 hown2; clear hown2 hgrow2 hat2))
        go_roundg (20 - (k + 1))
        case measure => omega
        case rel =>
          have hvd2 : ∀ x ∈ (Value.slice va L.length vc).ownBlock.toList, x ∉ S2 := fun x hx => into_not HI1.out (by have := own_lt HOR.out x hx; simp; omega) (HVD.out x hx)
          have hm2 := Mod.of_grown HG2.out (Value.slice va L.length vc).ownBlock.toList (fun k hk => .inl (by simpa using hk))
          have hcl := HC1.out.lt
          refine ⟨k + 1, _, _, L ++ tl, S2, by omega, rfl, by rw [List.length_append], by go_num, ?_, HC1.out.apart hm2 hvd2, HO2.out, app_block (n := 0) HT2.out hvd2 (fun hh => by have := hcl _ hh; omega), HIR.out.trans HI1.out (by simp; omega), ((HMR.out.new _).trans HM1.out HIR.out).grow HG2.out (fun x hx => .inr (own_new HOR.out x (by simpa using hx)))⟩
          have h1 := HTL.out
          have h2 : tl.length = min 32 (l.length - L.length) := by rw [h1, List.length_take, List.length_drop]
          have h3 : L.length = min (32 * k) l.length := by rw [HLr.out, List.length_take]
          have h4 : L.length = 32 * k := by omega
          rw [h1, h4, show 32 * (k + 1) = 32 * k + 32 by omega, List.take_add]
          exact congrArg (· ++ _) HLr.out
    · obtain rfl : k = 20 := by omega
      have hfull : L = l := by rw [HLr.out]; exact List.take_of_length_le (by omega)
      go_wp2
      go_ret
      subst hfull
      exact ⟨_, S', rfl, HOR.out, HCR.out, HIR.out, HVD.out, HMR.out⟩

set_option maxHeartbeats 2000000 in
set_option maxRecDepth 100000 in
theorem rowsall_any (b : Nat) (S : List Nat) (c : CoreV) (N : Nat) (t : Nat) (ht : t ≤ 7) (hq0 : 0 ≤ c.quota) (hq1 : c.quota ≤ 1000) (w : World) (h : CoreAt w b S c) (ok : CoreOk c N) (hN : N + 6 ≤ 100000) (hl : (rowsV c t).length ≤ 6400) :
    Calls Tryz.prog 19 #[.pointer (some ⟨b, 0, none⟩), .int .i64 t] w fun e w' => ∃ (v : Value) (S' : List Nat), e = .returned v ∧ w'.ownsRow w.heap.size 64 5 v (rowsV c t).length ((rowsV c t).flatMap RowV.cs) ∧ CoreAt w' b S' c ∧ Into S' S w.heap.size ∧ (∀ x ∈ v.ownBlock.toList, x ∉ S') ∧ Mod S w w' := by
  obtain ⟨l, hle⟩ : ∃ l, l = rowsV c t := ⟨_, rfl⟩
  rw [← hle] at hl ⊢
  have HLE := Lib.hid hle
  have HC0 := Lib.hid h
  have HOK := Lib.hid ok
  have HQ := Lib.hid (And.intro hq0 hq1)
  obtain ⟨i0, hi3, hz0, hz1, hz2⟩ := info_parts info64
  have HI := Lib.hid (And.intro hi3 (And.intro hz0 (And.intro hz1 hz2)))
  have hwl := h.lt
  clear hi3 hz0 hz1 hz2 h ok hq0 hq1 hle
  go_enter Tryz.func19, Tryz.ntmps19
  go_wp2
  go_loopg [5, 7] 200 (fun g v5 v7 wr => ∃ (k : Nat) (va : Option Addr) (vc : Nat) (L : List RowV) (S' : List Nat), k ≤ 200 ∧ g = 200 - k ∧ v5 = .slice va L.length vc ∧ v7 = .int .i64 k ∧ L = l.take (32 * k) ∧ CoreAt wr b S' c ∧ wr.ownsRow w.heap.size 64 5 (.slice va L.length vc) L.length (L.flatMap RowV.cs) ∧ (∀ x ∈ (Value.slice va L.length vc).ownBlock.toList, x ∉ S') ∧ Into S' S w.heap.size ∧ Mod S w wr)
  case atStart => exact ⟨0, none, 0, [], S, by omega, by omega, rfl, rfl, rfl, HC0.out, World.ownsRow_nil _ _ _ _, by simp [Value.ownBlock], Into.refl _ _, Mod.refl _ _⟩
  case round =>
    obtain ⟨k, va, vc, L, S', hk, rfl, rfl, rfl, hL, hcr, hor, hvd, hir, hmr⟩ := hrel
    have HLr := Lib.hid hL
    have hLl : L.length ≤ l.length := by rw [hL, List.length_take]; omega
    have HCR := Lib.hid hcr
    have HOR := Lib.hid hor
    have HVD := Lib.hid hvd
    have HIR := Lib.hid hir
    have HMR := Lib.hid hmr
    have hb2 : w.heap.size ≤ wr.heap.size := hmr.size
    clear hL hcr hor hvd hir hmr
    by_cases hlt : k < 200
    · have HAI := Lib.hid (acts_one wr ⟨4, (t : Int), (L.length : Int), 32, ⟨.slice none 0 0, [], 0, 0, 0, 0, 0⟩, false, 0, 0, 0, 0⟩ S' HCR.out.lt ⟨by simp, by simp, by simp, by simp; omega, by simp⟩ rfl rfl)
      obtain ⟨hac1, am, hac2, hac3⟩ := act_rows c t L.length 32
      have HDO := Lib.hid (show Calls Tryz.prog 12 #[.pointer (some ⟨b, 0, none⟩), .slice (some ⟨wr.heap.size, 0, none⟩) 1 1] (wr.alloc (.cells #[.int .i64 4, .int .i64 t, .int .i64 (L.length : Int), .int .i64 32, .slice none 0 0, .int .i64 0, .int .i64 0, .int .i64 0, .int .i64 0, .int .i64 0, .bool false, .int .i64 0, .int .i64 0, .int .i64 0, .int .u64 0] 43)) (DosAt (wr.alloc (.cells #[.int .i64 4, .int .i64 t, .int .i64 (L.length : Int), .int .i64 32, .slice none 0 0, .int .i64 0, .int .i64 0, .int .i64 0, .int .i64 0, .int .i64 0, .bool false, .int .i64 0, .int .i64 0, .int .i64 0, .int .u64 0] 43)) b S' c [ActV.m ⟨4, (t : Int), (L.length : Int), 32, ⟨.slice none 0 0, [], 0, 0, 0, 0, 0⟩, false, 0, 0, 0, 0⟩]) from dos_at b S' c N _ [⟨4, (t : Int), (L.length : Int), 32, ⟨.slice none 0 0, [], 0, 0, 0, 0, 0⟩, false, 0, 0, 0, 0⟩] HQ.out.1 HQ.out.2 _ (HCR.out.below (bel_alloc (Below.refl _ _) _)) HAI.out HOK.out (by simp; omega))
      rw [← HLE.out, cutL_32 l _ hLl] at hac3
      have HA1 := Lib.hid hac1
      have HA2 := Lib.hid hac2
      obtain ⟨aer, arl, atl⟩ := am
      simp only at hac3
      subst hac3
      obtain ⟨tl, htl⟩ : ∃ tl, tl = (l.drop L.length).take 32 := ⟨_, rfl⟩
      have htl3 : tl.length ≤ 32 := by rw [htl, List.length_take]; omega
      have HTL := Lib.hid htl
      rw [← htl] at HA2
      clear hac1 hac2 htl
      by_cases hnil : tl.length = 0
      · go_wp2_with (go_at_call 12; (with_reducible refine HDO.out.mono ?_); rintro e w1 hdo; obtain ⟨g1, cap1, ra, rc, ta, tc, S2, rfl, hg1, hgl1, hcp1, hcm1, e0, e1, e2, hr1, ht1, hc1, hi1, hmm, hbr, hbt, hgs⟩ := hdo.one HA2.out; simp only at e0 e1 e2 hr1 ht1; rw [HA1.out] at hc1; have HC1 := Lib.hid hc1; have HI1 := Lib.hid hi1; have HM1 := Lib.hid hmm; have HT1 := Lib.hid hr1; have HOR1 := Lib.hid (own_mod (HOR.out.alloc _) hmm HVD.out); have hs1 := hmm.size; simp at hs1; clear hdo hr1 ht1 hc1 hi1 hmm hbr hbt hgs)
        go_ret
        have hfull : L = l := by
          have h0 : tl = [] := List.eq_nil_of_length_eq_zero hnil
          have h1 := HTL.out
          rw [h0] at h1
          have h2 : ((l.drop L.length).take 32).length = 0 := by rw [← h1]; rfl
          rw [List.length_take, List.length_drop] at h2
          have h3 : L.length = min (32 * k) l.length := by rw [HLr.out, List.length_take]
          rw [HLr.out]
          exact List.take_of_length_le (by omega)
        clear HLr HTL
        subst hfull
        exact ⟨_, S2, rfl, HOR1.out, HC1.out, HIR.out.trans HI1.out (by simp; omega), fun x hx => into_not HI1.out (by have := own_lt HOR.out x hx; simp; omega) (HVD.out x hx), (HMR.out.new _).trans HM1.out HIR.out⟩
      · have hn1 : ((tl.length : Int) == 0) = false := beq_eq_false_iff_ne.2 (by omega)
        have hn2 : ¬ (32 < (tl.length : Int)) := by omega
        have hn3 : ¬ ((tl.length : Int) = 0) := by omega
        go_wp2_with (first
          | (go_at_call 12; (with_reducible refine HDO.out.mono ?_); rintro e w1 hdo; obtain ⟨g1, cap1, ra, rc, ta, tc, S2, rfl, hg1, hgl1, hcp1, hcm1, e0, e1, e2, hr1, ht1, hc1, hi1, hmm, hbr, hbt, hgs⟩ := hdo.one HA2.out; simp only at e0 e1 e2 hr1 ht1; rw [HA1.out] at hc1; have HC1 := Lib.hid hc1; have HI1 := Lib.hid hi1; have HM1 := Lib.hid hmm; have HT1 := Lib.hid hr1; have HOR1 := Lib.hid (own_mod (HOR.out.alloc _) hmm HVD.out); have hs1 := hmm.size; simp at hs1; clear hdo hr1 ht1 hc1 hi1 hmm hbr hbt hgs)
          | (at_builtin; refine wpList_append_rdr_at rfl (.tmp 35) (.tmp 39) 59 rfl w.heap.size 64 i0 _ 5 40 Tryz.underlying59 HI.out.1 HI.out.2.1 HI.out.2.2.1 HI.out.2.2.2 rfl (by decide) (by decide) (fun _ => rfl) RowV.one (.slice va L.length vc) L rfl HOR1.out (.slice ra tl.length rc) tl _ rfl (RdR.of_own (cs := RowV.cs) (k := 5) (fun _ => rfl) HT1.out) (by omega) (by omega) ?_; intro v2 w2 hown2 hgrow2 hat2; have HO2 := Lib.hid hown2; have HG2 := Lib.hid hgrow2; have HT2 := Lib.hid hat2; obtain ⟨ta2, tc2, rfl⟩ := own_shape2 hown2; clear hown2 hgrow2 hat2))
        go_roundg (200 - (k + 1))
        case measure => omega
        case rel =>
          have hvd2 : ∀ x ∈ (Value.slice va L.length vc).ownBlock.toList, x ∉ S2 := fun x hx => into_not HI1.out (by have := own_lt HOR.out x hx; simp; omega) (HVD.out x hx)
          have hm2 := Mod.of_grown HG2.out (Value.slice va L.length vc).ownBlock.toList (fun k hk => .inl (by simpa using hk))
          have hcl := HC1.out.lt
          refine ⟨k + 1, _, _, L ++ tl, S2, by omega, rfl, by rw [List.length_append], by go_num, ?_, HC1.out.apart hm2 hvd2, HO2.out, app_block (n := 0) HT2.out hvd2 (fun hh => by have := hcl _ hh; omega), HIR.out.trans HI1.out (by simp; omega), ((HMR.out.new _).trans HM1.out HIR.out).grow HG2.out (fun x hx => .inr (own_new HOR.out x (by simpa using hx)))⟩
          have h1 := HTL.out
          have h2 : tl.length = min 32 (l.length - L.length) := by rw [h1, List.length_take, List.length_drop]
          have h3 : L.length = min (32 * k) l.length := by rw [HLr.out, List.length_take]
          have h4 : L.length = 32 * k := by omega
          rw [h1, h4, show 32 * (k + 1) = 32 * k + 32 by omega, List.take_add]
          exact congrArg (· ++ _) HLr.out
    · obtain rfl : k = 200 := by omega
      have hfull : L = l := by rw [HLr.out]; exact List.take_of_length_le (by omega)
      go_wp2
      go_ret
      subst hfull
      exact ⟨_, S', rfl, HOR.out, HCR.out, HIR.out, HVD.out, HMR.out⟩
end Go.Proofs.YtcanfmabkklidaaGreat
set_option linter.unusedSimpArgs false
set_option linter.unusedVariables false
set_option linter.unnecessarySimpa false
namespace Go.Proofs.YtcanfmabkklidaaGreat
open Go.RowKit

/-- which turn of a tick is a tenant's -/
def slotOf (ticks t : Nat) : Nat := (t + 8 - ticks % 8) % 8
theorem turn_slot {ticks t i : Nat} (ht : t ≤ 7) (hi : i < 8) : turnI ticks i = t ↔ i = slotOf ticks t := by
  unfold turnI slotOf
  omega
theorem serve1_cell (w0 : Nat → Int) (c : CoreV) (i t : Nat) : (c.serve1 w0 i).cells t = if turnI c.ticks i = t then (c.cells t).map (fun x => (x.serve (max 0 (min c.budget (w0 t)))).1) else c.cells t := by
  unfold CoreV.serve1
  simp only
  by_cases h : turnI c.ticks i = t
  · rw [h, if_pos rfl]
    cases hx : c.cells t with
    | none => simp [hx]
    | some x =>
      simp only
      split <;> simp [CoreV.setCell]
  · rw [if_neg h]
    cases hx : c.cells (turnI c.ticks i) with
    | none => rfl
    | some x =>
      simp only
      have h2 : ¬ t = turnI c.ticks i := fun e => h e.symm
      split <;> simp [CoreV.setCell, h2]
theorem servM_cell (c : CoreV) (t : Nat) (ht : t ≤ 7) : ∀ m, m ≤ 8 → (servM c m).cells t = if slotOf c.ticks t < m then (c.cells t).map (fun x => (x.serve (max 0 (min c.budget (waitingOf c t)))).1) else c.cells t
  | 0, _ => by simp [servM]
  | m + 1, hm => by
    have ih := servM_cell c t ht m (by omega)
    have hs := servM_same c m
    rw [servM_succ, serve1_cell, hs.1, hs.2.1, ih]
    by_cases h : turnI c.ticks m = t
    · have e := (turn_slot ht (by omega)).1 h
      rw [if_pos h, if_neg (by omega), if_pos (by omega)]
    · rw [if_neg h]
      have e : ¬ m = slotOf c.ticks t := fun e => h ((turn_slot ht (by omega)).2 e)
      by_cases h2 : slotOf c.ticks t < m
      · rw [if_pos h2, if_pos (by omega)]
      · rw [if_neg h2, if_neg (by omega)]
theorem serv_cell (c : CoreV) (t : Nat) (ht : t ≤ 7) : (servM c 8).cells t = (c.cells t).map (fun x => (x.serve (max 0 (min c.budget (waitingOf c t)))).1) := by
  rw [servM_cell c t ht 8 (Nat.le_refl _), if_pos]
  unfold slotOf
  omega
/-- a tenant that isn't fed: its cell, if any -/
def NoFeed (c : CoreV) (t : Nat) : Prop := ∀ x, c.cells t = some x → x.run.pipe.feed = -1
theorem tell_sink (p : PotV) (s : SinkV) (i e : Int) : (p.tell s i e).sink = i := by
  unfold PotV.tell
  split <;> rfl
theorem tell1_cell (c : CoreV) (i t : Nat) (h : NoFeed c t) : (c.tell1 i).cells t = c.cells t := by
  unfold CoreV.tell1
  simp only
  have hk := (tell_sink (c.pots.getD i default) (c.sinks.getD i default) i (epochI (c.sinks.getD i default) c.ticks))
  generalize (c.pots.getD i default).tell (c.sinks.getD i default) i (epochI (c.sinks.getD i default) c.ticks) = r at hk ⊢
  split
  · split
    · rfl
    · simp only [CoreV.feed]
      split
      · cases hx : c.cells t with
        | none => rfl
        | some x =>
          have h1 := h x hx
          simp only [Option.map_some, feed1, h1, hk]
          rw [if_neg]
          simp
      · rfl
  · rfl
theorem tellM_cell (c : CoreV) (t : Nat) (h : NoFeed c t) : ∀ m, (tellM c m).cells t = c.cells t
  | 0 => rfl
  | m + 1 => by
    have ih := tellM_cell c t h m
    rw [tellM_succ, tell1_cell _ _ _ (fun x hx => h x (by rw [← ih]; exact hx)), ih]
theorem serve_pipe (x : CellV) (n : Int) (ok : RunOk x.run) : (x.serve n).1.run.pipe = x.run.pipe := (ok.take _).2.2
theorem tick_cell (c : CoreV) (t : Nat) (ht : t ≤ 7) (h : NoFeed c t) (ok : ∀ x, c.cells t = some x → RunOk x.run) : c.tick.cells t = (c.cells t).map (fun x => (x.serve (max 0 (min c.budget (waitingOf c t)))).1) := by
  rw [tick_eq, tellM_cell]
  · exact serv_cell c t ht
  · intro x hx
    have hx' : (servM c 8).cells t = some x := hx
    rw [serv_cell c t ht] at hx'
    cases hy : c.cells t with
    | none => rw [hy] at hx'; simp at hx'
    | some y =>
      rw [hy] at hx'
      simp only [Option.map_some, Option.some.injEq] at hx'
      rw [← hx', serve_pipe y _ (ok y hy)]
      exact h y hy
theorem tick_same (c : CoreV) : c.tick.budget = c.budget ∧ c.tick.room = c.room ∧ c.tick.ticks = c.ticks + 1 := by
  rw [tick_eq]
  have h1 : ∀ (d : CoreV) m, (tellM d m).budget = d.budget ∧ (tellM d m).room = d.room ∧ (tellM d m).ticks = d.ticks := by
    intro d m
    induction m with
    | zero => exact ⟨rfl, rfl, rfl⟩
    | succ m ih =>
      have h := tell1_same (tellM d m) m
      rw [tellM_succ]
      exact ⟨h.2.2.1.trans ih.1, h.2.2.2.1.trans ih.2.1, h.1.trans ih.2.2⟩
  have h2 : ∀ m, (servM c m).budget = c.budget ∧ (servM c m).room = c.room := by
    intro m
    induction m with
    | zero => exact ⟨rfl, rfl⟩
    | succ m ih =>
      have h := serve1_same (waitingOf c) (servM c m) m
      rw [servM_succ]
      exact ⟨h.2.1.trans ih.1, h.2.2.2.1.trans ih.2⟩
  have h := h1 { servM c 8 with ticks := c.ticks + 1 } c.sinks.length
  exact ⟨h.1.trans (h2 8).1, h.2.1.trans (h2 8).2, h.2.2⟩
/-- two cores in which a tenant is the same -/
structure Sim (t : Nat) (ca cb : CoreV) : Prop where
  room : ca.room = cb.room
  budget : ca.budget = cb.budget
  cell : ∃ x, ca.cells t = some x ∧ cb.cells t = some x ∧ x.run.pipe.feed = -1 ∧ RunOk x.run
theorem Sim.tick {t : Nat} (ht : t ≤ 7) {ca cb : CoreV} (h : Sim t ca cb) : Sim t ca.tick cb.tick := by
  obtain ⟨x, h1, h2, h3, h4⟩ := h.cell
  have sa := tick_same ca
  have sb := tick_same cb
  have ka := tick_cell ca t ht (fun y hy => by rw [h1] at hy; obtain rfl := Option.some.inj hy; exact h3) (fun y hy => by rw [h1] at hy; obtain rfl := Option.some.inj hy; exact h4)
  have kb := tick_cell cb t ht (fun y hy => by rw [h2] at hy; obtain rfl := Option.some.inj hy; exact h3) (fun y hy => by rw [h2] at hy; obtain rfl := Option.some.inj hy; exact h4)
  have wa : waitingOf ca t = (x.queue.length : Int) := by unfold waitingOf; rw [h1]
  have wb : waitingOf cb t = (x.queue.length : Int) := by unfold waitingOf; rw [h2]
  rw [h1, wa, Option.map_some] at ka
  rw [h2, wb, ← h.budget, Option.map_some] at kb
  exact ⟨by rw [sa.2.1, sb.2.1, h.room], by rw [sa.1, sb.1, h.budget], _, ka, kb, by rw [serve_pipe _ _ h4]; exact h3, (h4.take _).1⟩
theorem act_room (c : CoreV) (a : ActM) : (c.act a).1.room = c.room ∧ (c.act a).1.budget = c.budget := by
  unfold CoreV.act
  split
  · unfold CoreV.register
    split
    · exact ⟨rfl, rfl⟩
    · split <;> exact ⟨rfl, rfl⟩
  · split
    · have h := tick_same c
      exact ⟨h.2.1, h.1⟩
    · split
      · exact ⟨rfl, rfl⟩
      · split
        · exact ⟨rfl, rfl⟩
        · split <;> exact ⟨rfl, rfl⟩
theorem offer_run (x : CellV) (room : Int) (i : InpV) : (x.offer room i).1.run = x.run := by
  unfold CellV.offer CellV.refuse
  split
  · rfl
  · split
    · rfl
    · split <;> rfl
theorem Sim.act {t : Nat} (ht : t ≤ 7) {ca cb : CoreV} (h : Sim t ca cb) (a : ActM) (hk : a.kind = 3 ∨ a.tenant = t) (h5 : 1 ≤ a.kind) (h6 : a.kind ≤ 5) : Sim t (ca.act a).1 (cb.act a).1 ∧ (a.kind ≠ 5 → (ca.act a).2 = (cb.act a).2) := by
  by_cases h3 : a.kind = 3
  · have e : ∀ c : CoreV, c.act a = (c.tick, ⟨0, [], []⟩) := fun c => by simp [CoreV.act, h3]
    rw [e ca, e cb]
    exact ⟨h.tick ht, fun _ => rfl⟩
  · have hat : a.tenant = t := by rcases hk with hk | hk; exact absurd hk h3; exact hk
    have ra := act_room ca a
    have rb := act_room cb a
    obtain ⟨x, h1, h2, h7, h8⟩ := h.cell
    have hb : ∀ y : CellV, (ca.act a).1.cells t = some y → (cb.act a).1.cells t = some y → y.run = x.run → Sim t (ca.act a).1 (cb.act a).1 := fun y ya yb yr => ⟨by rw [ra.1, rb.1]; exact h.room, by rw [ra.2, rb.2]; exact h.budget, y, ya, yb, by rw [yr]; exact h7, by rw [yr]; exact h8⟩
    rcases (by omega : a.kind = 1 ∨ a.kind = 2 ∨ a.kind = 4 ∨ a.kind = 5) with k | k | k | k
    · have e : ∀ c : CoreV, c.cells t = some x → c.act a = (c, ⟨6, [], []⟩) := fun c hc => by simp [CoreV.act, k, CoreV.register, hat, hc]
      rw [e ca h1, e cb h2] at hb ⊢
      exact ⟨hb x h1 h2 rfl, fun _ => rfl⟩
    · have e : ∀ c : CoreV, c.cells t = some x → c.act a = (c.setCell t (x.offer c.room a.inp).1, ⟨(x.offer c.room a.inp).2, [], []⟩) := fun c hc => by simp [CoreV.act, k, hat, hc]
      rw [e ca h1, e cb h2] at hb ⊢
      rw [← h.room] at hb ⊢
      exact ⟨hb (x.offer ca.room a.inp).1 (by simp [CoreV.setCell]) (by simp [CoreV.setCell]) (offer_run _ _ _), fun _ => rfl⟩
    · have e : ∀ c : CoreV, c.cells t = some x → c.act a = (c, ⟨cutE x.rows a.frm, cutL x.rows a.frm a.n, []⟩) := fun c hc => by simp [CoreV.act, k, hat, hc]
      rw [e ca h1, e cb h2] at hb ⊢
      exact ⟨hb x h1 h2 rfl, fun _ => rfl⟩
    · have e : ∀ c : CoreV, (c.act a).1 = c := fun c => by simp [CoreV.act, k]
      rw [e ca, e cb] at hb ⊢
      exact ⟨hb x h1 h2 rfl, fun h => absurd k h⟩
/-- what another offers -/
theorem Sim.other {t : Nat} {ca cb : CoreV} (h : Sim t ca cb) (a : ActM) (hk : a.kind = 2) (hat : a.tenant ≠ t) : Sim t ca (cb.act a).1 := by
  have rb := act_room cb a
  obtain ⟨x, h1, h2, h7, h8⟩ := h.cell
  refine ⟨by rw [rb.1]; exact h.room, by rw [rb.2]; exact h.budget, x, h1, ?_, h7, h8⟩
  have e : (cb.act a).1.cells t = cb.cells t := by
    have hne : ¬ t = a.tenant := fun e => hat e.symm
    cases hc : cb.cells a.tenant with
    | none => simp [CoreV.act, hk, hc]
    | some y => simp [CoreV.act, hk, hc, CoreV.setCell, hne]
  rw [e]
  exact h2
theorem Sim.rows {t : Nat} {ca cb : CoreV} (h : Sim t ca cb) : rowsV ca t = rowsV cb t := by
  obtain ⟨x, h1, h2, _⟩ := h.cell
  unfold rowsV
  rw [h1, h2]
theorem rows_bd {c : CoreV} {N t : Nat} (h : CoreOk c N) : (rowsV c t).length ≤ 4 * N := by
  unfold rowsV
  cases hx : c.cells t with
  | none => simp
  | some x => have := (h.cell t x hx).rows; show x.rows.length ≤ _; omega
end Go.Proofs.YtcanfmabkklidaaGreat
set_option linter.unusedSimpArgs false
set_option linter.unusedVariables false
set_option linter.unnecessarySimpa false
namespace Go.Proofs.YtcanfmabkklidaaGreat
open Go.RowKit

theorem bv_or (x y : Int) : BitVec.ofInt 64 (bits BinOp.or IntKind.u64 x y) = BitVec.ofInt 64 x ||| BitVec.ofInt 64 y := by
  have h : bits BinOp.or IntKind.u64 x y = ((BitVec.ofInt 64 x ||| BitVec.ofInt 64 y).toNat : Int) := by
    have e : bits BinOp.or IntKind.u64 x y = IntKind.u64.wrap ((BitVec.ofInt 64 x ||| BitVec.ofInt 64 y).toNat : Int) := rfl
    rw [e]
    have hlt := (BitVec.ofInt 64 x ||| BitVec.ofInt 64 y).isLt
    generalize (BitVec.ofInt 64 x ||| BitVec.ofInt 64 y).toNat = n at hlt ⊢
    simp only [IntKind.wrap]
    have : ((n : Int) % 18446744073709551616) = n := by omega
    simpa [IntKind.bits, IntKind.signed] using this
  rw [h, BitVec.ofInt_natCast, BitVec.ofNat_toNat, BitVec.setWidth_eq]
theorem bits_or_congr {x y x' y' : Int} (h : BitVec.ofInt 64 x ||| BitVec.ofInt 64 y = BitVec.ofInt 64 x' ||| BitVec.ofInt 64 y') : bits BinOp.or IntKind.u64 x y = bits BinOp.or IntKind.u64 x' y' := by
  show IntKind.u64.wrap ((BitVec.ofInt 64 x ||| BitVec.ofInt 64 y).toNat : Int) = IntKind.u64.wrap ((BitVec.ofInt 64 x' ||| BitVec.ofInt 64 y').toNat : Int)
  rw [h]
theorem orI_swap (w a b : Int) : orI (orI w a) b = orI (orI w b) a := by
  unfold orI
  refine bits_or_congr ?_
  simp only [bv_or, BitVec.or_assoc]
  congr 3
  exact BitVec.or_comm _ _
theorem aggVal_swap (n k v x y : Int) (h0 : 0 ≤ n) (h1 : n + 2 < 9223372036854775808) : aggVal (wrap64 (n + 1)) k (aggVal n k v x) y = aggVal (wrap64 (n + 1)) k (aggVal n k v y) x := by
  have hw : wrap64 (n + 1) = n + 1 := by unfold wrap64; omega
  rw [hw]
  unfold aggVal
  have h2 : ¬ n + 1 = 0 := by omega
  by_cases e1 : k = 1
  · simp only [e1, if_true]
  · by_cases e2 : k = 2
    · simp only [e2, if_true]
      unfold wrap64
      split <;> omega
    · by_cases e3 : k = 3
      · subst e3
        simp only [show ¬ (3 : Int) = 1 by decide, show ¬ (3 : Int) = 2 by decide, h2, false_or, if_true, if_false]
        (repeat' split) <;> omega
      · by_cases e4 : k = 4
        · subst e4
          simp only [show ¬ (4 : Int) = 1 by decide, show ¬ (4 : Int) = 2 by decide, show ¬ (4 : Int) = 3 by decide, h2, false_or, if_true, if_false]
          (repeat' split) <;> omega
        · simp [e1, e2, e3, e4]
theorem add_swap (p : PotV) (x y : Int) (h0 : 0 ≤ p.count) (h1 : p.count + 2 < 9223372036854775808) : (p.add x).add y = (p.add y).add x := by
  simp only [PotV.add, aggVal_swap p.count p.kind p.value x y h0 h1]
theorem give1_count (s : SinkV) (t : Nat) (p : PotV) (r : RowV) (h0 : 0 ≤ p.count) (h1 : p.count + 1 < 9223372036854775808) : p.count ≤ (PotV.give1 s t p r).count ∧ (PotV.give1 s t p r).count ≤ p.count + 1 := by
  unfold PotV.give1
  split
  · show p.count ≤ wrap64 (p.count + 1) ∧ wrap64 (p.count + 1) ≤ p.count + 1
    unfold wrap64
    omega
  · omega
theorem give1_swap (s : SinkV) (t u : Nat) (p : PotV) (x y : RowV) (h0 : 0 ≤ p.count) (h1 : p.count + 2 < 9223372036854775808) : PotV.give1 s u (PotV.give1 s t p x) y = PotV.give1 s t (PotV.give1 s u p y) x := by
  unfold PotV.give1
  by_cases e1 : (hasI s.frm t && belowI x.label s.frm) = true
  · by_cases e2 : (hasI s.frm u && belowI y.label s.frm) = true
    · simp only [e1, e2, if_true]
      have h := add_swap p x.value y.value h0 h1
      have h2 := orI_swap p.who (ofI t) (ofI u)
      simp only [PotV.add] at h ⊢
      simp only [PotV.mk.injEq] at h
      simp only [h2, h.1, h.2.1, h.2.2.1]
    · simp only [e1, e2, if_true, if_false, Bool.false_eq_true]
  · by_cases e2 : (hasI s.frm u && belowI y.label s.frm) = true
    · simp only [e1, e2, if_true, if_false, Bool.false_eq_true]
    · simp only [e1, e2, if_false, Bool.false_eq_true]
theorem foldl_perm {α β : Type} (f : β → α → β) (Q : Nat → β → Prop) (hQ : ∀ k b a, Q (k + 1) b → Q k (f b a)) (hc : ∀ k b x y, Q (k + 2) b → f (f b x) y = f (f b y) x) {l1 l2 : List α} (h : l1.Perm l2) : ∀ b, Q l1.length b → l1.foldl f b = l2.foldl f b := by
  induction h with
  | nil => intro b _; rfl
  | cons x _ ih => intro b hb; exact ih _ (hQ _ _ _ hb)
  | swap x y l =>
    intro b hb
    simp only [List.foldl_cons]
    rw [hc _ b y x hb]
  | trans h1 _ ih1 ih2 => intro b hb; exact (ih1 b hb).trans (ih2 b (h1.length_eq ▸ hb))
/-- one row given to one pot of several -/
def giveP (sinks : List SinkV) (P : List PotV) (g : Nat × Nat × RowV) : List PotV := P.set g.1 (PotV.give1 (sinks.getD g.1 default) g.2.1 (P.getD g.1 default) g.2.2)
def CntB (k : Nat) (P : List PotV) : Prop := ∀ p ∈ P, 0 ≤ p.count ∧ p.count + k < 9223372036854775808
theorem giveP_cnt (sinks : List SinkV) (k : Nat) (P : List PotV) (g : Nat × Nat × RowV) (h : CntB (k + 1) P) : CntB k (giveP sinks P g) := by
  intro p hp
  rcases List.mem_or_eq_of_mem_set hp with hp | rfl
  · have := h p hp; omega
  · by_cases hlt : g.1 < P.length
    · have hm : P.getD g.1 default ∈ P := by rw [List.getD_eq_getElem?_getD, List.getElem?_eq_getElem hlt]; exact List.getElem_mem hlt
      have h1 := h _ hm
      have h2 := give1_count (sinks.getD g.1 default) g.2.1 (P.getD g.1 default) g.2.2 h1.1 (by omega)
      omega
    · have hd : P.getD g.1 default = default := by rw [List.getD_eq_getElem?_getD, List.getElem?_eq_none (by omega)]; rfl
      unfold giveP at hp
      rw [List.set_eq_of_length_le (by omega)] at hp
      have := h _ hp
      omega
theorem getD_set_same {l : List PotV} {i : Nat} (h : i < l.length) (x : PotV) : (l.set i x).getD i default = x := by
  rw [List.getD_eq_getElem?_getD, List.getElem?_set_self h]; rfl
theorem getD_set_ne {l : List PotV} {i j : Nat} (h : i ≠ j) (x : PotV) : (l.set i x).getD j default = l.getD j default := by
  rw [List.getD_eq_getElem?_getD, List.getD_eq_getElem?_getD, List.getElem?_set_ne h]
theorem giveP_swap (sinks : List SinkV) (k : Nat) (P : List PotV) (x y : Nat × Nat × RowV) (h : CntB (k + 2) P) : giveP sinks (giveP sinks P x) y = giveP sinks (giveP sinks P y) x := by
  obtain ⟨i, t, a⟩ := x
  obtain ⟨j, u, b⟩ := y
  unfold giveP
  simp only
  by_cases e : i = j
  · subst e
    by_cases hlt : i < P.length
    · have hm : P.getD i default ∈ P := by rw [List.getD_eq_getElem?_getD, List.getElem?_eq_getElem hlt]; exact List.getElem_mem hlt
      have h1 := h _ hm
      rw [getD_set_same hlt, getD_set_same hlt, List.set_set, List.set_set, give1_swap _ t u _ a b h1.1 (by omega)]
    · simp only [fun z => List.set_eq_of_length_le (l := P) (a := z) (show P.length ≤ i by omega)]
  · rw [getD_set_ne e, getD_set_ne (Ne.symm e), List.set_comm _ _ e]
theorem giveP_len (sinks : List SinkV) (P : List PotV) (g : Nat × Nat × RowV) : (giveP sinks P g).length = P.length := by simp [giveP]
theorem fold_gifts (sinks : List SinkV) (j t : Nat) : ∀ (rows : List RowV) (P : List PotV), j < P.length → (rows.map fun r => (j, t, r)).foldl (giveP sinks) P = P.set j ((P.getD j default).give (sinks.getD j default) t rows)
  | [], P, h => by
    simp only [List.map_nil, List.foldl_nil, PotV.give]
    apply List.ext_getElem?
    intro i
    rw [List.getElem?_set]
    split
    · rename_i e; subst e; simp [h]
    · rfl
  | r :: rows, P, h => by
    simp only [List.map_cons, List.foldl_cons]
    rw [fold_gifts sinks j t rows _ (by rw [giveP_len]; exact h)]
    unfold giveP
    simp only
    rw [getD_set_same h, List.set_set]
    rfl
/-- what a tenant's turn in a tick brings -/
def outsI (c : CoreV) (t : Nat) : List RowV := match c.cells t with | none => [] | some x => (x.serve (max 0 (min c.budget (waitingOf c t)))).2
/-- a tenant's rows given -/
def giveT (c : CoreV) (P : List PotV) (t : Nat) : List PotV := match c.cells t with | none => P | some x => if x.run.pipe.sink = -1 then P else P.set x.run.pipe.sink.toNat ((P.getD x.run.pipe.sink.toNat default).give (c.sinks.getD x.run.pipe.sink.toNat default) t (outsI c t))
def giftsT (c : CoreV) (t : Nat) : List (Nat × Nat × RowV) := match c.cells t with | none => [] | some x => if x.run.pipe.sink = -1 then [] else (outsI c t).map fun r => (x.run.pipe.sink.toNat, t, r)
theorem giveT_len (c : CoreV) (P : List PotV) (t : Nat) : (giveT c P t).length = P.length := by
  unfold giveT
  split
  · rfl
  · split <;> simp
theorem giveT_gifts {c : CoreV} {N : Nat} (ok : CoreOk c N) (P : List PotV) (hP : P.length = c.sinks.length) (t : Nat) : giveT c P t = (giftsT c t).foldl (giveP c.sinks) P := by
  unfold giveT giftsT
  cases hx : c.cells t with
  | none => rfl
  | some x =>
    simp only
    split
    · rfl
    · have h1 := (ok.cell t x hx).run.pip.sink1
      have h2 := ok.sink t x hx
      rw [fold_gifts _ _ _ _ _ (by rw [hP]; omega)]
theorem gives_gifts {c : CoreV} {N : Nat} (ok : CoreOk c N) : ∀ (ts : List Nat) (P : List PotV), P.length = c.sinks.length → ts.foldl (giveT c) P = (ts.flatMap (giftsT c)).foldl (giveP c.sinks) P
  | [], P, _ => rfl
  | t :: ts, P, hP => by
    rw [List.foldl_cons, List.flatMap_cons, List.foldl_append, ← giveT_gifts ok P hP t]
    exact gives_gifts ok ts _ (by rw [giveT_len]; exact hP)
theorem turn_perm (k : Nat) : ((List.range 8).map (turnI k)).Perm (List.range 8) := by
  have h : ∀ m : Fin 8, ((List.range 8).map (fun i => (m.val + i) % 8)).Perm (List.range 8) := by decide
  exact h ⟨k % 8, by omega⟩
theorem outs_len {c : CoreV} {N : Nat} (ok : CoreOk c N) (t : Nat) : (outsI c t).length ≤ 4 * N := by
  unfold outsI
  cases hx : c.cells t with
  | none => simp
  | some x =>
    simp only
    have h := ((ok.cell t x hx).serve (max 0 (min c.budget (waitingOf c t)))).1.rows
    have e : (x.serve (max 0 (min c.budget (waitingOf c t)))).1.rows = x.rows ++ (x.serve (max 0 (min c.budget (waitingOf c t)))).2 := rfl
    rw [e, List.length_append] at h
    omega
theorem gifts_len {c : CoreV} {N : Nat} (ok : CoreOk c N) (t : Nat) : (giftsT c t).length ≤ 4 * N := by
  have h := outs_len ok t
  unfold giftsT
  split
  · simp
  · split
    · simp
    · simpa using h
theorem all_len {c : CoreV} {N : Nat} (ok : CoreOk c N) : ∀ ts : List Nat, (ts.flatMap (giftsT c)).length ≤ 4 * N * ts.length
  | [] => by simp
  | t :: ts => by
    rw [List.flatMap_cons, List.length_append, List.length_cons, Nat.mul_succ]
    have := gifts_len ok t
    have := all_len ok ts
    omega
theorem gives_cnt {c : CoreV} : ∀ (gs : List (Nat × Nat × RowV)) (k : Nat) (P : List PotV), CntB (k + gs.length) P → CntB k (gs.foldl (giveP c.sinks) P)
  | [], k, P, h => h
  | g :: gs, k, P, h => gives_cnt gs k _ (giveP_cnt _ _ _ _ (by rw [List.length_cons] at h; exact h))
theorem servM_pots {c : CoreV} : ∀ m, m ≤ 8 → (servM c m).pots = ((List.range m).map (turnI c.ticks)).foldl (giveT c) c.pots
  | 0, _ => rfl
  | m + 1, hm => by
    have ih := servM_pots (c := c) m (by omega)
    have hs := servM_same c m
    have hc : (servM c m).cells (turnI c.ticks m) = c.cells (turnI c.ticks m) := by
      have ht : turnI c.ticks m ≤ 7 := by unfold turnI; omega
      rw [servM_cell c _ ht m (by omega), if_neg]
      have := (turn_slot (ticks := c.ticks) ht (show m < 8 by omega)).1 rfl
      omega
    rw [servM_succ, List.range_succ, List.map_append, List.foldl_append, ← ih]
    simp only [List.map_cons, List.map_nil, List.foldl_cons, List.foldl_nil]
    unfold CoreV.serve1 giveT outsI
    simp only [hs.1, hs.2.1, hs.2.2]
    rw [hc]
    cases c.cells (turnI c.ticks m) with
    | none => rfl
    | some x =>
      simp only
      split
      · rfl
      · simp only [CoreV.setCell, hs.2.2]
/-- the law's order of tenants is as good as the engine's -/
theorem serv_pots {c : CoreV} {N : Nat} (ok : CoreOk c N) (h : CntB (32 * N) c.pots) : (List.range 8).foldl (giveT c) c.pots = (servM c 8).pots := by
  rw [servM_pots 8 (Nat.le_refl _), gives_gifts ok _ _ ok.pots, gives_gifts ok _ _ ok.pots]
  have hp := (turn_perm c.ticks).flatMap_right (giftsT c)
  refine (foldl_perm (giveP c.sinks) CntB (fun k b a hb => giveP_cnt _ _ _ _ hb) (fun k b x y hb => giveP_swap _ _ _ _ _ hb) hp c.pots ?_).symm
  intro p hpm
  have h1 := h p hpm
  have h2 := all_len ok ((List.range 8).map (turnI c.ticks))
  simp only [List.length_map, List.length_range] at h2
  omega
end Go.Proofs.YtcanfmabkklidaaGreat
set_option linter.unusedSimpArgs false
set_option linter.unusedVariables false
set_option linter.unnecessarySimpa false
namespace Go.Proofs.YtcanfmabkklidaaGreat
open Go.RowKit

theorem feed1_keeps (s : SinkV) (r : RelV) (t : Nat) (x : CellV) : (feed1 s r t x).rows = x.rows ∧ (feed1 s r t x).run = x.run := by
  unfold feed1 CellV.feed
  split
  · split <;> exact ⟨rfl, rfl⟩
  · exact ⟨rfl, rfl⟩
theorem tell1_cells (c : CoreV) (i t : Nat) : ∃ f : CellV → CellV, (∀ x, (f x).rows = x.rows ∧ (f x).run = x.run) ∧ (c.tell1 i).cells t = (c.cells t).map f := by
  unfold CoreV.tell1
  simp only
  generalize (c.pots.getD i default).tell (c.sinks.getD i default) i (epochI (c.sinks.getD i default) c.ticks) = r
  split
  · split
    · exact ⟨id, fun x => ⟨rfl, rfl⟩, by simp⟩
    · by_cases ht : t < 8
      · exact ⟨feed1 (c.sinks.getD i default) r t, feed1_keeps _ _ _, by simp [CoreV.feed, ht]⟩
      · exact ⟨id, fun x => ⟨rfl, rfl⟩, by simp [CoreV.feed, ht]⟩
  · exact ⟨id, fun x => ⟨rfl, rfl⟩, by simp⟩
theorem tellM_cells (c : CoreV) (t : Nat) : ∀ m, ∃ f : CellV → CellV, (∀ x, (f x).rows = x.rows ∧ (f x).run = x.run) ∧ (tellM c m).cells t = (c.cells t).map f
  | 0 => ⟨id, fun x => ⟨rfl, rfl⟩, by simp [tellM]⟩
  | m + 1 => by
    obtain ⟨f, h1, h2⟩ := tellM_cells c t m
    obtain ⟨g, h3, h4⟩ := tell1_cells (tellM c m) m t
    refine ⟨fun x => g (f x), fun x => ⟨(h3 _).1.trans (h1 x).1, (h3 _).2.trans (h1 x).2⟩, ?_⟩
    rw [tellM_succ, h4, h2, Option.map_map]
    rfl
theorem tick_no {c : CoreV} {t : Nat} (ht : t ≤ 7) (h : c.cells t = none) : c.tick.cells t = none := by
  obtain ⟨f, _, h2⟩ := tellM_cells { servM c 8 with ticks := c.ticks + 1 } t c.sinks.length
  rw [tick_eq, h2]
  show Option.map f ((servM c 8).cells t) = none
  rw [serv_cell c t ht, h]
  rfl
theorem tick_some {c : CoreV} {N : Nat} (ok : CoreOk c N) {t : Nat} (ht : t ≤ 7) {x : CellV} (h : c.cells t = some x) : ∃ y, c.tick.cells t = some y ∧ y.run.pipe = x.run.pipe ∧ y.rows = x.rows ++ outsI c t := by
  obtain ⟨f, h1, h2⟩ := tellM_cells { servM c 8 with ticks := c.ticks + 1 } t c.sinks.length
  rw [tick_eq, h2]
  have e : (servM c 8).cells t = some (x.serve (max 0 (min c.budget (waitingOf c t)))).1 := by rw [serv_cell c t ht, h]; rfl
  refine ⟨f (x.serve (max 0 (min c.budget (waitingOf c t)))).1, ?_, ?_, ?_⟩
  · show Option.map f ((servM c 8).cells t) = _
    rw [e]
    rfl
  · rw [(h1 _).2]
    exact serve_pipe x _ (ok.cell t x h).run
  · rw [(h1 _).1]
    unfold outsI
    rw [h]
    rfl
theorem tell1_pots (c : CoreV) (i : Nat) : (c.tell1 i).pots = if epochOk (c.sinks.getD i default) c.ticks then c.pots.set i (PotV.new (c.sinks.getD i default)) else c.pots := by
  unfold CoreV.tell1
  simp only
  generalize (c.pots.getD i default).tell (c.sinks.getD i default) i (epochI (c.sinks.getD i default) c.ticks) = r
  split
  · split <;> rfl
  · rfl
theorem tell1_bd (c : CoreV) (i t : Nat) (ht : t < 8) : (c.tell1 i).board t = if epochOk (c.sinks.getD i default) c.ticks = true ∧ hasI (c.sinks.getD i default).tos t = true then c.board t ++ [(c.pots.getD i default).tell (c.sinks.getD i default) i (epochI (c.sinks.getD i default) c.ticks)] else c.board t := by
  unfold CoreV.tell1
  simp only
  generalize (c.pots.getD i default).tell (c.sinks.getD i default) i (epochI (c.sinks.getD i default) c.ticks) = r
  by_cases h1 : epochOk (c.sinks.getD i default) c.ticks = true
  · simp only [h1, if_true, true_and]
    split <;> simp [CoreV.feed, ht]
  · simp only [h1, if_false, false_and, Bool.false_eq_true]
/-- what stands of the law's own reckoning: rows told by sink, counts -/
structure SnkI (c : CoreV) (f : Nat → List RelV) (M : Nat) : Prop where
  b : ∀ t, t < 8 → ∀ j, j < c.sinks.length → (c.board t).filter (fun r => decide (r.sink = (j : Int))) = if hasI (c.sinks.getD j default).tos t = true then f j else []
  cnt : ∀ p ∈ c.pots, 0 ≤ p.count ∧ p.count ≤ (M : Int)
theorem SnkI.new (B R Q : Int) (r : List SinkV) : SnkI (CoreV.new B R Q r) (fun _ => []) 0 :=
  ⟨fun t _ j _ => by simp [CoreV.new], fun p hp => by
    simp only [CoreV.new, List.mem_map] at hp
    obtain ⟨s, _, rfl⟩ := hp
    simp [PotV.new]⟩
theorem act_still (c : CoreV) (a : ActM) (h : a.kind ≠ 3) : (c.act a).1.pots = c.pots ∧ (c.act a).1.board = c.board ∧ (c.act a).1.sinks = c.sinks := by
  unfold CoreV.act
  split
  · show (c.register a.tenant a.pipe).1.pots = _ ∧ (c.register a.tenant a.pipe).1.board = _ ∧ _
    unfold CoreV.register
    split
    · exact ⟨rfl, rfl, rfl⟩
    · split <;> exact ⟨rfl, rfl, rfl⟩
  · split
    · exact ⟨rfl, rfl, rfl⟩
    · split
      · exact ⟨rfl, rfl, rfl⟩
      · split <;> exact ⟨rfl, rfl, rfl⟩
theorem SnkI.act {c : CoreV} {f : Nat → List RelV} {M : Nat} (h : SnkI c f M) (a : ActM) (ha : a.kind ≠ 3) : SnkI (c.act a).1 f M := by
  obtain ⟨h1, h2, h3⟩ := act_still c a ha
  exact ⟨by rw [h2, h3]; exact h.b, by rw [h1]; exact h.cnt⟩
def tellF (c : CoreV) (i : Nat) (f : Nat → List RelV) : Nat → List RelV := if epochOk (c.sinks.getD i default) c.ticks then (fun j => if j = i then f i ++ [(c.pots.getD i default).tell (c.sinks.getD i default) i (epochI (c.sinks.getD i default) c.ticks)] else f j) else f
theorem SnkI.tell {c : CoreV} {f : Nat → List RelV} {M : Nat} (h : SnkI c f M) (i : Nat) (hi : i < c.sinks.length) : SnkI (c.tell1 i) (tellF c i f) M := by
  have hs := (tell1_same c i).2.1
  refine ⟨fun t ht j hj => ?_, fun p hp => ?_⟩
  · rw [hs] at hj ⊢
    rw [tell1_bd c i t ht]
    unfold tellF
    have hk := tell_sink (c.pots.getD i default) (c.sinks.getD i default) i (epochI (c.sinks.getD i default) c.ticks)
    generalize (c.pots.getD i default).tell (c.sinks.getD i default) i (epochI (c.sinks.getD i default) c.ticks) = r at hk ⊢
    have hb := h.b t ht j hj
    by_cases h1 : epochOk (c.sinks.getD i default) c.ticks = true
    · by_cases e : j = i
      · subst e
        by_cases h2 : hasI (c.sinks.getD j default).tos t = true
        · simp only [h1, h2, true_and, if_true, List.filter_append] at hb ⊢
          rw [hb]
          simp [hk]
        · simp only [h1, h2, true_and, if_true, if_false, Bool.false_eq_true] at hb ⊢
          exact hb
      · have hne : ¬ r.sink = (j : Int) := by rw [hk]; omega
        simp only [h1, if_true, true_and, e, if_false]
        split
        · rw [List.filter_append, hb]
          simp [hne]
        · exact hb
    · simp only [h1, false_and, if_false, Bool.false_eq_true]
      exact hb
  · rw [tell1_pots] at hp
    split at hp
    · rcases List.mem_or_eq_of_mem_set hp with hp | rfl
      · exact h.cnt p hp
      · simp [PotV.new]
    · exact h.cnt p hp
theorem servM_board (c : CoreV) : ∀ m, (servM c m).board = c.board
  | 0 => rfl
  | m + 1 => by rw [servM_succ, (serve1_same (waitingOf c) (servM c m) m).2.2.2.2.2, servM_board c m]
/-- the core behind the tenants' turns -/
def midC (c : CoreV) : CoreV := { servM c 8 with ticks := c.ticks + 1 }
theorem midC_sinks (c : CoreV) : (midC c).sinks = c.sinks := (servM_same c 8).2.2
theorem tick_mid (c : CoreV) : c.tick = tellM (midC c) c.sinks.length := tick_eq c
theorem SnkI.mid {c : CoreV} {f : Nat → List RelV} {M N : Nat} (h : SnkI c f M) (ok : CoreOk c N) (hM : M + 32 * N < 9223372036854775808) : SnkI (midC c) f (M + 32 * N) ∧ (List.range 8).foldl (giveT c) c.pots = (midC c).pots := by
  have hc : CntB (32 * N) c.pots := fun p hp => by have := h.cnt p hp; omega
  have hs := serv_pots ok hc
  refine ⟨⟨?_, ?_⟩, hs⟩
  · rw [midC_sinks]
    show ∀ t, t < 8 → ∀ j, j < c.sinks.length → ((servM c 8).board t).filter _ = _
    rw [servM_board]
    exact h.b
  · show ∀ p ∈ (servM c 8).pots, _
    rw [← hs, gives_gifts ok _ _ ok.pots]
    have hl := all_len ok (List.range 8)
    rw [List.length_range] at hl
    have key : ∀ (gs : List (Nat × Nat × RowV)) (P : List PotV) (K : Nat), K + gs.length < 9223372036854775808 → (∀ p ∈ P, 0 ≤ p.count ∧ p.count ≤ (K : Int)) → ∀ p ∈ gs.foldl (giveP c.sinks) P, 0 ≤ p.count ∧ p.count ≤ ((K + gs.length : Nat) : Int) := by
      intro gs
      induction gs with
      | nil => intro P K _ hP; simpa using hP
      | cons g gs ih =>
        intro P K hK hP
        simp only [List.length_cons] at hK
        have h2 := ih (giveP c.sinks P g) (K + 1) (by omega) (fun p hp => ?_)
        · rw [List.foldl_cons, List.length_cons, show K + (gs.length + 1) = K + 1 + gs.length by omega]
          exact h2
        · rcases List.mem_or_eq_of_mem_set hp with hp | rfl
          · have := hP p hp; omega
          · by_cases hlt : g.1 < P.length
            · have hm : P.getD g.1 default ∈ P := by rw [List.getD_eq_getElem?_getD, List.getElem?_eq_getElem hlt]; exact List.getElem_mem hlt
              have h1 := hP _ hm
              have h3 := give1_count (c.sinks.getD g.1 default) g.2.1 (P.getD g.1 default) g.2.2 h1.1 (by omega)
              omega
            · unfold giveP at hp
              rw [List.set_eq_of_length_le (by omega)] at hp
              have := hP _ hp
              omega
    intro p hp
    have := key _ c.pots M (by omega) h.cnt p hp
    omega
end Go.Proofs.YtcanfmabkklidaaGreat
