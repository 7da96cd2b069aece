/- Operations on events. -/
import Derived.Test.YtcanfmabkklidaaGreatMb7
set_option linter.unusedSimpArgs false
set_option linter.unusedVariables false
set_option linter.unnecessarySimpa false
namespace Go.Proofs.YtcanfmabkklidaaGreat
open Go.RowKit

abbrev EvV.val (x : EvV) : Value := .agg #[.int .i64 x.time, .int .i64 x.key, .int .i64 x.value, .int .u64 x.label]
abbrev OpV.val (x : OpV) : Value := .agg #[.int .i64 x.kind, .int .i64 x.n]
def optEv : Option EvV → Value
  | some x => .tuple #[x.val, .bool true]
  | none => .tuple #[.agg #[.int .i64 0, .int .i64 0, .int .i64 0, .int .u64 0], .bool false]
theorem passes_yes (k n t ky v lb : Int) (w : World) (h : (k = 4 ∧ n < v) ∨ (k = 5 ∧ v < n) ∨ (k = 6 ∧ ky = n)) :
    Calls Tryz.prog 123 #[.agg #[.int .i64 k, .int .i64 n], .agg #[.int .i64 t, .int .i64 ky, .int .i64 v, .int .u64 lb]] w fun e w' => e = .returned (.bool true) ∧ Below w.heap.size w w' := by
  have HW := Lib.hid (fun (x y : Obj) => ((Below.refl _ w).alloc (Nat.le_refl _) x).alloc (by simp) y)
  rcases h with ⟨rfl, h⟩ | ⟨rfl, h⟩ | ⟨rfl, rfl⟩
  all_goals
    go_enter Tryz.func123, Tryz.ntmps123
    go_wp2
    go_ret
    exact ⟨by first | rfl | simp, HW.out _ _⟩
theorem passes_no (k n t ky v lb : Int) (w : World) (h : (k = 4 ∧ v ≤ n) ∨ (k = 5 ∧ n ≤ v) ∨ (k = 6 ∧ (ky == n) = false)) :
    Calls Tryz.prog 123 #[.agg #[.int .i64 k, .int .i64 n], .agg #[.int .i64 t, .int .i64 ky, .int .i64 v, .int .u64 lb]] w fun e w' => e = .returned (.bool false) ∧ Below w.heap.size w w' := by
  have HW := Lib.hid (fun (x y : Obj) => ((Below.refl _ w).alloc (Nat.le_refl _) x).alloc (by simp) y)
  rcases h with ⟨rfl, h⟩ | ⟨rfl, h⟩ | ⟨rfl, h⟩
  all_goals
    go_enter Tryz.func123, Tryz.ntmps123
    go_wp2
    go_ret
    exact ⟨by first | rfl | (simp; omega) | simp, HW.out _ _⟩
theorem apply_any (o : OpV) (e : EvV) (ho : OpBd o) (w : World) : Calls Tryz.prog 113 #[o.val, e.val] w fun r w' => r = .returned (optEv (applyO o e)) ∧ Below w.heap.size w w' := by
  obtain ⟨t, ky, v, lb⟩ := e
  obtain ⟨k, n⟩ := o
  obtain ⟨hk1, hk2, hn1, hn2, h3, h6⟩ := ho
  simp only at hk1 hk2 hn1 hn2 h3 h6
  rcases (by omega : k = 1 ∨ k = 2 ∨ k = 3 ∨ k = 4 ∨ k = 5 ∨ k = 6) with rfl | rfl | rfl | rfl | rfl | rfl
  · clear h3 h6
    rw [show optEv (applyO ⟨1, n⟩ ⟨t, ky, v, lb⟩) = .tuple #[.agg #[.int .i64 t, .int .i64 (ky), .int .i64 (wrap64 (v + n)), .int .u64 lb], .bool true] by simp [applyO, optEv]]
    go_enter Tryz.func113, Tryz.ntmps113
    go_wp2
    refine bodyPost_ret (v := .tuple #[.agg #[.int .i64 t, .int .i64 (ky), .int .i64 (wrap64 (v + n)), .int .u64 lb], .bool true]) (by simp [results, Tryz.results113, go_sem]) rfl ?_
    exact ⟨rfl, by (repeat (first | with_reducible exact Below.refl _ _ | with_reducible refine bel_draw ?_ | with_reducible refine bel_alloc ?_ _ | with_reducible refine bel_set ?_ (by omega) _ | with_reducible refine bel_drawN ?_ _ | with_reducible refine below_step ?_ HB.out))⟩
  · clear h3 h6
    rw [show optEv (applyO ⟨2, n⟩ ⟨t, ky, v, lb⟩) = .tuple #[.agg #[.int .i64 t, .int .i64 (ky), .int .i64 (wrap64 (v * n)), .int .u64 lb], .bool true] by simp [applyO, optEv]]
    go_enter Tryz.func113, Tryz.ntmps113
    go_wp2
    refine bodyPost_ret (v := .tuple #[.agg #[.int .i64 t, .int .i64 (ky), .int .i64 (wrap64 (v * n)), .int .u64 lb], .bool true]) (by simp [results, Tryz.results113, go_sem]) rfl ?_
    exact ⟨rfl, by (repeat (first | with_reducible exact Below.refl _ _ | with_reducible refine bel_draw ?_ | with_reducible refine bel_alloc ?_ _ | with_reducible refine bel_set ?_ (by omega) _ | with_reducible refine bel_drawN ?_ _ | with_reducible refine below_step ?_ HB.out))⟩
  · obtain ⟨h1, h2⟩ := h3 rfl
    have hz : (n == 0) = false := by simp; omega
    have hb := tmod_bd v n (by omega)
    obtain ⟨hb1, hb2⟩ := hb
    clear h3 h6
    by_cases hs : v.tmod n < 0
    · rw [show optEv (applyO ⟨3, n⟩ ⟨t, ky, v, lb⟩) = .tuple #[.agg #[.int .i64 t, .int .i64 (v.tmod n + n), .int .i64 (v), .int .u64 lb], .bool true] by simp [applyO, optEv, hs]]
      go_enter Tryz.func113, Tryz.ntmps113
      go_wp2
      refine bodyPost_ret (v := .tuple #[.agg #[.int .i64 t, .int .i64 (v.tmod n + n), .int .i64 (v), .int .u64 lb], .bool true]) (by simp [results, Tryz.results113, go_sem]) rfl ?_
      exact ⟨rfl, by (repeat (first | with_reducible exact Below.refl _ _ | with_reducible refine bel_draw ?_ | with_reducible refine bel_alloc ?_ _ | with_reducible refine bel_set ?_ (by omega) _ | with_reducible refine bel_drawN ?_ _ | with_reducible refine below_step ?_ HB.out))⟩
    · rw [show optEv (applyO ⟨3, n⟩ ⟨t, ky, v, lb⟩) = .tuple #[.agg #[.int .i64 t, .int .i64 (v.tmod n), .int .i64 (v), .int .u64 lb], .bool true] by simp [applyO, optEv, hs]]
      have hs' : 0 ≤ v.tmod n := by omega
      clear hs
      go_enter Tryz.func113, Tryz.ntmps113
      go_wp2
      refine bodyPost_ret (v := .tuple #[.agg #[.int .i64 t, .int .i64 (v.tmod n), .int .i64 (v), .int .u64 lb], .bool true]) (by simp [results, Tryz.results113, go_sem]) rfl ?_
      exact ⟨rfl, by (repeat (first | with_reducible exact Below.refl _ _ | with_reducible refine bel_draw ?_ | with_reducible refine bel_alloc ?_ _ | with_reducible refine bel_set ?_ (by omega) _ | with_reducible refine bel_drawN ?_ _ | with_reducible refine below_step ?_ HB.out))⟩
  · clear h3 h6
    by_cases h : n < v
    · rw [show optEv (applyO ⟨4, n⟩ ⟨t, ky, v, lb⟩) = .tuple #[.agg #[.int .i64 t, .int .i64 (ky), .int .i64 (v), .int .u64 lb], .bool true] by simp [applyO, optEv, h]]
      go_enter Tryz.func113, Tryz.ntmps113
      go_wp2_with (go_at_call 123; (with_reducible refine (passes_yes _ _ _ _ _ _ _ (.inl ⟨rfl, h⟩)).mono ?_); rintro e w1 ⟨rfl, hb⟩; have HB := Lib.hid hb; obtain ⟨hc, hf⟩ := bcell hb; have hz : w.heap.size + 2 < w1.heap.size := (by have := hb.size; simp at this; omega); clear hb)
      refine bodyPost_ret (v := .tuple #[.agg #[.int .i64 t, .int .i64 (ky), .int .i64 (v), .int .u64 lb], .bool true]) (by simp [results, Tryz.results113, go_sem, hc, hz]) rfl ?_
      exact ⟨rfl, by (repeat (first | with_reducible exact Below.refl _ _ | with_reducible refine bel_draw ?_ | with_reducible refine bel_alloc ?_ _ | with_reducible refine bel_set ?_ (by omega) _ | with_reducible refine bel_drawN ?_ _ | with_reducible refine below_step ?_ HB.out))⟩
    · rw [show optEv (applyO ⟨4, n⟩ ⟨t, ky, v, lb⟩) = .tuple #[.agg #[.int .i64 0, .int .i64 0, .int .i64 0, .int .u64 0], .bool false] by simp [applyO, optEv, h]]
      replace h : v ≤ n := by omega
      go_enter Tryz.func113, Tryz.ntmps113
      go_wp2_with (go_at_call 123; (with_reducible refine (passes_no _ _ _ _ _ _ _ (.inl ⟨rfl, h⟩)).mono ?_); rintro e w1 ⟨rfl, hb⟩; have HB := Lib.hid hb; obtain ⟨hc, hf⟩ := bcell hb; have hz : w.heap.size + 2 < w1.heap.size := (by have := hb.size; simp at this; omega); clear hb)
      refine bodyPost_ret (v := .tuple #[.agg #[.int .i64 0, .int .i64 0, .int .i64 0, .int .u64 0], .bool false]) (by simp [results, Tryz.results113, go_sem, hc, hz]) rfl ?_
      exact ⟨rfl, by (repeat (first | with_reducible exact Below.refl _ _ | with_reducible refine bel_draw ?_ | with_reducible refine bel_alloc ?_ _ | with_reducible refine bel_set ?_ (by omega) _ | with_reducible refine bel_drawN ?_ _ | with_reducible refine below_step ?_ HB.out))⟩
  · clear h3 h6
    by_cases h : v < n
    · rw [show optEv (applyO ⟨5, n⟩ ⟨t, ky, v, lb⟩) = .tuple #[.agg #[.int .i64 t, .int .i64 (ky), .int .i64 (v), .int .u64 lb], .bool true] by simp [applyO, optEv, h]]
      go_enter Tryz.func113, Tryz.ntmps113
      go_wp2_with (go_at_call 123; (with_reducible refine (passes_yes _ _ _ _ _ _ _ (.inr (.inl ⟨rfl, h⟩))).mono ?_); rintro e w1 ⟨rfl, hb⟩; have HB := Lib.hid hb; obtain ⟨hc, hf⟩ := bcell hb; have hz : w.heap.size + 2 < w1.heap.size := (by have := hb.size; simp at this; omega); clear hb)
      refine bodyPost_ret (v := .tuple #[.agg #[.int .i64 t, .int .i64 (ky), .int .i64 (v), .int .u64 lb], .bool true]) (by simp [results, Tryz.results113, go_sem, hc, hz]) rfl ?_
      exact ⟨rfl, by (repeat (first | with_reducible exact Below.refl _ _ | with_reducible refine bel_draw ?_ | with_reducible refine bel_alloc ?_ _ | with_reducible refine bel_set ?_ (by omega) _ | with_reducible refine bel_drawN ?_ _ | with_reducible refine below_step ?_ HB.out))⟩
    · rw [show optEv (applyO ⟨5, n⟩ ⟨t, ky, v, lb⟩) = .tuple #[.agg #[.int .i64 0, .int .i64 0, .int .i64 0, .int .u64 0], .bool false] by simp [applyO, optEv, h]]
      replace h : n ≤ v := by omega
      go_enter Tryz.func113, Tryz.ntmps113
      go_wp2_with (go_at_call 123; (with_reducible refine (passes_no _ _ _ _ _ _ _ (.inr (.inl ⟨rfl, h⟩))).mono ?_); rintro e w1 ⟨rfl, hb⟩; have HB := Lib.hid hb; obtain ⟨hc, hf⟩ := bcell hb; have hz : w.heap.size + 2 < w1.heap.size := (by have := hb.size; simp at this; omega); clear hb)
      refine bodyPost_ret (v := .tuple #[.agg #[.int .i64 0, .int .i64 0, .int .i64 0, .int .u64 0], .bool false]) (by simp [results, Tryz.results113, go_sem, hc, hz]) rfl ?_
      exact ⟨rfl, by (repeat (first | with_reducible exact Below.refl _ _ | with_reducible refine bel_draw ?_ | with_reducible refine bel_alloc ?_ _ | with_reducible refine bel_set ?_ (by omega) _ | with_reducible refine bel_drawN ?_ _ | with_reducible refine below_step ?_ HB.out))⟩
  · clear h3 h6
    by_cases h : ky = n
    · rw [show optEv (applyO ⟨6, n⟩ ⟨t, ky, v, lb⟩) = .tuple #[.agg #[.int .i64 t, .int .i64 (ky), .int .i64 (v), .int .u64 lb], .bool true] by simp [applyO, optEv, h]]
      have H := Lib.hid h
      clear h
      go_enter Tryz.func113, Tryz.ntmps113
      go_wp2_with (go_at_call 123; (with_reducible refine (passes_yes _ _ _ _ _ _ _ (.inr (.inr ⟨rfl, H.out⟩))).mono ?_); rintro e w1 ⟨rfl, hb⟩; have HB := Lib.hid hb; obtain ⟨hc, hf⟩ := bcell hb; have hz : w.heap.size + 2 < w1.heap.size := (by have := hb.size; simp at this; omega); clear hb)
      refine bodyPost_ret (v := .tuple #[.agg #[.int .i64 t, .int .i64 (ky), .int .i64 (v), .int .u64 lb], .bool true]) (by simp [results, Tryz.results113, go_sem, hc, hz]) rfl ?_
      exact ⟨rfl, by (repeat (first | with_reducible exact Below.refl _ _ | with_reducible refine bel_draw ?_ | with_reducible refine bel_alloc ?_ _ | with_reducible refine bel_set ?_ (by omega) _ | with_reducible refine bel_drawN ?_ _ | with_reducible refine below_step ?_ HB.out))⟩
    · rw [show optEv (applyO ⟨6, n⟩ ⟨t, ky, v, lb⟩) = .tuple #[.agg #[.int .i64 0, .int .i64 0, .int .i64 0, .int .u64 0], .bool false] by simp [applyO, optEv, h]]
      have H2 := Lib.hid (show (ky == n) = false by simp [h])
      clear h
      go_enter Tryz.func113, Tryz.ntmps113
      go_wp2_with (go_at_call 123; (with_reducible refine (passes_no _ _ _ _ _ _ _ (.inr (.inr ⟨rfl, H2.out⟩))).mono ?_); rintro e w1 ⟨rfl, hb⟩; have HB := Lib.hid hb; obtain ⟨hc, hf⟩ := bcell hb; have hz : w.heap.size + 2 < w1.heap.size := (by have := hb.size; simp at this; omega); clear hb)
      refine bodyPost_ret (v := .tuple #[.agg #[.int .i64 0, .int .i64 0, .int .i64 0, .int .u64 0], .bool false]) (by simp [results, Tryz.results113, go_sem, hc, hz]) rfl ?_
      exact ⟨rfl, by (repeat (first | with_reducible exact Below.refl _ _ | with_reducible refine bel_draw ?_ | with_reducible refine bel_alloc ?_ _ | with_reducible refine bel_set ?_ (by omega) _ | with_reducible refine bel_drawN ?_ _ | with_reducible refine below_step ?_ HB.out))⟩
theorem res93 (w : World) (b : Nat) (x0 x1 x2 : Int) (x3 : Int) (u : Bool) (tmps : Array Value) (ht : tmps[4]?.getD undef = .pointer (some ⟨b, 0, none⟩)) (h5 : tmps[5]?.getD undef = .bool u) (h : At w b [.int .i64 x0, .int .i64 x1, .int .i64 x2, .int .u64 x3]) :
    (results Tryz.f93 tmps).run Tryz.prog w = .ok (.tuple #[.agg #[.int .i64 x0, .int .i64 x1, .int .i64 x2, .int .u64 x3], .bool u]) w := by
  have c0 := h.c 0 _ rfl
  have c1 := h.c 1 _ rfl
  have c2 := h.c 2 _ rfl
  have c3 := h.c 3 _ rfl
  simp only [results, Tryz.results93]
  simp [go_sem, ht, h5, c0, c1, c2, c3]
theorem At.ev {w : World} {b : Nat} {x0 x1 x2 x3 : Value} (h : At w b [x0, x1, x2, x3]) (y0 y1 y2 y3 : Value) : At ((((w.setCell ⟨b, 0, none⟩ y0).setCell ⟨b, 1, none⟩ y1).setCell ⟨b, 2, none⟩ y2).setCell ⟨b, 3, none⟩ y3) b [y0, y1, y2, y3] :=
  (((h.set 0 y0 (by simp)).set 1 y1 (by simp)).set 2 y2 (by simp)).set 3 y3 (by simp)
theorem optEv_some (a b c d : Int) : optEv (some ⟨a, b, c, d⟩) = .tuple #[.agg #[.int .i64 a, .int .i64 b, .int .i64 c, .int .u64 d], .bool true] := rfl
theorem optEv_none : optEv none = .tuple #[.agg #[.int .i64 0, .int .i64 0, .int .i64 0, .int .u64 0], .bool false] := rfl
set_option maxRecDepth 100000 in
set_option maxHeartbeats 4000000 in
theorem run_any (e : EvV) (v : Value) (l : List OpV) (w : World) (h : IsR OpV.cs 2 w v l) (ho : ∀ o ∈ l, OpBd o) :
    Calls Tryz.prog 93 #[e.val, v] w fun r w' => r = .returned (optEv (runO e l)) ∧ Below w.heap.size w w' := by
  obtain ⟨t, ky, va, lb⟩ := e
  obtain ⟨al, cl, rfl, hl1, hl2, bl, ol, hl3, hl4⟩ := h
  unfold maxLen at hl2
  have H3 := Lib.hid hl3
  have H4 := Lib.hid hl4
  have HO := Lib.hid ho
  clear hl3 hl4 ho
  obtain ⟨R, hR⟩ : ∃ R, R = optEv (runO ⟨t, ky, va, lb⟩ l) := ⟨_, rfl⟩
  rw [← hR]
  have HR := Lib.hid hR
  clear hR
  go_enter Tryz.func93, Tryz.ntmps93
  go_wp2
  go_loopg [12] l.length (fun g v12 wr => ∃ (k : Nat) (c : EvV), k ≤ l.length ∧ g = l.length - k ∧ v12 = .int .i64 k ∧ runO ⟨t, ky, va, lb⟩ l = runO c (l.drop k) ∧ At wr w.heap.size c.cs ∧ At wr (w.heap.size + 1) [.int .i64 0, .int .i64 0, .int .i64 0, .int .u64 0] ∧ Below w.heap.size w wr)
  case atStart => exact ⟨0, ⟨t, ky, va, lb⟩, by omega, by omega, rfl, by simp, (At.new _ _ _).alloc _, At.newAt (by simp) _ _, ((Below.refl _ _).alloc (Nat.le_refl _) _).alloc (by simp) _⟩
  case round =>
    obtain ⟨k, c, hk, rfl, rfl, hrun, ha, ha2, hb⟩ := hrel
    have HRUN := Lib.hid hrun
    have HA := Lib.hid ha
    have HA2 := Lib.hid ha2
    have HB := Lib.hid hb
    obtain ⟨c1, c2, c3, c4⟩ := c
    have e0 := ha.c 0 _ rfl
    have e1 := ha.c 1 _ rfl
    have e2 := ha.c 2 _ rfl
    have e3 := ha.c 3 _ rfl
    have g0 := ha.f 0
    have g1 := ha.f 1
    have g2 := ha.f 2
    have g3 := ha.f 3
    have z0 := ha2.c 0 _ rfl
    have z1 := ha2.c 1 _ rfl
    have z2 := ha2.c 2 _ rfl
    have z3 := ha2.c 3 _ rfl
    have y0 := ha2.f 0
    have y1 := ha2.f 1
    have y2 := ha2.f 2
    have y3 := ha2.f 3
    have hs1 := ha.lt
    have hs2 := ha2.lt
    clear hrun ha ha2 hb
    by_cases hlt : k < l.length
    · obtain ⟨o, hoe⟩ : ∃ o, l[k]? = some o := ⟨l[k], by simp [hlt]⟩
      obtain ⟨rfl, hbl⟩ := H3.out (by omega)
      have HX := Lib.hid (fun (j : Nat) (u : Value) (hj : o.cs[j]? = some u) => (HB.out.cell (p := ⟨bl, ol + k * 2 + j, none⟩) hbl).trans (H4.out k o hoe j u hj))
      have hob : OpBd o := HO.out o (List.mem_of_getElem? hoe)
      have HOB := Lib.hid hob
      have HOE := Lib.hid hoe
      obtain ⟨ok, on⟩ := o
      have x0 := HX.out 0 _ rfl
      have x1 := HX.out 1 _ rfl
      simp only [Nat.add_zero] at x0
      clear HX hoe hob
      have hn : ¬ wr.heap.size = w.heap.size := by omega
      have hn2 : ¬ wr.heap.size = w.heap.size + 1 := by omega
      have hdrop : l.drop k = ⟨ok, on⟩ :: l.drop (k + 1) := by
        have h1 := (List.getElem?_eq_some_iff.1 HOE.out).1
        rw [List.drop_eq_getElem_cons h1, (List.getElem?_eq_some_iff.1 HOE.out).2]
      have HD := Lib.hid hdrop
      clear hdrop
      cases hap : applyO ⟨ok, on⟩ ⟨c1, c2, c3, c4⟩ with
      | none =>
        have HAP := Lib.hid hap
        have HF := Lib.hid (show R = .tuple #[.agg #[.int .i64 0, .int .i64 0, .int .i64 0, .int .u64 0], .bool false] by rw [HR.out, HRUN.out, HD.out]; simp [runO, hap, optEv])
        clear hap
        go_wp2_with (go_at_call 113; (with_reducible refine (apply_any ⟨ok, on⟩ ⟨c1, c2, c3, c4⟩ HOB.out _).mono ?_); rintro r w1 ⟨rfl, hb⟩; rw [HAP.out, optEv_none]; have HB1 := Lib.hid hb; obtain ⟨hc, hf⟩ := bcell hb; have hz : wr.heap.size < w1.heap.size := (by have := hb.size; simp at this; omega); have A2 := (HA2.out.alloc (.cells #[.int .i64 ok, .int .i64 on] 128)).below hb; have b0 := A2.c 0 _ rfl; have b1 := A2.c 1 _ rfl; have b2 := A2.c 2 _ rfl; have b3 := A2.c 3 _ rfl; have d0 := A2.f 0; have d1 := A2.f 1; have d2 := A2.f 2; have d3 := A2.f 3; have HA3 := Lib.hid A2; have hl3 := A2.lt; clear hb A2)
        refine bodyPost_ret (v := .tuple #[.agg #[.int .i64 0, .int .i64 0, .int .i64 0, .int .u64 0], .bool false]) (res93 _ _ _ _ _ _ _ _ rfl rfl ?A9) rfl ?_
        case A9 => exact (HA3.out.ev _ _ _ _).alloc _
        exact ⟨by rw [HF.out], by (repeat (first | with_reducible exact Below.refl _ _ | with_reducible exact HB.out | with_reducible refine bel_draw ?_ | with_reducible refine bel_alloc ?_ _ | with_reducible refine bel_set ?_ (by omega) _ | with_reducible refine bel_drawN ?_ _ | with_reducible refine below_step ?_ HB1.out))⟩
      | some x =>
        have HAP := Lib.hid hap
        have HF := Lib.hid (show runO ⟨t, ky, va, lb⟩ l = runO x (l.drop (k + 1)) by rw [HRUN.out, HD.out]; simp [runO, hap])
        clear hap
        obtain ⟨x1', x2', x3', x4'⟩ := x
        go_wp2_with (go_at_call 113; (with_reducible refine (apply_any ⟨ok, on⟩ ⟨c1, c2, c3, c4⟩ HOB.out _).mono ?_); rintro r w1 ⟨rfl, hb⟩; rw [HAP.out, optEv_some]; have HB1 := Lib.hid hb; obtain ⟨hc, hf⟩ := bcell hb; have hz : wr.heap.size < w1.heap.size := (by have := hb.size; simp at this; omega); have A2 := (HA.out.alloc (.cells #[.int .i64 ok, .int .i64 on] 128)).below hb; have b0 := A2.c 0 _ rfl; have b1 := A2.c 1 _ rfl; have b2 := A2.c 2 _ rfl; have b3 := A2.c 3 _ rfl; have d0 := A2.f 0; have d1 := A2.f 1; have d2 := A2.f 2; have d3 := A2.f 3; have hl3 := A2.lt; clear hb A2)
        go_roundg (l.length - (k + 1))
        case measure => omega
        case rel =>
          have h1 : At w1 w.heap.size [.int .i64 c1, .int .i64 c2, .int .i64 c3, .int .u64 c4] := (HA.out.alloc _).below HB1.out
          have h2 : At w1 (w.heap.size + 1) _ := (HA2.out.alloc _).below HB1.out
          refine ⟨k + 1, ⟨x1', x2', x3', x4'⟩, by omega, rfl, by go_num, HF.out, ?_, ?_, ?_⟩
          · have q0 := h1.set 0 (.int .i64 x1') (by simp)
            have q1 := q0.set 1 (.int .i64 x2') (by simp)
            have q2 := q1.set 2 (.int .i64 x3') (by simp)
            have q3 := q2.set 3 (.int .u64 x4') (by simp)
            exact q3.alloc _
          · have q := (((h2.other ⟨w.heap.size, 0, none⟩ (.int .i64 x1') (by simp)).other ⟨w.heap.size, 1, none⟩ (.int .i64 x2') (by simp)).other ⟨w.heap.size, 2, none⟩ (.int .i64 x3') (by simp)).other ⟨w.heap.size, 3, none⟩ (.int .u64 x4') (by simp)
            exact q.alloc _
          · (repeat (first | with_reducible exact Below.refl _ _ | with_reducible exact HB.out | with_reducible refine bel_draw ?_ | with_reducible refine bel_alloc ?_ _ | with_reducible refine bel_set ?_ (by omega) _ | with_reducible refine bel_drawN ?_ _ | with_reducible refine below_step ?_ HB1.out))
    · have hk' : l.drop k = [] := List.drop_eq_nil_of_le (by omega)
      have HF := Lib.hid (show R = .tuple #[.agg #[.int .i64 c1, .int .i64 c2, .int .i64 c3, .int .u64 c4], .bool true] by rw [HR.out, HRUN.out, hk']; rfl)
      clear hk'
      go_wp2
      refine bodyPost_ret (v := .tuple #[.agg #[.int .i64 c1, .int .i64 c2, .int .i64 c3, .int .u64 c4], .bool true]) (res93 _ _ _ _ _ _ _ _ rfl rfl (HA2.out.ev _ _ _ _)) rfl ?_
      exact ⟨by rw [HF.out], by (repeat (first | with_reducible exact Below.refl _ _ | with_reducible exact HB.out | with_reducible refine bel_draw ?_ | with_reducible refine bel_alloc ?_ _ | with_reducible refine bel_set ?_ (by omega) _ | with_reducible refine bel_drawN ?_ _ | with_reducible refine below_step ?_ HB1.out))⟩
end Go.Proofs.YtcanfmabkklidaaGreat
