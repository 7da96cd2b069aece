/- What may be: operations, pipes, sinks, setups. -/
import Derived.Test.YtcanfmabkklidaaGreatMb7
import Derived.Laws.Bits64b
import Derived.Laws.BitsAllLaws
set_option linter.unusedSimpArgs false
set_option linter.unusedVariables false
set_option linter.unnecessarySimpa false
namespace Go.Proofs.YtcanfmabkklidaaGreat
open Go.RowKit

theorem oright_any (o : OpV) (ho : OpBd o) (w : World) : Calls Tryz.prog 111 #[.agg #[.int .i64 o.kind, .int .i64 o.n]] w fun e w' => e = .returned (.bool true) ∧ Below w.heap.size w w' := by
  have HW := Lib.hid (fun (x : Obj) => ((Below.refl _ w).alloc (Nat.le_refl _) x : Below w.heap.size w (w.alloc x)))
  obtain ⟨k, n⟩ := o
  obtain ⟨hk1, hk2, hn1, hn2, h3, h6⟩ := ho
  simp only at hk1 hk2 hn1 hn2 h3 h6
  rcases (by omega : k = 1 ∨ k = 2 ∨ k = 3 ∨ k = 4 ∨ k = 5 ∨ k = 6) with rfl | rfl | rfl | rfl | rfl | rfl
  · clear h3 h6
    go_enter Tryz.func111, Tryz.ntmps111
    go_wp2
    go_ret
    exact ⟨rfl, HW.out _⟩
  · clear h3 h6
    go_enter Tryz.func111, Tryz.ntmps111
    go_wp2
    go_ret
    exact ⟨rfl, HW.out _⟩
  · obtain ⟨q1, q2⟩ := h3 rfl
    clear h3 h6
    have q3 : n ≤ 256 := by omega
    go_enter Tryz.func111, Tryz.ntmps111
    go_wp2
    go_ret
    exact ⟨by first | rfl | (simp; omega), HW.out _⟩
  · clear h3 h6
    go_enter Tryz.func111, Tryz.ntmps111
    go_wp2
    go_ret
    exact ⟨rfl, HW.out _⟩
  · clear h3 h6
    go_enter Tryz.func111, Tryz.ntmps111
    go_wp2
    go_ret
    exact ⟨rfl, HW.out _⟩
  · obtain ⟨q1, q2⟩ := h6 rfl
    clear h3 h6
    have q3 : n ≤ 255 := by omega
    go_enter Tryz.func111, Tryz.ntmps111
    go_wp2
    go_ret
    exact ⟨by first | rfl | (simp; omega), HW.out _⟩
set_option maxHeartbeats 1000000 in
theorem orights_any (v : Value) (l : List OpV) (w : World) (h : IsR OpV.cs 2 w v l) (hl : l.length ≤ 4) (ho : ∀ o ∈ l, OpBd o) :
    Calls Tryz.prog 88 #[v] w fun e w' => e = .returned (.bool true) ∧ Below w.heap.size w w' := by
  obtain ⟨al, cl, rfl, hl1, hl2, bl, ol, hl3, hl4⟩ := h
  unfold maxLen at hl2
  have H3 := Lib.hid hl3
  have H4 := Lib.hid hl4
  have HO := Lib.hid ho
  clear hl3 hl4 ho
  go_enter Tryz.func88, Tryz.ntmps88
  go_wp2
  go_loopg [10] l.length (fun g v10 wr => ∃ (k : Nat), k ≤ l.length ∧ g = l.length - k ∧ v10 = .int .i64 k ∧ Below w.heap.size w wr)
  case atStart => exact ⟨0, by omega, by omega, rfl, Below.refl _ _⟩
  case round =>
    obtain ⟨k, hk, rfl, rfl, hb⟩ := hrel
    have HB := Lib.hid hb
    clear hb
    by_cases hlt : k < l.length
    · obtain ⟨o, hoe⟩ : ∃ o, l[k]? = some o := ⟨l[k], by simp [hlt]⟩
      obtain ⟨rfl, hbl⟩ := H3.out (by omega)
      have HX := Lib.hid (fun (j : Nat) (u : Value) (hj : o.cs[j]? = some u) => (HB.out.cell (p := ⟨bl, ol + k * 2 + j, none⟩) hbl).trans (H4.out k o hoe j u hj))
      have HOB := Lib.hid (HO.out o (List.mem_of_getElem? hoe))
      obtain ⟨ok, on⟩ := o
      have x0 := HX.out 0 _ rfl
      have x1 := HX.out 1 _ rfl
      simp only [Nat.add_zero] at x0
      clear HX hoe
      go_wp2_with (go_at_call 111; (with_reducible refine (oright_any ⟨ok, on⟩ HOB.out _).mono ?_); rintro e w1 ⟨rfl, hb⟩; have HB1 := Lib.hid hb; clear hb)
      go_roundg (l.length - (k + 1))
      case measure => omega
      case rel => exact ⟨k + 1, by omega, rfl, by go_num, below_step (HB.out.alloc HB.out.size _) HB1.out⟩
    · go_wp2
      go_ret
      exact ⟨rfl, HB.out⟩
set_option maxHeartbeats 1000000 in
theorem pright_any (p : PipeV) (hp : PipeBd p) (w : World) (h : p.ok w) :
    Calls Tryz.prog 61 #[p.val] w fun e w' => e = .returned (.bool true) ∧ Below w.heap.size w w' := by
  obtain ⟨vo, ol, sz, sl, ag, si, fd⟩ := p
  obtain ⟨q1, q2, q3, q4, q5, q6, q7, q8, q9, q10, q11, q12⟩ := hp
  simp only at q1 q2 q3 q4 q5 q6 q7 q8 q9 q10 q11 q12
  have HO := Lib.hid (show IsR OpV.cs 2 w vo ol from h)
  have HB0 := Lib.hid (And.intro q11 q12)
  have d1 : decide (winR sz sl) = true := decide_eq_true (winR_of sz sl q1 q2 q3 q4).1
  have d2 : decide (1 ≤ ag ∧ ag ≤ 4) = true := decide_eq_true ⟨q5, q6⟩
  have d3 : decide (-1 ≤ si ∧ si ≤ 3) = true := decide_eq_true ⟨q7, by omega⟩
  have d4 : decide (-1 ≤ fd ∧ fd ≤ 3) = true := decide_eq_true ⟨q9, by omega⟩
  have HD1 := Lib.hid d1
  have HD2 := Lib.hid d2
  have HD3 := Lib.hid d3
  have HD4 := Lib.hid d4
  clear h q1 q2 q3 q4 q5 q6 q7 q8 q9 q10 q11 q12 d1 d2 d3 d4
  have hsh : ∃ a n c, vo = .slice a n c := by obtain ⟨a, c, h, _⟩ := HO.out; exact ⟨_, _, _, h⟩
  obtain ⟨a, n, c, rfl⟩ := hsh
  unfold PipeV.val
  go_enter Tryz.func61, Tryz.ntmps61
  go_wp2_with (first
    | (go_at_call 88; (with_reducible refine (orights_any _ ol _ (IsR.kept HO.out ((Below.refl _ _).alloc (Nat.le_refl _) _)) HB0.out.1 HB0.out.2).mono ?_); rintro e w1 ⟨rfl, hb⟩; have HB := Lib.hid hb; obtain ⟨hc, hf⟩ := bcell hb; have hz : w.heap.size < w1.heap.size := (by have := hb.size; simp at this; omega); clear hb)
    | (go_at_call 89; (with_reducible refine (win_right _ _ _).mono ?_); rintro e w' ⟨rfl, rfl⟩; rw [HD1.out])
    | (go_at_call 90; (with_reducible refine (agg_right _ _).mono ?_); rintro e w' ⟨rfl, rfl⟩; rw [HD2.out])
    | (go_at_call 91; (with_reducible refine (pipe_place _ _).mono ?_); rintro e w' ⟨rfl, rfl⟩; first | rw [HD3.out] | rw [HD4.out]))
  go_ret
  exact ⟨rfl, by (repeat (first | with_reducible exact Below.refl _ _ | with_reducible refine bel_draw ?_ | with_reducible refine bel_alloc ?_ _ | with_reducible refine bel_set ?_ (by omega) _ | with_reducible refine bel_drawN ?_ _ | with_reducible refine below_step ?_ HB.out))⟩
theorem orI_nat (a b : Nat) (ha : a < 256) (hb : b < 256) : orI (a : Int) (b : Int) = ((a ||| b : Nat) : Int) := by
  unfold orI
  have e : bits BinOp.or IntKind.u64 0 (a : Int) = (a : Int) := by
    have := bits_or_u64_nat 0 a (by omega) (by omega)
    simpa using this
  rw [e]
  exact bits_or_u64_nat a b (by omega) (by omega)
theorem below_255 (a : Nat) (ha : a < 256) : belowI (a : Int) 255 = true := by
  unfold belowI
  have h := u64_andNot_nat a 255 (by omega) (by omega)
  have h2 : ∀ x : Fin 256, (x.val &&& (18446744073709551615 - 255)) = 0 := by decide +kernel
  have h3 := h2 ⟨a, ha⟩
  simp only at h3
  have e : bits BinOp.andNot IntKind.u64 (a : Int) 255 = 0 := by
    rw [show (255 : Int) = ((255 : Nat) : Int) from rfl, h, h3]
    rfl
  rw [e]
  rfl
/-- a sink that may be -/
structure SinkBd (s : SinkV) : Prop where
  f1 : 1 ≤ s.frm
  f2 : s.frm ≤ 255
  t1 : 0 ≤ s.tos
  t2 : s.tos ≤ 255
  l1 : 2 ≤ s.least
  l2 : s.least ≤ 4
  a1 : 1 ≤ s.agg
  a2 : s.agg ≤ 4
  k1 : 1 ≤ s.ticks
  k2 : s.ticks ≤ 6
theorem sink_below (s : SinkV) (h : SinkBd s) : belowI (orI s.frm s.tos) 255 = true := by
  obtain ⟨a, ha⟩ : ∃ a : Nat, s.frm = (a : Int) := ⟨s.frm.toNat, by have := h.f1; omega⟩
  obtain ⟨b, hb⟩ : ∃ b : Nat, s.tos = (b : Int) := ⟨s.tos.toNat, by have := h.t1; omega⟩
  have h1 := h.f2
  have h2 := h.t2
  rw [ha, hb, orI_nat a b (by omega) (by omega)]
  exact below_255 _ (Nat.or_lt_two_pow (n := 8) (by omega) (by omega))
theorem rsink_any (s : SinkV) (hs : SinkBd s) (w : World) : Calls Tryz.prog 75 #[s.val] w fun e w' => e = .returned (.bool true) ∧ Below w.heap.size w w' := by
  have HSB := Lib.hid (sink_below s hs)
  obtain ⟨f, t, l, a, d⟩ := s
  obtain ⟨q1, q2, q3, q4, q5, q6, q7, q8, q9, q10⟩ := hs
  simp only at q1 q2 q3 q4 q5 q6 q7 q8 q9 q10
  have z : (f == 0) = false := by simp; omega
  have HD2 := Lib.hid (show decide (1 ≤ a ∧ a ≤ 4) = true from decide_eq_true ⟨q7, q8⟩)
  have q11 : l ≤ 8 := by omega
  have q12 : d ≤ 100 := by omega
  unfold SinkV.val
  go_enter Tryz.func75, Tryz.ntmps75
  go_wp2_with (first
    | (go_at_call 51; (refine (join_any f t _ _ _ ?_ ?_).mono ?_); (focus go_simp); (focus go_simp); rintro e w3 ⟨rfl, rfl⟩)
    | (go_at_call 72; (with_reducible refine (below_any _ _ _).mono ?_); rintro e w' ⟨rfl, rfl⟩; rw [show belowI (orI f t) 255 = true from HSB.out])
    | (go_at_call 90; (with_reducible refine (agg_right _ _).mono ?_); rintro e w' ⟨rfl, rfl⟩; rw [HD2.out]))
  go_ret
  exact ⟨by first | rfl | simp, by (repeat (first | with_reducible exact Below.refl _ _ | with_reducible refine bel_draw ?_ | with_reducible refine bel_alloc ?_ _ | with_reducible refine bel_set ?_ (by omega) _ | with_reducible refine bel_drawN ?_ _ | with_reducible refine below_step ?_ HB.out))⟩
set_option maxHeartbeats 1000000 in
theorem rsinks_any (v : Value) (l : List SinkV) (w : World) (h : IsR SinkV.cs 5 w v l) (hl : l.length ≤ 2) (ho : ∀ s ∈ l, SinkBd s) :
    Calls Tryz.prog 55 #[v] w fun e w' => e = .returned (.bool true) ∧ Below w.heap.size w w' := by
  obtain ⟨al, cl, rfl, hl1, hl2, bl, ol, hl3, hl4⟩ := h
  unfold maxLen at hl2
  have H3 := Lib.hid hl3
  have H4 := Lib.hid hl4
  have HO := Lib.hid ho
  have hl5 : (l.length : Int) ≤ 4 := by omega
  clear hl3 hl4 ho
  go_enter Tryz.func55, Tryz.ntmps55
  go_wp2
  go_loopg [7] l.length (fun g v10 wr => ∃ (k : Nat), k ≤ l.length ∧ g = l.length - k ∧ v10 = .int .i64 k ∧ Below w.heap.size w wr)
  case atStart => exact ⟨0, by omega, by omega, rfl, Below.refl _ _⟩
  case round =>
    obtain ⟨k, hk, rfl, rfl, hb⟩ := hrel
    have HB := Lib.hid hb
    clear hb
    by_cases hlt : k < l.length
    · obtain ⟨o, hoe⟩ : ∃ o, l[k]? = some o := ⟨l[k], by simp [hlt]⟩
      obtain ⟨rfl, hbl⟩ := H3.out (by omega)
      have HX := Lib.hid (fun (j : Nat) (u : Value) (hj : o.cs[j]? = some u) => (HB.out.cell (p := ⟨bl, ol + k * 5 + j, none⟩) hbl).trans (H4.out k o hoe j u hj))
      have HOB := Lib.hid (HO.out o (List.mem_of_getElem? hoe))
      obtain ⟨o0, o1, o2, o3, o4⟩ := o
      have x0 := HX.out 0 _ rfl
      have x1 := HX.out 1 _ rfl
      have x2 := HX.out 2 _ rfl
      have x3 := HX.out 3 _ rfl
      have x4 := HX.out 4 _ rfl
      simp only [Nat.add_zero] at x0
      clear HX hoe
      go_wp2_with (go_at_call 75; (with_reducible refine (rsink_any ⟨o0, o1, o2, o3, o4⟩ HOB.out _).mono ?_); rintro e w1 ⟨rfl, hb⟩; have HB1 := Lib.hid hb; clear hb)
      go_roundg (l.length - (k + 1))
      case measure => omega
      case rel => exact ⟨k + 1, by omega, rfl, by go_num, below_step (HB.out.alloc HB.out.size _) HB1.out⟩
    · go_wp2
      go_ret
      exact ⟨by first | rfl | (simp; omega), HB.out⟩
/-- a setup that may be -/
structure SetBd (budget room quota : Int) (l : List SinkV) : Prop where
  b1 : 1 ≤ budget
  b2 : budget ≤ 4
  r1 : 1 ≤ room
  r2 : room ≤ 8
  q1 : 0 ≤ quota
  q2 : quota ≤ 300
  len : l.length ≤ 2
  sinks : ∀ s ∈ l, SinkBd s
theorem cright_any (b r q : Int) (v : Value) (l : List SinkV) (w : World) (h : IsR SinkV.cs 5 w v l) (hs : SetBd b r q l) :
    Calls Tryz.prog 35 #[.agg #[.int .i64 b, .int .i64 r, .int .i64 q, v]] w fun e w' => e = .returned (.bool true) ∧ Below w.heap.size w w' := by
  obtain ⟨b1, b2, r1, r2, q1, q2, hl, ho⟩ := hs
  have HV := Lib.hid h
  have HL := Lib.hid (And.intro hl ho)
  have D1 := Lib.hid (show decide (1 ≤ b ∧ b ≤ 8) = true from decide_eq_true ⟨b1, by omega⟩)
  have D2 := Lib.hid (show decide (1 ≤ r ∧ r ≤ 16) = true from decide_eq_true ⟨r1, by omega⟩)
  have D3 := Lib.hid (show decide (0 ≤ q ∧ q ≤ 4000) = true from decide_eq_true ⟨q1, by omega⟩)
  have hsh : ∃ a n c, v = .slice a n c := by obtain ⟨a, c, h, _⟩ := h; exact ⟨_, _, _, h⟩
  obtain ⟨a, n, c, rfl⟩ := hsh
  clear h hl ho b1 b2 r1 r2 q1 q2
  go_enter Tryz.func35, Tryz.ntmps35
  go_wp2_with (first
    | (go_at_call 54; (with_reducible refine (core_within _ _ _ _).mono ?_); rintro e w' ⟨rfl, rfl⟩; first | rw [D1.out] | rw [D2.out] | rw [D3.out])
    | (go_at_call 55; (with_reducible refine (rsinks_any _ l _ (IsR.kept HV.out ((Below.refl _ _).alloc (Nat.le_refl _) _)) HL.out.1 HL.out.2).mono ?_); rintro e w1 ⟨rfl, hb⟩; have HB := Lib.hid hb; clear hb))
  go_ret
  exact ⟨by first | rfl | simp, by (repeat (first | with_reducible exact Below.refl _ _ | with_reducible refine bel_draw ?_ | with_reducible refine bel_alloc ?_ _ | with_reducible refine bel_set ?_ (by omega) _ | with_reducible refine bel_drawN ?_ _ | with_reducible refine below_step ?_ HB.out))⟩
theorem from_any (s : SinkV) (w : World) : Calls Tryz.prog 101 #[s.val] w fun e w' => e = .returned (.int .u64 s.frm) ∧ Below w.heap.size w w' := by
  have HW := Lib.hid (fun (x : Obj) => ((Below.refl _ w).alloc (Nat.le_refl _) x : Below w.heap.size w (w.alloc x)))
  obtain ⟨f, t, l, a, d⟩ := s
  unfold SinkV.val
  go_enter Tryz.func101, Tryz.ntmps101
  go_wp2
  go_ret
  exact ⟨rfl, HW.out _⟩
theorem to_any (s : SinkV) (w : World) : Calls Tryz.prog 102 #[s.val] w fun e w' => e = .returned (.int .u64 s.tos) ∧ Below w.heap.size w w' := by
  have HW := Lib.hid (fun (x : Obj) => ((Below.refl _ w).alloc (Nat.le_refl _) x : Below w.heap.size w (w.alloc x)))
  obtain ⟨f, t, l, a, d⟩ := s
  unfold SinkV.val
  go_enter Tryz.func102, Tryz.ntmps102
  go_wp2
  go_ret
  exact ⟨rfl, HW.out _⟩
theorem hasb (f : Int) (t : Nat) : (bits BinOp.and IntKind.u64 f ((2 ^ t : Nat) : Int) != 0) = hasI f t := rfl
theorem infrom_any (id : Nat) (hid : id ≤ 7) (k : Int) (hk : -1 ≤ k) (hk2 : k ≤ 1) (v : Value) (l : List SinkV) (w : World) (h : IsR SinkV.cs 5 w v l) (hl : l.length ≤ 2) :
    Calls Tryz.prog 103 #[.int .i64 id, .int .i64 k, v, .func (.func 101) #[] #[]] w fun e w' => e = .returned (.bool (inI id k l SinkV.frm)) ∧ Below w.heap.size w w' := by
  obtain ⟨al, cl, rfl, hl1, hl2, bl, ol, hl3, hl4⟩ := h
  unfold maxLen at hl2
  by_cases h0 : k = -1
  · subst h0
    clear hl3 hl4
    rw [show inI id (-1) l SinkV.frm = true from rfl]
    go_enter Tryz.func103, Tryz.ntmps103
    go_wp2
    go_ret
    exact ⟨rfl, Below.refl _ _⟩
  have hz : (k == -1) = false := by simp [h0]
  have hk0 : 0 ≤ k := by omega
  obtain ⟨n, rfl⟩ : ∃ n : Nat, k = n := ⟨k.toNat, by omega⟩
  by_cases hlt : n < l.length
  · obtain ⟨s, hs⟩ : ∃ s, l[n]? = some s := ⟨l[n], by simp [hlt]⟩
    obtain ⟨rfl, hbl⟩ := hl3 (by omega)
    have HX := Lib.hid (hl4 n s hs)
    have HI := Lib.hid (show inI id n l SinkV.frm = hasI s.frm id by
      have e : l.getD n default = s := by rw [List.getD_eq_getElem?_getD, hs]; rfl
      simp only [inI, hz, Bool.false_or, Int.toNat_natCast, e]
      rw [decide_eq_true (by omega)]
      rfl)
    rw [HI.out]
    obtain ⟨f, t, ls, a, d⟩ := s
    have x0 := HX.out 0 _ rfl
    have x1 := HX.out 1 _ rfl
    have x2 := HX.out 2 _ rfl
    have x3 := HX.out 3 _ rfl
    have x4 := HX.out 4 _ rfl
    simp only [Nat.add_zero] at x0
    have hlt' : (n : Int) < l.length := by omega
    clear hl3 hl4 h0 hs HX
    go_enter Tryz.func103, Tryz.ntmps103
    go_wp2_with (first
      | (go_at_call 101; (with_reducible refine (from_any ⟨f, t, ls, a, d⟩ _).mono ?_); rintro e w1 ⟨rfl, hb⟩; have HB := Lib.hid hb; clear hb)
      | (go_at_call 14; (with_reducible refine (has_any _ id hid _).mono ?_); rintro e w1 ⟨rfl, rfl⟩; rw [hasb]))
    go_ret
    exact ⟨by first | rfl | simp, by (repeat (first | with_reducible exact Below.refl _ _ | with_reducible refine bel_draw ?_ | with_reducible refine bel_alloc ?_ _ | with_reducible refine bel_set ?_ (by omega) _ | with_reducible refine bel_drawN ?_ _ | with_reducible refine below_step ?_ HB.out))⟩
  · have HI := Lib.hid (show inI id n l SinkV.frm = false by
      simp only [inI, hz, Bool.false_or]
      rw [decide_eq_false (by omega)]
      rfl)
    rw [HI.out]
    have hlt' : (l.length : Int) ≤ n := by omega
    clear hl3 hl4 h0
    go_enter Tryz.func103, Tryz.ntmps103
    go_wp2
    go_ret
    exact ⟨by first | rfl | simp, Below.refl _ _⟩
theorem into_any (id : Nat) (hid : id ≤ 7) (k : Int) (hk : -1 ≤ k) (hk2 : k ≤ 1) (v : Value) (l : List SinkV) (w : World) (h : IsR SinkV.cs 5 w v l) (hl : l.length ≤ 2) :
    Calls Tryz.prog 103 #[.int .i64 id, .int .i64 k, v, .func (.func 102) #[] #[]] w fun e w' => e = .returned (.bool (inI id k l SinkV.tos)) ∧ Below w.heap.size w w' := by
  obtain ⟨al, cl, rfl, hl1, hl2, bl, ol, hl3, hl4⟩ := h
  unfold maxLen at hl2
  by_cases h0 : k = -1
  · subst h0
    clear hl3 hl4
    rw [show inI id (-1) l SinkV.tos = true from rfl]
    go_enter Tryz.func103, Tryz.ntmps103
    go_wp2
    go_ret
    exact ⟨rfl, Below.refl _ _⟩
  have hz : (k == -1) = false := by simp [h0]
  have hk0 : 0 ≤ k := by omega
  obtain ⟨n, rfl⟩ : ∃ n : Nat, k = n := ⟨k.toNat, by omega⟩
  by_cases hlt : n < l.length
  · obtain ⟨s, hs⟩ : ∃ s, l[n]? = some s := ⟨l[n], by simp [hlt]⟩
    obtain ⟨rfl, hbl⟩ := hl3 (by omega)
    have HX := Lib.hid (hl4 n s hs)
    have HI := Lib.hid (show inI id n l SinkV.tos = hasI s.tos id by
      have e : l.getD n default = s := by rw [List.getD_eq_getElem?_getD, hs]; rfl
      simp only [inI, hz, Bool.false_or, Int.toNat_natCast, e]
      rw [decide_eq_true (by omega)]
      rfl)
    rw [HI.out]
    obtain ⟨f, t, ls, a, d⟩ := s
    have x0 := HX.out 0 _ rfl
    have x1 := HX.out 1 _ rfl
    have x2 := HX.out 2 _ rfl
    have x3 := HX.out 3 _ rfl
    have x4 := HX.out 4 _ rfl
    simp only [Nat.add_zero] at x0
    have hlt' : (n : Int) < l.length := by omega
    clear hl3 hl4 h0 hs HX
    go_enter Tryz.func103, Tryz.ntmps103
    go_wp2_with (first
      | (go_at_call 102; (with_reducible refine (to_any ⟨f, t, ls, a, d⟩ _).mono ?_); rintro e w1 ⟨rfl, hb⟩; have HB := Lib.hid hb; clear hb)
      | (go_at_call 14; (with_reducible refine (has_any _ id hid _).mono ?_); rintro e w1 ⟨rfl, rfl⟩; rw [hasb]))
    go_ret
    exact ⟨by first | rfl | simp, by (repeat (first | with_reducible exact Below.refl _ _ | with_reducible refine bel_draw ?_ | with_reducible refine bel_alloc ?_ _ | with_reducible refine bel_set ?_ (by omega) _ | with_reducible refine bel_drawN ?_ _ | with_reducible refine below_step ?_ HB.out))⟩
  · have HI := Lib.hid (show inI id n l SinkV.tos = false by
      simp only [inI, hz, Bool.false_or]
      rw [decide_eq_false (by omega)]
      rfl)
    rw [HI.out]
    have hlt' : (l.length : Int) ≤ n := by omega
    clear hl3 hl4 h0
    go_enter Tryz.func103, Tryz.ntmps103
    go_wp2
    go_ret
    exact ⟨by first | rfl | simp, Below.refl _ _⟩
set_option maxHeartbeats 1000000 in
theorem may_any (id : Nat) (hid : id ≤ 7) (p : PipeV) (hp : PipeBd p) (v : Value) (l : List SinkV) (w : World) (h : p.ok w) (hv : IsR SinkV.cs 5 w v l) (hl : l.length ≤ 2) :
    Calls Tryz.prog 76 #[.int .i64 id, p.val, v] w fun e w' => e = .returned (.bool (inI id p.sink l SinkV.frm && inI id p.feed l SinkV.tos)) ∧ Below w.heap.size w w' := by
  have HP := Lib.hid (And.intro hp h)
  have HV := Lib.hid hv
  have hsh : ∃ a n c, v = .slice a n c := by obtain ⟨a, c, h, _⟩ := hv; exact ⟨_, _, _, h⟩
  obtain ⟨a, n, c, rfl⟩ := hsh
  obtain ⟨vo, ol, sz, sl, ag, si, fd⟩ := p
  have s1 := hp.sink1
  have s2 := hp.sink2
  have f1 := hp.feed1
  have f2 := hp.feed2
  simp only at s1 s2 f1 f2
  have hsh : ∃ a n c, vo = .slice a n c := by obtain ⟨a, c, h, _⟩ := h; exact ⟨_, _, _, h⟩
  obtain ⟨a2, n2, c2, rfl⟩ := hsh
  clear hp h hv
  unfold PipeV.val
  obtain ⟨B1, hB1⟩ : ∃ x, x = inI id si l SinkV.frm := ⟨_, rfl⟩
  obtain ⟨B2, hB2⟩ : ∃ x, x = inI id fd l SinkV.tos := ⟨_, rfl⟩
  simp only [← hB1, ← hB2]
  have HB1 := Lib.hid hB1
  have HB2' := Lib.hid hB2
  clear hB1 hB2
  cases B1
  · go_enter Tryz.func76, Tryz.ntmps76
    go_wp2_with (first
      | (go_at_call 61; (refine (pright_any ⟨_, ol, sz, sl, ag, si, fd⟩ HP.out.1 _ (PipeV.ok.kept HP.out.2 ((Below.refl _ _).alloc (Nat.le_refl _) _))).mono ?_); rintro e w1 ⟨rfl, hb⟩; have HB := Lib.hid hb; obtain ⟨hc, hf⟩ := bcell hb; have hz : w.heap.size < w1.heap.size := (by have := hb.size; simp at this; omega); clear hb)
      | (go_at_call 103; (with_reducible refine (infrom_any id hid si s1 s2 _ l _ (IsR.kept (IsR.kept HV.out ((Below.refl _ _).alloc (Nat.le_refl _) _)) HB.out) hl).mono ?_); rintro e w2 ⟨rfl, hb⟩; rw [← HB1.out]; have HB2 := Lib.hid hb; clear hb))
    go_ret
    exact ⟨rfl, by (repeat (first | with_reducible exact Below.refl _ _ | with_reducible refine bel_draw ?_ | with_reducible refine bel_alloc ?_ _ | with_reducible refine bel_set ?_ (by omega) _ | with_reducible refine bel_drawN ?_ _ | with_reducible refine below_step ?_ HB3.out | with_reducible refine below_step ?_ HB2.out | with_reducible refine below_step ?_ HB.out))⟩
  · go_enter Tryz.func76, Tryz.ntmps76
    go_wp2_with (first
      | (go_at_call 61; (refine (pright_any ⟨_, ol, sz, sl, ag, si, fd⟩ HP.out.1 _ (PipeV.ok.kept HP.out.2 ((Below.refl _ _).alloc (Nat.le_refl _) _))).mono ?_); rintro e w1 ⟨rfl, hb⟩; have HB := Lib.hid hb; obtain ⟨hc, hf⟩ := bcell hb; have hz : w.heap.size < w1.heap.size := (by have := hb.size; simp at this; omega); clear hb)
      | (go_at_call 103; (with_reducible refine (infrom_any id hid si s1 s2 _ l _ (IsR.kept (IsR.kept HV.out ((Below.refl _ _).alloc (Nat.le_refl _) _)) HB.out) hl).mono ?_); rintro e w2 ⟨rfl, hb⟩; rw [← HB1.out]; have HB2 := Lib.hid hb; obtain ⟨hc2, hf2⟩ := bcell hb; have hz2 : w.heap.size < w2.heap.size := (by have := hb.size; omega); clear hb)
      | (go_at_call 103; (with_reducible refine (into_any id hid fd f1 f2 _ l _ (IsR.kept (IsR.kept (IsR.kept HV.out ((Below.refl _ _).alloc (Nat.le_refl _) _)) HB.out) HB2.out) hl).mono ?_); rintro e w3 ⟨rfl, hb⟩; rw [← HB2'.out]; have HB3 := Lib.hid hb; clear hb))
    go_ret
    exact ⟨by first | rfl | simp, by (repeat (first | with_reducible exact Below.refl _ _ | with_reducible refine bel_draw ?_ | with_reducible refine bel_alloc ?_ _ | with_reducible refine bel_set ?_ (by omega) _ | with_reducible refine bel_drawN ?_ _ | with_reducible refine below_step ?_ HB3.out | with_reducible refine below_step ?_ HB2.out | with_reducible refine below_step ?_ HB.out))⟩
end Go.Proofs.YtcanfmabkklidaaGreat
