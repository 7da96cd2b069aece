/- Whose turn it is. -/
import Derived.Test.YtcanfmabkklidaaGreatMb22
import Derived.Laws.MakeOwn
set_option linter.unusedSimpArgs false
set_option linter.unusedVariables false
set_option linter.unnecessarySimpa false
namespace Go.Proofs.YtcanfmabkklidaaGreat
open Go.RowKit

set_option maxRecDepth 100000 in
theorem at_any (b : Nat) (G : Nat → List Nat) (vs vp : Value) (bb : Nat) (pc : Nat → Option Nat) (c : CoreV) (t : Nat) (ht : t ≤ 7) (w : World) (h : CoreIn w b G vs vp bb pc c) :
    Calls Tryz.prog 47 #[.pointer (some ⟨b, 0, none⟩), .int .i64 t] w fun e w' => e = .returned (ptrOf (pc t)) ∧ w' = w := by
  have hd : decide ((0 : Int) ≤ t ∧ (t : Int) ≤ 7) = true := by simp; omega
  have HD := Lib.hid hd
  have ct := h.a.c (4 + t) _ (core_cell c vs vp bb pc t ht)
  have hb := h.a.lt
  unfold ptrOf at ct ⊢
  clear h hd
  go_enter Tryz.func47, Tryz.ntmps47
  go_wp2_with (go_at_call 54; (with_reducible refine (core_within t 0 7 _).mono ?_); rintro e w1 ⟨rfl, rfl⟩; rw [HD.out])
  go_ret
  exact ⟨rfl, rfl⟩
theorem info201 : (Tryz.prog.info? 201).map (fun i => (i.zero, i.size, i.bytes)) = some (some (.agg #[.int .i64 0, .int .i64 0]), 2, 16) := by kernel_rfl
theorem mk198 (w : World) : (Instr.makeSlice 198 (.int .i64 8) (.int .i64 8)).run Tryz.prog w = .ok (.slice (some ⟨w.heap.size, 0, none⟩) 8 8) (w.alloc (.cells #[.int .i64 0, .int .i64 0, .int .i64 0, .int .i64 0, .int .i64 0, .int .i64 0, .int .i64 0, .int .i64 0, .int .i64 0, .int .i64 0, .int .i64 0, .int .i64 0, .int .i64 0, .int .i64 0, .int .i64 0, .int .i64 0] 201)) := by
  obtain ⟨i, h1, h2, h3, h4⟩ := info_parts info201
  have h := run_makeSlice (P := Tryz.prog) w 198 201 i _ Tryz.underlying198 h1 h2 .i64 .i64 8 8 (by omega) (by omega) (by rw [h3]; decide) (by rw [h4]; decide) (by omega)
  rw [h3] at h
  exact h.trans (by kernel_rfl)
theorem mk73 (w : World) : (Instr.makeSlice 73 (.int .i64 8) (.int .i64 8)).run Tryz.prog w = .ok (.slice (some ⟨w.heap.size, 0, none⟩) 8 8) (w.alloc (.cells #[.int .i64 0, .int .i64 0, .int .i64 0, .int .i64 0, .int .i64 0, .int .i64 0, .int .i64 0, .int .i64 0] 3)) := by
  obtain ⟨i, h1, h2, h3, h4⟩ := info_parts info3
  have h := run_makeSlice (P := Tryz.prog) w 73 3 i _ Tryz.underlying73 h1 h2 .i64 .i64 8 8 (by omega) (by omega) (by rw [h3]; decide) (by rw [h4]; decide) (by omega)
  rw [h3] at h
  exact h.trans (by kernel_rfl)
/-- turns: who, and how many -/
def ordL (k m : Nat) : List (Int × Int) := (List.range 8).map fun i => if i < m then (((turnI k i : Nat) : Int), (0 : Int)) else (0, 0)
theorem ordL_set (k m : Nat) (hm : m < 8) : ((ordL k m).flatMap keyCs).set (m * 2) (.int .i64 ((turnI k m : Nat) : Int)) = (ordL k (m + 1)).flatMap keyCs := by
  have hi : (ordL k m)[m]? = some (0, 0) := by simp [ordL, hm]
  have h := flat_set keycs_len (by decide) (ordL k m) m (0, 0) (((turnI k m : Nat) : Int), 0) hi 0 (by decide) (.int .i64 ((turnI k m : Nat) : Int)) rfl
  rw [Nat.add_zero] at h
  rw [h]
  congr 1
  apply List.ext_getElem?
  intro i
  simp only [ordL, List.getElem?_set, List.getElem?_map, List.length_map, List.length_range]
  by_cases e : m = i
  · subst e
    simp [hm]
  · simp only [e, if_false]
    rcases Nat.lt_or_ge i 8 with h8 | h8
    · simp only [List.getElem?_range h8, Option.map_some]
      by_cases h1 : i < m
      · simp [h1, show i < m + 1 by omega]
      · simp [h1, show ¬ i < m + 1 by omega]
    · simp [h8]
set_option maxRecDepth 100000 in
set_option maxHeartbeats 4000000 in
theorem order_any (k : Nat) (hk : k ≤ 1000000) (w : World) : Calls Tryz.prog 121 #[.int .i64 k] w fun e w' => ∃ g, e = .returned (.slice (some ⟨g, 0, none⟩) 8 8) ∧ At w' g ((ordL k 8).flatMap keyCs) ∧ w.heap.size ≤ g ∧ Below w.heap.size w w' := by
  have h0 : ((k : Int) < 0) = False := by simp
  have hmk := mk198
  go_enter Tryz.func121, Tryz.ntmps121
  go_wp2
  clear hmk
  go_loopg [10] 8 (fun n v10 wr => ∃ m : Nat, m ≤ 8 ∧ n = 8 - m ∧ v10 = .int .i64 m ∧ At wr w.heap.size ((ordL k m).flatMap keyCs) ∧ Below w.heap.size w wr)
  case atStart => exact ⟨0, by omega, rfl, rfl, At.new _ _ _, bel_alloc (Below.refl _ _) _⟩
  case round =>
    obtain ⟨m, hm, rfl, rfl, ha, hb⟩ := hrel
    have HA := Lib.hid ha
    have HB := Lib.hid hb
    by_cases hlt : m < 8
    · have hl := ha.lt
      have hc : wr.cell? ⟨w.heap.size, m * 2, none⟩ = some (.int .i64 0) := ha.c (m * 2) _ (by rw [flat_at keycs_len (by decide), show m * 2 / 2 = m by omega, show m * 2 % 2 = 0 by omega]; simp [ordL, hlt, keyCs])
      have hf := ha.f (m * 2)
      clear ha hb
      go_wp2
      have hv : (((k : Int) + m) % 8) = ((turnI k m : Nat) : Int) := by unfold turnI; omega
      rw [hv]
      go_roundg (8 - (m + 1))
      case measure => omega
      case rel =>
        refine ⟨m + 1, by omega, rfl, by go_num, ?_, bel_set HB.out (Nat.le_refl _) _⟩
        have h := HA.out.set (m * 2) (.int .i64 ((turnI k m : Nat) : Int)) (by rw [flat_len keycs_len]; simp [ordL]; omega)
        rwa [ordL_set k m hlt] at h
    · obtain rfl : m = 8 := by omega
      clear ha hb
      go_wp2
      go_ret
      exact ⟨_, rfl, HA.out, Nat.le_refl _, HB.out⟩
/-- the plan of a tick: who, and how many -/
def planL (bud : Int) (k m : Nat) (wl : List Int) : List (Int × Int) := (List.range 8).map fun i => (((turnI k i : Nat) : Int), if i < m then max 0 (min bud (wl.getD (turnI k i) 0)) else 0)
theorem planL_zero (bud : Int) (k : Nat) (wl : List Int) : planL bud k 0 wl = ordL k 8 := by
  apply List.map_congr_left
  intro i hi
  simp [List.mem_range.1 hi]
theorem planL_set (bud : Int) (k m : Nat) (wl : List Int) (hm : m < 8) : ((planL bud k m wl).flatMap keyCs).set (m * 2 + 1) (.int .i64 (max 0 (min bud (wl.getD (turnI k m) 0)))) = (planL bud k (m + 1) wl).flatMap keyCs := by
  have hi : (planL bud k m wl)[m]? = some (((turnI k m : Nat) : Int), 0) := by simp [planL, hm]
  rw [flat_set keycs_len (by decide) (planL bud k m wl) m (((turnI k m : Nat) : Int), 0) (((turnI k m : Nat) : Int), max 0 (min bud (wl.getD (turnI k m) 0))) hi 1 (by decide) _ rfl]
  congr 1
  apply List.ext_getElem?
  intro i
  simp only [planL, List.getElem?_set, List.getElem?_map, List.length_map, List.length_range]
  by_cases e : m = i
  · subst e
    simp [hm]
  · simp only [e, if_false]
    rcases Nat.lt_or_ge i 8 with h8 | h8
    · simp only [List.getElem?_range h8, Option.map_some]
      by_cases h1 : i < m
      · simp [h1, show i < m + 1 by omega]
      · simp [h1, show ¬ i < m + 1 by omega]
    · simp [h8]
set_option maxRecDepth 100000 in
set_option maxHeartbeats 8000000 in
theorem plan_any (bud : Int) (k : Nat) (hk : k ≤ 1000000) (gw : Nat) (wl : List Int) (hwl : wl.length = 8) (w : World) (hw : At w gw (ints wl)) : Calls Tryz.prog 106 #[.int .i64 bud, .int .i64 k, .slice (some ⟨gw, 0, none⟩) 8 8] w fun e w' =>
    ∃ g, e = .returned (.slice (some ⟨g, 0, none⟩) 8 8) ∧ At w' g ((planL bud k 8 wl).flatMap keyCs) ∧ w.heap.size ≤ g ∧ Below w.heap.size w w' := by
  have HW := Lib.hid hw
  have hgl := hw.lt
  clear hw
  go_enter Tryz.func106, Tryz.ntmps106
  go_wp2_with (go_at_call 121; (with_reducible refine (order_any k hk _).mono ?_); rintro e w1 ⟨g, rfl, ha1, hg1, hb1⟩; have HA1 := Lib.hid ha1; have HB1 := Lib.hid hb1; clear ha1 hb1)
  have hs1 := HB1.out.size
  have hg1l := HA1.out.lt
  go_loopg [14] 8 (fun n v14 wr => ∃ m : Nat, m ≤ 8 ∧ n = 8 - m ∧ v14 = .int .i64 m ∧ At wr g ((planL bud k m wl).flatMap keyCs) ∧ Below w.heap.size w wr)
  case atStart => exact ⟨0, by omega, rfl, rfl, by rw [planL_zero]; exact HA1.out, HB1.out⟩
  case round =>
    obtain ⟨m, hm, rfl, rfl, ha, hb⟩ := hrel
    have HA := Lib.hid ha
    have HB := Lib.hid hb
    by_cases hlt : m < 8
    · have hl := ha.lt
      have hsz := hb.size
      have htl : turnI k m < 8 := by unfold turnI; omega
      have c0 : wr.cell? ⟨g, m * 2, none⟩ = some (.int .i64 ((turnI k m : Nat) : Int)) := ha.c (m * 2) _ (by rw [flat_at keycs_len (by decide), show m * 2 / 2 = m by omega, show m * 2 % 2 = 0 by omega]; simp [planL, hlt, keyCs])
      have c1 : wr.cell? ⟨g, m * 2 + 1, none⟩ = some (.int .i64 0) := ha.c (m * 2 + 1) _ (by rw [flat_at keycs_len (by decide), show (m * 2 + 1) / 2 = m by omega, show (m * 2 + 1) % 2 = 1 by omega]; simp [planL, hlt, keyCs])
      have f1 := ha.f (m * 2 + 1)
      obtain ⟨x, hx⟩ : ∃ x, x = wl.getD (turnI k m) 0 := ⟨_, rfl⟩
      have hwr : At wr gw (ints wl) := HW.out.of_block (hb.block gw hgl)
      have cw : wr.cell? ⟨gw, turnI k m, none⟩ = some (.int .i64 x) := hwr.c (turnI k m) _ (by rw [hx]; simp [ints, List.getElem?_map, List.getD_eq_getElem?_getD, List.getElem?_eq_getElem (show turnI k m < wl.length by omega)])
      have HX := Lib.hid hx
      have hwl2 := hwr.lt
      clear ha hb hx hwr
      go_wp2
      go_roundg (8 - (m + 1))
      case measure => omega
      case rel =>
        refine ⟨m + 1, by omega, rfl, by go_num, ?_, bel_alloc (bel_set HB.out hg1 _) _⟩
        have h := HA.out.set (m * 2 + 1) (.int .i64 (max 0 (min bud x))) (by rw [flat_len keycs_len]; simp [planL]; omega)
        rw [HX.out, planL_set bud k m wl hlt] at h
        rw [HX.out]
        exact h.alloc _
    · obtain rfl : m = 8 := by omega
      clear ha hb
      go_wp2
      go_ret
      exact ⟨_, rfl, HA.out, hg1, HB.out⟩
end Go.Proofs.YtcanfmabkklidaaGreat
set_option linter.unusedSimpArgs false
set_option linter.unusedVariables false
set_option linter.unnecessarySimpa false
namespace Go.Proofs.YtcanfmabkklidaaGreat
open Go.RowKit

/-- what a core keeps to: N, how many inputs a cell had at most -/
structure CoreOk (c : CoreV) (N : Nat) : Prop where
  n : N ≤ 100000
  sinks : c.sinks.length ≤ 2
  sk : ∀ s ∈ c.sinks, SinkBd s
  pots : c.pots.length = c.sinks.length
  kind : ∀ p ∈ c.pots, 1 ≤ p.kind ∧ p.kind ≤ 4
  cell : ∀ t x, c.cells t = some x → CellOk x N
  sink : ∀ t x, c.cells t = some x → x.run.pipe.sink < c.sinks.length
  ticks : c.ticks ≤ N
  bd : ∀ t, (c.board t).length ≤ N
theorem CellOk.serve {x : CellV} {N : Nat} (h : CellOk x N) (n : Int) : CellOk (x.serve n).1 N ∧ (x.serve n).1.run.pipe = x.run.pipe := by
  have hr := h.run.take (x.queue.take (popN n x.queue.length))
  have hp : popN n x.queue.length ≤ x.queue.length := popN_le _ _
  have hl := h.len
  have hw := h.rows
  refine ⟨⟨hr.1, h.id, h.left, h.left2, h.spent, h.spent2, ?_, ?_⟩, hr.2.2⟩
  · simp only [CellV.serve, List.length_drop, List.length_append, List.length_take]
    omega
  · have h1 := hr.2.1
    simp only [CellV.serve, List.length_drop, List.length_append, List.length_take] at h1 ⊢
    omega
theorem CoreOk.setCell {c : CoreV} {N : Nat} (h : CoreOk c N) (t : Nat) {x : CellV} (hx : CellOk x N) (hs : x.run.pipe.sink < c.sinks.length) : CoreOk (c.setCell t x) N := by
  refine ⟨h.n, h.sinks, h.sk, h.pots, h.kind, fun u y hy => ?_, fun u y hy => ?_, h.ticks, h.bd⟩
  · simp only [CoreV.setCell] at hy
    split at hy
    · cases hy; exact hx
    · exact h.cell u y hy
  · simp only [CoreV.setCell] at hy
    split at hy
    · cases hy; exact hs
    · exact h.sink u y hy
theorem CoreOk.pots_set {c : CoreV} {N : Nat} (h : CoreOk c N) (i : Nat) (p : PotV) (hp : 1 ≤ p.kind ∧ p.kind ≤ 4) : CoreOk { c with pots := c.pots.set i p } N := by
  refine ⟨h.n, h.sinks, h.sk, by simpa using h.pots, fun q hq => ?_, h.cell, h.sink, h.ticks, h.bd⟩
  rcases List.mem_or_eq_of_mem_set hq with h1 | h1
  · exact h.kind q h1
  · rw [h1]; exact hp
theorem pots_get {c : CoreV} {N : Nat} (h : CoreOk c N) (i : Nat) (hi : i < c.sinks.length) : c.pots[i]? = some (c.pots.getD i default) ∧ 1 ≤ (c.pots.getD i default).kind ∧ (c.pots.getD i default).kind ≤ 4 := by
  have h1 : i < c.pots.length := by rw [h.pots]; exact hi
  have e : c.pots.getD i default = c.pots[i] := by simp [List.getD_eq_getElem?_getD, h1]
  rw [e]
  exact ⟨by simp [h1], h.kind _ (List.getElem_mem h1)⟩
theorem CoreOk.serve1 {c : CoreV} {N : Nat} (h : CoreOk c N) (w0 : Nat → Int) (i : Nat) : CoreOk (c.serve1 w0 i) N := by
  unfold CoreV.serve1
  simp only
  split
  · exact h
  · rename_i x hx
    have hk := (h.cell _ x hx).serve (max 0 (min c.budget (w0 (turnI c.ticks i))))
    have hs : (x.serve (max 0 (min c.budget (w0 (turnI c.ticks i))))).1.run.pipe.sink < c.sinks.length := by rw [hk.2]; exact h.sink _ x hx
    have h1 := h.setCell (turnI c.ticks i) hk.1 hs
    split
    · exact h1
    · rename_i hne
      by_cases hneg : x.run.pipe.sink.toNat < c.sinks.length
      · have hg := pots_get h1 x.run.pipe.sink.toNat hneg
        refine h1.pots_set _ _ ?_
        rw [give_kind]
        exact hg.2
      · have : ∀ p, ((c.setCell (turnI c.ticks i) (x.serve (max 0 (min c.budget (w0 (turnI c.ticks i))))).1).pots.set x.run.pipe.sink.toNat p) = (c.setCell (turnI c.ticks i) (x.serve (max 0 (min c.budget (w0 (turnI c.ticks i))))).1).pots := fun p => List.set_eq_of_length_le (by rw [h1.pots]; simpa [CoreV.setCell] using hneg)
        rw [this]
        exact h1
theorem serve1_same (w0 : Nat → Int) (c : CoreV) (i : Nat) : (c.serve1 w0 i).ticks = c.ticks ∧ (c.serve1 w0 i).budget = c.budget ∧ (c.serve1 w0 i).sinks = c.sinks ∧ (c.serve1 w0 i).room = c.room ∧ (c.serve1 w0 i).quota = c.quota ∧ (c.serve1 w0 i).board = c.board := by
  unfold CoreV.serve1
  simp only
  split
  · exact ⟨rfl, rfl, rfl, rfl, rfl, rfl⟩
  · split <;> exact ⟨rfl, rfl, rfl, rfl, rfl, rfl⟩
/-- after m turns -/
def servM (c : CoreV) (m : Nat) : CoreV := (List.range m).foldl (CoreV.serve1 (waitingOf c)) c
theorem servM_succ (c : CoreV) (m : Nat) : servM c (m + 1) = (servM c m).serve1 (waitingOf c) m := by
  unfold servM
  rw [List.range_succ, List.foldl_append]
  rfl
theorem servM_ok {c : CoreV} {N : Nat} (h : CoreOk c N) : ∀ m, CoreOk (servM c m) N
  | 0 => h
  | m + 1 => by rw [servM_succ]; exact (servM_ok h m).serve1 _ _
theorem servM_same (c : CoreV) : ∀ m, (servM c m).ticks = c.ticks ∧ (servM c m).budget = c.budget ∧ (servM c m).sinks = c.sinks
  | 0 => ⟨rfl, rfl, rfl⟩
  | m + 1 => by
    have h := serve1_same (waitingOf c) (servM c m) m
    have ih := servM_same c m
    rw [servM_succ]
    exact ⟨h.1.trans ih.1, h.2.1.trans ih.2.1, h.2.2.1.trans ih.2.2⟩
end Go.Proofs.YtcanfmabkklidaaGreat
set_option linter.unusedSimpArgs false
set_option linter.unusedVariables false
set_option linter.unnecessarySimpa false
namespace Go.Proofs.YtcanfmabkklidaaGreat
open Go.RowKit

theorem waiting_any (a : Option Addr) (n c : Nat) (w : World) : Calls Tryz.prog 105 #[.agg #[.slice a n c]] w fun e w' => e = .returned (.int .i64 n) ∧ Below w.heap.size w w' := by
  have HW := Lib.hid (fun (x : Obj) => ((Below.refl _ w).alloc (Nat.le_refl _) x : Below w.heap.size w (w.alloc x)))
  go_enter Tryz.func105, Tryz.ntmps105
  go_wp2
  go_ret
  exact ⟨rfl, HW.out _⟩
theorem index_ptr (q : Nat → Value) (m : Nat) (hm : m < 8) (w : World) : (Instr.index 115 (.agg #[q 0, q 1, q 2, q 3, q 4, q 5, q 6, q 7]) (.int .i64 (m : Int))).run Tryz.prog w = .ok (q m) w := by
  have hc : m = 0 ∨ m = 1 ∨ m = 2 ∨ m = 3 ∨ m = 4 ∨ m = 5 ∨ m = 6 ∨ m = 7 := by omega
  rcases hc with rfl | rfl | rfl | rfl | rfl | rfl | rfl | rfl <;> simp [Instr.index, go_sem]
def waitL (c : CoreV) (m : Nat) : List Int := (List.range 8).map fun t => if t < m then waitingOf c t else 0
theorem waitL_set (c : CoreV) (m : Nat) (hm : m < 8) : (ints (waitL c m)).set m (.int .i64 (waitingOf c m)) = ints (waitL c (m + 1)) := by
  apply List.ext_getElem?
  intro i
  simp only [ints, waitL, List.getElem?_set, List.getElem?_map, List.length_map, List.length_range]
  by_cases e : m = i
  · subst e
    simp [hm]
  · simp only [e, if_false]
    rcases Nat.lt_or_ge i 8 with h8 | h8
    · simp only [List.getElem?_range h8, Option.map_some]
      by_cases h1 : i < m
      · simp [h1, show i < m + 1 by omega]
      · simp [h1, show ¬ i < m + 1 by omega]
    · simp [h8]
theorem waitL_none (c : CoreV) (m : Nat) (hm : m < 8) (h : c.cells m = none) : waitL c (m + 1) = waitL c m := by
  apply List.map_congr_left
  intro i hi
  by_cases e : i = m
  · subst e
    simp [waitingOf, h]
  · by_cases h1 : i < m
    · simp [h1, show i < m + 1 by omega]
    · simp [h1, show ¬ i < m + 1 by omega]
set_option maxRecDepth 100000 in
set_option maxHeartbeats 16000000 in
theorem cserve_in (b : Nat) (G : Nat → List Nat) (vs vp : Value) (bb : Nat) (pc : Nat → Option Nat) (c : CoreV) (N : Nat) (w : World) (h : CoreIn w b G vs vp bb pc c) (ok : CoreOk c N) :
    Calls Tryz.prog 78 #[.pointer (some ⟨b, 0, none⟩)] w fun e w' => (∃ u, e = .returned u) ∧ ∃ G', CoreIn w' b G' vs vp bb pc c.serve ∧ Mod (allOf 12 G) w w' ∧ (∀ i, i < 12 → Into (G' i) (G i) w.heap.size) := by
  have hb := h.a.lt
  have hmk := mk73
  have HH := Lib.hid h
  have HOK := Lib.hid ok
  have a0 := h.a.c 4 _ rfl
  have a1 := h.a.c 5 _ rfl
  have a2 := h.a.c 6 _ rfl
  have a3 := h.a.c 7 _ rfl
  have a4 := h.a.c 8 _ rfl
  have a5 := h.a.c 9 _ rfl
  have a6 := h.a.c 10 _ rfl
  have a7 := h.a.c 11 _ rfl
  clear h ok
  go_enter Tryz.func78, Tryz.ntmps78
  go_wp2
  clear hmk a0 a1 a2 a3 a4 a5 a6 a7
  go_loopg [15] 8 (fun n v15 wr => ∃ m : Nat, m ≤ 8 ∧ n = 8 - m ∧ v15 = .int .i64 m ∧ At wr w.heap.size (ints (waitL c m)) ∧ Below w.heap.size w wr)
  case atStart => exact ⟨0, by omega, rfl, rfl, At.new _ _ _, bel_alloc (Below.refl _ _) _⟩
  case round =>
    obtain ⟨m, hm, rfl, rfl, ha, hb2⟩ := hrel
    have HA := Lib.hid ha
    have HB := Lib.hid hb2
    by_cases hlt : m < 8
    · have hl := ha.lt
      have HC := Lib.hid (HH.out.below hb2)
      have hcell := HC.out.cs m hlt
      have hix := index_ptr (fun i => ptrOf (pc i)) m hlt
      have hf := ha.f m
      have hcm : ∃ x, wr.cell? ⟨w.heap.size, m, none⟩ = some x := ⟨_, ha.c m _ (by simp [ints, waitL, hlt]; rfl)⟩
      clear ha hb2
      cases hx : c.cells m with
      | none =>
        rw [hx] at hcell
        rw [show ptrOf (pc m) = .pointer none by rw [hcell.1]; rfl] at hix
        have HX := Lib.hid hx
        clear hcell hx hcm
        go_wp2
        clear hix
        go_roundg (8 - (m + 1))
        case measure => omega
        case rel => exact ⟨m + 1, by omega, rfl, by go_num, by rw [waitL_none c m hlt HX.out]; exact HA.out, HB.out⟩
      | some x =>
        rw [hx] at hcell
        obtain ⟨bt, hp, hcx⟩ := hcell
        rw [show ptrOf (pc m) = .pointer (some ⟨bt, 0, none⟩) by rw [hp]; rfl] at hix
        obtain ⟨br, vq, vr, vt, Sq, Sr, Sv, St, hS, hci⟩ := hcx
        have hxq := hci.q
        obtain ⟨qa, qc, rfl⟩ : ∃ qa qc, vq = .slice qa x.queue.length qc := by obtain ⟨a, c', h, _⟩ := hxq; exact ⟨a, c', h⟩
        have q3 := hci.a.c 3 _ rfl
        have hbt := hci.a.lt
        have HX := Lib.hid hx
        obtain ⟨y, hcy⟩ := hcm
        clear hx hci hxq hp
        go_wp2_with (go_at_call 105; (with_reducible refine (waiting_any _ _ _ _).mono ?_); rintro e w2 ⟨rfl, hb3⟩; have hcy2 := (hb3.cell (p := ⟨w.heap.size, m, none⟩) hl).trans hcy; have hf2 := (hb3.frozen (p := ⟨w.heap.size, m, none⟩) hl).trans hf; have hs2 := hb3.size; have HB3 := Lib.hid hb3; clear hb3)
        clear hix
        go_roundg (8 - (m + 1))
        case measure => omega
        case rel =>
          have A2 := (HA.out.below HB3.out).set m (.int .i64 (x.queue.length : Int)) (by simp [ints, waitL]; omega)
          have e : waitingOf c m = (x.queue.length : Int) := by simp [waitingOf, HX.out]
          rw [← e, waitL_set c m hlt] at A2
          rw [e] at A2
          exact ⟨m + 1, by omega, rfl, by go_num, A2, bel_set (HB.out.trans (HB3.out.mono HB.out.size)) (Nat.le_refl _) _⟩
    · obtain rfl : m = 8 := by omega
      have HC := Lib.hid (HH.out.below hb2)
      have c0 := HC.out.a.c 0 _ rfl
      have c14 := HC.out.a.c 14 _ rfl
      have hwsz := hb2.size
      clear ha hb2
      go_wp2
      refine wp_region_pl (fun y => At y b (coreCs c vs vp bb pc)) (.take 0 <| .take 1 <| .take 2 <| .take 3 <| .take 4 <| .take 5 <| .take 6 <| .take 7 <| .take 8 <| .take 9 <| .take 12 <| .doo 10 <| .take 11 <| .done) ?plA (by kernel_rfl) (by kernel_rfl) (by kernel_rfl) ?plB (by intro c a d v w; cases d <;> exact fun h => h) ?plC ?_
      case plB =>
        simp only [Pl.with, List.getElem?_toArray, List.getElem?_cons_zero, List.getElem?_cons_succ]
        try rfl
      case plC => exact HC.out.a.drew
      have q0 : ∀ y, (fun y => At y b (coreCs c vs vp bb pc)) y → y.cell? ⟨b, 0, none⟩ = some (.int .i64 c.budget) := fun y h => h.c 0 _ rfl
      have q1 : ∀ y, (fun y => At y b (coreCs c vs vp bb pc)) y → y.cell? ⟨b, 14, none⟩ = some (.int .i64 c.ticks) := fun y h => h.c 14 _ rfl
      iterate 11 (refine wpPl_take (v := ?_) (by rfl) (fun w' hS => ?_) ?_; rotate_left; (focus (go_simp; with_reducible rfl)); simp only [Act.put, List.setIfInBounds_toArray, List.set_cons_zero, List.set_cons_succ])
      refine wpPl_do (by rfl) (fun K hK => ?_)
      go_wp2_with (go_at_call 106; (with_reducible refine (plan_any c.budget c.ticks (by have := HOK.out.ticks; have := HOK.out.n; omega) w.heap.size (waitL c 8) (by simp [waitL]) _ HA.out.drew).mono ?_); rintro e w3 ⟨g, rfl, hg3, hgs3, hb3⟩; have HG3 := Lib.hid hg3; have HB3 := Lib.hid hb3; clear hg3 hb3)
      refine ⟨(HC.out.drew.below HB3.out).a, ?_⟩
      iterate 1 (refine wpPl_take (v := ?_) (by rfl) (fun w' hS => ?_) ?_; rotate_left; (focus (go_simp; with_reducible rfl)); simp only [Act.put, List.setIfInBounds_toArray, List.set_cons_zero, List.set_cons_succ])
      refine wpPl_done ?_
      clear q0 q1 c0 c14
      have HC3 := Lib.hid (HC.out.drew.below HB3.out)
      have hs3 := HB3.out.size
      have hgl := HG3.out.lt
      have hold := HH.out.lt
      simp at hgs3 hs3
      go_wp2
      go_loopg [42] 8 (fun n v42 wr => ∃ (m : Nat) (G' : Nat → List Nat), m ≤ 8 ∧ n = 8 - m ∧ v42 = .int .i64 m ∧ CoreIn wr b G' vs vp bb pc (servM c m) ∧ Mod (allOf 12 G) w3 wr ∧ (∀ i, i < 12 → Into (G' i) (G i) w3.heap.size))
      case atStart => exact ⟨0, G, by omega, rfl, rfl, HC3.out, Mod.refl _ _, fun i _ => Into.refl _ _⟩
      case round =>
        obtain ⟨m, G', hm, rfl, rfl, hcr, hmr, hir⟩ := hrel
        have HCR := Lib.hid hcr
        have HMR := Lib.hid hmr
        have HIR := Lib.hid hir
        by_cases hlt : m < 8
        · have hgr : At wr g ((planL c.budget c.ticks 8 (waitL c 8)).flatMap keyCs) := HG3.out.mod hmr (fun h => by have := hold g h; omega)
          have hpl : (planL c.budget c.ticks 8 (waitL c 8))[m]? = some (((turnI c.ticks m : Nat) : Int), max 0 (min c.budget ((waitL c 8).getD (turnI c.ticks m) 0))) := by simp [planL, hlt]
          have htl : turnI c.ticks m ≤ 7 := by unfold turnI; omega
          have d0 := hgr.c (m * 2) (.int .i64 ((turnI c.ticks m : Nat) : Int)) (by rw [flat_at keycs_len (by decide), show m * 2 / 2 = m by omega, show m * 2 % 2 = 0 by omega, hpl]; rfl)
          have d1 := hgr.c (m * 2 + 1) (.int .i64 (max 0 (min c.budget ((waitL c 8).getD (turnI c.ticks m) 0)))) (by rw [flat_at keycs_len (by decide), show (m * 2 + 1) / 2 = m by omega, show (m * 2 + 1) % 2 = 1 by omega, hpl]; rfl)
          have hgrl := hgr.lt
          obtain ⟨t, ht⟩ : ∃ t, t = turnI c.ticks m := ⟨_, rfl⟩
          obtain ⟨nn, hnn⟩ : ∃ nn, nn = max 0 (min c.budget ((waitL c 8).getD (turnI c.ticks m) 0)) := ⟨_, rfl⟩
          rw [← ht] at d0 htl
          rw [← hnn] at d1
          have HT := Lib.hid (And.intro ht hnn)
          clear hcr hmr hir hgr hpl ht hnn
          obtain ⟨cm, hcm⟩ : ∃ cm, cm = servM c m := ⟨_, rfl⟩
          have hokm : CoreOk cm N := hcm ▸ servM_ok HOK.out m
          have hsm := servM_same c m
          have hnx := servM_succ c m
          rw [← hcm] at HCR hsm hnx
          have HOM := Lib.hid hokm
          have HSM := Lib.hid hsm
          have HNX := Lib.hid hnx
          have htt : turnI cm.ticks m = t := by rw [hsm.1]; exact HT.out.1.symm
          have hww : nn = max 0 (min cm.budget (waitingOf c t)) := by
            rw [hsm.2.1, HT.out.2, ← HT.out.1]
            congr 2
            simp only [waitL, List.getD_eq_getElem?_getD, List.getElem?_map]
            rw [List.getElem?_range (by omega)]
            simp
            intro h
            omega
          have HWW := Lib.hid (And.intro htt hww)
          have HAT0 := Lib.hid (fun W hW => at_any b G' vs vp bb pc cm t htl W hW)
          have hcell := HCR.out.cs t (by omega)
          clear hokm hsm hnx htt hww hcm
          cases hx : cm.cells t with
          | none =>
            rw [hx] at hcell
            rw [show ptrOf (pc t) = .pointer none by rw [hcell.1]; rfl] at HAT0
            have HX := Lib.hid hx
            clear hx hcell
            go_wp2_with (go_at_call 47; (with_reducible refine (HAT0.out _ (HCR.out.alloc _)).mono ?_); rintro e w4 ⟨rfl, rfl⟩)
            go_roundg (8 - (m + 1))
            case measure => omega
            case rel =>
              have e1 : servM c (m + 1) = cm := by rw [HNX.out]; simp [CoreV.serve1, HWW.out.1, HX.out]
              exact ⟨m + 1, G', by omega, rfl, by go_num, by rw [e1]; exact HCR.out.alloc _, HMR.out.new _, HIR.out⟩
          | some x =>
            rw [hx] at hcell
            obtain ⟨bt, hp, hcx⟩ := hcell
            rw [show ptrOf (pc t) = .pointer (some ⟨bt, 0, none⟩) by rw [hp]; rfl] at HAT0
            obtain ⟨br, vq, vr, vt, Sq, Sr, Sv, St, hS, hci⟩ := hcx
            have HX := Lib.hid hx
            have HP := Lib.hid hp
            have HCI := Lib.hid (hci.alloc (.cells #[.int .i64 t, .int .i64 nn] 201))
            have HSV := Lib.hid (serve_in bt br vq vr vt Sq Sr Sv St x N nn _ HCI.out (HOM.out.cell t x hx) HOM.out.n)
            rw [← hS] at HSV
            clear hx hp hci hS
            obtain ⟨x2, hx2⟩ : ∃ x2, x2 = (x.serve nn).1 := ⟨_, rfl⟩
            obtain ⟨rows, hrows⟩ : ∃ rows, rows = (x.serve nn).2 := ⟨_, rfl⟩
            have hpp : x2.run.pipe = x.run.pipe := hx2 ▸ ((HOM.out.cell t x HX.out).serve nn).2
            rw [← hx2, ← hrows] at HSV
            have HX2 := Lib.hid (And.intro hx2 hrows)
            obtain ⟨sk, hsk⟩ : ∃ sk, sk = x.run.pipe.sink := ⟨_, rfl⟩
            have HPP := Lib.hid (show x2.run.pipe.sink = sk from by rw [hpp, hsk])
            have HSK := Lib.hid hsk
            have hsk1 : -1 ≤ sk := hsk ▸ (HOM.out.cell t x HX.out).run.pip.sink1
            have hsk2 : sk < cm.sinks.length := hsk ▸ HOM.out.sink t x HX.out
            clear hsk
            clear hx2 hrows hpp
            have hm6 : Mod (allOf 12 G) w3 (wr.alloc (.cells #[.int .i64 t, .int .i64 nn] 201)) := HMR.out.new _
            have HM6 := Lib.hid hm6
            have hsz6 := HCR.out.a.lt
            have hw3r := HMR.out.size
            clear hm6
            rcases (by omega : sk = -1 ∨ 0 ≤ sk) with hsk | hsk
            · subst hsk
              go_wp2_with (first
                | (go_at_call 47; (with_reducible refine (HAT0.out _ (HCR.out.alloc _)).mono ?_); rintro e w4 ⟨rfl, rfl⟩)
                | (go_at_call 107; (with_reducible refine HSV.out.mono ?_); rintro e w5 ⟨vo, So, rfl, hro5, hso5, S5, hc5, hm5, hi5⟩; have HRO5 := Lib.hid hro5; have HSO5 := Lib.hid hso5; have HC5 := Lib.hid hc5; have HM5 := Lib.hid hm5; have HI5 := Lib.hid hi5; obtain ⟨br5, vq5, vr5, vt5, Sq5, Sr5, Sv5, St5, hS5, hci5⟩ := hc5; obtain ⟨bp5, bm5, vo5, So5, hSr5, hrn5⟩ := hci5.r; have k4 := hci5.a.c 4 _ rfl; have k8 := hrn5.a.c 8 _ rfl; have lbt := hci5.a.lt; have lbr := hrn5.a.lt; rw [HPP.out] at k8; obtain ⟨oa, on, oc, rfl⟩ : ∃ a n c, vo = .slice a n c := (by obtain ⟨a, c', h, _⟩ := hro5; exact ⟨a, _, c', h⟩); clear hro5 hso5 hm5 hi5 hci5 hrn5 hS5 hSr5))
              have HC6 := Lib.hid ((HCR.out.alloc (.cells #[.int .i64 t, .int .i64 nn] 201)).cell (by omega) HP.out HM5.out HC5.out HI5.out)
              have hpart := (HCR.out.alloc (.cells #[.int .i64 t, .int .i64 nn] 201)).parts (i := 4 + t) (by omega) HM5.out HI5.out HC5.out.lt
              go_roundg (8 - (m + 1))
              case measure => omega
              case rel =>
                have e1 : servM c (m + 1) = cm.setCell t x2 := by
                  rw [HNX.out]
                  have hk := HSK.out.symm
                  simp only [CoreV.serve1, HWW.out.1, HX.out, ← HWW.out.2, ← HX2.out.1, hk, if_true]
                refine ⟨m + 1, put G' (4 + t) S5, by omega, rfl, by go_num, by rw [e1]; exact HC6.out, HM6.out.trans HM5.out (fun y hy => ?_), fun j hj => (HIR.out j hj).trans (hpart.2.2 j hj) (by simp; omega)⟩
                rcases HIR.out (4 + t) (by omega) y hy with h1 | h1
                · exact .inl (mem_allOf.2 ⟨4 + t, by omega, h1⟩)
                · exact .inr h1
            · obtain ⟨i, rfl⟩ := Int.eq_ofNat_of_zero_le hsk
              go_wp2_with (first
                | (go_at_call 47; (with_reducible refine (HAT0.out _ (HCR.out.alloc _)).mono ?_); rintro e w4 ⟨rfl, rfl⟩)
                | (go_at_call 107; (with_reducible refine HSV.out.mono ?_); rintro e w5 ⟨vo, So, rfl, hro5, hso5, S5, hc5, hm5, hi5⟩; have HRO5 := Lib.hid hro5; have HSO5 := Lib.hid hso5; have HC5 := Lib.hid hc5; have HM5 := Lib.hid hm5; have HI5 := Lib.hid hi5; obtain ⟨br5, vq5, vr5, vt5, Sq5, Sr5, Sv5, St5, hS5, hci5⟩ := hc5; obtain ⟨bp5, bm5, vo5, So5, hSr5, hrn5⟩ := hci5.r; have k4 := hci5.a.c 4 _ rfl; have k8 := hrn5.a.c 8 _ rfl; have lbt := hci5.a.lt; have lbr := hrn5.a.lt; rw [HPP.out] at k8; obtain ⟨oa, on, oc, rfl⟩ : ∃ a n c, vo = .slice a n c := (by obtain ⟨a, c', h, _⟩ := hro5; exact ⟨a, _, c', h⟩); clear hro5 hso5 hm5 hi5 hci5 hrn5 hS5 hSr5))
              have HC6 := Lib.hid ((HCR.out.alloc (.cells #[.int .i64 t, .int .i64 nn] 201)).cell (by omega) HP.out HM5.out HC5.out HI5.out)
              have hpart := (HCR.out.alloc (.cells #[.int .i64 t, .int .i64 nn] 201)).parts (i := 4 + t) (by omega) HM5.out HI5.out HC5.out.lt
              have hil : i < cm.sinks.length := by omega
              have hpl2 := HOM.out.pots
              have hpt := HC6.out.p
              rcases hpt with ⟨h0, _⟩ | ⟨pg, cap, hvp, hpa, hg2, hcap⟩
              · have : cm.pots = [] := h0
                rw [this] at hpl2
                simp at hpl2
                omega
              subst hvp
              rcases HC6.out.s with ⟨sa, sc, hvs, _, _, ⟨h0, _⟩ | ⟨sb, so, hS1, hsa, hsbl, hsc⟩⟩
              · have h1 : cm.sinks = [] := h0
                simp [h1] at hil
              subst hvs hsa
              obtain ⟨⟨s1, s2, s3, s4, s5⟩, hsv⟩ : ∃ sv, cm.sinks[i]? = some sv := ⟨cm.sinks[i], by simp [hil]⟩
              have HSV2 := Lib.hid hsv
              have HCAP := Lib.hid hcap
              have HG2 := Lib.hid hg2
              have HBX := Lib.hid ((At.new wr #[.int .i64 (t : Int), .int .i64 nn] 201).mod HM5.out (fun hh => by have := HCR.out.pr.lt (4 + t) (by omega) _ hh; omega))
              have hnpg : pg ∉ So := fun hh => by
                have h1 := HSO5.out pg hh
                have h2 := HCR.out.pr.lt 2 (by omega) pg (by
                  have : put G' (4 + t) S5 2 = G' 2 := put_ne G' S5 (by omega)
                  rw [← this, hg2]
                  simp)
                simp at h1
                omega
              have HNP := Lib.hid hnpg
              clear hpa hsc hsv hcap hg2 hnpg k4 k8 lbt lbr
              refine wp_region_tl 17 (fun W => CoreIn W b (put G' (4 + t) S5) (.slice (some ⟨sb, so, none⟩) cm.sinks.length sc) (.slice (some ⟨pg, 0, none⟩) cm.pots.length cap) bb pc (cm.setCell t x2) ∧ At W wr.heap.size [.int .i64 (t : Int), .int .i64 nn] ∧ RdR RowV.cs 5 W (.slice oa on oc) rows So ∧ Below w5.heap.size w5 W) ⟨HC6.out.drew, HBX.out.drew, HRO5.out.same (fun _ _ => rfl), bel_draw (Below.refl _ _)⟩ (by kernel_rfl) (by kernel_rfl) ?_
              intro W F
              have HF := Lib.hid F
              have z3 := F.1.a.c 3 _ rfl
              have z12 := F.1.a.c 12 _ rfl
              have y0 := F.2.1.c 0 _ rfl
              have l1 := F.1.a.lt
              have l2 := F.2.1.lt
              have hsR := F.1.s
              rcases hsR with ⟨sa', sc', hvs', _, _, ⟨h0, _⟩ | ⟨sb', so', _, hsa', hsbl', hsc'⟩⟩
              · have h1 : cm.sinks = [] := h0
                simp [h1] at hil
              simp only [Value.slice.injEq, Option.some.injEq, Addr.mk.injEq] at hvs'
              obtain ⟨rfl, _, rfl⟩ := hvs'
              simp only [Option.some.injEq, Addr.mk.injEq] at hsa'
              obtain ⟨rfl, rfl, _⟩ := hsa'
              have v0 := hsc' i _ HSV2.out 0 _ rfl
              have v1 := hsc' i _ HSV2.out 1 _ rfl
              have v2 := hsc' i _ HSV2.out 2 _ rfl
              have v3 := hsc' i _ HSV2.out 3 _ rfl
              have v4 := hsc' i _ HSV2.out 4 _ rfl
              simp only [Nat.add_zero] at v0
              clear F hsc'
              have hicap : i < cm.pots.length := by omega
              have hil2 : i < (cm.setCell t x2).sinks.length := hil
              have hicap2 : i < (cm.setCell t x2).pots.length := hicap
              simp only [List.take_succ_cons, List.take_zero, List.drop_succ_cons, List.drop_zero]
              repeat still_step
              refine wpStill_nil ?_
              rcases HF.out.1.p with ⟨h0, _⟩ | ⟨pg', cap', hvp', hpa', hg2', hcap'⟩
              · have : cm.pots = [] := h0
                rw [this] at hicap
                simp at hicap
              simp only [Value.slice.injEq, Option.some.injEq, Addr.mk.injEq] at hvp'
              obtain ⟨⟨rfl, _, _⟩, _, rfl⟩ := hvp'
              have hpg := pots_get HOM.out i hil
              have HGV := Lib.hid (give_any pg i cm.pots (cm.pots.getD i default) hpg.1 ⟨s1, s2, s3, s4, s5⟩ t htl (.slice oa on oc) rows So W hpa' hpg.2.1 hpg.2.2 HF.out.2.2.1 HNP.out)
              obtain ⟨P2, hP2⟩ : ∃ P2, P2 = cm.pots.set i ((cm.pots.getD i default).give ⟨s1, s2, s3, s4, s5⟩ t rows) := ⟨_, rfl⟩
              rw [← hP2] at HGV
              have HP2 := Lib.hid hP2
              have HCAP2 := Lib.hid hcap'
              have HG3' := Lib.hid hg2'
              clear hpa' hpg hP2 hcap' hg2' v0 v1 v2 v3 v4 z3 z12 y0
              go_wp2_with (go_at_call 31; (with_reducible refine HGV.out.mono ?_); rintro e w8 ⟨⟨u, rfl⟩, ha8, hm8⟩; have HA8 := Lib.hid ha8; have HM8 := Lib.hid hm8; clear ha8 hm8)
              have hlen2 : P2.length = cm.pots.length := by rw [HP2.out, List.length_set]
              have HC8 := HF.out.1.potted (pots := P2) (by rw [HG3'.out]; exact HM8.out) (.inr ⟨pg, cap, by rw [hlen2], HA8.out, HG3'.out, by rw [hlen2]; exact HCAP2.out⟩)
              go_roundg (8 - (m + 1))
              case measure => omega
              case rel =>
                have e1 : servM c (m + 1) = { cm.setCell t x2 with pots := P2 } := by
                  rw [HNX.out, HP2.out]
                  have hk := HSK.out.symm
                  have hsd : cm.sinks.getD i default = ⟨s1, s2, s3, s4, s5⟩ := by simp [List.getD_eq_getElem?_getD, HSV2.out]
                  have hne : ¬ ((i : Int) = -1) := by omega
                  simp only [CoreV.serve1, HWW.out.1, HX.out, ← HWW.out.2, ← HX2.out.1, ← HX2.out.2, hk, if_neg hne, Int.toNat_natCast]
                  simp only [CoreV.setCell, hsd]
                have hsub : ∀ j, j < 12 → ∀ y ∈ G' j, y ∈ allOf 12 G ∨ w3.heap.size ≤ y := fun j hj y hy => by
                  rcases HIR.out j hj y hy with h1 | h1
                  · exact .inl (mem_allOf.2 ⟨j, hj, h1⟩)
                  · exact .inr h1
                refine ⟨m + 1, put G' (4 + t) S5, by omega, rfl, by go_num, by rw [e1]; exact HC8, ?_, fun j hj => (HIR.out j hj).trans (hpart.2.2 j hj) (by simp; omega)⟩
                refine (((HM6.out.trans HM5.out (fun y hy => hsub _ (by omega) y hy)).bel HF.out.2.2.2).trans HM8.out (fun y hy => ?_))
                have : put G' (4 + t) S5 2 = G' 2 := put_ne G' S5 (by omega)
                rw [HG3'.out] at this
                exact hsub 2 (by omega) y (by rw [← this]; exact hy)
        · obtain rfl : m = 8 := by omega
          clear hcr hmr hir
          go_wp2
          go_end0
          refine ⟨⟨_, rfl⟩, G', HCR.out, ?_, fun j hj y hy => ?_⟩
          · refine (Mod.of_below (HB.out.trans (((bel_draw (Below.refl _ _)).trans HB3.out).mono (by simpa using hwsz))) (allOf 12 G)).trans HMR.out (Into.refl _ _)
          · rcases HIR.out j hj y hy with h1 | h1
            · exact .inl h1
            · exact .inr (by omega)
end Go.Proofs.YtcanfmabkklidaaGreat
