/- TopFlood, the plain part: a tenant without sink or feed goes on by itself. -/
import Derived.Test.YtcanfmabkklidaaGreatMb27
set_option linter.unusedSimpArgs false
set_option linter.unusedVariables false
set_option linter.unnecessarySimpa false
namespace Go.Proofs.YtcanfmabkklidaaGreat
open Go.RowKit

/-- which turn of a tick is a tenant's -/
def slotOf (ticks t : Nat) : Nat := (t + 8 - ticks % 8) % 8
theorem turn_slot {ticks t i : Nat} (ht : t ≤ 7) (hi : i < 8) : turnI ticks i = t ↔ i = slotOf ticks t := by
  unfold turnI slotOf
  omega
theorem serve1_cell (w0 : Nat → Int) (c : CoreV) (i t : Nat) : (c.serve1 w0 i).cells t = if turnI c.ticks i = t then (c.cells t).map (fun x => (x.serve (max 0 (min c.budget (w0 t)))).1) else c.cells t := by
  unfold CoreV.serve1
  simp only
  by_cases h : turnI c.ticks i = t
  · rw [h, if_pos rfl]
    cases hx : c.cells t with
    | none => simp [hx]
    | some x =>
      simp only
      split <;> simp [CoreV.setCell]
  · rw [if_neg h]
    cases hx : c.cells (turnI c.ticks i) with
    | none => rfl
    | some x =>
      simp only
      have h2 : ¬ t = turnI c.ticks i := fun e => h e.symm
      split <;> simp [CoreV.setCell, h2]
theorem servM_cell (c : CoreV) (t : Nat) (ht : t ≤ 7) : ∀ m, m ≤ 8 → (servM c m).cells t = if slotOf c.ticks t < m then (c.cells t).map (fun x => (x.serve (max 0 (min c.budget (waitingOf c t)))).1) else c.cells t
  | 0, _ => by simp [servM]
  | m + 1, hm => by
    have ih := servM_cell c t ht m (by omega)
    have hs := servM_same c m
    rw [servM_succ, serve1_cell, hs.1, hs.2.1, ih]
    by_cases h : turnI c.ticks m = t
    · have e := (turn_slot ht (by omega)).1 h
      rw [if_pos h, if_neg (by omega), if_pos (by omega)]
    · rw [if_neg h]
      have e : ¬ m = slotOf c.ticks t := fun e => h ((turn_slot ht (by omega)).2 e)
      by_cases h2 : slotOf c.ticks t < m
      · rw [if_pos h2, if_pos (by omega)]
      · rw [if_neg h2, if_neg (by omega)]
theorem serv_cell (c : CoreV) (t : Nat) (ht : t ≤ 7) : (servM c 8).cells t = (c.cells t).map (fun x => (x.serve (max 0 (min c.budget (waitingOf c t)))).1) := by
  rw [servM_cell c t ht 8 (Nat.le_refl _), if_pos]
  unfold slotOf
  omega
/-- a tenant that isn't fed: its cell, if any -/
def NoFeed (c : CoreV) (t : Nat) : Prop := ∀ x, c.cells t = some x → x.run.pipe.feed = -1
theorem tell_sink (p : PotV) (s : SinkV) (i e : Int) : (p.tell s i e).sink = i := by
  unfold PotV.tell
  split <;> rfl
theorem tell1_cell (c : CoreV) (i t : Nat) (h : NoFeed c t) : (c.tell1 i).cells t = c.cells t := by
  unfold CoreV.tell1
  simp only
  have hk := (tell_sink (c.pots.getD i default) (c.sinks.getD i default) i (epochI (c.sinks.getD i default) c.ticks))
  generalize (c.pots.getD i default).tell (c.sinks.getD i default) i (epochI (c.sinks.getD i default) c.ticks) = r at hk ⊢
  split
  · split
    · rfl
    · simp only [CoreV.feed]
      split
      · cases hx : c.cells t with
        | none => rfl
        | some x =>
          have h1 := h x hx
          simp only [Option.map_some, feed1, h1, hk]
          rw [if_neg]
          simp
      · rfl
  · rfl
theorem tellM_cell (c : CoreV) (t : Nat) (h : NoFeed c t) : ∀ m, (tellM c m).cells t = c.cells t
  | 0 => rfl
  | m + 1 => by
    have ih := tellM_cell c t h m
    rw [tellM_succ, tell1_cell _ _ _ (fun x hx => h x (by rw [← ih]; exact hx)), ih]
theorem serve_pipe (x : CellV) (n : Int) (ok : RunOk x.run) : (x.serve n).1.run.pipe = x.run.pipe := (ok.take _).2.2
theorem tick_cell (c : CoreV) (t : Nat) (ht : t ≤ 7) (h : NoFeed c t) (ok : ∀ x, c.cells t = some x → RunOk x.run) : c.tick.cells t = (c.cells t).map (fun x => (x.serve (max 0 (min c.budget (waitingOf c t)))).1) := by
  rw [tick_eq, tellM_cell]
  · exact serv_cell c t ht
  · intro x hx
    have hx' : (servM c 8).cells t = some x := hx
    rw [serv_cell c t ht] at hx'
    cases hy : c.cells t with
    | none => rw [hy] at hx'; simp at hx'
    | some y =>
      rw [hy] at hx'
      simp only [Option.map_some, Option.some.injEq] at hx'
      rw [← hx', serve_pipe y _ (ok y hy)]
      exact h y hy
theorem tick_same (c : CoreV) : c.tick.budget = c.budget ∧ c.tick.room = c.room ∧ c.tick.ticks = c.ticks + 1 := by
  rw [tick_eq]
  have h1 : ∀ (d : CoreV) m, (tellM d m).budget = d.budget ∧ (tellM d m).room = d.room ∧ (tellM d m).ticks = d.ticks := by
    intro d m
    induction m with
    | zero => exact ⟨rfl, rfl, rfl⟩
    | succ m ih =>
      have h := tell1_same (tellM d m) m
      rw [tellM_succ]
      exact ⟨h.2.2.1.trans ih.1, h.2.2.2.1.trans ih.2.1, h.1.trans ih.2.2⟩
  have h2 : ∀ m, (servM c m).budget = c.budget ∧ (servM c m).room = c.room := by
    intro m
    induction m with
    | zero => exact ⟨rfl, rfl⟩
    | succ m ih =>
      have h := serve1_same (waitingOf c) (servM c m) m
      rw [servM_succ]
      exact ⟨h.2.1.trans ih.1, h.2.2.2.1.trans ih.2⟩
  have h := h1 { servM c 8 with ticks := c.ticks + 1 } c.sinks.length
  exact ⟨h.1.trans (h2 8).1, h.2.1.trans (h2 8).2, h.2.2⟩
/-- two cores in which a tenant is the same -/
structure Sim (t : Nat) (ca cb : CoreV) : Prop where
  room : ca.room = cb.room
  budget : ca.budget = cb.budget
  cell : ∃ x, ca.cells t = some x ∧ cb.cells t = some x ∧ x.run.pipe.feed = -1 ∧ RunOk x.run
theorem Sim.tick {t : Nat} (ht : t ≤ 7) {ca cb : CoreV} (h : Sim t ca cb) : Sim t ca.tick cb.tick := by
  obtain ⟨x, h1, h2, h3, h4⟩ := h.cell
  have sa := tick_same ca
  have sb := tick_same cb
  have ka := tick_cell ca t ht (fun y hy => by rw [h1] at hy; obtain rfl := Option.some.inj hy; exact h3) (fun y hy => by rw [h1] at hy; obtain rfl := Option.some.inj hy; exact h4)
  have kb := tick_cell cb t ht (fun y hy => by rw [h2] at hy; obtain rfl := Option.some.inj hy; exact h3) (fun y hy => by rw [h2] at hy; obtain rfl := Option.some.inj hy; exact h4)
  have wa : waitingOf ca t = (x.queue.length : Int) := by unfold waitingOf; rw [h1]
  have wb : waitingOf cb t = (x.queue.length : Int) := by unfold waitingOf; rw [h2]
  rw [h1, wa, Option.map_some] at ka
  rw [h2, wb, ← h.budget, Option.map_some] at kb
  exact ⟨by rw [sa.2.1, sb.2.1, h.room], by rw [sa.1, sb.1, h.budget], _, ka, kb, by rw [serve_pipe _ _ h4]; exact h3, (h4.take _).1⟩
theorem act_room (c : CoreV) (a : ActM) : (c.act a).1.room = c.room ∧ (c.act a).1.budget = c.budget := by
  unfold CoreV.act
  split
  · unfold CoreV.register
    split
    · exact ⟨rfl, rfl⟩
    · split <;> exact ⟨rfl, rfl⟩
  · split
    · have h := tick_same c
      exact ⟨h.2.1, h.1⟩
    · split
      · exact ⟨rfl, rfl⟩
      · split
        · exact ⟨rfl, rfl⟩
        · split <;> exact ⟨rfl, rfl⟩
theorem offer_run (x : CellV) (room : Int) (i : InpV) : (x.offer room i).1.run = x.run := by
  unfold CellV.offer CellV.refuse
  split
  · rfl
  · split
    · rfl
    · split <;> rfl
theorem Sim.act {t : Nat} (ht : t ≤ 7) {ca cb : CoreV} (h : Sim t ca cb) (a : ActM) (hk : a.kind = 3 ∨ a.tenant = t) (h5 : 1 ≤ a.kind) (h6 : a.kind ≤ 5) : Sim t (ca.act a).1 (cb.act a).1 ∧ (a.kind ≠ 5 → (ca.act a).2 = (cb.act a).2) := by
  by_cases h3 : a.kind = 3
  · have e : ∀ c : CoreV, c.act a = (c.tick, ⟨0, [], []⟩) := fun c => by simp [CoreV.act, h3]
    rw [e ca, e cb]
    exact ⟨h.tick ht, fun _ => rfl⟩
  · have hat : a.tenant = t := by rcases hk with hk | hk; exact absurd hk h3; exact hk
    have ra := act_room ca a
    have rb := act_room cb a
    obtain ⟨x, h1, h2, h7, h8⟩ := h.cell
    have hb : ∀ y : CellV, (ca.act a).1.cells t = some y → (cb.act a).1.cells t = some y → y.run = x.run → Sim t (ca.act a).1 (cb.act a).1 := fun y ya yb yr => ⟨by rw [ra.1, rb.1]; exact h.room, by rw [ra.2, rb.2]; exact h.budget, y, ya, yb, by rw [yr]; exact h7, by rw [yr]; exact h8⟩
    rcases (by omega : a.kind = 1 ∨ a.kind = 2 ∨ a.kind = 4 ∨ a.kind = 5) with k | k | k | k
    · have e : ∀ c : CoreV, c.cells t = some x → c.act a = (c, ⟨6, [], []⟩) := fun c hc => by simp [CoreV.act, k, CoreV.register, hat, hc]
      rw [e ca h1, e cb h2] at hb ⊢
      exact ⟨hb x h1 h2 rfl, fun _ => rfl⟩
    · have e : ∀ c : CoreV, c.cells t = some x → c.act a = (c.setCell t (x.offer c.room a.inp).1, ⟨(x.offer c.room a.inp).2, [], []⟩) := fun c hc => by simp [CoreV.act, k, hat, hc]
      rw [e ca h1, e cb h2] at hb ⊢
      rw [← h.room] at hb ⊢
      exact ⟨hb (x.offer ca.room a.inp).1 (by simp [CoreV.setCell]) (by simp [CoreV.setCell]) (offer_run _ _ _), fun _ => rfl⟩
    · have e : ∀ c : CoreV, c.cells t = some x → c.act a = (c, ⟨cutE x.rows a.frm, cutL x.rows a.frm a.n, []⟩) := fun c hc => by simp [CoreV.act, k, hat, hc]
      rw [e ca h1, e cb h2] at hb ⊢
      exact ⟨hb x h1 h2 rfl, fun _ => rfl⟩
    · have e : ∀ c : CoreV, (c.act a).1 = c := fun c => by simp [CoreV.act, k]
      rw [e ca, e cb] at hb ⊢
      exact ⟨hb x h1 h2 rfl, fun h => absurd k h⟩
/-- what another offers -/
theorem Sim.other {t : Nat} {ca cb : CoreV} (h : Sim t ca cb) (a : ActM) (hk : a.kind = 2) (hat : a.tenant ≠ t) : Sim t ca (cb.act a).1 := by
  have rb := act_room cb a
  obtain ⟨x, h1, h2, h7, h8⟩ := h.cell
  refine ⟨by rw [rb.1]; exact h.room, by rw [rb.2]; exact h.budget, x, h1, ?_, h7, h8⟩
  have e : (cb.act a).1.cells t = cb.cells t := by
    have hne : ¬ t = a.tenant := fun e => hat e.symm
    cases hc : cb.cells a.tenant with
    | none => simp [CoreV.act, hk, hc]
    | some y => simp [CoreV.act, hk, hc, CoreV.setCell, hne]
  rw [e]
  exact h2
theorem Sim.rows {t : Nat} {ca cb : CoreV} (h : Sim t ca cb) : rowsV ca t = rowsV cb t := by
  obtain ⟨x, h1, h2, _⟩ := h.cell
  unfold rowsV
  rw [h1, h2]
theorem rows_bd {c : CoreV} {N t : Nat} (h : CoreOk c N) : (rowsV c t).length ≤ 4 * N := by
  unfold rowsV
  cases hx : c.cells t with
  | none => simp
  | some x => have := (h.cell t x hx).rows; show x.rows.length ≤ _; omega
end Go.Proofs.YtcanfmabkklidaaGreat
