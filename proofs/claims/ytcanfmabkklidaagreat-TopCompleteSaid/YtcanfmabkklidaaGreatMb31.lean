/- TopFlood, the plain part: a tenant without sink or feed goes on by itself. -/
import Derived.Test.YtcanfmabkklidaaGreatMb27
set_option linter.unusedSimpArgs false
set_option linter.unusedVariables false
set_option linter.unnecessarySimpa false
namespace Go.Proofs.YtcanfmabkklidaaGreat
open Go.RowKit

/-- which turn of a tick is a tenant's -/
def slotOf (ticks t : Nat) : Nat := (t + 8 - ticks % 8) % 8
theorem turn_slot {ticks t i : Nat} (ht : t ≤ 7) (hi : i < 8) : turnI ticks i = t ↔ i = slotOf ticks t := by
  unfold turnI slotOf
  omega
theorem serve1_cell (w0 : Nat → Int) (c : CoreV) (i t : Nat) : (c.serve1 w0 i).cells t = if turnI c.ticks i = t then (c.cells t).map (fun x => (x.serve (max 0 (min c.budget (w0 t)))).1) else c.cells t := by
  unfold CoreV.serve1
  simp only
  by_cases h : turnI c.ticks i = t
  · rw [h, if_pos rfl]
    cases hx : c.cells t with
    | none => simp [hx]
    | some x =>
      simp only
      split <;> simp [CoreV.setCell]
  · rw [if_neg h]
    cases hx : c.cells (turnI c.ticks i) with
    | none => rfl
    | some x =>
      simp only
      have h2 : ¬ t = turnI c.ticks i := fun e => h e.symm
      split <;> simp [CoreV.setCell, h2]
theorem servM_cell (c : CoreV) (t : Nat) (ht : t ≤ 7) : ∀ m, m ≤ 8 → (servM c m).cells t = if slotOf c.ticks t < m then (c.cells t).map (fun x => (x.serve (max 0 (min c.budget (waitingOf c t)))).1) else c.cells t
  | 0, _ => by simp [servM]
  | m + 1, hm => by
    have ih := servM_cell c t ht m (by omega)
    have hs := servM_same c m
    rw [servM_succ, serve1_cell, hs.1, hs.2.1, ih]
    by_cases h : turnI c.ticks m = t
    · have e := (turn_slot ht (by omega)).1 h
      rw [if_pos h, if_neg (by omega), if_pos (by omega)]
    · rw [if_neg h]
      have e : ¬ m = slotOf c.ticks t := fun e => h ((turn_slot ht (by omega)).2 e)
      by_cases h2 : slotOf c.ticks t < m
      · rw [if_pos h2, if_pos (by omega)]
      · rw [if_neg h2, if_neg (by omega)]
theorem serv_cell (c : CoreV) (t : Nat) (ht : t ≤ 7) : (servM c 8).cells t = (c.cells t).map (fun x => (x.serve (max 0 (min c.budget (waitingOf c t)))).1) := by
  rw [servM_cell c t ht 8 (Nat.le_refl _), if_pos]
  unfold slotOf
  omega
/-- a tenant that isn't fed: its cell, if any -/
def NoFeed (c : CoreV) (t : Nat) : Prop := ∀ x, c.cells t = some x → x.run.pipe.feed = -1
theorem tell_sink (p : PotV) (s : SinkV) (i e : Int) : (p.tell s i e).sink = i := by
  unfold PotV.tell
  split <;> rfl
theorem tell1_cell (c : CoreV) (i t : Nat) (h : NoFeed c t) : (c.tell1 i).cells t = c.cells t := by
  unfold CoreV.tell1
  simp only
  have hk := (tell_sink (c.pots.getD i default) (c.sinks.getD i default) i (epochI (c.sinks.getD i default) c.ticks))
  generalize (c.pots.getD i default).tell (c.sinks.getD i default) i (epochI (c.sinks.getD i default) c.ticks) = r at hk ⊢
  split
  · split
    · rfl
    · simp only [CoreV.feed]
      split
      · cases hx : c.cells t with
        | none => rfl
        | some x =>
          have h1 := h x hx
          simp only [Option.map_some, feed1, h1, hk]
          rw [if_neg]
          simp
      · rfl
  · rfl
theorem tellM_cell (c : CoreV) (t : Nat) (h : NoFeed c t) : ∀ m, (tellM c m).cells t = c.cells t
  | 0 => rfl
  | m + 1 => by
    have ih := tellM_cell c t h m
    rw [tellM_succ, tell1_cell _ _ _ (fun x hx => h x (by rw [← ih]; exact hx)), ih]
theorem serve_pipe (x : CellV) (n : Int) (ok : RunOk x.run) : (x.serve n).1.run.pipe = x.run.pipe := (ok.take _).2.2
theorem tick_cell (c : CoreV) (t : Nat) (ht : t ≤ 7) (h : NoFeed c t) (ok : ∀ x, c.cells t = some x → RunOk x.run) : c.tick.cells t = (c.cells t).map (fun x => (x.serve (max 0 (min c.budget (waitingOf c t)))).1) := by
  rw [tick_eq, tellM_cell]
  · exact serv_cell c t ht
  · intro x hx
    have hx' : (servM c 8).cells t = some x := hx
    rw [serv_cell c t ht] at hx'
    cases hy : c.cells t with
    | none => rw [hy] at hx'; simp at hx'
    | some y =>
      rw [hy] at hx'
      simp only [Option.map_some, Option.some.injEq] at hx'
      rw [← hx', serve_pipe y _ (ok y hy)]
      exact h y hy
theorem tick_same (c : CoreV) : c.tick.budget = c.budget ∧ c.tick.room = c.room ∧ c.tick.ticks = c.ticks + 1 := by
  rw [tick_eq]
  have h1 : ∀ (d : CoreV) m, (tellM d m).budget = d.budget ∧ (tellM d m).room = d.room ∧ (tellM d m).ticks = d.ticks := by
    intro d m
    induction m with
    | zero => exact ⟨rfl, rfl, rfl⟩
    | succ m ih =>
      have h := tell1_same (tellM d m) m
      rw [tellM_succ]
      exact ⟨h.2.2.1.trans ih.1, h.2.2.2.1.trans ih.2.1, h.1.trans ih.2.2⟩
  have h2 : ∀ m, (servM c m).budget = c.budget ∧ (servM c m).room = c.room := by
    intro m
    induction m with
    | zero => exact ⟨rfl, rfl⟩
    | succ m ih =>
      have h := serve1_same (waitingOf c) (servM c m) m
      rw [servM_succ]
      exact ⟨h.2.1.trans ih.1, h.2.2.2.1.trans ih.2⟩
  have h := h1 { servM c 8 with ticks := c.ticks + 1 } c.sinks.length
  exact ⟨h.1.trans (h2 8).1, h.2.1.trans (h2 8).2, h.2.2⟩
/-- two cores in which a tenant is the same -/
structure Sim (t : Nat) (ca cb : CoreV) : Prop where
  room : ca.room = cb.room
  budget : ca.budget = cb.budget
  cell : ∃ x, ca.cells t = some x ∧ cb.cells t = some x ∧ x.run.pipe.feed = -1 ∧ RunOk x.run
theorem Sim.tick {t : Nat} (ht : t ≤ 7) {ca cb : CoreV} (h : Sim t ca cb) : Sim t ca.tick cb.tick := by
  obtain ⟨x, h1, h2, h3, h4⟩ := h.cell
  have sa := tick_same ca
  have sb := tick_same cb
  have ka := tick_cell ca t ht (fun y hy => by rw [h1] at hy; obtain rfl := Option.some.inj hy; exact h3) (fun y hy => by rw [h1] at hy; obtain rfl := Option.some.inj hy; exact h4)
  have kb := tick_cell cb t ht (fun y hy => by rw [h2] at hy; obtain rfl := Option.some.inj hy; exact h3) (fun y hy => by rw [h2] at hy; obtain rfl := Option.some.inj hy; exact h4)
  have wa : waitingOf ca t = (x.queue.length : Int) := by unfold waitingOf; rw [h1]
  have wb : waitingOf cb t = (x.queue.length : Int) := by unfold waitingOf; rw [h2]
  rw [h1, wa, Option.map_some] at ka
  rw [h2, wb, ← h.budget, Option.map_some] at kb
  exact ⟨by rw [sa.2.1, sb.2.1, h.room], by rw [sa.1, sb.1, h.budget], _, ka, kb, by rw [serve_pipe _ _ h4]; exact h3, (h4.take _).1⟩
theorem act_room (c : CoreV) (a : ActM) : (c.act a).1.room = c.room ∧ (c.act a).1.budget = c.budget := by
  unfold CoreV.act
  split
  · unfold CoreV.register
    split
    · exact ⟨rfl, rfl⟩
    · split <;> exact ⟨rfl, rfl⟩
  · split
    · have h := tick_same c
      exact ⟨h.2.1, h.1⟩
    · split
      · exact ⟨rfl, rfl⟩
      · split
        · exact ⟨rfl, rfl⟩
        · split <;> exact ⟨rfl, rfl⟩
theorem offer_run (x : CellV) (room : Int) (i : InpV) : (x.offer room i).1.run = x.run := by
  unfold CellV.offer CellV.refuse
  split
  · rfl
  · split
    · rfl
    · split <;> rfl
theorem Sim.act {t : Nat} (ht : t ≤ 7) {ca cb : CoreV} (h : Sim t ca cb) (a : ActM) (hk : a.kind = 3 ∨ a.tenant = t) (h5 : 1 ≤ a.kind) (h6 : a.kind ≤ 5) : Sim t (ca.act a).1 (cb.act a).1 ∧ (a.kind ≠ 5 → (ca.act a).2 = (cb.act a).2) := by
  by_cases h3 : a.kind = 3
  · have e : ∀ c : CoreV, c.act a = (c.tick, ⟨0, [], []⟩) := fun c => by simp [CoreV.act, h3]
    rw [e ca, e cb]
    exact ⟨h.tick ht, fun _ => rfl⟩
  · have hat : a.tenant = t := by rcases hk with hk | hk; exact absurd hk h3; exact hk
    have ra := act_room ca a
    have rb := act_room cb a
    obtain ⟨x, h1, h2, h7, h8⟩ := h.cell
    have hb : ∀ y : CellV, (ca.act a).1.cells t = some y → (cb.act a).1.cells t = some y → y.run = x.run → Sim t (ca.act a).1 (cb.act a).1 := fun y ya yb yr => ⟨by rw [ra.1, rb.1]; exact h.room, by rw [ra.2, rb.2]; exact h.budget, y, ya, yb, by rw [yr]; exact h7, by rw [yr]; exact h8⟩
    rcases (by omega : a.kind = 1 ∨ a.kind = 2 ∨ a.kind = 4 ∨ a.kind = 5) with k | k | k | k
    · have e : ∀ c : CoreV, c.cells t = some x → c.act a = (c, ⟨6, [], []⟩) := fun c hc => by simp [CoreV.act, k, CoreV.register, hat, hc]
      rw [e ca h1, e cb h2] at hb ⊢
      exact ⟨hb x h1 h2 rfl, fun _ => rfl⟩
    · have e : ∀ c : CoreV, c.cells t = some x → c.act a = (c.setCell t (x.offer c.room a.inp).1, ⟨(x.offer c.room a.inp).2, [], []⟩) := fun c hc => by simp [CoreV.act, k, hat, hc]
      rw [e ca h1, e cb h2] at hb ⊢
      rw [← h.room] at hb ⊢
      exact ⟨hb (x.offer ca.room a.inp).1 (by simp [CoreV.setCell]) (by simp [CoreV.setCell]) (offer_run _ _ _), fun _ => rfl⟩
    · have e : ∀ c : CoreV, c.cells t = some x → c.act a = (c, ⟨cutE x.rows a.frm, cutL x.rows a.frm a.n, []⟩) := fun c hc => by simp [CoreV.act, k, hat, hc]
      rw [e ca h1, e cb h2] at hb ⊢
      exact ⟨hb x h1 h2 rfl, fun _ => rfl⟩
    · have e : ∀ c : CoreV, (c.act a).1 = c := fun c => by simp [CoreV.act, k]
      rw [e ca, e cb] at hb ⊢
      exact ⟨hb x h1 h2 rfl, fun h => absurd k h⟩
/-- what another offers -/
theorem Sim.other {t : Nat} {ca cb : CoreV} (h : Sim t ca cb) (a : ActM) (hk : a.kind = 2) (hat : a.tenant ≠ t) : Sim t ca (cb.act a).1 := by
  have rb := act_room cb a
  obtain ⟨x, h1, h2, h7, h8⟩ := h.cell
  refine ⟨by rw [rb.1]; exact h.room, by rw [rb.2]; exact h.budget, x, h1, ?_, h7, h8⟩
  have e : (cb.act a).1.cells t = cb.cells t := by
    have hne : ¬ t = a.tenant := fun e => hat e.symm
    cases hc : cb.cells a.tenant with
    | none => simp [CoreV.act, hk, hc]
    | some y => simp [CoreV.act, hk, hc, CoreV.setCell, hne]
  rw [e]
  exact h2
theorem Sim.rows {t : Nat} {ca cb : CoreV} (h : Sim t ca cb) : rowsV ca t = rowsV cb t := by
  obtain ⟨x, h1, h2, _⟩ := h.cell
  unfold rowsV
  rw [h1, h2]
theorem rows_bd {c : CoreV} {N t : Nat} (h : CoreOk c N) : (rowsV c t).length ≤ 4 * N := by
  unfold rowsV
  cases hx : c.cells t with
  | none => simp
  | some x => have := (h.cell t x hx).rows; show x.rows.length ≤ _; omega
end Go.Proofs.YtcanfmabkklidaaGreat
set_option linter.unusedSimpArgs false
set_option linter.unusedVariables false
set_option linter.unnecessarySimpa false
namespace Go.Proofs.YtcanfmabkklidaaGreat
open Go.RowKit

def relE (L : Int) (e : EvV) : EvV := ⟨e.time, e.key, e.value, L⟩
def relI (L : Int) (i : InpV) : InpV := if i.mark then i else ⟨i.mark, i.time, i.key, i.value, L⟩
def relP (L : Int) (p : PotV) : PotV := ⟨p.count, p.kind, p.value, L⟩
def relR (L : Int) (r : RowV) : RowV := ⟨r.start, r.key, r.value, r.count, L⟩
def relO (L : Int) (l : PaneL) : PaneL := l.map fun y => (y.1, relP L y.2)
def relRun (L : Int) (r : RunV) : RunV := ⟨r.clk, r.pipe, relO L r.opn⟩
theorem pGet_rel (L : Int) (k : Int × Int) : ∀ l : PaneL, pGet (relO L l) k = (pGet l k).map (relP L)
  | [] => rfl
  | y :: l => by
    simp only [relO, List.map_cons, pGet]
    split
    · rfl
    · exact pGet_rel L k l
theorem pSet_rel (L : Int) (k : Int × Int) (x : PotV) : ∀ l : PaneL, pSet (relO L l) k (relP L x) = relO L (pSet l k x)
  | [] => rfl
  | y :: l => by
    have ih := pSet_rel L k x l
    simp only [relO, List.map_cons, pSet] at ih ⊢
    split
    · rfl
    · rw [ih]
      rfl
theorem pDel_rel (L : Int) (k : Int × Int) : ∀ l : PaneL, pDel (relO L l) k = relO L (pDel l k)
  | [] => rfl
  | y :: l => by
    have ih := pDel_rel L k l
    simp only [relO, List.map_cons, pDel] at ih ⊢
    split
    · rfl
    · rw [ih]
      rfl
structure Lab (L : Int) : Prop where
  z : orI 0 L = L
  s : orI L L = L
theorem lab_of {t : Nat} (ht : t ≤ 7) : Lab ((2 ^ t : Nat) : Int) := by
  have hc : t = 0 ∨ t = 1 ∨ t = 2 ∨ t = 3 ∨ t = 4 ∨ t = 5 ∨ t = 6 ∨ t = 7 := by omega
  rcases hc with rfl | rfl | rfl | rfl | rfl | rfl | rfl | rfl <;> exact ⟨by decide +kernel, by decide +kernel⟩
theorem put1_rel {L : Int} (hL : Lab L) (kind : Int) (e : EvV) (l : PaneL) (s : Int) : put1 kind (relE L e) (relO L l) s = relO L (put1 kind e l s) := by
  unfold put1
  simp only [relE, pGet_rel]
  rw [← pSet_rel]
  refine congrArg _ ?_
  cases pGet l (s, e.key) with
  | none => simp [relP, PotV.add, hL.z]
  | some p => simp [relP, PotV.add, hL.s]
theorem putL_rel {L : Int} (hL : Lab L) (p : PipM) (e : EvV) (l : PaneL) : putL p (relE L e) (relO L l) = relO L (putL p e l) := by
  unfold putL
  show ((startsI e.time p.size p.slide (mostI p.size p.slide)).foldl (put1 p.agg (relE L e)) (relO L l)) = _
  generalize startsI e.time p.size p.slide (mostI p.size p.slide) = ss
  induction ss generalizing l with
  | nil => rfl
  | cons s ss ih =>
    simp only [List.foldl_cons]
    rw [put1_rel hL, ih]
theorem applyO_rel (L : Int) (o : OpV) (e : EvV) : applyO o (relE L e) = (applyO o e).map (relE L) := by
  unfold applyO relE
  simp only
  repeat' split
  all_goals simp_all
theorem runO_rel (L : Int) : ∀ (ol : List OpV) (e : EvV), runO (relE L e) ol = (runO e ol).map (relE L)
  | [], e => rfl
  | o :: ol, e => by
    simp only [runO, applyO_rel]
    cases applyO o e with
    | none => rfl
    | some x => exact runO_rel L ol x
theorem event_rel {L : Int} (hL : Lab L) (r : RunV) (e : EvV) : (relRun L r).event (relE L e) = relRun L (r.event e) := by
  have h := runO_rel L r.pipe.ol e
  unfold RunV.event
  have e1 : (relE L e).time = e.time := rfl
  have e2 : (relRun L r).clk = r.clk := rfl
  have e3 : (relRun L r).pipe = r.pipe := rfl
  have e4 : (relRun L r).opn = relO L r.opn := rfl
  rw [e1, e2, e3, e4, h]
  cases (r.clk.on e.time).2 with
  | false => rfl
  | true =>
    cases runO e r.pipe.ol with
    | none => rfl
    | some x =>
      simp only [if_true, Option.map_some]
      rw [putL_rel hL]
      rfl
theorem placesL_rel (L : Int) (l : PaneL) : placesL (relO L l) = placesL l := by
  unfold placesL relO
  rw [List.map_map]
  rfl
theorem pGet_some {k : Int × Int} : ∀ {l : PaneL}, k ∈ l.map (·.1) → ∃ p, pGet l k = some p
  | [], h => by simp at h
  | y :: l, h => by
    simp only [pGet]
    split
    · exact ⟨_, rfl⟩
    · rename_i hne
      simp only [List.map_cons, List.mem_cons] at h
      rcases h with h | h
      · exact absurd h.symm hne
      · exact pGet_some h
theorem pDel_mem2 {k k' : Int × Int} (hne : k' ≠ k) : ∀ {l : PaneL}, k' ∈ l.map (·.1) → k' ∈ (pDel l k).map (·.1)
  | [], h => by simp at h
  | y :: l, h => by
    simp only [List.map_cons, List.mem_cons] at h
    simp only [pDel]
    split
    · rename_i he
      rcases h with h | h
      · exact absurd (h.trans he) hne
      · exact h
    · simp only [List.map_cons, List.mem_cons]
      rcases h with h | h
      · exact .inl h
      · exact .inr (pDel_mem2 hne h)
theorem closeL_rel (L : Int) (size mark : Int) : ∀ (ks : List (Int × Int)) (l : PaneL), ks.Nodup → (∀ k ∈ ks, k ∈ l.map (·.1)) → closeL size mark ks (relO L l) = ((closeL size mark ks l).1.map (relR L), relO L (closeL size mark ks l).2)
  | [], l, _, _ => rfl
  | k :: ks, l, hn, hk => by
    have hn' := List.nodup_cons.1 hn
    simp only [closeL]
    split
    · exact closeL_rel L size mark ks l hn'.2 (fun x hx => hk x (by simp [hx]))
    · rw [pDel_rel, closeL_rel L size mark ks (pDel l k) hn'.2 (fun x hx => pDel_mem2 (fun e => hn'.1 (by rw [← e]; exact hx)) (hk x (by simp [hx])))]
      obtain ⟨p, hp⟩ := pGet_some (hk k (by simp))
      simp [pGet_rel, hp, rowOf, relP, relR]
theorem take1_rel {L : Int} (hL : Lab L) (r : RunV) (ok : RunOk r) (i : InpV) : (relRun L r).take1 (relI L i) = (relRun L (r.take1 i).1, (r.take1 i).2.map (relR L)) := by
  unfold RunV.take1
  cases hm : i.mark with
  | true =>
    have e : relI L i = i := by simp [relI, hm]
    rw [e]
    simp only [hm, if_true, relRun, placesL_rel]
    split
    · have hp : (placesL r.opn).Perm (r.opn.map (·.1)) := List.mergeSort_perm _ _
      rw [closeL_rel L _ _ _ _ (hp.nodup_iff.2 ok.nd) (fun k hk => hp.mem_iff.1 hk)]
    · rfl
  | false =>
    have e : relI L i = ⟨false, i.time, i.key, i.value, L⟩ := by simp [relI, hm]
    rw [e]
    simp only [Bool.false_eq_true, if_false, List.map_nil]
    rw [← event_rel hL r i.ev]
    rfl
theorem take_rel {L : Int} (hL : Lab L) : ∀ (l : List InpV) (r : RunV), RunOk r → (relRun L r).take (l.map (relI L)) = (relRun L (r.take l).1, (r.take l).2.map (relR L))
  | [], r, _ => rfl
  | i :: l, r, ok => by
    have h1 := take1_rel hL r ok i
    have h2 := take_rel hL l (r.take1 i).1 (ok.take1 i).1
    simp only [List.map_cons, RunV.take, h1, h2, List.map_append]
def relC (b : Nat) (x : CellV) : CellV := ⟨x.left, x.spent, x.refused, x.queue.map (relI ((2 ^ b : Nat) : Int)), relRun ((2 ^ b : Nat) : Int) x.run, b, x.rows.map (relR ((2 ^ b : Nat) : Int)), x.taken.map (relI ((2 ^ b : Nat) : Int))⟩
theorem serve_rel {b : Nat} (hb : b ≤ 7) (x : CellV) (ok : RunOk x.run) (n : Int) : ((relC b x).serve n).1 = relC b (x.serve n).1 := by
  unfold CellV.serve
  have h := take_rel (lab_of hb) (x.queue.take (popN n x.queue.length)) x.run ok
  rw [List.map_take] at h
  simp only [relC, List.length_map]
  rw [h]
  simp [List.map_drop, List.map_take]
theorem own_rel {a b : Nat} (i : InpV) : relI ((2 ^ b : Nat) : Int) (ownI a i) = ownI b i := by
  unfold ownI relI
  cases i.mark <;> simp
theorem ownOk_rel {a b : Nat} (ha : a ≤ 7) (hb : b ≤ 7) (i : InpV) : ownOk a i = ownOk b i := by
  have h : ∀ t : Nat, t ≤ 7 → (1 : Int) ≤ ((2 ^ t : Nat) : Int) ∧ ((2 ^ t : Nat) : Int) ≤ 128 := fun t ht => by
    have hc : t = 0 ∨ t = 1 ∨ t = 2 ∨ t = 3 ∨ t = 4 ∨ t = 5 ∨ t = 6 ∨ t = 7 := by omega
    rcases hc with rfl | rfl | rfl | rfl | rfl | rfl | rfl | rfl <;> simp
  have h1 := h a ha
  have h2 := h b hb
  have e : evR i.time i.key i.value ((2 ^ a : Nat) : Int) ↔ evR i.time i.key i.value ((2 ^ b : Nat) : Int) := by
    unfold evR
    constructor <;> intro h <;> omega
  unfold ownOk
  split
  · rfl
  · exact decide_eq_decide.2 e
theorem offer_rel {a b : Nat} (ha : a ≤ 7) (hb : b ≤ 7) (x : CellV) (hx : x.id = a) (room : Int) (i : InpV) : (relC b x).offer room i = (relC b (x.offer room i).1, (x.offer room i).2) := by
  have h1 := ownOk_rel (a := a) (b := b) ha hb i
  have h2 := own_rel (a := a) (b := b) i
  unfold CellV.offer CellV.refuse
  have hi : (relC b x).id = b := rfl
  have hl : (relC b x).left = x.left := rfl
  have hq : (relC b x).queue.length = x.queue.length := by simp [relC]
  rw [hi, hx, ← h1, hl, hq]
  by_cases c1 : ownOk a i = false
  · rw [if_pos c1, if_pos c1]
    simp [relC]
  · rw [if_neg c1, if_neg c1]
    by_cases c2 : x.left = 0
    · rw [if_pos c2, if_pos c2]
      simp [relC]
    · rw [if_neg c2, if_neg c2]
      by_cases c3 : room < (x.queue.length : Int) + 1
      · rw [if_pos c3, if_pos c3]
        simp [relC]
      · rw [if_neg c3, if_neg c3]
        simp only [relC, List.map_append, List.map_cons, List.map_nil, h2]
/-- two tenants of a core that are alike -/
structure TenI (c : CoreV) (a b : Nat) : Prop where
  h : ∃ x, c.cells a = some x ∧ c.cells b = some (relC b x) ∧ x = relC a x ∧ x.id = a ∧ x.run.pipe.feed = -1 ∧ RunOk x.run
theorem relRun_ok {L : Int} {r : RunV} (h : RunOk r) : RunOk (relRun L r) := by
  refine ⟨h.pip, fun x hx => ?_, ?_⟩
  · obtain ⟨y, hy, rfl⟩ := List.mem_map.1 hx
    exact h.kind y hy
  · have e : ((relRun L r).opn.map (·.1)) = r.opn.map (·.1) := by
      simp [relRun, relO, List.map_map, Function.comp_def]
    rw [e]
    exact h.nd
theorem TenI.tick {c : CoreV} {a b : Nat} (ha : a ≤ 7) (hb : b ≤ 7) (h : TenI c a b) : TenI c.tick a b := by
  obtain ⟨x, h1, h2, h3, h4, h5, h6⟩ := h.h
  have ka := tick_cell c a ha (fun y hy => by rw [h1] at hy; obtain rfl := Option.some.inj hy; exact h5) (fun y hy => by rw [h1] at hy; obtain rfl := Option.some.inj hy; exact h6)
  have kb := tick_cell c b hb (fun y hy => by rw [h2] at hy; obtain rfl := Option.some.inj hy; exact h5) (fun y hy => by rw [h2] at hy; obtain rfl := Option.some.inj hy; exact relRun_ok h6)
  have wa : waitingOf c a = (x.queue.length : Int) := by unfold waitingOf; rw [h1]
  have wb : waitingOf c b = (x.queue.length : Int) := by unfold waitingOf; rw [h2]; simp [relC]
  rw [h1, wa, Option.map_some] at ka
  rw [h2, wb, Option.map_some, serve_rel hb x h6] at kb
  refine ⟨_, ka, kb, ?_, h4, by rw [serve_pipe _ _ h6]; exact h5, (h6.take _).1⟩
  have := serve_rel ha x h6 (max 0 (min c.budget (x.queue.length : Int)))
  rw [← h3] at this
  exact this
/-- both offer the same -/
theorem TenI.offers {c : CoreV} {a b : Nat} (ha : a ≤ 7) (hb : b ≤ 7) (hne : a ≠ b) (h : TenI c a b) (x y : ActM) (hx : x.kind = 2) (hy : y.kind = 2) (hxt : x.tenant = a) (hyt : y.tenant = b) (hi : x.inp = y.inp) :
    TenI ((c.act x).1.act y).1 a b ∧ (c.act x).2.err = ((c.act x).1.act y).2.err := by
  obtain ⟨z, h1, h2, h3, h4, h5, h6⟩ := h.h
  have hne' : ¬ b = a := fun e => hne e.symm
  have e1 : c.act x = (c.setCell a (z.offer c.room x.inp).1, ⟨(z.offer c.room x.inp).2, [], []⟩) := by simp [CoreV.act, hx, hxt, h1]
  have c2 : (c.setCell a (z.offer c.room x.inp).1).cells b = some (relC b z) := by simp [CoreV.setCell, hne', h2]
  have e2' : ∀ d : CoreV, d.cells b = some (relC b z) → d.act y = (d.setCell b ((relC b z).offer d.room y.inp).1, ⟨((relC b z).offer d.room y.inp).2, [], []⟩) := fun d hd => by simp [CoreV.act, hy, hyt, hd]
  have e2 : (c.setCell a (z.offer c.room x.inp).1).act y = ((c.setCell a (z.offer c.room x.inp).1).setCell b ((relC b z).offer c.room y.inp).1, ⟨((relC b z).offer c.room y.inp).2, [], []⟩) := e2' _ c2
  have ho := offer_rel ha hb z h4 c.room x.inp
  rw [← hi] at e2
  rw [ho] at e2
  rw [e1]
  simp only
  rw [e2]
  have hrun := offer_run z c.room x.inp
  refine ⟨⟨(z.offer c.room x.inp).1, by simp [CoreV.setCell, hne], by simp [CoreV.setCell], ?_, ?_, by rw [hrun]; exact h5, by rw [hrun]; exact h6⟩, rfl⟩
  · have := offer_rel ha ha z h4 c.room x.inp
    rw [← h3] at this
    exact congrArg Prod.fst this
  · have : (z.offer c.room x.inp).1.id = z.id := by
      unfold CellV.offer CellV.refuse
      split
      · rfl
      · split
        · rfl
        · split <;> rfl
    rw [this]
    exact h4
theorem TenI.rows {c : CoreV} {a b : Nat} (h : TenI c a b) : rowsV c b = (rowsV c a).map (relR ((2 ^ b : Nat) : Int)) ∧ rowsV c a = (rowsV c a).map (relR ((2 ^ a : Nat) : Int)) := by
  obtain ⟨z, h1, h2, h3, h4, h5, h6⟩ := h.h
  unfold rowsV
  rw [h1, h2]
  refine ⟨rfl, ?_⟩
  show z.rows = z.rows.map _
  have := congrArg CellV.rows h3
  exact this
end Go.Proofs.YtcanfmabkklidaaGreat
set_option linter.unusedSimpArgs false
set_option linter.unusedVariables false
set_option linter.unnecessarySimpa false
namespace Go.Proofs.YtcanfmabkklidaaGreat
open Go.RowKit

def mixL (X : List RowV) (n : Nat) : List RowV := (X.take n).map (relR 0) ++ X.drop n
theorem mixL_0 (X : List RowV) : mixL X 0 = X := by simp [mixL]
theorem mixL_all (X : List RowV) : mixL X X.length = X.map (relR 0) := by simp [mixL]
theorem mixL_len (X : List RowV) (n : Nat) : (mixL X n).length = X.length := by simp [mixL]; omega
theorem mixL_get {X : List RowV} {n : Nat} {x : RowV} (h : X[n]? = some x) : (mixL X n)[n]? = some x := by
  have hl : n < X.length := (List.getElem?_eq_some_iff.1 h).1
  unfold mixL
  rw [List.getElem?_append_right (by simp; omega)]
  have e : ((X.take n).map (relR 0)).length = n := by simp; omega
  rw [e, Nat.sub_self, List.getElem?_drop, Nat.add_zero]
  exact h
theorem mixL_set {X : List RowV} {n : Nat} {x : RowV} (h : X[n]? = some x) : (mixL X n).set n (relR 0 x) = mixL X (n + 1) := by
  have hl : n < X.length := (List.getElem?_eq_some_iff.1 h).1
  have e : ((X.take n).map (relR 0)).length = n := by simp; omega
  have hx : X[n] = x := by
    rw [List.getElem?_eq_getElem hl] at h
    exact Option.some.inj h
  unfold mixL
  rw [List.set_append_right _ _ (by omega), e, Nat.sub_self, List.take_add_one, h, List.drop_eq_getElem_cons hl]
  simp [hx]
theorem flat_wipe : ∀ (l : List RowV) (n : Nat) (x : RowV), l[n]? = some x → (l.flatMap RowV.cs).set (n * 5 + 4) (.int .u64 0) = (l.set n (relR 0 x)).flatMap RowV.cs
  | [], n, x, h => by simp at h
  | y :: l, 0, x, h => by
    obtain rfl : y = x := by simpa using h
    rfl
  | y :: l, n + 1, x, h => by
    have ih := flat_wipe l n x (by simpa using h)
    have hc : y.cs.length = 5 := rfl
    simp only [List.flatMap_cons, List.set_cons_succ]
    rw [List.set_append_right _ _ (by rw [hc]; omega), hc, show (n + 1) * 5 + 4 - 5 = n * 5 + 4 by omega, ih]
theorem wiped_eq {L : Int} (X : List RowV) : (X.map (relR L)).map (relR 0) = X.map (relR 0) := by
  rw [List.map_map]
  rfl
theorem lab_all {L : Int} {X : List RowV} (h : X = X.map (relR L)) : ∀ x ∈ X, x.label = L := fun x hx => by
  rw [h] at hx
  obtain ⟨y, _, rfl⟩ := List.mem_map.1 hx
  rfl
theorem wrap_pow {n : Nat} (hn : n ≤ 7) : IntKind.wrap .u64 ((2 : Int) ^ n) = ((2 ^ n : Nat) : Int) := by
  have hc : n = 0 ∨ n = 1 ∨ n = 2 ∨ n = 3 ∨ n = 4 ∨ n = 5 ∨ n = 6 ∨ n = 7 := by omega
  rcases hc with rfl | rfl | rfl | rfl | rfl | rfl | rfl | rfl <;> decide +kernel
theorem isr_at {w : World} {a : Option Addr} {n cap : Nat} {l : List RowV} (hl : l.length = n) (h1 : n ≤ cap) (h2 : cap ≤ maxLen) (g : Nat) (h : 0 < n → a = some ⟨g, 0, none⟩ ∧ At w g (l.flatMap RowV.cs)) : IsR RowV.cs 5 w (.slice a n cap) l := by
  subst hl
  refine ⟨a, cap, rfl, h1, h2, g, 0, fun hp => ⟨(h hp).1, (h hp).2.lt⟩, fun i x hi j u hj => ?_⟩
  have hp : 0 < l.length := by have := (List.getElem?_eq_some_iff.1 hi).1; omega
  rw [Nat.zero_add]
  exact (h hp).2.c _ _ (flat_get (cs := RowV.cs) (k := 5) (fun _ => rfl) hi hj)
theorem relR_0 (L : Int) (x : RowV) : relR 0 (relR L x) = relR 0 x := rfl
end Go.Proofs.YtcanfmabkklidaaGreat
