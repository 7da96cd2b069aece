/- TopTiming, the plain part: how many releases there are hangs on the ticks alone. -/
import Derived.Test.YtcanfmabkklidaaGreatMb24
set_option linter.unusedSimpArgs false
set_option linter.unusedVariables false
set_option linter.unnecessarySimpa false
namespace Go.Proofs.YtcanfmabkklidaaGreat
open Go.RowKit

def pieceI (s : SinkV) (t k i : Nat) : List (Int × Int) := if epochOk s k = true ∧ hasI s.tos t = true then [((i : Int), epochI s k)] else []
def keysM (l : List SinkV) (t k m : Nat) : List (Int × Int) := (List.range m).flatMap fun i => pieceI (l.getD i default) t k i
def keysT (l : List SinkV) (t : Nat) : Nat → List (Int × Int)
  | 0 => []
  | k + 1 => keysT l t k ++ keysM l t (k + 1) l.length
def keyR (r : RelV) : Int × Int := (r.sink, r.epoch)
structure TimI (l : List SinkV) (c : CoreV) (T : Nat) : Prop where
  s : c.sinks = l
  k : c.ticks = T
  b : ∀ t, t < 8 → (c.board t).map keyR = keysT l t T
  z : ∀ t, ∀ r ∈ c.board t, r.hidden = true → r.value = 0
theorem TimI.new (B R Q : Int) (l : List SinkV) : TimI l (CoreV.new B R Q l) 0 := ⟨rfl, rfl, fun t _ => rfl, fun t r hr => by simp [CoreV.new] at hr⟩
theorem act_still (c : CoreV) (a : ActM) (h : a.kind ≠ 3) : (c.act a).1.board = c.board ∧ (c.act a).1.ticks = c.ticks ∧ (c.act a).1.sinks = c.sinks := by
  unfold CoreV.act
  simp only [if_neg h]
  split
  · unfold CoreV.register
    split
    · exact ⟨rfl, rfl, rfl⟩
    · split <;> exact ⟨rfl, rfl, rfl⟩
  · split
    · exact ⟨rfl, rfl, rfl⟩
    · split
      · exact ⟨rfl, rfl, rfl⟩
      · split <;> exact ⟨rfl, rfl, rfl⟩
theorem TimI.act {l : List SinkV} {c : CoreV} {T : Nat} (h : TimI l c T) (a : ActM) (ha : a.kind ≠ 3) : TimI l (c.act a).1 T := by
  obtain ⟨h1, h2, h3⟩ := act_still c a ha
  exact ⟨h3.trans h.s, h2.trans h.k, fun t ht => by rw [h1]; exact h.b t ht, fun t => by rw [h1]; exact h.z t⟩
theorem tell_key (p : PotV) (s : SinkV) (i e : Int) : keyR (p.tell s i e) = (i, e) ∧ ((p.tell s i e).hidden = true → (p.tell s i e).value = 0) := by
  unfold PotV.tell
  split
  · exact ⟨rfl, fun _ => rfl⟩
  · exact ⟨rfl, fun h => by simp at h⟩
theorem tell1_board (c : CoreV) (i : Nat) (t : Nat) (ht : t < 8) : ∃ r : RelV, (r.hidden = true → r.value = 0) ∧ (c.tell1 i).board t = c.board t ++ (if epochOk (c.sinks.getD i default) c.ticks = true ∧ hasI (c.sinks.getD i default).tos t = true then [r] else []) ∧ keyR r = ((i : Int), epochI (c.sinks.getD i default) c.ticks) := by
  have hk := tell_key (c.pots.getD i default) (c.sinks.getD i default) i (epochI (c.sinks.getD i default) c.ticks)
  refine ⟨(c.pots.getD i default).tell (c.sinks.getD i default) i (epochI (c.sinks.getD i default) c.ticks), hk.2, ?_, hk.1⟩
  unfold CoreV.tell1
  simp only
  clear hk
  generalize c.sinks.getD i default = s
  generalize (c.pots.getD i default).tell s i (epochI s c.ticks) = r
  cases he : epochOk s c.ticks with
  | false => simp
  | true =>
    cases hh : hasI s.tos t with
    | false => cases hr : r.hidden <;> simp [CoreV.feed, hh]
    | true => cases hr : r.hidden <;> simp [CoreV.feed, hh, ht]
theorem tellM_board (c : CoreV) (t : Nat) (ht : t < 8) (hz : ∀ r ∈ c.board t, r.hidden = true → r.value = 0) : ∀ m, ((tellM c m).board t).map keyR = (c.board t).map keyR ++ keysM c.sinks t c.ticks m ∧ (∀ r ∈ (tellM c m).board t, r.hidden = true → r.value = 0)
  | 0 => ⟨by simp [tellM, keysM], by simpa [tellM] using hz⟩
  | m + 1 => by
    have ih := tellM_board c t ht hz m
    have hs := tellM_same c m
    obtain ⟨r, hr0, hr1, hr2⟩ := tell1_board (tellM c m) m t ht
    rw [hs.1, hs.2] at hr1 hr2
    rw [tellM_succ, hr1]
    refine ⟨?_, fun x hx => ?_⟩
    · rw [List.map_append, ih.1]
      unfold keysM
      rw [List.range_succ, List.flatMap_append, List.append_assoc]
      refine congrArg (_ ++ ·) (congrArg (_ ++ ·) ?_)
      simp only [List.flatMap_cons, List.flatMap_nil, List.append_nil, pieceI]
      split
      · simp [hr2]
      · simp
    · rcases List.mem_append.1 hx with hx | hx
      · exact ih.2 x hx
      · split at hx
        · obtain rfl : x = r := by simpa using hx
          exact hr0
        · simp at hx
theorem servM_still (c : CoreV) : ∀ m, (servM c m).board = c.board
  | 0 => rfl
  | m + 1 => by
    rw [servM_succ]
    exact (serve1_same (waitingOf c) (servM c m) m).2.2.2.2.2.trans (servM_still c m)
theorem TimI.tick {l : List SinkV} {c : CoreV} {T : Nat} (h : TimI l c T) : TimI l c.tick (T + 1) := by
  rw [tick_eq]
  have hm := servM_same c 8
  have hb := servM_still c 8
  have hs := tellM_same { servM c 8 with ticks := c.ticks + 1 } c.sinks.length
  refine ⟨hs.2.trans (hm.2.2.trans h.s), hs.1.trans (by show c.ticks + 1 = _; rw [h.k]), fun t ht => ?_, fun t => ?_⟩
  · have hz : ∀ r ∈ ({ servM c 8 with ticks := c.ticks + 1 } : CoreV).board t, r.hidden = true → r.value = 0 := by
      show ∀ r ∈ (servM c 8).board t, _
      rw [hb]
      exact h.z t
    rw [(tellM_board { servM c 8 with ticks := c.ticks + 1 } t ht hz c.sinks.length).1]
    show ((servM c 8).board t).map keyR ++ keysM (servM c 8).sinks t (c.ticks + 1) c.sinks.length = _
    rw [hb, hm.2.2, h.b t ht, h.k, h.s]
    rfl
  · have hz : ∀ r ∈ ({ servM c 8 with ticks := c.ticks + 1 } : CoreV).board t, r.hidden = true → r.value = 0 := by
      show ∀ r ∈ (servM c 8).board t, _
      rw [hb]
      exact h.z t
    by_cases ht : t < 8
    · exact (tellM_board { servM c 8 with ticks := c.ticks + 1 } t ht hz c.sinks.length).2
    · have key : ∀ (d : CoreV) m, (tellM d m).board t = d.board t := by
        intro d m
        induction m with
        | zero => rfl
        | succ m ih =>
          rw [tellM_succ, ← ih]
          unfold CoreV.tell1
          simp only
          split
          · split
            · simp [ht]
            · simp [CoreV.feed, ht]
          · rfl
      rw [key]
      exact hz
theorem act_tick (c : CoreV) (t : Nat) : (c.act (ActV.m ⟨3, (t : Int), 0, 0, ⟨.slice none 0 0, [], 0, 0, 0, 0, 0⟩, false, 0, 0, 0, 0⟩)).1 = c.tick := by simp [CoreV.act, ActV.m]
/-- how many a tenant has been told of by one sink -/
def wantI (s : SinkV) (t T : Nat) : Int := if hasI s.tos t = true then (T : Int) / s.ticks else 0
def wantM (l : List SinkV) (t T m : Nat) : Int := ((l.take m).map fun s => wantI s t T).sum
theorem piece_len (s : SinkV) (hs : SinkBd s) (t T i : Nat) : wantI s t (T + 1) = wantI s t T + ((pieceI s t (T + 1) i).length : Int) := by
  unfold wantI pieceI
  by_cases hh : hasI s.tos t = true
  · have h1 := hs.k1
    have h2 := hs.k2
    simp only [hh, and_true, if_true]
    have hk : s.ticks = 1 ∨ s.ticks = 2 ∨ s.ticks = 3 ∨ s.ticks = 4 ∨ s.ticks = 5 ∨ s.ticks = 6 := by omega
    by_cases he : epochOk s ((T + 1 : Nat) : Int) = true
    · rw [if_pos he]
      simp only [epochOk, decide_eq_true_eq] at he
      rcases hk with hk | hk | hk | hk | hk | hk <;> rw [hk] at he ⊢ <;> simp <;> omega
    · rw [if_neg he]
      simp only [epochOk, decide_eq_true_eq] at he
      rcases hk with hk | hk | hk | hk | hk | hk <;> rw [hk] at he ⊢ <;> simp <;> omega
  · simp [hh]
theorem keysT_len (l : List SinkV) (hl : l.length ≤ 2) (hs : ∀ s ∈ l, SinkBd s) (t : Nat) : ∀ T, ((keysT l t T).length : Int) = wantM l t T l.length
  | 0 => by
    unfold wantM
    rw [List.take_length]
    have : ∀ l : List SinkV, (l.map fun s => wantI s t 0).sum = 0 := by
      intro l
      induction l with
      | nil => rfl
      | cons s l ih =>
        rw [List.map_cons, List.sum_cons, ih]
        unfold wantI
        split <;> simp
    rw [this]
    rfl
  | T + 1 => by
    have ih := keysT_len l hl hs t T
    show ((keysT l t T ++ keysM l t (T + 1) l.length).length : Int) = _
    rw [List.length_append, Int.natCast_add, ih]
    unfold wantM keysM
    rw [List.take_length]
    match l, hl with
    | [], _ => simp
    | [a], _ =>
      have h1 := piece_len a (hs a (by simp)) t T 0
      simp [List.range_succ]
      omega
    | [a, b], _ =>
      have h1 := piece_len a (hs a (by simp)) t T 0
      have h2 := piece_len b (hs b (by simp)) t T 1
      simp [List.range_succ]
      omega
theorem wantM_succ (l : List SinkV) (t T m : Nat) (s : SinkV) (h : l[m]? = some s) : wantM l t T (m + 1) = wantM l t T m + wantI s t T := by
  unfold wantM
  rw [List.take_add_one, h]
  simp
theorem wantI_bd (s : SinkV) (hs : SinkBd s) (t T : Nat) : 0 ≤ wantI s t T ∧ wantI s t T ≤ T := by
  unfold wantI
  split
  · have h1 := hs.k1
    have h2 := hs.k2
    have hk : s.ticks = 1 ∨ s.ticks = 2 ∨ s.ticks = 3 ∨ s.ticks = 4 ∨ s.ticks = 5 ∨ s.ticks = 6 := by omega
    rcases hk with hk | hk | hk | hk | hk | hk <;> rw [hk] <;> omega
  · omega
theorem wantM_bd (l : List SinkV) (hs : ∀ s ∈ l, SinkBd s) (t T : Nat) : ∀ m, m ≤ l.length → 0 ≤ wantM l t T m ∧ wantM l t T m ≤ m * T
  | 0, _ => by simp [wantM]
  | m + 1, hm => by
    have ih := wantM_bd l hs t T m (by omega)
    have hx : l[m]? = some l[m] := List.getElem?_eq_getElem (by omega)
    have h1 := wantI_bd l[m] (hs _ (List.getElem_mem (by omega))) t T
    rw [wantM_succ l t T m _ hx]
    have h2 : ((m + 1 : Nat) : Int) * T = m * T + T := by
      rw [Int.natCast_add, Int.add_mul]
      omega
    omega
end Go.Proofs.YtcanfmabkklidaaGreat
set_option linter.unusedSimpArgs false
set_option linter.unusedVariables false
set_option linter.unnecessarySimpa false
namespace Go.Proofs.YtcanfmabkklidaaGreat
open Go.RowKit

def Mine (t : Nat) (who : Int) : Prop := who = 0 ∨ who = ofI t
theorem mine_or {t : Nat} (ht : t ≤ 7) {w : Int} (h : Mine t w) : Mine t (orI w (ofI t)) := by
  have hc : t = 0 ∨ t = 1 ∨ t = 2 ∨ t = 3 ∨ t = 4 ∨ t = 5 ∨ t = 6 ∨ t = 7 := by omega
  rcases h with rfl | rfl <;> (right; rcases hc with rfl | rfl | rfl | rfl | rfl | rfl | rfl | rfl <;> decide +kernel)
theorem mine_ones {t : Nat} (ht : t ≤ 7) {w : Int} (h : Mine t w) : onesI w < 2 := by
  have hc : t = 0 ∨ t = 1 ∨ t = 2 ∨ t = 3 ∨ t = 4 ∨ t = 5 ∨ t = 6 ∨ t = 7 := by omega
  rcases h with rfl | rfl
  · decide +kernel
  · rcases hc with rfl | rfl | rfl | rfl | rfl | rfl | rfl | rfl <;> decide +kernel
theorem mine_give {t : Nat} (ht : t ≤ 7) (s : SinkV) : ∀ (rows : List RowV) (p : PotV), Mine t p.who → Mine t (p.give s t rows).who
  | [], p, h => h
  | r :: rows, p, h => by
    show Mine t ((PotV.give1 s t p r).give s t rows).who
    refine mine_give ht s rows _ ?_
    unfold PotV.give1
    split
    · exact mine_or ht h
    · exact h
structure HidI (s : SinkV) (t : Nat) (c : CoreV) (T N : Nat) : Prop where
  tm : TimI [s] c T
  ok : CoreOk c N
  q0 : 0 ≤ c.quota
  q1 : c.quota ≤ 1000
  cells : ∀ u, u ≠ t → c.cells u = none
  pots : ∀ p ∈ c.pots, Mine t p.who
  hid : ∀ u, ∀ r ∈ c.board u, r.hidden = true ∧ r.value = 0
theorem HidI.wide {s : SinkV} {t : Nat} {c : CoreV} {T N M : Nat} (h : HidI s t c T N) (hm : N ≤ M) (hM : M ≤ 100000) : HidI s t c T M := ⟨h.tm, h.ok.wide hm hM, h.q0, h.q1, h.cells, h.pots, h.hid⟩
theorem act_12 (c : CoreV) (a : ActM) (h : a.kind = 1 ∨ a.kind = 2) : (c.act a).1.pots = c.pots ∧ ∀ u, u ≠ a.tenant → (c.act a).1.cells u = c.cells u := by
  unfold CoreV.act
  rcases h with h | h
  · simp only [h, if_true]
    unfold CoreV.register
    split
    · exact ⟨rfl, fun _ _ => rfl⟩
    · split
      · refine ⟨rfl, fun u hu => ?_⟩
        simp [CoreV.setCell, hu]
      · exact ⟨rfl, fun _ _ => rfl⟩
  · simp only [h, if_true, if_neg (show ¬ (2 : Int) = 1 by decide), if_neg (show ¬ (2 : Int) = 3 by decide), if_neg (show ¬ (2 : Int) = 5 by decide)]
    split
    · exact ⟨rfl, fun _ _ => rfl⟩
    · refine ⟨rfl, fun u hu => ?_⟩
      simp [CoreV.setCell, hu]
theorem HidI.act {s : SinkV} {t : Nat} {c : CoreV} {T N : Nat} (h : HidI s t c T N) (a : ActM) (ha : a.kind = 1 ∨ a.kind = 2) (hat : a.tenant = t) (hr : ActR a) (hN : N + 6 ≤ 100000) : HidI s t (c.act a).1 T (N + 6) := by
  have hq := act_quota c a
  have h3 : a.kind ≠ 3 := by omega
  have hp := act_12 c a ha
  have hb := (act_still c a h3).1
  refine ⟨h.tm.act a h3, h.ok.act h.q0 h.q1 hr.1 hr.2 hN, by rw [hq.1]; exact h.q0, by rw [hq.1]; exact h.q1, fun u hu => ?_, ?_, fun u => ?_⟩
  · rw [hp.2 u (by rw [hat]; exact hu)]
    exact h.cells u hu
  · rw [hp.1]
    exact h.pots
  · rw [hb]
    exact h.hid u
/-- what serving leaves of a core where one tenant alone is -/
theorem hid_serve {t : Nat} (ht : t ≤ 7) (w0 : Nat → Int) (c : CoreV) (i : Nat) (h1 : ∀ u, u ≠ t → c.cells u = none) (h2 : ∀ p ∈ c.pots, Mine t p.who) :
    (∀ u, u ≠ t → (c.serve1 w0 i).cells u = none) ∧ ∀ p ∈ (c.serve1 w0 i).pots, Mine t p.who := by
  unfold CoreV.serve1
  simp only
  by_cases hu : turnI c.ticks i = t
  · rw [hu]
    cases hx : c.cells t with
    | none => exact ⟨h1, h2⟩
    | some x =>
      simp only
      have hc : ∀ u, u ≠ t → (c.setCell t (x.serve (max 0 (min c.budget (w0 t)))).1).cells u = none := fun u hu => by simp [CoreV.setCell, hu]; exact h1 u hu
      split
      · exact ⟨hc, h2⟩
      · refine ⟨hc, fun p hp => ?_⟩
        have hp' : p ∈ c.pots.set x.run.pipe.sink.toNat ((c.pots.getD x.run.pipe.sink.toNat default).give (c.sinks.getD x.run.pipe.sink.toNat default) t (x.serve (max 0 (min c.budget (w0 t)))).2) := hp
        rcases List.mem_or_eq_of_mem_set hp' with hp' | rfl
        · exact h2 p hp'
        · refine mine_give ht _ _ _ ?_
          rw [List.getD_eq_getElem?_getD]
          cases hg : c.pots[x.run.pipe.sink.toNat]? with
          | none => exact .inl rfl
          | some q => exact h2 q (List.mem_of_getElem? hg)
  · rw [h1 _ hu]
    exact ⟨h1, h2⟩
theorem hid_servM {t : Nat} (ht : t ≤ 7) (c : CoreV) (h1 : ∀ u, u ≠ t → c.cells u = none) (h2 : ∀ p ∈ c.pots, Mine t p.who) : ∀ m, (∀ u, u ≠ t → (servM c m).cells u = none) ∧ ∀ p ∈ (servM c m).pots, Mine t p.who
  | 0 => ⟨h1, h2⟩
  | m + 1 => by
    have ih := hid_servM ht c h1 h2 m
    rw [servM_succ]
    exact hid_serve ht _ _ m ih.1 ih.2
theorem hid_tell {s : SinkV} {t : Nat} (ht : t ≤ 7) (hs : SinkBd s) (d : CoreV) (hds : d.sinks = [s]) (hdc : ∀ u, u ≠ t → d.cells u = none) (hdp : ∀ p ∈ d.pots, Mine t p.who) (hdb : ∀ u, ∀ r ∈ d.board u, r.hidden = true ∧ r.value = 0) :
    (∀ u, u ≠ t → (d.tell1 0).cells u = none) ∧ (∀ p ∈ (d.tell1 0).pots, Mine t p.who) ∧ (∀ u, ∀ r ∈ (d.tell1 0).board u, r.hidden = true ∧ r.value = 0) := by
  have hs0 : d.sinks.getD 0 default = s := by rw [hds]; rfl
  cases he : epochOk (d.sinks.getD 0 default) d.ticks with
  | false =>
    rw [tell1_no he]
    exact ⟨hdc, hdp, hdb⟩
  | true =>
    rw [hs0] at he
    have hm : Mine t (d.pots.getD 0 default).who := by
      rw [List.getD_eq_getElem?_getD]
      cases hg : d.pots[0]? with
      | none => exact .inl rfl
      | some q => exact hdp q (List.mem_of_getElem? hg)
    have hlt := mine_ones ht hm
    have hr : (d.pots.getD 0 default).tell s (0 : Nat) (epochI s d.ticks) = ⟨((0 : Nat) : Int), epochI s d.ticks, 0, true⟩ := by
      unfold PotV.tell
      rw [if_pos (by have := hs.l1; omega)]
    generalize hre : (⟨((0 : Nat) : Int), epochI s d.ticks, 0, true⟩ : RelV) = r0 at hr
    have hr0 : r0.hidden = true ∧ r0.value = 0 := by rw [← hre]; exact ⟨rfl, rfl⟩
    rw [tell1_hid (s := s) (r := r0) hs0 he hr.symm hr0.1]
    refine ⟨hdc, fun p hp => ?_, fun u r hr2 => ?_⟩
    · have hp' : p ∈ d.pots.set 0 (PotV.new s) := hp
      rcases List.mem_or_eq_of_mem_set hp' with hp' | rfl
      · exact hdp p hp'
      · exact .inl rfl
    · have hr3 : r ∈ pinF s.tos r0 d.board 8 u := hr2
      unfold pinF at hr3
      split at hr3
      · rcases List.mem_append.1 hr3 with hr3 | hr3
        · exact hdb u r hr3
        · obtain rfl := List.mem_singleton.1 hr3
          exact hr0
      · exact hdb u r hr3
theorem HidI.tick {s : SinkV} {t : Nat} (ht : t ≤ 7) {c : CoreV} {T N : Nat} (hs : SinkBd s) (h : HidI s t c T N) (hN : N + 6 ≤ 100000) : HidI s t c.tick (T + 1) (N + 6) := by
  have hq := act_quota c ⟨3, 0, 0, 0, ⟨[], 0, 0, 0, 0, 0⟩, ⟨false, 0, 0, 0, 0⟩⟩
  have hq' : c.tick.quota = c.quota ∧ c.tick.sinks = c.sinks := by simpa [CoreV.act] using hq
  have hv := hid_servM ht c h.cells h.pots 8
  have hb := servM_still c 8
  have hsm := servM_same c 8
  have hlen : c.sinks.length = 1 := by rw [h.tm.s]; rfl
  obtain ⟨d, hd⟩ : ∃ d, d = ({ servM c 8 with ticks := c.ticks + 1 } : CoreV) := ⟨_, rfl⟩
  have hte : c.tick = d.tell1 0 := by
    rw [tick_eq, hlen, hd]
    rfl
  have hds : d.sinks = [s] := by rw [hd]; exact hsm.2.2.trans h.tm.s
  have hdc : ∀ u, u ≠ t → d.cells u = none := by rw [hd]; exact hv.1
  have hdp : ∀ p ∈ d.pots, Mine t p.who := by rw [hd]; exact hv.2
  have hdb : ∀ u, ∀ r ∈ d.board u, r.hidden = true ∧ r.value = 0 := fun u => by
    rw [hd]
    show ∀ r ∈ (servM c 8).board u, _
    rw [hb]
    exact h.hid u
  have key := hid_tell ht hs d hds hdc hdp hdb
  rw [← hte] at key
  exact ⟨h.tm.tick, h.ok.tick hN, by rw [hq'.1]; exact h.q0, by rw [hq'.1]; exact h.q1, key.1, key.2.1, key.2.2⟩
theorem HidI.new (B R Q : Int) (s : SinkV) (t : Nat) (h : SetBd B R Q [s]) (ok : CoreOk (CoreV.new B R Q [s]) 0) : HidI s t (CoreV.new B R Q [s]) 0 0 :=
  ⟨TimI.new B R Q [s], ok, h.q1, by have := h.q2; show Q ≤ 1000; omega, fun _ _ => rfl, fun p hp => by
    have hp' : p ∈ [PotV.new s] := hp
    obtain rfl := List.mem_singleton.1 hp'
    exact .inl rfl, fun u r hr => by simp [CoreV.new] at hr⟩
theorem hid_eq : ∀ {X Y : List RelV}, X.map keyR = Y.map keyR → (∀ r ∈ X, r.hidden = true ∧ r.value = 0) → (∀ r ∈ Y, r.hidden = true ∧ r.value = 0) → X = Y
  | [], [], _, _, _ => rfl
  | [], _ :: _, h, _, _ => by simp at h
  | _ :: _, [], h, _, _ => by simp at h
  | x :: X, y :: Y, h, hx, hy => by
    simp only [List.map_cons, List.cons.injEq] at h
    have e := hid_eq h.2 (fun r hr => hx r (by simp [hr])) (fun r hr => hy r (by simp [hr]))
    have h1 := hx x (by simp)
    have h2 := hy y (by simp)
    obtain ⟨x1, x2, x3, x4⟩ := x
    obtain ⟨y1, y2, y3, y4⟩ := y
    simp only [keyR, Prod.mk.injEq] at h h1 h2
    obtain ⟨rfl, rfl⟩ := h1
    obtain ⟨rfl, rfl⟩ := h2
    obtain ⟨⟨rfl, rfl⟩, _⟩ := h
    rw [e]
end Go.Proofs.YtcanfmabkklidaaGreat
