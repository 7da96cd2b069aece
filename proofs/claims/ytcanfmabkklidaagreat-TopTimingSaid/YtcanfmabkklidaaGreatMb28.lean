/- TopTiming, the plain part: how many releases there are hangs on the ticks alone. -/
import Derived.Test.YtcanfmabkklidaaGreatMb24
set_option linter.unusedSimpArgs false
set_option linter.unusedVariables false
set_option linter.unnecessarySimpa false
namespace Go.Proofs.YtcanfmabkklidaaGreat
open Go.RowKit

def pieceI (s : SinkV) (t k i : Nat) : List (Int × Int) := if epochOk s k = true ∧ hasI s.tos t = true then [((i : Int), epochI s k)] else []
def keysM (l : List SinkV) (t k m : Nat) : List (Int × Int) := (List.range m).flatMap fun i => pieceI (l.getD i default) t k i
def keysT (l : List SinkV) (t : Nat) : Nat → List (Int × Int)
  | 0 => []
  | k + 1 => keysT l t k ++ keysM l t (k + 1) l.length
def keyR (r : RelV) : Int × Int := (r.sink, r.epoch)
structure TimI (l : List SinkV) (c : CoreV) (T : Nat) : Prop where
  s : c.sinks = l
  k : c.ticks = T
  b : ∀ t, t < 8 → (c.board t).map keyR = keysT l t T
  z : ∀ t, ∀ r ∈ c.board t, r.hidden = true → r.value = 0
theorem TimI.new (B R Q : Int) (l : List SinkV) : TimI l (CoreV.new B R Q l) 0 := ⟨rfl, rfl, fun t _ => rfl, fun t r hr => by simp [CoreV.new] at hr⟩
theorem act_still (c : CoreV) (a : ActM) (h : a.kind ≠ 3) : (c.act a).1.board = c.board ∧ (c.act a).1.ticks = c.ticks ∧ (c.act a).1.sinks = c.sinks := by
  unfold CoreV.act
  simp only [if_neg h]
  split
  · unfold CoreV.register
    split
    · exact ⟨rfl, rfl, rfl⟩
    · split <;> exact ⟨rfl, rfl, rfl⟩
  · split
    · exact ⟨rfl, rfl, rfl⟩
    · split
      · exact ⟨rfl, rfl, rfl⟩
      · split <;> exact ⟨rfl, rfl, rfl⟩
theorem TimI.act {l : List SinkV} {c : CoreV} {T : Nat} (h : TimI l c T) (a : ActM) (ha : a.kind ≠ 3) : TimI l (c.act a).1 T := by
  obtain ⟨h1, h2, h3⟩ := act_still c a ha
  exact ⟨h3.trans h.s, h2.trans h.k, fun t ht => by rw [h1]; exact h.b t ht, fun t => by rw [h1]; exact h.z t⟩
theorem tell_key (p : PotV) (s : SinkV) (i e : Int) : keyR (p.tell s i e) = (i, e) ∧ ((p.tell s i e).hidden = true → (p.tell s i e).value = 0) := by
  unfold PotV.tell
  split
  · exact ⟨rfl, fun _ => rfl⟩
  · exact ⟨rfl, fun h => by simp at h⟩
theorem tell1_board (c : CoreV) (i : Nat) (t : Nat) (ht : t < 8) : ∃ r : RelV, (r.hidden = true → r.value = 0) ∧ (c.tell1 i).board t = c.board t ++ (if epochOk (c.sinks.getD i default) c.ticks = true ∧ hasI (c.sinks.getD i default).tos t = true then [r] else []) ∧ keyR r = ((i : Int), epochI (c.sinks.getD i default) c.ticks) := by
  have hk := tell_key (c.pots.getD i default) (c.sinks.getD i default) i (epochI (c.sinks.getD i default) c.ticks)
  refine ⟨(c.pots.getD i default).tell (c.sinks.getD i default) i (epochI (c.sinks.getD i default) c.ticks), hk.2, ?_, hk.1⟩
  unfold CoreV.tell1
  simp only
  clear hk
  generalize c.sinks.getD i default = s
  generalize (c.pots.getD i default).tell s i (epochI s c.ticks) = r
  cases he : epochOk s c.ticks with
  | false => simp
  | true =>
    cases hh : hasI s.tos t with
    | false => cases hr : r.hidden <;> simp [CoreV.feed, hh]
    | true => cases hr : r.hidden <;> simp [CoreV.feed, hh, ht]
theorem tellM_board (c : CoreV) (t : Nat) (ht : t < 8) (hz : ∀ r ∈ c.board t, r.hidden = true → r.value = 0) : ∀ m, ((tellM c m).board t).map keyR = (c.board t).map keyR ++ keysM c.sinks t c.ticks m ∧ (∀ r ∈ (tellM c m).board t, r.hidden = true → r.value = 0)
  | 0 => ⟨by simp [tellM, keysM], by simpa [tellM] using hz⟩
  | m + 1 => by
    have ih := tellM_board c t ht hz m
    have hs := tellM_same c m
    obtain ⟨r, hr0, hr1, hr2⟩ := tell1_board (tellM c m) m t ht
    rw [hs.1, hs.2] at hr1 hr2
    rw [tellM_succ, hr1]
    refine ⟨?_, fun x hx => ?_⟩
    · rw [List.map_append, ih.1]
      unfold keysM
      rw [List.range_succ, List.flatMap_append, List.append_assoc]
      refine congrArg (_ ++ ·) (congrArg (_ ++ ·) ?_)
      simp only [List.flatMap_cons, List.flatMap_nil, List.append_nil, pieceI]
      split
      · simp [hr2]
      · simp
    · rcases List.mem_append.1 hx with hx | hx
      · exact ih.2 x hx
      · split at hx
        · obtain rfl : x = r := by simpa using hx
          exact hr0
        · simp at hx
theorem servM_still (c : CoreV) : ∀ m, (servM c m).board = c.board
  | 0 => rfl
  | m + 1 => by
    rw [servM_succ]
    exact (serve1_same (waitingOf c) (servM c m) m).2.2.2.2.2.trans (servM_still c m)
theorem TimI.tick {l : List SinkV} {c : CoreV} {T : Nat} (h : TimI l c T) : TimI l c.tick (T + 1) := by
  rw [tick_eq]
  have hm := servM_same c 8
  have hb := servM_still c 8
  have hs := tellM_same { servM c 8 with ticks := c.ticks + 1 } c.sinks.length
  refine ⟨hs.2.trans (hm.2.2.trans h.s), hs.1.trans (by show c.ticks + 1 = _; rw [h.k]), fun t ht => ?_, fun t => ?_⟩
  · have hz : ∀ r ∈ ({ servM c 8 with ticks := c.ticks + 1 } : CoreV).board t, r.hidden = true → r.value = 0 := by
      show ∀ r ∈ (servM c 8).board t, _
      rw [hb]
      exact h.z t
    rw [(tellM_board { servM c 8 with ticks := c.ticks + 1 } t ht hz c.sinks.length).1]
    show ((servM c 8).board t).map keyR ++ keysM (servM c 8).sinks t (c.ticks + 1) c.sinks.length = _
    rw [hb, hm.2.2, h.b t ht, h.k, h.s]
    rfl
  · have hz : ∀ r ∈ ({ servM c 8 with ticks := c.ticks + 1 } : CoreV).board t, r.hidden = true → r.value = 0 := by
      show ∀ r ∈ (servM c 8).board t, _
      rw [hb]
      exact h.z t
    by_cases ht : t < 8
    · exact (tellM_board { servM c 8 with ticks := c.ticks + 1 } t ht hz c.sinks.length).2
    · have key : ∀ (d : CoreV) m, (tellM d m).board t = d.board t := by
        intro d m
        induction m with
        | zero => rfl
        | succ m ih =>
          rw [tellM_succ, ← ih]
          unfold CoreV.tell1
          simp only
          split
          · split
            · simp [ht]
            · simp [CoreV.feed, ht]
          · rfl
      rw [key]
      exact hz
theorem act_tick (c : CoreV) (t : Nat) : (c.act (ActV.m ⟨3, (t : Int), 0, 0, ⟨.slice none 0 0, [], 0, 0, 0, 0, 0⟩, false, 0, 0, 0, 0⟩)).1 = c.tick := by simp [CoreV.act, ActV.m]
/-- how many a tenant has been told of by one sink -/
def wantI (s : SinkV) (t T : Nat) : Int := if hasI s.tos t = true then (T : Int) / s.ticks else 0
def wantM (l : List SinkV) (t T m : Nat) : Int := ((l.take m).map fun s => wantI s t T).sum
theorem piece_len (s : SinkV) (hs : SinkBd s) (t T i : Nat) : wantI s t (T + 1) = wantI s t T + ((pieceI s t (T + 1) i).length : Int) := by
  unfold wantI pieceI
  by_cases hh : hasI s.tos t = true
  · have h1 := hs.k1
    have h2 := hs.k2
    simp only [hh, and_true, if_true]
    have hk : s.ticks = 1 ∨ s.ticks = 2 ∨ s.ticks = 3 ∨ s.ticks = 4 ∨ s.ticks = 5 ∨ s.ticks = 6 := by omega
    by_cases he : epochOk s ((T + 1 : Nat) : Int) = true
    · rw [if_pos he]
      simp only [epochOk, decide_eq_true_eq] at he
      rcases hk with hk | hk | hk | hk | hk | hk <;> rw [hk] at he ⊢ <;> simp <;> omega
    · rw [if_neg he]
      simp only [epochOk, decide_eq_true_eq] at he
      rcases hk with hk | hk | hk | hk | hk | hk <;> rw [hk] at he ⊢ <;> simp <;> omega
  · simp [hh]
theorem keysT_len (l : List SinkV) (hl : l.length ≤ 2) (hs : ∀ s ∈ l, SinkBd s) (t : Nat) : ∀ T, ((keysT l t T).length : Int) = wantM l t T l.length
  | 0 => by
    unfold wantM
    rw [List.take_length]
    have : ∀ l : List SinkV, (l.map fun s => wantI s t 0).sum = 0 := by
      intro l
      induction l with
      | nil => rfl
      | cons s l ih =>
        rw [List.map_cons, List.sum_cons, ih]
        unfold wantI
        split <;> simp
    rw [this]
    rfl
  | T + 1 => by
    have ih := keysT_len l hl hs t T
    show ((keysT l t T ++ keysM l t (T + 1) l.length).length : Int) = _
    rw [List.length_append, Int.natCast_add, ih]
    unfold wantM keysM
    rw [List.take_length]
    match l, hl with
    | [], _ => simp
    | [a], _ =>
      have h1 := piece_len a (hs a (by simp)) t T 0
      simp [List.range_succ]
      omega
    | [a, b], _ =>
      have h1 := piece_len a (hs a (by simp)) t T 0
      have h2 := piece_len b (hs b (by simp)) t T 1
      simp [List.range_succ]
      omega
theorem wantM_succ (l : List SinkV) (t T m : Nat) (s : SinkV) (h : l[m]? = some s) : wantM l t T (m + 1) = wantM l t T m + wantI s t T := by
  unfold wantM
  rw [List.take_add_one, h]
  simp
theorem wantI_bd (s : SinkV) (hs : SinkBd s) (t T : Nat) : 0 ≤ wantI s t T ∧ wantI s t T ≤ T := by
  unfold wantI
  split
  · have h1 := hs.k1
    have h2 := hs.k2
    have hk : s.ticks = 1 ∨ s.ticks = 2 ∨ s.ticks = 3 ∨ s.ticks = 4 ∨ s.ticks = 5 ∨ s.ticks = 6 := by omega
    rcases hk with hk | hk | hk | hk | hk | hk <;> rw [hk] <;> omega
  · omega
theorem wantM_bd (l : List SinkV) (hs : ∀ s ∈ l, SinkBd s) (t T : Nat) : ∀ m, m ≤ l.length → 0 ≤ wantM l t T m ∧ wantM l t T m ≤ m * T
  | 0, _ => by simp [wantM]
  | m + 1, hm => by
    have ih := wantM_bd l hs t T m (by omega)
    have hx : l[m]? = some l[m] := List.getElem?_eq_getElem (by omega)
    have h1 := wantI_bd l[m] (hs _ (List.getElem_mem (by omega))) t T
    rw [wantM_succ l t T m _ hx]
    have h2 : ((m + 1 : Nat) : Int) * T = m * T + T := by
      rw [Int.natCast_add, Int.add_mul]
      omega
    omega
end Go.Proofs.YtcanfmabkklidaaGreat
