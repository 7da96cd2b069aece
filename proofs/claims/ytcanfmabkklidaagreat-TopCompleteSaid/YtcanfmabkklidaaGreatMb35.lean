/- TopComplete, the plain part: the core. -/
import Derived.Test.YtcanfmabkklidaaGreatMb33
import Derived.Test.YtcanfmabkklidaaGreatMb34
set_option linter.unusedSimpArgs false
set_option linter.unusedVariables false
set_option linter.unnecessarySimpa false
namespace Go.Proofs.YtcanfmabkklidaaGreat
open Go.RowKit

def endI : InpV := ⟨true, 4000, 0, 0, 0⟩
structure CmI (c : CoreV) (t : Nat) (B R : Int) (sent : List InpV) : Prop where
  b : c.budget = B
  r : c.room = R
  h : ∃ x, c.cells t = some x ∧ CmC x t sent ∧ (x.queue.length : Int) ≤ R
theorem act_other (c : CoreV) (a : ActM) (t : Nat) (hk : a.kind ≠ 3) (ht : a.tenant ≠ t) : (c.act a).1.cells t = c.cells t := by
  have hne : ¬ t = a.tenant := fun e => ht e.symm
  unfold CoreV.act
  simp only [if_neg hk]
  split
  · unfold CoreV.register
    split
    · rfl
    · split
      · simp [CoreV.setCell, hne]
      · rfl
  · split
    · rfl
    · split
      · rfl
      · split
        · simp [CoreV.setCell, hne]
        · rfl
theorem CmI.other {c : CoreV} {t : Nat} {B R : Int} {sent : List InpV} (h : CmI c t B R sent) (a : ActM) (hk : a.kind ≠ 3) (ht : a.tenant ≠ t) : CmI (c.act a).1 t B R sent ∧ waitingOf (c.act a).1 t = waitingOf c t := by
  have hr := act_room c a
  have hc := act_other c a t hk ht
  obtain ⟨x, h1, h2, h3⟩ := h.h
  refine ⟨⟨hr.2.trans h.b, hr.1.trans h.r, x, hc.trans h1, h2, h3⟩, ?_⟩
  unfold waitingOf
  rw [hc]
theorem CmI.act {c : CoreV} {t : Nat} {B R : Int} {sent : List InpV} (h : CmI c t B R sent) (a : ActM) (hk : a.kind ≠ 3) (h1k : 1 ≤ a.kind) (h5k : a.kind ≤ 5) :
    (a.kind = 2 ∧ a.tenant = t ∧ (c.act a).2.err = 0 → CmI (c.act a).1 t B R (sent ++ [a.inp])) ∧ (¬ (a.kind = 2 ∧ a.tenant = t ∧ (c.act a).2.err = 0) → CmI (c.act a).1 t B R sent) := by
  by_cases ht : a.tenant = t
  · obtain ⟨x, h1, h2, h3⟩ := h.h
    have hr := act_room c a
    by_cases h2k : a.kind = 2
    · have e : c.act a = (c.setCell t (x.offer c.room a.inp).1, ⟨(x.offer c.room a.inp).2, [], []⟩) := by simp [CoreV.act, h2k, ht, h1]
      rw [e] at hr ⊢
      have ho := h2.offer c.room (by rw [h.r]; exact h3) a.inp
      have hset : (c.setCell t (x.offer c.room a.inp).1).cells t = some (x.offer c.room a.inp).1 := by simp [CoreV.setCell]
      have h4 := ho.2.2
      rw [h.r] at h4 
      refine ⟨fun hh => ⟨hr.2.trans h.b, hr.1.trans h.r, _, hset, ho.1 hh.2.2, by rw [h.r]; exact h4⟩, fun hh => ⟨hr.2.trans h.b, hr.1.trans h.r, _, hset, ho.2.1 (fun e => hh ⟨h2k, ht, e⟩), by rw [h.r]; exact h4⟩⟩
    · refine ⟨fun hh => absurd hh.1 h2k, fun _ => ⟨hr.2.trans h.b, hr.1.trans h.r, x, ?_, h2, h3⟩⟩
      rcases (by omega : a.kind = 1 ∨ a.kind = 4 ∨ a.kind = 5) with k | k | k
      · simp [CoreV.act, k, CoreV.register, ht, h1]
      · simp [CoreV.act, k, ht, h1]
      · simp [CoreV.act, k, h1]
  · exact ⟨fun hh => absurd hh.2.1 ht, fun _ => (h.other a hk ht).1⟩
theorem CmI.tick {c : CoreV} {t : Nat} (ht : t ≤ 7) {B R : Int} (hB : 1 ≤ B) {sent : List InpV} (h : CmI c t B R sent) : CmI c.tick t B R sent ∧ waitingOf c.tick t = max 0 (waitingOf c t - B) := by
  obtain ⟨x, h1, h2, h3⟩ := h.h
  have hp := h2.ok
  have hk := tick_cell c t ht (fun y hy => by rw [h1] at hy; obtain rfl := Option.some.inj hy; rw [hp.2]; rfl) (fun y hy => by rw [h1] at hy; obtain rfl := Option.some.inj hy; exact hp.1)
  have hs := tick_same c
  have hw : waitingOf c t = (x.queue.length : Int) := by unfold waitingOf; rw [h1]
  rw [h1, Option.map_some, hw, h.b] at hk
  have hv := h2.serve (max 0 (min B (x.queue.length : Int)))
  have hq : (x.serve (max 0 (min B (x.queue.length : Int)))).1.queue.length = x.queue.length - popN (max 0 (min B (x.queue.length : Int))) x.queue.length := by rw [hv.2, List.length_drop]
  have hpn : (popN (max 0 (min B (x.queue.length : Int))) x.queue.length : Int) = min B (x.queue.length : Int) := by unfold popN; omega
  refine ⟨⟨hs.1.trans h.b, hs.2.1.trans h.r, _, hk, hv.1, by omega⟩, ?_⟩
  have hw2 : waitingOf c.tick t = ((x.serve (max 0 (min B (x.queue.length : Int)))).1.queue.length : Int) := by unfold waitingOf; rw [hk]
  rw [hw2, hw]
  omega
theorem CmI.wait {c : CoreV} {t : Nat} {B R : Int} {sent : List InpV} (h : CmI c t B R sent) : 0 ≤ waitingOf c t ∧ waitingOf c t ≤ R := by
  obtain ⟨x, h1, h2, h3⟩ := h.h
  unfold waitingOf
  rw [h1]
  exact ⟨by simp, h3⟩
/-- where nothing waits, an offered mark is accepted -/
theorem CmI.last {c : CoreV} {t : Nat} {B R : Int} (hR : 1 ≤ R) {sent : List InpV} (h : CmI c t B R sent) (h0 : waitingOf c t = 0) (hl : sent.length ≤ 100) (a : ActM) (hk : a.kind = 2) (ht : a.tenant = t) (hi : a.inp = endI) :
    (c.act a).2.err = 0 ∧ CmI (c.act a).1 t B R (sent ++ [endI]) ∧ waitingOf (c.act a).1 t = 1 := by
  obtain ⟨x, h1, h2, h3⟩ := h.h
  have e : c.act a = (c.setCell t (x.offer c.room a.inp).1, ⟨(x.offer c.room a.inp).2, [], []⟩) := by simp [CoreV.act, hk, ht, h1]
  have hw : (x.queue.length : Int) = 0 := by unfold waitingOf at h0; rw [h1] at h0; exact h0
  have hle := h2.left
  have ho : x.offer c.room a.inp = ({ x with queue := x.queue ++ [ownI x.id a.inp], left := x.left - 1, spent := x.spent + 1 }, 0) := by
    unfold CellV.offer
    have c1 : ownOk x.id a.inp = true := by rw [hi]; simp [ownOk, endI]
    rw [if_neg (by simp [c1]), if_neg (by omega), if_neg (by rw [h.r]; omega)]
  have he : (c.act a).2.err = 0 := by rw [e, ho]
  have hact := (h.act a (by omega) (by omega) (by omega)).1 ⟨hk, ht, he⟩
  rw [hi] at hact
  refine ⟨he, hact, ?_⟩
  rw [e, ho]
  unfold waitingOf
  simp only [CoreV.setCell, if_true]
  rw [List.length_append]
  simp
  omega
def Bnds (sent : List InpV) : Prop := ∀ i ∈ sent, 0 ≤ i.time ∧ i.time ≤ 160 ∧ (i.mark = false → i.time ≤ 120)
/-- at the end: all rows, and nothing open -/
theorem CmI.done {c : CoreV} {t : Nat} {B R : Int} {sent : List InpV} (h : CmI c t B R (sent ++ [endI])) (h0 : waitingOf c t = 0) (hb : Bnds sent) :
    rowsV c t = ((RunV.new pipC).take ((sent ++ [endI]).map (labI t))).2 ∧ ((RunV.new pipC).take ((sent ++ [endI]).map (labI t))).1.opn = [] := by
  obtain ⟨x, h1, h2, h3⟩ := h.h
  have hw : x.queue = [] := by
    unfold waitingOf at h0
    rw [h1] at h0
    exact List.eq_nil_of_length_eq_zero (by simpa using h0)
  have hq := h2.q
  rw [hw, List.append_nil] at hq
  refine ⟨?_, ?_⟩
  · unfold rowsV
    rw [h1]
    show x.rows = _
    rw [h2.r.2, hq, take_own]
  · rw [List.map_append, take_append]
    have ok := (RunOk.new pipC_ok).take (sent.map (labI t))
    have hea : Early ((RunV.new pipC).take (sent.map (labI t))).1 := Early.take _ ⟨by simp [RunV.new], by simp [RunV.new]⟩ (RunOk.new pipC_ok) (fun i hi => by
      obtain ⟨j, hj, rfl⟩ := List.mem_map.1 hi
      exact hb j hj)
    exact last_mark hea ok.1 (by rw [ok.2.2]; rfl) (labI t endI) rfl rfl
theorem ticks_left {room budget : Nat} (hb : 1 ≤ budget) : room - ticksI room budget * budget = 0 := by
  unfold ticksI
  have h1 := Nat.div_add_mod room budget
  have h2 := Nat.mod_lt room (show 0 < budget by omega)
  by_cases h : 0 < room % budget
  · rw [if_pos h, Nat.add_mul, Nat.one_mul, Nat.mul_comm]
    omega
  · rw [if_neg h, Nat.add_zero, Nat.mul_comm]
    omega
theorem ticks_bd {room budget : Nat} (h1 : 1 ≤ room) (h2 : room ≤ 8) (hb : 1 ≤ budget) : 1 ≤ ticksI room budget ∧ ticksI room budget ≤ 9 := by
  unfold ticksI
  have h3 : room / budget ≤ room := Nat.div_le_self _ _
  have h4 := Nat.div_add_mod room budget
  have h6 : room / budget = 0 → room % budget = room := fun e => by rw [e, Nat.mul_zero, Nat.zero_add] at h4; exact h4
  generalize room / budget = q at h3 h4 h6 ⊢
  generalize room % budget = m at h4 h6 ⊢
  constructor
  · by_cases h : 0 < m
    · rw [if_pos h]; omega
    · rw [if_neg h]
      have : q ≠ 0 := fun e => by have := h6 e; omega
      omega
  · split <;> omega
theorem CmI.new (B R Q : Int) (r : List SinkV) (t : Nat) (a : ActM) (hk : a.kind = 1) (ht : a.tenant = t) (hp : a.pipe = pipC) (hR : 0 ≤ R) (hQ : Q = 300) : CmI ((CoreV.new B R Q r).act a).1 t B R [] := by
  subst hQ
  have e : (CoreV.new B R 300 r).act a = ((CoreV.new B R 300 r).setCell t (CellV.new t 300 pipC), ⟨0, [], []⟩) := by
    simp [CoreV.act, hk, CoreV.register, ht, CoreV.new, CoreV.mayI, inI, hp, pipC]
  rw [e]
  exact ⟨rfl, rfl, CellV.new t 300 pipC, by simp [CoreV.setCell], ⟨rfl, rfl, ⟨rfl, rfl⟩, rfl⟩, by simpa [CellV.new] using hR⟩
end Go.Proofs.YtcanfmabkklidaaGreat
