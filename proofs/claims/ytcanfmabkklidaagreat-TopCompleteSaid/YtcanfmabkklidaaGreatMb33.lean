/- TopComplete, the plain part: what is accepted is taken, in order; a late mark closes all. -/
import Derived.Test.YtcanfmabkklidaaGreatMb31
import Derived.Test.YtcanfmabkklidaaGreatMb32
set_option linter.unusedSimpArgs false
set_option linter.unusedVariables false
set_option linter.unnecessarySimpa false
namespace Go.Proofs.YtcanfmabkklidaaGreat
open Go.RowKit

theorem take_append : ∀ (l m : List InpV) (r : RunV), r.take (l ++ m) = (((r.take l).1.take m).1, (r.take l).2 ++ ((r.take l).1.take m).2)
  | [], m, r => by simp [RunV.take]
  | i :: l, m, r => by
    simp only [List.cons_append, RunV.take]
    rw [take_append l m]
    simp
/-- the form in which an input is laid beside the others -/
def labI (t : Nat) (i : InpV) : InpV := ⟨i.mark, i.time, i.key, i.value, ((2 ^ t : Nat) : Int)⟩
theorem take1_own (t : Nat) (r : RunV) (i : InpV) : r.take1 (ownI t i) = r.take1 (labI t i) := by
  unfold RunV.take1 ownI labI
  cases hm : i.mark <;> simp [hm, InpV.ev]
theorem take_own (t : Nat) : ∀ (l : List InpV) (r : RunV), r.take (l.map (ownI t)) = r.take (l.map (labI t))
  | [], r => rfl
  | i :: l, r => by
    simp only [List.map_cons, RunV.take, take1_own]
    rw [take_own t l]
/-- windows that begin early, a mark that is early -/
structure Early (r : RunV) : Prop where
  m : r.clk.mark ≤ 160
  o : ∀ y ∈ r.opn, 0 ≤ y.1.1 ∧ y.1.1 ≤ 120
theorem pSet_key {k : Int × Int} {x : PotV} : ∀ {l : PaneL} {y : (Int × Int) × PotV}, y ∈ pSet l k x → y ∈ l ∨ y.1 = k
  | [], y, h => by
    obtain rfl := List.mem_singleton.1 h
    exact .inr rfl
  | z :: l, y, h => by
    simp only [pSet] at h
    split at h
    · rcases List.mem_cons.1 h with rfl | h
      · exact .inr rfl
      · exact .inl (List.mem_cons_of_mem _ h)
    · rcases List.mem_cons.1 h with rfl | h
      · exact .inl (by simp)
      · rcases pSet_key h with h | h
        · exact .inl (List.mem_cons_of_mem _ h)
        · exact .inr h
theorem starts_le {t size slide : Int} (h0 : 0 ≤ t) (hs : 1 ≤ slide) : ∀ (n : Nat), ∀ s ∈ startsI t size slide n, 0 ≤ s ∧ s ≤ t
  | 0, s, h => by simp [startsI] at h
  | n + 1, s, h => by
    simp only [startsI] at h
    rcases List.mem_append.1 h with h | h
    · split at h
      · rename_i hc
        obtain rfl := List.mem_singleton.1 h
        refine ⟨hc.1, ?_⟩
        unfold startAt
        have h1 := Int.emod_nonneg t (show slide ≠ 0 by omega)
        have h2 : 0 ≤ (n : Int) * slide := Int.mul_nonneg (by omega) (by omega)
        omega
      · simp at h
    · exact starts_le h0 hs n s h
theorem putL_early {p : PipM} (hp : 1 ≤ p.slide) {e : EvV} (h0 : 0 ≤ e.time) (h1 : e.time ≤ 120) {l : PaneL} (hl : ∀ y ∈ l, 0 ≤ y.1.1 ∧ y.1.1 ≤ 120) : ∀ y ∈ putL p e l, 0 ≤ y.1.1 ∧ y.1.1 ≤ 120 := by
  unfold putL
  have hs := starts_le (t := e.time) (size := p.size) h0 hp (mostI p.size p.slide)
  generalize startsI e.time p.size p.slide (mostI p.size p.slide) = ss at hs
  induction ss generalizing l with
  | nil => exact hl
  | cons s ss ih =>
    simp only [List.foldl_cons]
    refine ih (fun y hy => ?_) (fun z hz => hs z (by simp [hz]))
    unfold put1 at hy
    rcases pSet_key hy with hy | hy
    · exact hl y hy
    · rw [hy]
      have := hs s (by simp)
      show 0 ≤ s ∧ s ≤ 120
      omega
theorem apply_time (o : OpV) (e x : EvV) (h : applyO o e = some x) : x.time = e.time := by
  unfold applyO at h
  repeat' split at h
  all_goals first | (obtain rfl := Option.some.inj h; rfl) | (simp at h)
theorem runO_time2 : ∀ (ol : List OpV) (e x : EvV), runO e ol = some x → x.time = e.time
  | [], e, x, h => by
    obtain rfl := Option.some.inj h
    rfl
  | o :: ol, e, x, h => by
    simp only [runO] at h
    cases ho : applyO o e with
    | none => rw [ho] at h; simp at h
    | some y =>
      rw [ho] at h
      exact (runO_time2 ol y x h).trans (apply_time o e y ho)
theorem closeL_sub (size mark : Int) : ∀ (ks : List (Int × Int)) (l : PaneL), ∀ y ∈ (closeL size mark ks l).2, y ∈ l
  | [], l, y, h => h
  | k :: ks, l, y, h => by
    simp only [closeL] at h
    split at h
    · exact closeL_sub size mark ks l y h
    · have := closeL_sub size mark ks _ y h
      exact pDel_mem this
theorem on_mark (c : ClkV) (t : Int) : (c.on t).1.mark = c.mark := by
  unfold ClkV.on
  split
  · rfl
  · split <;> rfl
theorem Early.take1 {r : RunV} (h : Early r) (ok : RunOk r) {i : InpV} (h0 : 0 ≤ i.time) (h1 : i.time ≤ 160) (h2 : i.mark = false → i.time ≤ 120) : Early (r.take1 i).1 := by
  unfold RunV.take1
  cases hm : i.mark with
  | true =>
    simp only [if_true]
    split
    · refine ⟨?_, fun y hy => h.o y (closeL_sub _ _ _ _ y hy)⟩
      show (r.clk.advance i.time).1.mark ≤ 160
      unfold ClkV.advance
      split
      · exact h.m
      · exact h1
    · exact h
  | false =>
    simp only [Bool.false_eq_true, if_false]
    unfold RunV.event
    have hmk := on_mark r.clk i.ev.time
    split
    · cases hr : runO i.ev r.pipe.ol with
      | none => exact ⟨by show (r.clk.on i.ev.time).1.mark ≤ 160; rw [hmk]; exact h.m, h.o⟩
      | some x =>
        have ht := runO_time2 _ _ _ hr
        have ht' : x.time = i.time := ht
        exact ⟨by show (r.clk.on i.ev.time).1.mark ≤ 160; rw [hmk]; exact h.m, putL_early ok.pip.slide1 (by omega) (by have := h2 hm; omega) h.o⟩
    · exact ⟨by show (r.clk.on i.ev.time).1.mark ≤ 160; rw [hmk]; exact h.m, h.o⟩
theorem Early.take : ∀ (l : List InpV) {r : RunV}, Early r → RunOk r → (∀ i ∈ l, 0 ≤ i.time ∧ i.time ≤ 160 ∧ (i.mark = false → i.time ≤ 120)) → Early (r.take l).1
  | [], r, h, _, _ => h
  | i :: l, r, h, ok, hl => by
    have h1 := hl i (by simp)
    exact Early.take l (h.take1 ok h1.1 h1.2.1 h1.2.2) (ok.take1 i).1 (fun j hj => hl j (by simp [hj]))
theorem pDel_ne {k : Int × Int} : ∀ {l : PaneL}, (l.map (·.1)).Nodup → ∀ {y : (Int × Int) × PotV}, y ∈ pDel l k → y.1 ≠ k
  | [], _, y, h => by simp [pDel] at h
  | z :: l, hn, y, h => by
    simp only [List.map_cons, List.nodup_cons] at hn
    simp only [pDel] at h
    split at h
    · rename_i he
      intro e
      exact hn.1 (List.mem_map.2 ⟨y, h, e.trans he.symm⟩)
    · rename_i he
      rcases List.mem_cons.1 h with rfl | h
      · exact he
      · exact pDel_ne hn.2 h
theorem closeL_gone (size mark : Int) : ∀ (ks : List (Int × Int)) (l : PaneL), (l.map (·.1)).Nodup → (∀ k ∈ ks, ¬ mark < wrap64 (k.1 + size)) → ∀ y ∈ (closeL size mark ks l).2, y.1 ∉ ks
  | [], l, _, _, y, _ => by simp
  | k :: ks, l, hn, hk, y, h => by
    simp only [closeL] at h
    rw [if_neg (hk k (by simp))] at h
    have h1 := closeL_gone size mark ks (pDel l k) (pDel_nd hn k) (fun x hx => hk x (by simp [hx])) y h
    have h2 := closeL_sub size mark ks (pDel l k) y h
    have h3 := pDel_ne hn h2
    simp only [List.mem_cons, not_or]
    exact ⟨h3, h1⟩
/-- behind a late mark nothing is open -/
theorem last_mark {r : RunV} (h : Early r) (ok : RunOk r) (hs : r.pipe.size = 6) (i : InpV) (hm : i.mark = true) (ht : i.time = 4000) : (r.take1 i).1.opn = [] := by
  have hadv : (r.clk.advance i.time).2 = true := by
    unfold ClkV.advance
    rw [if_neg]
    have := h.m
    omega
  have hp : (placesL r.opn).Perm (r.opn.map (·.1)) := List.mergeSort_perm _ _
  have e : (r.take1 i).1.opn = (closeL r.pipe.size i.time (placesL r.opn) r.opn).2 := by
    unfold RunV.take1
    simp only [hm, if_true, hadv]
  rw [e, hs, ht]
  refine List.eq_nil_iff_forall_not_mem.2 fun y hy => ?_
  refine closeL_gone 6 4000 (placesL r.opn) r.opn ok.nd (fun k hk => ?_) y hy (hp.mem_iff.2 (List.mem_map.2 ⟨y, closeL_sub _ _ _ _ y hy, rfl⟩))
  obtain ⟨z, hz, rfl⟩ := List.mem_map.1 (hp.mem_iff.1 hk)
  have := h.o z hz
  unfold wrap64
  omega
def pipC : PipM := ⟨[], 6, 3, 4, -1, -1⟩
theorem pipC_ok : PipOk pipC := ⟨by simp [pipC], by simp [pipC], by simp [pipC], by simp [pipC], by simp [pipC], by simp [pipC], by simp [pipC], by simp [pipC], by simp [pipC], by simp [pipC], by simp [pipC], by simp [pipC]⟩
/-- a tenant's cell, told by what it was accepted -/
structure CmC (x : CellV) (t : Nat) (sent : List InpV) : Prop where
  id : x.id = t
  q : x.taken ++ x.queue = sent.map (ownI t)
  r : x.run = ((RunV.new pipC).take x.taken).1 ∧ x.rows = ((RunV.new pipC).take x.taken).2
  left : x.left = 300 - (sent.length : Int)
theorem CmC.ok {x : CellV} {t : Nat} {sent : List InpV} (h : CmC x t sent) : RunOk x.run ∧ x.run.pipe = pipC := by
  have h1 := (RunOk.new pipC_ok).take x.taken
  rw [h.r.1]
  exact ⟨h1.1, h1.2.2⟩
theorem CmC.serve {x : CellV} {t : Nat} {sent : List InpV} (h : CmC x t sent) (n : Int) : CmC (x.serve n).1 t sent ∧ (x.serve n).1.queue = x.queue.drop (popN n x.queue.length) := by
  refine ⟨⟨h.id, ?_, ?_, h.left⟩, rfl⟩
  · show (x.taken ++ x.queue.take (popN n x.queue.length)) ++ x.queue.drop (popN n x.queue.length) = _
    rw [List.append_assoc, List.take_append_drop]
    exact h.q
  · show (x.run.take (x.queue.take (popN n x.queue.length))).1 = ((RunV.new pipC).take (x.taken ++ x.queue.take (popN n x.queue.length))).1 ∧ x.rows ++ (x.run.take (x.queue.take (popN n x.queue.length))).2 = ((RunV.new pipC).take (x.taken ++ x.queue.take (popN n x.queue.length))).2
    rw [take_append, ← h.r.1, ← h.r.2]
    exact ⟨rfl, rfl⟩
/-- an offer: accepted just if its answer is 0 -/
theorem CmC.offer {x : CellV} {t : Nat} {sent : List InpV} (h : CmC x t sent) (room : Int) (hr : (x.queue.length : Int) ≤ room) (i : InpV) :
    ((x.offer room i).2 = 0 → CmC (x.offer room i).1 t (sent ++ [i])) ∧ ((x.offer room i).2 ≠ 0 → CmC (x.offer room i).1 t sent) ∧ ((x.offer room i).1.queue.length : Int) ≤ room := by
  unfold CellV.offer CellV.refuse
  split
  · exact ⟨fun h => by simp at h, fun _ => ⟨h.id, h.q, h.r, h.left⟩, hr⟩
  · split
    · exact ⟨fun h => by simp at h, fun _ => ⟨h.id, h.q, h.r, h.left⟩, hr⟩
    · split
      · exact ⟨fun h => by simp at h, fun _ => ⟨h.id, h.q, h.r, h.left⟩, hr⟩
      · rename_i h3
        refine ⟨fun _ => ⟨h.id, ?_, h.r, ?_⟩, fun h => absurd rfl h, ?_⟩
        · show x.taken ++ (x.queue ++ [ownI x.id i]) = _
          rw [← List.append_assoc, h.q, h.id]
          simp
        · show x.left - 1 = _
          rw [h.left, List.length_append]
          simp
          omega
        · simp
          omega
end Go.Proofs.YtcanfmabkklidaaGreat
