/- The plain part of WindowIn: the begins, the map's entries. -/
import Derived.Test.YtmdcbpmmmklghaaSh
import Derived.Test.YtmdcbpmmmklghaaMp
namespace Go.Proofs.Ytmdcbpmmmklghaa
open Go.RowKit

/-- the map after i rounds -/
def Ent (f : Nat → Int) : Nat → Array MapEntry
  | 0 => #[]
  | i + 1 => (Ent f i).push { key := .int .i64 (f i), val := .bool true, born := i }
theorem Ent_mem (f : Nat → Int) (i : Nat) (e : MapEntry) : e ∈ (Ent f i).toList ↔ ∃ j, j < i ∧ e = { key := .int .i64 (f j), val := .bool true, born := j } := by
  induction i with
  | zero => simp [Ent]
  | succ i ih =>
    simp only [Ent, Array.toList_push, List.mem_append, List.mem_singleton, ih]
    constructor
    · rintro (⟨j, hj, rfl⟩ | rfl)
      · exact ⟨j, by omega, rfl⟩
      · exact ⟨i, by omega, rfl⟩
    · rintro ⟨j, hj, rfl⟩
      rcases (by omega : j < i ∨ j = i) with h | rfl
      · exact .inl ⟨j, h, rfl⟩
      · exact .inr rfl
theorem Ent_new (f : Nat → Int) (i : Nat) (h : ∀ j, j < i → f j ≠ f i) : ∀ e ∈ (Ent f i).toList, ∃ m, e.key = .int .i64 m ∧ m ≠ f i := by
  intro e he
  obtain ⟨j, hj, rfl⟩ := (Ent_mem f i e).1 he
  exact ⟨_, rfl, h j hj⟩
theorem run_look_in {P : Program} (w : World) (t kt et : TypeId) (ht : P.underlying t = some (.map kt et)) (hk : P.underlying kt = some (.int .i64)) (r : Nat) (f : Nat → Int) (K : Nat)
    (h : w.heap[r]? = some (.map (Ent f K) K)) (n : Int) (h3 : ∃ j, j < K ∧ f j = n) : (Instr.lookup t (.map (some r)) (.int .i64 n) false).run P w = .ok (.bool true) w := by
  refine run_lookup_yes w t kt et ht hk r _ _ h n _ ?_ ?_ ?_
  · intro e he
    obtain ⟨j, _, rfl⟩ := (Ent_mem f K e).1 he
    exact ⟨_, rfl⟩
  · intro e he _
    obtain ⟨j, _, rfl⟩ := (Ent_mem f K e).1 he
    rfl
  · obtain ⟨j, hj, rfl⟩ := h3
    exact ⟨_, (Ent_mem f K _).2 ⟨j, hj, rfl⟩, rfl⟩
theorem run_look_out {P : Program} (w : World) (t kt et : TypeId) (ht : P.underlying t = some (.map kt et)) (hk : P.underlying kt = some (.int .i64)) (hz : ∀ w, (zeroValue et).run P w = .ok (.bool false) w) (r : Nat) (f : Nat → Int) (K : Nat)
    (h : w.heap[r]? = some (.map (Ent f K) K)) (n : Int) (h3 : ∀ j, j < K → f j ≠ n) : (Instr.lookup t (.map (some r)) (.int .i64 n) false).run P w = .ok (.bool false) w := by
  refine run_lookup_no w t kt et ht hk _ hz r _ _ h n ?_
  intro e he
  obtain ⟨j, hj, rfl⟩ := (Ent_mem f K e).1 he
  exact ⟨_, rfl, h3 j hj⟩
theorem mpUpd_below {B : Nat} {w0 w : World} (h : Below B w0 w) (r : Nat) (hr : B ≤ r) (o : Obj) : Below B w0 (mpUpd w r o) :=
  ⟨h.os, h.tape, h.output, by simpa [mpUpd] using h.size, fun k hk => by
    rw [← h.block k hk]
    simp only [mpUpd]
    rw [Array.getElem?_setIfInBounds_ne (by omega)]⟩
theorem mpUpd_cell (w : World) (r : Nat) (o : Obj) (b k : Nat) (h : b ≠ r) : (mpUpd w r o).cell? ⟨b, k, none⟩ = w.cell? ⟨b, k, none⟩ :=
  World.cell?_of_block (by simp only [mpUpd]; rw [Array.getElem?_setIfInBounds_ne (by omega)])

/-- the j-th begin of K, the last one being 'last' -/
def beg (last s : Int) (K j : Nat) : Int := last - ((K - 1 - j : Nat) : Int) * s
theorem beg_prev (last s : Int) (K j : Nat) (h0 : 0 < j) (hj : j < K) : beg last s K (j - 1) = beg last s K j - s := by
  unfold beg
  obtain ⟨m, hm⟩ : ∃ m : Nat, K - 1 - j = m := ⟨_, rfl⟩
  have e : K - 1 - (j - 1) = m + 1 := by omega
  rw [hm, e]
  have : ((m + 1 : Nat) : Int) * s = (m : Int) * s + s := by rw [Int.natCast_succ, Int.add_mul]; omega
  omega
theorem beg_mod (x s : Int) (K j : Nat) : beg (x - x % s) s K j % s = 0 := by
  unfold beg
  have hd := Int.mul_ediv_add_emod x s
  have e : x - x % s = s * (x / s) := by omega
  rw [e, Int.mul_comm ((K - 1 - j : Nat) : Int) s, ← Int.mul_sub]
  exact Int.mul_emod_right _ _
theorem beg_bd (x n s : Int) (hs : 1 ≤ s) (K : Nat) (hK : kOf x n s = K) (j : Nat) (hj : j < K) : 0 ≤ beg (x - x % s) s K j ∧ x < beg (x - x % s) s K j + n ∧ beg (x - x % s) s K j ≤ x := by
  have h := (cond_iff x n s hs ((K - 1 - j : Nat) : Int)).2 (by omega)
  have h0 := Int.mul_nonneg (show (0 : Int) ≤ ((K - 1 - j : Nat) : Int) by omega) (show 0 ≤ s by omega)
  have h1 := Int.emod_nonneg x (show s ≠ 0 by omega)
  unfold beg
  omega
theorem beg_lt (last s : Int) (hs : 1 ≤ s) (K j i : Nat) (hj : j < i) (hi : i < K) : beg last s K j < beg last s K i := by
  unfold beg
  have h1 : ((K - 1 - i : Nat) : Int) * s + s ≤ ((K - 1 - j : Nat) : Int) * s := by
    have : (((K - 1 - i : Nat) : Int) + 1) * s ≤ ((K - 1 - j : Nat) : Int) * s := Int.mul_le_mul_of_nonneg_right (by omega) (by omega)
    rw [Int.add_mul] at this
    omega
  omega
/-- a multiple of s is one of the begins just if it lies in reach -/
theorem beg_hit (x n s q : Int) (hs : 1 ≤ s) (K : Nat) (hK : kOf x n s = K) (hq : 0 ≤ q) (h1 : q * s ≤ x) (h2 : x < q * s + n) : ∃ j, j < K ∧ beg (x - x % s) s K j = q * s := by
  have hd := Int.mul_ediv_add_emod x s
  have e : x - x % s = (x / s) * s := by rw [Int.mul_comm]; omega
  have hle : q ≤ x / s := (Int.le_ediv_iff_mul_le (by omega)).2 h1
  obtain ⟨m, hm⟩ : ∃ m : Nat, x / s - q = m := ⟨(x / s - q).toNat, by omega⟩
  have e2 : x - x % s - m * s = q * s := by rw [e, ← Int.sub_mul]; congr 1; omega
  have h3 : 0 ≤ q * s := Int.mul_nonneg hq (by omega)
  have h4 := (cond_iff x n s hs m).1 ⟨by omega, by omega⟩
  refine ⟨K - 1 - m, by omega, ?_⟩
  unfold beg
  rw [show K - 1 - (K - 1 - m) = m by omega]
  exact e2
theorem most_far (x n s : Int) (hs : 1 ≤ s) (hn : n ≤ x) : most n s - 1 ≤ kOf x n s := by
  rw [kOf_far x n s hs hn]
  have h1 := Int.emod_lt_of_pos x (show 0 < s by omega)
  have h2 : (n - 1 - s) / s ≤ (n - 1 - x % s) / s := Int.ediv_le_ediv (by omega) (by omega)
  have h3 : (n - 1 - s) / s = (n - 1) / s - 1 := by
    rw [show n - 1 - s = n - 1 + (-1) * s by omega, Int.add_mul_ediv_right _ _ (by omega)]; omega
  have h4 : most n s = (n - 1) / s + 1 := by
    unfold most
    rw [show n + s - 1 = n - 1 + 1 * s by omega, Int.add_mul_ediv_right _ _ (by omega)]
  omega
end Go.Proofs.Ytmdcbpmmmklghaa
