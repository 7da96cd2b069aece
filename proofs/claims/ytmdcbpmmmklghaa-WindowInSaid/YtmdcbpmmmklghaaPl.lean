/- The plain part: which windows a time is in. No program in sight. -/
import Derived.Below
namespace Go.Proofs.Ytmdcbpmmmklghaa

def most (size slide : Int) : Int := (size + slide - 1) / slide
def RightP (size slide : Int) : Prop := 1 ≤ slide ∧ slide ≤ size ∧ size ≤ 1048576 ∧ most size slide ≤ 8
instance (a b : Int) : Decidable (RightP a b) := by unfold RightP; infer_instance
/-- last - (k-1) s, .., last - s, last -/
def upTo (last s : Int) : Nat → List Int
  | 0 => []
  | k + 1 => (last - k * s) :: upTo last s k
theorem upTo_length (last s : Int) (k : Nat) : (upTo last s k).length = k := by
  induction k with
  | zero => rfl
  | succ k ih => simp [upTo, ih]
theorem upTo_at (last s : Int) (k i : Nat) (hi : i < k) : (upTo last s k)[i]? = some (last - ((k - 1 - i : Nat) : Int) * s) := by
  induction k generalizing i with
  | zero => omega
  | succ k ih =>
    cases i with
    | zero => simp [upTo]
    | succ i =>
      simp only [upTo, List.getElem?_cons_succ]
      rw [ih i (by omega)]
      congr 4
      omega
theorem upTo_getD (last s : Int) (k i : Nat) (hi : i < k) (d : Int) : (upTo last s k).getD i d = last - ((k - 1 - i : Nat) : Int) * s := by
  rw [List.getD_eq_getElem?_getD, upTo_at last s k i hi]; rfl
/-- how many windows a time is in -/
def kOf (t size slide : Int) : Int := min (t / slide) ((size - 1 - t % slide) / slide) + 1
def starts (t size slide : Int) : List Int := if RightP size slide ∧ 0 ≤ t ∧ t ≤ 1099511627776 then upTo (t - t % slide) slide (kOf t size slide).toNat else []
theorem kOf_pos (t size slide : Int) (h : RightP size slide) (ht : 0 ≤ t) : 1 ≤ kOf t size slide := by
  obtain ⟨h1, h2, _, _⟩ := h
  have a := Int.ediv_nonneg ht (show 0 ≤ slide by omega)
  have hm := Int.emod_lt_of_pos t (show 0 < slide by omega)
  have b := Int.ediv_nonneg (show 0 ≤ size - 1 - t % slide by omega) (show 0 ≤ slide by omega)
  unfold kOf
  omega
/-- the n-th window back holds t just if n is below kOf -/
theorem cond_iff (t size slide : Int) (h1 : 1 ≤ slide) (n : Int) :
    (0 ≤ t - t % slide - n * slide ∧ t - size < t - t % slide - n * slide) ↔ n < kOf t size slide := by
  have hp : 0 < slide := by omega
  have hd := Int.mul_ediv_add_emod t slide
  have e : t - t % slide = slide * (t / slide) := by omega
  have c1 : (0 ≤ t - t % slide - n * slide) ↔ n ≤ t / slide := by
    rw [Int.le_ediv_iff_mul_le hp]
    constructor <;> intro h
    · have := Int.emod_nonneg t (show slide ≠ 0 by omega); omega
    · have h3 : n ≤ t / slide := (Int.le_ediv_iff_mul_le hp).2 h
      have := Int.mul_le_mul_of_nonneg_left h3 (show 0 ≤ slide by omega)
      rw [Int.mul_comm slide n] at this
      omega
  have c2 : (t - size < t - t % slide - n * slide) ↔ n ≤ (size - 1 - t % slide) / slide := by
    rw [Int.le_ediv_iff_mul_le hp]
    omega
  rw [c1, c2]
  unfold kOf
  omega
theorem kOf_le_most (t size slide : Int) (h : RightP size slide) : kOf t size slide ≤ most size slide := by
  obtain ⟨h1, h2, h3, h4⟩ := h
  have hp : 0 < slide := by omega
  have hm := Int.emod_nonneg t (show slide ≠ 0 by omega)
  have : (size - 1 - t % slide) / slide ≤ (size - 1) / slide := Int.ediv_le_ediv hp (by omega)
  have e : most size slide = (size - 1) / slide + 1 := by
    unfold most
    rw [show size + slide - 1 = size - 1 + 1 * slide by omega, Int.add_mul_ediv_right _ _ (by omega)]
  rw [e]
  unfold kOf
  omega
theorem most_bd (size slide : Int) (h1 : 1 ≤ slide) (h2 : slide ≤ size) (h3 : size ≤ 1048576) : 1 ≤ most size slide ∧ most size slide ≤ 1048576 := by
  have hp : 0 < slide := by omega
  constructor
  · exact (Int.le_ediv_iff_mul_le hp).2 (by omega)
  · have : most size slide < 1048577 := (Int.ediv_lt_iff_lt_mul hp).2 (by
      have := Int.mul_le_mul_of_nonneg_left h1 (show (0 : Int) ≤ 1048576 by omega)
      rw [show (1048577 : Int) * slide = 1048576 * slide + slide by omega]
      omega)
    omega
end Go.Proofs.Ytmdcbpmmmklghaa
