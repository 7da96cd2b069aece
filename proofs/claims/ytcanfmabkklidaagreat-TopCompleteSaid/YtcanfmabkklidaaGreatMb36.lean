/- TopComplete: labels laid into a list of inputs, one by one. -/
import Derived.Test.YtcanfmabkklidaaGreatMb35
import Derived.Test.YtcanfmabkklidaaGreatMb31
set_option linter.unusedSimpArgs false
set_option linter.unusedVariables false
set_option linter.unnecessarySimpa false
namespace Go.Proofs.YtcanfmabkklidaaGreat
open Go.RowKit

def mixI (t : Nat) (X : List InpV) (n : Nat) : List InpV := (X.take n).map (labI t) ++ X.drop n
theorem mixI_0 (t : Nat) (X : List InpV) : mixI t X 0 = X := by simp [mixI]
theorem mixI_all (t : Nat) (X : List InpV) : mixI t X X.length = X.map (labI t) := by simp [mixI]
theorem mixI_len (t : Nat) (X : List InpV) (n : Nat) : (mixI t X n).length = X.length := by simp [mixI]; omega
theorem mixI_get {t : Nat} {X : List InpV} {n : Nat} {x : InpV} (h : X[n]? = some x) : (mixI t X n)[n]? = some x := by
  have hl : n < X.length := (List.getElem?_eq_some_iff.1 h).1
  unfold mixI
  rw [List.getElem?_append_right (by simp; omega)]
  have e : ((X.take n).map (labI t)).length = n := by simp; omega
  rw [e, Nat.sub_self, List.getElem?_drop, Nat.add_zero]
  exact h
theorem mixI_set {t : Nat} {X : List InpV} {n : Nat} {x : InpV} (h : X[n]? = some x) : (mixI t X n).set n (labI t x) = mixI t X (n + 1) := by
  have hl : n < X.length := (List.getElem?_eq_some_iff.1 h).1
  have e : ((X.take n).map (labI t)).length = n := by simp; omega
  have hx : X[n] = x := by
    rw [List.getElem?_eq_getElem hl] at h
    exact Option.some.inj h
  unfold mixI
  rw [List.set_append_right _ _ (by omega), e, Nat.sub_self, List.take_add_one, h, List.drop_eq_getElem_cons hl]
  simp [hx]
theorem flat_lab (t : Nat) : ∀ (l : List InpV) (n : Nat) (x : InpV), l[n]? = some x → (l.flatMap InpV.cs).set (n * 5 + 4) (.int .u64 ((2 ^ t : Nat) : Int)) = (l.set n (labI t x)).flatMap InpV.cs
  | [], n, x, h => by simp at h
  | y :: l, 0, x, h => by
    obtain rfl : y = x := by simpa using h
    rfl
  | y :: l, n + 1, x, h => by
    have ih := flat_lab t l n x (by simpa using h)
    have hc : y.cs.length = 5 := rfl
    simp only [List.flatMap_cons, List.set_cons_succ]
    rw [List.set_append_right _ _ (by rw [hc]; omega), hc, show (n + 1) * 5 + 4 - 5 = n * 5 + 4 by omega, ih]
theorem rdi_at {w : World} {cap : Nat} {l : List InpV} (h1 : l.length ≤ cap) (h2 : cap ≤ maxLen) (g : Nat) (h : At w g (l.flatMap InpV.cs)) : RdR InpV.cs 5 w (.slice (some ⟨g, 0, none⟩) l.length cap) l [g] := by
  refine ⟨_, cap, rfl, h1, h2, .inr ⟨g, 0, rfl, rfl, h.lt, fun i x hi j u hj => ?_⟩⟩
  rw [Nat.zero_add]
  exact h.c _ _ (flat_get (cs := InpV.cs) (k := 5) (fun _ => rfl) hi hj)
def pipCv : PipeV := ⟨.slice none 0 0, [], 6, 3, 4, -1, -1⟩
theorem pipCv_bd : PipeBd pipCv := ⟨by simp [pipCv], by simp [pipCv], by simp [pipCv], by simp [pipCv], by simp [pipCv], by simp [pipCv], by simp [pipCv], by simp [pipCv], by simp [pipCv], by simp [pipCv], by simp [pipCv], by simp [pipCv]⟩
end Go.Proofs.YtcanfmabkklidaaGreat
