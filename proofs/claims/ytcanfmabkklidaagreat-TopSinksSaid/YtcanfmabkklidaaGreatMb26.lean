/- A new core. -/
import Derived.Test.YtcanfmabkklidaaGreatMb24
import Derived.Test.YtcanfmabkklidaaGreatMb25
import Derived.Maps.AppendAt
set_option linter.unusedSimpArgs false
set_option linter.unusedVariables false
set_option linter.unnecessarySimpa false
namespace Go.Proofs.YtcanfmabkklidaaGreat
open Go.RowKit

/-- a condition on worlds, its body kept out of sight -/
def Hold (P : World → Prop) (y : World) : Prop := P y
theorem info87 : (Tryz.prog.info? 87).map (fun i => (i.zero, i.size, i.bytes)) = some (some (.agg #[.int .i64 0, .int .i64 0, .int .i64 0, .int .u64 0]), 4, 32) := by kernel_rfl
theorem At.of_row {w : World} {base : Nat} {e : TypeId} {k : Nat} {v : Value} {n : Nat} {xs : List Value} (h : w.ownsRow base e k v n xs) {g : Nat} (hg : v.ownBlock = some g) : At w g xs := by
  rcases h.2 with ⟨rfl, _⟩ | ⟨g2, cap, cur, rfl, h2, h3, h4, h5, h6, h7⟩
  · simp [Value.ownBlock] at hg
  · simp only [Value.ownBlock, Option.some.injEq] at hg
    subst hg
    refine ⟨fun j u hj => ?_, fun j => ?_, (Array.getElem?_eq_some_iff.1 h3).1⟩
    · have := h.cells (g := g2) rfl j u hj
      have hadd : (⟨g2, 0, none⟩ : Addr).add j = ⟨g2, j, none⟩ := by unfold Addr.add; split <;> simp_all
      rwa [hadd] at this
    · unfold World.frozen?
      simp [h3]
theorem PotV.one (x : PotV) : ∀ u ∈ x.cs, u.oneCell' = true := by simp [PotV.cs, Value.oneCell']
/-- a new core of its parts -/
theorem CoreIn.fresh {w : World} {b bb : Nat} {vs vp : Value} {B R Q : Int} {l : List SinkV} {n m : Nat} (ha : At w b (coreCs (CoreV.new B R Q l) vs vp bb (fun _ => none)))
    (hb : At w bb [.slice none 0 0, .slice none 0 0, .slice none 0 0, .slice none 0 0, .slice none 0 0, .slice none 0 0, .slice none 0 0, .slice none 0 0]) (hs : w.ownsRow n 49 5 vs l.length (l.flatMap SinkV.cs)) (hp : w.ownsRow m 87 4 vp (l.map PotV.new).length ((l.map PotV.new).flatMap PotV.cs))
    (h1 : bb < b) (h2 : b < m) (h3 : ∀ x ∈ vs.ownBlock.toList, x < bb) :
    CoreIn w b (fun i => if i = 0 then [b] else if i = 1 then vs.ownBlock.toList else if i = 2 then vp.ownBlock.toList else if i = 3 then [bb] else []) vs vp bb (fun _ => none) (CoreV.new B R Q l) := by
  have hbl := ha.lt
  have hbbl := hb.lt
  refine ⟨ha, rfl, RdR.of_own sinkcs_len' hs, ?_, ⟨_, _, ?_, BoardIn.new hb⟩, fun t ht => ?_, ⟨fun i hi x hx => ?_, fun i j hi hj hne x hx hy => ?_⟩⟩
  · cases hv : vp.ownBlock with
    | none =>
      refine .inl ?_
      rcases hp.2 with ⟨h4, h5⟩ | ⟨g, cap, cur, h4, _⟩
      · have e : l.map PotV.new = [] := List.eq_nil_of_length_eq_zero h5
        exact ⟨e, h4, by simp [hv]⟩
      · rw [h4] at hv
        simp [Value.ownBlock] at hv
    | some g =>
      rcases hp.2 with ⟨h4, h5⟩ | ⟨g2, cap, cur, h4, h5, h6, h7, _⟩
      · rw [h4] at hv
        simp [Value.ownBlock] at hv
      · have e : g2 = g := by rw [h4] at hv; simpa [Value.ownBlock] using hv
        subst e
        exact .inr ⟨g2, cap, h4, At.of_row hp hv, by simp [hv], h7⟩
  · simp only [if_neg (show ¬ (3 : Nat) = 0 by omega), if_neg (show ¬ (3 : Nat) = 1 by omega), if_neg (show ¬ (3 : Nat) = 2 by omega), if_true]
    simp [allOf, List.range_succ]
  · simp only [CoreV.new, CellOpt]
    refine ⟨trivial, ?_⟩
    simp only [if_neg (show ¬ (4 + t) = 0 by omega), if_neg (show ¬ (4 + t) = 1 by omega), if_neg (show ¬ (4 + t) = 2 by omega), if_neg (show ¬ (4 + t) = 3 by omega)]
  · split at hx
    · have e : x = b := by simpa using hx
      omega
    · split at hx
      · exact own_lt hs x hx
      · split at hx
        · exact own_lt hp x hx
        · split at hx
          · have e : x = bb := by simpa using hx
            omega
          · simp at hx
  · have key : ∀ i, i < 12 → x ∈ (if i = 0 then [b] else if i = 1 then vs.ownBlock.toList else if i = 2 then vp.ownBlock.toList else if i = 3 then [bb] else []) → (i = 0 ∧ x = b) ∨ (i = 1 ∧ x < bb) ∨ (i = 2 ∧ m ≤ x) ∨ (i = 3 ∧ x = bb) := fun i _ hx => by
      split at hx
      · exact .inl ⟨by assumption, by simpa using hx⟩
      · split at hx
        · exact .inr (.inl ⟨by assumption, h3 x hx⟩)
        · split at hx
          · exact .inr (.inr (.inl ⟨by assumption, own_new hp x hx⟩))
          · split at hx
            · exact .inr (.inr (.inr ⟨by assumption, by simpa using hx⟩))
            · simp at hx
    have k1 := key i hi hx
    have k2 := key j hj hy
    omega
end Go.Proofs.YtcanfmabkklidaaGreat
