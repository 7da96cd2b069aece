/- How an argument reads: by its type, one step down at a time; no enc, no fuel in sight. -/
import Derived.WalkKit
import Derived.ProofKit
import Derived.OpenShut
import Derived.ChangeArms
import Derived.Deep.Slices
namespace Go.Proofs.YtcanfmabkklidaaGreat
open Go.ChangeShapes Go.WideShapes Go.RowKit

/-- these cells read as a value of type t in w -/
def Rd (P : Program) (w : World) (t : TypeId) (cs : List Value) : Prop := ∃ (H : Type) (enc : TypeId × Value → H) (n : Nat) (y : DataW H × List MemPlace), DataW.trod enc P w 0 (fun _ => true) true n t cs = some y

theorem Rd.of {H : Type} {enc : TypeId × Value → H} {P : Program} {w : World} {t : TypeId} {v : Value} {d : DataW H} {ps : List MemPlace} (h : DataW.Trod enc P w 0 (fun _ => true) true t v d ps) : Rd P w t v.cells.toList := by
  obtain ⟨n, h⟩ := h
  exact ⟨H, enc, n, _, h⟩
theorem Rd.int {P : Program} {w : World} {t : TypeId} {cs : List Value} {k : IntKind} (h : Rd P w t cs) (ht : P.underlying t = some (.int k)) : ∃ n, cs = [.int k n] ∧ (Lit.int k n).wf = true := by
  obtain ⟨H, enc, n, y, h⟩ := h
  obtain ⟨m, h1, _, h2⟩ := DataW.trod_int ht h
  exact ⟨m, h1, h2⟩
theorem Rd.bool {P : Program} {w : World} {t : TypeId} {cs : List Value} (h : Rd P w t cs) (ht : P.underlying t = some .bool) : ∃ b, cs = [.bool b] := by
  obtain ⟨H, enc, n, y, h⟩ := h
  obtain ⟨m, h1, _⟩ := DataW.trod_bool ht h
  exact ⟨m, h1⟩
theorem Rd.struct {P : Program} {w : World} {t : TypeId} {cs : List Value} {fs : Array Field} (h : Rd P w t cs) (ht : P.underlying t = some (.struct fs)) :
    cs.length = P.cellsOf t ∧ ∀ (i : Nat) (f : Field), fs[i]? = some f → Rd P w f.type ((cs.drop f.offset).take (P.cellsOf f.type)) := by
  obtain ⟨H, enc, n, y, h⟩ := h
  obtain ⟨xs, k, _, _, hl, hx, hf⟩ := DataW.trod_struct ht h
  refine ⟨hl, fun i f hi => ?_⟩
  have h2 := hf i f hi
  have hlt : i < xs.length := by
    rw [hx]
    exact (Array.getElem?_eq_some_iff.1 hi).1
  rw [List.getElem?_eq_getElem hlt] at h2
  exact ⟨H, enc, k, _, h2⟩
theorem Rd.slice {P : Program} {w : World} {t e : TypeId} {cs : List Value} {sz : Nat} (h : Rd P w t cs) (ht : P.underlying t = some (.slice e)) (hs : P.cellsOf e = sz) (hp : 0 < sz) :
    ∃ a len cap, cs = [.slice a len cap] ∧ len ≤ cap ∧ cap ≤ maxLen ∧ ∃ b o, (0 < len → a = some ⟨b, o, none⟩) ∧
      ∀ i, i < len → ∃ es, Rd P w e es ∧ es.length = sz ∧ ∀ j, j < sz → w.cell? ⟨b, o + (i * sz + j), none⟩ = es[j]? := by
  obtain ⟨H, enc, n, y, h⟩ := h
  rcases DataW.trod_slice ht h with ⟨rfl, _⟩ | ⟨a, len, cap, elems, rest, n, _, rfl, _, hb, hl, hm, hlen, hel, _⟩
  · exact ⟨none, 0, 0, rfl, Nat.le_refl _, Nat.zero_le _, 0, 0, fun h => absurd h (by omega), fun i hi => absurd hi (by omega)⟩
  · have key : ∀ i, i < len → ∃ es, Rd P w e es ∧ es.length = sz ∧ ∀ j, j < sz → w.cell? ((a.add (i * sz)).add j) = es[j]? := by
      intro i hi
      have h2 := hel i hi
      rw [List.getElem?_eq_getElem (by omega), Option.bind_eq_some_iff] at h2
      obtain ⟨es, h3, h4⟩ := h2
      rw [hs] at h3
      obtain ⟨_, h5, h6⟩ := World.cells?_some h3
      exact ⟨es, ⟨H, enc, n, _, h4⟩, h5, h6⟩
    refine ⟨some a, len, cap, rfl, hl, hm, a.block, a.off, ?_, ?_⟩
    · intro hpos
      obtain ⟨es, _, h5, h6⟩ := key 0 hpos
      have h7 := h6 0 hp
      simp only [Nat.zero_mul] at h7
      have e0 : ((a.add 0).add 0) = a := by simp [Addr.add]
      rw [e0, List.getElem?_eq_getElem (by omega)] at h7
      have hs2 : a.spot = none := by
        unfold World.cell? at h7
        cases hsp : a.spot with
        | none => rfl
        | some q => split at h7 <;> simp [hsp] at h7
      cases a
      simp_all
    · intro i hi
      obtain ⟨es, h4, h5, h6⟩ := key i hi
      refine ⟨es, h4, h5, fun j hj => ?_⟩
      have h7 := h6 j hj
      rw [Go.Deep.add_add] at h7
      rw [← h7]
      have hsome : a.spot = none := by
        have h8 := h6 j hj
        rw [Go.Deep.add_add, List.getElem?_eq_getElem (by omega)] at h8
        by_cases hz : i * sz + j = 0
        · rw [hz] at h8
          simp only [Addr.add, if_true] at h8
          unfold World.cell? at h8
          cases hsp : a.spot with
          | none => rfl
          | some q => split at h8 <;> simp [hsp] at h8
        · obtain ⟨es0, _, h50, h60⟩ := key 0 (by omega)
          have h9 := h60 0 hp
          simp only [Nat.zero_mul] at h9
          have e0 : ((a.add 0).add 0) = a := by simp [Addr.add]
          rw [e0, List.getElem?_eq_getElem (by omega)] at h9
          unfold World.cell? at h9
          cases hsp : a.spot with
          | none => rfl
          | some q => split at h9 <;> simp [hsp] at h9
      cases a with
      | mk ab ao as =>
        simp only at hsome
        subst hsome
        unfold Addr.add
        by_cases hz : i * sz + j = 0
        · simp [hz]
        · rw [if_neg hz]
/-- a slice of ints, as it is read -/
structure IntsAt (w : World) (a : Option Addr) (n : Nat) (b o : Nat) (X : Nat → Int) : Prop where
  hd : 0 < n → a = some ⟨b, o, none⟩
  lt : 0 < n → b < w.heap.size
  c0 : ∀ i, i < n → w.cell? ⟨b, o + i, none⟩ = some (.int .i64 (X i))
  wf : ∀ i, i < n → (Lit.int .i64 (X i)).wf = true
theorem ints_of {P : Program} {w : World} {t e : TypeId} {a : Option Addr} {len cap : Nat} (h : Rd P w t [.slice a len cap]) (ht : P.underlying t = some (.slice e)) (he : P.underlying e = some (.int .i64)) (hc : P.cellsOf e = 1) :
    len ≤ maxLen ∧ ∃ b o X, IntsAt w a len b o X := by
  obtain ⟨a', len', cap', hee, h1, h2, b, o, hd, hr⟩ := h.slice ht hc (by omega)
  simp at hee
  obtain ⟨rfl, rfl, rfl⟩ := hee
  have each : ∀ i, i < len → ∃ q : Int, w.cell? ⟨b, o + i, none⟩ = some (.int .i64 q) ∧ (Lit.int .i64 q).wf = true := by
    intro i hi
    obtain ⟨es, h3, h4, h5⟩ := hr i hi
    obtain ⟨n, rfl, hw⟩ := h3.int he
    exact ⟨n, by simpa using h5 0 (by omega), hw⟩
  obtain ⟨q, hq⟩ := Go.Deep.choose_lt each
  exact ⟨by omega, b, o, q, hd, fun hp => World.block_lt_of_cell? w _ (hq 0 hp).1, fun i hi => (hq i hi).1, fun i hi => (hq i hi).2⟩
theorem IntsAt.below {w w' : World} {a : Option Addr} {n b o : Nat} {X : Nat → Int} (h : IntsAt w a n b o X) (hb : Below w.heap.size w w') : IntsAt w' a n b o X := by
  refine ⟨h.hd, fun hp => Nat.lt_of_lt_of_le (h.lt hp) hb.size, fun i hi => ?_, h.wf⟩
  rw [hb.cell (p := ⟨b, _, none⟩) (h.lt (by omega))]
  exact h.c0 i hi
end Go.Proofs.YtcanfmabkklidaaGreat
