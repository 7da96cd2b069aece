/- TopSinks: what the law keeps beside the core. -/
import Derived.Test.YtcanfmabkklidaaGreatMb27
import Derived.Test.YtcanfmabkklidaaGreatMb28
import Derived.Test.YtcanfmabkklidaaGreatMb29
import Derived.Test.YtcanfmabkklidaaGreatMb30
import Derived.Test.YtcanfmabkklidaaGreatMb32
set_option linter.unusedSimpArgs false
set_option linter.unusedVariables false
set_option linter.unnecessarySimpa false
namespace Go.Proofs.YtcanfmabkklidaaGreat
open Go.RowKit

theorem bel_le {m n : Nat} {a b : World} (h : Below n a b) (hm : m ≤ n) : Below m a b := ⟨h.os, h.tape, h.output, h.size, fun i hi => h.block i (by omega)⟩
/-- two blocks beside a core's -/
structure SnkB (w0 : World) (F : List Nat) (bp bw : Nat) : Prop where
  p : bp < w0.heap.size
  q : bw < w0.heap.size
  ne : bp ≠ bw
  pF : bp ∉ F
  qF : bw ∉ F
  F : ∀ x ∈ F, x < w0.heap.size
/-- the core, the law's pots, what it wants told -/
structure SnkS (w0 : World) (F : List Nat) (w : World) (a : Nat) (c : CoreV) (bp bw : Nat) (P : List PotV) (f : Nat → List RelV) (S : List Nat) (vs : List Value) : Prop where
  c : CoreAt w a S c
  i : Into S F w0.heap.size
  p : At w bp (P.flatMap PotV.cs)
  q : At w bw vs
  o : ∀ (j : Nat) (v : Value), vs[j]? = some v → w.ownsRow w0.heap.size 52 4 v (f j).length ((f j).flatMap RelV.cs)
  s : ∀ (j : Nat) (v : Value), vs[j]? = some v → ∀ x ∈ v.ownBlock.toList, x ∉ S
  d : ∀ (j k : Nat) (u v : Value), vs[j]? = some u → vs[k]? = some v → j ≠ k → ∀ x ∈ u.ownBlock.toList, x ∉ v.ownBlock.toList
  m : Mod (bp :: bw :: F) w0 w
theorem SnkB.apart {w0 : World} {F : List Nat} {bp bw : Nat} (B : SnkB w0 F bp bw) {S : List Nat} (h : Into S F w0.heap.size) : bp ∉ S ∧ bw ∉ S :=
  ⟨fun hh => by
    rcases h _ hh with h1 | h1
    · exact B.pF h1
    · have := B.p
      omega, fun hh => by
    rcases h _ hh with h1 | h1
    · exact B.qF h1
    · have := B.q
      omega⟩
theorem SnkS.step {w0 : World} {F : List Nat} {w w' : World} {a : Nat} {c c' : CoreV} {bp bw : Nat} {P : List PotV} {f : Nat → List RelV} {S S' : List Nat} {vs : List Value} (B : SnkB w0 F bp bw) (h : SnkS w0 F w a c bp bw P f S vs)
    (hm : Mod S w w') (hc : CoreAt w' a S' c') (hi : Into S' S w.heap.size) : SnkS w0 F w' a c' bp bw P f S' vs := by
  have ha := B.apart h.i
  refine ⟨hc, h.i.trans hi h.m.size, h.p.mod hm ha.1, h.q.mod hm ha.2, fun j v hv => own_mod (h.o j v hv) hm (h.s j v hv), fun j v hv x hx => into_not hi (own_lt (h.o j v hv) x hx) (h.s j v hv x hx), h.d, h.m.trans hm fun x hx => ?_⟩
  rcases h.i x hx with h1 | h1
  · exact .inl (by simp [h1])
  · exact .inr h1
theorem SnkS.below {w0 : World} {F : List Nat} {w w' : World} {a : Nat} {c : CoreV} {bp bw : Nat} {P : List PotV} {f : Nat → List RelV} {S : List Nat} {vs : List Value} (B : SnkB w0 F bp bw) (h : SnkS w0 F w a c bp bw P f S vs)
    (hb : Below w.heap.size w w') : SnkS w0 F w' a c bp bw P f S vs := h.step B (Mod.of_below hb S) (h.c.below hb) (Into.refl _ _)
theorem SnkS.pot {w0 : World} {F : List Nat} {w w' : World} {a : Nat} {c : CoreV} {bp bw : Nat} {P P' : List PotV} {f : Nat → List RelV} {S : List Nat} {vs : List Value} (B : SnkB w0 F bp bw) (h : SnkS w0 F w a c bp bw P f S vs)
    (hm : Mod [bp] w w') (hp : At w' bp (P'.flatMap PotV.cs)) : SnkS w0 F w' a c bp bw P' f S vs := by
  have ha := B.apart h.i
  have hlt := B.p
  refine ⟨h.c.apart hm (by simpa using ha.1), h.i, hp, h.q.mod hm (by simpa using Ne.symm B.ne), fun j v hv => own_mod (h.o j v hv) hm (fun x hx => by have := own_new (h.o j v hv) x hx; simp; omega), h.s, h.d, h.m.trans hm fun x hx => .inl ?_⟩
  obtain rfl : x = bp := by simpa using hx
  simp
theorem SnkS.want {w0 : World} {F : List Nat} {w w1 : World} {a : Nat} {c : CoreV} {bp bw : Nat} {P : List PotV} {f : Nat → List RelV} {S : List Nat} {vs : List Value} (B : SnkB w0 F bp bw) (h : SnkS w0 F w a c bp bw P f S vs)
    {j : Nat} {v v' : Value} {l : List RelV} (hj : vs[j]? = some v) (hg : w.grownBy w1 v.ownBlock) (ho : w1.ownsRow w0.heap.size 52 4 v' l.length (l.flatMap RelV.cs)) (hb : v'.ownBlock = v.ownBlock ∨ v'.ownBlock = some w.heap.size) :
    SnkS w0 F (w1.setCell ⟨bw, j, none⟩ v') a c bp bw P (fun k => if k = j then l else f k) S (vs.set j v') := by
  have ha := B.apart h.i
  have hp := B.p
  have hq := B.q
  have hs0 := h.m.size
  have hm1 : Mod v.ownBlock.toList w w1 := Mod.of_grown hg _ (fun x hx => .inl (by simpa using hx))
  have hm2 := Mod.setCell w1 bw j v'
  have hnew : ∀ x ∈ v.ownBlock.toList, w0.heap.size ≤ x := own_new (h.o j v hj)
  have hvw : ∀ x ∈ v.ownBlock.toList, x ≠ bp ∧ x ≠ bw := fun x hx => by have := hnew x hx; omega
  have hjl := (List.getElem?_eq_some_iff.1 hj).1
  have hnw : ∀ x ∈ v'.ownBlock.toList, x ∈ v.ownBlock.toList ∨ x = w.heap.size := fun x hx => by
    rcases hb with hb | hb
    · exact .inl (by rw [← hb]; exact hx)
    · rw [hb] at hx
      exact .inr (by simpa using hx)
  have hcl := h.c.lt
  have hq1 : At w1 bw vs := h.q.mod hm1 (fun hh => (hvw _ hh).2 rfl)
  refine ⟨(h.c.apart hm1 (h.s j v hj)).apart hm2 (by simpa using ha.2), h.i, (h.p.mod hm1 (fun hh => (hvw _ hh).1 rfl)).mod hm2 (by simpa using B.ne), hq1.set j v' hjl, fun k u hu => ?_, fun k u hu x hx => ?_, fun k1 k2 u1 u2 h1 h2 hne x hx => ?_, (h.m.trans hm1 (fun x hx => .inr (hnew x hx))).trans hm2 (fun x hx => .inl ?_)⟩
  · rw [List.getElem?_set] at hu
    by_cases e : j = k
    · subst e
      simp only [if_true, hjl, Option.some.injEq] at hu
      subst hu
      simp only [if_true]
      exact own_mod ho hm2 (fun x hx => by have := own_new ho x hx; simp; omega)
    · rw [if_neg e] at hu
      rw [if_neg (Ne.symm e)]
      exact own_mod (own_mod (h.o k u hu) hm1 (fun x hx => h.d k j u v hu hj (Ne.symm e) x hx)) hm2 (fun x hx => by have := own_new (h.o k u hu) x hx; simp; omega)
  · rw [List.getElem?_set] at hu
    by_cases e : j = k
    · subst e
      simp only [if_true, hjl, Option.some.injEq] at hu
      subst hu
      rcases hnw x hx with h1 | rfl
      · exact h.s j v hj x h1
      · intro hh
        have := hcl _ hh
        omega
    · rw [if_neg e] at hu
      exact h.s k u hu x hx
  · rw [List.getElem?_set] at h1 h2
    by_cases e1 : j = k1
    · subst e1
      simp only [if_true, hjl, Option.some.injEq] at h1
      subst h1
      rw [if_neg hne] at h2
      rcases hnw x hx with h3 | rfl
      · exact h.d j k2 v u2 hj h2 hne x h3
      · intro hh
        have := own_lt (h.o k2 u2 h2) _ hh
        omega
    · rw [if_neg e1] at h1
      by_cases e2 : j = k2
      · subst e2
        simp only [if_true, hjl, Option.some.injEq] at h2
        subst h2
        intro hh
        rcases hnw x hh with h3 | rfl
        · exact h.d k1 j u1 v h1 hj (Ne.symm e1) x hx h3
        · have := own_lt (h.o k1 u1 h1) _ hx
          omega
      · rw [if_neg e2] at h2
        exact h.d k1 k2 u1 u2 h1 h2 hne x hx
  · obtain rfl : x = bw := by simpa using hx
    simp
/-- a block of the law's own that is no part of all this -/
theorem SnkS.cell {w0 : World} {F : List Nat} {w : World} {a : Nat} {c : CoreV} {bp bw : Nat} {P : List PotV} {f : Nat → List RelV} {S : List Nat} {vs : List Value} (h : SnkS w0 F w a c bp bw P f S vs) {b : Nat} {xs : List Value} (hb : At w0 b xs) (h1 : b ≠ bp) (h2 : b ≠ bw) (h3 : b ∉ F) : At w b xs :=
  hb.mod h.m (by simp [h1, h2, h3])
theorem SnkS.own {w0 : World} {F : List Nat} {w : World} {a : Nat} {c : CoreV} {bp bw : Nat} {P : List PotV} {f : Nat → List RelV} {S : List Nat} {vs : List Value} (h : SnkS w0 F w a c bp bw P f S vs) {base : Nat} {e : TypeId} {k : Nat} {v : Value} {n : Nat} {xs : List Value} (hb : w0.ownsRow base e k v n xs) (hd : ∀ x ∈ v.ownBlock.toList, x ≠ bp ∧ x ≠ bw ∧ x ∉ F) : w.ownsRow base e k v n xs :=
  own_mod hb h.m (fun x hx => by have := hd x hx; simp [this.1, this.2.1, this.2.2])

/-- how many rows there were -/
def hadI (c : CoreV) (t : Nat) : Int := match c.cells t with | none => 0 | some x => (x.rows.length : Int)
def hadL (c : CoreV) (m : Nat) : List Value := (List.range 8).map fun t => .int .i64 (if t < m then hadI c t else 0)
theorem hadL_zero (c : CoreV) : hadL c 0 = [.int .i64 0, .int .i64 0, .int .i64 0, .int .i64 0, .int .i64 0, .int .i64 0, .int .i64 0, .int .i64 0] := by simp [hadL, List.range_succ]
theorem hadL_get (c : CoreV) (m t : Nat) (ht : t < 8) : (hadL c m)[t]? = some (.int .i64 (if t < m then hadI c t else 0)) := by simp [hadL, ht]
theorem hadL_set (c : CoreV) (m : Nat) : (hadL c m).set m (.int .i64 (hadI c m)) = hadL c (m + 1) := by
  apply List.ext_getElem?
  intro i
  rw [List.getElem?_set]
  by_cases e : m = i
  · subst e
    by_cases h : m < 8
    · simp [hadL, h]
    · simp [hadL, h]
  · rw [if_neg e]
    by_cases h : i < 8
    · rw [hadL_get c m i h, hadL_get c (m + 1) i h]
      congr 2
      by_cases h2 : i < m
      · rw [if_pos h2, if_pos (by omega)]
      · rw [if_neg h2, if_neg (by omega)]
    · simp [hadL, h]
theorem hadL_none (c : CoreV) (m : Nat) (h : c.cells m = none) : hadL c m = hadL c (m + 1) := by
  apply List.ext_getElem?
  intro i
  by_cases h8 : i < 8
  · rw [hadL_get c m i h8, hadL_get c (m + 1) i h8]
    congr 2
    by_cases e : i = m
    · subst e
      simp [hadI, h]
    · by_cases h2 : i < m
      · rw [if_pos h2, if_pos (by omega)]
      · rw [if_neg h2, if_neg (by omega)]
  · simp [hadL, h8]

theorem cellN_at (b : Nat) (S : List Nat) (c : CoreV) (t : Nat) (ht : t ≤ 7) (w : World) (h : CoreAt w b S c) (hx : c.cells t = none) :
    Calls Tryz.prog 29 #[.pointer (some ⟨b, 0, none⟩), .int .i64 t] w fun e w' => e = .returned (.pointer none) ∧ w' = w := by
  obtain ⟨G, vs, vp, bb, pc, rfl, h⟩ := h
  exact cell_none b G vs vp bb pc c t ht w h hx
theorem cellS_at (b : Nat) (S : List Nat) (c : CoreV) (N : Nat) (t : Nat) (ht : t ≤ 7) (w : World) (h : CoreAt w b S c) (ok : CoreOk c N) (hN : N ≤ 100000) (x : CellV) (hx : c.cells t = some x) :
    Calls Tryz.prog 29 #[.pointer (some ⟨b, 0, none⟩), .int .i64 t] w fun e w' => (∃ q, e = .returned (.pointer (some ⟨q, 0, none⟩)) ∧ TwinAt w' q x) ∧ Below w.heap.size w w' := by
  obtain ⟨G, vs, vp, bb, pc, rfl, h⟩ := h
  exact cell_some b G vs vp bb pc c N t ht w h ok hN x hx
theorem ticks_at (b : Nat) (S : List Nat) (c : CoreV) (w : World) (h : CoreAt w b S c) : Calls Tryz.prog 33 #[.pointer (some ⟨b, 0, none⟩)] w fun e w' => e = .returned (.int .i64 c.ticks) ∧ w' = w := by
  obtain ⟨G, vs, vp, bb, pc, rfl, h⟩ := h
  exact ticks_any b G vs vp bb pc c w h
theorem TwinAt.below {w w' : World} {q : Nat} {x : CellV} (h : TwinAt w q x) (hb : Below w.heap.size w w') : TwinAt w' q x := by
  obtain ⟨br, bp, vo, va, vc, ra, rc, ta, tc, h1, h2⟩ := h
  exact ⟨br, bp, vo, va, vc, ra, rc, ta, tc, h1.below hb, h2.below hb⟩
/-- the twin's cells that the law reads -/
theorem TwinAt.cells {w : World} {q : Nat} {x : CellV} (h : TwinAt w q x) : ∃ br, w.cell? ⟨q, 4, none⟩ = some (.pointer (some ⟨br, 0, none⟩)) ∧ w.cell? ⟨br, 8, none⟩ = some (.int .i64 x.run.pipe.sink) ∧ q < w.heap.size ∧ br < w.heap.size := by
  obtain ⟨br, bp, vo, va, vc, ra, rc, ta, tc, h1, h2⟩ := h
  exact ⟨br, h1.c 4 _ rfl, h2.c 8 _ rfl, h1.lt, h2.lt⟩

theorem mk81 (n : Nat) (hn : n ≤ 2) (w : World) : (Instr.makeSlice 81 (.int .i64 (n : Int)) (.int .i64 (n : Int))).run Tryz.prog w = .ok (.slice (some ⟨w.heap.size, 0, none⟩) n n) (w.alloc (.cells ((List.replicate n (⟨0, 0, 0, 0⟩ : PotV)).flatMap PotV.cs).toArray 87)) := by
  obtain ⟨i, h1, h2, h3, h4⟩ := info_parts info87
  have h := run_makeSlice (P := Tryz.prog) w 81 87 i _ Tryz.underlying81 h1 h2 .i64 .i64 (n : Int) (n : Int) (by omega) (by omega) (by rw [h3]; omega) (by rw [h4]; omega) (by omega)
  rw [h3] at h
  rcases (by omega : n = 0 ∨ n = 1 ∨ n = 2) with rfl | rfl | rfl
  · exact h.trans (by kernel_rfl)
  · exact h.trans (by kernel_rfl)
  · exact h.trans (by kernel_rfl)
theorem info46 : (Tryz.prog.info? 46).map (fun i => (i.zero, i.size, i.bytes)) = some (some (.slice none 0 0), 1, 24) := by kernel_rfl
theorem mk89 (n : Nat) (hn : n ≤ 2) (w : World) : (Instr.makeSlice 89 (.int .i64 (n : Int)) (.int .i64 (n : Int))).run Tryz.prog w = .ok (.slice (some ⟨w.heap.size, 0, none⟩) n n) (w.alloc (.cells (List.replicate n (.slice none 0 0)).toArray 46)) := by
  obtain ⟨i, h1, h2, h3, h4⟩ := info_parts info46
  have h := run_makeSlice (P := Tryz.prog) w 89 46 i _ Tryz.underlying89 h1 h2 .i64 .i64 (n : Int) (n : Int) (by omega) (by omega) (by rw [h3]; omega) (by rw [h4]; omega) (by omega)
  rw [h3] at h
  rcases (by omega : n = 0 ∨ n = 1 ∨ n = 2) with rfl | rfl | rfl
  · exact h.trans (by kernel_rfl)
  · exact h.trans (by kernel_rfl)
  · exact h.trans (by kernel_rfl)
/-- pots that are made one after the other -/
def potsK (r : List SinkV) (k : Nat) : List PotV := (r.take k).map PotV.new ++ List.replicate (r.length - k) ⟨0, 0, 0, 0⟩
theorem potsK_zero (r : List SinkV) : potsK r 0 = List.replicate r.length ⟨0, 0, 0, 0⟩ := by simp [potsK]
theorem potsK_all (r : List SinkV) : potsK r r.length = r.map PotV.new := by simp [potsK]
theorem potsK_len (r : List SinkV) (k : Nat) (hk : k ≤ r.length) : (potsK r k).length = r.length := by simp [potsK]; omega
theorem potsK_set (r : List SinkV) (k : Nat) (s : SinkV) (h : r[k]? = some s) : (potsK r k).set k (PotV.new s) = potsK r (k + 1) := by
  have hlt := (List.getElem?_eq_some_iff.1 h).1
  unfold potsK
  rw [List.set_append_right _ _ (by simp; omega), List.take_add_one, h, show r.length - k = (r.length - (k + 1)) + 1 by omega, List.replicate_succ]
  simp [Nat.min_eq_left (Nat.le_of_lt hlt)]
/-- a whole pot put -/
theorem pots_put (l : List PotV) (i : Nat) (x y : PotV) (hi : l[i]? = some x) :
    ((((l.flatMap PotV.cs).set (i * 4) (.int .i64 y.count)).set (i * 4 + 1) (.int .i64 y.kind)).set (i * 4 + 2) (.int .i64 y.value)).set (i * 4 + 3) (.int .u64 y.who) = (l.set i y).flatMap PotV.cs := by
  have hil := (List.getElem?_eq_some_iff.1 hi).1
  have h0 := flat_set potcs_len (by omega) l i x ⟨y.count, x.kind, x.value, x.who⟩ hi 0 (by omega) (.int .i64 y.count) rfl
  rw [Nat.add_zero] at h0
  rw [h0, flat_set potcs_len (by omega) (l.set i _) i ⟨y.count, x.kind, x.value, x.who⟩ ⟨y.count, y.kind, x.value, x.who⟩ (by simp [hil]) 1 (by omega) (.int .i64 y.kind) rfl, List.set_set,
    flat_set potcs_len (by omega) (l.set i _) i ⟨y.count, y.kind, x.value, x.who⟩ ⟨y.count, y.kind, y.value, x.who⟩ (by simp [hil]) 2 (by omega) (.int .i64 y.value) rfl, List.set_set,
    flat_set potcs_len (by omega) (l.set i _) i ⟨y.count, y.kind, y.value, x.who⟩ y (by simp [hil]) 3 (by omega) (.int .u64 y.who) rfl, List.set_set]
/-- an act at the core -/
theorem snk_do {w0 : World} {F : List Nat} {w : World} {a : Nat} {c : CoreV} {bp bw : Nat} {P : List PotV} {f : Nat → List RelV} {S : List Nat} {vs : List Value} (B : SnkB w0 F bp bw) (h : SnkS w0 F w a c bp bw P f S vs) (N : Nat) (x : ActV) (hx : ActBd7 x) (So : List Nat) (hop : RdR OpV.cs 2 w0 x.pipe.ops x.pipe.ol So) (hSo : ∀ y ∈ So, y ∉ bp :: bw :: F) (hq0 : 0 ≤ c.quota) (hq1 : c.quota ≤ 1000) (ok : CoreOk c N) (hN : N + 6 ≤ 100000) :
    Calls Tryz.prog 12 #[.pointer (some ⟨a, 0, none⟩), .slice (some ⟨w.heap.size, 0, none⟩) 1 1] (w.alloc (.cells x.cs.toArray 43)) fun e w' => (∃ v, e = .returned v) ∧ ∃ S', SnkS w0 F w' a (c.act x.m).1 bp bw P f S' vs ∧ Mod S w w' ∧ Into S' S w.heap.size := by
  have hal := acts_lit w [x] S h.c.lt (by simp) (by simp) (fun y hy => by
    obtain rfl : y = x := by simpa using hy
    refine ⟨hx, So, hop.same (fun z hz => h.m.block z (hop.lt z hz) (hSo z hz)), fun z hz hh => ?_⟩
    rcases h.i z hh with h5 | h5
    · exact hSo z hz (by simp [h5])
    · have := hop.lt z hz
      omega)
  simp only [List.flatMap_cons, List.flatMap_nil, List.append_nil, List.length_cons, List.length_nil, Nat.zero_add] at hal
  have e1 : (c.acts ([x].map ActV.m)).1 = (c.act x.m).1 := by simp [CoreV.acts]
  refine (dos_at a S c N _ [x] hq0 hq1 _ (h.c.below (bel_alloc (Below.refl _ _) _)) hal ok (by simpa using hN)).mono ?_
  rintro e w' ⟨⟨v, L, S', rfl, _, _, _, hc, hi, _, _⟩, hm⟩
  rw [e1] at hc
  have hi' : Into S' S w.heap.size := fun z hz => by
    rcases hi z hz with h4 | h4
    · exact .inl h4
    · simp at h4
      exact .inr (by omega)
  have hm' : Mod S w w' := ((Mod.refl S w).new _).trans hm (Into.refl _ _)
  exact ⟨⟨v, rfl⟩, S', h.step B hm' hc hi', hm', hi'⟩
theorem snk_rows {w0 : World} {F : List Nat} {w : World} {a : Nat} {c : CoreV} {bp bw : Nat} {P : List PotV} {f : Nat → List RelV} {S : List Nat} {vs : List Value} (B : SnkB w0 F bp bw) (h : SnkS w0 F w a c bp bw P f S vs) (N t : Nat) (ht : t ≤ 7) (hq0 : 0 ≤ c.quota) (hq1 : c.quota ≤ 1000) (ok : CoreOk c N) (hN : N ≤ 1000) (x : CellV) (hx : c.cells t = some x) :
    Calls Tryz.prog 19 #[.pointer (some ⟨a, 0, none⟩), .int .i64 t] w fun e w' => ∃ v S', e = .returned v ∧ w'.ownsRow w.heap.size 64 5 v x.rows.length (x.rows.flatMap RowV.cs) ∧ SnkS w0 F w' a c bp bw P f S' vs ∧ Mod S w w' ∧ Into S' S w.heap.size := by
  have hr : rowsV c t = x.rows := by simp [rowsV, hx]
  have hl := (ok.cell t x hx).rows
  refine (rowsall_any a S c N t ht hq0 hq1 w h.c ok (by omega) (by rw [hr]; omega)).mono ?_
  rintro e w' ⟨v, S', rfl, ho, hc, hi, hd, hm⟩
  rw [hr] at ho
  exact ⟨v, S', rfl, ho, h.step B hm hc hi, hm, hi⟩
theorem snk_told {w0 : World} {F : List Nat} {w : World} {a : Nat} {c : CoreV} {bp bw : Nat} {P : List PotV} {f : Nat → List RelV} {S : List Nat} {vs : List Value} (B : SnkB w0 F bp bw) (h : SnkS w0 F w a c bp bw P f S vs) (N t : Nat) (ht : t ≤ 7) (hq0 : 0 ≤ c.quota) (hq1 : c.quota ≤ 1000) (ok : CoreOk c N) (hN : N ≤ 600) :
    Calls Tryz.prog 13 #[.pointer (some ⟨a, 0, none⟩), .int .i64 t] w fun e w' => ∃ v S', e = .returned v ∧ w'.ownsRow w.heap.size 52 4 v (c.board t).length ((c.board t).flatMap RelV.cs) ∧ SnkS w0 F w' a c bp bw P f S' vs ∧ Mod S w w' := by
  have hl := ok.bd t
  refine (told_all a S c N t ht hq0 hq1 w h.c ok (by omega) (by omega)).mono ?_
  rintro e w' ⟨v, S', rfl, ho, hc, hi, hd, hm⟩
  exact ⟨v, S', rfl, ho, h.step B hm hc hi, hm⟩
theorem SnkI.wide {c : CoreV} {f : Nat → List RelV} {M M' : Nat} (h : SnkI c f M) (hM : M ≤ M') : SnkI c f M' := ⟨h.b, fun p hp => by have := h.cnt p hp; omega⟩
/-- the pots behind the first tenants' turns -/
def givM (c : CoreV) (m : Nat) : List PotV := (List.range m).foldl (giveT c) c.pots
theorem givM_succ (c : CoreV) (m : Nat) : givM c (m + 1) = giveT c (givM c m) m := by simp [givM, List.range_succ]
theorem givM_len (c : CoreV) : ∀ m, (givM c m).length = c.pots.length
  | 0 => rfl
  | m + 1 => by rw [givM_succ, giveT_len, givM_len c m]
theorem giveT_kind (c : CoreV) (P : List PotV) (t : Nat) (h : ∀ p ∈ P, 1 ≤ p.kind ∧ p.kind ≤ 4) : ∀ p ∈ giveT c P t, 1 ≤ p.kind ∧ p.kind ≤ 4 := by
  unfold giveT
  split
  · exact h
  · split
    · exact h
    · rename_i x _ _
      intro p hp
      by_cases hlt : x.run.pipe.sink.toNat < P.length
      · rcases List.mem_or_eq_of_mem_set hp with hp | rfl
        · exact h p hp
        · rw [give_kind]
          exact h _ (by rw [List.getD_eq_getElem?_getD, List.getElem?_eq_getElem hlt]; exact List.getElem_mem hlt)
      · rw [List.set_eq_of_length_le (by omega)] at hp
        exact h p hp
theorem givM_kind {c : CoreV} (h : ∀ p ∈ c.pots, 1 ≤ p.kind ∧ p.kind ≤ 4) : ∀ m, ∀ p ∈ givM c m, 1 ≤ p.kind ∧ p.kind ≤ 4
  | 0 => h
  | m + 1 => by rw [givM_succ]; exact giveT_kind c _ m (givM_kind h m)
theorem tick_ticks (c : CoreV) : c.tick.ticks = c.ticks + 1 ∧ c.tick.sinks = c.sinks := by
  rw [tick_mid]
  have h := tellM_same (midC c) c.sinks.length
  exact ⟨h.1, h.2.trans (midC_sinks c)⟩
/-- one sink's turn: nothing told, or one told and a new pot -/
theorem tell_no {c : CoreV} {i : Nat} {s : SinkV} (hs : c.sinks[i]? = some s) (h : epochOk s c.ticks = false) (f : Nat → List RelV) : (c.tell1 i).pots = c.pots ∧ tellF c i f = f := by
  have e : c.sinks.getD i default = s := by rw [List.getD_eq_getElem?_getD, hs]; rfl
  rw [tell1_pots, tellF, e, h]
  exact ⟨rfl, rfl⟩
theorem tell_yes {c : CoreV} {i : Nat} {s : SinkV} {p : PotV} (hs : c.sinks[i]? = some s) (hp : c.pots[i]? = some p) (h : epochOk s c.ticks = true) (f : Nat → List RelV) : (c.tell1 i).pots = c.pots.set i (PotV.new s) ∧ tellF c i f = fun k => if k = i then f i ++ [p.tell s i (epochI s c.ticks)] else f k := by
  have e : c.sinks.getD i default = s := by rw [List.getD_eq_getElem?_getD, hs]; rfl
  have e2 : c.pots.getD i default = p := by rw [List.getD_eq_getElem?_getD, hp]; rfl
  rw [tell1_pots, tellF, e, e2, h]
  exact ⟨rfl, rfl⟩
/-- what stands of the core behind so many acts -/
structure SnkJ (r : List SinkV) (Q : Int) (c : CoreV) (f : Nat → List RelV) (N M : Nat) : Prop where
  s : c.sinks = r
  q : c.quota = Q
  ok : CoreOk c N
  i : SnkI c f M
/-- a list's end, cut off -/
theorem slice59 (pa : Option Addr) (n pc f : Nat) (hf : f ≤ n) (w : World) : (Instr.slice 59 (.slice pa n pc) (some (.int .i64 (f : Int))) none none).run Tryz.prog w = .ok (sliced pa f n pc 5) w := by
  have he : Tryz.prog.elem 59 = 64 := by kernel_rfl
  rw [run_slice_l w 59 pa n pc (by rw [he]; exact Tryz.underlying59) .i64 (f : Int) (by omega) (by omega), he]
  have hs : (sizeOf 64).run Tryz.prog w = .ok 5 w := by
    simp [sizeOf, go_sem]
    kernel_rfl
  rw [hs]
  simp [Result.andThen]
theorem own_cut {w : World} {base : Nat} {pa : Option Addr} {pc : Nat} {l : List RowV} (h : w.ownsRow base 64 5 (.slice pa l.length pc) l.length (l.flatMap RowV.cs)) (f : Nat) (hf : f ≤ l.length) : ∃ T, RdR RowV.cs 5 w (sliced pa f l.length pc 5) (l.drop f) T ∧ ∀ x ∈ T, base ≤ x := by
  have hr := RdR.of_own (cs := RowV.cs) (k := 5) (fun _ => rfl) h
  rcases h.2 with ⟨h1, h2⟩ | ⟨g, cap, cur, h1, _, _, h2, h3, _⟩
  · simp only [Value.slice.injEq] at h1
    obtain ⟨rfl, _, rfl⟩ := h1
    obtain rfl : f = 0 := by omega
    obtain rfl : l = [] := List.eq_nil_of_length_eq_zero h2
    exact ⟨[], RdR.nil _ _ _, by simp⟩
  · simp only [Value.slice.injEq, true_and] at h1
    obtain ⟨rfl, rfl⟩ := h1
    by_cases e : pc = f
    · subst e
      have h4 : l.length = pc := by omega
      refine ⟨[], ?_, by simp⟩
      unfold sliced
      rw [if_pos rfl, h4, Nat.sub_self, List.drop_of_length_le (by omega)]
      exact RdR.none _ _ _ _
    · obtain ⟨T, h5, h6⟩ := hr.drop (m := f) hf
      refine ⟨T, ?_, fun x hx => own_new h x (h6 x hx)⟩
      unfold sliced
      rw [if_neg e]
      exact h5
theorem rdr_lone {α : Type} {cs : α → List Value} {k : Nat} {w : World} {b : Nat} {x : α} (h : At w b (cs x)) : RdR cs k w (.slice (some ⟨b, 0, none⟩) 1 1) [x] [b] :=
  ⟨some ⟨b, 0, none⟩, 1, rfl, by simp, by unfold maxLen; omega, .inr ⟨b, 0, rfl, rfl, h.lt, fun i y hi j u hj => by
    match i, hi with
    | 0, hi =>
      obtain rfl : x = y := by simpa using hi
      simpa using h.c j u hj⟩⟩
theorem tellM_plen (c : CoreV) : ∀ m, (tellM c m).pots.length = c.pots.length
  | 0 => rfl
  | m + 1 => by
    rw [tellM_succ, tell1_pots]
    split
    · rw [List.length_set, tellM_plen c m]
    · exact tellM_plen c m
theorem midC_plen {c : CoreV} (h : givM c 8 = (midC c).pots) : (midC c).pots.length = c.pots.length := by rw [← h, givM_len]
/-- what is told of one sink, of the first of a list -/
def ownR (X : List RelV) (n k : Nat) : List RelV := (X.take k).filter (fun r => decide (r.sink = (n : Int)))
theorem ownR_yes {X : List RelV} {n k : Nat} {r : RelV} (h : X[k]? = some r) (hr : r.sink = (n : Int)) : ownR X n (k + 1) = ownR X n k ++ [r] := by
  unfold ownR
  rw [List.take_add_one, h, List.filter_append]
  simp [hr]
theorem ownR_no {X : List RelV} {n k : Nat} {r : RelV} (h : X[k]? = some r) (hr : ¬ r.sink = (n : Int)) : ownR X n (k + 1) = ownR X n k := by
  unfold ownR
  rw [List.take_add_one, h, List.filter_append]
  simp [hr]
theorem ownR_all (X : List RelV) (n : Nat) : ownR X n X.length = X.filter (fun r => decide (r.sink = (n : Int))) := by
  unfold ownR
  rw [List.take_length]
theorem ownR_len (X : List RelV) (n k : Nat) : (ownR X n k).length ≤ X.length := by
  unfold ownR
  have h1 := List.length_filter_le (fun r : RelV => decide (r.sink = (n : Int))) (X.take k)
  have h2 := List.length_take_le' k X
  omega
end Go.Proofs.YtcanfmabkklidaaGreat
