/- Sinks: what tenants give. -/
import Derived.Test.YtcanfmabkklidaaGreatMb7
import Derived.Test.YtcanfmabkklidaaGreatMb10
set_option linter.unusedSimpArgs false
set_option linter.unusedVariables false
set_option linter.unnecessarySimpa false
namespace Go.Proofs.YtcanfmabkklidaaGreat
open Go.RowKit

theorem gives_any (r : RowV) (s : SinkV) (w : World) : Calls Tryz.prog 49 #[r.val, s.val] w fun e w' => e = .returned (.bool (belowI r.label s.frm)) ∧ Below w.heap.size w w' := by
  have HW := Lib.hid (fun (x y : Obj) => ((Below.refl _ w).alloc (Nat.le_refl _) x).alloc (by simp) y)
  obtain ⟨f, t, l, a, d⟩ := s
  obtain ⟨r1, r2, r3, r4, r5⟩ := r
  unfold SinkV.val RowV.val
  go_enter Tryz.func49, Tryz.ntmps49
  go_wp2_with (go_at_call 72; (with_reducible refine (below_any _ _ _).mono ?_); rintro e w1 ⟨rfl, rfl⟩)
  go_ret
  exact ⟨rfl, HW.out _ _⟩
theorem flat_at {α : Type} {cs : α → List Value} {k : Nat} (hk : ∀ x, (cs x).length = k) (h0 : 0 < k) : ∀ (l : List α) (n : Nat), (l.flatMap cs)[n]? = (l[n / k]?).bind fun x => (cs x)[n % k]?
  | [], n => by simp
  | a :: l, n => by
    rw [List.flatMap_cons]
    rcases Nat.lt_or_ge n k with h | h
    · rw [List.getElem?_append_left (by rw [hk]; exact h), Nat.div_eq_of_lt h, Nat.mod_eq_of_lt h]
      rfl
    · rw [List.getElem?_append_right (by rw [hk]; exact h), hk, flat_at hk h0 l (n - k), Nat.div_eq_sub_div h0 h, Nat.mod_eq_sub_mod h]
      rfl
theorem flat_set {α : Type} {cs : α → List Value} {k : Nat} (hk : ∀ x, (cs x).length = k) (h0 : 0 < k) (l : List α) (i : Nat) (x y : α) (hi : l[i]? = some x) (j : Nat) (hj : j < k) (v : Value) (hy : cs y = (cs x).set j v) :
    (l.flatMap cs).set (i * k + j) v = (l.set i y).flatMap cs := by
  have hil := (List.getElem?_eq_some_iff.1 hi).1
  apply List.ext_getElem?
  intro n
  rw [List.getElem?_set, flat_at hk h0, flat_at hk h0, flat_len hk, List.getElem?_set]
  have hd := Nat.div_add_mod n k
  have hm := Nat.mod_lt n h0
  have e1 : i * k + j = k * i + j := by rw [Nat.mul_comm]
  by_cases e : i * k + j = n
  · have e2 : n / k = i := by rw [← e, e1, Nat.mul_add_div h0, Nat.div_eq_of_lt hj, Nat.add_zero]
    have e3 : n % k = j := by rw [← e, e1, Nat.mul_add_mod, Nat.mod_eq_of_lt hj]
    have hlt : i * k + j < l.length * k := by
      have : (i + 1) * k ≤ l.length * k := Nat.mul_le_mul_right k hil
      rw [Nat.succ_mul] at this
      omega
    rw [if_pos e, e2, e3, if_pos rfl, if_pos hil, if_pos hlt]
    simp [hy, List.getElem?_set, hk, hj]
  · rw [if_neg e]
    by_cases e2 : i = n / k
    · rw [if_pos e2, if_pos hil, ← e2, hi]
      have e3 : n % k ≠ j := by
        intro e3
        apply e
        rw [e1, e2, ← e3]
        exact hd
      simp [hy, List.getElem?_set, Ne.symm e3]
    · rw [if_neg e2]
theorem potcs_len (x : PotV) : x.cs.length = 4 := rfl
theorem setA_pots (l : List PotV) (i : Nat) (p : PotV) (hi : l[i]? = some p) (c v : Int) : setA (l.flatMap PotV.cs) (i * 4) c v = (l.set i ⟨c, p.kind, v, p.who⟩).flatMap PotV.cs := by
  unfold setA
  have hil := (List.getElem?_eq_some_iff.1 hi).1
  rw [flat_set potcs_len (by omega) l i p ⟨p.count, p.kind, v, p.who⟩ hi 2 (by omega) (.int .i64 v) rfl]
  have := flat_set potcs_len (by omega) (l.set i ⟨p.count, p.kind, v, p.who⟩) i ⟨p.count, p.kind, v, p.who⟩ ⟨c, p.kind, v, p.who⟩ (by simp [hil]) 0 (by omega) (.int .i64 c) rfl
  rw [Nat.add_zero] at this
  rw [this, List.set_set]
theorem setW_pots (l : List PotV) (i : Nat) (p : PotV) (hi : l[i]? = some p) (u : Int) : (l.flatMap PotV.cs).set (i * 4 + 3) (.int .u64 u) = (l.set i { p with who := u }).flatMap PotV.cs :=
  flat_set potcs_len (by omega) l i p { p with who := u } hi 3 (by omega) (.int .u64 u) rfl
theorem pots_at (l : List PotV) (i : Nat) (p : PotV) (hi : l[i]? = some p) (j : Nat) (u : Value) (hj : p.cs[j]? = some u) : (l.flatMap PotV.cs)[i * 4 + j]? = some u := flat_get potcs_len hi hj
/-- one value added to one of several -/
theorem addp_any (b i : Nat) (l : List PotV) (p : PotV) (x : Int) (w : World) (h : At w b (l.flatMap PotV.cs)) (hi : l[i]? = some p) (hk1 : 1 ≤ p.kind) (hk2 : p.kind ≤ 4)
    (g q : Nat) (hg : w.cell? ⟨g, q, none⟩ = some (.int .i64 x)) (cap : Nat) (hcap : 1 ≤ cap) :
    Calls Tryz.prog 50 #[.pointer (some ⟨b, i * 4, none⟩), .slice (some ⟨g, q, none⟩) 1 cap] w fun e w' => (∃ u, e = .returned u) ∧ At w' b ((l.set i (p.add x)).flatMap PotV.cs) ∧ Mod [b] w w' := by
  refine (add_any b (i * 4) _ p.count p.kind p.value x w h (pots_at l i p hi 0 _ rfl) (pots_at l i p hi 1 _ rfl) (pots_at l i p hi 2 _ rfl) hk1 hk2 g q hg cap hcap).mono ?_
  rintro e w' ⟨he, ha, hm⟩
  rw [setA_pots l i p hi] at ha
  exact ⟨he, ha, hm⟩
/-- one value added to one alone -/
theorem add1_any (b : Nat) (p : PotV) (x : Int) (w : World) (h : At w b p.cs) (hk1 : 1 ≤ p.kind) (hk2 : p.kind ≤ 4) (g q : Nat) (hg : w.cell? ⟨g, q, none⟩ = some (.int .i64 x)) (cap : Nat) (hcap : 1 ≤ cap) :
    Calls Tryz.prog 50 #[.pointer (some ⟨b, 0, none⟩), .slice (some ⟨g, q, none⟩) 1 cap] w fun e w' => (∃ u, e = .returned u) ∧ At w' b (p.add x).cs ∧ Mod [b] w w' := by
  have h1 := addp_any b 0 [p] p x w (by simpa using h) rfl hk1 hk2 g q hg cap hcap
  rw [Nat.zero_mul] at h1
  refine h1.mono fun e w' hp => ?_
  obtain ⟨he, ha, hm⟩ := hp
  exact ⟨he, by simpa using ha, hm⟩
theorem sinkcs_len (x : SinkV) : x.cs.length = 5 := rfl
theorem give_snoc (p : PotV) (s : SinkV) (t : Nat) (l : List RowV) (k : Nat) (r : RowV) (h : l[k]? = some r) : p.give s t (l.take (k + 1)) = PotV.give1 s t (p.give s t (l.take k)) r := by
  have hlt := (List.getElem?_eq_some_iff.1 h).1
  have e : l[k] = r := (List.getElem?_eq_some_iff.1 h).2
  unfold PotV.give
  rw [List.take_succ_eq_append_getElem hlt, List.foldl_append, e]
  rfl
theorem give_kind (s : SinkV) (t : Nat) : ∀ (l : List RowV) (p : PotV), (p.give s t l).kind = p.kind
  | [], p => rfl
  | r :: l, p => by
    have h := give_kind s t l (PotV.give1 s t p r)
    unfold PotV.give at h ⊢
    rw [List.foldl_cons, h]
    unfold PotV.give1
    split <;> rfl
set_option maxRecDepth 100000 in
set_option maxHeartbeats 4000000 in
theorem give_any (b i : Nat) (pl : List PotV) (p : PotV) (hi : pl[i]? = some p) (s : SinkV) (t : Nat) (ht : t ≤ 7) (v : Value) (l : List RowV) (T : List Nat) (w : World) (h : At w b (pl.flatMap PotV.cs)) (hk1 : 1 ≤ p.kind) (hk2 : p.kind ≤ 4)
    (hr : RdR RowV.cs 5 w v l T) (hb : b ∉ T) :
    Calls Tryz.prog 31 #[.pointer (some ⟨b, i * 4, none⟩), s.val, .int .i64 t, v] w fun e w' => (∃ u, e = .returned u) ∧ At w' b ((pl.set i (p.give s t l)).flatMap PotV.cs) ∧ Mod [b] w w' := by
  obtain ⟨f, tt, ls, a, d⟩ := s
  obtain ⟨ar, cr, rfl, hr1, hr2, hr3⟩ := hr
  unfold maxLen at hr2
  have HR := Lib.hid hr3
  have HI := Lib.hid hi
  have HA := Lib.hid h
  have HK := Lib.hid (And.intro hk1 hk2)
  have HB := Lib.hid hb
  have hbl := h.lt
  have hil := (List.getElem?_eq_some_iff.1 hi).1
  unfold SinkV.val
  clear h hi hk1 hk2 hr3 hb
  go_enter Tryz.func31, Tryz.ntmps31
  go_wp2
  go_loopg [9, 14] l.length (fun g v9 v14 wr => ∃ (k : Nat) (n : Int) (q : PotV), k ≤ l.length ∧ g = l.length - k ∧ v9 = .int .i64 n ∧ v14 = .int .i64 k ∧ q = p.give ⟨f, tt, ls, a, d⟩ t (l.take k) ∧ At wr b ((pl.set i q).flatMap PotV.cs) ∧ At wr w.heap.size [.int .u64 f, .int .u64 tt, .int .i64 ls, .int .i64 a, .int .i64 d] ∧ Mod [b] w wr)
  case atStart =>
    refine ⟨0, 0, p, by omega, by omega, rfl, rfl, rfl, ?_, At.new _ _ _, Mod.alloc _ _ _⟩
    have e : pl.set i p = pl := by
      apply List.ext_getElem?
      intro j
      rw [List.getElem?_set]
      split
      · rename_i e; subst e; exact HI.out.symm
      · rfl
    rw [e]
    exact HA.out.alloc _
  case round =>
    obtain ⟨k, n, q, hk, rfl, rfl, rfl, hq, ha, hs, hm⟩ := hrel
    by_cases hlt : k < l.length
    · obtain ⟨r, hr⟩ : ∃ r, l[k]? = some r := ⟨l[k], by simp [hlt]⟩
      rcases HR.out with ⟨h0, _, _⟩ | ⟨rb, ro, hT, har, hrb, hrc⟩
      · simp [h0] at hlt
      subst har
      have hrT : rb ∈ T := by rw [hT]; simp
      have hrne : rb ≠ b := fun e => HB.out (e ▸ hrT)
      have HRC := Lib.hid (fun j u (hj : r.cs[j]? = some u) => (hm.cell (o := ro + k * 5 + j) hrb (by simpa using hrne)).trans (hrc k r hr j u hj))
      have HR2 := Lib.hid hr
      have HQ := Lib.hid hq
      have HAr := Lib.hid ha
      have HSr := Lib.hid hs
      have HMr := Lib.hid hm
      have hsz := hm.size
      have s0 := hs.c 0 _ rfl
      have s1 := hs.c 1 _ rfl
      have s2 := hs.c 2 _ rfl
      have s3 := hs.c 3 _ rfl
      have s4 := hs.c 4 _ rfl
      obtain ⟨r1, r2, r3, r4, r5⟩ := r
      have c0 := HRC.out 0 _ rfl
      have c1 := HRC.out 1 _ rfl
      have c2 := HRC.out 2 _ rfl
      have c3 := HRC.out 3 _ rfl
      have c4 := HRC.out 4 _ rfl
      simp only [Nat.add_zero] at c0
      have hsl := hs.lt
      clear hrc hr hq ha hs hm HRC hT hrT
      have hne1 : ¬ wr.heap.size = w.heap.size := by omega
      by_cases hh : hasI f t = true
      · by_cases hbw : belowI r5 f = true
        · have hbw' := hbw
          have HN := Lib.hid (show PotV.give1 ⟨f, tt, ls, a, d⟩ t q ⟨r1, r2, r3, r4, r5⟩ = { q.add r3 with who := orI q.who (ofI t) } by simp [PotV.give1, hbw', hh])
          have HH := Lib.hid hh
          have HBW := Lib.hid hbw'
          have hq0 : (pl.set i q)[i]? = some q := by simp [hil]
          have HQ0 := Lib.hid hq0
          have hkind : q.kind = p.kind := by rw [HQ.out]; exact give_kind _ _ _ _
          have HKI := Lib.hid hkind
          clear hh hbw hbw' hq0 hkind
          go_wp2_with (first
            | (go_at_call 14; (with_reducible refine (has_any f t ht _).mono ?_); rintro e w1 ⟨rfl, rfl⟩; rw [show (bits BinOp.and IntKind.u64 f ((2 ^ t : Nat) : Int) != 0) = true from HH.out])
            | (go_at_call 49; (with_reducible refine (gives_any ⟨r1, r2, r3, r4, r5⟩ ⟨f, tt, ls, a, d⟩ _).mono ?_); rintro e w1 ⟨rfl, hb⟩; rw [show belowI r5 f = true from HBW.out]; have HB1 := Lib.hid hb; clear hb))
          have k2 := (HB1.out.cell (p := ⟨wr.heap.size, 2, none⟩) (by simp)).trans (cell_new wr #[.int .i64 r1, .int .i64 r2, .int .i64 r3, .int .i64 r4, .int .u64 r5] 64 _ 2 _ rfl rfl)
          refine wp_region_pt 6 (Cl [(wr.heap.size, 2, .int .i64 r3)]) (.take 0 <| .take 1 <| .take 2 <| .take 3 <| .take 4 <| .doo 5 <| .done) ?plA (by kernel_rfl) (by kernel_rfl) ?plB (by intro c a d v w; cases d <;> exact fun h => h) ?plC ?_
          case plB =>
            simp only [Pt.with, List.getElem?_toArray, List.getElem?_cons_zero, List.getElem?_cons_succ]
            try rfl
          case plC => exact Cl.cons k2 (Cl.nil _)
          have q0 : ∀ x, Cl [(wr.heap.size, 2, .int .i64 r3)] x → x.cell? ⟨wr.heap.size, 2, none⟩ = some (.int .i64 r3) := fun x h => h.at _ _ _ (by simp)
          iterate 5 (refine wpPt_take (v := ?_) (by rfl) (fun w' hS => ?_) ?_; rotate_left; (focus (go_simp; with_reducible rfl)); simp only [Act.put, List.setIfInBounds_toArray, List.set_cons_zero, List.set_cons_succ])
          refine wpPt_do (by rfl) (fun K hK => ?_)
          go_wp2_with fail
          refine ⟨Cl.alloc (Cl.cons k2 (Cl.nil _)) _, ?_⟩
          refine wpPt_done ?_
          have HA1 := Lib.hid ((HAr.out.alloc (.cells #[.int .i64 r1, .int .i64 r2, .int .i64 r3, .int .i64 r4, .int .u64 r5] 64)).below HB1.out)
          have HS1 := Lib.hid ((HSr.out.alloc (.cells #[.int .i64 r1, .int .i64 r2, .int .i64 r3, .int .i64 r4, .int .u64 r5] 64)).below HB1.out)
          have HM1 := Lib.hid ((HMr.out.new (.cells #[.int .i64 r1, .int .i64 r2, .int .i64 r3, .int .i64 r4, .int .u64 r5] 64)).bel HB1.out)
          have hk1 : 1 ≤ q.kind := by have := HKI.out; have := HK.out.1; omega
          have hk2 : q.kind ≤ 4 := by have := HKI.out; have := HK.out.2; omega
          go_wp2_with (go_at_call 50; (refine (addp_any b i _ q r3 _ (HA1.out.drew.alloc _) HQ0.out hk1 hk2 _ _ (cell_new _ _ _ _ 0 _ rfl rfl) 1 (by omega)).mono ?_); rintro e w2 ⟨⟨u, rfl⟩, ha2, hm2⟩; have HA2 := Lib.hid ha2; have HM2 := Lib.hid hm2; clear ha2 hm2)
          have k3 : w2.cell? ⟨b, i * 4 + 3, none⟩ = some (.int .u64 q.who) := by
            refine HA2.out.c _ _ ?_
            rw [List.set_set]
            exact pots_at _ i (q.add r3) (by simp [hil]) 3 _ rfl
          refine wp_region_pt 10 (Cl [(b, i * 4 + 3, .int .u64 q.who)]) (.take 0 <| .take 1 <| .take 2 <| .take 3 <| .take 4 <| .take 5 <| .doo 6 <| .doo 7 <| .doo 8 <| .doo 9 <| .done) ?plD (by kernel_rfl) (by kernel_rfl) ?plE (by intro c a d v w; cases d <;> exact fun h => h) ?plF ?_
          case plE =>
            simp only [Pt.with, List.getElem?_toArray, List.getElem?_cons_zero, List.getElem?_cons_succ]
            try rfl
          case plF => exact Cl.cons k3 (Cl.nil _)
          have q0 : ∀ x, Cl [(b, i * 4 + 3, .int .u64 q.who)] x → x.cell? ⟨b, i * 4 + 3, none⟩ = some (.int .u64 q.who) := fun x h => h.at _ _ _ (by simp)
          iterate 6 (refine wpPt_take (v := ?_) (by rfl) (fun w' hS => ?_) ?_; rotate_left; (focus (go_simp; with_reducible rfl)); simp only [Act.put, List.setIfInBounds_toArray, List.set_cons_zero, List.set_cons_succ])
          refine wpPt_do (by rfl) (fun K hK => ?_)
          go_wp2_with fail
          refine ⟨Cl.alloc (Cl.cons k3 (Cl.nil _)) _, ?_⟩
          refine wpPt_do (by rfl) (fun K hK => ?_)
          go_wp2_with (go_at_call 52; (refine (of_any t ht _ _ _ ?_).mono ?_); (focus go_simp); rintro e w3 ⟨rfl, rfl⟩)
          refine ⟨Cl.drew (Cl.alloc (Cl.cons k3 (Cl.nil _)) _), ?_⟩
          refine wpPt_do (by rfl) (fun K hK => ?_)
          go_wp2_with fail
          refine ⟨Cl.alloc (Cl.alloc (Cl.cons k3 (Cl.nil _)) _) _, ?_⟩
          refine wpPt_do (by rfl) (fun K hK => ?_)
          go_wp2_with (go_at_call 51; (refine (join_any q.who (ofI t) _ _ _ ?_ ?_).mono ?_); (focus go_simp); (focus go_simp); rintro e w3 ⟨rfl, rfl⟩)
          refine ⟨Cl.drew (Cl.alloc (Cl.alloc (Cl.cons k3 (Cl.nil _)) _) _), ?_⟩
          refine wpPt_done ?_
          have f3 := HA2.out.f (i * 4 + 3)
          have hb2 := HA2.out.lt
          go_wp2_with fail
          go_roundg (l.length - (k + 1))
          case measure => omega
          case rel =>
            have hmm : Mod [b] w w2 := (HM1.out.draw.new _).trans HM2.out (.refl _ _)
            have hsz2 : w.heap.size < w2.heap.size := by
              have := HM2.out.size
              have := HB1.out.size
              have := HMr.out.size
              simp at *
              omega
            have e : (((pl.set i q).set i (q.add r3)).flatMap PotV.cs).set (i * 4 + 3) (.int .u64 (orI q.who (ofI t))) = (pl.set i { q.add r3 with who := orI q.who (ofI t) }).flatMap PotV.cs := by
              rw [List.set_set, setW_pots _ i (q.add r3) (by simp [hil]), List.set_set]
            refine ⟨k + 1, wrap64 (n + 1), { q.add r3 with who := orI q.who (ofI t) }, by omega, rfl, rfl, by go_num, ?_, ?_, ?_, ?_⟩
            · rw [give_snoc _ _ _ _ _ _ HR2.out, ← HQ.out, HN.out]
            · rw [← e]
              exact (((HA2.out.set (i * 4 + 3) _ (by rw [flat_len potcs_len]; simp; omega)).alloc _).alloc _).drew
            · exact (((((HS1.out.drew.alloc _).mod HM2.out (by simp; omega)).other ⟨b, i * 4 + 3, none⟩ _ (by simp; omega)).alloc _).alloc _).drew
            · exact ((hmm.set b (i * 4 + 3) _ (.inl (by simp))).new _).new _ |>.draw
        · have hbw' : belowI r5 f = false := by simpa using hbw
          have HN := Lib.hid (show PotV.give1 ⟨f, tt, ls, a, d⟩ t q ⟨r1, r2, r3, r4, r5⟩ = q by simp [PotV.give1, hbw'])
          have HH := Lib.hid hh
          have HBW := Lib.hid hbw'
          clear hh hbw hbw'
          go_wp2_with (first
            | (go_at_call 14; (with_reducible refine (has_any f t ht _).mono ?_); rintro e w1 ⟨rfl, rfl⟩; rw [show (bits BinOp.and IntKind.u64 f ((2 ^ t : Nat) : Int) != 0) = true from HH.out])
            | (go_at_call 49; (with_reducible refine (gives_any ⟨r1, r2, r3, r4, r5⟩ ⟨f, tt, ls, a, d⟩ _).mono ?_); rintro e w1 ⟨rfl, hb⟩; rw [show belowI r5 f = false from HBW.out]; have HB1 := Lib.hid hb; clear hb))
          go_roundg (l.length - (k + 1))
          case measure => omega
          case rel =>
            have hw : Mod [b] w w1 := (HMr.out.new _).bel HB1.out
            refine ⟨k + 1, n, q, by omega, rfl, rfl, by go_num, ?_, ?_, ?_, hw⟩
            · rw [give_snoc _ _ _ _ _ _ HR2.out, ← HQ.out, HN.out]
            · exact (HAr.out.alloc _).below HB1.out
            · exact (HSr.out.alloc _).below HB1.out
      · have hh' : hasI f t = false := by simpa using hh
        have HN := Lib.hid (show PotV.give1 ⟨f, tt, ls, a, d⟩ t q ⟨r1, r2, r3, r4, r5⟩ = q by simp [PotV.give1, hh'])
        have HH := Lib.hid hh'
        clear hh hh'
        go_wp2_with (go_at_call 14; (with_reducible refine (has_any f t ht _).mono ?_); rintro e w1 ⟨rfl, rfl⟩; rw [show (bits BinOp.and IntKind.u64 f ((2 ^ t : Nat) : Int) != 0) = false from HH.out])
        go_roundg (l.length - (k + 1))
        case measure => omega
        case rel =>
          refine ⟨k + 1, n, q, by omega, rfl, rfl, by go_num, ?_, ?_, ?_, HMr.out.new _⟩
          · rw [give_snoc _ _ _ _ _ _ HR2.out, ← HQ.out, HN.out]
          · exact HAr.out.alloc _
          · exact HSr.out.alloc _
    · have HX := Lib.hid (And.intro hq (And.intro ha hm))
      clear hq ha hm hs
      go_wp2
      go_ret
      obtain ⟨hq, ha, hm⟩ := HX.out
      rw [List.take_of_length_le (by omega)] at hq
      exact ⟨⟨_, rfl⟩, hq ▸ ha, hm⟩
end Go.Proofs.YtcanfmabkklidaaGreat
