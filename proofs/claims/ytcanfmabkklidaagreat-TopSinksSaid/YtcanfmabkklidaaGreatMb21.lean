/- A runner takes inputs. -/
import Derived.Test.YtcanfmabkklidaaGreatMb19
import Derived.Test.YtcanfmabkklidaaGreatMb20
set_option linter.unusedSimpArgs false
set_option linter.unusedVariables false
set_option linter.unnecessarySimpa false
namespace Go.Proofs.YtcanfmabkklidaaGreat
open Go.RowKit

theorem mark_of (c : ClkV) (w : World) : Calls Tryz.prog 67 #[.agg #[.int .i64 c.mark, .int .i64 c.late, .int .i64 c.seen]] w fun e w' => e = .returned (.int .i64 c.mark) ∧ Below w.heap.size w w' := by
  obtain ⟨m, l, s⟩ := c
  have HW := Lib.hid (fun (x : Obj) => ((Below.refl _ w).alloc (Nat.le_refl _) x : Below w.heap.size w (w.alloc x)))
  go_enter Tryz.func67, Tryz.ntmps67
  go_wp2
  go_ret
  exact ⟨rfl, HW.out _⟩
theorem advance_same {c : ClkV} {t : Int} (h : (c.advance t).2 = false) : (c.advance t).1 = c := by
  unfold ClkV.advance at h ⊢
  split at h
  · rename_i h1
    rw [if_pos h1]
  · cases h
theorem advance_mark {c : ClkV} {t : Int} (h : (c.advance t).2 = true) : (c.advance t).1.mark = t := by
  unfold ClkV.advance at h ⊢
  split at h
  · cases h
  · rename_i h1
    rw [if_neg h1]
/-- between the operations of a round -/
structure TakW (b bp bm base : Nat) (vo : Value) (So Si : List Nat) (r : RunV) (vi : Value) (l : List InpV) (v : Value) (out : List RowV) (w W : World) : Prop where
  r : RunIn W b bp bm vo So r
  i : RdR InpV.cs 5 W vi l Si
  o : W.ownsRow base 64 5 v out.length (out.flatMap RowV.cs)
  e : Mod (b :: bp :: bm :: So) w W
theorem TakW.below {b bp bm base : Nat} {vo : Value} {So Si : List Nat} {r : RunV} {vi : Value} {l : List InpV} {v : Value} {out : List RowV} {w W W' : World} (h : TakW b bp bm base vo So Si r vi l v out w W) (hb : Below W.heap.size W W') : TakW b bp bm base vo So Si r vi l v out w W' :=
  ⟨h.r.below hb, h.i.same (fun x hx => hb.block x (h.i.lt x hx)), own_mod h.o (Mod.of_below hb []) (by simp), h.e.bel hb⟩
theorem TakW.drew {b bp bm base : Nat} {vo : Value} {So Si : List Nat} {r : RunV} {vi : Value} {l : List InpV} {v : Value} {out : List RowV} {w W : World} (h : TakW b bp bm base vo So Si r vi l v out w W) : TakW b bp bm base vo So Si r vi l v out w W.drew := h.below (bel_draw (Below.refl _ _))
theorem TakW.alloc {b bp bm base : Nat} {vo : Value} {So Si : List Nat} {r : RunV} {vi : Value} {l : List InpV} {v : Value} {out : List RowV} {w W : World} (h : TakW b bp bm base vo So Si r vi l v out w W) (o : Obj) : TakW b bp bm base vo So Si r vi l v out w (W.alloc o) := h.below (bel_alloc (Below.refl _ _) o)
/-- the runner turned -/
theorem TakW.turn {b bp bm base : Nat} {vo : Value} {So Si : List Nat} {r r' : RunV} {vi : Value} {l : List InpV} {v : Value} {out : List RowV} {w W W' : World} {T : List Nat} (h : TakW b bp bm base vo So Si r vi l v out w W) (hr : RunIn W' b bp bm vo So r') (hm : Mod T W W')
    (hT : ∀ x ∈ T, x ∈ b :: bp :: bm :: So) (hd : ∀ x ∈ b :: bp :: bm :: So, x ∉ Si ∧ x < base) : TakW b bp bm base vo So Si r' vi l v out w W' :=
  ⟨hr, h.i.same (fun x hx => hm.block x (h.i.lt x hx) fun h1 => (hd x (hT x h1)).1 hx), own_mod h.o hm (fun x hx h1 => by have := (hd x (hT x h1)).2; have := own_new h.o x hx; omega), h.e.trans hm (Into.sub hT _)⟩
set_option maxRecDepth 100000 in
set_option maxHeartbeats 8000000 in
theorem take_in (b bp bm : Nat) (vo : Value) (So : List Nat) (r : RunV) (vi : Value) (l : List InpV) (Si : List Nat) (w : World) (h : RunIn w b bp bm vo So r) (ok : RunOk r) (hi : RdR InpV.cs 5 w vi l Si) (hd : ∀ x ∈ b :: bp :: bm :: So, x ∉ Si) (hl : r.opn.length + 4 * l.length ≤ 1000000) :
    Calls Tryz.prog 44 #[.pointer (some ⟨b, 0, none⟩), vi] w fun x w' => ∃ v, x = .returned v ∧ w'.ownsRow w.heap.size 64 5 v (r.take l).2.length ((r.take l).2.flatMap RowV.cs) ∧ RunIn w' b bp bm vo So (r.take l).1 ∧ Mod (b :: bp :: bm :: So) w w' := by
  have hb := h.a.lt
  obtain ⟨ia, ic, hvi⟩ : ∃ ia ic, vi = .slice ia l.length ic := by obtain ⟨a, c, h, _⟩ := hi; exact ⟨a, c, h⟩
  subst hvi
  have HD := Lib.hid (show ∀ x ∈ b :: bp :: bm :: So, x ∉ Si ∧ x < w.heap.size from fun x hx => ⟨hd x hx, h.lt x hx⟩)
  have HOK := Lib.hid ok
  have HSI := Lib.hid hi.lt
  have F0 : TakW b bp bm w.heap.size vo So Si r (.slice ia l.length ic) l (.slice none 0 0) [] w w := ⟨h, hi, ⟨rfl, .inl ⟨rfl, rfl⟩⟩, Mod.refl _ _⟩
  have HF0 := Lib.hid F0
  obtain ⟨i0, hi3, hz0, hz1, hz2⟩ := info_parts info64
  have HI := Lib.hid (And.intro hi3 (And.intro hz0 (And.intro hz1 hz2)))
  clear h ok hi hd F0 hi3 hz0 hz1 hz2
  go_enter Tryz.func44, Tryz.ntmps44
  go_wp2
  go_loopg [5, 10] l.length (fun n v5 v10 wr => ∃ (k : Nat), k ≤ l.length ∧ n = l.length - k ∧ v10 = .int .i64 k ∧ TakW b bp bm w.heap.size vo So Si (r.take (l.take k)).1 (.slice ia l.length ic) l v5 (r.take (l.take k)).2 w wr)
  case atStart => exact ⟨0, by omega, by omega, rfl, by simpa [RunV.take] using HF0.out⟩
  case round =>
    obtain ⟨k, hk, rfl, rfl, hF⟩ := hrel
    obtain ⟨oa, oc, rfl⟩ := own_shape2 hF.o
    have HF := Lib.hid hF
    by_cases hlt : k < l.length
    · obtain ⟨⟨i1, i2, i3, i4, i5⟩, hs⟩ : ∃ s, l[k]? = some s := ⟨l[k], by simp [hlt]⟩
      have HSk := Lib.hid hs
      have hok2 := HOK.out.take (l.take k)
      have hstep : r.take (l.take (k + 1)) = (((r.take (l.take k)).1.take1 ⟨i1, i2, i3, i4, i5⟩).1, (r.take (l.take k)).2 ++ ((r.take (l.take k)).1.take1 ⟨i1, i2, i3, i4, i5⟩).2) := by
        rw [List.take_succ_eq_append_getElem hlt, (List.getElem?_eq_some_iff.1 hs).2, RunV.take_snoc]
      obtain ⟨rk, hrk⟩ : ∃ rk, rk = (r.take (l.take k)).1 := ⟨_, rfl⟩
      obtain ⟨out, hout⟩ : ∃ out, out = (r.take (l.take k)).2 := ⟨_, rfl⟩
      rw [← hrk, ← hout] at HF hok2 hstep
      rw [← hout]
      have HST := Lib.hid hstep
      have HO2 := Lib.hid hok2
      have hlk : out.length + rk.opn.length ≤ r.opn.length + 4 * k := by have := hok2.2.1; simp at this; omega
      rcases HF.out.i with ⟨ia', ic', hv, _, _, ⟨h0, _⟩ | ⟨bi, oi, hSi, hia, hbi, hci⟩⟩
      · simp [h0] at hlt
      simp only [Value.slice.injEq] at hv
      obtain ⟨rfl, _, rfl⟩ := hv
      subst hia
      have c0 := hci k _ hs 0 _ rfl
      have c1 := hci k _ hs 1 _ rfl
      have c2 := hci k _ hs 2 _ rfl
      have c3 := hci k _ hs 3 _ rfl
      have c4 := hci k _ hs 4 _ rfl
      simp only [Nat.add_zero] at c0
      have B0 := Lib.hid (At.new wr #[.bool i1, .int .i64 i2, .int .i64 i3, .int .i64 i4, .int .u64 i5] 41)
      have HF1 := Lib.hid (HF.out.alloc (.cells #[.bool i1, .int .i64 i2, .int .i64 i3, .int .i64 i4, .int .u64 i5] 41))
      clear hs hok2 hstep hci hF hrk hout hSi
      cases i1 with
      | false =>
        have HC := Lib.hid (event_in b bp bm vo So rk ⟨i2, i3, i4, i5⟩ (wr.alloc (.cells #[.bool false, .int .i64 i2, .int .i64 i3, .int .i64 i4, .int .u64 i5] 41)) HF1.out.r HO2.out.1.pip HO2.out.1.kind)
        go_wp2_with (go_at_call 64; (with_reducible refine HC.out.mono ?_); rintro x w2 ⟨⟨u, rfl⟩, hr2, hm2⟩; have HR2 := Lib.hid hr2; have HM2 := Lib.hid hm2; clear hr2 hm2)
        go_roundg (l.length - (k + 1))
        case measure => omega
        case rel =>
          refine ⟨k + 1, by omega, rfl, by go_num, ?_⟩
          have e := HST.out
          simp only [RunV.take1, InpV.ev, Bool.false_eq_true, if_false, List.append_nil] at e
          rw [e]
          exact HF1.out.turn HR2.out HM2.out (fun x hx => hx) HD.out
      | true =>
        go_wp2
        refine wp_region_tl 6 (fun W => TakW b bp bm w.heap.size vo So Si rk (.slice (some ⟨bi, oi, none⟩) l.length ic) l (.slice oa out.length oc) out w W ∧ At W wr.heap.size [.bool true, .int .i64 i2, .int .i64 i3, .int .i64 i4, .int .u64 i5]) ⟨HF1.out.drew, B0.out.drew⟩ (by kernel_rfl) (by kernel_rfl) ?_
        intro W4 F4
        have HF4 := Lib.hid F4
        have z0 := F4.2.c 1 _ rfl
        have l3 := F4.2.lt
        have l4 := F4.1.r.a.lt
        clear F4
        simp only [List.take_succ_cons, List.take_zero, List.drop_succ_cons, List.drop_zero]
        repeat still_step
        refine wpStill_nil ?_
        clear z0 c0 c1 c2 c3 c4
        obtain ⟨cc, hcc⟩ : ∃ cc, cc = (rk.clk.advance i2).1 := ⟨_, rfl⟩
        obtain ⟨ok1, hok1⟩ : ∃ ok1, ok1 = (rk.clk.advance i2).2 := ⟨_, rfl⟩
        have HC := Lib.hid (And.intro hcc hok1)
        have HO := Lib.hid (advance_any b rk.clk _ i2 W4 HF4.out.1.r.a)
        rw [← hcc, ← hok1] at HO
        clear hcc hok1
        cases ok1 with
        | false =>
          go_wp2_with (go_at_call 65; (with_reducible refine HO.out.mono ?_); rintro x w1 ⟨rfl, ha1, hm1⟩; have HA1 := Lib.hid ha1; have HM1 := Lib.hid hm1; clear ha1 hm1)
          go_roundg (l.length - (k + 1))
          case measure => omega
          case rel =>
            refine ⟨k + 1, by omega, rfl, by go_num, ?_⟩
            have e := HST.out
            have e2 : cc = rk.clk := HC.out.1.trans (advance_same HC.out.2.symm)
            have e3 := HC.out.2
            simp only [RunV.take1, if_true, ← e3, Bool.false_eq_true, if_false, List.append_nil] at e
            rw [e]
            have HA2 := HF4.out.1.r.clk HA1.out HM1.out
            rw [e2] at HA2
            exact HF4.out.1.turn HA2 HM1.out (by simp) HD.out
        | true =>
          go_wp2_with (go_at_call 65; (with_reducible refine HO.out.mono ?_); rintro x w1 ⟨rfl, ha1, hm1⟩; have HA1 := Lib.hid ha1; have HM1 := Lib.hid hm1; clear ha1 hm1)
          have HF5 := Lib.hid (HF4.out.1.turn (HF4.out.1.r.clk HA1.out HM1.out) HM1.out (by simp) HD.out)
          have hcm : cc.mark = i2 := HC.out.1 ▸ advance_mark HC.out.2.symm
          obtain ⟨m1, m2, m3⟩ := cc
          simp only at hcm
          subst hcm
          refine wp_region_pt 11 (fun W => At W b (runCs ⟨m1, m2, m3⟩ bp vo rk.pipe)) (.take 0 <| .take 1 <| .take 2 <| .take 3 <| .take 4 <| .take 5 <| .take 6 <| .take 7 <| .take 8 <| .doo 9 <| .doo 10 <| .done) ?plA (by kernel_rfl) (by kernel_rfl) ?plB (by intro c a d v w; cases d <;> exact fun h => h) ?plC ?_
          case plB =>
            simp only [Pt.with, List.getElem?_toArray, List.getElem?_cons_zero, List.getElem?_cons_succ]
            try rfl
          case plC => exact HA1.out.drew
          have q0 : ∀ x, At x b (runCs ⟨m1, m2, m3⟩ bp vo rk.pipe) → x.cell? ⟨b, 0, none⟩ = some (.int .i64 m1) := fun x h => h.c 0 _ rfl
          have q1 : ∀ x, At x b (runCs ⟨m1, m2, m3⟩ bp vo rk.pipe) → x.cell? ⟨b, 1, none⟩ = some (.int .i64 m2) := fun x h => h.c 1 _ rfl
          have q2 : ∀ x, At x b (runCs ⟨m1, m2, m3⟩ bp vo rk.pipe) → x.cell? ⟨b, 2, none⟩ = some (.int .i64 m3) := fun x h => h.c 2 _ rfl
          have q3 : ∀ x, At x b (runCs ⟨m1, m2, m3⟩ bp vo rk.pipe) → x.cell? ⟨b, 3, none⟩ = some (.pointer (some ⟨bp, 0, none⟩)) := fun x h => h.c 3 _ rfl
          iterate 9 (refine wpPt_take (v := ?_) (by rfl) (fun w' hS => ?_) ?_; rotate_left; (focus (go_simp; with_reducible rfl)); simp only [Act.put, List.setIfInBounds_toArray, List.set_cons_zero, List.set_cons_succ])
          refine wpPt_do (by rfl) (fun K hK => ?_)
          go_wp2_with (go_at_call 67; (with_reducible refine (mark_of ⟨m1, m2, m3⟩ _).mono ?_); rintro x w6 ⟨rfl, hb6⟩; have HF6 := Lib.hid (HF5.out.drew.below hb6); clear hb6)
          refine ⟨HF6.out.r.a, ?_⟩
          refine wpPt_do (by rfl) (fun K hK => ?_)
          have HCL := Lib.hid (close_any rk.pipe.size rk.pipe.slide rk.pipe.agg bp bm rk.opn m1 w6 HF6.out.r.p HF6.out.r.mp (by omega))
          have hrows : (rk.take1 ⟨true, m1, i3, i4, i5⟩) = (⟨⟨m1, m2, m3⟩, rk.pipe, (closeL rk.pipe.size m1 (placesL rk.opn) rk.opn).2⟩, (closeL rk.pipe.size m1 (placesL rk.opn) rk.opn).1) := by
            have e3 := HC.out.2
            simp [RunV.take1, ← e3, ← HC.out.1]
          have HLN := Lib.hid (HO2.out.1.take1 ⟨true, m1, i3, i4, i5⟩).2.1
          have hst2 := HST.out
          rw [hrows] at HLN hst2
          have HST2 := Lib.hid hst2
          obtain ⟨rows, hrw⟩ : ∃ rows, rows = (closeL rk.pipe.size m1 (placesL rk.opn) rk.opn).1 := ⟨_, rfl⟩
          obtain ⟨lk, hlk2⟩ : ∃ lk, lk = (closeL rk.pipe.size m1 (placesL rk.opn) rk.opn).2 := ⟨_, rfl⟩
          rw [← hrw, ← hlk2] at HCL HLN HST2
          have hln := HLN.out
          simp only at hln
          clear hrows hrw hlk2 hst2
          go_wp2_with (go_at_call 66; (with_reducible refine HCL.out.mono ?_); rintro x w7 ⟨v7, rfl, hr7, hm7, hd7⟩; have HR7 := Lib.hid hr7; have HM7 := Lib.hid hm7; have HD7 := Lib.hid hd7; clear hr7 hm7 hd7)
          have HF7 := Lib.hid (HF6.out.turn (HF6.out.r.opn HM7.out HD7.out) HD7.out (by simp) HD.out)
          refine ⟨HF7.out.r.a, ?_⟩
          refine wpPt_done ?_
          clear q0 q1 q2 q3
          simp only [List.drop_succ_cons, List.drop_zero]
          have hb67 := HF6.out.e.size
          refine wpList_append_rdr rfl (.tmp 28) (.tmp 38) 59 rfl w.heap.size 64 i0 _ 5 40 Tryz.underlying59 HI.out.1 HI.out.2.1 HI.out.2.2.1 HI.out.2.2.2 rfl (by decide) (by decide) rowcs_len RowV.one (.slice oa out.length oc) out rfl HF7.out.o v7 rows _ rfl (RdR.of_own rowcs_len HR7.out) (by omega) (Nat.le_trans HF7.out.e.size (Nat.le_refl _)) ?_
          intro v8 w8 hown8 hgrow8
          have HO8 := Lib.hid hown8
          have HG8 := Lib.hid hgrow8
          clear hown8 hgrow8
          go_wp2
          go_roundg (l.length - (k + 1))
          case measure => omega
          case rel =>
            refine ⟨k + 1, by omega, rfl, by go_num, ?_⟩
            rw [HST2.out]
            have hm8 : Mod (Value.slice oa out.length oc).ownBlock.toList w7 w8 := Mod.of_grown HG8.out _ (fun x hx => .inl (by simp [hx]))
            have hlo : ∀ x ∈ (Value.slice oa out.length oc).ownBlock.toList, w.heap.size ≤ x := own_new HF7.out.o
            refine ⟨HF7.out.r.mod hm8 (fun x hx h1 => ?_), HF7.out.i.same (fun x hx => hm8.block x (HF7.out.i.lt x hx) fun h1 => ?_), HO8.out, HF7.out.e.trans hm8 (Into.new hlo _)⟩
            · have := hlo x h1
              have := (HD.out x hx).2
              omega
            · have := hlo x h1
              have := HSI.out x hx
              omega
    · obtain rfl : k = l.length := by omega
      clear hF
      simp only [List.take_length] at HF ⊢
      go_wp2
      go_ret
      exact ⟨_, rfl, HF.out.o, HF.out.r, HF.out.e⟩
end Go.Proofs.YtcanfmabkklidaaGreat
set_option linter.unusedSimpArgs false
set_option linter.unusedVariables false
set_option linter.unnecessarySimpa false
namespace Go.Proofs.YtcanfmabkklidaaGreat
open Go.RowKit

set_option maxRecDepth 100000 in
set_option maxHeartbeats 4000000 in
theorem spend_any (b : Nat) (lf sp : Int) (xs : List Value) (g : Nat) (w : World) (h : At w b (.int .i64 lf :: .int .i64 sp :: xs)) (hg : At w g [.int .i64 1]) (hne : g ≠ b) (h1 : 1 ≤ lf) (h2 : lf ≤ 1000000) (h3 : 0 ≤ sp) (h4 : sp ≤ 1000000) :
    Calls Tryz.prog 87 #[.pointer (some ⟨b, 0, none⟩), .slice (some ⟨g, 0, none⟩) 1 1] w fun e w' => e = .returned (.bool true) ∧ At w' b (.int .i64 (lf - 1) :: .int .i64 (sp + 1) :: xs) ∧ Mod [b] w w' := by
  have c0 := h.c 0 _ rfl
  have c1 := h.c 1 _ rfl
  have f0 := h.f 0
  have f1 := h.f 1
  have hb := h.lt
  have g0 := hg.c 0 _ rfl
  have HA := Lib.hid h
  have HG := Lib.hid hg
  have e1 : wrap64 (lf - 1) = lf - 1 := by unfold wrap64; omega
  have e2 : wrap64 (lf - (lf - 1)) = 1 := by unfold wrap64; omega
  have e3 : wrap64 (sp + 1) = sp + 1 := by unfold wrap64; omega
  have HE := Lib.hid (And.intro e1 (And.intro e2 e3))
  clear e1 e2 e3
  clear h hg
  go_enter Tryz.func87, Tryz.ntmps87
  go_wp2
  go_loopg [5, 14] 1 (fun n v5 v14 wr => (n = 1 ∧ v5 = .int .i64 lf ∧ v14 = .int .i64 0 ∧ wr = w) ∨ (n = 0 ∧ v5 = .int .i64 (lf - 1) ∧ v14 = .int .i64 1 ∧ wr = w))
  case atStart => exact .inl ⟨rfl, rfl, rfl, rfl⟩
  case round =>
    rcases hrel with ⟨rfl, rfl, rfl, rfl⟩ | ⟨rfl, rfl, rfl, rfl⟩
    · have d1 : decide (lf < 1) = false := by simp; omega
      go_wp2
      go_roundg 0
      case measure => omega
      case rel => exact .inr ⟨rfl, rfl, rfl, rfl⟩
    · go_wp2
      refine wp_region_tl 11 (fun W => At W b (.int .i64 lf :: .int .i64 sp :: xs) ∧ Mod [b] wr W) ⟨HA.out.drew, (Mod.refl _ _).draw⟩ (by kernel_rfl) (by kernel_rfl) ?_
      intro W F
      have HF := Lib.hid F
      have z0 := F.1.c 0 _ rfl
      have z1 := F.1.c 1 _ rfl
      have y0 := F.1.f 0
      have y1 := F.1.f 1
      have l1 := F.1.lt
      clear F
      simp only [List.take_succ_cons, List.take_zero, List.drop_succ_cons, List.drop_zero]
      repeat still_step
      refine wpStill_nil ?_
      go_wp2
      go_ret
      have e3 : sp + (lf - (lf - 1)) = sp + 1 := by omega
      have A2 := ((HF.out.1.set 1 (.int .i64 (sp + (lf - (lf - 1)))) (by simp)).set 0 (.int .i64 (lf - 1)) (by simp))
      have M2 := ((HF.out.2.set b 1 (.int .i64 (sp + (lf - (lf - 1)))) (.inl (by simp))).set b 0 (.int .i64 (lf - 1)) (.inl (by simp)))
      refine ⟨rfl, ?_, M2⟩
      rw [e3] at A2 ⊢
      exact A2
set_option maxRecDepth 100000 in
set_option maxHeartbeats 2000000 in
theorem pnew_any (s d k : Int) (w : World) : Calls Tryz.prog 63 #[.int .i64 s, .int .i64 d, .int .i64 k] w fun e w' => ∃ b m, e = .returned (.pointer (some ⟨b, 0, none⟩)) ∧ At w' b (panCs s d k m) ∧ MapAt w' m [] ∧ b ≠ m ∧ w.heap.size ≤ b ∧ w.heap.size ≤ m ∧ Below w.heap.size w w' := by
  have hmm := @run_makeMap Tryz.prog
  go_enter Tryz.func63, Tryz.ntmps63
  go_wp2
  go_ret
  refine ⟨w.heap.size + 1, w.heap.size, rfl, At.newAt (by simp) _ _, ⟨#[], 0, (Below.heap_alloc _ _ _ (by simp)).trans (heap_alloc_new w _), rfl, by simp, by simp⟩, by omega, by omega, Nat.le_refl _, ((Below.refl _ w).alloc (Nat.le_refl _) _).alloc (by simp) _⟩
theorem PipeBd.m {p : PipeV} (h : PipeBd p) : PipOk p.m := ⟨h.slide1, h.slide2, h.size1, h.size2, h.agg1, h.agg2, h.sink1, h.sink2, h.feed1, h.feed2, h.len, h.ops⟩
set_option maxRecDepth 100000 in
set_option maxHeartbeats 4000000 in
theorem rnew_any (p : PipeV) (S : List Nat) (hp : PipeBd p) (w : World) (h : RdR OpV.cs 2 w p.ops p.ol S) :
    Calls Tryz.prog 43 #[p.val] w fun e w' => ∃ b S', e = .returned (.pointer (some ⟨b, 0, none⟩)) ∧ RunAt w' b S' (RunV.new p.m) ∧ (∀ x ∈ S', w.heap.size ≤ x) ∧ Below w.heap.size w w' := by
  have hp' := hp
  have HR := Lib.hid (fun W (hW : RdR OpV.cs 2 W p.ops p.ol S) => pright_any p hp W hW.isr)
  have HCL := Lib.hid (fun W (hW : RdR OpV.cs 2 W p.ops p.ol S) => clone62 p.ops p.ol S W hW (by have := hp.len; omega))
  obtain ⟨vo, ol, sz, sl, ag, si, fd⟩ := p
  obtain ⟨a, c, rfl, _⟩ : ∃ a c, vo = .slice a ol.length c ∧ True := by obtain ⟨a, c, h, _⟩ := h; exact ⟨a, c, h, trivial⟩
  have HO := Lib.hid h
  clear h hp hp'
  unfold PipeV.val at HR ⊢
  simp only at HR HCL HO ⊢
  go_enter Tryz.func43, Tryz.ntmps43
  have A0 := At.new w #[.slice a ol.length c, .int .i64 sz, .int .i64 sl, .int .i64 ag, .int .i64 si, .int .i64 fd] 36
  have HA0 := Lib.hid A0
  have HO0 := Lib.hid (HO.out.same (w' := w.alloc (.cells #[.slice a ol.length c, .int .i64 sz, .int .i64 sl, .int .i64 ag, .int .i64 si, .int .i64 fd] 36)) (fun x hx => Below.heap_alloc _ _ _ (HO.out.lt x hx)))
  clear A0
  go_wp2_with (first
    | (go_at_call 61; (with_reducible refine (HR.out _ HO0.out).mono ?_); rintro e w1 ⟨rfl, hb1⟩; have A1 := HA0.out.below hb1; have c0 := A1.c 0 _ rfl; have f0 := A1.f 0; have l0 := A1.lt; have HA1 := Lib.hid A1; have HO1 := Lib.hid (HO0.out.same (fun x hx => hb1.block x (HO0.out.lt x hx))); have HB1 := Lib.hid hb1; clear A1 hb1)
    | (go_at_call 62; (with_reducible refine (HCL.out _ HO1.out).mono ?_); rintro e w2 ⟨v2, rfl, ho2, hb2⟩; obtain ⟨pa, pc, rfl⟩ := own_shape2 ho2; have A2 := HA1.out.below hb2; have g0 := A2.f 0; have g1 := A2.c 0 _ rfl; have l2 := A2.lt; have HA2 := Lib.hid A2; have HO2 := Lib.hid ho2; have HB2 := Lib.hid hb2; clear A2 hb2 ho2))
  obtain ⟨w3, hw3⟩ : ∃ w3, w3 = w2.setCell ⟨w.heap.size, 0, none⟩ (.slice pa ol.length pc) := ⟨_, rfl⟩
  rw [← hw3]
  have A3 : At w3 w.heap.size [.slice pa ol.length pc, .int .i64 sz, .int .i64 sl, .int .i64 ag, .int .i64 si, .int .i64 fd] := by rw [hw3]; exact HA2.out.set 0 _ (by simp)
  have B3 : Below w.heap.size w w3 := by
    rw [hw3]
    exact bel_set ((bel_alloc (Below.refl _ _) _).trans ((HB1.out.mono (by simp)).trans (HB2.out.mono (by have := HB1.out.size; simp at this; omega)))) (Nat.le_refl _) _
  have O3 : w3.ownsRow w1.heap.size 128 2 (.slice pa ol.length pc) ol.length (ol.flatMap OpV.cs) := by
    rw [hw3]
    refine own_of_block HO2.out fun x hx => ?_
    have := own_new HO2.out x hx
    exact Below.heap_setCell _ _ _ _ (by simp; omega)
  have HA3 := Lib.hid A3
  have HB3 := Lib.hid B3
  have HO3 := Lib.hid O3
  clear A3 B3 O3 hw3 c0 f0 g0 g1 l2
  refine wp_region_pl (fun x => At x w.heap.size [.slice pa ol.length pc, .int .i64 sz, .int .i64 sl, .int .i64 ag, .int .i64 si, .int .i64 fd]) (.take 0 <| .take 1 <| .take 2 <| .take 3 <| .take 4 <| .take 5 <| .take 7 <| .doo 6 <| .take 8 <| .doo 9 <| .take 10 <| .done) ?plA (by kernel_rfl) (by kernel_rfl) (by kernel_rfl) ?plB (by intro c a d v w; cases d <;> exact fun h => h) ?plC ?_
  case plB =>
    simp only [Pl.with, List.getElem?_toArray, List.getElem?_cons_zero, List.getElem?_cons_succ]
    try rfl
  case plC => exact HA3.out.drew
  have q0 : ∀ x, (fun x => At x w.heap.size [.slice pa ol.length pc, .int .i64 sz, .int .i64 sl, .int .i64 ag, .int .i64 si, .int .i64 fd]) x → x.cell? ⟨w.heap.size, 0, none⟩ = some (.slice pa ol.length pc) := fun x h => h.c 0 _ rfl
  have q1 : ∀ x, (fun x => At x w.heap.size [.slice pa ol.length pc, .int .i64 sz, .int .i64 sl, .int .i64 ag, .int .i64 si, .int .i64 fd]) x → x.cell? ⟨w.heap.size, 1, none⟩ = some (.int .i64 sz) := fun x h => h.c 1 _ rfl
  have q2 : ∀ x, (fun x => At x w.heap.size [.slice pa ol.length pc, .int .i64 sz, .int .i64 sl, .int .i64 ag, .int .i64 si, .int .i64 fd]) x → x.cell? ⟨w.heap.size, 2, none⟩ = some (.int .i64 sl) := fun x h => h.c 2 _ rfl
  have q3 : ∀ x, (fun x => At x w.heap.size [.slice pa ol.length pc, .int .i64 sz, .int .i64 sl, .int .i64 ag, .int .i64 si, .int .i64 fd]) x → x.cell? ⟨w.heap.size, 3, none⟩ = some (.int .i64 ag) := fun x h => h.c 3 _ rfl
  have q4 : ∀ x, (fun x => At x w.heap.size [.slice pa ol.length pc, .int .i64 sz, .int .i64 sl, .int .i64 ag, .int .i64 si, .int .i64 fd]) x → x.cell? ⟨w.heap.size, 4, none⟩ = some (.int .i64 si) := fun x h => h.c 4 _ rfl
  have q5 : ∀ x, (fun x => At x w.heap.size [.slice pa ol.length pc, .int .i64 sz, .int .i64 sl, .int .i64 ag, .int .i64 si, .int .i64 fd]) x → x.cell? ⟨w.heap.size, 5, none⟩ = some (.int .i64 fd) := fun x h => h.c 5 _ rfl
  iterate 7 (refine wpPl_take (v := ?_) (by rfl) (fun w' hS => ?_) ?_; rotate_left; (focus (go_simp; with_reducible rfl)); simp only [Act.put, List.setIfInBounds_toArray, List.set_cons_zero, List.set_cons_succ])
  refine wpPl_do (by rfl) (fun K hK => ?_)
  go_wp2_with (go_at_call 63; (with_reducible refine (pnew_any sz sl ag _).mono ?_); rintro e w4 ⟨bp, bm, rfl, hp4, hm4, hne, hbp, hbm, hb4⟩; have HP4 := Lib.hid hp4; have HM4 := Lib.hid hm4; have HB4 := Lib.hid hb4; clear hp4 hm4 hb4)
  refine ⟨HA3.out.drew.below HB4.out, ?_⟩
  iterate 1 (refine wpPl_take (v := ?_) (by rfl) (fun w' hS => ?_) ?_; rotate_left; (focus (go_simp; with_reducible rfl)); simp only [Act.put, List.setIfInBounds_toArray, List.set_cons_zero, List.set_cons_succ])
  refine wpPl_do (by rfl) (fun K hK => ?_)
  go_wp2_with fail
  refine ⟨(HA3.out.drew.below HB4.out).alloc _, ?_⟩
  iterate 1 (refine wpPl_take (v := ?_) (by rfl) (fun w' hS => ?_) ?_; rotate_left; (focus (go_simp; with_reducible rfl)); simp only [Act.put, List.setIfInBounds_toArray, List.set_cons_zero, List.set_cons_succ])
  refine wpPl_done ?_
  clear q0 q1 q2 q3 q4 q5
  go_wp2
  go_ret
  have hlo := own_lt HO3.out
  have hnw := own_new HO3.out
  have hs1 := HB1.out.size
  have hs4 := HB4.out.size
  have hbpl := HP4.out.lt
  have hbml := HM4.out.lt
  have hs3 := HB3.out.size
  simp at hbp hbm hs1 hs4
  have O4 : w4.ownsRow w1.heap.size 128 2 (.slice pa ol.length pc) ol.length (ol.flatMap OpV.cs) := own_of_block HO3.out fun x hx => HB4.out.block x (by simpa using hlo x hx)
  have O5 : (w4.alloc (.cells #[.int .i64 0, .int .i64 0, .int .i64 0, .pointer (some ⟨bp, 0, none⟩), .slice pa ol.length pc, .int .i64 sz, .int .i64 sl, .int .i64 ag, .int .i64 si, .int .i64 fd] 105)).ownsRow w1.heap.size 128 2 (.slice pa ol.length pc) ol.length (ol.flatMap OpV.cs) := O4.alloc _
  refine ⟨w4.heap.size, w4.heap.size :: bp :: bm :: (Value.slice pa ol.length pc).ownBlock.toList, rfl, ⟨bp, bm, .slice pa ol.length pc, _, rfl, At.newAt rfl _ _, HP4.out.alloc _, HM4.out.alloc _, RdR.of_own opcs_len O5, ?_⟩, fun x hx => ?_, ?_⟩
  · simp only [List.nodup_cons, List.mem_cons, not_or]
    refine ⟨⟨by omega, by omega, fun h => by have := hlo _ h; omega⟩, ⟨hne, fun h => by have := hlo _ h; omega⟩, fun h => by have := hlo _ h; omega, ?_⟩
    cases (Value.slice pa ol.length pc).ownBlock <;> simp
  · simp only [List.mem_cons] at hx
    rcases hx with rfl | rfl | rfl | hx
    · omega
    · omega
    · omega
    · have := hnw x hx
      omega
  · exact bel_alloc (HB3.out.trans (((bel_draw (Below.refl _ _)).trans HB4.out).mono (by omega))) _
end Go.Proofs.YtcanfmabkklidaaGreat
set_option linter.unusedSimpArgs false
set_option linter.unusedVariables false
set_option linter.unnecessarySimpa false
namespace Go.Proofs.YtcanfmabkklidaaGreat
open Go.RowKit

abbrev InpV.val (i : InpV) : Value := .agg #[.bool i.mark, .int .i64 i.time, .int .i64 i.key, .int .i64 i.value, .int .u64 i.label]
theorem res83 (w : World) (b : Nat) (x0 : Bool) (x1 x2 x3 x4 : Int) (u : Bool) (tmps : Array Value) (ht : tmps[4]?.getD undef = .pointer (some ⟨b, 0, none⟩)) (h5 : tmps[5]?.getD undef = .bool u) (h : At w b [.bool x0, .int .i64 x1, .int .i64 x2, .int .i64 x3, .int .u64 x4]) :
    (results Tryz.f83 tmps).run Tryz.prog w = .ok (.tuple #[.agg #[.bool x0, .int .i64 x1, .int .i64 x2, .int .i64 x3, .int .u64 x4], .bool u]) w := by
  have c0 := h.c 0 _ rfl
  have c1 := h.c 1 _ rfl
  have c2 := h.c 2 _ rfl
  have c3 := h.c 3 _ rfl
  have c4 := h.c 4 _ rfl
  simp only [results, Tryz.results83]
  simp [go_sem, ht, h5, c0, c1, c2, c3, c4]
theorem own_mark (b : Nat) (t k v l : Int) (id : Nat) (w : World) : Calls Tryz.prog 83 #[.pointer (some ⟨b, 0, none⟩), .agg #[.bool true, .int .i64 t, .int .i64 k, .int .i64 v, .int .u64 l]] w fun e w' => e = .returned (.tuple #[(ownI id ⟨true, t, k, v, l⟩).val, .bool (ownOk id ⟨true, t, k, v, l⟩)]) ∧ Below w.heap.size w w' := by
  have HW := Lib.hid (fun (x y : Obj) => (((Below.refl _ w).alloc (Nat.le_refl _) x).alloc (by simp) y : Below w.heap.size w ((w.alloc x).alloc y)))
  rw [show (ownI id ⟨true, t, k, v, l⟩) = ⟨true, t, 0, 0, 0⟩ by simp [ownI], show (ownOk id ⟨true, t, k, v, l⟩) = decide (1 ≤ t ∧ t ≤ 1099512676352) by simp [ownOk]]
  by_cases h : 1 ≤ t
  · rw [show decide (1 ≤ t ∧ t ≤ 1099512676352) = decide (t ≤ 1099512676352) by simp [h]]
    go_enter Tryz.func83, Tryz.ntmps83
    go_wp2
    refine bodyPost_ret (res83 _ (w.heap.size + 1) true t 0 0 0 _ _ rfl rfl (At.newAt (by simp) _ _)) rfl ?_
    exact ⟨rfl, HW.out _ _⟩
  · rw [show decide (1 ≤ t ∧ t ≤ 1099512676352) = false by simp [h]]
    replace h : t < 1 := by omega
    go_enter Tryz.func83, Tryz.ntmps83
    go_wp2
    refine bodyPost_ret (res83 _ (w.heap.size + 1) true t 0 0 0 _ _ rfl rfl (At.newAt (by simp) _ _)) rfl ?_
    exact ⟨rfl, HW.out _ _⟩
set_option maxRecDepth 100000 in
set_option maxHeartbeats 4000000 in
theorem own_event (b : Nat) (xs : List Value) (t k v l : Int) (id : Nat) (hid : id ≤ 7) (w : World) (h : At w b xs) (h5 : xs[5]? = some (.int .i64 id)) : Calls Tryz.prog 83 #[.pointer (some ⟨b, 0, none⟩), .agg #[.bool false, .int .i64 t, .int .i64 k, .int .i64 v, .int .u64 l]] w fun e w' => e = .returned (.tuple #[(ownI id ⟨false, t, k, v, l⟩).val, .bool (ownOk id ⟨false, t, k, v, l⟩)]) ∧ Below w.heap.size w w' := by
  rw [show (ownI id ⟨false, t, k, v, l⟩) = ⟨false, t, k, v, ((2 ^ id : Nat) : Int)⟩ by simp [ownI], show (ownOk id ⟨false, t, k, v, l⟩) = decide (evR t k v ((2 ^ id : Nat) : Int)) by simp [ownOk]]
  have c5 := h.c 5 _ h5
  have hb := h.lt
  have HW := Lib.hid (fun (x y : Obj) => (((Below.refl _ w).alloc (Nat.le_refl _) x).alloc (by simp) y : Below w.heap.size w ((w.alloc x).alloc y)))
  clear h h5
  obtain ⟨M, hM⟩ : ∃ M, M = ((2 ^ id : Nat) : Int) := ⟨_, rfl⟩
  rw [← hM]
  have hsh : IntKind.wrap .u64 ((2 : Int) ^ id) = M := by
    rw [hM]
    have hc : id = 0 ∨ id = 1 ∨ id = 2 ∨ id = 3 ∨ id = 4 ∨ id = 5 ∨ id = 6 ∨ id = 7 := by omega
    rcases hc with rfl | rfl | rfl | rfl | rfl | rfl | rfl | rfl <;> decide
  have HSH := Lib.hid hsh
  clear hsh hM
  go_enter Tryz.func83, Tryz.ntmps83
  go_wp2
  rw [HSH.out]
  obtain ⟨w1, hw1⟩ : ∃ w1, w1 = (w.alloc (.cells #[.bool false, .int .i64 t, .int .i64 k, .int .i64 v, .int .u64 M] 41)).alloc (.cells #[.bool false, .int .i64 0, .int .i64 0, .int .i64 0, .int .u64 0] 41) := ⟨_, rfl⟩
  rw [← hw1]
  have HA := Lib.hid (show At w1 w.heap.size [.bool false, .int .i64 t, .int .i64 k, .int .i64 v, .int .u64 M] from by rw [hw1]; exact (At.new _ _ _).alloc _)
  have HZ := Lib.hid (show At w1 (w.heap.size + 1) [.bool false, .int .i64 0, .int .i64 0, .int .i64 0, .int .u64 0] from by rw [hw1]; exact At.newAt (by simp) _ _)
  have HB := Lib.hid (show Below w.heap.size w w1 from by rw [hw1]; exact HW.out _ _)
  clear hw1
  refine wp_region_pl (fun x => At x w.heap.size [.bool false, .int .i64 t, .int .i64 k, .int .i64 v, .int .u64 M]) (.take 0 <| .take 1 <| .take 2 <| .doo 3 <| .doo 4 <| .take 5 <| .done) ?plA (by kernel_rfl) (by kernel_rfl) (by kernel_rfl) ?plB (by intro c a d v w; cases d <;> exact fun h => h) ?plC ?_
  case plB =>
    simp only [Pl.with, List.getElem?_toArray, List.getElem?_cons_zero, List.getElem?_cons_succ]
    try rfl
  case plC => exact HA.out.drew
  have q0 : ∀ x, (fun x => At x w.heap.size [.bool false, .int .i64 t, .int .i64 k, .int .i64 v, .int .u64 M]) x → x.cell? ⟨w.heap.size, 0, none⟩ = some (.bool false) := fun x h => h.c 0 _ rfl
  have q1 : ∀ x, (fun x => At x w.heap.size [.bool false, .int .i64 t, .int .i64 k, .int .i64 v, .int .u64 M]) x → x.cell? ⟨w.heap.size, 1, none⟩ = some (.int .i64 t) := fun x h => h.c 1 _ rfl
  have q2 : ∀ x, (fun x => At x w.heap.size [.bool false, .int .i64 t, .int .i64 k, .int .i64 v, .int .u64 M]) x → x.cell? ⟨w.heap.size, 2, none⟩ = some (.int .i64 k) := fun x h => h.c 2 _ rfl
  have q3 : ∀ x, (fun x => At x w.heap.size [.bool false, .int .i64 t, .int .i64 k, .int .i64 v, .int .u64 M]) x → x.cell? ⟨w.heap.size, 3, none⟩ = some (.int .i64 v) := fun x h => h.c 3 _ rfl
  have q4 : ∀ x, (fun x => At x w.heap.size [.bool false, .int .i64 t, .int .i64 k, .int .i64 v, .int .u64 M]) x → x.cell? ⟨w.heap.size, 4, none⟩ = some (.int .u64 M) := fun x h => h.c 4 _ rfl
  iterate 3 (refine wpPl_take (v := ?_) (by rfl) (fun w' hS => ?_) ?_; rotate_left; (focus (go_simp; with_reducible rfl)); simp only [Act.put, List.setIfInBounds_toArray, List.set_cons_zero, List.set_cons_succ])
  refine wpPl_do (by rfl) (fun K hK => ?_)
  go_wp2_with (go_at_call 109; (with_reducible refine (event_right t k v M _).mono ?_); rintro e w3 ⟨rfl, hb3⟩; have HB3 := Lib.hid hb3; clear hb3)
  refine ⟨HA.out.drew.below HB3.out, ?_⟩
  have Z3 := HZ.out.drew.below HB3.out
  have z0 := Z3.c 0 _ rfl
  have f0 := Z3.f 0
  have z1 := Z3.c 1 _ rfl
  have f1 := Z3.f 1
  have z2 := Z3.c 2 _ rfl
  have f2 := Z3.f 2
  have z3 := Z3.c 3 _ rfl
  have f3 := Z3.f 3
  have z4 := Z3.c 4 _ rfl
  have f4 := Z3.f 4
  have l3 := Z3.lt
  have HZ3 := Lib.hid Z3
  clear Z3
  refine wpPl_do (by rfl) (fun K hK => ?_)
  go_wp2_with fail
  have HM5 := Lib.hid (show Mod [w.heap.size + 1] w3 (((((w3.setCell ⟨w.heap.size + 1, 0, none⟩ (.bool false)).setCell ⟨w.heap.size + 1, 1, none⟩ (.int .i64 t)).setCell ⟨w.heap.size + 1, 2, none⟩ (.int .i64 k)).setCell ⟨w.heap.size + 1, 3, none⟩ (.int .i64 v)).setCell ⟨w.heap.size + 1, 4, none⟩ (.int .u64 M)) from (((((Mod.refl _ _).set _ _ _ (.inl (by simp))).set _ _ _ (.inl (by simp))).set _ _ _ (.inl (by simp))).set _ _ _ (.inl (by simp))).set _ _ _ (.inl (by simp)))
  have HZ5 := Lib.hid (show At (((((w3.setCell ⟨w.heap.size + 1, 0, none⟩ (.bool false)).setCell ⟨w.heap.size + 1, 1, none⟩ (.int .i64 t)).setCell ⟨w.heap.size + 1, 2, none⟩ (.int .i64 k)).setCell ⟨w.heap.size + 1, 3, none⟩ (.int .i64 v)).setCell ⟨w.heap.size + 1, 4, none⟩ (.int .u64 M)) (w.heap.size + 1) [.bool false, .int .i64 t, .int .i64 k, .int .i64 v, .int .u64 M] from ((((HZ3.out.set 0 _ (by simp)).set 1 _ (by simp)).set 2 _ (by simp)).set 3 _ (by simp)).set 4 _ (by simp))
  refine ⟨(HA.out.drew.below HB3.out).mod HM5.out (by simp), ?_⟩
  iterate 1 (refine wpPl_take (v := ?_) (by rfl) (fun w' hS => ?_) ?_; rotate_left; (focus (go_simp; with_reducible rfl)); simp only [Act.put, List.setIfInBounds_toArray, List.set_cons_zero, List.set_cons_succ])
  refine wpPl_done ?_
  clear q0 q1 q2 q3 q4
  go_wp2
  refine bodyPost_ret (res83 _ (w.heap.size + 1) false t k v M _ _ rfl rfl HZ5.out) rfl ?_
  refine ⟨rfl, HM5.out.belowB (HB.out.trans (((bel_draw (Below.refl _ _)).trans HB3.out).mono HB.out.size)) ?_ (by simp)⟩
  have h1 := HB.out.size
  have h2 := HB3.out.size
  simp at h2
  omega
theorem own_any (b : Nat) (xs : List Value) (i : InpV) (id : Nat) (hid : id ≤ 7) (w : World) (h : At w b xs) (h5 : xs[5]? = some (.int .i64 id)) : Calls Tryz.prog 83 #[.pointer (some ⟨b, 0, none⟩), i.val] w fun e w' => e = .returned (.tuple #[(ownI id i).val, .bool (ownOk id i)]) ∧ Below w.heap.size w w' := by
  obtain ⟨m, t, k, v, l⟩ := i
  cases m with
  | true => exact own_mark b t k v l id w
  | false => exact own_event b xs t k v l id hid w h h5
end Go.Proofs.YtcanfmabkklidaaGreat
set_option linter.unusedSimpArgs false
set_option linter.unusedVariables false
set_option linter.unnecessarySimpa false
namespace Go.Proofs.YtcanfmabkklidaaGreat
open Go.RowKit

def Dis (A B : List Nat) : Prop := ∀ x ∈ A, x ∉ B
theorem Dis.symm {A B : List Nat} (h : Dis A B) : Dis B A := fun x hx hy => h x hy hx
theorem Dis.new {A B : List Nat} {n : Nat} (hA : ∀ x ∈ A, n ≤ x) (hB : ∀ x ∈ B, x < n) : Dis A B := fun x hx hy => by have := hA x hx; have := hB x hy; omega
theorem Dis.into {A A' B : List Nat} {n : Nat} (h : Dis A B) (hi : Into A' A n) (hB : ∀ x ∈ B, x < n) : Dis A' B := fun x hx hy => by
  rcases hi x hx with h1 | h1
  · exact h x h1 hy
  · have := hB x hy; omega
def cellCs (c : CellV) (vq vr vt : Value) (br : Nat) : List Value := [.int .i64 c.left, .int .i64 c.spent, .int .i64 c.refused, vq, .pointer (some ⟨br, 0, none⟩), .int .i64 c.id, vr, vt]
structure CellIn (w : World) (b br : Nat) (vq vr vt : Value) (Sq Sr Sv St : List Nat) (c : CellV) : Prop where
  a : At w b (cellCs c vq vr vt br)
  q : RdR InpV.cs 5 w vq c.queue Sq
  r : RunAt w br Sr c.run
  v : w.ownsRow 0 64 5 vr c.rows.length (c.rows.flatMap RowV.cs)
  t : w.ownsRow 0 41 5 vt c.taken.length (c.taken.flatMap InpV.cs)
  sv : Sv = vr.ownBlock.toList
  st : St = vt.ownBlock.toList
  bq : b ∉ Sq
  br : b ∉ Sr
  bv : b ∉ Sv
  bt : b ∉ St
  qr : Dis Sq Sr
  qv : Dis Sq Sv
  qt : Dis Sq St
  rv : Dis Sr Sv
  rt : Dis Sr St
  vt : Dis Sv St
def CellAt (w : World) (b : Nat) (S : List Nat) (c : CellV) : Prop := ∃ br vq vr vt Sq Sr Sv St, S = b :: (Sq ++ (Sr ++ (Sv ++ St))) ∧ CellIn w b br vq vr vt Sq Sr Sv St c
section
variable {w w' : World} {b br : Nat} {vq vr vt : Value} {Sq Sr Sv St : List Nat} {c : CellV}
theorem CellIn.same (h : CellIn w b br vq vr vt Sq Sr Sv St c) (hs : ∀ x ∈ b :: (Sq ++ (Sr ++ (Sv ++ St))), w'.heap[x]? = w.heap[x]?) : CellIn w' b br vq vr vt Sq Sr Sv St c :=
  ⟨h.a.of_block (hs b (by simp)), h.q.same (fun x hx => hs x (by simp [hx])), h.r.same (fun x hx => hs x (by simp [hx])), own_of_block h.v (fun x hx => hs x (by simp [h.sv, hx])), own_of_block h.t (fun x hx => hs x (by simp [h.st, hx])),
    h.sv, h.st, h.bq, h.br, h.bv, h.bt, h.qr, h.qv, h.qt, h.rv, h.rt, h.vt⟩
theorem CellIn.lt (h : CellIn w b br vq vr vt Sq Sr Sv St c) : ∀ x ∈ b :: (Sq ++ (Sr ++ (Sv ++ St))), x < w.heap.size := fun x hx => by
  simp only [List.mem_cons, List.mem_append] at hx
  rcases hx with rfl | hx | hx | hx | hx
  · exact h.a.lt
  · exact h.q.lt x hx
  · exact h.r.lt x hx
  · exact own_lt h.v x (h.sv ▸ hx)
  · exact own_lt h.t x (h.st ▸ hx)
theorem CellIn.below (h : CellIn w b br vq vr vt Sq Sr Sv St c) (hb : Below w.heap.size w w') : CellIn w' b br vq vr vt Sq Sr Sv St c := h.same fun x hx => hb.block x (h.lt x hx)
theorem CellIn.drew (h : CellIn w b br vq vr vt Sq Sr Sv St c) : CellIn w.drew b br vq vr vt Sq Sr Sv St c := h.below (bel_draw (Below.refl _ _))
theorem CellIn.alloc (h : CellIn w b br vq vr vt Sq Sr Sv St c) (o : Obj) : CellIn (w.alloc o) b br vq vr vt Sq Sr Sv St c := h.below (bel_alloc (Below.refl _ _) o)
/-- the cell's own block turned, and its queue -/
theorem CellIn.turn {vq' : Value} {Sq' : List Nat} {c' : CellV} (h : CellIn w b br vq vr vt Sq Sr Sv St c) (hm : Mod [b] w w') (ha : At w' b (cellCs c' vq' vr vt br)) (hq : RdR InpV.cs 5 w' vq' c'.queue Sq') (hS : Into Sq' Sq w.heap.size)
    (h1 : c'.run = c.run) (h2 : c'.rows = c.rows) (h3 : c'.taken = c.taken) : CellIn w' b br vq' vr vt Sq' Sr Sv St c' := by
  have hl := h.lt
  refine ⟨ha, hq, ?_, ?_, ?_, h.sv, h.st, ?_, h.br, h.bv, h.bt, h.qr.into hS (fun x hx => hl x (by simp [hx])), h.qv.into hS (fun x hx => hl x (by simp [hx])), h.qt.into hS (fun x hx => hl x (by simp [hx])), h.rv, h.rt, h.vt⟩
  · rw [h1]
    exact h.r.same fun x hx => hm.block x (h.r.lt x hx) (by simp; rintro rfl; exact h.br hx)
  · rw [h2]
    exact own_mod h.v hm (fun x hx => by simp; rintro rfl; exact h.bv (h.sv ▸ hx))
  · rw [h3]
    exact own_mod h.t hm (fun x hx => by simp; rintro rfl; exact h.bt (h.st ▸ hx))
  · intro hx
    rcases hS b hx with h4 | h4
    · exact h.bq h4
    · have := h.a.lt; omega
theorem CellIn.turn0 {c' : CellV} (h : CellIn w b br vq vr vt Sq Sr Sv St c) (hm : Mod [b] w w') (ha : At w' b (cellCs c' vq vr vt br)) (h0 : c'.queue = c.queue)
    (h1 : c'.run = c.run) (h2 : c'.rows = c.rows) (h3 : c'.taken = c.taken) : CellIn w' b br vq vr vt Sq Sr Sv St c' :=
  h.turn hm ha (by rw [h0]; exact h.q.same fun x hx => hm.block x (h.q.lt x hx) (by simp; rintro rfl; exact h.bq hx)) (Into.refl _ _) h1 h2 h3
theorem CellIn.at_ (h : CellIn w b br vq vr vt Sq Sr Sv St c) : CellAt w b (b :: (Sq ++ (Sr ++ (Sv ++ St)))) c := ⟨br, vq, vr, vt, Sq, Sr, Sv, St, rfl, h⟩
end
theorem CellAt.lt {w : World} {b : Nat} {S : List Nat} {c : CellV} (h : CellAt w b S c) : ∀ x ∈ S, x < w.heap.size := by
  obtain ⟨br, vq, vr, vt, Sq, Sr, Sv, St, rfl, h⟩ := h
  exact h.lt
theorem CellAt.same {w w' : World} {b : Nat} {S : List Nat} {c : CellV} (h : CellAt w b S c) (hs : ∀ x ∈ S, w'.heap[x]? = w.heap[x]?) : CellAt w' b S c := by
  obtain ⟨br, vq, vr, vt, Sq, Sr, Sv, St, rfl, h⟩ := h
  exact (h.same hs).at_
/-- what a cell keeps to: N, how many inputs it had -/
structure CellOk (c : CellV) (N : Nat) : Prop where
  run : RunOk c.run
  id : c.id ≤ 7
  left : 0 ≤ c.left
  left2 : c.left ≤ 1000
  spent : 0 ≤ c.spent
  spent2 : c.spent ≤ (N : Int)
  len : c.queue.length + c.taken.length ≤ N
  rows : c.rows.length + c.run.opn.length + 4 * c.queue.length ≤ 4 * N
theorem refd_any (b : Nat) (n k : Int) (w : World) (h : w.cell? ⟨b, 2, none⟩ = some (.int .i64 n)) (hf : w.frozen? ⟨b, 2, none⟩ = false) :
    Calls Tryz.prog 84 #[.pointer (some ⟨b, 0, none⟩), .int .i64 k] w fun e w' => e = .returned (.int .i64 k) ∧ w' = w.setCell ⟨b, 2, none⟩ (.int .i64 (wrap64 (n + 1))) := by
  go_enter Tryz.func84, Tryz.ntmps84
  go_wp2_with (go_at_call 110; (with_reducible refine (refuse_any b n _ ?_ ?_).mono ?_); (focus go_simp); (focus go_simp); rintro e w1 ⟨⟨u, rfl⟩, rfl⟩)
  go_ret
  exact ⟨rfl, rfl⟩
end Go.Proofs.YtcanfmabkklidaaGreat
set_option linter.unusedSimpArgs false
set_option linter.unusedVariables false
set_option linter.unnecessarySimpa false
namespace Go.Proofs.YtcanfmabkklidaaGreat
open Go.RowKit

theorem CellIn.refused {w : World} {b br : Nat} {vq vr vt : Value} {Sq Sr Sv St : List Nat} {c : CellV} (h : CellIn w b br vq vr vt Sq Sr Sv St c) : CellIn (w.setCell ⟨b, 2, none⟩ (.int .i64 (wrap64 (c.refused + 1)))) b br vq vr vt Sq Sr Sv St c.refuse :=
  h.turn0 (Mod.setCell _ _ _ _) (h.a.set 2 _ (by simp [cellCs])) rfl rfl rfl rfl
set_option maxRecDepth 100000 in
set_option maxHeartbeats 8000000 in
theorem offer_in (b br : Nat) (vq vr vt : Value) (Sq Sr Sv St : List Nat) (c : CellV) (N : Nat) (room : Int) (i : InpV) (w : World) (h : CellIn w b br vq vr vt Sq Sr Sv St c) (ok : CellOk c N) (hN : N ≤ 100000) :
    Calls Tryz.prog 59 #[.pointer (some ⟨b, 0, none⟩), .int .i64 room, i.val] w fun e w' => e = .returned (.int .i64 (c.offer room i).2) ∧ ∃ vq' Sq', CellIn w' b br vq' vr vt Sq' Sr Sv St (c.offer room i).1 ∧ Mod [b] w w' ∧ Into Sq' Sq w.heap.size := by
  have hb := h.a.lt
  obtain ⟨qa, qc, hvq⟩ : ∃ qa qc, vq = .slice qa c.queue.length qc := by obtain ⟨a, c', h, _⟩ := h.q; exact ⟨a, c', h⟩
  subst hvq
  have hlen : c.queue.length ≤ 1000000 := by have := ok.len; omega
  have hid := ok.id
  have hl0 := ok.left
  have hl2 := ok.left2
  have hs0 := ok.spent
  have hs2 := ok.spent2
  have HI := Lib.hid h
  obtain ⟨j, hj⟩ : ∃ j, j = ownI c.id i := ⟨_, rfl⟩
  obtain ⟨okb, hokb⟩ : ∃ okb, okb = ownOk c.id i := ⟨_, rfl⟩
  have HJ := Lib.hid (And.intro hj hokb)
  have HOW := Lib.hid (fun W (hW : CellIn W b br (.slice qa c.queue.length qc) vr vt Sq Sr Sv St c) => own_any b _ i c.id hid W hW.a rfl)
  rw [← hj, ← hokb] at HOW
  obtain ⟨i1, i2, i3, i4, i5⟩ := i
  obtain ⟨o1, o2, o3, o4, o5⟩ := j
  have HI0 := Lib.hid (h.alloc (.cells #[.bool i1, .int .i64 i2, .int .i64 i3, .int .i64 i4, .int .u64 i5] 41))
  clear hj hokb h
  go_enter Tryz.func59, Tryz.ntmps59
  cases okb with
  | false =>
    go_wp2_with (first
      | (go_at_call 83; (with_reducible refine (HOW.out _ HI0.out).mono ?_); rintro e w1 ⟨rfl, hb1⟩; have F := HI0.out.below hb1; have c0 := F.a.c 0 _ rfl; have c1 := F.a.c 1 _ rfl; have c2 := F.a.c 2 _ rfl; have f2 := F.a.f 2; have l1 := F.a.lt; have HF1 := Lib.hid F; have HM1 := Lib.hid (Mod.of_below ((bel_alloc (Below.refl _ _) (.cells #[.bool i1, .int .i64 i2, .int .i64 i3, .int .i64 i4, .int .u64 i5] 41)).trans (hb1.mono (by simp))) [b]); have HF := Lib.hid (F.alloc (.cells #[.bool o1, .int .i64 o2, .int .i64 o3, .int .i64 o4, .int .u64 o5] 41)); have HQ := Lib.hid (At.new w1 #[.bool o1, .int .i64 o2, .int .i64 o3, .int .i64 o4, .int .u64 o5] 41); clear F hb1)
      | (go_at_call 84; (with_reducible refine (refd_any b c.refused 1 _ ?_ ?_).mono ?_); (focus go_simp); (focus go_simp); rintro e w3 ⟨rfl, rfl⟩))
    go_ret
    have e0 : c.offer room ⟨i1, i2, i3, i4, i5⟩ = (c.refuse, 1) := by simp [CellV.offer, ← HJ.out.2]
    rw [e0]
    exact ⟨rfl, _, _, HF1.out.refused.alloc _, (HM1.out.set b 2 _ (.inl (by simp))).new _, Into.refl _ _⟩
  | true =>
    by_cases hlf : c.left = 0
    · have hlf2 : (c.left == 0) = true := by simp [hlf]
      have HL := Lib.hid hlf
      clear hlf
      go_wp2_with (first
        | (go_at_call 83; (with_reducible refine (HOW.out _ HI0.out).mono ?_); rintro e w1 ⟨rfl, hb1⟩; have F := HI0.out.below hb1; have c0 := F.a.c 0 _ rfl; have c1 := F.a.c 1 _ rfl; have c2 := F.a.c 2 _ rfl; have f2 := F.a.f 2; have l1 := F.a.lt; have HF1 := Lib.hid F; have HM1 := Lib.hid (Mod.of_below ((bel_alloc (Below.refl _ _) (.cells #[.bool i1, .int .i64 i2, .int .i64 i3, .int .i64 i4, .int .u64 i5] 41)).trans (hb1.mono (by simp))) [b]); have HF := Lib.hid (F.alloc (.cells #[.bool o1, .int .i64 o2, .int .i64 o3, .int .i64 o4, .int .u64 o5] 41)); have HQ := Lib.hid (At.new w1 #[.bool o1, .int .i64 o2, .int .i64 o3, .int .i64 o4, .int .u64 o5] 41); clear F hb1)
        | (go_at_call 85; (with_reducible refine (left_any c.left c.spent c.refused _).mono ?_); rintro e w4 ⟨rfl, hb4⟩; have F := HF.out.below hb4; have c2 := F.a.c 2 _ rfl; have f2 := F.a.f 2; have l1 := F.a.lt; have HF4 := Lib.hid F; have HB4 := Lib.hid hb4; clear F hb4)
        | (go_at_call 84; (with_reducible refine (refd_any b c.refused 4 _ ?_ ?_).mono ?_); (focus go_simp); (focus go_simp); rintro e w3 ⟨rfl, rfl⟩))
      go_ret
      have e0 : c.offer room ⟨i1, i2, i3, i4, i5⟩ = (c.refuse, 4) := by simp [CellV.offer, ← HJ.out.2, HL.out]
      rw [e0]
      exact ⟨rfl, _, _, HF4.out.refused, (((HM1.out.new _).bel HB4.out).set b 2 _ (.inl (by simp))), Into.refl _ _⟩
    have hlf2 : (c.left == 0) = false := by simp [hlf]
    have HL := Lib.hid hlf
    clear hlf
    by_cases hr : room < (c.queue.length : Int) + 1
    · have HR := Lib.hid hr
      clear hr
      go_wp2_with (first
        | (go_at_call 83; (with_reducible refine (HOW.out _ HI0.out).mono ?_); rintro e w1 ⟨rfl, hb1⟩; have F := HI0.out.below hb1; have c0 := F.a.c 0 _ rfl; have c1 := F.a.c 1 _ rfl; have c2 := F.a.c 2 _ rfl; have f2 := F.a.f 2; have l1 := F.a.lt; have HF1 := Lib.hid F; have HM1 := Lib.hid (Mod.of_below ((bel_alloc (Below.refl _ _) (.cells #[.bool i1, .int .i64 i2, .int .i64 i3, .int .i64 i4, .int .u64 i5] 41)).trans (hb1.mono (by simp))) [b]); have HF := Lib.hid (F.alloc (.cells #[.bool o1, .int .i64 o2, .int .i64 o3, .int .i64 o4, .int .u64 o5] 41)); have HQ := Lib.hid (At.new w1 #[.bool o1, .int .i64 o2, .int .i64 o3, .int .i64 o4, .int .u64 o5] 41); clear F hb1)
        | (go_at_call 85; (with_reducible refine (left_any c.left c.spent c.refused _).mono ?_); rintro e w4 ⟨rfl, hb4⟩; have F := HF.out.below hb4; have HF4 := Lib.hid F; have HQ4 := Lib.hid (HQ.out.below hb4); have HM4 := Lib.hid ((HM1.out.new (.cells #[.bool o1, .int .i64 o2, .int .i64 o3, .int .i64 o4, .int .u64 o5] 41)).bel hb4); have hs4 : w1.heap.size < w4.heap.size := HQ4.out.lt; clear F hb4))
      have hq4 := HF4.out
      refine wp_region_pl (fun x => At x w1.heap.size [.bool o1, .int .i64 o2, .int .i64 o3, .int .i64 o4, .int .u64 o5]) (.take 0 <| .take 1 <| .take 2 <| .take 3 <| .take 4 <| .doo 5 <| .doo 6 <| .take 7 <| .take 8 <| .done) ?plXA (by kernel_rfl) (by kernel_rfl) (by kernel_rfl) ?plXB (by intro c a d v w; cases d <;> exact fun h => h) ?plXC ?_
      case plXB =>
        simp only [Pl.with, List.getElem?_toArray, List.getElem?_cons_zero, List.getElem?_cons_succ]
        try rfl
      case plXC => exact HQ4.out.drew
      have q0 : ∀ x, (fun x => At x w1.heap.size [.bool o1, .int .i64 o2, .int .i64 o3, .int .i64 o4, .int .u64 o5]) x → x.cell? ⟨w1.heap.size, 0, none⟩ = some (.bool o1) := fun x h => h.c 0 _ rfl
      have q1 : ∀ x, (fun x => At x w1.heap.size [.bool o1, .int .i64 o2, .int .i64 o3, .int .i64 o4, .int .u64 o5]) x → x.cell? ⟨w1.heap.size, 1, none⟩ = some (.int .i64 o2) := fun x h => h.c 1 _ rfl
      have q2 : ∀ x, (fun x => At x w1.heap.size [.bool o1, .int .i64 o2, .int .i64 o3, .int .i64 o4, .int .u64 o5]) x → x.cell? ⟨w1.heap.size, 2, none⟩ = some (.int .i64 o3) := fun x h => h.c 2 _ rfl
      have q3 : ∀ x, (fun x => At x w1.heap.size [.bool o1, .int .i64 o2, .int .i64 o3, .int .i64 o4, .int .u64 o5]) x → x.cell? ⟨w1.heap.size, 3, none⟩ = some (.int .i64 o4) := fun x h => h.c 3 _ rfl
      have q4 : ∀ x, (fun x => At x w1.heap.size [.bool o1, .int .i64 o2, .int .i64 o3, .int .i64 o4, .int .u64 o5]) x → x.cell? ⟨w1.heap.size, 4, none⟩ = some (.int .u64 o5) := fun x h => h.c 4 _ rfl
      iterate 5 (refine wpPl_take (v := ?_) (by rfl) (fun w' hS => ?_) ?_; rotate_left; (focus (go_simp; with_reducible rfl)); simp only [Act.put, List.setIfInBounds_toArray, List.set_cons_zero, List.set_cons_succ])
      refine wpPl_do (by rfl) (fun K hK => ?_)
      go_wp2_with fail
      refine ⟨(HQ4.out.alloc _).drew, ?_⟩
      refine wpPl_do (by rfl) (fun K hK => ?_)
      clear hq4
      have HF5 := Lib.hid ((HF4.out.alloc (.cells #[.bool o1, .int .i64 o2, .int .i64 o3, .int .i64 o4, .int .u64 o5] 41)).drew)
      have HG5 := Lib.hid (show At (w4.alloc (.cells #[.bool o1, .int .i64 o2, .int .i64 o3, .int .i64 o4, .int .u64 o5] 41)).drew w4.heap.size (InpV.cs ⟨o1, o2, o3, o4, o5⟩) from (At.new _ _ _).drew)
      have HQ5 := Lib.hid ((HQ4.out.alloc (.cells #[.bool o1, .int .i64 o2, .int .i64 o3, .int .i64 o4, .int .u64 o5] 41)).drew)
      have HM5 := Lib.hid ((HM4.out.new (.cells #[.bool o1, .int .i64 o2, .int .i64 o3, .int .i64 o4, .int .u64 o5] 41)).draw)
      go_wp2_with (go_at_call 86; (with_reducible refine (push_no b _ _ c.queue Sq room ⟨w4.heap.size, 0, none⟩ 1 _ HF5.out.a rfl HF5.out.q hlen HR.out).mono ?_); rintro e w6 ⟨rfl, rfl⟩)
      refine ⟨HQ5.out, ?_⟩
      iterate 2 (refine wpPl_take (v := ?_) (by rfl) (fun w' hS => ?_) ?_; rotate_left; (focus (go_simp; with_reducible rfl)); simp only [Act.put, List.setIfInBounds_toArray, List.set_cons_zero, List.set_cons_succ])
      refine wpPl_done ?_
      clear q0 q1 q2 q3 q4
      have c2 := HF4.out.a.c 2 _ rfl
      have f2 := HF4.out.a.f 2
      have l4 := HF4.out.a.lt
      go_wp2_with (go_at_call 84; (with_reducible refine (refd_any b c.refused 3 _ ?_ ?_).mono ?_); (focus go_simp); (focus go_simp); rintro e w3 ⟨rfl, rfl⟩)
      go_ret
      have e0 : c.offer room ⟨i1, i2, i3, i4, i5⟩ = (c.refuse, 3) := by
        have h1 := HL.out
        have h2 := HR.out
        simp [CellV.offer, ← HJ.out.2, h1, h2]
      rw [e0]
      exact ⟨rfl, _, _, ((HF4.out.refused).alloc _).drew, ((HM4.out.set b 2 _ (.inl (by simp))).new _).draw, Into.refl _ _⟩
    · have HR := Lib.hid hr
      clear hr
      go_wp2_with (first
        | (go_at_call 83; (with_reducible refine (HOW.out _ HI0.out).mono ?_); rintro e w1 ⟨rfl, hb1⟩; have F := HI0.out.below hb1; have c0 := F.a.c 0 _ rfl; have c1 := F.a.c 1 _ rfl; have c2 := F.a.c 2 _ rfl; have f2 := F.a.f 2; have l1 := F.a.lt; have HF1 := Lib.hid F; have HM1 := Lib.hid (Mod.of_below ((bel_alloc (Below.refl _ _) (.cells #[.bool i1, .int .i64 i2, .int .i64 i3, .int .i64 i4, .int .u64 i5] 41)).trans (hb1.mono (by simp))) [b]); have HF := Lib.hid (F.alloc (.cells #[.bool o1, .int .i64 o2, .int .i64 o3, .int .i64 o4, .int .u64 o5] 41)); have HQ := Lib.hid (At.new w1 #[.bool o1, .int .i64 o2, .int .i64 o3, .int .i64 o4, .int .u64 o5] 41); clear F hb1)
        | (go_at_call 85; (with_reducible refine (left_any c.left c.spent c.refused _).mono ?_); rintro e w4 ⟨rfl, hb4⟩; have F := HF.out.below hb4; have HF4 := Lib.hid F; have HQ4 := Lib.hid (HQ.out.below hb4); have HM4 := Lib.hid ((HM1.out.new (.cells #[.bool o1, .int .i64 o2, .int .i64 o3, .int .i64 o4, .int .u64 o5] 41)).bel hb4); have hs4 : w1.heap.size < w4.heap.size := HQ4.out.lt; clear F hb4))
      have hq4 := HF4.out
      refine wp_region_pl (fun x => At x w1.heap.size [.bool o1, .int .i64 o2, .int .i64 o3, .int .i64 o4, .int .u64 o5]) (.take 0 <| .take 1 <| .take 2 <| .take 3 <| .take 4 <| .doo 5 <| .doo 6 <| .take 7 <| .take 8 <| .done) ?plYA (by kernel_rfl) (by kernel_rfl) (by kernel_rfl) ?plYB (by intro c a d v w; cases d <;> exact fun h => h) ?plYC ?_
      case plYB =>
        simp only [Pl.with, List.getElem?_toArray, List.getElem?_cons_zero, List.getElem?_cons_succ]
        try rfl
      case plYC => exact HQ4.out.drew
      have q0 : ∀ x, (fun x => At x w1.heap.size [.bool o1, .int .i64 o2, .int .i64 o3, .int .i64 o4, .int .u64 o5]) x → x.cell? ⟨w1.heap.size, 0, none⟩ = some (.bool o1) := fun x h => h.c 0 _ rfl
      have q1 : ∀ x, (fun x => At x w1.heap.size [.bool o1, .int .i64 o2, .int .i64 o3, .int .i64 o4, .int .u64 o5]) x → x.cell? ⟨w1.heap.size, 1, none⟩ = some (.int .i64 o2) := fun x h => h.c 1 _ rfl
      have q2 : ∀ x, (fun x => At x w1.heap.size [.bool o1, .int .i64 o2, .int .i64 o3, .int .i64 o4, .int .u64 o5]) x → x.cell? ⟨w1.heap.size, 2, none⟩ = some (.int .i64 o3) := fun x h => h.c 2 _ rfl
      have q3 : ∀ x, (fun x => At x w1.heap.size [.bool o1, .int .i64 o2, .int .i64 o3, .int .i64 o4, .int .u64 o5]) x → x.cell? ⟨w1.heap.size, 3, none⟩ = some (.int .i64 o4) := fun x h => h.c 3 _ rfl
      have q4 : ∀ x, (fun x => At x w1.heap.size [.bool o1, .int .i64 o2, .int .i64 o3, .int .i64 o4, .int .u64 o5]) x → x.cell? ⟨w1.heap.size, 4, none⟩ = some (.int .u64 o5) := fun x h => h.c 4 _ rfl
      iterate 5 (refine wpPl_take (v := ?_) (by rfl) (fun w' hS => ?_) ?_; rotate_left; (focus (go_simp; with_reducible rfl)); simp only [Act.put, List.setIfInBounds_toArray, List.set_cons_zero, List.set_cons_succ])
      refine wpPl_do (by rfl) (fun K hK => ?_)
      go_wp2_with fail
      refine ⟨(HQ4.out.alloc _).drew, ?_⟩
      refine wpPl_do (by rfl) (fun K hK => ?_)
      clear hq4
      have HF5 := Lib.hid ((HF4.out.alloc (.cells #[.bool o1, .int .i64 o2, .int .i64 o3, .int .i64 o4, .int .u64 o5] 41)).drew)
      have HG5 := Lib.hid (show At (w4.alloc (.cells #[.bool o1, .int .i64 o2, .int .i64 o3, .int .i64 o4, .int .u64 o5] 41)).drew w4.heap.size (InpV.cs ⟨o1, o2, o3, o4, o5⟩) from (At.new _ _ _).drew)
      have HQ5 := Lib.hid ((HQ4.out.alloc (.cells #[.bool o1, .int .i64 o2, .int .i64 o3, .int .i64 o4, .int .u64 o5] 41)).drew)
      have HM5 := Lib.hid ((HM4.out.new (.cells #[.bool o1, .int .i64 o2, .int .i64 o3, .int .i64 o4, .int .u64 o5] 41)).draw)
      go_wp2_with (go_at_call 86; (with_reducible refine (push_any b _ _ c.queue Sq room ⟨o1, o2, o3, o4, o5⟩ w4.heap.size 1 _ HF5.out.a rfl HF5.out.q hlen (by have := HR.out; omega) HG5.out).mono ?_); rintro e w6 ⟨rfl, ⟨v6, S6, ha6, hr6, hn6⟩, hm6⟩; have HA6 := Lib.hid ha6; have HR6 := Lib.hid hr6; have HN6 := Lib.hid hn6; have HM6 := Lib.hid hm6; clear ha6 hr6 hn6 hm6)
      refine ⟨HQ5.out.mod HM6.out (by simp; have := HF.out.a.lt; have := HI0.out.a.lt; omega), ?_⟩
      iterate 2 (refine wpPl_take (v := ?_) (by rfl) (fun w' hS => ?_) ?_; rotate_left; (focus (go_simp; with_reducible rfl)); simp only [Act.put, List.setIfInBounds_toArray, List.set_cons_zero, List.set_cons_succ])
      refine wpPl_done ?_
      clear q0 q1 q2 q3 q4
      have hb6 := HA6.out.lt
      have HA7 := Lib.hid (show At (w6.alloc (.cells #[.int .i64 1] 3)) b (.int .i64 c.left :: .int .i64 c.spent :: [.int .i64 c.refused, v6, .pointer (some ⟨br, 0, none⟩), .int .i64 c.id, vr, vt]) from HA6.out.alloc _)
      have HG7 := Lib.hid (At.new w6 #[.int .i64 1] 3)
      have hl1 : 1 ≤ c.left := by have := HL.out; omega
      go_wp2_with (go_at_call 87; (with_reducible refine (spend_any b c.left c.spent _ w6.heap.size _ HA7.out HG7.out (by omega) hl1 (by omega) hs0 (by omega)).mono ?_); rintro e w8 ⟨rfl, ha8, hm8⟩; have HA8 := Lib.hid ha8; have HM8 := Lib.hid hm8; clear ha8 hm8)
      go_ret
      have e0 : c.offer room ⟨i1, i2, i3, i4, i5⟩ = ({ c with queue := c.queue ++ [⟨o1, o2, o3, o4, o5⟩], left := c.left - 1, spent := c.spent + 1 }, 0) := by
        have h1 := HL.out
        have h2 := HR.out
        simp [CellV.offer, ← HJ.out.2, h1, h2, ← HJ.out.1]
      rw [e0]
      have M7 : Mod [b] ((w4.alloc (.cells #[.bool o1, .int .i64 o2, .int .i64 o3, .int .i64 o4, .int .u64 o5] 41)).drew) w8 := (HM6.out.new _).trans HM8.out (Into.refl _ _)
      have hsz := HM5.out.size
      have hin : Into S6 Sq ((w4.alloc (.cells #[.bool o1, .int .i64 o2, .int .i64 o3, .int .i64 o4, .int .u64 o5] 41)).drew).heap.size := Into.new HN6.out _
      refine ⟨rfl, v6, S6, HF5.out.turn (c' := { c with queue := c.queue ++ [⟨o1, o2, o3, o4, o5⟩], left := c.left - 1, spent := c.spent + 1 }) M7 HA8.out ?_ hin rfl rfl rfl, HM5.out.then M7, Into.new (fun x hx => Nat.le_trans hsz (HN6.out x hx)) _⟩
      refine HR6.out.same fun x hx => ?_
      have hx6 := HR6.out.lt x hx
      have hbx : x ≠ b := by
        have := HN6.out x hx
        have := HF5.out.a.lt
        omega
      exact ((Mod.refl [b] w6).new (.cells #[.int .i64 1] 3) |>.trans HM8.out (Into.refl _ _)).block x hx6 (by simpa using hbx)
end Go.Proofs.YtcanfmabkklidaaGreat
set_option linter.unusedSimpArgs false
set_option linter.unusedVariables false
set_option linter.unnecessarySimpa false
namespace Go.Proofs.YtcanfmabkklidaaGreat
open Go.RowKit

set_option maxRecDepth 100000 in
set_option maxHeartbeats 8000000 in
theorem feed_in (b br : Nat) (vq vr vt : Value) (Sq Sr Sv St : List Nat) (c : CellV) (N : Nat) (e : EvV) (w : World) (h : CellIn w b br vq vr vt Sq Sr Sv St c) (ok : CellOk c N) (hN : N ≤ 100000) :
    Calls Tryz.prog 108 #[.pointer (some ⟨b, 0, none⟩), e.val] w fun x w' => (∃ u, x = .returned u) ∧ ∃ vq' Sq', CellIn w' b br vq' vr vt Sq' Sr Sv St (c.feed e) ∧ Mod [b] w w' ∧ Into Sq' Sq w.heap.size := by
  have hb := h.a.lt
  have hlen : c.queue.length ≤ 1000000 := by have := ok.len; omega
  obtain ⟨e1, e2, e3, e4⟩ := e
  have HF0 := Lib.hid (h.alloc (.cells #[.int .i64 e1, .int .i64 e2, .int .i64 e3, .int .u64 e4] 39))
  have HE0 := Lib.hid (At.new w #[.int .i64 e1, .int .i64 e2, .int .i64 e3, .int .u64 e4] 39)
  have HM0 := Lib.hid ((Mod.refl [b] w).new (.cells #[.int .i64 e1, .int .i64 e2, .int .i64 e3, .int .u64 e4] 39))
  clear h
  by_cases hr : evR e1 e2 e3 e4
  · have hd : decide (evR e1 e2 e3 e4) = true := decide_eq_true hr
    have HD := Lib.hid hd
    have e0 : c.feed ⟨e1, e2, e3, e4⟩ = { c with queue := c.queue ++ [⟨false, e1, e2, e3, e4⟩] } := by simp [CellV.feed, hr]
    rw [e0]
    clear hr hd e0
    go_enter Tryz.func108, Tryz.ntmps108
    go_wp2_with (go_at_call 109; (with_reducible refine (event_right e1 e2 e3 e4 _).mono ?_); rintro x w1 ⟨rfl, hb1⟩; rw [HD.out]; have HF1 := Lib.hid (HF0.out.below hb1); have HE1 := Lib.hid (HE0.out.below hb1); have HM1 := Lib.hid (HM0.out.bel hb1); clear hb1)
    refine wp_region_pl (fun x => At x w.heap.size [.int .i64 e1, .int .i64 e2, .int .i64 e3, .int .u64 e4]) (.take 0 <| .take 1 <| .take 2 <| .take 3 <| .take 4 <| .doo 5 <| .doo 6 <| .done) ?plA (by kernel_rfl) (by kernel_rfl) (by kernel_rfl) ?plB (by intro c a d v w; cases d <;> exact fun h => h) ?plC ?_
    case plB =>
      simp only [Pl.with, List.getElem?_toArray, List.getElem?_cons_zero, List.getElem?_cons_succ]
      try rfl
    case plC => exact HE1.out.drew
    have q0 : ∀ x, (fun x => At x w.heap.size [.int .i64 e1, .int .i64 e2, .int .i64 e3, .int .u64 e4]) x → x.cell? ⟨w.heap.size, 0, none⟩ = some (.int .i64 e1) := fun x h => h.c 0 _ rfl
    have q1 : ∀ x, (fun x => At x w.heap.size [.int .i64 e1, .int .i64 e2, .int .i64 e3, .int .u64 e4]) x → x.cell? ⟨w.heap.size, 1, none⟩ = some (.int .i64 e2) := fun x h => h.c 1 _ rfl
    have q2 : ∀ x, (fun x => At x w.heap.size [.int .i64 e1, .int .i64 e2, .int .i64 e3, .int .u64 e4]) x → x.cell? ⟨w.heap.size, 2, none⟩ = some (.int .i64 e3) := fun x h => h.c 2 _ rfl
    have q3 : ∀ x, (fun x => At x w.heap.size [.int .i64 e1, .int .i64 e2, .int .i64 e3, .int .u64 e4]) x → x.cell? ⟨w.heap.size, 3, none⟩ = some (.int .u64 e4) := fun x h => h.c 3 _ rfl
    iterate 5 (refine wpPl_take (v := ?_) (by rfl) (fun w' hS => ?_) ?_; rotate_left; (focus (go_simp; with_reducible rfl)); simp only [Act.put, List.setIfInBounds_toArray, List.set_cons_zero, List.set_cons_succ])
    refine wpPl_do (by rfl) (fun K hK => ?_)
    go_wp2_with fail
    refine ⟨(HE1.out.alloc _).drew, ?_⟩
    refine wpPl_do (by rfl) (fun K hK => ?_)
    have HF5 := Lib.hid ((HF1.out.alloc (.cells #[.bool false, .int .i64 e1, .int .i64 e2, .int .i64 e3, .int .u64 e4] 41)).drew)
    have HG5 := Lib.hid (show At (w1.alloc (.cells #[.bool false, .int .i64 e1, .int .i64 e2, .int .i64 e3, .int .u64 e4] 41)).drew w1.heap.size (InpV.cs ⟨false, e1, e2, e3, e4⟩) from (At.new _ _ _).drew)
    have HE5 := Lib.hid ((HE1.out.alloc (.cells #[.bool false, .int .i64 e1, .int .i64 e2, .int .i64 e3, .int .u64 e4] 41)).drew)
    have HM5 := Lib.hid ((HM1.out.new (.cells #[.bool false, .int .i64 e1, .int .i64 e2, .int .i64 e3, .int .u64 e4] 41)).draw)
    go_wp2_with (go_at_call 86; (with_reducible refine (push_any b _ _ c.queue Sq 9223372036854775807 ⟨false, e1, e2, e3, e4⟩ w1.heap.size 1 _ HF5.out.a rfl HF5.out.q hlen (by omega) HG5.out).mono ?_); rintro x w6 ⟨rfl, ⟨v6, S6, ha6, hr6, hn6⟩, hm6⟩; have HA6 := Lib.hid ha6; have HR6 := Lib.hid hr6; have HN6 := Lib.hid hn6; have HM6 := Lib.hid hm6; clear ha6 hr6 hn6 hm6)
    refine ⟨HE5.out.mod HM6.out (by simp; omega), ?_⟩
    refine wpPl_done ?_
    clear q0 q1 q2 q3
    go_wp2
    go_end0
    have hsz := HM5.out.size
    have hin : Into S6 Sq ((w1.alloc (.cells #[.bool false, .int .i64 e1, .int .i64 e2, .int .i64 e3, .int .u64 e4] 41)).drew).heap.size := Into.new HN6.out _
    exact ⟨⟨_, rfl⟩, v6, S6, HF5.out.turn (c' := { c with queue := c.queue ++ [⟨false, e1, e2, e3, e4⟩] }) HM6.out HA6.out HR6.out hin rfl rfl rfl, HM5.out.then HM6.out, Into.new (fun x hx => Nat.le_trans hsz (HN6.out x hx)) _⟩
  · have hd : decide (evR e1 e2 e3 e4) = false := decide_eq_false hr
    have HD := Lib.hid hd
    have e0 : c.feed ⟨e1, e2, e3, e4⟩ = c := by simp [CellV.feed, hr]
    rw [e0]
    clear hr hd e0
    go_enter Tryz.func108, Tryz.ntmps108
    go_wp2_with (go_at_call 109; (with_reducible refine (event_right e1 e2 e3 e4 _).mono ?_); rintro x w1 ⟨rfl, hb1⟩; rw [HD.out]; have HF1 := Lib.hid (HF0.out.below hb1); have HE1 := Lib.hid (HE0.out.below hb1); have HM1 := Lib.hid (HM0.out.bel hb1); clear hb1)
    go_end0
    exact ⟨⟨_, rfl⟩, vq, Sq, HF1.out, HM1.out, Into.refl _ _⟩
end Go.Proofs.YtcanfmabkklidaaGreat
set_option linter.unusedSimpArgs false
set_option linter.unusedVariables false
set_option linter.unnecessarySimpa false
namespace Go.Proofs.YtcanfmabkklidaaGreat
open Go.RowKit

section
variable {w w' w2 : World} {b br : Nat} {vq vr vt : Value} {Sq Sr Sv St : List Nat} {c : CellV}
/-- the runner turned -/
theorem CellIn.ran {r' : RunV} (h : CellIn w b br vq vr vt Sq Sr Sv St c) (hm : Mod Sr w w') (hr : RunAt w' br Sr r') : CellIn w' b br vq vr vt Sq Sr Sv St { c with run := r' } :=
  ⟨h.a.mod hm h.br, h.q.same (fun x hx => hm.block x (h.q.lt x hx) (h.qr x hx)), hr, own_mod h.v hm (fun x hx h1 => h.rv x h1 (h.sv ▸ hx)), own_mod h.t hm (fun x hx h1 => h.rt x h1 (h.st ▸ hx)),
    h.sv, h.st, h.bq, h.br, h.bv, h.bt, h.qr, h.qv, h.qt, h.rv, h.rt, h.vt⟩
theorem into_own {v v' : Value} {n : Nat} (h : v'.ownBlock = v.ownBlock ∨ v'.ownBlock = some n) : Into v'.ownBlock.toList v.ownBlock.toList n := fun x hx => by
  rcases h with h | h
  · exact .inl (by rw [← h]; exact hx)
  · rw [h] at hx
    simp at hx
    exact .inr (by omega)
/-- what was taken grew -/
theorem CellIn.took {vt' : Value} {l : List InpV} (h : CellIn w b br vq vr vt Sq Sr Sv St c) (hg : w.grownBy w2 vt.ownBlock) (ho : w2.ownsRow 0 41 5 vt' (c.taken ++ l).length ((c.taken ++ l).flatMap InpV.cs)) (hb : vt'.ownBlock = vt.ownBlock ∨ vt'.ownBlock = some w.heap.size) :
    CellIn (w2.setCell ⟨b, 7, none⟩ vt') b br vq vr vt' Sq Sr Sv vt'.ownBlock.toList { c with taken := c.taken ++ l } := by
  have hl := h.lt
  have hi := into_own hb
  have hm : Mod (b :: St) w (w2.setCell ⟨b, 7, none⟩ vt') := ((Mod.of_grown hg _ (fun k hk => .inl (by simp [h.st, hk])))).set b 7 _ (.inl (by simp))
  have hbt : b ∉ vt'.ownBlock.toList := fun hx => by
    rcases hi b hx with h1 | h1
    · exact h.bt (h.st ▸ h1)
    · have := h.a.lt; omega
  refine ⟨?_, h.q.same (fun x hx => hm.block x (h.q.lt x hx) ?_), h.r.same (fun x hx => hm.block x (h.r.lt x hx) ?_), own_mod h.v hm (fun x hx => ?_), own_mod ho (Mod.setCell _ _ _ _) (fun x hx => ?_), h.sv, rfl, h.bq, h.br, h.bv, hbt, h.qr, h.qv, ?_, h.rv, ?_, ?_⟩
  · have hA : At w2 b (cellCs c vq vr vt br) := h.a.grown hg (fun k hk e => h.bt (by rw [h.st, hk]; simp [e]))
    exact hA.set 7 vt' (by simp [cellCs])
  · simp only [List.mem_cons, not_or]
    exact ⟨fun e => h.bq (e ▸ hx), h.qt x hx⟩
  · simp only [List.mem_cons, not_or]
    exact ⟨fun e => h.br (e ▸ hx), h.rt x hx⟩
  · simp only [List.mem_cons, not_or]
    exact ⟨fun e => h.bv (by rw [h.sv]; exact e ▸ hx), h.vt x (h.sv ▸ hx)⟩
  · simp only [List.mem_singleton]
    exact fun e => hbt (e ▸ hx)
  · exact (Dis.into (h.st ▸ h.qt.symm) hi (fun x hx => hl x (by simp [hx]))).symm
  · exact (Dis.into (h.st ▸ h.rt.symm) hi (fun x hx => hl x (by simp [hx]))).symm
  · exact (Dis.into (h.st ▸ h.vt.symm) hi (fun x hx => hl x (by simp [hx]))).symm
/-- the rows grew -/
theorem CellIn.rowed {vr' : Value} {l : List RowV} (h : CellIn w b br vq vr vt Sq Sr Sv St c) (hg : w.grownBy w2 vr.ownBlock) (ho : w2.ownsRow 0 64 5 vr' (c.rows ++ l).length ((c.rows ++ l).flatMap RowV.cs)) (hb : vr'.ownBlock = vr.ownBlock ∨ vr'.ownBlock = some w.heap.size) :
    CellIn (w2.setCell ⟨b, 6, none⟩ vr') b br vq vr' vt Sq Sr vr'.ownBlock.toList St { c with rows := c.rows ++ l } := by
  have hl := h.lt
  have hi := into_own hb
  have hm : Mod (b :: Sv) w (w2.setCell ⟨b, 6, none⟩ vr') := ((Mod.of_grown hg _ (fun k hk => .inl (by simp [h.sv, hk])))).set b 6 _ (.inl (by simp))
  have hbt : b ∉ vr'.ownBlock.toList := fun hx => by
    rcases hi b hx with h1 | h1
    · exact h.bv (h.sv ▸ h1)
    · have := h.a.lt; omega
  refine ⟨?_, h.q.same (fun x hx => hm.block x (h.q.lt x hx) ?_), h.r.same (fun x hx => hm.block x (h.r.lt x hx) ?_), own_mod ho (Mod.setCell _ _ _ _) (fun x hx => ?_), own_mod h.t hm (fun x hx => ?_), rfl, h.st, h.bq, h.br, hbt, h.bt, h.qr, ?_, h.qt, ?_, h.rt, ?_⟩
  · have hA : At w2 b (cellCs c vq vr vt br) := h.a.grown hg (fun k hk e => h.bv (by rw [h.sv, hk]; simp [e]))
    exact hA.set 6 vr' (by simp [cellCs])
  · simp only [List.mem_cons, not_or]
    exact ⟨fun e => h.bq (e ▸ hx), h.qv x hx⟩
  · simp only [List.mem_cons, not_or]
    exact ⟨fun e => h.br (e ▸ hx), h.rv x hx⟩
  · simp only [List.mem_singleton]
    exact fun e => hbt (e ▸ hx)
  · simp only [List.mem_cons, not_or]
    exact ⟨fun e => h.bt (by rw [h.st]; exact e ▸ hx), fun h1 => h.vt x h1 (h.st ▸ hx)⟩
  · exact (Dis.into (h.sv ▸ h.qv.symm) hi (fun x hx => hl x (by simp [hx]))).symm
  · exact (Dis.into (h.sv ▸ h.rv.symm) hi (fun x hx => hl x (by simp [hx]))).symm
  · exact Dis.into (h.sv ▸ h.vt) hi (fun x hx => hl x (by simp [hx]))
end
theorem take_at (b : Nat) (S : List Nat) (r : RunV) (vi : Value) (l : List InpV) (Si : List Nat) (w : World) (h : RunAt w b S r) (ok : RunOk r) (hi : RdR InpV.cs 5 w vi l Si) (hd : ∀ x ∈ S, x ∉ Si) (hl : r.opn.length + 4 * l.length ≤ 1000000) :
    Calls Tryz.prog 44 #[.pointer (some ⟨b, 0, none⟩), vi] w fun x w' => ∃ v, x = .returned v ∧ w'.ownsRow w.heap.size 64 5 v (r.take l).2.length ((r.take l).2.flatMap RowV.cs) ∧ RunAt w' b S (r.take l).1 ∧ Mod S w w' := by
  obtain ⟨bp, bm, vo, So, rfl, h⟩ := h
  refine (take_in b bp bm vo So r vi l Si w h ok hi hd hl).mono ?_
  rintro x w' ⟨v, rfl, h1, h2, h3⟩
  exact ⟨v, rfl, h1, ⟨bp, bm, vo, So, rfl, h2⟩, h3⟩
theorem popN_le (n : Int) (k : Nat) : popN n k ≤ k := by unfold popN; omega
theorem inpOne : ∀ (x : InpV), ∀ u ∈ x.cs, u.oneCell' = true := InpV.one
set_option maxRecDepth 100000 in
set_option maxHeartbeats 8000000 in
theorem serve_in (b br : Nat) (vq vr vt : Value) (Sq Sr Sv St : List Nat) (c : CellV) (N : Nat) (n : Int) (w : World) (h : CellIn w b br vq vr vt Sq Sr Sv St c) (ok : CellOk c N) (hN : N ≤ 100000) :
    Calls Tryz.prog 107 #[.pointer (some ⟨b, 0, none⟩), .int .i64 n] w fun x w' => ∃ vo So, x = .returned vo ∧ RdR RowV.cs 5 w' vo (c.serve n).2 So ∧ (∀ y ∈ So, w.heap.size ≤ y) ∧
      ∃ S', CellAt w' b S' (c.serve n).1 ∧ Mod (b :: (Sq ++ (Sr ++ (Sv ++ St)))) w w' ∧ Into S' (b :: (Sq ++ (Sr ++ (Sv ++ St)))) w.heap.size := by
  have hb := h.a.lt
  have hlen : c.queue.length ≤ 1000000 := by have := ok.len; omega
  have htk : c.taken.length + c.queue.length ≤ 1000000 := by have := ok.len; omega
  obtain ⟨k, hk⟩ : ∃ k, k = popN n c.queue.length := ⟨_, rfl⟩
  have hkl : k ≤ c.queue.length := hk ▸ popN_le n c.queue.length
  have hrk := ok.run.take (c.queue.take k)
  have hlk : (c.queue.take k).length = k := by simp; omega
  have hbig : c.run.opn.length + 4 * (c.queue.take k).length ≤ 1000000 := by have := ok.rows; omega
  have hrw : c.rows.length + (c.run.take (c.queue.take k)).2.length ≤ 1000000 := by have := hrk.2.1; have := ok.rows; omega
  have HRUN := Lib.hid ok.run
  have HK := Lib.hid hk
  have es : c.serve n = ({ c with queue := c.queue.drop k, taken := c.taken ++ c.queue.take k, run := (c.run.take (c.queue.take k)).1, rows := c.rows ++ (c.run.take (c.queue.take k)).2 }, (c.run.take (c.queue.take k)).2) := by simp [CellV.serve, ← hk]
  rw [es]
  obtain ⟨r2, hr2⟩ : ∃ r2, r2 = (c.run.take (c.queue.take k)).1 := ⟨_, rfl⟩
  obtain ⟨out, hout⟩ : ∃ out, out = (c.run.take (c.queue.take k)).2 := ⟨_, rfl⟩
  rw [← hr2, ← hout]
  rw [← hout] at hrw
  have HR2 := Lib.hid (And.intro hr2 hout)
  have HH := Lib.hid h
  have HPOP := Lib.hid (pop_any b _ vq c.queue Sq n w h.a rfl h.q hlen h.bq)
  rw [← hk] at HPOP
  obtain ⟨i0, hi3, hz0, hz1, hz2⟩ := info_parts info29
  have HI := Lib.hid (And.intro hi3 (And.intro hz0 (And.intro hz1 hz2)))
  obtain ⟨i1, hj3, hy0, hy1, hy2⟩ := info_parts info64
  have HJ := Lib.hid (And.intro hj3 (And.intro hy0 (And.intro hy1 hy2)))
  clear h hk es hrk hr2 hout hi3 hz0 hz1 hz2 hj3 hy0 hy1 hy2 ok
  go_enter Tryz.func107, Tryz.ntmps107
  obtain ⟨ta, tc, rfl⟩ := own_shape2 HH.out.t
  obtain ⟨ra, rc, rfl⟩ := own_shape2 HH.out.v
  go_wp2_with (first
    | (go_at_call 122; (with_reducible refine HPOP.out.mono ?_); rintro x w1 ⟨v1, v', S', rfl, ha1, hq1, hs1, ho1, hm1⟩; obtain ⟨pa, pc, rfl⟩ := own_shape2 ho1; have HC1 := Lib.hid (HH.out.turn (c' := { c with queue := c.queue.drop k }) hm1 ha1 hq1 (Into.sub hs1 _) rfl rfl rfl); have HO1 := Lib.hid ho1; have HM1 := Lib.hid hm1; have HS1 := Lib.hid hs1; have c7 := HC1.out.a.c 7 _ rfl; have l1 := HC1.out.a.lt; clear ha1 hq1 hs1 ho1 hm1)
    | (at_builtin; refine wpList_append_rdr_at rfl (.tmp 16) (.tmp 17) 69 rfl 0 41 i0 _ 5 40 Tryz.underlying69 HI.out.1 HI.out.2.1 HI.out.2.2.1 HI.out.2.2.2 rfl (by decide) (by decide) inpcs_len InpV.one (.slice ta c.taken.length tc) c.taken rfl HC1.out.t (.slice pa k pc) (c.queue.take k) _ rfl (RdR.of_own inpcs_len (by rw [hlk]; exact HO1.out)) (by rw [hlk]; omega) (Nat.zero_le _) ?_; intro v2 w2 hown2 hgrow2 hat2; have HC2 := Lib.hid (HC1.out.took hgrow2 hown2 hat2); have HG2 := Lib.hid hgrow2; have HT2 := Lib.hid hat2; have A2 := HC1.out.a.grown hgrow2 (fun y hy e => HC1.out.bt (by rw [HC1.out.st, hy]; simp [e])); have c7 := A2.c 7 _ rfl; have f7 := A2.f 7; have l2 := A2.lt; have c4 := A2.c 4 _ rfl; obtain ⟨ta2, tc2, rfl⟩ := own_shape2 hown2; clear A2 hown2 hgrow2 hat2))
  obtain ⟨W3, hW3⟩ : ∃ W3, W3 = w2.setCell ⟨b, 7, none⟩ (.slice ta2 (c.taken.length + k) tc2) := ⟨_, rfl⟩
  have e3 : (c.taken ++ c.queue.take k).length = c.taken.length + k := by rw [List.length_append, hlk]
  have C3 := HC2.out
  have T2 := HT2.out
  rw [e3] at C3 T2
  rw [← hW3] at C3 ⊢
  have HC3 := Lib.hid C3
  have hSl := HH.out.lt
  have HM3 : Mod (b :: St) w1 W3 := by
    rw [hW3]
    exact (Mod.of_grown HG2.out (b :: St) (fun y hy => .inl (by rw [HC1.out.st, hy]; simp))).set b 7 _ (.inl (by simp))
  have HO3 := Lib.hid (own_mod HO1.out HM3 (fun x hx => by
    have h1 := own_new HO1.out x hx
    simp only [List.mem_cons, not_or]
    refine ⟨by omega, fun h2 => ?_⟩
    have := hSl x (by simp [h2])
    omega))
  have HM3' := Lib.hid HM3
  have c6 := C3.a.c 6 _ rfl
  clear C3 hW3 e3 c7 f7 l2 c4 HM3
  have HTK := Lib.hid (take_at br Sr c.run (.slice pa k pc) (c.queue.take k) _ W3 HC3.out.r HRUN.out (RdR.of_own inpcs_len (by rw [hlk]; exact HO3.out)) (fun x hx h1 => by
    have h2 := own_new HO3.out x h1
    have := hSl x (by simp [hx])
    omega) hbig)
  rw [← HR2.out.1, ← HR2.out.2] at HTK
  go_wp2_with (first
    | (go_at_call 44; (with_reducible refine HTK.out.mono ?_); rintro x w4 ⟨v4, rfl, ho4, hr4, hm4⟩; obtain ⟨oa, oc, rfl⟩ := own_shape2 ho4; have HC4 := Lib.hid (HC3.out.ran hm4 hr4); have HO4 := Lib.hid ho4; have HM4 := Lib.hid hm4; have c6 := HC4.out.a.c 6 _ rfl; have l4 := HC4.out.a.lt; clear ho4 hr4 hm4)
    | (at_builtin; refine wpList_append_rdr_at rfl (.tmp 31) (.tmp 32) 59 rfl 0 64 i1 _ 5 40 Tryz.underlying59 HJ.out.1 HJ.out.2.1 HJ.out.2.2.1 HJ.out.2.2.2 rfl (by decide) (by decide) rowcs_len RowV.one (.slice ra c.rows.length rc) c.rows rfl HC4.out.v (.slice oa out.length oc) out _ rfl (RdR.of_own rowcs_len HO4.out) hrw (Nat.zero_le _) ?_; intro v5 w5 hown5 hgrow5 hat5; have HC5 := Lib.hid (HC4.out.rowed hgrow5 hown5 hat5); have HG5 := Lib.hid hgrow5; have HT5 := Lib.hid hat5; have A5 := HC4.out.a.grown hgrow5 (fun y hy e => HC4.out.bv (by rw [HC4.out.sv, hy]; simp [e])); have c6 := A5.c 6 _ rfl; have f6 := A5.f 6; have l5 := A5.lt; obtain ⟨ra5, rc5, rfl⟩ := own_shape2 hown5; clear A5 hown5 hgrow5 hat5))
  go_ret
  have hs1 := HM1.out.size
  have hs3 := HM3'.out.size
  have hs4 := HM4.out.size
  have C5 := HC5.out
  have T5 := HT5.out
  rw [List.length_append] at C5 T5
  have M5 : Mod (b :: Sv) w4 (w5.setCell ⟨b, 6, none⟩ (.slice ra5 (c.rows.length + out.length) rc5)) := (Mod.of_grown HG5.out (b :: Sv) (fun y hy => .inl (by rw [HC4.out.sv, hy]; simp))).set b 6 _ (.inl (by simp))
  refine ⟨_, rfl, (Value.slice oa out.length oc).ownBlock.toList, RdR.of_own rowcs_len (own_mod HO4.out M5 (fun x hx => ?_)), fun x hx => ?_, _, C5.at_, ?_, ?_⟩
  · have h1 := own_new HO4.out x hx
    simp only [List.mem_cons, not_or]
    refine ⟨by omega, fun h2 => ?_⟩
    have := hSl x (by simp [h2])
    omega
  · have h1 := own_new HO4.out x hx
    omega
  · refine (((HM1.out.wide ?_).trans HM3'.out (Into.sub ?_ _)).trans HM4.out (Into.sub ?_ _)).trans M5 (Into.sub ?_ _)
    · simp
    · intro x hx
      rcases List.mem_cons.1 hx with h1 | h1 <;> simp [h1]
    · intro x hx
      simp [hx]
    · intro x hx
      rcases List.mem_cons.1 hx with h1 | h1 <;> simp [h1]
  · have i5 := into_own T5
    have i2 := into_own T2
    have hsv := HC1.out.sv
    have hst := HC1.out.st
    intro x hx
    simp only [List.mem_cons, List.mem_append] at hx
    rcases hx with rfl | hx | hx | hx | hx
    · exact .inl (by simp)
    · exact .inl (by simp [HS1.out x hx])
    · exact .inl (by simp [hx])
    · rcases i5 x hx with h1 | h1
      · exact .inl (by simp [hsv, h1])
      · exact .inr (by omega)
    · rcases i2 x hx with h1 | h1
      · exact .inl (by simp [hst, h1])
      · exact .inr (by omega)
end Go.Proofs.YtcanfmabkklidaaGreat
set_option linter.unusedSimpArgs false
set_option linter.unusedVariables false
set_option linter.unnecessarySimpa false
namespace Go.Proofs.YtcanfmabkklidaaGreat
open Go.RowKit

set_option maxRecDepth 100000 in
set_option maxHeartbeats 4000000 in
theorem cnew_any (id : Nat) (hid : id ≤ 7) (most : Int) (h0 : 0 ≤ most) (p : PipeV) (S : List Nat) (hp : PipeBd p) (w : World) (h : RdR OpV.cs 2 w p.ops p.ol S) :
    Calls Tryz.prog 77 #[.int .i64 id, .int .i64 most, p.val] w fun e w' => ∃ b S', e = .returned (.pointer (some ⟨b, 0, none⟩)) ∧ CellAt w' b S' (CellV.new id most p.m) ∧ (∀ x ∈ S', w.heap.size ≤ x) ∧ Below w.heap.size w w' := by
  have HR := Lib.hid (fun W (hW : RdR OpV.cs 2 W p.ops p.ol S) => pright_any p hp W hW.isr)
  have HN := Lib.hid (fun W (hW : RdR OpV.cs 2 W p.ops p.ol S) => rnew_any p S hp W hW)
  obtain ⟨vo, ol, sz, sl, ag, si, fd⟩ := p
  obtain ⟨a, c, rfl, _⟩ : ∃ a c, vo = .slice a ol.length c ∧ True := by obtain ⟨a, c, h, _⟩ := h; exact ⟨a, c, h, trivial⟩
  have HO := Lib.hid h
  obtain ⟨PM, hPM⟩ : ∃ PM, PM = PipeV.m ⟨.slice a ol.length c, ol, sz, sl, ag, si, fd⟩ := ⟨_, rfl⟩
  rw [← hPM] at HN ⊢
  clear h hp hPM
  unfold PipeV.val at HR HN ⊢
  simp only at HR HN HO ⊢
  have hid2 : ((id : Int) < 0) = False := by simp
  have hid3 : ((8 : Int) ≤ id) = False := by simp; omega
  have A0 := At.new w #[.slice a ol.length c, .int .i64 sz, .int .i64 sl, .int .i64 ag, .int .i64 si, .int .i64 fd] 36
  have HA0 := Lib.hid A0
  have HO0 := Lib.hid (HO.out.same (w' := w.alloc (.cells #[.slice a ol.length c, .int .i64 sz, .int .i64 sl, .int .i64 ag, .int .i64 si, .int .i64 fd] 36)) (fun x hx => Below.heap_alloc _ _ _ (HO.out.lt x hx)))
  clear A0
  go_enter Tryz.func77, Tryz.ntmps77
  go_wp2_with (go_at_call 61; (with_reducible refine (HR.out _ HO0.out).mono ?_); rintro e w1 ⟨rfl, hb1⟩; have HA1 := Lib.hid (HA0.out.below hb1); have HO1 := Lib.hid (HO0.out.same (fun x hx => hb1.block x (HO0.out.lt x hx))); have HB1 := Lib.hid ((bel_alloc (Below.refl _ w) (.cells #[.slice a ol.length c, .int .i64 sz, .int .i64 sl, .int .i64 ag, .int .i64 si, .int .i64 fd] 36)).trans (hb1.mono (by simp))); clear hb1)
  refine wp_region_pl (fun x => At x w.heap.size [.slice a ol.length c, .int .i64 sz, .int .i64 sl, .int .i64 ag, .int .i64 si, .int .i64 fd]) (.take 0 <| .take 2 <| .take 4 <| .doo 1 <| .doo 3 <| .take 5 <| .doo 6 <| .take 7 <| .done) ?plA (by kernel_rfl) (by kernel_rfl) (by kernel_rfl) ?plB (by intro c a d v w; cases d <;> exact fun h => h) ?plC ?_
  case plB =>
    simp only [Pl.with, List.getElem?_toArray, List.getElem?_cons_zero, List.getElem?_cons_succ]
    try rfl
  case plC => exact HA1.out.drew
  have q0 : ∀ x, (fun x => At x w.heap.size [.slice a ol.length c, .int .i64 sz, .int .i64 sl, .int .i64 ag, .int .i64 si, .int .i64 fd]) x → x.cell? ⟨w.heap.size, 0, none⟩ = some (.slice a ol.length c) := fun x h => h.c 0 _ rfl
  have q1 : ∀ x, (fun x => At x w.heap.size [.slice a ol.length c, .int .i64 sz, .int .i64 sl, .int .i64 ag, .int .i64 si, .int .i64 fd]) x → x.cell? ⟨w.heap.size, 1, none⟩ = some (.int .i64 sz) := fun x h => h.c 1 _ rfl
  have q2 : ∀ x, (fun x => At x w.heap.size [.slice a ol.length c, .int .i64 sz, .int .i64 sl, .int .i64 ag, .int .i64 si, .int .i64 fd]) x → x.cell? ⟨w.heap.size, 2, none⟩ = some (.int .i64 sl) := fun x h => h.c 2 _ rfl
  have q3 : ∀ x, (fun x => At x w.heap.size [.slice a ol.length c, .int .i64 sz, .int .i64 sl, .int .i64 ag, .int .i64 si, .int .i64 fd]) x → x.cell? ⟨w.heap.size, 3, none⟩ = some (.int .i64 ag) := fun x h => h.c 3 _ rfl
  have q4 : ∀ x, (fun x => At x w.heap.size [.slice a ol.length c, .int .i64 sz, .int .i64 sl, .int .i64 ag, .int .i64 si, .int .i64 fd]) x → x.cell? ⟨w.heap.size, 4, none⟩ = some (.int .i64 si) := fun x h => h.c 4 _ rfl
  have q5 : ∀ x, (fun x => At x w.heap.size [.slice a ol.length c, .int .i64 sz, .int .i64 sl, .int .i64 ag, .int .i64 si, .int .i64 fd]) x → x.cell? ⟨w.heap.size, 5, none⟩ = some (.int .i64 fd) := fun x h => h.c 5 _ rfl
  iterate 3 (refine wpPl_take (v := ?_) (by rfl) (fun w' hS => ?_) ?_; rotate_left; (focus (go_simp; with_reducible rfl)); simp only [Act.put, List.setIfInBounds_toArray, List.set_cons_zero, List.set_cons_succ])
  refine wpPl_do (by rfl) (fun K hK => ?_)
  go_wp2_with (go_at_call 104; (with_reducible refine (quota_of most h0 _).mono ?_); rintro e w2 ⟨rfl, hb2⟩; have HA2 := Lib.hid (HA1.out.drew.below hb2); have HO2 := Lib.hid (HO1.out.same (w' := w2) (fun x hx => hb2.block x (HO1.out.lt x hx))); have HB2 := Lib.hid (HB1.out.trans (((bel_draw (Below.refl _ _)).trans hb2).mono HB1.out.size)); clear hb2)
  refine ⟨HA2.out, ?_⟩
  refine wpPl_do (by rfl) (fun K hK => ?_)
  go_wp2_with (go_at_call 43; (with_reducible refine (HN.out _ HO2.out).mono ?_); rintro e w3 ⟨br, Sr, rfl, hr3, hn3, hb3⟩; have HR3 := Lib.hid hr3; have HN3 := Lib.hid hn3; have HA3 := Lib.hid (HA2.out.below hb3); have HB3 := Lib.hid (HB2.out.trans (hb3.mono HB2.out.size)); clear hr3 hn3 hb3)
  refine ⟨HA3.out, ?_⟩
  iterate 1 (refine wpPl_take (v := ?_) (by rfl) (fun w' hS => ?_) ?_; rotate_left; (focus (go_simp; with_reducible rfl)); simp only [Act.put, List.setIfInBounds_toArray, List.set_cons_zero, List.set_cons_succ])
  refine wpPl_do (by rfl) (fun K hK => ?_)
  go_wp2_with fail
  refine ⟨HA3.out.alloc _, ?_⟩
  iterate 1 (refine wpPl_take (v := ?_) (by rfl) (fun w' hS => ?_) ?_; rotate_left; (focus (go_simp; with_reducible rfl)); simp only [Act.put, List.setIfInBounds_toArray, List.set_cons_zero, List.set_cons_succ])
  refine wpPl_done ?_
  clear q0 q1 q2 q3 q4 q5
  go_wp2
  go_ret
  have hs2 := HB2.out.size
  have hs3 := HB3.out.size
  have hrl := HR3.out.lt
  refine ⟨w3.heap.size, w3.heap.size :: ([] ++ (Sr ++ ([] ++ []))), rfl, ⟨br, .slice none 0 0, .slice none 0 0, .slice none 0 0, [], Sr, [], [], rfl, ?_⟩, ?_, bel_alloc HB3.out _⟩
  · refine ⟨At.newAt rfl _ _, RdR.nil _ _ _, HR3.out.same (fun x hx => Below.heap_alloc _ _ _ (hrl x hx)), ⟨rfl, .inl ⟨rfl, rfl⟩⟩, ⟨rfl, .inl ⟨rfl, rfl⟩⟩, rfl, rfl, by simp, fun hx => by have := hrl _ hx; omega, by simp, by simp, ?_, ?_, ?_, ?_, ?_, ?_⟩
    all_goals (intro x hx; first | (simp at hx; done) | simp)
  · intro x hx
    simp only [List.nil_append, List.append_nil, List.mem_cons] at hx
    rcases hx with rfl | hx
    · omega
    · have := HN3.out x hx
      omega
end Go.Proofs.YtcanfmabkklidaaGreat
