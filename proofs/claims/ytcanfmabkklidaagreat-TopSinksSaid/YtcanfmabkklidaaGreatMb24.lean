/- The board. -/
import Derived.Test.YtcanfmabkklidaaGreatMb23
import Derived.Test.YtcanfmabkklidaaGreatMb20
import Derived.Maps.AppendAt
set_option linter.unusedSimpArgs false
set_option linter.unusedVariables false
set_option linter.unnecessarySimpa false
namespace Go.Proofs.YtcanfmabkklidaaGreat
open Go.RowKit

/-- tenant t's row grew -/
theorem BoardIn.row {w w2 : World} {bb : Nat} {vb : Nat → Value} {H : Nat → List Nat} {f : Nat → List RelV} {t : Nat} {v' : Value} {l : List RelV} (h : BoardIn w bb vb H f) (ht : t < 8) (hg : w.grownBy w2 (vb t).ownBlock)
    (ho : w2.ownsRow 0 52 4 v' (f t ++ l).length ((f t ++ l).flatMap RelV.cs)) (hb : v'.ownBlock = (vb t).ownBlock ∨ v'.ownBlock = some w.heap.size) :
    BoardIn (w2.setCell ⟨bb, t, none⟩ v') bb (fun u => if u = t then v' else vb u) (put H (t + 1) v'.ownBlock.toList) (fun u => if u = t then f t ++ l else f u) := by
  have hm : Mod (H (t + 1)) w w2 := Mod.of_grown hg _ (fun k hk => .inl (by rw [h.ht t ht, hk]; simp))
  have hi : Into v'.ownBlock.toList (H (t + 1)) w.heap.size := by rw [h.ht t ht]; exact into_own hb
  have hP := h.pr.upd (t + 1) hi (own_lt ho) hg.size
  have hs : ∀ j, j < 9 → j ≠ t + 1 → ∀ x ∈ H j, w2.heap[x]? = w.heap[x]? := fun j hj hne => h.pr.same rfl hm (fun x hx => hx) (by omega) hj hne
  have h0 : put H (t + 1) v'.ownBlock.toList 0 = [bb] := by rw [put_ne _ _ (by omega)]; exact h.h0
  have hsz : (w2.setCell ⟨bb, t, none⟩ v').heap.size = w2.heap.size := by simp [World.setCell]
  have hr : ∀ u, u < 8 → w2.ownsRow 0 52 4 ((fun u => if u = t then v' else vb u) u) (((fun u => if u = t then f t ++ l else f u) u)).length ((((fun u => if u = t then f t ++ l else f u) u)).flatMap RelV.cs) := fun u hu => by
    by_cases e : u = t
    · subst e; simpa using ho
    · simp only [if_neg e]
      exact own_of_block (h.r u hu) (fun x hx => hs (u + 1) (by omega) (by omega) x (by rw [h.ht u hu]; exact hx))
  have hht : ∀ u, u < 8 → put H (t + 1) v'.ownBlock.toList (u + 1) = ((fun u => if u = t then v' else vb u) u).ownBlock.toList := fun u hu => by
    by_cases e : u = t
    · subst e; rw [put_same]; simp
    · rw [put_ne _ _ (by omega)]; simp only [if_neg e]; exact h.ht u hu
  refine ⟨?_, h0, fun u hu => own_mod (hr u hu) (Mod.setCell _ _ _ _) (fun x hx => ?_), hht, by rw [hsz]; exact hP⟩
  · have hA : At w2 bb (boardCs vb) := h.a.of_block (hs 0 (by omega) (by omega) bb (by simp [h.h0]))
    have := hA.set t v' (by simp [boardCs]; omega)
    rwa [board_set vb t (by omega)] at this
  · simp only [List.mem_singleton]
    rintro rfl
    exact hP.dis 0 (u + 1) (by omega) (by omega) (by omega) x (by rw [h0]; simp) (by rw [hht u hu]; exact hx)
def pinF (to_ : Int) (r : RelV) (f : Nat → List RelV) (m : Nat) : Nat → List RelV := fun t => if t < m ∧ hasI to_ t = true then f t ++ [r] else f t
theorem pinF_no (to_ : Int) (r : RelV) (f : Nat → List RelV) (m : Nat) (h : hasI to_ m = false) : pinF to_ r f (m + 1) = pinF to_ r f m := by
  funext t
  unfold pinF
  by_cases e : t = m
  · subst e; simp [h]
  · simp only [show (t < m + 1 ↔ t < m) by omega]
theorem pinF_yes (to_ : Int) (r : RelV) (f : Nat → List RelV) (m : Nat) (h : hasI to_ m = true) : pinF to_ r f (m + 1) = fun t => if t = m then pinF to_ r f m m ++ [r] else pinF to_ r f m t := by
  funext t
  unfold pinF
  by_cases e : t = m
  · subst e; simp [h]
  · simp only [show (t < m + 1 ↔ t < m) by omega, if_neg e]
theorem pinF_zero (to_ : Int) (r : RelV) (f : Nat → List RelV) : pinF to_ r f 0 = f := by
  funext t
  simp [pinF]
theorem pinF_len (to_ : Int) (r : RelV) (f : Nat → List RelV) (m t : Nat) : (pinF to_ r f m t).length ≤ (f t).length + 1 := by
  unfold pinF
  split <;> simp
set_option maxRecDepth 100000 in
set_option maxHeartbeats 8000000 in
theorem pin_in (bb : Nat) (vb : Nat → Value) (H : Nat → List Nat) (f : Nat → List RelV) (to_ : Int) (r : RelV) (g : Nat) (w : World) (h : BoardIn w bb vb H f) (hg : At w g r.cs) (hgn : g ∉ allOf 9 H) (hl : ∀ t, t < 8 → (f t).length ≤ 100000) :
    Calls Tryz.prog 79 #[.pointer (some ⟨bb, 0, none⟩), .int .u64 to_, .slice (some ⟨g, 0, none⟩) 1 1] w fun e w' => (∃ u, e = .returned u) ∧ ∃ vb' H', BoardIn w' bb vb' H' (pinF to_ r f 8) ∧ Mod (allOf 9 H) w w' ∧ (∀ j, j < 9 → Into (H' j) (H j) w.heap.size) := by
  have HH := Lib.hid h
  have HG := Lib.hid hg
  have HL := Lib.hid hl
  have HGN := Lib.hid hgn
  have hgl := hg.lt
  obtain ⟨i0, hi3, hz0, hz1, hz2⟩ := info_parts info52
  have HI := Lib.hid (And.intro hi3 (And.intro hz0 (And.intro hz1 hz2)))
  clear h hg hl hgn hi3 hz0 hz1 hz2
  go_enter Tryz.func79, Tryz.ntmps79
  go_wp2
  go_loopg [7] 8 (fun n v7 wr => ∃ (m : Nat) (vb' : Nat → Value) (H' : Nat → List Nat), m ≤ 8 ∧ n = 8 - m ∧ v7 = .int .i64 m ∧ BoardIn wr bb vb' H' (pinF to_ r f m) ∧ Mod (allOf 9 H) w wr ∧ (∀ j, j < 9 → Into (H' j) (H j) w.heap.size))
  case atStart => exact ⟨0, vb, H, by omega, rfl, rfl, by rw [pinF_zero]; exact HH.out, Mod.refl _ _, fun _ _ => Into.refl _ _⟩
  case round =>
    obtain ⟨m, vb', H', hm, rfl, rfl, hbr, hmr, hir⟩ := hrel
    have HB := Lib.hid hbr
    have HM := Lib.hid hmr
    have HR := Lib.hid hir
    by_cases hlt : m < 8
    · by_cases hh : hasI to_ m = true
      · have HHS := Lib.hid hh
        have hgr := HG.out.mod hmr HGN.out
        obtain ⟨va, vc, hva⟩ := own_shape2 (hbr.r m hlt)
        have k0 := hbr.a.c m _ (board_cell vb' m (by omega))
        have k1 := hbr.a.f m
        have k2 := hbr.a.lt
        rw [hva] at k0
        have HGR := Lib.hid hgr
        have HVA := Lib.hid hva
        clear hbr hmr hir hh hgr hva
        go_wp2_with (go_at_call 14; (with_reducible refine (has_any to_ m (by omega) _).mono ?_); rintro e w1 ⟨rfl, rfl⟩; rw [show (bits BinOp.and IntKind.u64 to_ ((2 ^ m : Nat) : Int) != 0) = true from HHS.out])
        refine wp_region_pt 12 (fun y : World => y.cell? ⟨bb, m, none⟩ = some (.slice va (pinF to_ r f m m).length vc) ∧ y.frozen? ⟨bb, m, none⟩ = false ∧ bb < y.heap.size) (.take 0 <| .take 1 <| .take 2 <| .take 3 <| .take 4 <| .take 5 <| .take 6 <| .take 7 <| .take 8 <| .take 10 <| .take 11 <| .doo 9 <| .done) ?plA (by kernel_rfl) (by kernel_rfl) ?plB (by intro c a d v w; cases d <;> exact fun h => h) ?plC ?_
        case plB =>
          simp only [Pt.with, List.getElem?_toArray, List.getElem?_cons_zero, List.getElem?_cons_succ]
          try rfl
        case plC => exact ⟨k0, k1, k2⟩
        have q0 : ∀ y : World, (fun y : World => y.cell? ⟨bb, m, none⟩ = some (.slice va (pinF to_ r f m m).length vc) ∧ y.frozen? ⟨bb, m, none⟩ = false ∧ bb < y.heap.size) y → y.cell? ⟨bb, m, none⟩ = some (.slice va (pinF to_ r f m m).length vc) := fun y h => h.1
        iterate 11 (refine wpPt_take (v := ?_) (by rfl) (fun w' hS => ?_) ?_; rotate_left; (focus (go_simp; with_reducible rfl)); simp only [Act.put, List.setIfInBounds_toArray, List.set_cons_zero, List.set_cons_succ])
        refine wpPt_do (by rfl) (fun K hK => ?_)
        have hrow := HB.out.r m hlt
        rw [HVA.out] at hrow
        have HRW := Lib.hid hrow
        have hlen := pinF_len to_ r f m m
        have hlen2 := HL.out m hlt
        clear hrow
        have hgx : At w1.drew g r.cs := HGR.out.drew
        refine wp_append_rdr (.tmp 20) (.tmp 21) 46 rfl 0 52 i0 _ 4 32 Tryz.underlying46 HI.out.1 HI.out.2.1 HI.out.2.2.1 HI.out.2.2.2 rfl (by decide) (by decide) relcs_len RelV.one (.slice va (pinF to_ r f m m).length vc) (pinF to_ r f m m) rfl (HRW.out) (.slice (some ⟨g, 0, none⟩) 1 1) [r] [g] rfl ?_ (by simp; omega) (Nat.zero_le _) ?_
        · exact ⟨_, 1, rfl, by simp, by unfold maxLen; omega, .inr ⟨g, 0, rfl, rfl, hgx.lt, fun k x hk j u hj => by
            have hk0 : k = 0 := by have := (List.getElem?_eq_some_iff.1 hk).1; simp at this; omega
            subst hk0
            simp at hk
            subst hk
            simpa using hgx.c j u hj⟩⟩
        · intro v5 w5 hown5 hgrow5 hat5
          obtain ⟨va5, vc5, rfl⟩ := own_shape2 hown5
          have HBd := Lib.hid (HB.out.same (w' := w1.drew) (fun _ _ => rfl) (Nat.le_refl _))
          have hnb : ∀ kk, (Value.slice va (pinF to_ r f m m).length vc).ownBlock = some kk → kk ≠ bb := fun kk hkk e => by
            have h1 := HB.out.pr.dis 0 (m + 1) (by omega) (by omega) (by omega) bb (by rw [HB.out.h0]; simp)
            rw [HB.out.ht m hlt, HVA.out, hkk] at h1
            simp [e] at h1
          have A5 := HBd.out.a.grown hgrow5 hnb
          have e0 := A5.c m _ (board_cell vb' m (by omega))
          rw [HVA.out] at e0
          have e1 := A5.f m
          have e2 := A5.lt
          have HRES := Lib.hid (HBd.out.row hlt (by rw [HVA.out]; exact hgrow5) hown5 (by rw [HVA.out]; exact hat5))
          have hm5 : Mod (H' (m + 1)) w1.drew w5 := Mod.of_grown hgrow5 _ (fun k hk => .inl (by rw [HB.out.ht m hlt, HVA.out, hk]; simp))
          have HM5 := Lib.hid hm5
          have hi5 : Into (Value.slice va5 (pinF to_ r f m m ++ [r]).length vc5).ownBlock.toList (H' (m + 1)) w1.heap.size := by
            rw [HB.out.ht m hlt, HVA.out]
            exact into_own hat5
          have HI5 := Lib.hid hi5
          have hw1 := HM.out.size
          clear hown5 hgrow5 hat5 A5 hm5 hi5 hgx k0 k1 k2
          refine hK _ _ ⟨⟨e0, e1, e2⟩, ?_⟩
          refine wpPt_done ?_
          clear q0
          simp only [Act.put, List.setIfInBounds_toArray, List.set_cons_zero, List.set_cons_succ, List.drop_succ_cons, List.drop_zero]
          go_wp2
          go_roundg (8 - (m + 1))
          case measure => omega
          case rel =>
            have hsub : ∀ j, j < 9 → ∀ y ∈ H' j, y ∈ allOf 9 H ∨ w.heap.size ≤ y := fun j hj y hy => by
              rcases HR.out j hj y hy with h1 | h1
              · exact .inl (mem_allOf.2 ⟨j, hj, h1⟩)
              · exact .inr h1
            have hres := HRES.out
            rw [List.length_append] at hres
            refine ⟨m + 1, _, _, by omega, rfl, by go_num, by rw [pinF_yes to_ r f m HHS.out]; exact hres, ?_, fun j hj => ?_⟩
            · refine (HM.out.draw.trans HM5.out (fun y hy => hsub _ (by omega) y hy)).set bb m _ ?_
              exact hsub 0 (by omega) bb (by rw [HB.out.h0]; simp)
            · by_cases e : j = m + 1
              · subst e
                rw [put_same]
                have h2 := (HR.out (m + 1) hj).trans HI5.out hw1
                rwa [List.length_append] at h2
              · rw [put_ne _ _ e]
                exact HR.out j hj
      · have hh2 : hasI to_ m = false := by simpa using hh
        have HHS := Lib.hid hh2
        clear hbr hmr hir hh hh2
        go_wp2_with (go_at_call 14; (with_reducible refine (has_any to_ m (by omega) _).mono ?_); rintro e w1 ⟨rfl, rfl⟩; rw [show (bits BinOp.and IntKind.u64 to_ ((2 ^ m : Nat) : Int) != 0) = false from HHS.out])
        go_roundg (8 - (m + 1))
        case measure => omega
        case rel => exact ⟨m + 1, vb', H', by omega, rfl, by go_num, by rw [pinF_no to_ r f m HHS.out]; exact HB.out, HM.out, HR.out⟩
    · obtain rfl : m = 8 := by omega
      clear hbr hmr hir
      go_wp2
      go_end0
      exact ⟨⟨_, rfl⟩, vb', H', HB.out, HM.out, HR.out⟩
end Go.Proofs.YtcanfmabkklidaaGreat
set_option linter.unusedSimpArgs false
set_option linter.unusedVariables false
set_option linter.unnecessarySimpa false
namespace Go.Proofs.YtcanfmabkklidaaGreat
open Go.RowKit

set_option maxRecDepth 100000 in
set_option maxHeartbeats 4000000 in
theorem told_no (b : Nat) (xs : List Value) (vr : Value) (l : List RelV) (frm n : Int) (w : World) (h : At w b xs) (t : Nat) (ht : t ≤ 7) (h6 : xs[t]? = some vr) (hr : w.ownsRow 0 52 4 vr l.length (l.flatMap RelV.cs)) (hl : l.length ≤ 1000000) (hf : cutOk l frm = false) :
    Calls Tryz.prog 58 #[.pointer (some ⟨b, 0, none⟩), .int .i64 t, .int .i64 frm, .int .i64 n] w fun e w' => e = .returned (.tuple #[.slice none 0 0, .int .i64 5]) ∧ w' = w := by
  have hb := h.lt
  have c6 := h.c t _ h6
  have HT := Lib.hid (show decide ((0 : Int) ≤ t ∧ (t : Int) < 8) = true by simp; omega)
  obtain ⟨ra, rc, rfl⟩ := own_shape2 hr
  have hf2 : frm < 0 ∨ (0 ≤ frm ∧ (l.length : Int) < frm) := by simp [cutOk] at hf; omega
  clear h h6 hr hf
  rcases hf2 with hf | ⟨h1, h2⟩
  all_goals
    go_enter Tryz.func58, Tryz.ntmps58
    go_wp2_with (go_at_call 81; (with_reducible refine (board_there t _).mono ?_); rintro e w9 ⟨rfl, rfl⟩; rw [HT.out])
    go_ret2
    exact ⟨rfl, rfl⟩
set_option maxRecDepth 100000 in
set_option maxHeartbeats 4000000 in
theorem told_yes (b : Nat) (xs : List Value) (vr : Value) (l : List RelV) (f : Nat) (n : Int) (w : World) (h : At w b xs) (t : Nat) (ht : t ≤ 7) (h6 : xs[t]? = some vr) (hr : w.ownsRow 0 52 4 vr l.length (l.flatMap RelV.cs)) (hl : l.length ≤ 1000000) (hf : f ≤ l.length) :
    Calls Tryz.prog 58 #[.pointer (some ⟨b, 0, none⟩), .int .i64 t, .int .i64 f, .int .i64 n] w fun e w' => ∃ v, e = .returned (.tuple #[v, .int .i64 0]) ∧ w'.ownsRow w.heap.size 52 4 v (cutL l f n).length ((cutL l f n).flatMap RelV.cs) ∧ Below w.heap.size w w' := by
  have hb := h.lt
  have c6 := h.c t _ h6
  have HT := Lib.hid (show decide ((0 : Int) ≤ t ∧ (t : Int) < 8) = true by simp; omega)
  obtain ⟨d, hd⟩ : ∃ d, l.length = f + d := ⟨l.length - f, by omega⟩
  have hR := RdR.of_own relcs_len hr
  have hcap : (vr = .slice none 0 0 ∧ f + d = 0) ∨ ∃ ad rc, vr = .slice (some ad) (f + d) rc ∧ f + d ≤ rc ∧ rc ≤ 9223372036854775807 := by
    rcases hr.2 with ⟨h1, h2⟩ | ⟨g, cap, cur, h1, _, _, h2, h3, _⟩
    · exact .inl ⟨h1, by omega⟩
    · unfold maxLen at h3
      exact .inr ⟨_, cap, by rw [h1, hd], by omega, by omega⟩
  have h1 : ((f : Int) < 0) = False := by simp
  have h2 : (((f + d : Nat) : Int) < f) = False := by simp; omega
  have hw : wrap64 (((f + d : Nat) : Int) - f) = d := by unfold wrap64; omega
  have hm2 : max 0 ((f : Int) + d - f) = d := by omega
  have hcut := cutL_cases l f d n hd
  obtain ⟨C, hC⟩ : ∃ C, C = cutL l f n := ⟨_, rfl⟩
  rw [← hC] at hcut ⊢
  have hld : f + d ≤ 1000000 := by omega
  clear h h6 hr hC hl hf
  rcases hcap with ⟨rfl, h0⟩ | ⟨ad, rc, rfl, hrc, hrc2⟩
  · obtain ⟨rfl, rfl⟩ : f = 0 ∧ d = 0 := by omega
    obtain rfl : l = [] := List.eq_nil_of_length_eq_zero (by omega)
    have HC := Lib.hid (show C = [] from by rcases hcut with ⟨_, h⟩ | ⟨_, _, _, _, _, h⟩ | ⟨_, _, _, h⟩ | ⟨_, _, h⟩ | ⟨_, _, h⟩ <;> simpa using h)
    have HP := Lib.hid (show RdR RelV.cs 4 w (.slice none 0 0) C [] from by rw [HC.out]; exact RdR.nil _ _ _)
    have hCl : C.length ≤ 1000000 := by simp [HC.out]
    clear hcut hd hR
    rcases (by omega : n ≤ 0 ∨ (0 < n ∧ n ≤ 32) ∨ 32 < n) with hn | ⟨hn, hn2⟩ | hn
    · have hm : max 0 n = 0 := by omega
      go_enter Tryz.func58, Tryz.ntmps58
      go_wp2_with (first | (go_at_call 81; (with_reducible refine (board_there t _).mono ?_); rintro e w9 ⟨rfl, rfl⟩; rw [HT.out]) | (go_at_call 82; (with_reducible refine (clone82 _ _ _ _ HP.out hCl).mono ?_); rintro e w1 ⟨v1, rfl, ho1, hb1⟩; obtain ⟨pa, pc, rfl⟩ := own_shape2 ho1; have HO1 := Lib.hid ho1; have HB1 := Lib.hid hb1; clear ho1 hb1))
      go_ret2
      exact ⟨_, rfl, HO1.out, HB1.out⟩
    · go_enter Tryz.func58, Tryz.ntmps58
      go_wp2_with (first | (go_at_call 81; (with_reducible refine (board_there t _).mono ?_); rintro e w9 ⟨rfl, rfl⟩; rw [HT.out]) | (go_at_call 82; (with_reducible refine (clone82 _ _ _ _ HP.out hCl).mono ?_); rintro e w1 ⟨v1, rfl, ho1, hb1⟩; obtain ⟨pa, pc, rfl⟩ := own_shape2 ho1; have HO1 := Lib.hid ho1; have HB1 := Lib.hid hb1; clear ho1 hb1))
      go_ret2
      exact ⟨_, rfl, HO1.out, HB1.out⟩
    · go_enter Tryz.func58, Tryz.ntmps58
      go_wp2_with (first | (go_at_call 81; (with_reducible refine (board_there t _).mono ?_); rintro e w9 ⟨rfl, rfl⟩; rw [HT.out]) | (go_at_call 82; (with_reducible refine (clone82 _ _ _ _ HP.out hCl).mono ?_); rintro e w1 ⟨v1, rfl, ho1, hb1⟩; obtain ⟨pa, pc, rfl⟩ := own_shape2 ho1; have HO1 := Lib.hid ho1; have HB1 := Lib.hid hb1; clear ho1 hb1))
      go_ret2
      exact ⟨_, rfl, HO1.out, HB1.out⟩
  · rcases hcut with ⟨g1, g2⟩ | ⟨k, rfl, g0, g1, g3, g2⟩ | ⟨g0, g1, g3, g2⟩ | ⟨g1, g3, g2⟩ | ⟨g1, g3, g2⟩
    all_goals
      have HC := Lib.hid g2
      have HR := Lib.hid hR
      have HD := Lib.hid hd
      have hCl : C.length ≤ 1000000 := by rw [HC.out, List.length_take, List.length_drop]; have := HD.out; omega
      clear g2 hR hd
      rcases (by omega : f = rc ∨ f < rc) with hfr | hfr
    · obtain rfl := hfr
      obtain rfl : d = 0 := by omega
      have HC2 := Lib.hid (show C = [] from by rw [HC.out]; simp)
      have HC := HC2
      have HP := Lib.hid (show RdR RelV.cs 4 w (.slice (some ad) 0 0) C [] from by rw [HC.out]; exact RdR.none _ _ _ _)
      have hm : max 0 n = 0 := by omega
      go_enter Tryz.func58, Tryz.ntmps58
      go_wp2_with (first | (go_at_call 81; (with_reducible refine (board_there t _).mono ?_); rintro e w9 ⟨rfl, rfl⟩; rw [HT.out]) | (go_at_call 82; (with_reducible refine (clone82 _ _ _ _ HP.out hCl).mono ?_); rintro e w1 ⟨v1, rfl, ho1, hb1⟩; obtain ⟨pa, pc, rfl⟩ := own_shape2 ho1; have HO1 := Lib.hid ho1; have HB1 := Lib.hid hb1; clear ho1 hb1))
      go_ret2
      exact ⟨_, rfl, HO1.out, HB1.out⟩
    · have hm : max 0 n = 0 := by omega
      obtain ⟨S1, hp⟩ := HR.out.piece (f := f) (m := 0) (by omega) hfr
      have HP := Lib.hid (show RdR RelV.cs 4 w _ C S1 from HC.out ▸ hp)
      clear hp
      go_enter Tryz.func58, Tryz.ntmps58
      go_wp2_with (first | (go_at_call 81; (with_reducible refine (board_there t _).mono ?_); rintro e w9 ⟨rfl, rfl⟩; rw [HT.out]) | (go_at_call 82; (with_reducible refine (clone82 _ _ _ _ HP.out hCl).mono ?_); rintro e w1 ⟨v1, rfl, ho1, hb1⟩; obtain ⟨pa, pc, rfl⟩ := own_shape2 ho1; have HO1 := Lib.hid ho1; have HB1 := Lib.hid hb1; clear ho1 hb1))
      go_ret2
      exact ⟨_, rfl, HO1.out, HB1.out⟩
    · omega
    · skip
      obtain ⟨S1, hp⟩ := HR.out.piece (f := f) (m := k) (by omega) hfr
      have HP := Lib.hid (show RdR RelV.cs 4 w _ C S1 from HC.out ▸ hp)
      clear hp
      go_enter Tryz.func58, Tryz.ntmps58
      go_wp2_with (first | (go_at_call 81; (with_reducible refine (board_there t _).mono ?_); rintro e w9 ⟨rfl, rfl⟩; rw [HT.out]) | (go_at_call 82; (with_reducible refine (clone82 _ _ _ _ HP.out hCl).mono ?_); rintro e w1 ⟨v1, rfl, ho1, hb1⟩; obtain ⟨pa, pc, rfl⟩ := own_shape2 ho1; have HO1 := Lib.hid ho1; have HB1 := Lib.hid hb1; clear ho1 hb1))
      go_ret2
      exact ⟨_, rfl, HO1.out, HB1.out⟩
    · obtain rfl := hfr
      obtain rfl : d = 0 := by omega
      have HC2 := Lib.hid (show C = [] from by rw [HC.out]; simp)
      have HC := HC2
      have HP := Lib.hid (show RdR RelV.cs 4 w (.slice (some ad) 0 0) C [] from by rw [HC.out]; exact RdR.none _ _ _ _)
      go_enter Tryz.func58, Tryz.ntmps58
      go_wp2_with (first | (go_at_call 81; (with_reducible refine (board_there t _).mono ?_); rintro e w9 ⟨rfl, rfl⟩; rw [HT.out]) | (go_at_call 82; (with_reducible refine (clone82 _ _ _ _ HP.out hCl).mono ?_); rintro e w1 ⟨v1, rfl, ho1, hb1⟩; obtain ⟨pa, pc, rfl⟩ := own_shape2 ho1; have HO1 := Lib.hid ho1; have HB1 := Lib.hid hb1; clear ho1 hb1))
      go_ret2
      exact ⟨_, rfl, HO1.out, HB1.out⟩
    · skip
      obtain ⟨S1, hp⟩ := HR.out.piece (f := f) (m := d) (by omega) hfr
      have HP := Lib.hid (show RdR RelV.cs 4 w _ C S1 from HC.out ▸ hp)
      clear hp
      go_enter Tryz.func58, Tryz.ntmps58
      go_wp2_with (first | (go_at_call 81; (with_reducible refine (board_there t _).mono ?_); rintro e w9 ⟨rfl, rfl⟩; rw [HT.out]) | (go_at_call 82; (with_reducible refine (clone82 _ _ _ _ HP.out hCl).mono ?_); rintro e w1 ⟨v1, rfl, ho1, hb1⟩; obtain ⟨pa, pc, rfl⟩ := own_shape2 ho1; have HO1 := Lib.hid ho1; have HB1 := Lib.hid hb1; clear ho1 hb1))
      go_ret2
      exact ⟨_, rfl, HO1.out, HB1.out⟩
    · omega
    · have hm3 : ((f : Int) + max 0 32).toNat - f = 32 := by omega
      obtain ⟨S1, hp⟩ := HR.out.piece (f := f) (m := 32) (by omega) hfr
      have HP := Lib.hid (show RdR RelV.cs 4 w _ C S1 from HC.out ▸ hp)
      clear hp
      go_enter Tryz.func58, Tryz.ntmps58
      go_wp2_with (first | (go_at_call 81; (with_reducible refine (board_there t _).mono ?_); rintro e w9 ⟨rfl, rfl⟩; rw [HT.out]) | (go_at_call 82; (with_reducible refine (clone82 _ _ _ _ HP.out hCl).mono ?_); rintro e w1 ⟨v1, rfl, ho1, hb1⟩; obtain ⟨pa, pc, rfl⟩ := own_shape2 ho1; have HO1 := Lib.hid ho1; have HB1 := Lib.hid hb1; clear ho1 hb1))
      go_ret2
      exact ⟨_, rfl, HO1.out, HB1.out⟩
    · obtain rfl := hfr
      obtain rfl : d = 0 := by omega
      have HC2 := Lib.hid (show C = [] from by rw [HC.out]; simp)
      have HC := HC2
      have HP := Lib.hid (show RdR RelV.cs 4 w (.slice (some ad) 0 0) C [] from by rw [HC.out]; exact RdR.none _ _ _ _)
      go_enter Tryz.func58, Tryz.ntmps58
      go_wp2_with (first | (go_at_call 81; (with_reducible refine (board_there t _).mono ?_); rintro e w9 ⟨rfl, rfl⟩; rw [HT.out]) | (go_at_call 82; (with_reducible refine (clone82 _ _ _ _ HP.out hCl).mono ?_); rintro e w1 ⟨v1, rfl, ho1, hb1⟩; obtain ⟨pa, pc, rfl⟩ := own_shape2 ho1; have HO1 := Lib.hid ho1; have HB1 := Lib.hid hb1; clear ho1 hb1))
      go_ret2
      exact ⟨_, rfl, HO1.out, HB1.out⟩
    · skip
      obtain ⟨S1, hp⟩ := HR.out.piece (f := f) (m := d) (by omega) hfr
      have HP := Lib.hid (show RdR RelV.cs 4 w _ C S1 from HC.out ▸ hp)
      clear hp
      go_enter Tryz.func58, Tryz.ntmps58
      go_wp2_with (first | (go_at_call 81; (with_reducible refine (board_there t _).mono ?_); rintro e w9 ⟨rfl, rfl⟩; rw [HT.out]) | (go_at_call 82; (with_reducible refine (clone82 _ _ _ _ HP.out hCl).mono ?_); rintro e w1 ⟨v1, rfl, ho1, hb1⟩; obtain ⟨pa, pc, rfl⟩ := own_shape2 ho1; have HO1 := Lib.hid ho1; have HB1 := Lib.hid hb1; clear ho1 hb1))
      go_ret2
      exact ⟨_, rfl, HO1.out, HB1.out⟩
end Go.Proofs.YtcanfmabkklidaaGreat
set_option linter.unusedSimpArgs false
set_option linter.unusedVariables false
set_option linter.unnecessarySimpa false
namespace Go.Proofs.YtcanfmabkklidaaGreat
open Go.RowKit

theorem CellOk.wide {x : CellV} {N M : Nat} (h : CellOk x N) (hm : N ≤ M) : CellOk x M :=
  ⟨h.run, h.id, h.left, h.left2, h.spent, by have := h.spent2; omega, by have := h.len; omega, by have := h.rows; omega⟩
theorem CellOk.feed {x : CellV} {N : Nat} (h : CellOk x N) (e : EvV) : CellOk (x.feed e) (N + 1) ∧ (x.feed e).run = x.run := by
  unfold CellV.feed
  have h1 := h.len
  have h2 := h.rows
  have h3 := h.spent2
  split
  · refine ⟨⟨h.run, h.id, h.left, h.left2, h.spent, (show x.spent ≤ ((N + 1 : Nat) : Int) by omega), ?_, ?_⟩, rfl⟩
    · simp; omega
    · simp; omega
  · exact ⟨h.wide (by omega), rfl⟩
theorem CellOk.feed1 {x : CellV} {N : Nat} (h : CellOk x N) (s : SinkV) (r : RelV) (t : Nat) : CellOk (feed1 s r t x) (N + 1) ∧ (feed1 s r t x).run = x.run := by
  unfold YtcanfmabkklidaaGreat.feed1
  split
  · exact h.feed _
  · exact ⟨h.wide (by omega), rfl⟩
def feedM (c : CoreV) (s : SinkV) (r : RelV) (m : Nat) : CoreV := { c with cells := fun t => if t < m then (c.cells t).map (feed1 s r t) else c.cells t }
theorem feedM_zero (c : CoreV) (s : SinkV) (r : RelV) : feedM c s r 0 = c := by simp [feedM]
theorem feedM_none {c : CoreV} {s : SinkV} {r : RelV} {m : Nat} (h : c.cells m = none) : feedM c s r (m + 1) = feedM c s r m := by
  unfold feedM
  congr 1
  funext t
  by_cases e : t = m
  · subst e; simp [h]
  · simp only [show (t < m + 1 ↔ t < m) by omega]
theorem feedM_some {c : CoreV} {s : SinkV} {r : RelV} {m : Nat} {x : CellV} (h : c.cells m = some x) : feedM c s r (m + 1) = (feedM c s r m).setCell m (feed1 s r m x) := by
  unfold feedM CoreV.setCell
  congr 1
  funext t
  by_cases e : t = m
  · subst e; simp [h]
  · simp only [show (t < m + 1 ↔ t < m) by omega, if_neg e]
theorem feedM_cell {c : CoreV} {s : SinkV} {r : RelV} {m : Nat} : (feedM c s r m).cells m = c.cells m := by simp [feedM]
set_option maxRecDepth 100000 in
set_option maxHeartbeats 16000000 in
theorem cfeed_in (b : Nat) (G : Nat → List Nat) (vs vp : Value) (bb : Nat) (pc : Nat → Option Nat) (c : CoreV) (N : Nat) (s : SinkV) (i : Nat) (r : RelV) (hr : r.sink = (i : Int)) (hs : c.sinks[i]? = some s) (w : World) (h : CoreIn w b G vs vp bb pc c) (ok : CoreOk c N) :
    Calls Tryz.prog 80 #[.pointer (some ⟨b, 0, none⟩), r.val] w fun e w' => (∃ u, e = .returned u) ∧ ∃ G', CoreIn w' b G' vs vp bb pc (feedM c s r 8) ∧ Mod (allOf 12 G) w w' ∧ (∀ j, j < 12 → Into (G' j) (G j) w.heap.size) := by
  have hb := h.a.lt
  obtain ⟨ri, re, rv, rh⟩ := r
  simp only at hr
  subst hr
  have HH := Lib.hid h
  have HOK := Lib.hid ok
  rcases h.s with ⟨sa, sc, hvs, hsc1, _, ⟨h0, _⟩ | ⟨sb, so, hS1, hsa, hsbl, hsc⟩⟩
  · simp [h0] at hs
  subst hvs hsa
  have hil : i < c.sinks.length := (List.getElem?_eq_some_iff.1 hs).1
  have v0 := hsc i _ hs 0 _ rfl
  have v1 := hsc i _ hs 1 _ rfl
  have v2 := hsc i _ hs 2 _ rfl
  have v3 := hsc i _ hs 3 _ rfl
  have v4 := hsc i _ hs 4 _ rfl
  simp only [Nat.add_zero] at v0
  have c3 := h.a.c 3 _ rfl
  have HS := Lib.hid hs
  have hold := h.lt
  obtain ⟨s1, s2, s3, s4, s5⟩ := s
  have RB := Lib.hid (At.new w #[.int .i64 (i : Int), .int .i64 re, .int .i64 rv, .bool rh] 52)
  have rb0 := RB.out.c 0 _ rfl
  have HCl := Lib.hid (show Cl [(b, 3, .slice (some ⟨sb, so, none⟩) c.sinks.length sc), (sb, so + i * 5, .int .u64 s1), (sb, so + i * 5 + 1, .int .u64 s2), (sb, so + i * 5 + 2, .int .i64 s3), (sb, so + i * 5 + 3, .int .i64 s4), (sb, so + i * 5 + 4, .int .i64 s5)] w from Cl.cons c3 (Cl.cons v0 (Cl.cons v1 (Cl.cons v2 (Cl.cons v3 (Cl.cons v4 (Cl.nil _)))))))
  clear h ok hsc v0 v1 v2 v3 v4 c3 hs
  have HCl2 := Lib.hid (show Cl [(w.heap.size, 0, .int .i64 (i : Int)), (b, 3, .slice (some ⟨sb, so, none⟩) c.sinks.length sc), (sb, so + i * 5, .int .u64 s1), (sb, so + i * 5 + 1, .int .u64 s2), (sb, so + i * 5 + 2, .int .i64 s3), (sb, so + i * 5 + 3, .int .i64 s4), (sb, so + i * 5 + 4, .int .i64 s5)] (w.alloc (.cells #[.int .i64 (i : Int), .int .i64 re, .int .i64 rv, .bool rh] 52)) from Cl.cons rb0 (HCl.out.alloc _))
  clear HCl rb0
  go_enter Tryz.func80, Tryz.ntmps80
  go_wp2
  refine wp_region_pl (Cl [(w.heap.size, 0, .int .i64 (i : Int)), (b, 3, .slice (some ⟨sb, so, none⟩) c.sinks.length sc), (sb, so + i * 5, .int .u64 s1), (sb, so + i * 5 + 1, .int .u64 s2), (sb, so + i * 5 + 2, .int .i64 s3), (sb, so + i * 5 + 3, .int .i64 s4), (sb, so + i * 5 + 4, .int .i64 s5)]) (.take 0 <| .take 1 <| .take 2 <| .take 3 <| .take 4 <| .take 5 <| .take 6 <| .take 7 <| .take 8 <| .doo 9 <| .doo 10 <| .done) ?plA (by kernel_rfl) (by kernel_rfl) (by kernel_rfl) ?plB (by intro c a d v w; cases d <;> exact fun h => h) ?plC ?_
  case plB =>
    simp only [Pl.with, List.getElem?_toArray, List.getElem?_cons_zero, List.getElem?_cons_succ]
    try rfl
  case plC => exact HCl2.out.drew
  have q0 : ∀ y, Cl [(w.heap.size, 0, .int .i64 (i : Int)), (b, 3, .slice (some ⟨sb, so, none⟩) c.sinks.length sc), (sb, so + i * 5, .int .u64 s1), (sb, so + i * 5 + 1, .int .u64 s2), (sb, so + i * 5 + 2, .int .i64 s3), (sb, so + i * 5 + 3, .int .i64 s4), (sb, so + i * 5 + 4, .int .i64 s5)] y → y.cell? ⟨w.heap.size, 0, none⟩ = some (.int .i64 (i : Int)) := fun y h => h.at _ _ _ (by simp)
  have q1 : ∀ y, Cl [(w.heap.size, 0, .int .i64 (i : Int)), (b, 3, .slice (some ⟨sb, so, none⟩) c.sinks.length sc), (sb, so + i * 5, .int .u64 s1), (sb, so + i * 5 + 1, .int .u64 s2), (sb, so + i * 5 + 2, .int .i64 s3), (sb, so + i * 5 + 3, .int .i64 s4), (sb, so + i * 5 + 4, .int .i64 s5)] y → y.cell? ⟨b, 3, none⟩ = some (.slice (some ⟨sb, so, none⟩) c.sinks.length sc) := fun y h => h.at _ _ _ (by simp)
  have q2 : ∀ y, Cl [(w.heap.size, 0, .int .i64 (i : Int)), (b, 3, .slice (some ⟨sb, so, none⟩) c.sinks.length sc), (sb, so + i * 5, .int .u64 s1), (sb, so + i * 5 + 1, .int .u64 s2), (sb, so + i * 5 + 2, .int .i64 s3), (sb, so + i * 5 + 3, .int .i64 s4), (sb, so + i * 5 + 4, .int .i64 s5)] y → y.cell? ⟨sb, so + i * 5, none⟩ = some (.int .u64 s1) := fun y h => h.at _ _ _ (by simp)
  have q3 : ∀ y, Cl [(w.heap.size, 0, .int .i64 (i : Int)), (b, 3, .slice (some ⟨sb, so, none⟩) c.sinks.length sc), (sb, so + i * 5, .int .u64 s1), (sb, so + i * 5 + 1, .int .u64 s2), (sb, so + i * 5 + 2, .int .i64 s3), (sb, so + i * 5 + 3, .int .i64 s4), (sb, so + i * 5 + 4, .int .i64 s5)] y → y.cell? ⟨sb, so + i * 5 + 1, none⟩ = some (.int .u64 s2) := fun y h => h.at _ _ _ (by simp)
  have q4 : ∀ y, Cl [(w.heap.size, 0, .int .i64 (i : Int)), (b, 3, .slice (some ⟨sb, so, none⟩) c.sinks.length sc), (sb, so + i * 5, .int .u64 s1), (sb, so + i * 5 + 1, .int .u64 s2), (sb, so + i * 5 + 2, .int .i64 s3), (sb, so + i * 5 + 3, .int .i64 s4), (sb, so + i * 5 + 4, .int .i64 s5)] y → y.cell? ⟨sb, so + i * 5 + 2, none⟩ = some (.int .i64 s3) := fun y h => h.at _ _ _ (by simp)
  have q5 : ∀ y, Cl [(w.heap.size, 0, .int .i64 (i : Int)), (b, 3, .slice (some ⟨sb, so, none⟩) c.sinks.length sc), (sb, so + i * 5, .int .u64 s1), (sb, so + i * 5 + 1, .int .u64 s2), (sb, so + i * 5 + 2, .int .i64 s3), (sb, so + i * 5 + 3, .int .i64 s4), (sb, so + i * 5 + 4, .int .i64 s5)] y → y.cell? ⟨sb, so + i * 5 + 3, none⟩ = some (.int .i64 s4) := fun y h => h.at _ _ _ (by simp)
  have q6 : ∀ y, Cl [(w.heap.size, 0, .int .i64 (i : Int)), (b, 3, .slice (some ⟨sb, so, none⟩) c.sinks.length sc), (sb, so + i * 5, .int .u64 s1), (sb, so + i * 5 + 1, .int .u64 s2), (sb, so + i * 5 + 2, .int .i64 s3), (sb, so + i * 5 + 3, .int .i64 s4), (sb, so + i * 5 + 4, .int .i64 s5)] y → y.cell? ⟨sb, so + i * 5 + 4, none⟩ = some (.int .i64 s5) := fun y h => h.at _ _ _ (by simp)
  iterate 9 (refine wpPl_take (v := ?_) (by rfl) (fun w' hS => ?_) ?_; rotate_left; (focus (go_simp; with_reducible rfl)); simp only [Act.put, List.setIfInBounds_toArray, List.set_cons_zero, List.set_cons_succ])
  refine wpPl_do (by rfl) (fun K hK => ?_)
  go_wp2_with fail
  refine ⟨HCl2.out.drew.alloc _, ?_⟩
  refine wpPl_do (by rfl) (fun K hK => ?_)
  go_wp2_with fail
  refine ⟨HCl2.out.drew.alloc _, ?_⟩
  refine wpPl_done ?_
  clear q0 q1 q2 q3 q4 q5 q6
  obtain ⟨w1, hw1⟩ : ∃ w1, w1 = ((w.alloc (.cells #[.int .i64 (i : Int), .int .i64 re, .int .i64 rv, .bool rh] 52)).alloc (.cells #[.int .u64 s1, .int .u64 s2, .int .i64 s3, .int .i64 s4, .int .i64 s5] 49)).drew := ⟨_, rfl⟩
  have HB1 := Lib.hid (show Below w.heap.size w w1 from by rw [hw1]; exact bel_draw (bel_alloc (bel_alloc (Below.refl _ _) _) _))
  have HR1 := Lib.hid (show At w1 w.heap.size [.int .i64 (i : Int), .int .i64 re, .int .i64 rv, .bool rh] from by rw [hw1]; exact (RB.out.alloc _).drew)
  have HS1 := Lib.hid (show At w1 (w.heap.size + 1) [.int .u64 s1, .int .u64 s2, .int .i64 s3, .int .i64 s4, .int .i64 s5] from by rw [hw1]; exact (At.newAt (by simp) _ _).drew)
  have HC1 := Lib.hid (HH.out.below HB1.out)
  try rw [← hw1]
  have a0 := HC1.out.a.c 4 _ rfl
  have a1 := HC1.out.a.c 5 _ rfl
  have a2 := HC1.out.a.c 6 _ rfl
  have a3 := HC1.out.a.c 7 _ rfl
  have a4 := HC1.out.a.c 8 _ rfl
  have a5 := HC1.out.a.c 9 _ rfl
  have a6 := HC1.out.a.c 10 _ rfl
  have a7 := HC1.out.a.c 11 _ rfl
  clear hw1
  go_wp2
  clear a0 a1 a2 a3 a4 a5 a6 a7
  have hsz1 := HB1.out.size
  have hr1l := HR1.out.lt
  have hs1l := HS1.out.lt
  go_loopg [20] 8 (fun n v20 wr => ∃ (m : Nat) (G' : Nat → List Nat), m ≤ 8 ∧ n = 8 - m ∧ v20 = .int .i64 m ∧ CoreIn wr b G' (.slice (some ⟨sb, so, none⟩) c.sinks.length sc) vp bb pc (feedM c ⟨s1, s2, s3, s4, s5⟩ ⟨i, re, rv, rh⟩ m) ∧ Mod (allOf 12 G) w1 wr ∧ (∀ j, j < 12 → Into (G' j) (G j) w1.heap.size))
  case atStart => exact ⟨0, G, by omega, rfl, rfl, by rw [feedM_zero]; exact HC1.out, Mod.refl _ _, fun j _ => Into.refl _ _⟩
  case round =>
    obtain ⟨m, G', hm, rfl, rfl, hcr, hmr, hir⟩ := hrel
    have HCR := Lib.hid hcr
    have HMR := Lib.hid hmr
    have HIR := Lib.hid hir
    by_cases hlt : m < 8
    · have hix := index_ptr (fun i => ptrOf (pc i)) m hlt
      have hcell := hcr.cs m hlt
      rw [feedM_cell] at hcell
      have hrr := HR1.out.mod hmr (fun h => by have := hold _ h; omega)
      have hss := HS1.out.mod hmr (fun h => by have := hold _ h; omega)
      have r0 := hrr.c 0 _ rfl
      have r2 := hrr.c 2 _ rfl
      have x0 := hss.c 0 _ rfl
      have x1 := hss.c 1 _ rfl
      have lr := hrr.lt
      have ls := hss.lt
      have HRR := Lib.hid hrr
      have HSS := Lib.hid hss
      clear hcr hmr hir hrr hss
      cases hx : c.cells m with
      | none =>
        rw [hx] at hcell
        rw [show ptrOf (pc m) = .pointer none by rw [hcell.1]; rfl] at hix
        have HX := Lib.hid hx
        clear hcell hx
        go_wp2
        clear hix
        go_quiet ((go_at_call 14; exact Calls.quiet_of_same (has_any s2 m (by omega) _)))
        go_wp2
        go_roundg (8 - (m + 1))
        case measure => omega
        case rel =>
          refine ⟨m + 1, G', by omega, rfl, by go_num, by rw [feedM_none HX.out]; exact HCR.out.same (fun _ _ => rfl) (Nat.le_refl _), HMR.out.drawN nq, HIR.out⟩
      | some x =>
        rw [hx] at hcell
        obtain ⟨bt, hp, hcx⟩ := hcell
        rw [show ptrOf (pc m) = .pointer (some ⟨bt, 0, none⟩) by rw [hp]; rfl] at hix
        obtain ⟨br, vq, vr, vt, Sq, Sr, Sv, St, hS, hci⟩ := hcx
        obtain ⟨bp, bm, vo, So, hSr, hrn⟩ := hci.r
        have k4 := hci.a.c 4 _ rfl
        have k9 := hrn.a.c 9 _ rfl
        have k0 := hrn.a.c 0 _ rfl
        have k1 := hrn.a.c 1 _ rfl
        have k2 := hrn.a.c 2 _ rfl
        have lbt := hci.a.lt
        have lbr := hrn.a.lt
        have HX := Lib.hid hx
        have HP := Lib.hid hp
        have HCI := Lib.hid hci
        have HSE := Lib.hid hS
        clear hx hp hci hS hrn hSr
        obtain ⟨fd, hfd⟩ : ∃ fd, fd = x.run.pipe.feed := ⟨_, rfl⟩
        rw [← hfd] at k9
        have HFD := Lib.hid hfd
        clear hfd
        by_cases hh : hasI s2 m = true
        · have HAS : ∀ W, Calls Tryz.prog 14 #[.int .u64 s2, .int .i64 (m : Int)] W fun e w' => e = .returned (.bool true) ∧ w' = W := fun W => (has_any s2 m (by omega) W).mono (by rintro e w' ⟨rfl, rfl⟩; exact ⟨by rw [show (bits BinOp.and IntKind.u64 s2 ((2 ^ m : Nat) : Int) != 0) = true from hh], rfl⟩)
          have HH2 := Lib.hid hh
          clear hh
          by_cases hf : fd = (i : Int)
          · subst hf
            go_wp2
            clear hix
            go_quiet ((go_at_call 14; exact Calls.quiet_of_same (HAS _)))
            go_wp2
            have HCl7 := Lib.hid (show Cl [(bt, 4, .pointer (some ⟨br, 0, none⟩)), (br, 0, .int .i64 x.run.clk.mark), (br, 1, .int .i64 x.run.clk.late), (br, 2, .int .i64 x.run.clk.seen), (w.heap.size, 0, .int .i64 (i : Int)), (w.heap.size, 2, .int .i64 rv), (w.heap.size + 1, 0, .int .u64 s1)] (wr.drewN nq) from Cl.cons k4 (Cl.cons k0 (Cl.cons k1 (Cl.cons k2 (Cl.cons r0 (Cl.cons r2 (Cl.cons x0 (Cl.nil _))))))))
            have HCI2 := Lib.hid (HCI.out.same (w' := wr.drewN nq) (fun _ _ => rfl))
            have HCR2 := Lib.hid (HCR.out.same (w' := wr.drewN nq) (fun _ _ => rfl) (Nat.le_refl _))
            have HMR2 := Lib.hid (HMR.out.drawN nq)
            obtain ⟨W7, hW7⟩ : ∃ W7, W7 = wr.drewN nq := ⟨_, rfl⟩
            rw [← hW7] at HCl7 HCI2 HCR2 HMR2 ⊢
            clear hW7 k4 k0 k1 k2 r0 r2 x0 x1 k9 lr ls lbt lbr
            refine wp_region_pt 16 (Cl [(bt, 4, .pointer (some ⟨br, 0, none⟩)), (br, 0, .int .i64 x.run.clk.mark), (br, 1, .int .i64 x.run.clk.late), (br, 2, .int .i64 x.run.clk.seen), (w.heap.size, 0, .int .i64 (i : Int)), (w.heap.size, 2, .int .i64 rv), (w.heap.size + 1, 0, .int .u64 s1)]) (.take 0 <| .take 1 <| .take 2 <| .take 3 <| .take 4 <| .take 5 <| .take 6 <| .take 7 <| .take 9 <| .take 10 <| .take 11 <| .take 12 <| .take 13 <| .take 14 <| .doo 8 <| .take 15 <| .done) ?plX (by kernel_rfl) (by kernel_rfl) ?plY (by intro c a d v w; cases d <;> exact fun h => h) ?plZ ?_
            case plY =>
              simp only [Pt.with, List.getElem?_toArray, List.getElem?_cons_zero, List.getElem?_cons_succ]
              try rfl
            case plZ => exact HCl7.out.drew
            have q0 : ∀ y, Cl [(bt, 4, .pointer (some ⟨br, 0, none⟩)), (br, 0, .int .i64 x.run.clk.mark), (br, 1, .int .i64 x.run.clk.late), (br, 2, .int .i64 x.run.clk.seen), (w.heap.size, 0, .int .i64 (i : Int)), (w.heap.size, 2, .int .i64 rv), (w.heap.size + 1, 0, .int .u64 s1)] y → y.cell? ⟨bt, 4, none⟩ = some (.pointer (some ⟨br, 0, none⟩)) := fun y h => h.at _ _ _ (by simp)
            have q1 : ∀ y, Cl [(bt, 4, .pointer (some ⟨br, 0, none⟩)), (br, 0, .int .i64 x.run.clk.mark), (br, 1, .int .i64 x.run.clk.late), (br, 2, .int .i64 x.run.clk.seen), (w.heap.size, 0, .int .i64 (i : Int)), (w.heap.size, 2, .int .i64 rv), (w.heap.size + 1, 0, .int .u64 s1)] y → y.cell? ⟨br, 0, none⟩ = some (.int .i64 x.run.clk.mark) := fun y h => h.at _ _ _ (by simp)
            have q2 : ∀ y, Cl [(bt, 4, .pointer (some ⟨br, 0, none⟩)), (br, 0, .int .i64 x.run.clk.mark), (br, 1, .int .i64 x.run.clk.late), (br, 2, .int .i64 x.run.clk.seen), (w.heap.size, 0, .int .i64 (i : Int)), (w.heap.size, 2, .int .i64 rv), (w.heap.size + 1, 0, .int .u64 s1)] y → y.cell? ⟨br, 1, none⟩ = some (.int .i64 x.run.clk.late) := fun y h => h.at _ _ _ (by simp)
            have q3 : ∀ y, Cl [(bt, 4, .pointer (some ⟨br, 0, none⟩)), (br, 0, .int .i64 x.run.clk.mark), (br, 1, .int .i64 x.run.clk.late), (br, 2, .int .i64 x.run.clk.seen), (w.heap.size, 0, .int .i64 (i : Int)), (w.heap.size, 2, .int .i64 rv), (w.heap.size + 1, 0, .int .u64 s1)] y → y.cell? ⟨br, 2, none⟩ = some (.int .i64 x.run.clk.seen) := fun y h => h.at _ _ _ (by simp)
            have q4 : ∀ y, Cl [(bt, 4, .pointer (some ⟨br, 0, none⟩)), (br, 0, .int .i64 x.run.clk.mark), (br, 1, .int .i64 x.run.clk.late), (br, 2, .int .i64 x.run.clk.seen), (w.heap.size, 0, .int .i64 (i : Int)), (w.heap.size, 2, .int .i64 rv), (w.heap.size + 1, 0, .int .u64 s1)] y → y.cell? ⟨w.heap.size, 0, none⟩ = some (.int .i64 (i : Int)) := fun y h => h.at _ _ _ (by simp)
            have q5 : ∀ y, Cl [(bt, 4, .pointer (some ⟨br, 0, none⟩)), (br, 0, .int .i64 x.run.clk.mark), (br, 1, .int .i64 x.run.clk.late), (br, 2, .int .i64 x.run.clk.seen), (w.heap.size, 0, .int .i64 (i : Int)), (w.heap.size, 2, .int .i64 rv), (w.heap.size + 1, 0, .int .u64 s1)] y → y.cell? ⟨w.heap.size, 2, none⟩ = some (.int .i64 rv) := fun y h => h.at _ _ _ (by simp)
            have q6 : ∀ y, Cl [(bt, 4, .pointer (some ⟨br, 0, none⟩)), (br, 0, .int .i64 x.run.clk.mark), (br, 1, .int .i64 x.run.clk.late), (br, 2, .int .i64 x.run.clk.seen), (w.heap.size, 0, .int .i64 (i : Int)), (w.heap.size, 2, .int .i64 rv), (w.heap.size + 1, 0, .int .u64 s1)] y → y.cell? ⟨w.heap.size + 1, 0, none⟩ = some (.int .u64 s1) := fun y h => h.at _ _ _ (by simp)
            iterate 14 (refine wpPt_take (v := ?_) (by rfl) (fun w' hS => ?_) ?_; rotate_left; (focus (go_simp; with_reducible rfl)); simp only [Act.put, List.setIfInBounds_toArray, List.set_cons_zero, List.set_cons_succ])
            refine wpPt_do (by rfl) (fun K hK => ?_)
            go_wp2_with (go_at_call 67; (with_reducible refine (mark_of x.run.clk _).mono ?_); rintro e w8 ⟨rfl, hb8⟩; have HB8 := Lib.hid hb8; clear hb8)
            have HCl8 := Lib.hid (HCl7.out.drew.below HB8.out)
            have HCI8 := Lib.hid (HCI2.out.drew.below HB8.out)
            have HCR8 := Lib.hid (HCR2.out.drew.below HB8.out)
            have HMR8 := Lib.hid (HMR2.out.draw.bel HB8.out)
            refine ⟨HCl8.out, ?_⟩
            iterate 1 (refine wpPt_take (v := ?_) (by rfl) (fun w' hS => ?_) ?_; rotate_left; (focus (go_simp; with_reducible rfl)); simp only [Act.put, List.setIfInBounds_toArray, List.set_cons_zero, List.set_cons_succ])
            refine wpPt_done ?_
            clear q0 q1 q2 q3 q4 q5 q6
            simp only [List.drop_succ_cons, List.drop_zero]
            have HFE := Lib.hid (feed_in bt br vq vr vt Sq Sr Sv St x N ⟨x.run.clk.mark, (i : Int), rv, s1⟩ w8 HCI8.out (HOK.out.cell m x HX.out) HOK.out.n)
            go_wp2_with (go_at_call 108; (with_reducible refine HFE.out.mono ?_); rintro e w9 ⟨⟨u, rfl⟩, vq9, Sq9, hc9, hm9, hi9⟩; have HC9 := Lib.hid hc9; have HM9 := Lib.hid hm9; have HI9 := Lib.hid hi9; clear hc9 hm9 hi9)
            have hS9 : Into (bt :: (Sq9 ++ (Sr ++ (Sv ++ St)))) (G' (4 + m)) w8.heap.size := by
              rw [HSE.out]
              exact (HI9.out.append (Into.refl _ _)).cons
            have hm10 : Mod (G' (4 + m)) w8 w9 := HM9.out.wide (by rw [HSE.out]; simp)
            have HC10 := HCR8.out.cell (t := m) (x := x.feed ⟨x.run.clk.mark, (i : Int), rv, s1⟩) hlt HP.out hm10 HC9.out.at_ hS9
            have hpart := HCR8.out.parts (i := 4 + m) (by omega) hm10 hS9 HC9.out.lt
            have hw18 := HMR8.out.size
            go_roundg (8 - (m + 1))
            case measure => omega
            case rel =>
              have e1 : feed1 ⟨s1, s2, s3, s4, s5⟩ ⟨i, re, rv, rh⟩ m x = x.feed ⟨x.run.clk.mark, (i : Int), rv, s1⟩ := by simp [feed1, HH2.out, ← HFD.out]
              refine ⟨m + 1, put G' (4 + m) (bt :: (Sq9 ++ (Sr ++ (Sv ++ St)))), by omega, rfl, by go_num, by rw [feedM_some HX.out, e1]; exact HC10, HMR8.out.trans hm10 (fun y hy => ?_), fun j hj => (HIR.out j hj).trans (hpart.2.2 j hj) hw18⟩
              rcases HIR.out (4 + m) (by omega) y hy with h1 | h1
              · exact .inl (mem_allOf.2 ⟨4 + m, by omega, h1⟩)
              · exact .inr h1
          · have HNF := Lib.hid hf
            have hf2 : (fd != (i : Int)) = true := by simp [hf]
            clear hf
            go_wp2
            clear hix
            go_quiet ((go_at_call 14; exact Calls.quiet_of_same (HAS _)))
            go_wp2
            go_roundg (8 - (m + 1))
            case measure => omega
            case rel =>
              have e1 : feed1 ⟨s1, s2, s3, s4, s5⟩ ⟨i, re, rv, rh⟩ m x = x := by
                have h1 := HNF.out
                rw [HFD.out] at h1
                simp [feed1, h1]
              have HC5 := HCR.out.cell (t := m) (bt := bt) (S := G' (4 + m)) (x := x) hlt HP.out (Mod.drawN (Mod.refl _ _) nq) (by rw [HSE.out]; exact (HCI.out.same (w' := wr.drewN nq) (fun _ _ => rfl)).at_) (Into.refl _ _)
              have e2 : put G' (4 + m) (G' (4 + m)) = G' := by
                funext j
                by_cases e : j = 4 + m
                · subst e; rw [put_same]
                · rw [put_ne _ _ e]
              rw [e2] at HC5
              refine ⟨m + 1, G', by omega, rfl, by go_num, by rw [feedM_some HX.out, e1]; exact HC5, HMR.out.drawN nq, HIR.out⟩
        · have hh2 : hasI s2 m = false := by simpa using hh
          have HAS : ∀ W, Calls Tryz.prog 14 #[.int .u64 s2, .int .i64 (m : Int)] W fun e w' => e = .returned (.bool false) ∧ w' = W := fun W => (has_any s2 m (by omega) W).mono (by rintro e w' ⟨rfl, rfl⟩; exact ⟨by rw [show (bits BinOp.and IntKind.u64 s2 ((2 ^ m : Nat) : Int) != 0) = false from hh2], rfl⟩)
          have HH2 := Lib.hid hh2
          clear hh hh2
          go_wp2
          clear hix
          go_quiet ((go_at_call 14; exact Calls.quiet_of_same (HAS _)))
          go_wp2
          go_roundg (8 - (m + 1))
          case measure => omega
          case rel =>
            have e1 : feed1 ⟨s1, s2, s3, s4, s5⟩ ⟨i, re, rv, rh⟩ m x = x := by simp [feed1, HH2.out]
            have HC5 := HCR.out.cell (t := m) (bt := bt) (S := G' (4 + m)) (x := x) hlt HP.out (Mod.drawN (Mod.refl _ _) nq) (by rw [HSE.out]; exact (HCI.out.same (w' := wr.drewN nq) (fun _ _ => rfl)).at_) (Into.refl _ _)
            have e2 : put G' (4 + m) (G' (4 + m)) = G' := by
              funext j
              by_cases e : j = 4 + m
              · subst e; rw [put_same]
              · rw [put_ne _ _ e]
            rw [e2] at HC5
            refine ⟨m + 1, G', by omega, rfl, by go_num, by rw [feedM_some HX.out, e1]; exact HC5, HMR.out.drawN nq, HIR.out⟩
    · obtain rfl : m = 8 := by omega
      clear hcr hmr hir
      go_wp2
      go_end0
      exact ⟨⟨_, rfl⟩, G', HCR.out, (Mod.of_below HB1.out _).trans HMR.out (Into.refl _ _), fun j hj => (Into.refl _ _).trans (HIR.out j hj) hsz1⟩
end Go.Proofs.YtcanfmabkklidaaGreat
set_option linter.unusedSimpArgs false
set_option linter.unusedVariables false
set_option linter.unnecessarySimpa false
namespace Go.Proofs.YtcanfmabkklidaaGreat
open Go.RowKit

theorem CoreOk.wide {c : CoreV} {N M : Nat} (h : CoreOk c N) (hm : N ≤ M) (hM : M ≤ 100000) : CoreOk c M :=
  ⟨hM, h.sinks, h.sk, h.pots, h.kind, fun t x hx => (h.cell t x hx).wide hm, h.sink, by have := h.ticks; omega, fun t => by have := h.bd t; omega⟩
theorem feed_eq (c : CoreV) (s : SinkV) (r : RelV) : c.feed s r = feedM c s r 8 := rfl
theorem CoreOk.feed {c : CoreV} {N : Nat} (h : CoreOk c N) (s : SinkV) (r : RelV) (hN : N + 1 ≤ 100000) : CoreOk (feedM c s r 8) (N + 1) := by
  refine ⟨hN, h.sinks, h.sk, h.pots, h.kind, fun t x hx => ?_, fun t x hx => ?_, by have := h.ticks; show c.ticks ≤ N + 1; omega, fun t => by have := h.bd t; show (c.board t).length ≤ N + 1; omega⟩
  · simp only [feedM] at hx
    split at hx
    · cases hc : c.cells t with
      | none => rw [hc] at hx; simp at hx
      | some y =>
        rw [hc] at hx
        simp only [Option.map_some, Option.some.injEq] at hx
        rw [← hx]
        exact ((h.cell t y hc).feed1 s r t).1
    · exact (h.cell t x hx).wide (by omega)
  · simp only [feedM] at hx
    split at hx
    · cases hc : c.cells t with
      | none => rw [hc] at hx; simp at hx
      | some y =>
        rw [hc] at hx
        simp only [Option.map_some, Option.some.injEq] at hx
        rw [← hx, ((h.cell t y hc).feed1 s r t).2]
        exact h.sink t y hc
    · exact h.sink t x hx
/-- the pots and the board after a telling -/
def toldC (c : CoreV) (s : SinkV) (i : Nat) (r : RelV) : CoreV := { c with pots := c.pots.set i (PotV.new s), board := pinF s.tos r c.board 8 }
theorem CoreOk.told {c : CoreV} {N : Nat} (h : CoreOk c N) {s : SinkV} (hs : SinkBd s) (i : Nat) (r : RelV) (hN : N + 1 ≤ 100000) : CoreOk (toldC c s i r) (N + 1) := by
  have h1 := (h.pots_set i (PotV.new s) ⟨hs.a1, hs.a2⟩).wide (show N ≤ N + 1 by omega) hN
  exact ⟨hN, h1.sinks, h1.sk, h1.pots, h1.kind, h1.cell, h1.sink, h1.ticks, fun t => by have := h.bd t; have := pinF_len s.tos r c.board 8 t; show (pinF s.tos r c.board 8 t).length ≤ N + 1; omega⟩
theorem tell1_no {c : CoreV} {i : Nat} (h : epochOk (c.sinks.getD i default) c.ticks = false) : c.tell1 i = c := by
  unfold CoreV.tell1
  simp only [h, Bool.false_eq_true, if_false]
theorem tell1_hid {c : CoreV} {i : Nat} {s : SinkV} {r : RelV} (hs : c.sinks.getD i default = s) (h : epochOk s c.ticks = true) (hr : r = (c.pots.getD i default).tell s i (epochI s c.ticks)) (hh : r.hidden = true) : c.tell1 i = toldC c s i r := by
  subst hs
  unfold CoreV.tell1
  simp only [h, if_true, ← hr, hh]
  rfl
theorem tell1_told {c : CoreV} {i : Nat} {s : SinkV} {r : RelV} (hs : c.sinks.getD i default = s) (h : epochOk s c.ticks = true) (hr : r = (c.pots.getD i default).tell s i (epochI s c.ticks)) (hh : r.hidden = false) : c.tell1 i = feedM (toldC c s i r) s r 8 := by
  subst hs
  unfold CoreV.tell1
  simp only [h, if_true, ← hr, hh, Bool.false_eq_true, if_false]
  rfl
/-- after m tellings -/
def tellM (c : CoreV) (m : Nat) : CoreV := (List.range m).foldl CoreV.tell1 c
theorem tellM_succ (c : CoreV) (m : Nat) : tellM c (m + 1) = (tellM c m).tell1 m := by
  unfold tellM
  rw [List.range_succ, List.foldl_append]
  rfl
theorem tell1_same (c : CoreV) (i : Nat) : (c.tell1 i).ticks = c.ticks ∧ (c.tell1 i).sinks = c.sinks ∧ (c.tell1 i).budget = c.budget ∧ (c.tell1 i).room = c.room ∧ (c.tell1 i).quota = c.quota := by
  unfold CoreV.tell1
  simp only
  split
  · split <;> exact ⟨rfl, rfl, rfl, rfl, rfl⟩
  · exact ⟨rfl, rfl, rfl, rfl, rfl⟩
theorem tellM_same (c : CoreV) : ∀ m, (tellM c m).ticks = c.ticks ∧ (tellM c m).sinks = c.sinks
  | 0 => ⟨rfl, rfl⟩
  | m + 1 => by
    have h := tell1_same (tellM c m) m
    have ih := tellM_same c m
    rw [tellM_succ]
    exact ⟨h.1.trans ih.1, h.2.1.trans ih.2⟩
theorem getD_sink {c : CoreV} {N : Nat} (h : CoreOk c N) {i : Nat} (hi : i < c.sinks.length) : SinkBd (c.sinks.getD i default) := by
  rw [List.getD_eq_getElem?_getD, List.getElem?_eq_getElem hi]
  exact h.sk _ (List.getElem_mem hi)
theorem CoreOk.tell1 {c : CoreV} {N : Nat} (h : CoreOk c N) (i : Nat) (hi : i < c.sinks.length) (hN : N + 2 ≤ 100000) : CoreOk (c.tell1 i) (N + 2) := by
  have hs := getD_sink h hi
  cases he : epochOk (c.sinks.getD i default) c.ticks with
  | false => rw [tell1_no he]; exact h.wide (by omega) hN
  | true =>
    have h1 := h.told hs i ((c.pots.getD i default).tell (c.sinks.getD i default) i (epochI (c.sinks.getD i default) c.ticks)) (by omega)
    cases hh : ((c.pots.getD i default).tell (c.sinks.getD i default) i (epochI (c.sinks.getD i default) c.ticks)).hidden with
    | true => rw [tell1_hid rfl he rfl hh]; exact h1.wide (by omega) hN
    | false => rw [tell1_told rfl he rfl hh]; exact h1.feed _ _ hN
theorem tellM_ok {c : CoreV} {N : Nat} (h : CoreOk c N) : ∀ m, m ≤ c.sinks.length → N + 2 * m ≤ 100000 → CoreOk (tellM c m) (N + 2 * m)
  | 0, _, _ => h
  | m + 1, hm, hN => by
    have ih := tellM_ok h m (by omega) (by omega)
    rw [tellM_succ]
    exact ih.tell1 m (by rw [(tellM_same c m).2]; omega) (by omega)
theorem tick_eq (c : CoreV) : c.tick = tellM { servM c 8 with ticks := c.ticks + 1 } c.sinks.length := rfl
end Go.Proofs.YtcanfmabkklidaaGreat
set_option linter.unusedSimpArgs false
set_option linter.unusedVariables false
set_option linter.unnecessarySimpa false
namespace Go.Proofs.YtcanfmabkklidaaGreat
open Go.RowKit

/-- a sink of the core: its cells -/
theorem CoreIn.sink {w : World} {b : Nat} {G : Nat → List Nat} {va : Option Addr} {n k : Nat} {vp : Value} {bb : Nat} {pc : Nat → Option Nat} {c : CoreV} (h : CoreIn w b G (.slice va n k) vp bb pc c) {i : Nat} {s : SinkV} (hs : c.sinks[i]? = some s) :
    ∃ sb so, va = some ⟨sb, so, none⟩ ∧ sb < w.heap.size ∧ ∀ j u, s.cs[j]? = some u → w.cell? ⟨sb, so + i * 5 + j, none⟩ = some u := by
  rcases h.s with ⟨sa, sc, hvs, _, _, ⟨h0, _⟩ | ⟨sb, so, hS1, hsa, hsbl, hsc⟩⟩
  · simp [h0] at hs
  simp only [Value.slice.injEq] at hvs
  exact ⟨sb, so, hvs.1.trans hsa, hsbl, fun j u hj => hsc i _ hs j u hj⟩
theorem CoreIn.pot {w : World} {b : Nat} {G : Nat → List Nat} {vs : Value} {pa : Option Addr} {n k : Nat} {bb : Nat} {pc : Nat → Option Nat} {c : CoreV} (h : CoreIn w b G vs (.slice pa n k) bb pc c) {i : Nat} {x : PotV} (hx : c.pots[i]? = some x) :
    ∃ pg, pa = some ⟨pg, 0, none⟩ ∧ n = c.pots.length ∧ c.pots.length ≤ k ∧ pg < w.heap.size ∧ G 2 = [pg] ∧ At w pg (c.pots.flatMap PotV.cs) := by
  rcases h.p with ⟨h0, _⟩ | ⟨pg, cap, hv, ha, hg, hc⟩
  · simp [h0] at hx
  simp only [Value.slice.injEq] at hv
  exact ⟨pg, hv.1, hv.2.1, by omega, ha.lt, hg, ha⟩
theorem potcs_at {l : List PotV} {i : Nat} {x : PotV} (hx : l[i]? = some x) {j : Nat} (hj : j < 4) {u : Value} (hu : x.cs[j]? = some u) : (l.flatMap PotV.cs)[i * 4 + j]? = some u := by
  rw [flat_at (cs := PotV.cs) (k := 4) (fun _ => rfl) (by decide), show (i * 4 + j) / 4 = i by omega, show (i * 4 + j) % 4 = j by omega, hx]
  exact hu
theorem pot_set4 {l : List PotV} {i : Nat} {x : PotV} (hx : l[i]? = some x) (y : PotV) :
    ((((l.flatMap PotV.cs).set (i * 4) (.int .i64 y.count)).set (i * 4 + 1) (.int .i64 y.kind)).set (i * 4 + 2) (.int .i64 y.value)).set (i * 4 + 3) (.int .u64 y.who) = (l.set i y).flatMap PotV.cs := by
  have hi := (List.getElem?_eq_some_iff.1 hx).1
  have h0 := flat_set (cs := PotV.cs) (k := 4) (fun _ => rfl) (by decide) l i x ⟨y.count, x.kind, x.value, x.who⟩ hx 0 (by decide) (.int .i64 y.count) rfl
  have h1 := flat_set (cs := PotV.cs) (k := 4) (fun _ => rfl) (by decide) (l.set i ⟨y.count, x.kind, x.value, x.who⟩) i ⟨y.count, x.kind, x.value, x.who⟩ ⟨y.count, y.kind, x.value, x.who⟩ (by simp [hi]) 1 (by decide) (.int .i64 y.kind) rfl
  have h2 := flat_set (cs := PotV.cs) (k := 4) (fun _ => rfl) (by decide) (l.set i ⟨y.count, y.kind, x.value, x.who⟩) i ⟨y.count, y.kind, x.value, x.who⟩ ⟨y.count, y.kind, y.value, x.who⟩ (by simp [hi]) 2 (by decide) (.int .i64 y.value) rfl
  have h3 := flat_set (cs := PotV.cs) (k := 4) (fun _ => rfl) (by decide) (l.set i ⟨y.count, y.kind, y.value, x.who⟩) i ⟨y.count, y.kind, y.value, x.who⟩ y (by simp [hi]) 3 (by decide) (.int .u64 y.who) rfl
  rw [Nat.add_zero] at h0
  rw [List.set_set] at h1 h2 h3
  rw [h0, h1, h2, h3]
set_option maxRecDepth 100000 in
set_option maxHeartbeats 16000000 in
theorem ctick_in (b : Nat) (G : Nat → List Nat) (vs vp : Value) (bb : Nat) (pc : Nat → Option Nat) (c : CoreV) (N : Nat) (w : World) (h : CoreIn w b G vs vp bb pc c) (ok : CoreOk c N) (hN : N + 6 ≤ 100000) :
    Calls Tryz.prog 57 #[.pointer (some ⟨b, 0, none⟩)] w fun e w' => (∃ u, e = .returned u) ∧ ∃ G', CoreIn w' b G' vs vp bb pc c.tick ∧ Mod (allOf 12 G) w w' ∧ (∀ j, j < 12 → Into (G' j) (G j) w.heap.size) := by
  obtain ⟨va, vk, rfl⟩ : ∃ va vk, vs = .slice va c.sinks.length vk := by obtain ⟨a, k, h, _⟩ := h.s; exact ⟨a, k, h⟩
  obtain ⟨pa, pn, pk, rfl⟩ : ∃ pa pn pk, vp = .slice pa pn pk := by rcases h.p with ⟨_, h, _⟩ | ⟨_, _, h, _⟩ <;> exact ⟨_, _, _, h⟩
  have hb := h.a.lt
  have HOK := Lib.hid ok
  have hsl := ok.sinks
  have hms := servM_same c 8
  have hms1 := hms.1
  have hms3 := hms.2.2
  have HSV := Lib.hid (cserve_in b G (.slice va c.sinks.length vk) (.slice pa pn pk) bb pc c N w h ok)
  rw [show c.serve = servM c 8 from rfl] at HSV
  have hoks := servM_ok ok 8
  have htk := ok.ticks
  rw [tick_eq]
  obtain ⟨c0, hc0⟩ : ∃ c0, c0 = servM c 8 := ⟨_, rfl⟩
  rw [← hc0] at HSV hoks hms1 hms3 ⊢
  have hok1 : CoreOk { c0 with ticks := c.ticks + 1 } (N + 1) := ⟨by omega, hoks.sinks, hoks.sk, hoks.pots, hoks.kind, fun t x hx => (hoks.cell t x hx).wide (by omega), hoks.sink, by show c.ticks + 1 ≤ N + 1; omega, fun t => by have := hoks.bd t; show (c0.board t).length ≤ N + 1; omega⟩
  obtain ⟨c1, hc1⟩ : ∃ c1, c1 = { c0 with ticks := c.ticks + 1 } := ⟨_, rfl⟩
  rw [← hc1] at hok1 ⊢
  have HOK1 := Lib.hid hok1
  have HC1E := Lib.hid hc1
  obtain ⟨M, hM⟩ : ∃ M, M = c.sinks.length := ⟨_, rfl⟩
  rw [← hM]
  have HSK := Lib.hid (show c0.sinks.length = M by rw [hms3, hM])
  have HMM := Lib.hid hM
  have HT0 := Lib.hid hms1
  rw [← hM] at HSV hsl
  clear h ok hok1 hms hms1 hms3 hoks hc0 hM hc1
  go_enter Tryz.func57, Tryz.ntmps57
  go_wp2_with (go_at_call 78; (with_reducible refine HSV.out.mono ?_); rintro e w1 ⟨⟨u, rfl⟩, G1, hc1, hm1, hi1⟩; have HC1 := Lib.hid hc1; have HM1 := Lib.hid hm1; have HI1 := Lib.hid hi1; have c14 := hc1.a.c 14 _ rfl; rw [HT0.out] at c14; have f14 := hc1.a.f 14; have c3 := hc1.a.c 3 _ rfl; have lb := hc1.a.lt; clear hc1 hm1 hi1)
  obtain ⟨w2, hw2⟩ : ∃ w2, w2 = w1.setCell ⟨b, 14, none⟩ (.int .i64 ((c.ticks : Int) + 1)) := ⟨_, rfl⟩
  try rw [← hw2]
  have HC2 := Lib.hid (show CoreIn w2 b G1 (.slice va M vk) (.slice pa pn pk) bb pc c1 from by
    rw [hw2, HC1E.out]
    refine HC1.out.own (Mod.setCell _ _ _ _) ?_ rfl rfl rfl rfl
    have := HC1.out.a.set 14 (.int .i64 ((c.ticks : Int) + 1)) (by simp [coreCs])
    have e : ((c.ticks : Int) + 1) = ((c.ticks + 1 : Nat) : Int) := by omega
    rw [e] at this ⊢
    exact this)
  have hsk1 : c1.sinks.length = M := by rw [HC1E.out]; exact HSK.out
  have htk1 : c1.ticks = c.ticks + 1 := by rw [HC1E.out]
  have HM2 := Lib.hid (show Mod (allOf 12 G) w w2 from by
    rw [hw2]
    refine HM1.out.set b 14 _ ?_
    rcases HI1.out 0 (by omega) b (by rw [HC1.out.g0]; simp) with h1 | h1
    · exact .inl (mem_allOf.2 ⟨0, by omega, h1⟩)
    · exact .inr h1)
  have HI2 := Lib.hid (show ∀ j, j < 12 → Into (G1 j) (G j) w.heap.size from HI1.out)
  have hsz2 : w.heap.size ≤ w2.heap.size := HM2.out.size
  have HTS := Lib.hid (And.intro hsk1 htk1)
  clear hw2 c14 f14 c3 lb hsk1 htk1
  go_loopg [22] M (fun n v22 wr => ∃ (m : Nat) (G' : Nat → List Nat), m ≤ M ∧ n = M - m ∧ v22 = .int .i64 m ∧ CoreIn wr b G' (.slice va M vk) (.slice pa pn pk) bb pc (tellM c1 m) ∧ Mod (allOf 12 G) w wr ∧ (∀ j, j < 12 → Into (G' j) (G j) w.heap.size))
  case atStart => exact ⟨0, G1, by omega, by omega, rfl, HC2.out, HM2.out, HI2.out⟩
  case round =>
    obtain ⟨m, G', hm, rfl, rfl, hcr, hmr, hir⟩ := hrel
    have HCR := Lib.hid hcr
    have HMR := Lib.hid hmr
    have HIR := Lib.hid hir
    by_cases hlt : m < M
    · have hokm := tellM_ok HOK1.out m (by rw [HTS.out.1]; omega) (by omega)
      have hsm := tellM_same c1 m
      have hnx := tellM_succ c1 m
      obtain ⟨cm, hcm⟩ : ∃ cm, cm = tellM c1 m := ⟨_, rfl⟩
      rw [← hcm] at HCR hokm hsm hnx
      have hslen : cm.sinks.length = M := by rw [hsm.2, HTS.out.1]
      obtain ⟨sv, hsv⟩ : ∃ sv, cm.sinks[m]? = some sv := ⟨cm.sinks[m], by simp [hslen, hlt]⟩
      have hsD : cm.sinks.getD m default = sv := by simp [List.getD_eq_getElem?_getD, hsv]
      have hsbd : SinkBd sv := hsD ▸ getD_sink hokm (by omega)
      have htm : cm.ticks = c.ticks + 1 := by rw [hsm.1, HTS.out.2]
      have HOM := Lib.hid hokm
      have HNX := Lib.hid hnx
      have HSD := Lib.hid hsD
      have HSVV := Lib.hid hsv
      have HSB := Lib.hid hsbd
      have HTM := Lib.hid htm
      obtain ⟨sb, so, hva, hsbl, hsc⟩ := HCR.out.sink hsv
      subst hva
      have hsk1 := hsbd.k1
      have hsk2 := hsbd.k2
      obtain ⟨s1, s2, s3, s4, s5⟩ := sv
      have v0 := hsc 0 _ rfl
      have v1 := hsc 1 _ rfl
      have v2 := hsc 2 _ rfl
      have v3 := hsc 3 _ rfl
      have v4 := hsc 4 _ rfl
      simp only [Nat.add_zero] at v0
      have HF0 := Lib.hid (And.intro (HCR.out.alloc (.cells #[.int .u64 s1, .int .u64 s2, .int .i64 s3, .int .i64 s4, .int .i64 s5] 49)) (And.intro (At.new wr #[.int .u64 s1, .int .u64 s2, .int .i64 s3, .int .i64 s4, .int .i64 s5] 49) (HMR.out.new (.cells #[.int .u64 s1, .int .u64 s2, .int .i64 s3, .int .i64 s4, .int .i64 s5] 49))))
      clear hcr hmr hir hokm hsm hnx hcm hsv hsD hsbd htm hsc
      go_wp2
      clear v0 v1 v2 v3 v4
      have HF := Lib.hid (And.intro HF0.out.1 (And.intro HF0.out.2.1 HF0.out.2.2))
      obtain ⟨W, hW⟩ : ∃ W, W = wr.alloc (.cells #[.int .u64 s1, .int .u64 s2, .int .i64 s3, .int .i64 s4, .int .i64 s5] 49) := ⟨_, rfl⟩
      rw [← hW] at HF ⊢
      clear hW HF0
      have HEP := Lib.hid (epoch_any ⟨s1, s2, s3, s4, s5⟩ (c.ticks + 1) (by omega) (by omega) hsk1 (by have := hsk2; simp only at this ⊢; omega) W.drew)
      obtain ⟨eok, heok⟩ : ∃ eok, eok = epochOk ⟨s1, s2, s3, s4, s5⟩ ((c.ticks + 1 : Nat) : Int) := ⟨_, rfl⟩
      rw [← heok, show ((c.ticks + 1 : Nat) : Int) = (c.ticks : Int) + 1 by omega] at HEP
      have HEO := Lib.hid heok
      clear heok
      refine wp_region_pl (fun y : World => CoreIn y b G' (.slice (some ⟨sb, so, none⟩) M vk) (.slice pa pn pk) bb pc cm ∧ At y wr.heap.size [.int .u64 s1, .int .u64 s2, .int .i64 s3, .int .i64 s4, .int .i64 s5]) (.take 0 <| .take 1 <| .take 2 <| .take 3 <| .take 4 <| .doo 5 <| .take 6 <| .take 7 <| .take 8 <| .take 9 <| .take 10 <| .done) ?plA (by kernel_rfl) (by kernel_rfl) (by kernel_rfl) ?plB (by intro c a d v w; cases d <;> exact fun h => h) ?plC ?_
      case plB =>
        simp only [Pl.with, List.getElem?_toArray, List.getElem?_cons_zero, List.getElem?_cons_succ]
        try rfl
      case plC => exact ⟨HF.out.1.drew, HF.out.2.1.drew⟩
      have q0 : ∀ y : World, (fun y : World => CoreIn y b G' (.slice (some ⟨sb, so, none⟩) M vk) (.slice pa pn pk) bb pc cm ∧ At y wr.heap.size [.int .u64 s1, .int .u64 s2, .int .i64 s3, .int .i64 s4, .int .i64 s5]) y → y.cell? ⟨wr.heap.size, 0, none⟩ = some (.int .u64 s1) := fun y h => h.2.c 0 _ rfl
      have q1 : ∀ y : World, (fun y : World => CoreIn y b G' (.slice (some ⟨sb, so, none⟩) M vk) (.slice pa pn pk) bb pc cm ∧ At y wr.heap.size [.int .u64 s1, .int .u64 s2, .int .i64 s3, .int .i64 s4, .int .i64 s5]) y → y.cell? ⟨wr.heap.size, 1, none⟩ = some (.int .u64 s2) := fun y h => h.2.c 1 _ rfl
      have q2 : ∀ y : World, (fun y : World => CoreIn y b G' (.slice (some ⟨sb, so, none⟩) M vk) (.slice pa pn pk) bb pc cm ∧ At y wr.heap.size [.int .u64 s1, .int .u64 s2, .int .i64 s3, .int .i64 s4, .int .i64 s5]) y → y.cell? ⟨wr.heap.size, 2, none⟩ = some (.int .i64 s3) := fun y h => h.2.c 2 _ rfl
      have q3 : ∀ y : World, (fun y : World => CoreIn y b G' (.slice (some ⟨sb, so, none⟩) M vk) (.slice pa pn pk) bb pc cm ∧ At y wr.heap.size [.int .u64 s1, .int .u64 s2, .int .i64 s3, .int .i64 s4, .int .i64 s5]) y → y.cell? ⟨wr.heap.size, 3, none⟩ = some (.int .i64 s4) := fun y h => h.2.c 3 _ rfl
      have q4 : ∀ y : World, (fun y : World => CoreIn y b G' (.slice (some ⟨sb, so, none⟩) M vk) (.slice pa pn pk) bb pc cm ∧ At y wr.heap.size [.int .u64 s1, .int .u64 s2, .int .i64 s3, .int .i64 s4, .int .i64 s5]) y → y.cell? ⟨wr.heap.size, 4, none⟩ = some (.int .i64 s5) := fun y h => h.2.c 4 _ rfl
      have q5 : ∀ y : World, (fun y : World => CoreIn y b G' (.slice (some ⟨sb, so, none⟩) M vk) (.slice pa pn pk) bb pc cm ∧ At y wr.heap.size [.int .u64 s1, .int .u64 s2, .int .i64 s3, .int .i64 s4, .int .i64 s5]) y → y.cell? ⟨b, 14, none⟩ = some (.int .i64 ((c.ticks : Int) + 1)) := fun y h => by
        have h1 := h.1.a.c 14 _ rfl
        rw [HTM.out] at h1
        rw [h1]
        simp
      iterate 5 (refine wpPl_take (v := ?_) (by rfl) (fun w' hS => ?_) ?_; rotate_left; (focus (go_simp; with_reducible rfl)); simp only [Act.put, List.setIfInBounds_toArray, List.set_cons_zero, List.set_cons_succ])
      refine wpPl_do (by rfl) (fun K hK => ?_)
      go_wp2_with (go_at_call 32; (with_reducible refine HEP.out.mono ?_); rintro e w5 ⟨⟨nn, rfl, hnn⟩, hb5⟩; have HB5 := Lib.hid hb5; have HNN := Lib.hid hnn; clear hb5 hnn)
      have HF5 := Lib.hid (And.intro (HF.out.1.drew.below HB5.out) (And.intro (HF.out.2.1.drew.below HB5.out) (HF.out.2.2.draw.bel HB5.out)))
      refine ⟨⟨HF5.out.1, HF5.out.2.1⟩, ?_⟩
      iterate 5 (refine wpPl_take (v := ?_) (by rfl) (fun w' hS => ?_) ?_; rotate_left; (focus (go_simp; with_reducible rfl)); simp only [Act.put, List.setIfInBounds_toArray, List.set_cons_zero, List.set_cons_succ])
      refine wpPl_done ?_
      clear q0 q1 q2 q3 q4 q5
      cases eok with
      | false =>
        go_wp2
        go_roundg (M - (m + 1))
        case measure => omega
        case rel =>
          have e1 : tellM c1 (m + 1) = cm := by
            rw [HNX.out]
            exact tell1_no (by rw [HSD.out, HTM.out]; exact HEO.out.symm)
          exact ⟨m + 1, G', by omega, rfl, by go_num, by rw [e1]; exact HF5.out.1, HF5.out.2.2, HIR.out⟩
      | true =>
        have hen := HNN.out rfl
        have hmp : m < cm.pots.length := by rw [HOM.out.pots]; omega
        have hgp := pots_get HOM.out m (by omega)
        have HPP := Lib.hid hgp.1
        obtain ⟨pg, hpa, rfl, hpk, hpgl, hg2, hpat⟩ := HF5.out.1.pot hgp.1
        subst hpa
        obtain ⟨⟨p1, p2, p3, p4⟩, hpv⟩ : ∃ pv, pv = cm.pots.getD m default := ⟨_, rfl⟩
        have HPV := Lib.hid (show cm.pots[m]? = some ⟨p1, p2, p3, p4⟩ from by rw [hpv]; exact hgp.1)
        have HPE := Lib.hid hpv
        obtain ⟨⟨r1, r2, r3, r4⟩, hrv⟩ : ∃ rv, rv = PotV.tell ⟨p1, p2, p3, p4⟩ ⟨s1, s2, s3, s4, s5⟩ (m : Int) nn := ⟨_, rfl⟩
        have HRV := Lib.hid hrv
        have HTL := Lib.hid (fun y => tell_any ⟨p1, p2, p3, p4⟩ ⟨s1, s2, s3, s4, s5⟩ m nn y)
        rw [← hrv] at HTL
        have HEN := Lib.hid hen
        have HG2 := Lib.hid hg2
        have HMP := Lib.hid hmp
        clear hgp hpv hrv hpat hen hg2
        go_wp2
        refine wp_region_pl (fun y : World => CoreIn y b G' (.slice (some ⟨sb, so, none⟩) M vk) (.slice (some ⟨pg, 0, none⟩) cm.pots.length pk) bb pc cm ∧ At y wr.heap.size [.int .u64 s1, .int .u64 s2, .int .i64 s3, .int .i64 s4, .int .i64 s5]) (.take 0 <| .take 1 <| .take 2 <| .take 3 <| .take 4 <| .take 5 <| .take 6 <| .take 7 <| .take 8 <| .take 9 <| .two 10 11 <| .doo 12 <| .done) ?plA7 (by kernel_rfl) (by kernel_rfl) (by kernel_rfl) ?plB7 (by intro c a d v w; cases d <;> exact fun h => h) ?plC7 ?_
        case plB7 =>
          simp only [Pl.with, List.getElem?_toArray, List.getElem?_cons_zero, List.getElem?_cons_succ]
          try rfl
        case plC7 => exact ⟨HF5.out.1.drew, HF5.out.2.1.drew⟩
        have q0 : ∀ y : World, (fun y : World => CoreIn y b G' (.slice (some ⟨sb, so, none⟩) M vk) (.slice (some ⟨pg, 0, none⟩) cm.pots.length pk) bb pc cm ∧ At y wr.heap.size [.int .u64 s1, .int .u64 s2, .int .i64 s3, .int .i64 s4, .int .i64 s5]) y → y.cell? ⟨wr.heap.size, 0, none⟩ = some (.int .u64 s1) := fun y h => h.2.c 0 _ rfl
        have q1 : ∀ y : World, (fun y : World => CoreIn y b G' (.slice (some ⟨sb, so, none⟩) M vk) (.slice (some ⟨pg, 0, none⟩) cm.pots.length pk) bb pc cm ∧ At y wr.heap.size [.int .u64 s1, .int .u64 s2, .int .i64 s3, .int .i64 s4, .int .i64 s5]) y → y.cell? ⟨wr.heap.size, 1, none⟩ = some (.int .u64 s2) := fun y h => h.2.c 1 _ rfl
        have q2' : ∀ y : World, (fun y : World => CoreIn y b G' (.slice (some ⟨sb, so, none⟩) M vk) (.slice (some ⟨pg, 0, none⟩) cm.pots.length pk) bb pc cm ∧ At y wr.heap.size [.int .u64 s1, .int .u64 s2, .int .i64 s3, .int .i64 s4, .int .i64 s5]) y → y.cell? ⟨wr.heap.size, 2, none⟩ = some (.int .i64 s3) := fun y h => h.2.c 2 _ rfl
        have q3 : ∀ y : World, (fun y : World => CoreIn y b G' (.slice (some ⟨sb, so, none⟩) M vk) (.slice (some ⟨pg, 0, none⟩) cm.pots.length pk) bb pc cm ∧ At y wr.heap.size [.int .u64 s1, .int .u64 s2, .int .i64 s3, .int .i64 s4, .int .i64 s5]) y → y.cell? ⟨wr.heap.size, 3, none⟩ = some (.int .i64 s4) := fun y h => h.2.c 3 _ rfl
        have q4 : ∀ y : World, (fun y : World => CoreIn y b G' (.slice (some ⟨sb, so, none⟩) M vk) (.slice (some ⟨pg, 0, none⟩) cm.pots.length pk) bb pc cm ∧ At y wr.heap.size [.int .u64 s1, .int .u64 s2, .int .i64 s3, .int .i64 s4, .int .i64 s5]) y → y.cell? ⟨wr.heap.size, 4, none⟩ = some (.int .i64 s5) := fun y h => h.2.c 4 _ rfl
        have t0 : ∀ y : World, (fun y : World => CoreIn y b G' (.slice (some ⟨sb, so, none⟩) M vk) (.slice (some ⟨pg, 0, none⟩) cm.pots.length pk) bb pc cm ∧ At y wr.heap.size [.int .u64 s1, .int .u64 s2, .int .i64 s3, .int .i64 s4, .int .i64 s5]) y → y.cell? ⟨pg, m * 4, none⟩ = some (.int .i64 p1) := fun y h => by
          obtain ⟨pg', e1, _, _, _, _, h4⟩ := h.1.pot HPV.out
          simp only [Option.some.injEq, Addr.mk.injEq] at e1
          obtain ⟨rfl, _, _⟩ := e1
          exact h4.c _ _ (potcs_at HPV.out (j := 0) (by decide) rfl)
        have t1 : ∀ y : World, (fun y : World => CoreIn y b G' (.slice (some ⟨sb, so, none⟩) M vk) (.slice (some ⟨pg, 0, none⟩) cm.pots.length pk) bb pc cm ∧ At y wr.heap.size [.int .u64 s1, .int .u64 s2, .int .i64 s3, .int .i64 s4, .int .i64 s5]) y → y.cell? ⟨pg, m * 4 + 1, none⟩ = some (.int .i64 p2) := fun y h => by
          obtain ⟨pg', e1, _, _, _, _, h4⟩ := h.1.pot HPV.out
          simp only [Option.some.injEq, Addr.mk.injEq] at e1
          obtain ⟨rfl, _, _⟩ := e1
          exact h4.c _ _ (potcs_at HPV.out (j := 1) (by decide) rfl)
        have t2 : ∀ y : World, (fun y : World => CoreIn y b G' (.slice (some ⟨sb, so, none⟩) M vk) (.slice (some ⟨pg, 0, none⟩) cm.pots.length pk) bb pc cm ∧ At y wr.heap.size [.int .u64 s1, .int .u64 s2, .int .i64 s3, .int .i64 s4, .int .i64 s5]) y → y.cell? ⟨pg, m * 4 + 2, none⟩ = some (.int .i64 p3) := fun y h => by
          obtain ⟨pg', e1, _, _, _, _, h4⟩ := h.1.pot HPV.out
          simp only [Option.some.injEq, Addr.mk.injEq] at e1
          obtain ⟨rfl, _, _⟩ := e1
          exact h4.c _ _ (potcs_at HPV.out (j := 2) (by decide) rfl)
        have t3 : ∀ y : World, (fun y : World => CoreIn y b G' (.slice (some ⟨sb, so, none⟩) M vk) (.slice (some ⟨pg, 0, none⟩) cm.pots.length pk) bb pc cm ∧ At y wr.heap.size [.int .u64 s1, .int .u64 s2, .int .i64 s3, .int .i64 s4, .int .i64 s5]) y → y.cell? ⟨pg, m * 4 + 3, none⟩ = some (.int .u64 p4) := fun y h => by
          obtain ⟨pg', e1, _, _, _, _, h4⟩ := h.1.pot HPV.out
          simp only [Option.some.injEq, Addr.mk.injEq] at e1
          obtain ⟨rfl, _, _⟩ := e1
          exact h4.c _ _ (potcs_at HPV.out (j := 3) (by decide) rfl)
        have t4 : ∀ y : World, (fun y : World => CoreIn y b G' (.slice (some ⟨sb, so, none⟩) M vk) (.slice (some ⟨pg, 0, none⟩) cm.pots.length pk) bb pc cm ∧ At y wr.heap.size [.int .u64 s1, .int .u64 s2, .int .i64 s3, .int .i64 s4, .int .i64 s5]) y → y.cell? ⟨b, 12, none⟩ = some (.slice (some ⟨pg, 0, none⟩) cm.pots.length pk) := fun y h => h.1.a.c 12 _ rfl
        iterate 10 (refine wpPl_take (v := ?_) (by rfl) (fun w' hS => ?_) ?_; rotate_left; (focus (go_simp; with_reducible rfl)); simp only [Act.put, List.setIfInBounds_toArray, List.set_cons_zero, List.set_cons_succ])
        refine wpPl_two (fun u v y => u = .agg #[.int .i64 r1, .int .i64 r2, .int .i64 r3, .bool r4] ∧ ∃ q2, v = .pointer (some ⟨q2, 0, none⟩) ∧ At y q2 [.int .i64 0, .int .i64 0, .int .i64 0, .bool false] ∧ Mod (allOf 12 G) w y ∧ w5.heap.size ≤ q2) (by rfl) (by rfl) (by rintro d ⟨⟩; simp) (fun KK hKK => ?_) (fun KK hKK => ?_) ?_
        · go_wp2_with (go_at_call 34; (with_reducible refine (HTL.out _).mono ?_); rintro e w6 ⟨rfl, hb6⟩; have HB6 := Lib.hid hb6; clear hb6)
          refine ⟨⟨HF5.out.1.drew.below HB6.out, HF5.out.2.1.drew.below HB6.out⟩, _, rfl, wpOne_do (by rfl) (fun KK2 hKK2 => ?_)⟩
          go_wp2_with fail
          exact ⟨⟨(HF5.out.1.drew.below HB6.out).alloc _, (HF5.out.2.1.drew.below HB6.out).alloc _⟩, At.new _ _ _, (HF5.out.2.2.draw.bel HB6.out).new _, by simpa using HB6.out.size⟩
        · go_wp2_with fail
          refine ⟨⟨(HF5.out.1.alloc _).drew, (HF5.out.2.1.alloc _).drew⟩, ?_⟩
          refine wpOne_do (by rfl) (fun KK2 hKK2 => ?_)
          go_wp2_with (go_at_call 34; (with_reducible refine (HTL.out _).mono ?_); rintro e w6 ⟨rfl, hb6⟩; have HB6 := Lib.hid hb6; clear hb6)
          exact ⟨⟨((HF5.out.1.alloc _).drew).below HB6.out, ((HF5.out.2.1.alloc _).drew).below HB6.out⟩, _, rfl, rfl, (At.new w5 _ _).drew.below HB6.out, ((HF5.out.2.2.new _).draw).bel HB6.out⟩
        rintro u v y ⟨rfl, q2, rfl, hz, hmy, hq2⟩ hSy
        simp only [Act.put, List.setIfInBounds_toArray, List.set_cons_zero, List.set_cons_succ]
        clear t0 t1 t2 t3 t4
        have g0 := hz.c 0 _ rfl
        have g1 := hz.c 1 _ rfl
        have g2 := hz.c 2 _ rfl
        have g3 := hz.c 3 _ rfl
        have f0 := hz.f 0
        have f1 := hz.f 1
        have f2 := hz.f 2
        have f3 := hz.f 3
        have l7 := hz.lt
        have HZ := Lib.hid hz
        have HMY := Lib.hid hmy
        have HSY := Lib.hid hSy
        have hw5s := HF5.out.2.2.size
        have hq1l := HF5.out.2.1.lt
        have hcl := HF5.out.1.lt
        have hm7 : Mod [q2] y ((((y.setCell ⟨q2, 0, none⟩ (.int .i64 r1)).setCell ⟨q2, 1, none⟩ (.int .i64 r2)).setCell ⟨q2, 2, none⟩ (.int .i64 r3)).setCell ⟨q2, 3, none⟩ (.bool r4)) := ((((Mod.refl _ _).set _ _ _ (.inl (by simp))).set _ _ _ (.inl (by simp))).set _ _ _ (.inl (by simp))).set _ _ _ (.inl (by simp))
        have HM7 := Lib.hid hm7
        have hF7 : CoreIn ((((y.setCell ⟨q2, 0, none⟩ (.int .i64 r1)).setCell ⟨q2, 1, none⟩ (.int .i64 r2)).setCell ⟨q2, 2, none⟩ (.int .i64 r3)).setCell ⟨q2, 3, none⟩ (.bool r4)) b G' (.slice (some ⟨sb, so, none⟩) M vk) (.slice (some ⟨pg, 0, none⟩) cm.pots.length pk) bb pc cm ∧ At ((((y.setCell ⟨q2, 0, none⟩ (.int .i64 r1)).setCell ⟨q2, 1, none⟩ (.int .i64 r2)).setCell ⟨q2, 2, none⟩ (.int .i64 r3)).setCell ⟨q2, 3, none⟩ (.bool r4)) wr.heap.size [.int .u64 s1, .int .u64 s2, .int .i64 s3, .int .i64 s4, .int .i64 s5] ∧ At ((((y.setCell ⟨q2, 0, none⟩ (.int .i64 r1)).setCell ⟨q2, 1, none⟩ (.int .i64 r2)).setCell ⟨q2, 2, none⟩ (.int .i64 r3)).setCell ⟨q2, 3, none⟩ (.bool r4)) q2 [.int .i64 r1, .int .i64 r2, .int .i64 r3, .bool r4] ∧ Mod (allOf 12 G) w ((((y.setCell ⟨q2, 0, none⟩ (.int .i64 r1)).setCell ⟨q2, 1, none⟩ (.int .i64 r2)).setCell ⟨q2, 2, none⟩ (.int .i64 r3)).setCell ⟨q2, 3, none⟩ (.bool r4)) := by
          refine ⟨hSy.1.same (fun x hx => hm7.block x (hSy.1.lt x hx) (by have := hcl x hx; simp; omega)) hm7.size, hSy.2.mod hm7 (by simp; omega), (((hz.set 0 _ (by simp)).set 1 _ (by simp)).set 2 _ (by simp)).set 3 _ (by simp), hmy.trans hm7 (Into.new (by simp; omega) _)⟩
        have HF7 := Lib.hid hF7
        clear hz hmy hSy hm7 hF7 hcl
        refine wpPl_do (by rfl) (fun K hK => ?_)
        go_wp2_with fail
        refine ⟨⟨HF7.out.1, HF7.out.2.1⟩, ?_⟩
        refine wpPl_done ?_
        obtain ⟨w7, hw7⟩ : ∃ w7, w7 = ((((y.setCell ⟨q2, 0, none⟩ (.int .i64 r1)).setCell ⟨q2, 1, none⟩ (.int .i64 r2)).setCell ⟨q2, 2, none⟩ (.int .i64 r3)).setCell ⟨q2, 3, none⟩ (.bool r4)) := ⟨_, rfl⟩
        rw [← hw7] at HF7 ⊢
        clear hw7 HM7 g0 g1 g2 g3 f0 f1 f2 f3 l7 HZ HMY HSY
        go_wp2
        refine wp_region_pt 7 (fun y : World => CoreIn y b G' (.slice (some ⟨sb, so, none⟩) M vk) (.slice (some ⟨pg, 0, none⟩) cm.pots.length pk) bb pc cm ∧ At y wr.heap.size [.int .u64 s1, .int .u64 s2, .int .i64 s3, .int .i64 s4, .int .i64 s5] ∧ At y q2 [.int .i64 r1, .int .i64 r2, .int .i64 r3, .bool r4] ∧ Mod (allOf 12 G) w y) (.take 0 <| .take 1 <| .take 2 <| .take 3 <| .take 4 <| .take 5 <| .doo 6 <| .done) ?plA8 (by kernel_rfl) (by kernel_rfl) ?plB8 (by intro c a d v w; cases d <;> exact fun h => h) ?plC8 ?_
        case plB8 =>
          simp only [Pt.with, List.getElem?_toArray, List.getElem?_cons_zero, List.getElem?_cons_succ]
          try rfl
        case plC8 => exact ⟨HF7.out.1.drew, HF7.out.2.1.drew, HF7.out.2.2.1.drew, HF7.out.2.2.2.draw⟩
        have x0 : ∀ y : World, (fun y : World => CoreIn y b G' (.slice (some ⟨sb, so, none⟩) M vk) (.slice (some ⟨pg, 0, none⟩) cm.pots.length pk) bb pc cm ∧ At y wr.heap.size [.int .u64 s1, .int .u64 s2, .int .i64 s3, .int .i64 s4, .int .i64 s5] ∧ At y q2 [.int .i64 r1, .int .i64 r2, .int .i64 r3, .bool r4] ∧ Mod (allOf 12 G) w y) y → y.cell? ⟨wr.heap.size, 0, none⟩ = some (.int .u64 s1) := fun y h => h.2.1.c 0 _ rfl
        have x1 : ∀ y : World, (fun y : World => CoreIn y b G' (.slice (some ⟨sb, so, none⟩) M vk) (.slice (some ⟨pg, 0, none⟩) cm.pots.length pk) bb pc cm ∧ At y wr.heap.size [.int .u64 s1, .int .u64 s2, .int .i64 s3, .int .i64 s4, .int .i64 s5] ∧ At y q2 [.int .i64 r1, .int .i64 r2, .int .i64 r3, .bool r4] ∧ Mod (allOf 12 G) w y) y → y.cell? ⟨wr.heap.size, 1, none⟩ = some (.int .u64 s2) := fun y h => h.2.1.c 1 _ rfl
        have x2 : ∀ y : World, (fun y : World => CoreIn y b G' (.slice (some ⟨sb, so, none⟩) M vk) (.slice (some ⟨pg, 0, none⟩) cm.pots.length pk) bb pc cm ∧ At y wr.heap.size [.int .u64 s1, .int .u64 s2, .int .i64 s3, .int .i64 s4, .int .i64 s5] ∧ At y q2 [.int .i64 r1, .int .i64 r2, .int .i64 r3, .bool r4] ∧ Mod (allOf 12 G) w y) y → y.cell? ⟨wr.heap.size, 2, none⟩ = some (.int .i64 s3) := fun y h => h.2.1.c 2 _ rfl
        have x3 : ∀ y : World, (fun y : World => CoreIn y b G' (.slice (some ⟨sb, so, none⟩) M vk) (.slice (some ⟨pg, 0, none⟩) cm.pots.length pk) bb pc cm ∧ At y wr.heap.size [.int .u64 s1, .int .u64 s2, .int .i64 s3, .int .i64 s4, .int .i64 s5] ∧ At y q2 [.int .i64 r1, .int .i64 r2, .int .i64 r3, .bool r4] ∧ Mod (allOf 12 G) w y) y → y.cell? ⟨wr.heap.size, 3, none⟩ = some (.int .i64 s4) := fun y h => h.2.1.c 3 _ rfl
        have x4 : ∀ y : World, (fun y : World => CoreIn y b G' (.slice (some ⟨sb, so, none⟩) M vk) (.slice (some ⟨pg, 0, none⟩) cm.pots.length pk) bb pc cm ∧ At y wr.heap.size [.int .u64 s1, .int .u64 s2, .int .i64 s3, .int .i64 s4, .int .i64 s5] ∧ At y q2 [.int .i64 r1, .int .i64 r2, .int .i64 r3, .bool r4] ∧ Mod (allOf 12 G) w y) y → y.cell? ⟨wr.heap.size, 4, none⟩ = some (.int .i64 s5) := fun y h => h.2.1.c 4 _ rfl
        have x5 : ∀ y : World, (fun y : World => CoreIn y b G' (.slice (some ⟨sb, so, none⟩) M vk) (.slice (some ⟨pg, 0, none⟩) cm.pots.length pk) bb pc cm ∧ At y wr.heap.size [.int .u64 s1, .int .u64 s2, .int .i64 s3, .int .i64 s4, .int .i64 s5] ∧ At y q2 [.int .i64 r1, .int .i64 r2, .int .i64 r3, .bool r4] ∧ Mod (allOf 12 G) w y) y → y.cell? ⟨b, 12, none⟩ = some (.slice (some ⟨pg, 0, none⟩) cm.pots.length pk) := fun y h => h.1.a.c 12 _ rfl
        iterate 6 (refine wpPt_take (v := ?_) (by rfl) (fun w' hS => ?_) ?_; rotate_left; (focus (go_simp; with_reducible rfl)); simp only [Act.put, List.setIfInBounds_toArray, List.set_cons_zero, List.set_cons_succ])
        refine wpPt_do (by rfl) (fun K hK => ?_)
        go_wp2_with (go_at_call 28; (with_reducible refine (snew_any ⟨s1, s2, s3, s4, s5⟩ _).mono ?_); rintro e w8 ⟨rfl, hb8⟩; have HB8 := Lib.hid hb8; clear hb8)
        have HF8 := Lib.hid (show (fun y : World => CoreIn y b G' (.slice (some ⟨sb, so, none⟩) M vk) (.slice (some ⟨pg, 0, none⟩) cm.pots.length pk) bb pc cm ∧ At y wr.heap.size [.int .u64 s1, .int .u64 s2, .int .i64 s3, .int .i64 s4, .int .i64 s5] ∧ At y q2 [.int .i64 r1, .int .i64 r2, .int .i64 r3, .bool r4] ∧ Mod (allOf 12 G) w y) w8 from ⟨HF7.out.1.drew.below HB8.out, HF7.out.2.1.drew.below HB8.out, HF7.out.2.2.1.drew.below HB8.out, HF7.out.2.2.2.draw.bel HB8.out⟩)
        refine ⟨HF8.out, ?_⟩
        refine wpPt_done ?_
        clear x0 x1 x2 x3 x4 x5
        simp only [List.drop_succ_cons, List.drop_zero]
        obtain ⟨pg', e1, _, _, hpl8, hg28, hpa8⟩ := HF8.out.1.pot HPV.out
        simp only [Option.some.injEq, Addr.mk.injEq] at e1
        obtain ⟨rfl, _, _⟩ := e1
        have t0 := hpa8.c (m * 4) _ (potcs_at HPV.out (j := 0) (by decide) rfl)
        have t1 := hpa8.c (m * 4 + 1) _ (potcs_at HPV.out (j := 1) (by decide) rfl)
        have t2 := hpa8.c (m * 4 + 2) _ (potcs_at HPV.out (j := 2) (by decide) rfl)
        have t3 := hpa8.c (m * 4 + 3) _ (potcs_at HPV.out (j := 3) (by decide) rfl)
        have f0 := hpa8.f (m * 4)
        have f1 := hpa8.f (m * 4 + 1)
        have f2 := hpa8.f (m * 4 + 2)
        have f3 := hpa8.f (m * 4 + 3)
        have HPA8 := Lib.hid hpa8
        clear hpa8
        go_wp2
        obtain ⟨w9, hw9⟩ : ∃ w9, w9 = ((((w8.setCell ⟨pg, m * 4, none⟩ (.int .i64 (PotV.new ⟨s1, s2, s3, s4, s5⟩).count)).setCell ⟨pg, m * 4 + 1, none⟩ (.int .i64 (PotV.new ⟨s1, s2, s3, s4, s5⟩).kind)).setCell ⟨pg, m * 4 + 2, none⟩ (.int .i64 (PotV.new ⟨s1, s2, s3, s4, s5⟩).value)).setCell ⟨pg, m * 4 + 3, none⟩ (.int .u64 (PotV.new ⟨s1, s2, s3, s4, s5⟩).who)) := ⟨_, rfl⟩
        have hm9 : Mod [pg] w8 w9 := by rw [hw9]; exact ((((Mod.refl _ _).set _ _ _ (.inl (by simp))).set _ _ _ (.inl (by simp))).set _ _ _ (.inl (by simp))).set _ _ _ (.inl (by simp))
        have ha9 : At w9 pg ((cm.pots.set m (PotV.new ⟨s1, s2, s3, s4, s5⟩)).flatMap PotV.cs) := by
          have hfl : (cm.pots.flatMap PotV.cs).length = cm.pots.length * 4 := flat_len (cs := PotV.cs) (k := 4) (fun _ => rfl) _
          have h := ((((HPA8.out.set (m * 4) (.int .i64 (PotV.new ⟨s1, s2, s3, s4, s5⟩).count) (by omega)).set (m * 4 + 1) (.int .i64 (PotV.new ⟨s1, s2, s3, s4, s5⟩).kind) (by rw [List.length_set]; omega)).set (m * 4 + 2) (.int .i64 (PotV.new ⟨s1, s2, s3, s4, s5⟩).value) (by rw [List.length_set, List.length_set]; omega)).set (m * 4 + 3) (.int .u64 (PotV.new ⟨s1, s2, s3, s4, s5⟩).who) (by rw [List.length_set, List.length_set, List.length_set]; omega))
          rw [← pot_set4 HPV.out (PotV.new ⟨s1, s2, s3, s4, s5⟩), hw9]
          exact h
        have hcl := HF8.out.1.pr
        have hq1n : wr.heap.size ∉ [pg] := by
          have h1 := HCR.out.p
          rcases h1 with ⟨_, h2, _⟩ | ⟨pg2, cap2, h2, h3, _⟩
          · cases h2
          · simp only [Value.slice.injEq, Option.some.injEq, Addr.mk.injEq] at h2
            have := h3.lt
            have e : pg = pg2 := h2.1.1
            simp
            omega
        have hq2n : q2 ∉ [pg] := by simp; omega
        have HF9 := Lib.hid (show (fun y : World => CoreIn y b G' (.slice (some ⟨sb, so, none⟩) M vk) (.slice (some ⟨pg, 0, none⟩) cm.pots.length pk) bb pc { cm with pots := cm.pots.set m (PotV.new ⟨s1, s2, s3, s4, s5⟩) } ∧ At y wr.heap.size [.int .u64 s1, .int .u64 s2, .int .i64 s3, .int .i64 s4, .int .i64 s5] ∧ At y q2 [.int .i64 r1, .int .i64 r2, .int .i64 r3, .bool r4] ∧ Mod (allOf 12 G) w y) w9 from ⟨HF8.out.1.potted (by rw [hg28]; exact hm9) (.inr ⟨pg, pk, by rw [List.length_set], ha9, hg28, by rw [List.length_set]; exact hpk⟩), HF8.out.2.1.mod hm9 hq1n, HF8.out.2.2.1.mod hm9 hq2n, HF8.out.2.2.2.trans hm9 (fun x hx => by
          obtain rfl : x = pg := by simpa using hx
          rcases HIR.out 2 (by omega) x (by rw [hg28]; simp) with h1 | h1
          · exact .inl (mem_allOf.2 ⟨2, by omega, h1⟩)
          · exact .inr h1)⟩)
        try rw [← hw9]
        clear hw9 hm9 ha9 t0 t1 t2 t3 f0 f1 f2 f3 hcl hq1n hq2n
        refine wp_region_pt 8 (fun y : World => CoreIn y b G' (.slice (some ⟨sb, so, none⟩) M vk) (.slice (some ⟨pg, 0, none⟩) cm.pots.length pk) bb pc { cm with pots := cm.pots.set m (PotV.new ⟨s1, s2, s3, s4, s5⟩) } ∧ At y wr.heap.size [.int .u64 s1, .int .u64 s2, .int .i64 s3, .int .i64 s4, .int .i64 s5] ∧ At y q2 [.int .i64 r1, .int .i64 r2, .int .i64 r3, .bool r4] ∧ Mod (allOf 12 G) w y) (.take 0 <| .take 1 <| .take 2 <| .take 3 <| .take 4 <| .take 5 <| .take 6 <| .doo 7 <| .done) ?plA9 (by kernel_rfl) (by kernel_rfl) ?plB9 (by intro c a d v w; cases d <;> exact fun h => h) ?plC9 ?_
        case plB9 =>
          simp only [Pt.with, List.getElem?_toArray, List.getElem?_cons_zero, List.getElem?_cons_succ]
          try rfl
        case plC9 => exact ⟨HF9.out.1.drew, HF9.out.2.1.drew, HF9.out.2.2.1.drew, HF9.out.2.2.2.draw⟩
        have x1 : ∀ y : World, (fun y : World => CoreIn y b G' (.slice (some ⟨sb, so, none⟩) M vk) (.slice (some ⟨pg, 0, none⟩) cm.pots.length pk) bb pc { cm with pots := cm.pots.set m (PotV.new ⟨s1, s2, s3, s4, s5⟩) } ∧ At y wr.heap.size [.int .u64 s1, .int .u64 s2, .int .i64 s3, .int .i64 s4, .int .i64 s5] ∧ At y q2 [.int .i64 r1, .int .i64 r2, .int .i64 r3, .bool r4] ∧ Mod (allOf 12 G) w y) y → y.cell? ⟨wr.heap.size, 1, none⟩ = some (.int .u64 s2) := fun y h => h.2.1.c 1 _ rfl
        have y0 : ∀ y : World, (fun y : World => CoreIn y b G' (.slice (some ⟨sb, so, none⟩) M vk) (.slice (some ⟨pg, 0, none⟩) cm.pots.length pk) bb pc { cm with pots := cm.pots.set m (PotV.new ⟨s1, s2, s3, s4, s5⟩) } ∧ At y wr.heap.size [.int .u64 s1, .int .u64 s2, .int .i64 s3, .int .i64 s4, .int .i64 s5] ∧ At y q2 [.int .i64 r1, .int .i64 r2, .int .i64 r3, .bool r4] ∧ Mod (allOf 12 G) w y) y → y.cell? ⟨q2, 0, none⟩ = some (.int .i64 r1) := fun y h => h.2.2.1.c 0 _ rfl
        have y1 : ∀ y : World, (fun y : World => CoreIn y b G' (.slice (some ⟨sb, so, none⟩) M vk) (.slice (some ⟨pg, 0, none⟩) cm.pots.length pk) bb pc { cm with pots := cm.pots.set m (PotV.new ⟨s1, s2, s3, s4, s5⟩) } ∧ At y wr.heap.size [.int .u64 s1, .int .u64 s2, .int .i64 s3, .int .i64 s4, .int .i64 s5] ∧ At y q2 [.int .i64 r1, .int .i64 r2, .int .i64 r3, .bool r4] ∧ Mod (allOf 12 G) w y) y → y.cell? ⟨q2, 1, none⟩ = some (.int .i64 r2) := fun y h => h.2.2.1.c 1 _ rfl
        have y2 : ∀ y : World, (fun y : World => CoreIn y b G' (.slice (some ⟨sb, so, none⟩) M vk) (.slice (some ⟨pg, 0, none⟩) cm.pots.length pk) bb pc { cm with pots := cm.pots.set m (PotV.new ⟨s1, s2, s3, s4, s5⟩) } ∧ At y wr.heap.size [.int .u64 s1, .int .u64 s2, .int .i64 s3, .int .i64 s4, .int .i64 s5] ∧ At y q2 [.int .i64 r1, .int .i64 r2, .int .i64 r3, .bool r4] ∧ Mod (allOf 12 G) w y) y → y.cell? ⟨q2, 2, none⟩ = some (.int .i64 r3) := fun y h => h.2.2.1.c 2 _ rfl
        have y3 : ∀ y : World, (fun y : World => CoreIn y b G' (.slice (some ⟨sb, so, none⟩) M vk) (.slice (some ⟨pg, 0, none⟩) cm.pots.length pk) bb pc { cm with pots := cm.pots.set m (PotV.new ⟨s1, s2, s3, s4, s5⟩) } ∧ At y wr.heap.size [.int .u64 s1, .int .u64 s2, .int .i64 s3, .int .i64 s4, .int .i64 s5] ∧ At y q2 [.int .i64 r1, .int .i64 r2, .int .i64 r3, .bool r4] ∧ Mod (allOf 12 G) w y) y → y.cell? ⟨q2, 3, none⟩ = some (.bool r4) := fun y h => h.2.2.1.c 3 _ rfl
        have x5 : ∀ y : World, (fun y : World => CoreIn y b G' (.slice (some ⟨sb, so, none⟩) M vk) (.slice (some ⟨pg, 0, none⟩) cm.pots.length pk) bb pc { cm with pots := cm.pots.set m (PotV.new ⟨s1, s2, s3, s4, s5⟩) } ∧ At y wr.heap.size [.int .u64 s1, .int .u64 s2, .int .i64 s3, .int .i64 s4, .int .i64 s5] ∧ At y q2 [.int .i64 r1, .int .i64 r2, .int .i64 r3, .bool r4] ∧ Mod (allOf 12 G) w y) y → y.cell? ⟨b, 13, none⟩ = some (.pointer (some ⟨bb, 0, none⟩)) := fun y h => h.1.a.c 13 _ rfl
        iterate 7 (refine wpPt_take (v := ?_) (by rfl) (fun w' hS => ?_) ?_; rotate_left; (focus (go_simp; with_reducible rfl)); simp only [Act.put, List.setIfInBounds_toArray, List.set_cons_zero, List.set_cons_succ])
        refine wpPt_do (by rfl) (fun K hK => ?_)
        go_wp2_with fail
        have HFA := Lib.hid (show (fun y : World => CoreIn y b G' (.slice (some ⟨sb, so, none⟩) M vk) (.slice (some ⟨pg, 0, none⟩) cm.pots.length pk) bb pc { cm with pots := cm.pots.set m (PotV.new ⟨s1, s2, s3, s4, s5⟩) } ∧ At y wr.heap.size [.int .u64 s1, .int .u64 s2, .int .i64 s3, .int .i64 s4, .int .i64 s5] ∧ At y q2 [.int .i64 r1, .int .i64 r2, .int .i64 r3, .bool r4] ∧ Mod (allOf 12 G) w y) (w9.alloc (.cells #[.int .i64 r1, .int .i64 r2, .int .i64 r3, .bool r4] 52)).drew from ⟨(HF9.out.1.alloc _).drew, (HF9.out.2.1.alloc _).drew, (HF9.out.2.2.1.alloc _).drew, (HF9.out.2.2.2.new _).draw⟩)
        have HGA := Lib.hid (show At (w9.alloc (.cells #[.int .i64 r1, .int .i64 r2, .int .i64 r3, .bool r4] 52)).drew w9.heap.size (RelV.cs ⟨r1, r2, r3, r4⟩) from (At.new _ _ _).drew)
        refine ⟨HFA.out, ?_⟩
        refine wpPt_done ?_
        clear x1 x5 y0 y1 y2 y3
        try simp only [List.drop_succ_cons, List.drop_zero]
        obtain ⟨vb, H, hG3, hbd⟩ := HFA.out.1.bd
        have hG3l : ∀ x ∈ allOf 9 H, x < w9.heap.size := fun x hx => HF9.out.1.pr.lt 3 (by omega) x (by rw [hG3]; exact hx)
        have hG3q : q2 ∉ allOf 9 H := fun hh => by
          have := HF5.out.1.pr.lt 3 (by omega) q2 (by rw [hG3]; exact hh)
          omega
        have HPIN := Lib.hid (pin_in bb vb H cm.board s2 ⟨r1, r2, r3, r4⟩ w9.heap.size _ hbd HGA.out (fun hh => by have := hG3l _ hh; omega) (fun t _ => by have := HOM.out.bd t; omega))
        have HG3 := Lib.hid hG3
        clear hG3 hbd
        cases r4 with
        | true =>
          go_wp2_with (go_at_call 79; (with_reducible refine HPIN.out.mono ?_); rintro e wA ⟨⟨uA, rfl⟩, vbA, HA, hbA, hmA, hiA⟩; have HBA := Lib.hid hbA; have HMA := Lib.hid hmA; have HIA := Lib.hid hiA; have HRA := Lib.hid (HFA.out.2.2.1.mod hmA hG3q); have yA := (HFA.out.2.2.1.mod hmA hG3q).c 3 _ rfl; have yA0 := (HFA.out.2.2.1.mod hmA hG3q).c 0 _ rfl; have yA1 := (HFA.out.2.2.1.mod hmA hG3q).c 1 _ rfl; have yA2 := (HFA.out.2.2.1.mod hmA hG3q).c 2 _ rfl; clear hbA hmA hiA)
          have hAi : Into (allOf 9 HA) (G' 3) (w9.alloc (.cells #[.int .i64 r1, .int .i64 r2, .int .i64 r3, .bool true] 52)).drew.heap.size := by
            rw [HG3.out]
            intro x hx
            obtain ⟨j, hj, hx⟩ := mem_allOf.1 hx
            rcases HIA.out j hj x hx with h1 | h1
            · exact .inl (mem_allOf.2 ⟨j, hj, h1⟩)
            · exact .inr h1
          have hsub : ∀ j, j < 12 → ∀ y ∈ G' j, y ∈ allOf 12 G ∨ w.heap.size ≤ y := fun j hj y hy => by
            rcases HIR.out j hj y hy with h1 | h1
            · exact .inl (mem_allOf.2 ⟨j, hj, h1⟩)
            · exact .inr h1
          have hszA := HFA.out.2.2.2.size
          have hMA : Mod (allOf 12 G) w wA := HFA.out.2.2.2.trans HMA.out (fun y hy => hsub 3 (by omega) y (by rw [HG3.out]; exact hy))
          have hIA : ∀ j, j < 12 → Into (put G' 3 (allOf 9 HA) j) (G j) w.heap.size := fun j hj => by
            by_cases e : j = 3
            · subst e
              rw [put_same]
              exact (HIR.out 3 hj).trans hAi hszA
            · rw [put_ne _ _ e]
              exact HIR.out j hj
          have hCA : CoreIn wA b (put G' 3 (allOf 9 HA)) (.slice (some ⟨sb, so, none⟩) M vk) (.slice (some ⟨pg, 0, none⟩) cm.pots.length pk) bb pc (toldC cm ⟨s1, s2, s3, s4, s5⟩ m ⟨r1, r2, r3, true⟩) :=
            HFA.out.1.boarded (f := pinF s2 ⟨r1, r2, r3, true⟩ cm.board 8) (by rw [HG3.out]; exact HMA.out) ⟨vbA, HA, rfl, HBA.out⟩ hAi (fun x hx => by
              obtain ⟨j, hj, hx⟩ := mem_allOf.1 hx
              exact HBA.out.pr.lt j hj x hx)
          go_roundg (M - (m + 1))
          case measure => omega
          case rel =>
            have e1 : tellM c1 (m + 1) = toldC cm ⟨s1, s2, s3, s4, s5⟩ m ⟨r1, r2, r3, true⟩ := by
              rw [HNX.out]
              refine tell1_hid HSD.out (by rw [HTM.out]; exact HEO.out.symm) ?_ rfl
              rw [HRV.out, HPE.out, HEN.out, HTM.out]
              rfl
            exact ⟨m + 1, put G' 3 (allOf 9 HA), by omega, rfl, by go_num, by rw [e1]; exact hCA, hMA, hIA⟩
        | false =>
          go_wp2_with (go_at_call 79; (with_reducible refine HPIN.out.mono ?_); rintro e wA ⟨⟨uA, rfl⟩, vbA, HA, hbA, hmA, hiA⟩; have HBA := Lib.hid hbA; have HMA := Lib.hid hmA; have HIA := Lib.hid hiA; have HRA := Lib.hid (HFA.out.2.2.1.mod hmA hG3q); have yA := (HFA.out.2.2.1.mod hmA hG3q).c 3 _ rfl; have yA0 := (HFA.out.2.2.1.mod hmA hG3q).c 0 _ rfl; have yA1 := (HFA.out.2.2.1.mod hmA hG3q).c 1 _ rfl; have yA2 := (HFA.out.2.2.1.mod hmA hG3q).c 2 _ rfl; clear hbA hmA hiA)
          have hAi : Into (allOf 9 HA) (G' 3) (w9.alloc (.cells #[.int .i64 r1, .int .i64 r2, .int .i64 r3, .bool false] 52)).drew.heap.size := by
            rw [HG3.out]
            intro x hx
            obtain ⟨j, hj, hx⟩ := mem_allOf.1 hx
            rcases HIA.out j hj x hx with h1 | h1
            · exact .inl (mem_allOf.2 ⟨j, hj, h1⟩)
            · exact .inr h1
          have hsub : ∀ j, j < 12 → ∀ y ∈ G' j, y ∈ allOf 12 G ∨ w.heap.size ≤ y := fun j hj y hy => by
            rcases HIR.out j hj y hy with h1 | h1
            · exact .inl (mem_allOf.2 ⟨j, hj, h1⟩)
            · exact .inr h1
          have hszA := HFA.out.2.2.2.size
          have hMA : Mod (allOf 12 G) w wA := HFA.out.2.2.2.trans HMA.out (fun y hy => hsub 3 (by omega) y (by rw [HG3.out]; exact hy))
          have hIA : ∀ j, j < 12 → Into (put G' 3 (allOf 9 HA) j) (G j) w.heap.size := fun j hj => by
            by_cases e : j = 3
            · subst e
              rw [put_same]
              exact (HIR.out 3 hj).trans hAi hszA
            · rw [put_ne _ _ e]
              exact HIR.out j hj
          have hCA : CoreIn wA b (put G' 3 (allOf 9 HA)) (.slice (some ⟨sb, so, none⟩) M vk) (.slice (some ⟨pg, 0, none⟩) cm.pots.length pk) bb pc (toldC cm ⟨s1, s2, s3, s4, s5⟩ m ⟨r1, r2, r3, false⟩) :=
            HFA.out.1.boarded (f := pinF s2 ⟨r1, r2, r3, false⟩ cm.board 8) (by rw [HG3.out]; exact HMA.out) ⟨vbA, HA, rfl, HBA.out⟩ hAi (fun x hx => by
              obtain ⟨j, hj, hx⟩ := mem_allOf.1 hx
              exact HBA.out.pr.lt j hj x hx)
          have hr1 : r1 = (m : Int) := by
            have := congrArg RelV.sink HRV.out
            simp only [PotV.tell] at this
            split at this <;> simpa using this
          have HHF := Lib.hid (cfeed_in b (put G' 3 (allOf 9 HA)) (.slice (some ⟨sb, so, none⟩) M vk) (.slice (some ⟨pg, 0, none⟩) cm.pots.length pk) bb pc (toldC cm ⟨s1, s2, s3, s4, s5⟩ m ⟨r1, r2, r3, false⟩) (N + 1 + 2 * m + 1) ⟨s1, s2, s3, s4, s5⟩ m ⟨r1, r2, r3, false⟩ hr1 HSVV.out wA hCA (HOM.out.told HSB.out m _ (by omega)))
          go_wp2_with (go_at_call 80; (with_reducible refine HHF.out.mono ?_); rintro e wB ⟨⟨uB, rfl⟩, GB, hcB, hmB, hiB⟩; have HCB := Lib.hid hcB; have HMB := Lib.hid hmB; have HIB := Lib.hid hiB; clear hcB hmB hiB)
          go_roundg (M - (m + 1))
          case measure => omega
          case rel =>
            have e1 : tellM c1 (m + 1) = feedM (toldC cm ⟨s1, s2, s3, s4, s5⟩ m ⟨r1, r2, r3, false⟩) ⟨s1, s2, s3, s4, s5⟩ ⟨r1, r2, r3, false⟩ 8 := by
              rw [HNX.out]
              refine tell1_told HSD.out (by rw [HTM.out]; exact HEO.out.symm) ?_ rfl
              rw [HRV.out, HPE.out, HEN.out, HTM.out]
              rfl
            refine ⟨m + 1, GB, by omega, rfl, by go_num, by rw [e1]; exact HCB.out, hMA.trans HMB.out (fun y hy => ?_), fun j hj => (hIA j hj).trans (HIB.out j hj) hMA.size⟩
            obtain ⟨j, hj, hy⟩ := mem_allOf.1 hy
            rcases hIA j hj y hy with h1 | h1
            · exact .inl (mem_allOf.2 ⟨j, hj, h1⟩)
            · exact .inr h1
    · obtain rfl : m = M := by omega
      clear hcr hmr hir
      go_wp2
      go_end0
      exact ⟨⟨_, rfl⟩, G', HCR.out, HMR.out, HIR.out⟩
end Go.Proofs.YtcanfmabkklidaaGreat
set_option linter.unusedSimpArgs false
set_option linter.unusedVariables false
set_option linter.unnecessarySimpa false
namespace Go.Proofs.YtcanfmabkklidaaGreat
open Go.RowKit

/-- a new cell is put in -/
theorem CoreIn.reg {w w' : World} {b : Nat} {G : Nat → List Nat} {vs vp : Value} {bb : Nat} {pc : Nat → Option Nat} {c : CoreV} (h : CoreIn w b G vs vp bb pc c) (hb : Below w.heap.size w w') {t bt : Nat} {S : List Nat} {x : CellV} (ht : t < 8) (hx : CellAt w' bt S x) (hS : ∀ y ∈ S, w.heap.size ≤ y) :
    CoreIn (w'.setCell ⟨b, 4 + t, none⟩ (.pointer (some ⟨bt, 0, none⟩))) b (put G (4 + t) S) vs vp bb (fun u => if u = t then some bt else pc u) (c.setCell t x) := by
  have h' := h.below hb
  have hP := h.pr.upd (4 + t) (Into.new hS _) hx.lt hb.size
  have hbl := h.a.lt
  have h0 : put G (4 + t) S 0 = [b] := by rw [put_ne _ _ (by omega)]; exact h.g0
  have hm : Mod [b] w' (w'.setCell ⟨b, 4 + t, none⟩ (.pointer (some ⟨bt, 0, none⟩))) := Mod.setCell _ _ _ _
  have hsz : (w'.setCell ⟨b, 4 + t, none⟩ (.pointer (some ⟨bt, 0, none⟩))).heap.size = w'.heap.size := by simp [World.setCell]
  have hs : ∀ j, j < 12 → j ≠ 0 → ∀ y ∈ put G (4 + t) S j, (w'.setCell ⟨b, 4 + t, none⟩ (.pointer (some ⟨bt, 0, none⟩))).heap[y]? = w'.heap[y]? := fun j hj hne y hy => hm.block y (hP.lt j hj y hy) (by
    simp only [List.mem_singleton]
    rintro rfl
    exact hP.dis 0 j (by omega) hj (Ne.symm hne) y (by rw [h0]; simp) hy)
  have e : ∀ j, j ≠ 4 + t → put G (4 + t) S j = G j := fun j hj => put_ne _ _ hj
  refine ⟨?_, h0, ?_, ?_, ?_, fun u hu => ?_, by rw [hsz]; exact hP⟩
  · have hA := h'.a.set (4 + t) (ptrOf (some bt)) (by simp [coreCs]; omega)
    rw [core_set _ _ _ _ _ _ (by omega)] at hA
    exact hA
  · have h1 := hs 1 (by omega) (by omega)
    rw [e 1 (by omega)] at h1 ⊢
    exact h'.s.same h1
  · have h1 := hs 2 (by omega) (by omega)
    rw [e 2 (by omega)] at h1 ⊢
    exact h'.p.same h1
  · have h1 := hs 3 (by omega) (by omega)
    rw [e 3 (by omega)] at h1 ⊢
    exact h'.bd.same h1 (by rw [hsz]; exact Nat.le_refl _)
  · have h1 := hs (4 + u) (by omega) (by omega)
    by_cases eu : u = t
    · subst eu
      rw [put_same] at h1 ⊢
      simp only [CoreV.setCell, if_true]
      exact ⟨bt, rfl, hx.same h1⟩
    · rw [e (4 + u) (by omega)] at h1 ⊢
      simp only [CoreV.setCell, if_neg eu]
      exact (h'.cs u hu).same h1
set_option maxRecDepth 100000 in
set_option maxHeartbeats 8000000 in
theorem register_in (b : Nat) (G : Nat → List Nat) (vs vp : Value) (bb : Nat) (pc : Nat → Option Nat) (c : CoreV) (N : Nat) (t : Nat) (ht : t ≤ 7) (a : ActV) (hat : a.tenant = (t : Int)) (hp : PipeBd a.pipe) (S0 : List Nat) (w : World) (h : CoreIn w b G vs vp bb pc c) (ok : CoreOk c N) (hq : 0 ≤ c.quota) (hop : RdR OpV.cs 2 w a.pipe.ops a.pipe.ol S0) :
    Calls Tryz.prog 56 #[.pointer (some ⟨b, 0, none⟩), a.val] w fun e w' => e = .returned (.int .i64 (c.register t a.pipe.m).2) ∧ ∃ G' pc', CoreIn w' b G' vs vp bb pc' (c.register t a.pipe.m).1 ∧ Mod (allOf 12 G) w w' ∧ (∀ j, j < 12 → Into (G' j) (G j) w.heap.size) := by
  have hb := h.a.lt
  obtain ⟨va0, vn, vk, rfl⟩ : ∃ va vn vk, vs = .slice va vn vk := by obtain ⟨a, k, h, _⟩ := h.s; exact ⟨a, _, k, h⟩
  have HMAY := Lib.hid (fun y (hy : CoreIn y b G (.slice va0 vn vk) vp bb pc c) (ho : RdR OpV.cs 2 y a.pipe.ops a.pipe.ol S0) => may_any t ht a.pipe hp (.slice va0 vn vk) c.sinks y ho.isr hy.s.isr ok.sinks)
  have HNEW := Lib.hid (fun y (ho : RdR OpV.cs 2 y a.pipe.ops a.pipe.ol S0) => cnew_any t ht c.quota hq a.pipe S0 hp y ho)
  obtain ⟨ak, at', af, an, ⟨vo, ol, sz, sl, ag, si, fd⟩, am, ti, ky, va, lb⟩ := a
  simp only at hat hop hp HMAY HNEW ⊢
  subst hat
  obtain ⟨oa, oc, rfl⟩ : ∃ a c, vo = .slice a ol.length c := by obtain ⟨a, c, h, _⟩ := hop; exact ⟨a, c, h⟩
  obtain ⟨PM, hPM⟩ : ∃ PM, PM = PipeV.m ⟨.slice oa ol.length oc, ol, sz, sl, ag, si, fd⟩ := ⟨_, rfl⟩
  rw [← hPM] at HNEW ⊢
  have hpms : PM.sink = si := by rw [hPM]; rfl
  have hpmf : PM.feed = fd := by rw [hPM]; rfl
  obtain ⟨may, hmay⟩ : ∃ may, may = c.mayI t PM := ⟨_, rfl⟩
  have hme : (inI t si c.sinks SinkV.frm && inI t fd c.sinks SinkV.tos) = may := by rw [hmay, CoreV.mayI, hpms, hpmf]
  rw [hme] at HMAY
  unfold PipeV.val at HMAY HNEW
  simp only at HMAY HNEW
  have HE := Lib.hid hmay
  have hd : decide ((0 : Int) ≤ t ∧ (t : Int) ≤ 7) = true := by simp; omega
  have HD := Lib.hid hd
  have HAT0 := Lib.hid (fun W hW => at_any b G (.slice va0 vn vk) vp bb pc c t ht W hW)
  have hcell := h.cs t (by omega)
  have hlt := h.lt
  have HC0 := Lib.hid (h.alloc (.cells #[.int .i64 ak, .int .i64 (t : Int), .int .i64 af, .int .i64 an, .slice oa ol.length oc, .int .i64 sz, .int .i64 sl, .int .i64 ag, .int .i64 si, .int .i64 fd, .bool am, .int .i64 ti, .int .i64 ky, .int .i64 va, .int .u64 lb] 43))
  have HA0 := Lib.hid (At.new w #[.int .i64 ak, .int .i64 (t : Int), .int .i64 af, .int .i64 an, .slice oa ol.length oc, .int .i64 sz, .int .i64 sl, .int .i64 ag, .int .i64 si, .int .i64 fd, .bool am, .int .i64 ti, .int .i64 ky, .int .i64 va, .int .u64 lb] 43)
  have HO0 := Lib.hid (hop.same (w' := w.alloc (.cells #[.int .i64 ak, .int .i64 (t : Int), .int .i64 af, .int .i64 an, .slice oa ol.length oc, .int .i64 sz, .int .i64 sl, .int .i64 ag, .int .i64 si, .int .i64 fd, .bool am, .int .i64 ti, .int .i64 ky, .int .i64 va, .int .u64 lb] 43)) (fun x hx => Below.heap_alloc _ _ _ (hop.lt x hx)))
  have hx0 := At.new w #[.int .i64 ak, .int .i64 (t : Int), .int .i64 af, .int .i64 an, .slice oa ol.length oc, .int .i64 sz, .int .i64 sl, .int .i64 ag, .int .i64 si, .int .i64 fd, .bool am, .int .i64 ti, .int .i64 ky, .int .i64 va, .int .u64 lb] 43
  have z1 := hx0.c 1 _ rfl
  clear h hop hp hPM hpms hpmf hmay hme hd hx0
  unfold ActV.val
  simp only
  cases hx : c.cells t with
  | some x =>
    rw [hx] at hcell
    obtain ⟨bt, hp, hcx⟩ := hcell
    rw [show ptrOf (pc t) = .pointer (some ⟨bt, 0, none⟩) by rw [hp]; rfl] at HAT0
    rw [show c.register t PM = (c, 6) by simp [CoreV.register, hx]]
    clear hx hp hcx
    go_enter Tryz.func56, Tryz.ntmps56
    go_wp2_with (first
      | (go_at_call 54; (with_reducible refine (core_within t 0 7 _).mono ?_); rintro e w1 ⟨rfl, rfl⟩; rw [HD.out])
      | (go_at_call 47; (with_reducible refine (HAT0.out _ HC0.out).mono ?_); rintro e w1 ⟨rfl, rfl⟩))
    go_ret
    exact ⟨rfl, G, pc, HC0.out, (Mod.refl _ _).new _, fun _ _ => Into.refl _ _⟩
  | none =>
    rw [hx] at hcell
    rw [show ptrOf (pc t) = .pointer none by rw [hcell.1]; rfl] at HAT0
    have HX := Lib.hid hx
    have hrg : c.register t PM = if may then (c.setCell t (CellV.new t c.quota PM), 0) else (c, 1) := by simp [CoreV.register, hx, HE.out]
    rw [hrg]
    clear hx hcell hrg
    go_enter Tryz.func56, Tryz.ntmps56
    go_wp2_with (first
      | (go_at_call 54; (with_reducible refine (core_within t 0 7 _).mono ?_); rintro e w1 ⟨rfl, rfl⟩; rw [HD.out])
      | (go_at_call 47; (with_reducible refine (HAT0.out _ HC0.out).mono ?_); rintro e w1 ⟨rfl, rfl⟩))
    refine wp_region_pl (fun y : World => CoreIn y b G (.slice va0 vn vk) vp bb pc c ∧ At y w.heap.size [.int .i64 ak, .int .i64 (t : Int), .int .i64 af, .int .i64 an, .slice oa ol.length oc, .int .i64 sz, .int .i64 sl, .int .i64 ag, .int .i64 si, .int .i64 fd, .bool am, .int .i64 ti, .int .i64 ky, .int .i64 va, .int .u64 lb]) (.take 0 <| .take 1 <| .take 2 <| .take 3 <| .take 4 <| .take 5 <| .take 6 <| .take 7 <| .take 8 <| .doo 9 <| .take 10 <| .take 11 <| .done) ?plA (by kernel_rfl) (by kernel_rfl) (by kernel_rfl) ?plB (by intro c a d v w; cases d <;> exact fun h => h) ?plC ?_
    case plB =>
      simp only [Pl.with, List.getElem?_toArray, List.getElem?_cons_zero, List.getElem?_cons_succ]
      try rfl
    case plC => exact ⟨HC0.out.drew, HA0.out.drew⟩
    have q1 : ∀ y : World, (fun y : World => CoreIn y b G (.slice va0 vn vk) vp bb pc c ∧ At y w.heap.size [.int .i64 ak, .int .i64 (t : Int), .int .i64 af, .int .i64 an, .slice oa ol.length oc, .int .i64 sz, .int .i64 sl, .int .i64 ag, .int .i64 si, .int .i64 fd, .bool am, .int .i64 ti, .int .i64 ky, .int .i64 va, .int .u64 lb]) y → y.cell? ⟨w.heap.size, 1, none⟩ = some (.int .i64 (t : Int)) := fun y h => h.2.c 1 _ rfl
    have q4 : ∀ y : World, (fun y : World => CoreIn y b G (.slice va0 vn vk) vp bb pc c ∧ At y w.heap.size [.int .i64 ak, .int .i64 (t : Int), .int .i64 af, .int .i64 an, .slice oa ol.length oc, .int .i64 sz, .int .i64 sl, .int .i64 ag, .int .i64 si, .int .i64 fd, .bool am, .int .i64 ti, .int .i64 ky, .int .i64 va, .int .u64 lb]) y → y.cell? ⟨w.heap.size, 4, none⟩ = some (.slice oa ol.length oc) := fun y h => h.2.c 4 _ rfl
    have q5 : ∀ y : World, (fun y : World => CoreIn y b G (.slice va0 vn vk) vp bb pc c ∧ At y w.heap.size [.int .i64 ak, .int .i64 (t : Int), .int .i64 af, .int .i64 an, .slice oa ol.length oc, .int .i64 sz, .int .i64 sl, .int .i64 ag, .int .i64 si, .int .i64 fd, .bool am, .int .i64 ti, .int .i64 ky, .int .i64 va, .int .u64 lb]) y → y.cell? ⟨w.heap.size, 5, none⟩ = some (.int .i64 sz) := fun y h => h.2.c 5 _ rfl
    have q6 : ∀ y : World, (fun y : World => CoreIn y b G (.slice va0 vn vk) vp bb pc c ∧ At y w.heap.size [.int .i64 ak, .int .i64 (t : Int), .int .i64 af, .int .i64 an, .slice oa ol.length oc, .int .i64 sz, .int .i64 sl, .int .i64 ag, .int .i64 si, .int .i64 fd, .bool am, .int .i64 ti, .int .i64 ky, .int .i64 va, .int .u64 lb]) y → y.cell? ⟨w.heap.size, 6, none⟩ = some (.int .i64 sl) := fun y h => h.2.c 6 _ rfl
    have q7 : ∀ y : World, (fun y : World => CoreIn y b G (.slice va0 vn vk) vp bb pc c ∧ At y w.heap.size [.int .i64 ak, .int .i64 (t : Int), .int .i64 af, .int .i64 an, .slice oa ol.length oc, .int .i64 sz, .int .i64 sl, .int .i64 ag, .int .i64 si, .int .i64 fd, .bool am, .int .i64 ti, .int .i64 ky, .int .i64 va, .int .u64 lb]) y → y.cell? ⟨w.heap.size, 7, none⟩ = some (.int .i64 ag) := fun y h => h.2.c 7 _ rfl
    have q8 : ∀ y : World, (fun y : World => CoreIn y b G (.slice va0 vn vk) vp bb pc c ∧ At y w.heap.size [.int .i64 ak, .int .i64 (t : Int), .int .i64 af, .int .i64 an, .slice oa ol.length oc, .int .i64 sz, .int .i64 sl, .int .i64 ag, .int .i64 si, .int .i64 fd, .bool am, .int .i64 ti, .int .i64 ky, .int .i64 va, .int .u64 lb]) y → y.cell? ⟨w.heap.size, 8, none⟩ = some (.int .i64 si) := fun y h => h.2.c 8 _ rfl
    have q9 : ∀ y : World, (fun y : World => CoreIn y b G (.slice va0 vn vk) vp bb pc c ∧ At y w.heap.size [.int .i64 ak, .int .i64 (t : Int), .int .i64 af, .int .i64 an, .slice oa ol.length oc, .int .i64 sz, .int .i64 sl, .int .i64 ag, .int .i64 si, .int .i64 fd, .bool am, .int .i64 ti, .int .i64 ky, .int .i64 va, .int .u64 lb]) y → y.cell? ⟨w.heap.size, 9, none⟩ = some (.int .i64 fd) := fun y h => h.2.c 9 _ rfl
    have qb : ∀ y : World, (fun y : World => CoreIn y b G (.slice va0 vn vk) vp bb pc c ∧ At y w.heap.size [.int .i64 ak, .int .i64 (t : Int), .int .i64 af, .int .i64 an, .slice oa ol.length oc, .int .i64 sz, .int .i64 sl, .int .i64 ag, .int .i64 si, .int .i64 fd, .bool am, .int .i64 ti, .int .i64 ky, .int .i64 va, .int .u64 lb]) y → y.cell? ⟨b, 3, none⟩ = some (.slice va0 vn vk) := fun y h => h.1.a.c 3 _ rfl
    have qc : ∀ y : World, (fun y : World => CoreIn y b G (.slice va0 vn vk) vp bb pc c ∧ At y w.heap.size [.int .i64 ak, .int .i64 (t : Int), .int .i64 af, .int .i64 an, .slice oa ol.length oc, .int .i64 sz, .int .i64 sl, .int .i64 ag, .int .i64 si, .int .i64 fd, .bool am, .int .i64 ti, .int .i64 ky, .int .i64 va, .int .u64 lb]) y → y.cell? ⟨b, 2, none⟩ = some (.int .i64 c.quota) := fun y h => h.1.a.c 2 _ rfl
    iterate 9 (refine wpPl_take (v := ?_) (by rfl) (fun w' hS => ?_) ?_; rotate_left; (focus (go_simp; with_reducible rfl)); simp only [Act.put, List.setIfInBounds_toArray, List.set_cons_zero, List.set_cons_succ])
    refine wpPl_do (by rfl) (fun K hK => ?_)
    go_wp2_with (go_at_call 76; (with_reducible refine (HMAY.out _ HC0.out.drew (HO0.out.same (fun _ _ => rfl))).mono ?_); rintro e w2 ⟨rfl, hb2⟩; have HB2 := Lib.hid hb2; clear hb2)
    have HC2 := Lib.hid (HC0.out.drew.below HB2.out)
    have HA2 := Lib.hid (HA0.out.drew.below HB2.out)
    have HO2 := Lib.hid (HO0.out.same (w' := w2) (fun x hx => HB2.out.block x (HO0.out.lt x hx)))
    have HM2 := Lib.hid (((Mod.refl (allOf 12 G) w).new (.cells #[.int .i64 ak, .int .i64 (t : Int), .int .i64 af, .int .i64 an, .slice oa ol.length oc, .int .i64 sz, .int .i64 sl, .int .i64 ag, .int .i64 si, .int .i64 fd, .bool am, .int .i64 ti, .int .i64 ky, .int .i64 va, .int .u64 lb] 43)).draw.bel HB2.out)
    refine ⟨⟨HC2.out, HA2.out⟩, ?_⟩
    iterate 2 (refine wpPl_take (v := ?_) (by rfl) (fun w' hS => ?_) ?_; rotate_left; (focus (go_simp; with_reducible rfl)); simp only [Act.put, List.setIfInBounds_toArray, List.set_cons_zero, List.set_cons_succ])
    refine wpPl_done ?_
    clear q1 q4 q5 q6 q7 q8 q9 qb qc
    cases may with
    | false =>
      go_wp2
      go_ret
      exact ⟨rfl, G, ⟨pc, HC2.out⟩, HM2.out, fun _ _ => Into.refl _ _⟩
    | true =>
      go_wp2
      refine wp_region_pt 15 (fun y : World => CoreIn y b G (.slice va0 vn vk) vp bb pc c ∧ At y w.heap.size [.int .i64 ak, .int .i64 (t : Int), .int .i64 af, .int .i64 an, .slice oa ol.length oc, .int .i64 sz, .int .i64 sl, .int .i64 ag, .int .i64 si, .int .i64 fd, .bool am, .int .i64 ti, .int .i64 ky, .int .i64 va, .int .u64 lb]) (.take 0 <| .take 1 <| .take 2 <| .take 3 <| .take 4 <| .take 5 <| .take 6 <| .take 7 <| .take 8 <| .take 9 <| .take 10 <| .take 11 <| .take 13 <| .take 14 <| .doo 12 <| .done) ?plA2 (by kernel_rfl) (by kernel_rfl) ?plB2 (by intro c a d v w; cases d <;> exact fun h => h) ?plC2 ?_
      case plB2 =>
        simp only [Pt.with, List.getElem?_toArray, List.getElem?_cons_zero, List.getElem?_cons_succ]
        try rfl
      case plC2 => exact ⟨HC2.out.drew, HA2.out.drew⟩
      have q1 : ∀ y : World, (fun y : World => CoreIn y b G (.slice va0 vn vk) vp bb pc c ∧ At y w.heap.size [.int .i64 ak, .int .i64 (t : Int), .int .i64 af, .int .i64 an, .slice oa ol.length oc, .int .i64 sz, .int .i64 sl, .int .i64 ag, .int .i64 si, .int .i64 fd, .bool am, .int .i64 ti, .int .i64 ky, .int .i64 va, .int .u64 lb]) y → y.cell? ⟨w.heap.size, 1, none⟩ = some (.int .i64 (t : Int)) := fun y h => h.2.c 1 _ rfl
      have q4 : ∀ y : World, (fun y : World => CoreIn y b G (.slice va0 vn vk) vp bb pc c ∧ At y w.heap.size [.int .i64 ak, .int .i64 (t : Int), .int .i64 af, .int .i64 an, .slice oa ol.length oc, .int .i64 sz, .int .i64 sl, .int .i64 ag, .int .i64 si, .int .i64 fd, .bool am, .int .i64 ti, .int .i64 ky, .int .i64 va, .int .u64 lb]) y → y.cell? ⟨w.heap.size, 4, none⟩ = some (.slice oa ol.length oc) := fun y h => h.2.c 4 _ rfl
      have q5 : ∀ y : World, (fun y : World => CoreIn y b G (.slice va0 vn vk) vp bb pc c ∧ At y w.heap.size [.int .i64 ak, .int .i64 (t : Int), .int .i64 af, .int .i64 an, .slice oa ol.length oc, .int .i64 sz, .int .i64 sl, .int .i64 ag, .int .i64 si, .int .i64 fd, .bool am, .int .i64 ti, .int .i64 ky, .int .i64 va, .int .u64 lb]) y → y.cell? ⟨w.heap.size, 5, none⟩ = some (.int .i64 sz) := fun y h => h.2.c 5 _ rfl
      have q6 : ∀ y : World, (fun y : World => CoreIn y b G (.slice va0 vn vk) vp bb pc c ∧ At y w.heap.size [.int .i64 ak, .int .i64 (t : Int), .int .i64 af, .int .i64 an, .slice oa ol.length oc, .int .i64 sz, .int .i64 sl, .int .i64 ag, .int .i64 si, .int .i64 fd, .bool am, .int .i64 ti, .int .i64 ky, .int .i64 va, .int .u64 lb]) y → y.cell? ⟨w.heap.size, 6, none⟩ = some (.int .i64 sl) := fun y h => h.2.c 6 _ rfl
      have q7 : ∀ y : World, (fun y : World => CoreIn y b G (.slice va0 vn vk) vp bb pc c ∧ At y w.heap.size [.int .i64 ak, .int .i64 (t : Int), .int .i64 af, .int .i64 an, .slice oa ol.length oc, .int .i64 sz, .int .i64 sl, .int .i64 ag, .int .i64 si, .int .i64 fd, .bool am, .int .i64 ti, .int .i64 ky, .int .i64 va, .int .u64 lb]) y → y.cell? ⟨w.heap.size, 7, none⟩ = some (.int .i64 ag) := fun y h => h.2.c 7 _ rfl
      have q8 : ∀ y : World, (fun y : World => CoreIn y b G (.slice va0 vn vk) vp bb pc c ∧ At y w.heap.size [.int .i64 ak, .int .i64 (t : Int), .int .i64 af, .int .i64 an, .slice oa ol.length oc, .int .i64 sz, .int .i64 sl, .int .i64 ag, .int .i64 si, .int .i64 fd, .bool am, .int .i64 ti, .int .i64 ky, .int .i64 va, .int .u64 lb]) y → y.cell? ⟨w.heap.size, 8, none⟩ = some (.int .i64 si) := fun y h => h.2.c 8 _ rfl
      have q9 : ∀ y : World, (fun y : World => CoreIn y b G (.slice va0 vn vk) vp bb pc c ∧ At y w.heap.size [.int .i64 ak, .int .i64 (t : Int), .int .i64 af, .int .i64 an, .slice oa ol.length oc, .int .i64 sz, .int .i64 sl, .int .i64 ag, .int .i64 si, .int .i64 fd, .bool am, .int .i64 ti, .int .i64 ky, .int .i64 va, .int .u64 lb]) y → y.cell? ⟨w.heap.size, 9, none⟩ = some (.int .i64 fd) := fun y h => h.2.c 9 _ rfl
      have qb : ∀ y : World, (fun y : World => CoreIn y b G (.slice va0 vn vk) vp bb pc c ∧ At y w.heap.size [.int .i64 ak, .int .i64 (t : Int), .int .i64 af, .int .i64 an, .slice oa ol.length oc, .int .i64 sz, .int .i64 sl, .int .i64 ag, .int .i64 si, .int .i64 fd, .bool am, .int .i64 ti, .int .i64 ky, .int .i64 va, .int .u64 lb]) y → y.cell? ⟨b, 3, none⟩ = some (.slice va0 vn vk) := fun y h => h.1.a.c 3 _ rfl
      have qc : ∀ y : World, (fun y : World => CoreIn y b G (.slice va0 vn vk) vp bb pc c ∧ At y w.heap.size [.int .i64 ak, .int .i64 (t : Int), .int .i64 af, .int .i64 an, .slice oa ol.length oc, .int .i64 sz, .int .i64 sl, .int .i64 ag, .int .i64 si, .int .i64 fd, .bool am, .int .i64 ti, .int .i64 ky, .int .i64 va, .int .u64 lb]) y → y.cell? ⟨b, 2, none⟩ = some (.int .i64 c.quota) := fun y h => h.1.a.c 2 _ rfl
      iterate 14 (refine wpPt_take (v := ?_) (by rfl) (fun w' hS => ?_) ?_; rotate_left; (focus (go_simp; with_reducible rfl)); simp only [Act.put, List.setIfInBounds_toArray, List.set_cons_zero, List.set_cons_succ])
      refine wpPt_do (by rfl) (fun K hK => ?_)
      go_wp2_with (go_at_call 77; (with_reducible refine (HNEW.out _ (HO2.out.same (w' := w2.drew) (fun _ _ => rfl))).mono ?_); rintro e w3 ⟨bt, S3, rfl, hx3, hn3, hb3⟩; have HX3 := Lib.hid hx3; have HN3 := Lib.hid hn3; have HB3 := Lib.hid hb3; clear hx3 hn3 hb3)
      have HC3 := Lib.hid (HC2.out.drew.below HB3.out)
      refine ⟨⟨HC3.out, HA2.out.drew.below HB3.out⟩, ?_⟩
      refine wpPt_done ?_
      clear q1 q4 q5 q6 q7 q8 q9 qb qc
      try simp only [List.drop_succ_cons, List.drop_zero]
      have k0 := HC3.out.a.c (4 + t) _ (core_cell c _ _ _ _ t ht)
      have k1 := HC3.out.a.f (4 + t)
      have k2 := HC3.out.a.lt
      unfold ptrOf at k0
      have HRG := Lib.hid (HC2.out.drew.reg HB3.out (show t < 8 by omega) HX3.out HN3.out)
      go_wp2
      go_ret
      have hs2 := HM2.out.size
      have hs3 := HB3.out.size
      refine ⟨rfl, _, ⟨_, HRG.out⟩, ((HM2.out.draw.bel HB3.out).set b _ _ (.inl (mem_allOf.2 ⟨0, by omega, by rw [HC3.out.g0]; simp⟩))), fun j hj => ?_⟩
      by_cases e : j = 4 + t
      · subst e
        rw [put_same]
        exact Into.new (fun x hx => Nat.le_trans hs2 (HN3.out x hx)) _
      · rw [put_ne _ _ e]
        exact Into.refl _ _
end Go.Proofs.YtcanfmabkklidaaGreat
set_option linter.unusedSimpArgs false
set_option linter.unusedVariables false
set_option linter.unnecessarySimpa false
namespace Go.Proofs.YtcanfmabkklidaaGreat
open Go.RowKit

/-- an act's answer owns nothing, or the core's blocks are as they were -/
def DoAp (b : Nat) (G : Nat → List Nat) (vs vp : Value) (bb : Nat) (c : CoreV) (x : AnsM) (e : Ending) (w' : World) : Prop :=
  (x.rows = [] ∧ x.told = [] ∧ e = .returned (.agg #[.int .i64 x.err, .slice none 0 0, .slice none 0 0])) ∨ ∃ pc', CoreIn w' b G vs vp bb pc' c
/-- what an act leaves -/
structure DoTo (w : World) (b : Nat) (G : Nat → List Nat) (vs vp : Value) (bb : Nat) (c : CoreV) (x : AnsM) (e : Ending) (w' : World) : Prop where
  fe : ∃ vr vt, e = .returned (.agg #[.int .i64 x.err, vr, vt]) ∧ w'.ownsRow w.heap.size 64 5 vr x.rows.length (x.rows.flatMap RowV.cs) ∧ w'.ownsRow w.heap.size 52 4 vt x.told.length (x.told.flatMap RelV.cs)
  fc : ∃ G' pc', CoreIn w' b G' vs vp bb pc' c ∧ (∀ j, j < 12 → Into (G' j) (G j) w.heap.size)
  fm : Mod (allOf 12 G) w w'
  fd : DoAp b G vs vp bb c x e w'
theorem res38 (w : World) (b : Nat) (e : Int) (vr vt : Value) (h1 : ∃ a n k, vr = .slice a n k) (h2 : ∃ a n k, vt = .slice a n k) (tmps : Array Value) (ht : tmps[4]?.getD undef = .pointer (some ⟨b, 0, none⟩)) (h : At w b [.int .i64 e, vr, vt]) :
    (results Tryz.f38 tmps).run Tryz.prog w = .ok (.agg #[.int .i64 e, vr, vt]) w := by
  obtain ⟨_, _, _, rfl⟩ := h1
  obtain ⟨_, _, _, rfl⟩ := h2
  have c0 := h.c 0 _ rfl
  have c1 := h.c 1 _ rfl
  have c2 := h.c 2 _ rfl
  simp only [results, Tryz.results38]
  simp [go_sem, ht, c0, c1, c2]
/-- the answer is written, new blocks alone turned -/
theorem CoreIn.new {w w' : World} {b : Nat} {G : Nat → List Nat} {vs vp : Value} {bb : Nat} {pc : Nat → Option Nat} {c : CoreV} {n : Nat} (h : CoreIn w b G vs vp bb pc c) {q : Nat} (hm : Mod [q] w w') (hq : q ∉ allOf 12 G) : CoreIn w' b G vs vp bb pc c :=
  h.same (fun x hx => hm.block x (h.lt x hx) (by simp only [List.mem_singleton]; rintro rfl; exact hq hx)) hm.size
set_option maxRecDepth 100000 in
set_option maxHeartbeats 8000000 in
theorem do3_in (b : Nat) (G : Nat → List Nat) (vs vp : Value) (bb : Nat) (pc : Nat → Option Nat) (c : CoreV) (N : Nat) (t : Nat) (ht : t ≤ 7) (a : ActV) (hk : a.kind = 3) (hat : a.tenant = (t : Int)) (ho : ∃ oa oc, a.pipe.ops = .slice oa a.pipe.ol.length oc) (w : World) (h : CoreIn w b G vs vp bb pc c) (ok : CoreOk c N) (hN : N + 6 ≤ 100000) :
    Calls Tryz.prog 38 #[.pointer (some ⟨b, 0, none⟩), a.val] w (DoTo w b G vs vp bb c.tick ⟨0, [], []⟩) := by
  have hb := h.a.lt
  obtain ⟨ak, at', af, an, ⟨vo, ol, sz, sl, ag, si, fd⟩, am, ti, ky, va, lb⟩ := a
  simp only at hk hat ho
  obtain ⟨oa, oc, rfl⟩ := ho
  subst hk hat
  have HAT0 := Lib.hid (fun W hW => at_any b G vs vp bb pc c t ht W hW)
  have HTK := Lib.hid (fun y (hy : CoreIn y b G vs vp bb pc c) => ctick_in b G vs vp bb pc c N y hy ok hN)
  have HC0 := Lib.hid (((h.alloc (.cells #[.int .i64 3, .int .i64 (t : Int), .int .i64 af, .int .i64 an, .slice oa ol.length oc, .int .i64 sz, .int .i64 sl, .int .i64 ag, .int .i64 si, .int .i64 fd, .bool am, .int .i64 ti, .int .i64 ky, .int .i64 va, .int .u64 lb] 43)).alloc (.cells #[.int .i64 0, .slice none 0 0, .slice none 0 0] 61)).alloc (.cells #[.int .i64 0, .slice none 0 0, .slice none 0 0] 61))
  have hold := h.lt
  obtain ⟨pt, hpt⟩ : ∃ pt, ptrOf (pc t) = .pointer pt := ⟨_, rfl⟩
  rw [hpt] at HAT0
  have HB0 := Lib.hid (bel_alloc (bel_alloc (bel_alloc (Below.refl w.heap.size w) (.cells #[.int .i64 3, .int .i64 (t : Int), .int .i64 af, .int .i64 an, .slice oa ol.length oc, .int .i64 sz, .int .i64 sl, .int .i64 ag, .int .i64 si, .int .i64 fd, .bool am, .int .i64 ti, .int .i64 ky, .int .i64 va, .int .u64 lb] 43)) (.cells #[.int .i64 0, .slice none 0 0, .slice none 0 0] 61)) (.cells #[.int .i64 0, .slice none 0 0, .slice none 0 0] 61))
  have HZ1 := Lib.hid (show At (((w.alloc (.cells #[.int .i64 3, .int .i64 (t : Int), .int .i64 af, .int .i64 an, .slice oa ol.length oc, .int .i64 sz, .int .i64 sl, .int .i64 ag, .int .i64 si, .int .i64 fd, .bool am, .int .i64 ti, .int .i64 ky, .int .i64 va, .int .u64 lb] 43)).alloc (.cells #[.int .i64 0, .slice none 0 0, .slice none 0 0] 61)).alloc (.cells #[.int .i64 0, .slice none 0 0, .slice none 0 0] 61)) (w.heap.size + 1) [.int .i64 0, .slice none 0 0, .slice none 0 0] from (At.newAt (by simp) _ _).alloc _)
  have HZ2 := Lib.hid (show At (((w.alloc (.cells #[.int .i64 3, .int .i64 (t : Int), .int .i64 af, .int .i64 an, .slice oa ol.length oc, .int .i64 sz, .int .i64 sl, .int .i64 ag, .int .i64 si, .int .i64 fd, .bool am, .int .i64 ti, .int .i64 ky, .int .i64 va, .int .u64 lb] 43)).alloc (.cells #[.int .i64 0, .slice none 0 0, .slice none 0 0] 61)).alloc (.cells #[.int .i64 0, .slice none 0 0, .slice none 0 0] 61)) (w.heap.size + 2) [.int .i64 0, .slice none 0 0, .slice none 0 0] from At.newAt (by simp) _ _)
  clear h hpt
  unfold ActV.val
  simp only
  go_enter Tryz.func38, Tryz.ntmps38
  go_wp2_with (first
    | (go_at_call 47; (with_reducible refine (HAT0.out _ HC0.out).mono ?_); rintro e w1 ⟨rfl, rfl⟩)
    | (go_at_call 57; (with_reducible refine (HTK.out _ HC0.out).mono ?_); rintro e w2 ⟨⟨u, rfl⟩, G2, hc2, hm2, hi2⟩; have HC2 := Lib.hid hc2; have HM2 := Lib.hid hm2; have HI2 := Lib.hid hi2; have Z1 := HZ1.out.mod hm2 (fun hh => by have := hold _ hh; omega); have Z2 := HZ2.out.mod hm2 (fun hh => by have := hold _ hh; omega); have HZ1' := Lib.hid Z1; have g0 := Z1.c 0 _ rfl; have g1 := Z1.c 1 _ rfl; have g2 := Z1.c 2 _ rfl; have f0 := Z1.f 0; have f1 := Z1.f 1; have f2 := Z1.f 2; have l1 := Z1.lt; have k0 := Z2.c 0 _ rfl; have k1 := Z2.c 1 _ rfl; have k2 := Z2.c 2 _ rfl; have l2 := Z2.lt; clear hc2 hm2 hi2 Z1 Z2))
  have hm3 : Mod [w.heap.size + 1] w2 (((w2.setCell ⟨w.heap.size + 1, 0, none⟩ (.int .i64 0)).setCell ⟨w.heap.size + 1, 1, none⟩ (.slice none 0 0)).setCell ⟨w.heap.size + 1, 2, none⟩ (.slice none 0 0)) := (((Mod.refl _ _).set _ _ _ (.inl (by simp))).set _ _ _ (.inl (by simp))).set _ _ _ (.inl (by simp))
  have ha3 : At (((w2.setCell ⟨w.heap.size + 1, 0, none⟩ (.int .i64 0)).setCell ⟨w.heap.size + 1, 1, none⟩ (.slice none 0 0)).setCell ⟨w.heap.size + 1, 2, none⟩ (.slice none 0 0)) (w.heap.size + 1) [.int .i64 0, .slice none 0 0, .slice none 0 0] := ((HZ1'.out.set 0 _ (by simp)).set 1 _ (by simp)).set 2 _ (by simp)
  refine bodyPost_ret (res38 _ (w.heap.size + 1) 0 (.slice none 0 0) (.slice none 0 0) ⟨_, _, _, rfl⟩ ⟨_, _, _, rfl⟩ _ rfl ha3) rfl ?_
  have hq : w.heap.size + 1 ∉ allOf 12 G2 := fun hh => by
    obtain ⟨j, hj, hh⟩ := mem_allOf.1 hh
    rcases HI2.out j hj _ hh with h1 | h1
    · have := hold _ (mem_allOf.2 ⟨j, hj, h1⟩)
      omega
    · simp at h1
      omega
  have hsb := HB0.out.size
  refine ⟨⟨_, _, rfl, ⟨rfl, .inl ⟨rfl, rfl⟩⟩, ⟨rfl, .inl ⟨rfl, rfl⟩⟩⟩, ⟨G2, pc, HC2.out.new (n := 0) hm3 hq, fun j hj => (Into.refl _ _).trans (HI2.out j hj) hsb⟩, ?_, .inl ⟨rfl, rfl, rfl⟩⟩
  exact ((Mod.of_below HB0.out _).trans HM2.out (Into.refl _ _)).trans hm3 (Into.new (by simp) _)
end Go.Proofs.YtcanfmabkklidaaGreat
set_option linter.unusedSimpArgs false
set_option linter.unusedVariables false
set_option linter.unnecessarySimpa false
namespace Go.Proofs.YtcanfmabkklidaaGreat
open Go.RowKit

set_option maxRecDepth 100000 in
set_option maxHeartbeats 8000000 in
theorem do1_in (b : Nat) (G : Nat → List Nat) (vs vp : Value) (bb : Nat) (pc : Nat → Option Nat) (c : CoreV) (N : Nat) (t : Nat) (ht : t ≤ 7) (w : World) (a : ActV) (hk : a.kind = 1) (hp : PipeBd a.pipe) (hq0 : 0 ≤ c.quota) (S0 : List Nat) (hop : RdR OpV.cs 2 w a.pipe.ops a.pipe.ol S0) (hat : a.tenant = (t : Int))  (h : CoreIn w b G vs vp bb pc c) (ok : CoreOk c N) (hN : N + 6 ≤ 100000) :
    Calls Tryz.prog 38 #[.pointer (some ⟨b, 0, none⟩), a.val] w (DoTo w b G vs vp bb (c.register t a.pipe.m).1 ⟨(c.register t a.pipe.m).2, [], []⟩) := by
  have hb := h.a.lt
  have HRG := Lib.hid (fun y (hy : CoreIn y b G vs vp bb pc c) (ho : RdR OpV.cs 2 y a.pipe.ops a.pipe.ol S0) => register_in b G vs vp bb pc c N t ht a hat hp S0 y hy ok hq0 ho)
  obtain ⟨R, hR⟩ : ∃ R, R = c.register t a.pipe.m := ⟨_, rfl⟩
  rw [← hR] at HRG ⊢
  obtain ⟨R1, R2⟩ := R
  simp only at HRG ⊢
  obtain ⟨ak, at', af, an, ⟨vo, ol, sz, sl, ag, si, fd⟩, am, ti, ky, va, lb⟩ := a
  simp only at hk hat hp hop
  obtain ⟨oa, oc, rfl⟩ : ∃ oa oc, vo = .slice oa ol.length oc := by obtain ⟨a, c', h, _⟩ := hop; exact ⟨a, c', h⟩
  subst hk hat
  have HAT0 := Lib.hid (fun W hW => at_any b G vs vp bb pc c t ht W hW)
  have HC0 := Lib.hid (((h.alloc (.cells #[.int .i64 1, .int .i64 (t : Int), .int .i64 af, .int .i64 an, .slice oa ol.length oc, .int .i64 sz, .int .i64 sl, .int .i64 ag, .int .i64 si, .int .i64 fd, .bool am, .int .i64 ti, .int .i64 ky, .int .i64 va, .int .u64 lb] 43)).alloc (.cells #[.int .i64 0, .slice none 0 0, .slice none 0 0] 61)).alloc (.cells #[.int .i64 0, .slice none 0 0, .slice none 0 0] 61))
  have hold := h.lt
  obtain ⟨pt, hpt⟩ : ∃ pt, ptrOf (pc t) = .pointer pt := ⟨_, rfl⟩
  rw [hpt] at HAT0
  have HB0 := Lib.hid (bel_alloc (bel_alloc (bel_alloc (Below.refl w.heap.size w) (.cells #[.int .i64 1, .int .i64 (t : Int), .int .i64 af, .int .i64 an, .slice oa ol.length oc, .int .i64 sz, .int .i64 sl, .int .i64 ag, .int .i64 si, .int .i64 fd, .bool am, .int .i64 ti, .int .i64 ky, .int .i64 va, .int .u64 lb] 43)) (.cells #[.int .i64 0, .slice none 0 0, .slice none 0 0] 61)) (.cells #[.int .i64 0, .slice none 0 0, .slice none 0 0] 61))
  have HZ1 := Lib.hid (show At (((w.alloc (.cells #[.int .i64 1, .int .i64 (t : Int), .int .i64 af, .int .i64 an, .slice oa ol.length oc, .int .i64 sz, .int .i64 sl, .int .i64 ag, .int .i64 si, .int .i64 fd, .bool am, .int .i64 ti, .int .i64 ky, .int .i64 va, .int .u64 lb] 43)).alloc (.cells #[.int .i64 0, .slice none 0 0, .slice none 0 0] 61)).alloc (.cells #[.int .i64 0, .slice none 0 0, .slice none 0 0] 61)) (w.heap.size + 1) [.int .i64 0, .slice none 0 0, .slice none 0 0] from (At.newAt (by simp) _ _).alloc _)
  have HZ2 := Lib.hid (show At (((w.alloc (.cells #[.int .i64 1, .int .i64 (t : Int), .int .i64 af, .int .i64 an, .slice oa ol.length oc, .int .i64 sz, .int .i64 sl, .int .i64 ag, .int .i64 si, .int .i64 fd, .bool am, .int .i64 ti, .int .i64 ky, .int .i64 va, .int .u64 lb] 43)).alloc (.cells #[.int .i64 0, .slice none 0 0, .slice none 0 0] 61)).alloc (.cells #[.int .i64 0, .slice none 0 0, .slice none 0 0] 61)) (w.heap.size + 2) [.int .i64 0, .slice none 0 0, .slice none 0 0] from At.newAt (by simp) _ _)
  have HOP := Lib.hid (hop.same (w' := (((w.alloc (.cells #[.int .i64 1, .int .i64 (t : Int), .int .i64 af, .int .i64 an, .slice oa ol.length oc, .int .i64 sz, .int .i64 sl, .int .i64 ag, .int .i64 si, .int .i64 fd, .bool am, .int .i64 ti, .int .i64 ky, .int .i64 va, .int .u64 lb] 43)).alloc (.cells #[.int .i64 0, .slice none 0 0, .slice none 0 0] 61)).alloc (.cells #[.int .i64 0, .slice none 0 0, .slice none 0 0] 61))) (fun x hx => HB0.out.block x (hop.lt x hx)))
  clear h hpt hR hop hp
  unfold ActV.val at HRG ⊢
  simp only at HRG ⊢
  go_enter Tryz.func38, Tryz.ntmps38
  go_wp2_with (first
    | (go_at_call 47; (with_reducible refine (HAT0.out _ HC0.out).mono ?_); rintro e w1 ⟨rfl, rfl⟩)
    | (go_at_call 56; (with_reducible refine (HRG.out _ HC0.out HOP.out).mono ?_); rintro e w2 ⟨rfl, G2, pc2, hc2, hm2, hi2⟩; have HC2 := Lib.hid hc2; have HM2 := Lib.hid hm2; have HI2 := Lib.hid hi2; have Z1 := HZ1.out.mod hm2 (fun hh => by have := hold _ hh; omega); have Z2 := HZ2.out.mod hm2 (fun hh => by have := hold _ hh; omega); have HZ1' := Lib.hid Z1; have g0 := Z1.c 0 _ rfl; have g1 := Z1.c 1 _ rfl; have g2 := Z1.c 2 _ rfl; have f0 := Z1.f 0; have f1 := Z1.f 1; have f2 := Z1.f 2; have l1 := Z1.lt; have k0 := Z2.c 0 _ rfl; have k1 := Z2.c 1 _ rfl; have k2 := Z2.c 2 _ rfl; have l2 := Z2.lt; have e0 := Z2.f 0; have HZ2' := Lib.hid Z2; clear hc2 hm2 hi2 Z1 Z2))
  have hm2 : Mod [w.heap.size + 1 + 1] w2 (w2.setCell ⟨w.heap.size + 1 + 1, 0, none⟩ (.int .i64 R2)) := Mod.setCell _ _ _ _
  have hm3 : Mod [w.heap.size + 1] (w2.setCell ⟨w.heap.size + 1 + 1, 0, none⟩ (.int .i64 R2)) ((((w2.setCell ⟨w.heap.size + 1 + 1, 0, none⟩ (.int .i64 R2)).setCell ⟨w.heap.size + 1, 0, none⟩ (.int .i64 R2)).setCell ⟨w.heap.size + 1, 1, none⟩ (.slice none 0 0)).setCell ⟨w.heap.size + 1, 2, none⟩ (.slice none 0 0)) := (((Mod.refl _ _).set _ _ _ (.inl (by simp))).set _ _ _ (.inl (by simp))).set _ _ _ (.inl (by simp))
  have ha3 : At ((((w2.setCell ⟨w.heap.size + 1 + 1, 0, none⟩ (.int .i64 R2)).setCell ⟨w.heap.size + 1, 0, none⟩ (.int .i64 R2)).setCell ⟨w.heap.size + 1, 1, none⟩ (.slice none 0 0)).setCell ⟨w.heap.size + 1, 2, none⟩ (.slice none 0 0)) (w.heap.size + 1) [.int .i64 R2, .slice none 0 0, .slice none 0 0] := (((HZ1'.out.mod hm2 (by simp)).set 0 _ (by simp)).set 1 _ (by simp)).set 2 _ (by simp)
  refine bodyPost_ret (res38 _ (w.heap.size + 1) R2 (.slice none 0 0) (.slice none 0 0) ⟨_, _, _, rfl⟩ ⟨_, _, _, rfl⟩ _ rfl ha3) rfl ?_
  have hq : ∀ q, (q = w.heap.size + 1 ∨ q = w.heap.size + 1 + 1) → q ∉ allOf 12 G2 := fun q hqq hh => by
    obtain ⟨j, hj, hh⟩ := mem_allOf.1 hh
    rcases HI2.out j hj _ hh with h1 | h1
    · have := hold _ (mem_allOf.2 ⟨j, hj, h1⟩)
      omega
    · simp at h1
      omega
  have hsb := HB0.out.size
  refine ⟨⟨_, _, rfl, ⟨rfl, .inl ⟨rfl, rfl⟩⟩, ⟨rfl, .inl ⟨rfl, rfl⟩⟩⟩, ⟨G2, pc2, (HC2.out.new (n := 0) hm2 (hq _ (.inr rfl))).new (n := 0) hm3 (hq _ (.inl rfl)), fun j hj => (Into.refl _ _).trans (HI2.out j hj) hsb⟩, ?_, .inl ⟨rfl, rfl, rfl⟩⟩
  exact (((Mod.of_below HB0.out _).trans HM2.out (Into.refl _ _)).trans hm2 (Into.new (by simp; omega) _)).trans hm3 (Into.new (by simp) _)
end Go.Proofs.YtcanfmabkklidaaGreat
set_option linter.unusedSimpArgs false
set_option linter.unusedVariables false
set_option linter.unnecessarySimpa false
namespace Go.Proofs.YtcanfmabkklidaaGreat
open Go.RowKit

set_option maxRecDepth 100000 in
set_option maxHeartbeats 8000000 in
theorem do2_in (b : Nat) (G : Nat → List Nat) (vs vp : Value) (bb : Nat) (pc : Nat → Option Nat) (c : CoreV) (N : Nat) (t : Nat) (ht : t ≤ 7) (a : ActV) (hk : a.kind = 2) (x : CellV) (hx : c.cells t = some x) (hat : a.tenant = (t : Int)) (ho : ∃ oa oc, a.pipe.ops = .slice oa a.pipe.ol.length oc) (w : World) (h : CoreIn w b G vs vp bb pc c) (ok : CoreOk c N) (hN : N + 6 ≤ 100000) :
    Calls Tryz.prog 38 #[.pointer (some ⟨b, 0, none⟩), a.val] w (DoTo w b G vs vp bb (c.setCell t (x.offer c.room ⟨a.mark, a.time, a.key, a.value, a.label⟩).1) ⟨(x.offer c.room ⟨a.mark, a.time, a.key, a.value, a.label⟩).2, [], []⟩) := by
  have hb := h.a.lt
  obtain ⟨ak, at', af, an, ⟨vo, ol, sz, sl, ag, si, fd⟩, am, ti, ky, va, lb⟩ := a
  simp only at hk hat ho
  obtain ⟨oa, oc, rfl⟩ := ho
  subst hk hat
  have HAT0 := Lib.hid (fun W hW => at_any b G vs vp bb pc c t ht W hW)
  have HC0 := Lib.hid (((h.alloc (.cells #[.int .i64 2, .int .i64 (t : Int), .int .i64 af, .int .i64 an, .slice oa ol.length oc, .int .i64 sz, .int .i64 sl, .int .i64 ag, .int .i64 si, .int .i64 fd, .bool am, .int .i64 ti, .int .i64 ky, .int .i64 va, .int .u64 lb] 43)).alloc (.cells #[.int .i64 0, .slice none 0 0, .slice none 0 0] 61)).alloc (.cells #[.int .i64 0, .slice none 0 0, .slice none 0 0] 61))
  have hold := h.lt
  have hcell := h.cs t (by omega)
  rw [hx] at hcell
  obtain ⟨bt, hpt, br, vq, vr, vt, Sq, Sr, Sv, St, hS, hci⟩ := hcell
  have HP := Lib.hid hpt
  rw [show ptrOf (pc t) = .pointer (some ⟨bt, 0, none⟩) by rw [hpt]; rfl] at HAT0
  have HCI := Lib.hid hci
  have HSE := Lib.hid hS
  obtain ⟨R, hR⟩ : ∃ R, R = x.offer c.room ⟨am, ti, ky, va, lb⟩ := ⟨_, rfl⟩
  rw [← hR]
  have HOF := Lib.hid (fun y (hy : CellIn y bt br vq vr vt Sq Sr Sv St x) => offer_in bt br vq vr vt Sq Sr Sv St x N c.room ⟨am, ti, ky, va, lb⟩ y hy (ok.cell t x hx) ok.n)
  rw [← hR] at HOF
  obtain ⟨R1, R2⟩ := R
  simp only at HOF ⊢
  have HB0 := Lib.hid (bel_alloc (bel_alloc (bel_alloc (Below.refl w.heap.size w) (.cells #[.int .i64 2, .int .i64 (t : Int), .int .i64 af, .int .i64 an, .slice oa ol.length oc, .int .i64 sz, .int .i64 sl, .int .i64 ag, .int .i64 si, .int .i64 fd, .bool am, .int .i64 ti, .int .i64 ky, .int .i64 va, .int .u64 lb] 43)) (.cells #[.int .i64 0, .slice none 0 0, .slice none 0 0] 61)) (.cells #[.int .i64 0, .slice none 0 0, .slice none 0 0] 61))
  have HZ1 := Lib.hid (show At (((w.alloc (.cells #[.int .i64 2, .int .i64 (t : Int), .int .i64 af, .int .i64 an, .slice oa ol.length oc, .int .i64 sz, .int .i64 sl, .int .i64 ag, .int .i64 si, .int .i64 fd, .bool am, .int .i64 ti, .int .i64 ky, .int .i64 va, .int .u64 lb] 43)).alloc (.cells #[.int .i64 0, .slice none 0 0, .slice none 0 0] 61)).alloc (.cells #[.int .i64 0, .slice none 0 0, .slice none 0 0] 61)) (w.heap.size + 1) [.int .i64 0, .slice none 0 0, .slice none 0 0] from (At.newAt (by simp) _ _).alloc _)
  have HZ2 := Lib.hid (show At (((w.alloc (.cells #[.int .i64 2, .int .i64 (t : Int), .int .i64 af, .int .i64 an, .slice oa ol.length oc, .int .i64 sz, .int .i64 sl, .int .i64 ag, .int .i64 si, .int .i64 fd, .bool am, .int .i64 ti, .int .i64 ky, .int .i64 va, .int .u64 lb] 43)).alloc (.cells #[.int .i64 0, .slice none 0 0, .slice none 0 0] 61)).alloc (.cells #[.int .i64 0, .slice none 0 0, .slice none 0 0] 61)) (w.heap.size + 2) [.int .i64 0, .slice none 0 0, .slice none 0 0] from At.newAt (by simp) _ _)
  have HA0 := Lib.hid (show At ((((w.alloc (.cells #[.int .i64 2, .int .i64 (t : Int), .int .i64 af, .int .i64 an, .slice oa ol.length oc, .int .i64 sz, .int .i64 sl, .int .i64 ag, .int .i64 si, .int .i64 fd, .bool am, .int .i64 ti, .int .i64 ky, .int .i64 va, .int .u64 lb] 43)).alloc (.cells #[.int .i64 0, .slice none 0 0, .slice none 0 0] 61)).alloc (.cells #[.int .i64 0, .slice none 0 0, .slice none 0 0] 61))) w.heap.size [.int .i64 2, .int .i64 (t : Int), .int .i64 af, .int .i64 an, .slice oa ol.length oc, .int .i64 sz, .int .i64 sl, .int .i64 ag, .int .i64 si, .int .i64 fd, .bool am, .int .i64 ti, .int .i64 ky, .int .i64 va, .int .u64 lb] from ((At.new _ _ _).alloc _).alloc _)
  clear h hpt hR hci hS hx
  unfold ActV.val
  simp only
  go_enter Tryz.func38, Tryz.ntmps38
  go_wp2_with (go_at_call 47; (with_reducible refine (HAT0.out _ HC0.out).mono ?_); rintro e w1 ⟨rfl, rfl⟩)
  obtain ⟨w0, hw0⟩ : ∃ w0, w0 = (((w.alloc (.cells #[.int .i64 2, .int .i64 (t : Int), .int .i64 af, .int .i64 an, .slice oa ol.length oc, .int .i64 sz, .int .i64 sl, .int .i64 ag, .int .i64 si, .int .i64 fd, .bool am, .int .i64 ti, .int .i64 ky, .int .i64 va, .int .u64 lb] 43)).alloc (.cells #[.int .i64 0, .slice none 0 0, .slice none 0 0] 61)).alloc (.cells #[.int .i64 0, .slice none 0 0, .slice none 0 0] 61)) := ⟨_, rfl⟩
  rw [← hw0] at HC0 HZ1 HZ2 HA0 HB0
  try rw [← hw0]
  clear hw0
  refine wp_region_tl 8 (fun y => CoreIn y b G vs vp bb pc c ∧ At y w.heap.size [.int .i64 2, .int .i64 (t : Int), .int .i64 af, .int .i64 an, .slice oa ol.length oc, .int .i64 sz, .int .i64 sl, .int .i64 ag, .int .i64 si, .int .i64 fd, .bool am, .int .i64 ti, .int .i64 ky, .int .i64 va, .int .u64 lb] ∧ At y (w.heap.size + 1) [.int .i64 0, .slice none 0 0, .slice none 0 0] ∧ At y (w.heap.size + 2) [.int .i64 0, .slice none 0 0, .slice none 0 0] ∧ Below w.heap.size w y) ⟨HC0.out.drew, HA0.out.drew, HZ1.out.drew, HZ2.out.drew, bel_draw HB0.out⟩ (by kernel_rfl) (by kernel_rfl) ?_
  intro W F
  have HF := Lib.hid F
  have b1 := F.1.a.c 1 _ rfl
  have z10 := F.2.1.c 10 _ rfl
  have z11 := F.2.1.c 11 _ rfl
  have z12 := F.2.1.c 12 _ rfl
  have z13 := F.2.1.c 13 _ rfl
  have z14 := F.2.1.c 14 _ rfl
  have l1 := F.1.a.lt
  have l2 := F.2.1.lt
  clear F
  simp only [List.take_succ_cons, List.take_zero, List.drop_succ_cons, List.drop_zero]
  repeat still_step
  refine wpStill_nil ?_
  clear b1 z10 z11 z12 z13 z14
  have hbt1 : w.heap.size + 1 ∉ [bt] := by have := HCI.out.a.lt; simp; omega
  have hbt2 : w.heap.size + 2 ∉ [bt] := by have := HCI.out.a.lt; simp; omega
  have HCIW := Lib.hid (HCI.out.below (w' := W) HF.out.2.2.2.2)
  go_wp2_with (go_at_call 59; (with_reducible refine (HOF.out _ HCIW.out).mono ?_); rintro e w2 ⟨rfl, vq2, Sq2, hc2, hm2, hi2⟩; have HC2 := Lib.hid hc2; have HM2 := Lib.hid hm2; have HI2 := Lib.hid hi2; have Z1 := HF.out.2.2.1.mod hm2 hbt1; have Z2 := HF.out.2.2.2.1.mod hm2 hbt2; have HZ1' := Lib.hid Z1; have g0 := Z1.c 0 _ rfl; have g1 := Z1.c 1 _ rfl; have g2 := Z1.c 2 _ rfl; have f0 := Z1.f 0; have f1 := Z1.f 1; have f2 := Z1.f 2; have l3 := Z1.lt; have k0 := Z2.c 0 _ rfl; have k1 := Z2.c 1 _ rfl; have k2 := Z2.c 2 _ rfl; have e0 := Z2.f 0; have l4 := Z2.lt; clear hc2 hm2 hi2 Z1 Z2)
  have hw2 : Mod [w.heap.size + 1 + 1] w2 (w2.setCell ⟨w.heap.size + 1 + 1, 0, none⟩ (.int .i64 R2)) := Mod.setCell _ _ _ _
  have hm3 : Mod [w.heap.size + 1] (w2.setCell ⟨w.heap.size + 1 + 1, 0, none⟩ (.int .i64 R2)) ((((w2.setCell ⟨w.heap.size + 1 + 1, 0, none⟩ (.int .i64 R2)).setCell ⟨w.heap.size + 1, 0, none⟩ (.int .i64 R2)).setCell ⟨w.heap.size + 1, 1, none⟩ (.slice none 0 0)).setCell ⟨w.heap.size + 1, 2, none⟩ (.slice none 0 0)) := (((Mod.refl _ _).set _ _ _ (.inl (by simp))).set _ _ _ (.inl (by simp))).set _ _ _ (.inl (by simp))
  have ha3 : At ((((w2.setCell ⟨w.heap.size + 1 + 1, 0, none⟩ (.int .i64 R2)).setCell ⟨w.heap.size + 1, 0, none⟩ (.int .i64 R2)).setCell ⟨w.heap.size + 1, 1, none⟩ (.slice none 0 0)).setCell ⟨w.heap.size + 1, 2, none⟩ (.slice none 0 0)) (w.heap.size + 1) [.int .i64 R2, .slice none 0 0, .slice none 0 0] := (((HZ1'.out.mod hw2 (by simp)).set 0 _ (by simp)).set 1 _ (by simp)).set 2 _ (by simp)
  refine bodyPost_ret (res38 _ (w.heap.size + 1) R2 (.slice none 0 0) (.slice none 0 0) ⟨_, _, _, rfl⟩ ⟨_, _, _, rfl⟩ _ rfl ha3) rfl ?_
  have hsb := HF.out.2.2.2.2.size
  have hS9 : Into (bt :: (Sq2 ++ (Sr ++ (Sv ++ St)))) (G (4 + t)) W.heap.size := by
    rw [HSE.out]
    exact (HI2.out.append (Into.refl _ _)).cons
  have hm10 : Mod (G (4 + t)) W w2 := HM2.out.wide (by rw [HSE.out]; simp)
  have HC10 := HF.out.1.cell (t := t) (x := R1) (by omega) HP.out hm10 HC2.out.at_ hS9
  have hpart := HF.out.1.parts (i := 4 + t) (by omega) hm10 hS9 HC2.out.lt
  have hq : ∀ q, (q = w.heap.size + 1 ∨ q = w.heap.size + 1 + 1) → q ∉ allOf 12 (put G (4 + t) (bt :: (Sq2 ++ (Sr ++ (Sv ++ St))))) := fun q hqq hh => by
    obtain ⟨j, hj, hh⟩ := mem_allOf.1 hh
    rcases hpart.2.2 j hj _ hh with h1 | h1
    · have := hold _ (mem_allOf.2 ⟨j, hj, h1⟩)
      omega
    · have := HF.out.2.2.2.1.lt
      omega
  refine ⟨⟨_, _, rfl, ⟨rfl, .inl ⟨rfl, rfl⟩⟩, ⟨rfl, .inl ⟨rfl, rfl⟩⟩⟩, ⟨_, pc, (HC10.new (n := 0) hw2 (hq _ (.inr rfl))).new (n := 0) hm3 (hq _ (.inl rfl)), fun j hj => (Into.refl _ _).trans (hpart.2.2 j hj) hsb⟩, ?_, .inl ⟨rfl, rfl, rfl⟩⟩
  exact (((Mod.of_below HF.out.2.2.2.2 _).trans hm10 (fun y hy => .inl (mem_allOf.2 ⟨4 + t, by omega, hy⟩))).trans hw2 (Into.new (by simp; omega) _)).trans hm3 (Into.new (by simp) _)
end Go.Proofs.YtcanfmabkklidaaGreat
set_option linter.unusedSimpArgs false
set_option linter.unusedVariables false
set_option linter.unnecessarySimpa false
namespace Go.Proofs.YtcanfmabkklidaaGreat
open Go.RowKit

set_option maxRecDepth 100000 in
set_option maxHeartbeats 8000000 in
theorem none2_in (b : Nat) (G : Nat → List Nat) (vs vp : Value) (bb : Nat) (pc : Nat → Option Nat) (c : CoreV) (N : Nat) (t : Nat) (ht : t ≤ 7) (a : ActV) (hk : a.kind = 2) (hx : c.cells t = none) (hat : a.tenant = (t : Int)) (ho : ∃ oa oc, a.pipe.ops = .slice oa a.pipe.ol.length oc) (w : World) (h : CoreIn w b G vs vp bb pc c) (ok : CoreOk c N) (hN : N + 6 ≤ 100000) :
    Calls Tryz.prog 38 #[.pointer (some ⟨b, 0, none⟩), a.val] w (DoTo w b G vs vp bb c ⟨2, [], []⟩) := by
  have hb := h.a.lt
  obtain ⟨ak, at', af, an, ⟨vo, ol, sz, sl, ag, si, fd⟩, am, ti, ky, va, lb⟩ := a
  simp only at hk hat ho
  obtain ⟨oa, oc, rfl⟩ := ho
  subst hk hat
  have HAT0 := Lib.hid (fun W hW => at_any b G vs vp bb pc c t ht W hW)
  have HC0 := Lib.hid (((h.alloc (.cells #[.int .i64 2, .int .i64 (t : Int), .int .i64 af, .int .i64 an, .slice oa ol.length oc, .int .i64 sz, .int .i64 sl, .int .i64 ag, .int .i64 si, .int .i64 fd, .bool am, .int .i64 ti, .int .i64 ky, .int .i64 va, .int .u64 lb] 43)).alloc (.cells #[.int .i64 0, .slice none 0 0, .slice none 0 0] 61)).alloc (.cells #[.int .i64 0, .slice none 0 0, .slice none 0 0] 61))
  have hold := h.lt
  have hcell := h.cs t (by omega)
  rw [hx] at hcell
  rw [show ptrOf (pc t) = .pointer none by rw [hcell.1]; rfl] at HAT0
  have HB0 := Lib.hid (bel_alloc (bel_alloc (bel_alloc (Below.refl w.heap.size w) (.cells #[.int .i64 2, .int .i64 (t : Int), .int .i64 af, .int .i64 an, .slice oa ol.length oc, .int .i64 sz, .int .i64 sl, .int .i64 ag, .int .i64 si, .int .i64 fd, .bool am, .int .i64 ti, .int .i64 ky, .int .i64 va, .int .u64 lb] 43)) (.cells #[.int .i64 0, .slice none 0 0, .slice none 0 0] 61)) (.cells #[.int .i64 0, .slice none 0 0, .slice none 0 0] 61))
  have HZ1 := Lib.hid (show At (((w.alloc (.cells #[.int .i64 2, .int .i64 (t : Int), .int .i64 af, .int .i64 an, .slice oa ol.length oc, .int .i64 sz, .int .i64 sl, .int .i64 ag, .int .i64 si, .int .i64 fd, .bool am, .int .i64 ti, .int .i64 ky, .int .i64 va, .int .u64 lb] 43)).alloc (.cells #[.int .i64 0, .slice none 0 0, .slice none 0 0] 61)).alloc (.cells #[.int .i64 0, .slice none 0 0, .slice none 0 0] 61)) (w.heap.size + 1) [.int .i64 0, .slice none 0 0, .slice none 0 0] from (At.newAt (by simp) _ _).alloc _)
  have HZ2 := Lib.hid (show At (((w.alloc (.cells #[.int .i64 2, .int .i64 (t : Int), .int .i64 af, .int .i64 an, .slice oa ol.length oc, .int .i64 sz, .int .i64 sl, .int .i64 ag, .int .i64 si, .int .i64 fd, .bool am, .int .i64 ti, .int .i64 ky, .int .i64 va, .int .u64 lb] 43)).alloc (.cells #[.int .i64 0, .slice none 0 0, .slice none 0 0] 61)).alloc (.cells #[.int .i64 0, .slice none 0 0, .slice none 0 0] 61)) (w.heap.size + 2) [.int .i64 0, .slice none 0 0, .slice none 0 0] from At.newAt (by simp) _ _)
  have HH := Lib.hid h
  clear h hcell hx
  unfold ActV.val
  simp only
  go_enter Tryz.func38, Tryz.ntmps38
  go_wp2_with (go_at_call 47; (with_reducible refine (HAT0.out _ HC0.out).mono ?_); rintro e w1 ⟨rfl, rfl⟩)
  refine bodyPost_ret (res38 _ (w.heap.size + 1) 2 (.slice none 0 0) (.slice none 0 0) ⟨_, _, _, rfl⟩ ⟨_, _, _, rfl⟩ _ rfl ((At.newAt (by simp) _ _).alloc _)) rfl ?_
  exact ⟨⟨_, _, rfl, ⟨rfl, .inl ⟨rfl, rfl⟩⟩, ⟨rfl, .inl ⟨rfl, rfl⟩⟩⟩, ⟨G, pc, ((HH.out.alloc _).alloc _).alloc _, fun _ _ => Into.refl _ _⟩, (((Mod.refl _ _).new _).new _).new _, .inl ⟨rfl, rfl, rfl⟩⟩
set_option maxRecDepth 100000 in
set_option maxHeartbeats 8000000 in
theorem none4_in (b : Nat) (G : Nat → List Nat) (vs vp : Value) (bb : Nat) (pc : Nat → Option Nat) (c : CoreV) (N : Nat) (t : Nat) (ht : t ≤ 7) (a : ActV) (hk : a.kind = 4) (hx : c.cells t = none) (hat : a.tenant = (t : Int)) (ho : ∃ oa oc, a.pipe.ops = .slice oa a.pipe.ol.length oc) (w : World) (h : CoreIn w b G vs vp bb pc c) (ok : CoreOk c N) (hN : N + 6 ≤ 100000) :
    Calls Tryz.prog 38 #[.pointer (some ⟨b, 0, none⟩), a.val] w (DoTo w b G vs vp bb c ⟨2, [], []⟩) := by
  have hb := h.a.lt
  obtain ⟨ak, at', af, an, ⟨vo, ol, sz, sl, ag, si, fd⟩, am, ti, ky, va, lb⟩ := a
  simp only at hk hat ho
  obtain ⟨oa, oc, rfl⟩ := ho
  subst hk hat
  have HAT0 := Lib.hid (fun W hW => at_any b G vs vp bb pc c t ht W hW)
  have HC0 := Lib.hid (((h.alloc (.cells #[.int .i64 4, .int .i64 (t : Int), .int .i64 af, .int .i64 an, .slice oa ol.length oc, .int .i64 sz, .int .i64 sl, .int .i64 ag, .int .i64 si, .int .i64 fd, .bool am, .int .i64 ti, .int .i64 ky, .int .i64 va, .int .u64 lb] 43)).alloc (.cells #[.int .i64 0, .slice none 0 0, .slice none 0 0] 61)).alloc (.cells #[.int .i64 0, .slice none 0 0, .slice none 0 0] 61))
  have hold := h.lt
  have hcell := h.cs t (by omega)
  rw [hx] at hcell
  rw [show ptrOf (pc t) = .pointer none by rw [hcell.1]; rfl] at HAT0
  have HB0 := Lib.hid (bel_alloc (bel_alloc (bel_alloc (Below.refl w.heap.size w) (.cells #[.int .i64 4, .int .i64 (t : Int), .int .i64 af, .int .i64 an, .slice oa ol.length oc, .int .i64 sz, .int .i64 sl, .int .i64 ag, .int .i64 si, .int .i64 fd, .bool am, .int .i64 ti, .int .i64 ky, .int .i64 va, .int .u64 lb] 43)) (.cells #[.int .i64 0, .slice none 0 0, .slice none 0 0] 61)) (.cells #[.int .i64 0, .slice none 0 0, .slice none 0 0] 61))
  have HZ1 := Lib.hid (show At (((w.alloc (.cells #[.int .i64 4, .int .i64 (t : Int), .int .i64 af, .int .i64 an, .slice oa ol.length oc, .int .i64 sz, .int .i64 sl, .int .i64 ag, .int .i64 si, .int .i64 fd, .bool am, .int .i64 ti, .int .i64 ky, .int .i64 va, .int .u64 lb] 43)).alloc (.cells #[.int .i64 0, .slice none 0 0, .slice none 0 0] 61)).alloc (.cells #[.int .i64 0, .slice none 0 0, .slice none 0 0] 61)) (w.heap.size + 1) [.int .i64 0, .slice none 0 0, .slice none 0 0] from (At.newAt (by simp) _ _).alloc _)
  have HZ2 := Lib.hid (show At (((w.alloc (.cells #[.int .i64 4, .int .i64 (t : Int), .int .i64 af, .int .i64 an, .slice oa ol.length oc, .int .i64 sz, .int .i64 sl, .int .i64 ag, .int .i64 si, .int .i64 fd, .bool am, .int .i64 ti, .int .i64 ky, .int .i64 va, .int .u64 lb] 43)).alloc (.cells #[.int .i64 0, .slice none 0 0, .slice none 0 0] 61)).alloc (.cells #[.int .i64 0, .slice none 0 0, .slice none 0 0] 61)) (w.heap.size + 2) [.int .i64 0, .slice none 0 0, .slice none 0 0] from At.newAt (by simp) _ _)
  have HH := Lib.hid h
  clear h hcell hx
  unfold ActV.val
  simp only
  go_enter Tryz.func38, Tryz.ntmps38
  go_wp2_with (go_at_call 47; (with_reducible refine (HAT0.out _ HC0.out).mono ?_); rintro e w1 ⟨rfl, rfl⟩)
  refine bodyPost_ret (res38 _ (w.heap.size + 1) 2 (.slice none 0 0) (.slice none 0 0) ⟨_, _, _, rfl⟩ ⟨_, _, _, rfl⟩ _ rfl ((At.newAt (by simp) _ _).alloc _)) rfl ?_
  exact ⟨⟨_, _, rfl, ⟨rfl, .inl ⟨rfl, rfl⟩⟩, ⟨rfl, .inl ⟨rfl, rfl⟩⟩⟩, ⟨G, pc, ((HH.out.alloc _).alloc _).alloc _, fun _ _ => Into.refl _ _⟩, (((Mod.refl _ _).new _).new _).new _, .inl ⟨rfl, rfl, rfl⟩⟩
end Go.Proofs.YtcanfmabkklidaaGreat
set_option linter.unusedSimpArgs false
set_option linter.unusedVariables false
set_option linter.unnecessarySimpa false
namespace Go.Proofs.YtcanfmabkklidaaGreat
open Go.RowKit

theorem rows_any (b : Nat) (xs : List Value) (vr : Value) (l : List RowV) (frm n : Int) (w : World) (h : At w b xs) (h6 : xs[6]? = some vr) (hr : w.ownsRow 0 64 5 vr l.length (l.flatMap RowV.cs)) (hl : l.length ≤ 1000000) :
    Calls Tryz.prog 60 #[.pointer (some ⟨b, 0, none⟩), .int .i64 frm, .int .i64 n] w fun e w' => ∃ v, e = .returned (.tuple #[v, .int .i64 (cutE l frm)]) ∧ w'.ownsRow w.heap.size 64 5 v (cutL l frm n).length ((cutL l frm n).flatMap RowV.cs) ∧ Below w.heap.size w w' := by
  cases hc : cutOk l frm with
  | false =>
    refine (rows_no b xs vr l frm n w h h6 hr hl hc).mono ?_
    rintro e w' ⟨rfl, rfl⟩
    exact ⟨.slice none 0 0, by simp [cutE, hc], by simp [cutL, hc]; exact ⟨rfl, .inl ⟨rfl, rfl⟩⟩, Below.refl _ _⟩
  | true =>
    have h1 : 0 ≤ frm ∧ frm ≤ (l.length : Int) := by simpa [cutOk] using hc
    obtain ⟨f, rfl⟩ := Int.eq_ofNat_of_zero_le h1.1
    refine (rows_yes b xs vr l f n w h h6 hr hl (by omega)).mono ?_
    rintro e w' ⟨v, rfl, h2, h3⟩
    exact ⟨v, by simp [cutE, hc], h2, h3⟩
set_option maxRecDepth 100000 in
set_option maxHeartbeats 8000000 in
theorem do4_in (b : Nat) (G : Nat → List Nat) (vs vp : Value) (bb : Nat) (pc : Nat → Option Nat) (c : CoreV) (N : Nat) (t : Nat) (ht : t ≤ 7) (a : ActV) (hk : a.kind = 4) (x : CellV) (hx : c.cells t = some x) (hat : a.tenant = (t : Int)) (ho : ∃ oa oc, a.pipe.ops = .slice oa a.pipe.ol.length oc) (w : World) (h : CoreIn w b G vs vp bb pc c) (ok : CoreOk c N) (hN : N + 6 ≤ 100000) :
    Calls Tryz.prog 38 #[.pointer (some ⟨b, 0, none⟩), a.val] w (DoTo w b G vs vp bb c ⟨cutE x.rows a.frm, cutL x.rows a.frm a.n, []⟩) := by
  have hb := h.a.lt
  obtain ⟨ak, at', af, an, ⟨vo, ol, sz, sl, ag, si, fd⟩, am, ti, ky, va, lb⟩ := a
  simp only at hk hat ho
  obtain ⟨oa, oc, rfl⟩ := ho
  subst hk hat
  have HAT0 := Lib.hid (fun W hW => at_any b G vs vp bb pc c t ht W hW)
  have HC0 := Lib.hid (((h.alloc (.cells #[.int .i64 4, .int .i64 (t : Int), .int .i64 af, .int .i64 an, .slice oa ol.length oc, .int .i64 sz, .int .i64 sl, .int .i64 ag, .int .i64 si, .int .i64 fd, .bool am, .int .i64 ti, .int .i64 ky, .int .i64 va, .int .u64 lb] 43)).alloc (.cells #[.int .i64 0, .slice none 0 0, .slice none 0 0] 61)).alloc (.cells #[.int .i64 0, .slice none 0 0, .slice none 0 0] 61))
  have hold := h.lt
  have hcell := h.cs t (by omega)
  rw [hx] at hcell
  obtain ⟨bt, hpt, br, vq, vr, vt, Sq, Sr, Sv, St, hS, hci⟩ := hcell
  rw [show ptrOf (pc t) = .pointer (some ⟨bt, 0, none⟩) by rw [hpt]; rfl] at HAT0
  have hrl : x.rows.length ≤ 1000000 := by have := (ok.cell t x hx).rows; have := ok.n; omega
  have HRW := Lib.hid (fun y (hy : CellIn y bt br vq vr vt Sq Sr Sv St x) => rows_any bt _ vr x.rows af an y hy.a rfl hy.v hrl)
  have HCI := Lib.hid (((hci.alloc (.cells #[.int .i64 4, .int .i64 (t : Int), .int .i64 af, .int .i64 an, .slice oa ol.length oc, .int .i64 sz, .int .i64 sl, .int .i64 ag, .int .i64 si, .int .i64 fd, .bool am, .int .i64 ti, .int .i64 ky, .int .i64 va, .int .u64 lb] 43)).alloc (.cells #[.int .i64 0, .slice none 0 0, .slice none 0 0] 61)).alloc (.cells #[.int .i64 0, .slice none 0 0, .slice none 0 0] 61))
  obtain ⟨E, hE⟩ : ∃ E, E = cutE x.rows af := ⟨_, rfl⟩
  obtain ⟨L, hL⟩ : ∃ L, L = cutL x.rows af an := ⟨_, rfl⟩
  rw [← hE, ← hL] at HRW ⊢
  have HB0 := Lib.hid (bel_alloc (bel_alloc (bel_alloc (Below.refl w.heap.size w) (.cells #[.int .i64 4, .int .i64 (t : Int), .int .i64 af, .int .i64 an, .slice oa ol.length oc, .int .i64 sz, .int .i64 sl, .int .i64 ag, .int .i64 si, .int .i64 fd, .bool am, .int .i64 ti, .int .i64 ky, .int .i64 va, .int .u64 lb] 43)) (.cells #[.int .i64 0, .slice none 0 0, .slice none 0 0] 61)) (.cells #[.int .i64 0, .slice none 0 0, .slice none 0 0] 61))
  have HZ1 := Lib.hid (show At (((w.alloc (.cells #[.int .i64 4, .int .i64 (t : Int), .int .i64 af, .int .i64 an, .slice oa ol.length oc, .int .i64 sz, .int .i64 sl, .int .i64 ag, .int .i64 si, .int .i64 fd, .bool am, .int .i64 ti, .int .i64 ky, .int .i64 va, .int .u64 lb] 43)).alloc (.cells #[.int .i64 0, .slice none 0 0, .slice none 0 0] 61)).alloc (.cells #[.int .i64 0, .slice none 0 0, .slice none 0 0] 61)) (w.heap.size + 1) [.int .i64 0, .slice none 0 0, .slice none 0 0] from (At.newAt (by simp) _ _).alloc _)
  have HZ2 := Lib.hid (show At (((w.alloc (.cells #[.int .i64 4, .int .i64 (t : Int), .int .i64 af, .int .i64 an, .slice oa ol.length oc, .int .i64 sz, .int .i64 sl, .int .i64 ag, .int .i64 si, .int .i64 fd, .bool am, .int .i64 ti, .int .i64 ky, .int .i64 va, .int .u64 lb] 43)).alloc (.cells #[.int .i64 0, .slice none 0 0, .slice none 0 0] 61)).alloc (.cells #[.int .i64 0, .slice none 0 0, .slice none 0 0] 61)) (w.heap.size + 2) [.int .i64 0, .slice none 0 0, .slice none 0 0] from At.newAt (by simp) _ _)
  clear h hpt hci hS hx hE hL
  unfold ActV.val
  simp only
  go_enter Tryz.func38, Tryz.ntmps38
  go_wp2_with (first
    | (go_at_call 47; (with_reducible refine (HAT0.out _ HC0.out).mono ?_); rintro e w1 ⟨rfl, rfl⟩)
    | (go_at_call 60; (with_reducible refine (HRW.out _ HCI.out).mono ?_); rintro e w2 ⟨v2, rfl, ho2, hb2⟩; obtain ⟨pa, pc', rfl⟩ := own_shape2 ho2; have HO2 := Lib.hid ho2; have HB2 := Lib.hid hb2; have Z1 := HZ1.out.below hb2; have Z2 := HZ2.out.below hb2; have HZ1' := Lib.hid Z1; have g0 := Z1.c 0 _ rfl; have g1 := Z1.c 1 _ rfl; have g2 := Z1.c 2 _ rfl; have f0 := Z1.f 0; have f1 := Z1.f 1; have f2 := Z1.f 2; have l3 := Z1.lt; have k0 := Z2.c 0 _ rfl; have k1 := Z2.c 1 _ rfl; have k2 := Z2.c 2 _ rfl; have e0 := Z2.f 0; have e1 := Z2.f 1; have l4 := Z2.lt; clear ho2 hb2 Z1 Z2))
  have hw2 : Mod [w.heap.size + 1 + 1] w2 ((w2.setCell ⟨w.heap.size + 1 + 1, 1, none⟩ (.slice pa L.length pc')).setCell ⟨w.heap.size + 1 + 1, 0, none⟩ (.int .i64 E)) := ((Mod.refl _ _).set _ _ _ (.inl (by simp))).set _ _ _ (.inl (by simp))
  have hm3 : Mod [w.heap.size + 1] ((w2.setCell ⟨w.heap.size + 1 + 1, 1, none⟩ (.slice pa L.length pc')).setCell ⟨w.heap.size + 1 + 1, 0, none⟩ (.int .i64 E)) (((((w2.setCell ⟨w.heap.size + 1 + 1, 1, none⟩ (.slice pa L.length pc')).setCell ⟨w.heap.size + 1 + 1, 0, none⟩ (.int .i64 E)).setCell ⟨w.heap.size + 1, 0, none⟩ (.int .i64 E)).setCell ⟨w.heap.size + 1, 1, none⟩ (.slice pa L.length pc')).setCell ⟨w.heap.size + 1, 2, none⟩ (.slice none 0 0)) := (((Mod.refl _ _).set _ _ _ (.inl (by simp))).set _ _ _ (.inl (by simp))).set _ _ _ (.inl (by simp))
  have ha3 : At (((((w2.setCell ⟨w.heap.size + 1 + 1, 1, none⟩ (.slice pa L.length pc')).setCell ⟨w.heap.size + 1 + 1, 0, none⟩ (.int .i64 E)).setCell ⟨w.heap.size + 1, 0, none⟩ (.int .i64 E)).setCell ⟨w.heap.size + 1, 1, none⟩ (.slice pa L.length pc')).setCell ⟨w.heap.size + 1, 2, none⟩ (.slice none 0 0)) (w.heap.size + 1) [.int .i64 E, .slice pa L.length pc', .slice none 0 0] := (((HZ1'.out.mod hw2 (by simp)).set 0 _ (by simp)).set 1 _ (by simp)).set 2 _ (by simp)
  refine bodyPost_ret (res38 _ (w.heap.size + 1) E (.slice pa L.length pc') (.slice none 0 0) ⟨_, _, _, rfl⟩ ⟨_, _, _, rfl⟩ _ rfl ha3) rfl ?_
  have hs2 := HB2.out.size
  have hn2 := own_new HO2.out
  simp at hs2 hn2
  have hB : Below w.heap.size w w2 := HB0.out.trans (HB2.out.mono HB0.out.size)
  have ho3 := own_mod (own_mod HO2.out hw2 (fun y hy => by have := hn2 y (by simpa using hy); simp; omega)) hm3 (fun y hy => by have := hn2 y (by simpa using hy); simp; omega)
  have hq : ∀ q, (q = w.heap.size + 1 ∨ q = w.heap.size + 1 + 1) → q ∉ allOf 12 G := fun q hqq hh => by
    have := hold _ hh
    omega
  refine ⟨⟨_, _, rfl, ownsRow_base ho3 (by simp; omega), ⟨rfl, .inl ⟨rfl, rfl⟩⟩⟩, ⟨G, pc, ((HC0.out.below HB2.out).new (n := 0) hw2 (hq _ (.inr rfl))).new (n := 0) hm3 (hq _ (.inl rfl)), fun j hj => Into.refl _ _⟩, ?_, .inr ⟨pc, ((HC0.out.below HB2.out).new (n := 0) hw2 (hq _ (.inr rfl))).new (n := 0) hm3 (hq _ (.inl rfl))⟩⟩
  exact ((Mod.of_below hB _).trans hw2 (Into.new (by simp; omega) _)).trans hm3 (Into.new (by simp) _)
end Go.Proofs.YtcanfmabkklidaaGreat
set_option linter.unusedSimpArgs false
set_option linter.unusedVariables false
set_option linter.unnecessarySimpa false
namespace Go.Proofs.YtcanfmabkklidaaGreat
open Go.RowKit

theorem told_any (b : Nat) (t : Nat) (ht : t ≤ 7) (l : List RelV) (frm n : Int) (w : World) (h : ∃ xs vr, At w b xs ∧ xs[t]? = some vr ∧ w.ownsRow 0 52 4 vr l.length (l.flatMap RelV.cs)) (hl : l.length ≤ 1000000) :
    Calls Tryz.prog 58 #[.pointer (some ⟨b, 0, none⟩), .int .i64 t, .int .i64 frm, .int .i64 n] w fun e w' => ∃ v, e = .returned (.tuple #[v, .int .i64 (cutE l frm)]) ∧ w'.ownsRow w.heap.size 52 4 v (cutL l frm n).length ((cutL l frm n).flatMap RelV.cs) ∧ Below w.heap.size w w' := by
  obtain ⟨xs, vr, h, h6, hr⟩ := h
  cases hc : cutOk l frm with
  | false =>
    refine (told_no b xs vr l frm n w h t ht h6 hr hl hc).mono ?_
    rintro e w' ⟨rfl, rfl⟩
    exact ⟨.slice none 0 0, by simp [cutE, hc], by simp [cutL, hc]; exact ⟨rfl, .inl ⟨rfl, rfl⟩⟩, Below.refl _ _⟩
  | true =>
    have h1 : 0 ≤ frm ∧ frm ≤ (l.length : Int) := by simpa [cutOk] using hc
    obtain ⟨f, rfl⟩ := Int.eq_ofNat_of_zero_le h1.1
    refine (told_yes b xs vr l f n w h t ht h6 hr hl (by omega)).mono ?_
    rintro e w' ⟨v, rfl, h2, h3⟩
    exact ⟨v, by simp [cutE, hc], h2, h3⟩
set_option maxRecDepth 100000 in
set_option maxHeartbeats 8000000 in
theorem do5_in (b : Nat) (G : Nat → List Nat) (vs vp : Value) (bb : Nat) (pc : Nat → Option Nat) (c : CoreV) (N : Nat) (t : Nat) (ht : t ≤ 7) (a : ActV) (hk : a.kind = 5) (hat : a.tenant = (t : Int)) (ho : ∃ oa oc, a.pipe.ops = .slice oa a.pipe.ol.length oc) (w : World) (h : CoreIn w b G vs vp bb pc c) (ok : CoreOk c N) (hN : N + 6 ≤ 100000) :
    Calls Tryz.prog 38 #[.pointer (some ⟨b, 0, none⟩), a.val] w (DoTo w b G vs vp bb c ⟨cutE (c.board t) a.frm, [], cutL (c.board t) a.frm a.n⟩) := by
  have hb := h.a.lt
  obtain ⟨ak, at', af, an, ⟨vo, ol, sz, sl, ag, si, fd⟩, am, ti, ky, va, lb⟩ := a
  simp only at hk hat ho
  obtain ⟨oa, oc, rfl⟩ := ho
  subst hk hat
  have HAT0 := Lib.hid (fun W hW => at_any b G vs vp bb pc c t ht W hW)
  have hrl : (c.board t).length ≤ 1000000 := by have := ok.bd t; have := ok.n; omega
  have HRW := Lib.hid (fun y (hy : CoreIn y b G vs vp bb pc c) => told_any bb t ht (c.board t) af an y (by obtain ⟨vb, H, _, hbd⟩ := hy.bd; exact ⟨_, vb t, hbd.a, board_cell vb t ht, hbd.r t (by omega)⟩) hrl)
  obtain ⟨E, hE⟩ : ∃ E, E = cutE (c.board t) af := ⟨_, rfl⟩
  obtain ⟨L, hL⟩ : ∃ L, L = cutL (c.board t) af an := ⟨_, rfl⟩
  rw [← hE, ← hL] at HRW ⊢
  have HC0 := Lib.hid (((h.alloc (.cells #[.int .i64 5, .int .i64 (t : Int), .int .i64 af, .int .i64 an, .slice oa ol.length oc, .int .i64 sz, .int .i64 sl, .int .i64 ag, .int .i64 si, .int .i64 fd, .bool am, .int .i64 ti, .int .i64 ky, .int .i64 va, .int .u64 lb] 43)).alloc (.cells #[.int .i64 0, .slice none 0 0, .slice none 0 0] 61)).alloc (.cells #[.int .i64 0, .slice none 0 0, .slice none 0 0] 61))
  have hold := h.lt
  obtain ⟨pt, hpt⟩ : ∃ pt, ptrOf (pc t) = .pointer pt := ⟨_, rfl⟩
  rw [hpt] at HAT0
  have HB0 := Lib.hid (bel_alloc (bel_alloc (bel_alloc (Below.refl w.heap.size w) (.cells #[.int .i64 5, .int .i64 (t : Int), .int .i64 af, .int .i64 an, .slice oa ol.length oc, .int .i64 sz, .int .i64 sl, .int .i64 ag, .int .i64 si, .int .i64 fd, .bool am, .int .i64 ti, .int .i64 ky, .int .i64 va, .int .u64 lb] 43)) (.cells #[.int .i64 0, .slice none 0 0, .slice none 0 0] 61)) (.cells #[.int .i64 0, .slice none 0 0, .slice none 0 0] 61))
  have HZ1 := Lib.hid (show At (((w.alloc (.cells #[.int .i64 5, .int .i64 (t : Int), .int .i64 af, .int .i64 an, .slice oa ol.length oc, .int .i64 sz, .int .i64 sl, .int .i64 ag, .int .i64 si, .int .i64 fd, .bool am, .int .i64 ti, .int .i64 ky, .int .i64 va, .int .u64 lb] 43)).alloc (.cells #[.int .i64 0, .slice none 0 0, .slice none 0 0] 61)).alloc (.cells #[.int .i64 0, .slice none 0 0, .slice none 0 0] 61)) (w.heap.size + 1) [.int .i64 0, .slice none 0 0, .slice none 0 0] from (At.newAt (by simp) _ _).alloc _)
  have HZ2 := Lib.hid (show At (((w.alloc (.cells #[.int .i64 5, .int .i64 (t : Int), .int .i64 af, .int .i64 an, .slice oa ol.length oc, .int .i64 sz, .int .i64 sl, .int .i64 ag, .int .i64 si, .int .i64 fd, .bool am, .int .i64 ti, .int .i64 ky, .int .i64 va, .int .u64 lb] 43)).alloc (.cells #[.int .i64 0, .slice none 0 0, .slice none 0 0] 61)).alloc (.cells #[.int .i64 0, .slice none 0 0, .slice none 0 0] 61)) (w.heap.size + 2) [.int .i64 0, .slice none 0 0, .slice none 0 0] from At.newAt (by simp) _ _)
  have HA0 := Lib.hid (show At ((((w.alloc (.cells #[.int .i64 5, .int .i64 (t : Int), .int .i64 af, .int .i64 an, .slice oa ol.length oc, .int .i64 sz, .int .i64 sl, .int .i64 ag, .int .i64 si, .int .i64 fd, .bool am, .int .i64 ti, .int .i64 ky, .int .i64 va, .int .u64 lb] 43)).alloc (.cells #[.int .i64 0, .slice none 0 0, .slice none 0 0] 61)).alloc (.cells #[.int .i64 0, .slice none 0 0, .slice none 0 0] 61))) w.heap.size [.int .i64 5, .int .i64 (t : Int), .int .i64 af, .int .i64 an, .slice oa ol.length oc, .int .i64 sz, .int .i64 sl, .int .i64 ag, .int .i64 si, .int .i64 fd, .bool am, .int .i64 ti, .int .i64 ky, .int .i64 va, .int .u64 lb] from ((At.new _ _ _).alloc _).alloc _)
  clear h hpt hE hL
  unfold ActV.val
  simp only
  go_enter Tryz.func38, Tryz.ntmps38
  go_wp2_with (go_at_call 47; (with_reducible refine (HAT0.out _ HC0.out).mono ?_); rintro e w1 ⟨rfl, rfl⟩)
  obtain ⟨w0, hw0⟩ : ∃ w0, w0 = (((w.alloc (.cells #[.int .i64 5, .int .i64 (t : Int), .int .i64 af, .int .i64 an, .slice oa ol.length oc, .int .i64 sz, .int .i64 sl, .int .i64 ag, .int .i64 si, .int .i64 fd, .bool am, .int .i64 ti, .int .i64 ky, .int .i64 va, .int .u64 lb] 43)).alloc (.cells #[.int .i64 0, .slice none 0 0, .slice none 0 0] 61)).alloc (.cells #[.int .i64 0, .slice none 0 0, .slice none 0 0] 61)) := ⟨_, rfl⟩
  have hw0s : w0.heap.size = w.heap.size + 3 := by rw [hw0]; simp
  rw [← hw0] at HC0 HZ1 HZ2 HA0 HB0
  try rw [← hw0]
  clear hw0
  refine wp_region_pl (fun y : World => CoreIn y b G vs vp bb pc c ∧ At y w.heap.size [.int .i64 5, .int .i64 (t : Int), .int .i64 af, .int .i64 an, .slice oa ol.length oc, .int .i64 sz, .int .i64 sl, .int .i64 ag, .int .i64 si, .int .i64 fd, .bool am, .int .i64 ti, .int .i64 ky, .int .i64 va, .int .u64 lb]) (.take 0 <| .take 1 <| .take 2 <| .take 3 <| .take 4 <| .take 5 <| .take 6 <| .take 7 <| .take 8 <| .take 9 <| .doo 10 <| .take 11 <| .take 12 <| .take 13 <| .take 14 <| .doo 15 <| .take 16 <| .doo 17 <| .done) ?plA (by kernel_rfl) (by kernel_rfl) (by kernel_rfl) ?plB (by intro c a d v w; cases d <;> exact fun h => h) ?plC ?_
  case plB =>
    simp only [Pl.with, List.getElem?_toArray, List.getElem?_cons_zero, List.getElem?_cons_succ]
    try rfl
  case plC => exact ⟨HC0.out.drew, HA0.out.drew⟩
  have q1 : ∀ y : World, (fun y : World => CoreIn y b G vs vp bb pc c ∧ At y w.heap.size [.int .i64 5, .int .i64 (t : Int), .int .i64 af, .int .i64 an, .slice oa ol.length oc, .int .i64 sz, .int .i64 sl, .int .i64 ag, .int .i64 si, .int .i64 fd, .bool am, .int .i64 ti, .int .i64 ky, .int .i64 va, .int .u64 lb]) y → y.cell? ⟨w.heap.size, 1, none⟩ = some (.int .i64 (t : Int)) := fun y h => h.2.c 1 _ rfl
  have q2 : ∀ y : World, (fun y : World => CoreIn y b G vs vp bb pc c ∧ At y w.heap.size [.int .i64 5, .int .i64 (t : Int), .int .i64 af, .int .i64 an, .slice oa ol.length oc, .int .i64 sz, .int .i64 sl, .int .i64 ag, .int .i64 si, .int .i64 fd, .bool am, .int .i64 ti, .int .i64 ky, .int .i64 va, .int .u64 lb]) y → y.cell? ⟨w.heap.size, 2, none⟩ = some (.int .i64 af) := fun y h => h.2.c 2 _ rfl
  have q3 : ∀ y : World, (fun y : World => CoreIn y b G vs vp bb pc c ∧ At y w.heap.size [.int .i64 5, .int .i64 (t : Int), .int .i64 af, .int .i64 an, .slice oa ol.length oc, .int .i64 sz, .int .i64 sl, .int .i64 ag, .int .i64 si, .int .i64 fd, .bool am, .int .i64 ti, .int .i64 ky, .int .i64 va, .int .u64 lb]) y → y.cell? ⟨w.heap.size, 3, none⟩ = some (.int .i64 an) := fun y h => h.2.c 3 _ rfl
  have qb : ∀ y : World, (fun y : World => CoreIn y b G vs vp bb pc c ∧ At y w.heap.size [.int .i64 5, .int .i64 (t : Int), .int .i64 af, .int .i64 an, .slice oa ol.length oc, .int .i64 sz, .int .i64 sl, .int .i64 ag, .int .i64 si, .int .i64 fd, .bool am, .int .i64 ti, .int .i64 ky, .int .i64 va, .int .u64 lb]) y → y.cell? ⟨b, 13, none⟩ = some (.pointer (some ⟨bb, 0, none⟩)) := fun y h => h.1.a.c 13 _ rfl
  iterate 10 (refine wpPl_take (v := ?_) (by rfl) (fun w' hS => ?_) ?_; rotate_left; (focus (go_simp; with_reducible rfl)); simp only [Act.put, List.setIfInBounds_toArray, List.set_cons_zero, List.set_cons_succ])
  refine wpPl_do (by rfl) (fun K hK => ?_)
  go_wp2_with (go_at_call 58; (with_reducible refine (HRW.out _ HC0.out.drew).mono ?_); rintro e w2 ⟨v2, rfl, ho2, hb2⟩; obtain ⟨pa, pc', rfl⟩ := own_shape2 ho2; have HO2 := Lib.hid ho2; have HB2 := Lib.hid hb2; have Z1 := HZ1.out.drew.below hb2; have Z2 := HZ2.out.drew.below hb2; have HZ1' := Lib.hid Z1; have g0 := Z1.c 0 _ rfl; have g1 := Z1.c 1 _ rfl; have g2 := Z1.c 2 _ rfl; have f0 := Z1.f 0; have f1 := Z1.f 1; have f2 := Z1.f 2; have l3 := Z1.lt; have k0 := Z2.c 0 _ rfl; have k1 := Z2.c 1 _ rfl; have k2 := Z2.c 2 _ rfl; have e0 := Z2.f 0; have e2 := Z2.f 2; have l4 := Z2.lt; clear ho2 hb2 Z1 Z2)
  refine ⟨⟨HC0.out.drew.below HB2.out, HA0.out.drew.below HB2.out⟩, ?_⟩
  have hqq2 : w.heap.size + 1 + 1 ∉ allOf 12 G := fun hh => by
    have := hold _ hh
    omega
  iterate 4 (refine wpPl_take (v := ?_) (by rfl) (fun w' hS => ?_) ?_; rotate_left; (focus (go_simp; with_reducible rfl)); simp only [Act.put, List.setIfInBounds_toArray, List.set_cons_zero, List.set_cons_succ])
  refine wpPl_do (by rfl) (fun K hK => ?_)
  go_wp2_with fail
  have hwA : Mod [w.heap.size + 1 + 1] w2 (w2.setCell ⟨w.heap.size + 1 + 1, 2, none⟩ (.slice pa L.length pc')) := Mod.setCell _ _ _ _
  refine ⟨⟨(HC0.out.drew.below HB2.out).new (n := 0) hwA hqq2, (HA0.out.drew.below HB2.out).mod hwA (by simp; omega)⟩, ?_⟩
  iterate 1 (refine wpPl_take (v := ?_) (by rfl) (fun w' hS => ?_) ?_; rotate_left; (focus (go_simp; with_reducible rfl)); simp only [Act.put, List.setIfInBounds_toArray, List.set_cons_zero, List.set_cons_succ])
  refine wpPl_do (by rfl) (fun K hK => ?_)
  go_wp2_with fail
  have hwB : Mod [w.heap.size + 1 + 1] w2 ((w2.setCell ⟨w.heap.size + 1 + 1, 2, none⟩ (.slice pa L.length pc')).setCell ⟨w.heap.size + 1 + 1, 0, none⟩ (.int .i64 E)) := ((Mod.refl _ _).set _ _ _ (.inl (by simp))).set _ _ _ (.inl (by simp))
  refine ⟨⟨(HC0.out.drew.below HB2.out).new (n := 0) hwB hqq2, (HA0.out.drew.below HB2.out).mod hwB (by simp; omega)⟩, ?_⟩
  refine wpPl_done ?_
  clear q1 q2 q3 qb
  go_wp2
  have hw2 : Mod [w.heap.size + 1 + 1] w2 ((w2.setCell ⟨w.heap.size + 1 + 1, 2, none⟩ (.slice pa L.length pc')).setCell ⟨w.heap.size + 1 + 1, 0, none⟩ (.int .i64 E)) := ((Mod.refl _ _).set _ _ _ (.inl (by simp))).set _ _ _ (.inl (by simp))
  have hm3 : Mod [w.heap.size + 1] ((w2.setCell ⟨w.heap.size + 1 + 1, 2, none⟩ (.slice pa L.length pc')).setCell ⟨w.heap.size + 1 + 1, 0, none⟩ (.int .i64 E)) (((((w2.setCell ⟨w.heap.size + 1 + 1, 2, none⟩ (.slice pa L.length pc')).setCell ⟨w.heap.size + 1 + 1, 0, none⟩ (.int .i64 E)).setCell ⟨w.heap.size + 1, 0, none⟩ (.int .i64 E)).setCell ⟨w.heap.size + 1, 1, none⟩ (.slice none 0 0)).setCell ⟨w.heap.size + 1, 2, none⟩ (.slice pa L.length pc')) := (((Mod.refl _ _).set _ _ _ (.inl (by simp))).set _ _ _ (.inl (by simp))).set _ _ _ (.inl (by simp))
  have ha3 : At (((((w2.setCell ⟨w.heap.size + 1 + 1, 2, none⟩ (.slice pa L.length pc')).setCell ⟨w.heap.size + 1 + 1, 0, none⟩ (.int .i64 E)).setCell ⟨w.heap.size + 1, 0, none⟩ (.int .i64 E)).setCell ⟨w.heap.size + 1, 1, none⟩ (.slice none 0 0)).setCell ⟨w.heap.size + 1, 2, none⟩ (.slice pa L.length pc')) (w.heap.size + 1) [.int .i64 E, .slice none 0 0, .slice pa L.length pc'] := (((HZ1'.out.mod hw2 (by simp)).set 0 _ (by simp)).set 1 _ (by simp)).set 2 _ (by simp)
  refine bodyPost_ret (res38 _ (w.heap.size + 1) E (.slice none 0 0) (.slice pa L.length pc') ⟨_, _, _, rfl⟩ ⟨_, _, _, rfl⟩ _ rfl ha3) rfl ?_
  have hn2 := own_new HO2.out
  simp at hn2
  have hB : Below w.heap.size w w2 := HB0.out.trans (((bel_draw (Below.refl _ _)).trans HB2.out).mono HB0.out.size)
  have ho3 := own_mod (own_mod HO2.out hw2 (fun y hy => by have := hn2 y (by simpa using hy); simp; omega)) hm3 (fun y hy => by have := hn2 y (by simpa using hy); simp; omega)
  have hq : ∀ q, (q = w.heap.size + 1 ∨ q = w.heap.size + 1 + 1) → q ∉ allOf 12 G := fun q hqq hh => by
    have := hold _ hh
    omega
  refine ⟨⟨_, _, rfl, ⟨rfl, .inl ⟨rfl, rfl⟩⟩, ownsRow_base ho3 (by simp; omega)⟩, ⟨G, pc, ((HC0.out.drew.below HB2.out).new (n := 0) hw2 (hq _ (.inr rfl))).new (n := 0) hm3 (hq _ (.inl rfl)), fun j hj => Into.refl _ _⟩, ?_, .inr ⟨pc, ((HC0.out.drew.below HB2.out).new (n := 0) hw2 (hq _ (.inr rfl))).new (n := 0) hm3 (hq _ (.inl rfl))⟩⟩
  exact ((Mod.of_below hB _).trans hw2 (Into.new (by simp; omega) _)).trans hm3 (Into.new (by simp) _)
end Go.Proofs.YtcanfmabkklidaaGreat
set_option linter.unusedSimpArgs false
set_option linter.unusedVariables false
set_option linter.unnecessarySimpa false
namespace Go.Proofs.YtcanfmabkklidaaGreat
open Go.RowKit

/-- an act that a core may be given: the bounds that the walk asks -/
structure ActBd7 (a : ActV) : Prop where
  k1 : 1 ≤ a.kind
  k2 : a.kind ≤ 5
  t1 : 0 ≤ a.tenant
  t2 : a.tenant ≤ 7
  pipe : a.kind = 1 → PipeBd a.pipe
theorem ActBd.b7 {a : ActV} (h : ActBd a) : ActBd7 a := ⟨h.k1, h.k2, h.t1, by have := h.t2; omega, h.pipe⟩
theorem do_in (b : Nat) (G : Nat → List Nat) (vs vp : Value) (bb : Nat) (pc : Nat → Option Nat) (c : CoreV) (N : Nat) (a : ActV) (ha : ActBd7 a) (hq0 : 0 ≤ c.quota) (S0 : List Nat) (w : World) (h : CoreIn w b G vs vp bb pc c) (hop : RdR OpV.cs 2 w a.pipe.ops a.pipe.ol S0) (ok : CoreOk c N) (hN : N + 6 ≤ 100000) :
    Calls Tryz.prog 38 #[.pointer (some ⟨b, 0, none⟩), a.val] w (DoTo w b G vs vp bb (c.act a.m).1 (c.act a.m).2) := by
  obtain ⟨t, ht⟩ : ∃ t : Nat, a.tenant = (t : Int) := ⟨a.tenant.toNat, by have := ha.t1; omega⟩
  have ht7 : t ≤ 7 := by have := ha.t2; omega
  have htn : a.tenant.toNat = t := by omega
  have hsl : ∃ oa oc, a.pipe.ops = .slice oa a.pipe.ol.length oc := by obtain ⟨x, y, h, _⟩ := hop; exact ⟨x, y, h⟩
  have k1 := ha.k1
  have k2 := ha.k2
  rcases (by omega : a.kind = 1 ∨ a.kind = 2 ∨ a.kind = 3 ∨ a.kind = 4 ∨ a.kind = 5) with hk | hk | hk | hk | hk
  · have e : c.act a.m = ((c.register t a.pipe.m).1, ⟨(c.register t a.pipe.m).2, [], []⟩) := by simp [CoreV.act, ActV.m, hk, htn]
    rw [e]
    exact do1_in b G vs vp bb pc c N t ht7 w a hk (ha.pipe hk) hq0 S0 hop ht h ok hN
  · cases hx : c.cells t with
    | none =>
      have e : c.act a.m = (c, ⟨2, [], []⟩) := by simp [CoreV.act, ActV.m, hk, htn, hx]
      rw [e]
      exact none2_in b G vs vp bb pc c N t ht7 a hk hx ht hsl w h ok hN
    | some x =>
      have e : c.act a.m = (c.setCell t (x.offer c.room ⟨a.mark, a.time, a.key, a.value, a.label⟩).1, ⟨(x.offer c.room ⟨a.mark, a.time, a.key, a.value, a.label⟩).2, [], []⟩) := by simp [CoreV.act, ActV.m, hk, htn, hx]
      rw [e]
      exact do2_in b G vs vp bb pc c N t ht7 a hk x hx ht hsl w h ok hN
  · have e : c.act a.m = (c.tick, ⟨0, [], []⟩) := by simp [CoreV.act, ActV.m, hk]
    rw [e]
    exact do3_in b G vs vp bb pc c N t ht7 a hk ht hsl w h ok hN
  · cases hx : c.cells t with
    | none =>
      have e : c.act a.m = (c, ⟨2, [], []⟩) := by simp [CoreV.act, ActV.m, hk, htn, hx]
      rw [e]
      exact none4_in b G vs vp bb pc c N t ht7 a hk hx ht hsl w h ok hN
    | some x =>
      have e : c.act a.m = (c, ⟨cutE x.rows a.frm, cutL x.rows a.frm a.n, []⟩) := by simp [CoreV.act, ActV.m, hk, htn, hx]
      rw [e]
      exact do4_in b G vs vp bb pc c N t ht7 a hk x hx ht hsl w h ok hN
  · have e : c.act a.m = (c, ⟨cutE (c.board t) a.frm, [], cutL (c.board t) a.frm a.n⟩) := by simp [CoreV.act, ActV.m, hk, htn]
    rw [e]
    exact do5_in b G vs vp bb pc c N t ht7 a hk ht hsl w h ok hN
end Go.Proofs.YtcanfmabkklidaaGreat
set_option linter.unusedSimpArgs false
set_option linter.unusedVariables false
set_option linter.unnecessarySimpa false
namespace Go.Proofs.YtcanfmabkklidaaGreat
open Go.RowKit

theorem CellOk.refuse {x : CellV} {N : Nat} (h : CellOk x N) : CellOk x.refuse N := ⟨h.run, h.id, h.left, h.left2, h.spent, h.spent2, h.len, h.rows⟩
theorem CellOk.offer {x : CellV} {N : Nat} (h : CellOk x N) (room : Int) (i : InpV) : CellOk (x.offer room i).1 (N + 1) ∧ (x.offer room i).1.run = x.run := by
  unfold CellV.offer
  have h1 := h.left
  have h2 := h.left2
  have h3 := h.spent
  have h4 := h.spent2
  have h5 := h.len
  have h6 := h.rows
  split
  · exact ⟨h.refuse.wide (by omega), rfl⟩
  · split
    · exact ⟨h.refuse.wide (by omega), rfl⟩
    · split
      · exact ⟨h.refuse.wide (by omega), rfl⟩
      · rename_i hl _
        refine ⟨⟨h.run, h.id, (show 0 ≤ x.left - 1 by omega), (show x.left - 1 ≤ 1000 by omega), (show 0 ≤ x.spent + 1 by omega), (show x.spent + 1 ≤ ((N + 1 : Nat) : Int) by omega), ?_, ?_⟩, rfl⟩
        · simp; omega
        · simp; omega
theorem CellOk.new {t : Nat} (ht : t ≤ 7) {q : Int} (h0 : 0 ≤ q) (h1 : q ≤ 1000) {p : PipM} (hp : PipOk p) : CellOk (CellV.new t q p) 0 :=
  ⟨⟨hp, by simp [CellV.new, RunV.new], by simp [CellV.new, RunV.new]⟩, ht, h0, h1, by simp [CellV.new], by simp [CellV.new], by simp [CellV.new], by simp [CellV.new, RunV.new]⟩
theorem CoreOk.register {c : CoreV} {N : Nat} (h : CoreOk c N) {t : Nat} (ht : t ≤ 7) (h0 : 0 ≤ c.quota) (h1 : c.quota ≤ 1000) {p : PipM} (hp : PipOk p) : CoreOk (c.register t p).1 N := by
  unfold CoreV.register
  split
  · exact h
  · split
    · rename_i hm
      refine h.setCell t ((CellOk.new ht h0 h1 hp).wide (Nat.zero_le _)) ?_
      show p.sink < c.sinks.length
      unfold CoreV.mayI inI at hm
      simp only [Bool.and_eq_true, Bool.or_eq_true, beq_iff_eq, decide_eq_true_eq] at hm
      rcases hm.1 with h2 | h2
      · omega
      · omega
    · exact h
theorem CoreOk.tick {c : CoreV} {N : Nat} (h : CoreOk c N) (hN : N + 6 ≤ 100000) : CoreOk c.tick (N + 6) := by
  rw [tick_eq]
  have hs := servM_ok h 8
  have hm := servM_same c 8
  have hl := h.sinks
  have htk := h.ticks
  have h1 : CoreOk { servM c 8 with ticks := c.ticks + 1 } (N + 1) := ⟨by omega, hs.sinks, hs.sk, hs.pots, hs.kind, fun t x hx => (hs.cell t x hx).wide (by omega), hs.sink, by show c.ticks + 1 ≤ N + 1; omega, fun t => by have := hs.bd t; show ((servM c 8).board t).length ≤ N + 1; omega⟩
  have h2 := tellM_ok h1 c.sinks.length (by show c.sinks.length ≤ (servM c 8).sinks.length; rw [hm.2.2]; exact Nat.le_refl _) (by omega)
  exact h2.wide (by omega) hN
theorem act_quota (c : CoreV) (a : ActM) : (c.act a).1.quota = c.quota ∧ (c.act a).1.sinks = c.sinks := by
  have hserv : ∀ m, (servM c m).quota = c.quota ∧ (servM c m).sinks = c.sinks := by
    intro m
    induction m with
    | zero => exact ⟨rfl, rfl⟩
    | succ m ih =>
      have h := serve1_same (waitingOf c) (servM c m) m
      rw [servM_succ]
      exact ⟨h.2.2.2.2.1.trans ih.1, h.2.2.1.trans ih.2⟩
  have htell : ∀ (d : CoreV) m, (tellM d m).quota = d.quota ∧ (tellM d m).sinks = d.sinks := by
    intro d m
    induction m with
    | zero => exact ⟨rfl, rfl⟩
    | succ m ih =>
      have h := tell1_same (tellM d m) m
      rw [tellM_succ]
      exact ⟨h.2.2.2.2.trans ih.1, h.2.1.trans ih.2⟩
  unfold CoreV.act
  split
  · show (c.register a.tenant a.pipe).1.quota = _ ∧ _
    unfold CoreV.register
    split
    · exact ⟨rfl, rfl⟩
    · split <;> exact ⟨rfl, rfl⟩
  · split
    · show c.tick.quota = _ ∧ c.tick.sinks = _
      rw [tick_eq]
      have h := htell { servM c 8 with ticks := c.ticks + 1 } c.sinks.length
      exact ⟨h.1.trans (hserv 8).1, h.2.trans (hserv 8).2⟩
    · split
      · exact ⟨rfl, rfl⟩
      · split
        · exact ⟨rfl, rfl⟩
        · split <;> exact ⟨rfl, rfl⟩
theorem CoreOk.act {c : CoreV} {N : Nat} (h : CoreOk c N) (h0 : 0 ≤ c.quota) (h1 : c.quota ≤ 1000) {a : ActM} (ht : a.tenant ≤ 7) (hp : a.kind = 1 → PipOk a.pipe) (hN : N + 6 ≤ 100000) : CoreOk (c.act a).1 (N + 6) := by
  unfold CoreV.act
  split
  · rename_i hk
    exact (h.register ht h0 h1 (hp hk)).wide (by omega) hN
  · split
    · exact h.tick hN
    · split
      · exact h.wide (by omega) hN
      · split
        · exact h.wide (by omega) hN
        · rename_i x hx
          split
          · have hk := (h.cell _ x hx).offer c.room a.inp
            refine (h.wide (show N ≤ N + 1 by omega) (by omega)).setCell a.tenant hk.1 ?_ |>.wide (by omega) hN
            rw [hk.2]
            exact h.sink _ x hx
          · exact h.wide (by omega) hN
end Go.Proofs.YtcanfmabkklidaaGreat
set_option linter.unusedSimpArgs false
set_option linter.unusedVariables false
set_option linter.unnecessarySimpa false
namespace Go.Proofs.YtcanfmabkklidaaGreat
open Go.RowKit

theorem acts_snoc : ∀ (l : List ActM) (a : ActM) (c : CoreV), c.acts (l ++ [a]) = (((c.acts l).1.act a).1, (c.acts l).2 ++ [((c.acts l).1.act a).2])
  | [], a, c => by simp [CoreV.acts]
  | x :: l, a, c => by
    simp only [List.cons_append, CoreV.acts]
    rw [acts_snoc l a]
theorem acts_append : ∀ (l m : List ActM) (c : CoreV), c.acts (l ++ m) = (((c.acts l).1.acts m).1, (c.acts l).2 ++ ((c.acts l).1.acts m).2)
  | [], m, c => by simp [CoreV.acts]
  | x :: l, m, c => by
    simp only [List.cons_append, CoreV.acts]
    rw [acts_append l m]
theorem acts_len : ∀ (l : List ActM) (c : CoreV), (c.acts l).2.length = l.length
  | [], c => rfl
  | a :: l, c => by simp [CoreV.acts, acts_len l]
theorem acts_take (c : CoreV) (l : List ActM) (i : Nat) (a : ActM) (h : l[i]? = some a) : c.acts (l.take (i + 1)) = (((c.acts (l.take i)).1.act a).1, (c.acts (l.take i)).2 ++ [((c.acts (l.take i)).1.act a).2]) := by
  rw [List.take_add_one, h]
  exact acts_snoc _ _ _
/-- an act that may be -/
def ActR (a : ActM) : Prop := a.tenant ≤ 7 ∧ (a.kind = 1 → PipOk a.pipe)
theorem CoreOk.acts : ∀ (l : List ActM) {c : CoreV} {N : Nat}, CoreOk c N → 0 ≤ c.quota → c.quota ≤ 1000 → (∀ a ∈ l, ActR a) → N + 6 * l.length ≤ 100000 →
    CoreOk (c.acts l).1 (N + 6 * l.length) ∧ (c.acts l).1.quota = c.quota ∧ (c.acts l).1.sinks = c.sinks
  | [], c, N, h, _, _, _, _ => ⟨h, rfl, rfl⟩
  | a :: l, c, N, h, h0, h1, ha, hN => by
    simp only [List.length_cons] at hN
    have hq := act_quota c a
    have h2 := h.act h0 h1 (ha a (by simp)).1 (ha a (by simp)).2 (by omega)
    have h3 := CoreOk.acts l h2 (by rw [hq.1]; exact h0) (by rw [hq.1]; exact h1) (fun x hx => ha x (by simp [hx])) (by omega)
    simp only [CoreV.acts, List.length_cons]
    refine ⟨?_, h3.2.1.trans hq.1, h3.2.2.trans hq.2⟩
    have e : N + 6 * (l.length + 1) = N + 6 + 6 * l.length := by omega
    rw [e]
    exact h3.1
def AnsV.m (a : AnsV) : AnsM := ⟨a.err, a.rl, a.tl⟩
def AnsV.bl (a : AnsV) : List Nat := a.rows.ownBlock.toList ++ a.told.ownBlock.toList
structure AnsV.own (n : Nat) (w : World) (a : AnsV) : Prop where
  r : w.ownsRow n 64 5 a.rows a.rl.length (a.rl.flatMap RowV.cs)
  t : w.ownsRow n 52 4 a.told a.tl.length (a.tl.flatMap RelV.cs)
theorem AnsV.own.same {n : Nat} {w w' : World} {a : AnsV} (h : a.own n w) (hs : ∀ x ∈ a.bl, w'.heap[x]? = w.heap[x]?) : a.own n w' :=
  ⟨own_of_block h.r fun b hb => hs b (List.mem_append_left _ hb), own_of_block h.t fun b hb => hs b (List.mem_append_right _ hb)⟩
theorem AnsV.own.lt {n : Nat} {w : World} {a : AnsV} (h : a.own n w) : ∀ x ∈ a.bl, x < w.heap.size := fun x hx => by
  rcases List.mem_append.1 hx with hx | hx
  · exact own_lt h.r x hx
  · exact own_lt h.t x hx
theorem AnsV.own.ge {n : Nat} {w : World} {a : AnsV} (h : a.own n w) : ∀ x ∈ a.bl, n ≤ x := fun x hx => by
  rcases List.mem_append.1 hx with hx | hx
  · exact own_new h.r x hx
  · exact own_new h.t x hx
theorem AnsV.own.base {n n' : Nat} {w : World} {a : AnsV} (h : a.own n w) (hn : n' ≤ n) : a.own n' w := ⟨ownsRow_base h.r hn, ownsRow_base h.t hn⟩
theorem AnsV.own.below {n : Nat} {w w' : World} {a : AnsV} (h : a.own n w) (hb : Below w.heap.size w w') : a.own n w' := h.same fun x hx => hb.block x (h.lt x hx)
theorem AnsV.own.mod {n : Nat} {w w' : World} {a : AnsV} {S : List Nat} (h : a.own n w) (hm : Mod S w w') (hn : ∀ x ∈ a.bl, x ∉ S) : a.own n w' := h.same fun x hx => hm.block x (h.lt x hx) (hn x hx)
/-- answers' own rows lie apart from the row of answers -/
theorem AnsV.own.apart {n : Nat} {w : World} {a : AnsV} (h : a.own n w) {base : Nat} {v : Value} {k : Nat} {xs : List Value} (ho : w.ownsRow base 61 3 v k xs) : ∀ x ∈ a.bl, x ∉ v.ownBlock.toList := fun x hx hv => by
  have hv' : v.ownBlock = some x := by simpa using hv
  rcases List.mem_append.1 hx with hx | hx
  · have hx' : a.rows.ownBlock = some x := by simpa using hx
    rcases rows_apart h.r ho (by decide) with h1 | h1
    · rw [h1] at hx'; simp at hx'
    · exact h1 (hx'.trans hv'.symm)
  · have hx' : a.told.ownBlock = some x := by simpa using hx
    rcases rows_apart h.t ho (by decide) with h1 | h1
    · rw [h1] at hx'; simp at hx'
    · exact h1 (hx'.trans hv'.symm)
theorem AnsV.own.isr {n : Nat} {w : World} {a : AnsV} (h : a.own n w) : a.ok w := ⟨(RdR.of_own (cs := RowV.cs) (k := 5) (fun _ => rfl) h.r).isr, (RdR.of_own (cs := RelV.cs) (k := 4) (fun _ => rfl) h.t).isr⟩
/-- a list of acts that may be read beside a core: none of its blocks is the core's -/
structure ActsIn (w : World) (v : Value) (l : List ActV) (F : List Nat) : Prop where
  r : ∃ S, RdR ActV.cs 15 w v l S ∧ ∀ x ∈ S, x ∉ F
  o : ∀ a ∈ l, ActBd7 a ∧ ∃ S, RdR OpV.cs 2 w a.pipe.ops a.pipe.ol S ∧ ∀ x ∈ S, x ∉ F
theorem info61 : (Tryz.prog.info? 61).map (fun i => (i.zero, i.size, i.bytes)) = some (some (.agg #[.int .i64 0, .slice none 0 0, .slice none 0 0]), 3, 56) := by kernel_rfl
theorem CoreIn.apart {w w' : World} {b : Nat} {G : Nat → List Nat} {vs vp : Value} {bb : Nat} {pc : Nat → Option Nat} {c : CoreV} {S : List Nat} (h : CoreIn w b G vs vp bb pc c) (hm : Mod S w w') (hS : ∀ x ∈ S, x ∉ allOf 12 G) : CoreIn w' b G vs vp bb pc c :=
  h.same (fun x hx => hm.block x (h.lt x hx) (fun hh => hS x hh hx)) hm.size
theorem into_all {G1 G2 : Nat → List Nat} {n : Nat} (h : ∀ j, j < 12 → Into (G2 j) (G1 j) n) : Into (allOf 12 G2) (allOf 12 G1) n := fun x hx => by
  obtain ⟨j, hj, hx⟩ := mem_allOf.1 hx
  rcases h j hj x hx with h1 | h1
  · exact .inl (mem_allOf.2 ⟨j, hj, h1⟩)
  · exact .inr h1
theorem into_not {A B : List Nat} {n x : Nat} (h : Into B A n) (hx : x < n) (hn : x ∉ A) : x ∉ B := fun hh => by
  rcases h x hh with h1 | h1
  · exact hn h1
  · omega
/-- an act's answer, its rows apart from the core -/
theorem DoTo.pick {w : World} {b : Nat} {G : Nat → List Nat} {vs vp : Value} {bb : Nat} {c : CoreV} {x : AnsM} {e : Ending} {w' : World} (h : DoTo w b G vs vp bb c x e w') (hG : ∀ y ∈ allOf 12 G, y < w.heap.size) :
    ∃ (a : AnsV) (G' : Nat → List Nat) (pc' : Nat → Option Nat), e = .returned (.agg #[.int .i64 a.err, a.rows, a.told]) ∧ a.m = x ∧ a.own w.heap.size w' ∧ CoreIn w' b G' vs vp bb pc' c ∧ Into (allOf 12 G') (allOf 12 G) w.heap.size ∧ (∀ j, j < 12 → Into (G' j) (G j) w.heap.size) ∧ (∀ y ∈ a.bl, y ∉ allOf 12 G') ∧ Mod (allOf 12 G) w w' := by
  obtain ⟨⟨vr, vt, he, hr, ht⟩, ⟨G', pc', hc, hi⟩, hm, hd⟩ := h
  rcases hd with ⟨h1, h2, h3⟩ | ⟨pc2, hc2⟩
  · rw [h3] at he
    simp only [Ending.returned.injEq, Value.agg.injEq, Array.mk.injEq, List.cons.injEq, true_and, and_true] at he
    obtain ⟨rfl, rfl⟩ := he
    refine ⟨⟨x.err, .slice none 0 0, x.rows, .slice none 0 0, x.told⟩, G', pc', h3, rfl, ⟨hr, ht⟩, hc, into_all hi, hi, by simp [AnsV.bl, Value.ownBlock], hm⟩
  · refine ⟨⟨x.err, vr, x.rows, vt, x.told⟩, G, pc2, he, rfl, ⟨hr, ht⟩, hc2, Into.refl _ _, fun j _ => Into.refl _ _, fun y hy hh => ?_, hm⟩
    have h1 := AnsV.own.ge (a := ⟨x.err, vr, x.rows, vt, x.told⟩) ⟨hr, ht⟩ y hy
    have h2 := hG y hh
    omega
theorem AnsV.own.form {n : Nat} {w : World} {a : AnsV} (h : a.own n w) : ∃ ra rn rc ta tn tc, a.rows = .slice ra rn rc ∧ a.told = .slice ta tn tc := by
  obtain ⟨ra, rn, rc, e1⟩ := own_shape h.r
  obtain ⟨ta, tn, tc, e2⟩ := own_shape h.t
  exact ⟨ra, rn, rc, ta, tn, tc, e1, e2⟩
theorem acts_bd {l : List ActV} {w : World} {F : List Nat} (h : ∀ a ∈ l, ActBd7 a ∧ ∃ S, RdR OpV.cs 2 w a.pipe.ops a.pipe.ol S ∧ ∀ x ∈ S, x ∉ F) : ∀ a ∈ l.map ActV.m, ActR a := fun a ha => by
  obtain ⟨x, hx, rfl⟩ := List.mem_map.1 ha
  have h1 := (h x hx).1
  refine ⟨?_, fun hk => (h1.pipe hk).m⟩
  have := h1.t1
  have := h1.t2
  show x.tenant.toNat ≤ 7
  omega
/-- the blocks of a row after an append -/
theorem app_block {v v' : Value} {n m : Nat} (h : v'.ownBlock = v.ownBlock ∨ v'.ownBlock = some m) {F : List Nat} (h1 : ∀ x ∈ v.ownBlock.toList, x ∉ F) (h2 : m ∉ F) : ∀ x ∈ v'.ownBlock.toList, x ∉ F := fun x hx => by
  rcases h with h | h
  · exact h1 x (by rw [← h]; exact hx)
  · rw [h] at hx
    simp at hx
    subst hx
    exact h2
end Go.Proofs.YtcanfmabkklidaaGreat
set_option linter.unusedSimpArgs false
set_option linter.unusedVariables false
set_option linter.unnecessarySimpa false
namespace Go.Proofs.YtcanfmabkklidaaGreat
open Go.RowKit

/-- what a list of acts leaves -/
structure DosTo (w : World) (b : Nat) (G : Nat → List Nat) (vs vp : Value) (bb : Nat) (c : CoreV) (lm : List ActM) (e : Ending) (w' : World) : Prop where
  e : ∃ (v : Value) (L : List AnsV) (G' : Nat → List Nat) (pc' : Nat → Option Nat), e = .returned v ∧ w'.ownsRow w.heap.size 61 3 v L.length (L.flatMap AnsV.cs) ∧ L.map AnsV.m = (c.acts lm).2 ∧ (∀ a ∈ L, a.own w.heap.size w') ∧
    CoreIn w' b G' vs vp bb pc' (c.acts lm).1 ∧ (∀ j, j < 12 → Into (G' j) (G j) w.heap.size) ∧ (∀ a ∈ L, ∀ x ∈ a.bl, x ∉ allOf 12 G') ∧ (∀ x ∈ v.ownBlock.toList, x ∉ allOf 12 G')
  m : Mod (allOf 12 G) w w'
set_option maxHeartbeats 2000000 in
set_option maxRecDepth 100000 in
theorem dos_in (b : Nat) (G : Nat → List Nat) (vs vp : Value) (bb : Nat) (pc : Nat → Option Nat) (c : CoreV) (N : Nat) (v : Value) (l : List ActV) (hq0 : 0 ≤ c.quota) (hq1 : c.quota ≤ 1000) (w : World) (h : CoreIn w b G vs vp bb pc c) (hv : ActsIn w v l (allOf 12 G)) (ok : CoreOk c N) (hN : N + 6 * l.length ≤ 100000) :
    Calls Tryz.prog 12 #[.pointer (some ⟨b, 0, none⟩), v] w (DosTo w b G vs vp bb c (l.map ActV.m)) := by
  obtain ⟨S, hS, hSF⟩ := hv.r
  have HVO := Lib.hid hv.o
  have HSF := Lib.hid hSF
  have HBDm := Lib.hid (acts_bd hv.o)
  obtain ⟨al, cl, rfl, hl1, hl2, hcase⟩ := hS
  unfold maxLen at hl2
  have HCS := Lib.hid hcase
  have HC0 := Lib.hid h
  have HOK := Lib.hid ok
  have HQ0 := Lib.hid hq0
  have HQ1 := Lib.hid hq1
  have hbl := h.a.lt
  obtain ⟨lm, hlm⟩ : ∃ lm, lm = l.map ActV.m := ⟨_, rfl⟩
  have HLM := Lib.hid hlm
  obtain ⟨i0, hi3, hz0, hz1, hz2⟩ := info_parts info61
  have HI := Lib.hid (And.intro hi3 (And.intro hz0 (And.intro hz1 hz2)))
  rw [← hlm] at HBDm
  rw [← hlm]
  clear hi3 hz0 hz1 hz2 hSF hcase h ok hlm hq0 hq1 hv
  have hl3 : l.length ≤ 100000 := by omega
  go_enter Tryz.func12, Tryz.ntmps12
  go_wp2
  go_loopg [5, 10] l.length (fun g v5 v10 wr => ∃ (i : Nat) (va : Option Addr) (vc : Nat) (L : List AnsV) (G' : Nat → List Nat) (pc' : Nat → Option Nat), i ≤ l.length ∧ g = l.length - i ∧ v5 = .slice va i vc ∧ v10 = .int .i64 i ∧ L.length = i ∧ L.map AnsV.m = (c.acts (lm.take i)).2 ∧
    CoreIn wr b G' vs vp bb pc' (c.acts (lm.take i)).1 ∧ wr.ownsRow w.heap.size 61 3 (.slice va i vc) i (L.flatMap AnsV.cs) ∧ (∀ a ∈ L, a.own w.heap.size wr) ∧ (∀ a ∈ L, ∀ x ∈ a.bl, x ∉ allOf 12 G') ∧ (∀ x ∈ (Value.slice va i vc).ownBlock.toList, x ∉ allOf 12 G') ∧ Mod (allOf 12 G) w wr ∧ (∀ j, j < 12 → Into (G' j) (G j) w.heap.size))
  case atStart => exact ⟨0, none, 0, [], G, pc, by omega, by omega, rfl, rfl, rfl, rfl, HC0.out, World.ownsRow_nil _ _ _ _, by simp, by simp, by simp [Value.ownBlock], Mod.refl _ _, fun _ _ => Into.refl _ _⟩
  case round =>
    obtain ⟨i, va, vc, L, G', pc', hi, rfl, rfl, rfl, hL, hLm, hcr, hor, hao, had, hvd, hmr, hir⟩ := hrel
    have HLr := Lib.hid hL
    have HLM2 := Lib.hid hLm
    have HCR := Lib.hid hcr
    have HOR := Lib.hid hor
    have HAO := Lib.hid hao
    have HAD := Lib.hid had
    have HVD := Lib.hid hvd
    have HMR := Lib.hid hmr
    have HIR := Lib.hid hir
    have hb2 : w.heap.size ≤ wr.heap.size := hmr.size
    clear hL hLm hcr hor hao had hvd hmr hir
    by_cases hlt : i < l.length
    · obtain ⟨a, ha⟩ : ∃ a, l[i]? = some a := ⟨l[i], by simp [hlt]⟩
      rcases HCS.out with ⟨h0, _⟩ | ⟨bl, ol, rfl, rfl, hbl2, hcell⟩
      · rw [h0] at hlt
        simp at hlt
      have hbF : bl ∉ allOf 12 G := HSF.out bl (by simp)
      have HX := Lib.hid (fun (j : Nat) (u : Value) (hj : a.cs[j]? = some u) => (HMR.out.cell (o := ol + i * 15 + j) hbl2 hbF).trans (hcell i a ha j u hj))
      obtain ⟨hbd, So, hop, hSo⟩ := HVO.out a (List.mem_of_getElem? ha)
      have HBD := Lib.hid hbd
      have hlma : lm[i]? = some a.m := by rw [HLM.out]; simp [ha]
      have hlen : lm.length = l.length := by rw [HLM.out]; simp
      have HAT := Lib.hid (acts_take c lm i a.m hlma)
      have hoks := CoreOk.acts (lm.take i) HOK.out HQ0.out HQ1.out (fun x hx => HBDm.out x (List.mem_of_mem_take hx)) (by rw [List.length_take]; omega)
      have htl : (lm.take i).length = i := by rw [List.length_take]; omega
      rw [htl] at hoks
      have HOKS := Lib.hid hoks
      have hopr : RdR OpV.cs 2 (wr.alloc (.cells a.cs.toArray 43)) a.pipe.ops a.pipe.ol So := hop.same (fun x hx => (((HMR.out.new _).block x (hop.lt x hx) (hSo x hx))))
      have HOP := Lib.hid hopr
      obtain ⟨oa, oc, hvo, _⟩ := hop
      clear hcell hbd hlma hoks htl hopr ha
      obtain ⟨ak, at', af, an, ⟨vo, opl, sz, sl, ag, si, fd⟩, am, ti, ky, va', lb⟩ := a
      simp only at hvo
      subst hvo
      have x0 := HX.out 0 _ rfl
      have x1 := HX.out 1 _ rfl
      have x2 := HX.out 2 _ rfl
      have x3 := HX.out 3 _ rfl
      have x4 := HX.out 4 _ rfl
      have x5 := HX.out 5 _ rfl
      have x6 := HX.out 6 _ rfl
      have x7 := HX.out 7 _ rfl
      have x8 := HX.out 8 _ rfl
      have x9 := HX.out 9 _ rfl
      have x10 := HX.out 10 _ rfl
      have x11 := HX.out 11 _ rfl
      have x12 := HX.out 12 _ rfl
      have x13 := HX.out 13 _ rfl
      have x14 := HX.out 14 _ rfl
      simp only [Nat.add_zero] at x0
      have hcra := HCR.out.alloc (.cells #[.int .i64 ak, .int .i64 at', .int .i64 af, .int .i64 an, .slice oa opl.length oc, .int .i64 sz, .int .i64 sl, .int .i64 ag, .int .i64 si, .int .i64 fd, .bool am, .int .i64 ti, .int .i64 ky, .int .i64 va', .int .u64 lb] 43)
      have HDO := Lib.hid (show Calls Tryz.prog 38 #[.pointer (some ⟨b, 0, none⟩), .agg #[.int .i64 ak, .int .i64 at', .int .i64 af, .int .i64 an, .slice oa opl.length oc, .int .i64 sz, .int .i64 sl, .int .i64 ag, .int .i64 si, .int .i64 fd, .bool am, .int .i64 ti, .int .i64 ky, .int .i64 va', .int .u64 lb]] (wr.alloc (.cells #[.int .i64 ak, .int .i64 at', .int .i64 af, .int .i64 an, .slice oa opl.length oc, .int .i64 sz, .int .i64 sl, .int .i64 ag, .int .i64 si, .int .i64 fd, .bool am, .int .i64 ti, .int .i64 ky, .int .i64 va', .int .u64 lb] 43)) _ from do_in b G' vs vp bb pc' _ (N + 6 * i) ⟨ak, at', af, an, ⟨.slice oa opl.length oc, opl, sz, sl, ag, si, fd⟩, am, ti, ky, va', lb⟩ HBD.out (by rw [HOKS.out.2.1]; exact HQ0.out) So _ hcra HOP.out HOKS.out.1 (by omega))
      have HGL := Lib.hid hcra.lt
      have HCRA := Lib.hid hcra
      clear hcra
      go_wp2_with (first
        | (go_at_call 38; (with_reducible refine HDO.out.mono ?_); rintro e w1 hdo; obtain ⟨a1, G2, pc2, rfl, ham, hown, hc1, hi1, hi2, hd1, hm1⟩ := hdo.pick HGL.out; have HAM := Lib.hid ham; have HC1 := Lib.hid hc1; have HI1 := Lib.hid hi1; have HI2 := Lib.hid hi2; have HD1 := Lib.hid hd1; have HM1 := Lib.hid hm1; have HOW1 := Lib.hid hown; have HOR1 := Lib.hid (own_mod (HOR.out.alloc _) hm1 HVD.out); have hs1 := hm1.size; simp at hs1; obtain ⟨ra, rn, rc, ta, tn, tc, e1, e2⟩ := hown.form; obtain ⟨aer, arw, arl, atl, atl2⟩ := a1; simp only at e1 e2; subst e1 e2; clear ham hown hc1 hi1 hi2 hd1 hm1 hdo)
        | (at_builtin; refine wpList_append_own_at _ rfl (.tmp 14) (.tmp 18) 44 rfl w.heap.size 61 i0 _ 3 56 Tryz.underlying44 HI.out.1 HI.out.2.1 HI.out.2.2.1 HI.out.2.2.2 rfl (by decide) (.slice va i vc) i (L.flatMap AnsV.cs) rfl (HOR1.out.alloc _) ⟨w1.heap.size, 0, none⟩ 1 1 [.int .i64 aer, .slice ra rn rc, .slice ta tn tc] rfl rfl (row_cells _ _ _) (by simp [Value.oneCell']) (by unfold maxLen; omega) (by omega) (by simp; omega) ?_; intro v' w5 hown5 hgrow5 _ hat5; have HO5 := Lib.hid hown5; have HG5 := Lib.hid hgrow5; have HT5 := Lib.hid hat5; clear hown5 hgrow5 hat5; obtain ⟨g5, cap5, rfl, _⟩ := own_form HO5.out (by omega)))
      have hcl2 := HC1.out.lt
      have hvlt := own_lt HOR.out
      have hvd2 : ∀ x ∈ (Value.slice va i vc).ownBlock.toList, x ∉ allOf 12 G2 := fun x hx => into_not HI1.out (by have := hvlt x hx; simp; omega) (HVD.out x hx)
      have hm5 := Mod.of_grown HG5.out (Value.slice va i vc).ownBlock.toList (fun k hk => .inl (by simpa using hk))
      have hown5 : ∀ (n : Nat) (a : AnsV), a.own n w1 → a.own n w5 := fun n a ha => ((ha.below (bel_alloc (Below.refl _ _) _))).mod hm5 (fun x hx => ha.apart HOR1.out x hx)
      go_roundg (l.length - (i + 1))
      case measure => omega
      case rel =>
        refine ⟨i + 1, _, cap5, L ++ [⟨aer, .slice ra rn rc, arl, .slice ta tn tc, atl2⟩], G2, pc2, by omega, rfl, rfl, by go_num, by simp [HLr.out], ?_, ?_, ?_, ?_, ?_, ?_, ?_, fun j hj => (HIR.out j hj).trans (HI2.out j hj) (by simp; omega)⟩
        · rw [HAT.out, List.map_append, HLM2.out]
          exact congrArg (fun z => _ ++ [z]) HAM.out
        · rw [HAT.out]
          exact (HC1.out.alloc _).apart hm5 hvd2
        · rw [List.flatMap_append]
          exact HO5.out
        · intro a ha
          rcases List.mem_append.1 ha with ha | ha
          · exact hown5 _ a (((HAO.out a ha).below (bel_alloc (Below.refl _ _) _)).mod HM1.out (HAD.out a ha))
          · obtain rfl := List.mem_singleton.1 ha
            exact (hown5 _ _ HOW1.out).base (by simp; omega)
        · intro a ha
          rcases List.mem_append.1 ha with ha | ha
          · exact fun x hx => into_not HI1.out (by have := (HAO.out a ha).lt x hx; simp; omega) (HAD.out a ha x hx)
          · obtain rfl := List.mem_singleton.1 ha
            exact HD1.out
        · exact app_block (n := 0) HT5.out hvd2 (fun hh => by have := hcl2 _ hh; simp at this; omega)
        · exact (((HMR.out.new _).trans HM1.out (into_all HIR.out)).new _).grow HG5.out (fun x hx => .inr (own_new HOR.out x (by simpa using hx)))
    · obtain rfl : i = l.length := by omega
      have hlen : lm.length = l.length := by rw [HLM.out]; simp
      have e0 : lm.take l.length = lm := List.take_of_length_le (by omega)
      rw [e0] at HCR HLM2
      go_wp2
      go_ret
      exact ⟨⟨_, L, G', pc', rfl, by rw [HLr.out]; exact HOR.out, HLM2.out, HAO.out, HCR.out, HIR.out, HAD.out, HVD.out⟩, HMR.out⟩
/-- the same, of a core whose blocks are told as one list -/
structure DosAt (w : World) (b : Nat) (S : List Nat) (c : CoreV) (lm : List ActM) (e : Ending) (w' : World) : Prop where
  e : ∃ (v : Value) (L : List AnsV) (S' : List Nat), e = .returned v ∧ w'.ownsRow w.heap.size 61 3 v L.length (L.flatMap AnsV.cs) ∧ L.map AnsV.m = (c.acts lm).2 ∧ (∀ a ∈ L, a.own w.heap.size w') ∧
    CoreAt w' b S' (c.acts lm).1 ∧ Into S' S w.heap.size ∧ (∀ a ∈ L, ∀ x ∈ a.bl, x ∉ S') ∧ (∀ x ∈ v.ownBlock.toList, x ∉ S')
  m : Mod S w w'
theorem dos_at (b : Nat) (S : List Nat) (c : CoreV) (N : Nat) (v : Value) (l : List ActV) (hq0 : 0 ≤ c.quota) (hq1 : c.quota ≤ 1000) (w : World) (h : CoreAt w b S c) (hv : ActsIn w v l S) (ok : CoreOk c N) (hN : N + 6 * l.length ≤ 100000) :
    Calls Tryz.prog 12 #[.pointer (some ⟨b, 0, none⟩), v] w (DosAt w b S c (l.map ActV.m)) := by
  obtain ⟨G, vs, vp, bb, pc, rfl, h⟩ := h
  refine (dos_in b G vs vp bb pc c N v l hq0 hq1 w h hv ok hN).mono ?_
  rintro e w' ⟨⟨v', L, G', pc', he, h1, h2, h3, h4, h5, h6, h7⟩, hm⟩
  exact ⟨⟨v', L, allOf 12 G', he, h1, h2, h3, ⟨G', vs, vp, bb, pc', rfl, h4⟩, into_all h5, h6, h7⟩, hm⟩
theorem CoreAt.lt {w : World} {b : Nat} {S : List Nat} {c : CoreV} (h : CoreAt w b S c) : ∀ x ∈ S, x < w.heap.size := by
  obtain ⟨G, vs, vp, bb, pc, rfl, h⟩ := h
  exact h.lt
theorem CoreAt.apart {w w' : World} {b : Nat} {S T : List Nat} {c : CoreV} (h : CoreAt w b S c) (hm : Mod T w w') (hT : ∀ x ∈ T, x ∉ S) : CoreAt w' b S c := by
  obtain ⟨G, vs, vp, bb, pc, rfl, h⟩ := h
  exact ⟨G, vs, vp, bb, pc, rfl, h.apart hm hT⟩
theorem CoreAt.below {w w' : World} {b : Nat} {S : List Nat} {c : CoreV} (h : CoreAt w b S c) (hb : Below w.heap.size w w') : CoreAt w' b S c := h.apart (Mod.of_below hb []) (by simp)
end Go.Proofs.YtcanfmabkklidaaGreat
