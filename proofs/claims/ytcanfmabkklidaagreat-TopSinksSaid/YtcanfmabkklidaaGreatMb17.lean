/- Open windows: closing. -/
import Derived.Test.YtcanfmabkklidaaGreatMb15
import Derived.Test.YtcanfmabkklidaaGreatMb13
import Derived.Test.YtcanfmabkklidaaGreatMb16
set_option linter.unusedSimpArgs false
set_option linter.unusedVariables false
set_option linter.unnecessarySimpa false
namespace Go.Proofs.YtcanfmabkklidaaGreat
open Go.RowKit

theorem run_lookupP (W : World) (ρ : Operand → Value) (d : Option Tmp) (m k : Operand) {t : TypeId} {ps : String} {af : Array Edge} {g : Option (Nat × Bool)} (b : Nat) (l : PaneL) (key : Int × Int) (h : MapAt W b l) (hm : ρ m = .map (some b)) (hk : ρ k = keyV key) :
    (execOp ρ { dst := d, op := .lookup 158 m k false, type := t, pos := ps, after := af, guard := g }).run Tryz.prog W = .ok (.value ((pGet l key).getD ⟨0, 0, 0, 0⟩).val) W := by
  simp [execOp, hm, hk, run_lookup b l key W h, Result.andThen]
set_option maxRecDepth 100000 in
set_option maxHeartbeats 2000000 in
theorem row_any (s d k : Int) (b m : Nat) (l : PaneL) (k1 k2 : Int) (w : World) (h : At w b (panCs s d k m)) (hm : MapAt w m l) :
    Calls Tryz.prog 96 #[.pointer (some ⟨b, 0, none⟩), .agg #[.int .i64 k1, .int .i64 k2]] w fun e w' => e = .returned (rowOf (k1, k2) ((pGet l (k1, k2)).getD ⟨0, 0, 0, 0⟩)).val ∧ Below w.heap.size w w' := by
  obtain ⟨x, hx⟩ : ∃ x, x = (pGet l (k1, k2)).getD ⟨0, 0, 0, 0⟩ := ⟨_, rfl⟩
  rw [← hx]
  have HX := Lib.hid hx
  obtain ⟨x1, x2, x3, x4⟩ := x
  have hlt := h.lt
  obtain ⟨w1, hw1⟩ : ∃ w1, w1 = ((w.alloc (.cells #[.int .i64 k1, .int .i64 k2] 189)).alloc (.cells #[.int .i64 0, .int .i64 0, .int .i64 0, .int .i64 0, .int .u64 0] 64)) := ⟨_, rfl⟩
  have H1 := Lib.hid hw1
  have A1 := (h.alloc (.cells #[.int .i64 k1, .int .i64 k2] 189)).alloc (.cells #[.int .i64 0, .int .i64 0, .int .i64 0, .int .i64 0, .int .u64 0] 64)
  have M1 := (hm.alloc (.cells #[.int .i64 k1, .int .i64 k2] 189)).alloc (.cells #[.int .i64 0, .int .i64 0, .int .i64 0, .int .i64 0, .int .u64 0] 64)
  have B1 := (((Below.refl _ w).alloc (Nat.le_refl _) (.cells #[.int .i64 k1, .int .i64 k2] 189)).alloc (by simp) (.cells #[.int .i64 0, .int .i64 0, .int .i64 0, .int .i64 0, .int .u64 0] 64))
  have P1 := (At.new w #[.int .i64 k1, .int .i64 k2] 189).alloc (.cells #[.int .i64 0, .int .i64 0, .int .i64 0, .int .i64 0, .int .u64 0] 64)
  have R1 := At.newAt (w := w.alloc (.cells #[.int .i64 k1, .int .i64 k2] 189)) (b := w.heap.size + 1) (by simp) #[.int .i64 0, .int .i64 0, .int .i64 0, .int .i64 0, .int .u64 0] 64
  have hs1 : w1.heap.size = w.heap.size + 2 := by rw [hw1]; simp
  rw [← hw1] at A1 M1 P1 R1 B1
  have HA := Lib.hid A1
  have HM := Lib.hid M1
  have HP := Lib.hid P1
  have HR := Lib.hid R1
  have HB := Lib.hid B1
  have HCl := Lib.hid (show Cl [(b, 3, .map (some m)), (w.heap.size, 0, .int .i64 k1), (w.heap.size, 1, .int .i64 k2)] w1 from Cl.cons (A1.c 3 _ rfl) (Cl.cons (P1.c 0 _ rfl) (Cl.cons (P1.c 1 _ rfl) (Cl.nil _))))
  clear hx h hm hw1 A1 M1 P1 R1 B1
  go_enter Tryz.func96, Tryz.ntmps96
  go_wp2
  rw [← H1.out]
  refine wp_region_pl (fun y => Cl [(b, 3, .map (some m)), (w.heap.size, 0, .int .i64 k1), (w.heap.size, 1, .int .i64 k2)] y ∧ MapAt y m l) (.take 0 <| .take 1 <| .take 2 <| .take 3 <| .take 4 <| .take 5 <| .doo 6 <| .doo 7 <| .done) ?plA (by kernel_rfl) (by kernel_rfl) (by kernel_rfl) ?plB (by intro c a d v w; cases d <;> exact fun h => h) ?plC ?_
  case plB =>
    simp only [Pl.with, List.getElem?_toArray, List.getElem?_cons_zero, List.getElem?_cons_succ]
    try rfl
  case plC => exact ⟨HCl.out.drew, HM.out.drew⟩
  have q0 : ∀ x, ((fun y => Cl [(b, 3, .map (some m)), (w.heap.size, 0, .int .i64 k1), (w.heap.size, 1, .int .i64 k2)] y ∧ MapAt y m l)) x → x.cell? ⟨b, 3, none⟩ = some (.map (some m)) := fun x h => h.1.at _ _ _ (by simp)
  have q1 : ∀ x, ((fun y => Cl [(b, 3, .map (some m)), (w.heap.size, 0, .int .i64 k1), (w.heap.size, 1, .int .i64 k2)] y ∧ MapAt y m l)) x → x.cell? ⟨w.heap.size, 0, none⟩ = some (.int .i64 k1) := fun x h => h.1.at _ _ _ (by simp)
  have q2 : ∀ x, ((fun y => Cl [(b, 3, .map (some m)), (w.heap.size, 0, .int .i64 k1), (w.heap.size, 1, .int .i64 k2)] y ∧ MapAt y m l)) x → x.cell? ⟨w.heap.size, 1, none⟩ = some (.int .i64 k2) := fun x h => h.1.at _ _ _ (by simp)
  iterate 5 (refine wpPl_take (v := ?_) (by rfl) (fun w' hS => ?_) ?_; rotate_left; (focus (go_simp; with_reducible rfl)); simp only [Act.put, List.setIfInBounds_toArray, List.set_cons_zero, List.set_cons_succ])
  refine wpPl_take (v := (⟨x1, x2, x3, x4⟩ : PotV).val) (by rfl) (fun w' hS => ?_) ?_
  · refine (run_lookupP w' _ _ _ _ m l (k1, k2) hS.2 rfl rfl).trans ?_
    rw [HX.out]
  simp only [Act.put, List.setIfInBounds_toArray, List.set_cons_zero, List.set_cons_succ]
  refine wpPl_do (by rfl) (fun K hK => ?_)
  go_wp2_with fail
  refine ⟨⟨Cl.alloc HCl.out.drew _, HM.out.drew.alloc _⟩, ?_⟩
  refine wpPl_do (by rfl) (fun K hK => ?_)
  go_wp2_with fail
  refine ⟨⟨Cl.alloc HCl.out.drew _, HM.out.drew.alloc _⟩, ?_⟩
  refine wpPl_done ?_
  clear q0 q1 q2
  have c1 := HP.out.c 0 _ rfl
  have c2 := HP.out.c 1 _ rfl
  have r0 := HR.out.c 0 _ rfl
  have r1 := HR.out.c 1 _ rfl
  have r2 := HR.out.c 2 _ rfl
  have r3 := HR.out.c 3 _ rfl
  have r4 := HR.out.c 4 _ rfl
  have f0 := HR.out.f 0
  have f1 := HR.out.f 1
  have f2 := HR.out.f 2
  have f3 := HR.out.f 3
  have f4 := HR.out.f 4
  go_wp2
  refine bodyPost_ret (v := (rowOf (k1, k2) ⟨x1, x2, x3, x4⟩).val) (by simp [results, Tryz.results96, go_sem, rowOf, r0, r1, r2, r3, r4, hs1]) rfl ?_
  refine ⟨rfl, ?_⟩
  refine bel_draw (bel_alloc ?_ _)
  exact bel_set (bel_set (bel_set (bel_set (bel_set HB.out (by omega) _) (by omega) _) (by omega) _) (by omega) _) (by omega) _
/-- what of the windows a piece of the places leaves -/
theorem closeL_cons (size mark : Int) (k : Int × Int) (ks : List (Int × Int)) (l : PaneL) : closeL size mark (k :: ks) l = if mark < wrap64 (k.1 + size) then closeL size mark ks l else (rowOf k ((pGet l k).getD ⟨0, 0, 0, 0⟩) :: (closeL size mark ks (pDel l k)).1, (closeL size mark ks (pDel l k)).2) := by
  rw [closeL]
theorem own_mod {w w' : World} {base : Nat} {e : TypeId} {size : Nat} {v : Value} {n : Nat} {xs : List Value} {S : List Nat} (h : w.ownsRow base e size v n xs) (hm : Mod S w w') (hS : ∀ x ∈ v.ownBlock.toList, x ∉ S) : w'.ownsRow base e size v n xs :=
  own_of_block h (hm.same (own_lt h) hS)
structure CloW (b m q base : Nat) (s d kd k1 k2 : Int) (v : Value) (out : List RowV) (lk : PaneL) (w1 W : World) : Prop where
  a : At W b (panCs s d kd m)
  mp : MapAt W m lk
  o : W.ownsRow base 64 5 v out.length (out.flatMap RowV.cs)
  e : Mod [m] w1 W
  q : At W q [.int .i64 k1, .int .i64 k2]
theorem CloW.below {b m q base : Nat} {s d kd k1 k2 : Int} {v : Value} {out : List RowV} {lk : PaneL} {w1 W W' : World} (h : CloW b m q base s d kd k1 k2 v out lk w1 W) (hb : Below W.heap.size W W') : CloW b m q base s d kd k1 k2 v out lk w1 W' :=
  ⟨h.a.below hb, h.mp.below hb, own_mod h.o (Mod.of_below hb []) (by simp), h.e.bel hb, h.q.below hb⟩
theorem CloW.drew {b m q base : Nat} {s d kd k1 k2 : Int} {v : Value} {out : List RowV} {lk : PaneL} {w1 W : World} (h : CloW b m q base s d kd k1 k2 v out lk w1 W) : CloW b m q base s d kd k1 k2 v out lk w1 W.drew :=
  h.below (bel_draw (Below.refl _ _))
theorem CloW.alloc {b m q base : Nat} {s d kd k1 k2 : Int} {v : Value} {out : List RowV} {lk : PaneL} {w1 W : World} (h : CloW b m q base s d kd k1 k2 v out lk w1 W) (o : Obj) : CloW b m q base s d kd k1 k2 v out lk w1 (W.alloc o) :=
  h.below (bel_alloc (Below.refl _ _) o)
set_option maxRecDepth 100000 in
set_option maxHeartbeats 4000000 in
theorem close_any (s d kd : Int) (b m : Nat) (l : PaneL) (mark : Int) (w : World) (h : At w b (panCs s d kd m)) (hm : MapAt w m l) (hl : l.length ≤ 1000000) :
    Calls Tryz.prog 66 #[.pointer (some ⟨b, 0, none⟩), .int .i64 mark] w fun e w' => ∃ v, e = .returned v ∧ w'.ownsRow w.heap.size 64 5 v (closeL s mark (placesL l) l).1.length ((closeL s mark (placesL l) l).1.flatMap RowV.cs) ∧ MapAt w' m (closeL s mark (placesL l) l).2 ∧ Mod [m] w w' := by
  have hne := At.nomap (x := .int .i64 s) (xs := [.int .i64 d, .int .i64 kd, .map (some m)]) h hm
  have hbl := h.lt
  have hml := hm.lt
  obtain ⟨i0, hi3, hz0, hz1, hz2⟩ := info_parts info64
  have HI := Lib.hid (And.intro hi3 (And.intro hz0 (And.intro hz1 hz2)))
  have HA := Lib.hid h
  have HM := Lib.hid hm
  have HL := Lib.hid hl
  obtain ⟨ks, hks⟩ : ∃ ks, ks = placesL l := ⟨_, rfl⟩
  rw [← hks]
  have hkl : ks.length ≤ 1000000 := by rw [hks]; unfold placesL; rw [List.length_mergeSort, List.length_map]; exact hl
  have HK := Lib.hid hks
  obtain ⟨R, hR⟩ : ∃ R, R = closeL s mark ks l := ⟨_, rfl⟩
  rw [← hR]
  have HR := Lib.hid hR
  clear h hm hl hks hR hi3 hz0 hz1 hz2
  go_enter Tryz.func66, Tryz.ntmps66
  go_wp2_with (go_at_call 95; (with_reducible refine (places_any s d kd b m l _ HA.out HM.out HL.out).mono ?_); rintro e w1 ⟨v1, rfl, ho1, hb1⟩; rw [← HK.out] at ho1; obtain ⟨pa, pc, rfl⟩ := own_shape2 ho1; have HO1 := Lib.hid ho1; have HB1 := Lib.hid hb1; clear ho1 hb1)
  have A1 := Lib.hid (HA.out.below HB1.out)
  have M1 := Lib.hid (HM.out.below HB1.out)
  have hs1 := HB1.out.size
  go_loopg [5, 11] ks.length (fun n v5 v11 wr => ∃ (k : Nat) (out : List RowV) (lk : PaneL), k ≤ ks.length ∧ n = ks.length - k ∧ v11 = .int .i64 k ∧ out.length ≤ k ∧ wr.ownsRow w1.heap.size 64 5 v5 out.length (out.flatMap RowV.cs) ∧ MapAt wr m lk ∧ Mod [m] w1 wr ∧
    R = (out ++ (closeL s mark (ks.drop k) lk).1, (closeL s mark (ks.drop k) lk).2))
  case atStart => exact ⟨0, [], l, by omega, by omega, rfl, by simp, ⟨rfl, .inl ⟨rfl, rfl⟩⟩, M1.out, Mod.refl _ _, by simpa using HR.out⟩
  case round =>
    obtain ⟨k, out, lk, hk, rfl, rfl, hok, ho, hm, hmd, hRk⟩ := hrel
    obtain ⟨pa5, pc5, rfl⟩ := own_shape2 ho
    have HOk := Lib.hid ho
    have HMk := Lib.hid hm
    have HDk := Lib.hid hmd
    have HRk := Lib.hid hRk
    have hsr := hmd.size
    by_cases hlt : k < ks.length
    · obtain ⟨⟨k1, k2⟩, hs⟩ : ∃ s, ks[k]? = some s := ⟨ks[k], by simp [hlt]⟩
      have HSk := Lib.hid hs
      obtain ⟨gs, cap, hv, hgb, hgl2, _, _, hc⟩ := own_form HO1.out (by omega)
      simp only [Value.slice.injEq] at hv
      obtain ⟨rfl, _, rfl⟩ := hv
      have hgs : gs ≠ m := by omega
      have cs0 : wr.cell? ⟨gs, k * 2, none⟩ = some (.int .i64 k1) := (hmd.cell hgl2 (by simpa using hgs)).trans (hc (k * 2) _ (by rw [flat_at keycs_len (by decide), show k * 2 / 2 = k by omega, show k * 2 % 2 = 0 by omega, hs]; rfl))
      have cs1 : wr.cell? ⟨gs, k * 2 + 1, none⟩ = some (.int .i64 k2) := (hmd.cell hgl2 (by simpa using hgs)).trans (hc (k * 2 + 1) _ (by rw [flat_at keycs_len (by decide), show (k * 2 + 1) / 2 = k by omega, show (k * 2 + 1) % 2 = 1 by omega, hs]; rfl))
      have A2 := A1.out.mod hmd (by simpa using hne)
      have b0 := A2.c 0 _ rfl
      have hl3 := A2.lt
      have HA2 := Lib.hid A2
      clear A2 ho hm hmd hRk hs hc
      have F0 : CloW b m wr.heap.size w1.heap.size s d kd k1 k2 (.slice pa5 out.length pc5) out lk w1 (wr.alloc (.cells #[.int .i64 k1, .int .i64 k2] 189)) := ⟨HA2.out.alloc _, HMk.out.alloc _, own_mod HOk.out (Mod.alloc [] _ _) (by simp), HDk.out.new _, At.new _ _ _⟩
      have HF0 := Lib.hid F0
      clear F0
      go_wp2
      clear b0 cs0 cs1
      refine wp_region_tl 8 (fun W => CloW b m wr.heap.size w1.heap.size s d kd k1 k2 (.slice pa5 out.length pc5) out lk w1 W) HF0.out.drew (by kernel_rfl) (by kernel_rfl) ?_
      intro W F
      have HF := Lib.hid F
      have b0 := F.a.c 0 _ rfl
      have z0 := F.q.c 0 _ rfl
      have z1 := F.q.c 1 _ rfl
      have l1 := F.q.lt
      have l2 := F.a.lt
      clear F
      simp only [List.take_succ_cons, List.take_zero, List.drop_succ_cons, List.drop_zero]
      repeat still_step
      refine wpStill_nil ?_
      have eR := HRk.out
      rw [List.drop_eq_getElem_cons hlt, (List.getElem?_eq_some_iff.1 HSk.out).2, closeL_cons] at eR
      have HE := Lib.hid eR
      clear eR
      by_cases hd : mark < wrap64 (k1 + s)
      · go_wp2
        go_roundg (ks.length - (k + 1))
        case measure => omega
        case rel =>
          have e := HE.out
          rw [if_pos hd] at e
          refine ⟨k + 1, out, lk, by omega, rfl, by go_num, by omega, HF.out.o, HF.out.mp, HF.out.e, e⟩
      · obtain ⟨rr, hrr⟩ : ∃ rr, rr = rowOf (k1, k2) ((pGet lk (k1, k2)).getD ⟨0, 0, 0, 0⟩) := ⟨_, rfl⟩
        have HC := Lib.hid (row_any s d kd b m lk k1 k2 _ HF.out.a HF.out.mp)
        rw [← hrr] at HC
        have HRR := Lib.hid hrr
        obtain ⟨r1, r2, r3, r4, r5⟩ := rr
        clear hrr
        go_wp2_with (first
          | (go_at_call 96; (with_reducible refine HC.out.mono ?_); rintro e w4 ⟨rfl, hb4⟩; have HF4 := Lib.hid (HF.out.below hb4); clear hb4)
          | (at_builtin; refine wpList_append_own _ rfl (.tmp 24) (.tmp 28) 59 rfl w1.heap.size 64 i0 _ 5 40 Tryz.underlying59 HI.out.1 HI.out.2.1 HI.out.2.2.1 HI.out.2.2.2 rfl (by decide) (.slice pa5 out.length pc5) out.length (out.flatMap RowV.cs) rfl (HF4.out.o.alloc _) ⟨w4.heap.size, 0, none⟩ 1 1 [.int .i64 r1, .int .i64 r2, .int .i64 r3, .int .i64 r4, .int .u64 r5] rfl rfl (row_cells _ _ _) (by simp [Value.oneCell']) (by unfold maxLen; omega) (by omega) (by have := HF4.out.e.size; simp; omega) ?_; intro v' w5 hown5 hgrow5 _; have HO5 := Lib.hid hown5; have HG5 := Lib.hid hgrow5; clear hown5 hgrow5))
        have hbase : ∀ x ∈ (Value.slice pa5 out.length pc5).ownBlock.toList, w1.heap.size ≤ x := own_new HOk.out
        have hbase2 : ∀ x ∈ (Value.slice pa5 out.length pc5).ownBlock.toList, x < wr.heap.size := own_lt HOk.out
        have hbw1 := A1.out.lt
        have hmw1 := M1.out.lt
        have M5 := Mod.of_grown HG5.out (Value.slice pa5 out.length pc5).ownBlock.toList (fun x hx => .inl (by simp [hx]))
        have F5 : CloW b m wr.heap.size w1.heap.size s d kd k1 k2 v' (out ++ [⟨r1, r2, r3, r4, r5⟩]) lk w1 w5 := by
          have G := HF4.out.alloc (.cells #[.int .i64 r1, .int .i64 r2, .int .i64 r3, .int .i64 r4, .int .u64 r5] 64)
          refine ⟨G.a.mod M5 (fun h => by have := hbase _ h; omega), G.mp.mod M5 (fun h => by have := hbase _ h; omega), by simpa [RowV.cs] using HO5.out, G.e.trans M5 (Into.new hbase _), G.q.mod M5 (fun h => by have := hbase2 _ h; omega)⟩
        have HF5 := Lib.hid F5
        clear F5 M5 b0 z0 z1
        refine wp_region_tl 5 (fun W => CloW b m wr.heap.size w1.heap.size s d kd k1 k2 v' (out ++ [⟨r1, r2, r3, r4, r5⟩]) lk w1 W) HF5.out.drew (by kernel_rfl) (by kernel_rfl) ?_
        intro W2 F
        have HF6 := Lib.hid F
        have b0 := F.a.c 3 _ rfl
        have z0 := F.q.c 0 _ rfl
        have z1 := F.q.c 1 _ rfl
        have l1 := F.q.lt
        have l2 := F.a.lt
        clear F
        simp only [List.take_succ_cons, List.take_zero, List.drop_succ_cons, List.drop_zero]
        repeat still_step
        refine wpStill_nil ?_
        refine wpList_del rfl (.tmp 33) (.tmp 34) rfl m lk (k1, k2) HF6.out.mp rfl rfl ?_
        intro w7 hm7 hmd7
        have HM7 := Lib.hid hm7
        have HD7 := Lib.hid hmd7
        clear hm7 hmd7 b0 z0 z1
        go_wp2
        go_roundg (ks.length - (k + 1))
        case measure => omega
        case rel =>
          have e := HE.out
          rw [if_neg (by omega), ← HRR.out] at e
          refine ⟨k + 1, out ++ [⟨r1, r2, r3, r4, r5⟩], pDel lk (k1, k2), by omega, rfl, by go_num, by simp; omega, own_mod HF6.out.o HD7.out (fun x hx => ?_), HM7.out, HF6.out.e.trans HD7.out (Into.refl _ _), by simpa using e⟩
          have := own_new HF6.out.o x hx
          simp
          omega
    · obtain rfl : k = ks.length := by omega
      clear ho hm hmd hRk
      go_wp2
      go_ret
      have e := HRk.out
      simp only [List.drop_length, closeL, List.append_nil] at e
      rw [e]
      refine ⟨_, rfl, ownsRow_base HOk.out hs1, HMk.out, (Mod.of_below HB1.out [m]).trans HDk.out (Into.refl _ _)⟩
end Go.Proofs.YtcanfmabkklidaaGreat
