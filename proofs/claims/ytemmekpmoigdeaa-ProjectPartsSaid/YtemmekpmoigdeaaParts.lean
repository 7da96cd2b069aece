/- ProjectParts: projections of parts, put together, are the whole's; projected twice it is as once; of a tenant that did nothing only ticks are left. -/
import Derived.Test.YtemmekpmoigdeaaRow
set_option linter.unusedSimpArgs false
set_option linter.unusedVariables false
set_option linter.unnecessarySimpa false
namespace Go.Proofs.Ytemmekpmoigdeaa
open Go.ChangeShapes Go.WideShapes Go.RowKit

set_option maxRecDepth 100000 in
set_option maxHeartbeats 8000000 in
theorem parts_law (W : World) (a0 : Option Addr) (len0 cap0 : Nat) (h0 : Rd Try.prog W 43 [.slice a0 len0 cap0]) (tenant : Int) (wt : (Lit.int .i64 tenant).wf = true) (cut : Int) (wc : (Lit.int .i64 cut).wf = true) :
    Calls Try.prog 7 #[.slice a0 len0 cap0, .int .i64 tenant, .int .i64 cut] W fun e w' => e = .returned (.bool true) ∧ Below W.heap.size W w' := by
  clear wt wc
  obtain ⟨l, hl, hil, hok⟩ := kacts_of h0
  have HA := Lib.hid (acts_any W _ l hil hok)
  clear h0 hil hok
  have bt := within_bd tenant 0 3 (by omega)
  obtain ⟨t, ht⟩ : ∃ t, within tenant 0 3 = t := ⟨_, rfl⟩
  rw [ht] at bt
  have HT := Lib.hid ht
  clear ht
  go_enter Try.func7, Try.ntmps7
  go_upto_region 3 with (first
    | (go_at_call 14; (with_reducible refine HA.out.mono ?_); rintro e w1 ⟨v, R, rfl, hr, hrl, hrx, hb⟩; obtain ⟨va, vl, vc, rfl⟩ := own_shape hr; have HR0 := Lib.hid (show IsR ActV.cs 15 w1 (.slice va vl vc) R from IsR.of_ownA hr); have HROK := Lib.hid (fun x hx => (hrx x hx).2.ok); have HRT := Lib.hid (fun x hx => (hrx x hx).1.t2); have HB1 := Lib.hid hb; obtain rfl := (show R.length = vl from by obtain ⟨_, _, hv, _⟩ := IsR.of_ownA hr; simp only [Value.slice.injEq] at hv; exact hv.2.1.symm); have hm40 := (by omega : R.length ≤ 40); have hvc := (show R.length ≤ vc from by obtain ⟨_, _, hv, h, _⟩ := IsR.of_ownA hr; simp only [Value.slice.injEq] at hv; omega); clear hr hrl hrx hb)
    | (go_at_call 12; (with_reducible refine (within_any _ _ _ _ (by omega) (by omega) (by omega)).mono ?_); rintro e w2 ⟨rfl, rfl⟩; rw [HT.out]))
  have bc := within_bd cut 0 R.length (by omega)
  obtain ⟨c, hc⟩ : ∃ c : Nat, within cut 0 R.length = (c : Int) := ⟨(within cut 0 R.length).toNat, by omega⟩
  rw [hc] at bc
  have HC := Lib.hid hc
  have hcm : c ≤ R.length := by omega
  clear hc bc
  go_wp2_with (first
    | (go_at_call 12; (with_reducible refine (within_any _ _ _ _ (by omega) (by omega) (by omega)).mono ?_); rintro e w3 ⟨rfl, rfl⟩; rw [HC.out])
    | (go_at_call 8; (with_reducible refine (of_any t _ R _ HR0.out HROK.out (by omega)).mono ?_); rintro e w4 ⟨r1, rfl, ho, hb⟩; have HO := Lib.hid (show IsR ActV.cs 15 w4 r1 (ofA t R) from IsR.of_ownA ho); have HB4 := Lib.hid hb; clear ho hb))
  have HBW := Lib.hid (below_step HB1.out HB4.out)
  have HR4 := Lib.hid (HR0.out.kept HB4.out)
  have HK4 := Lib.hid (fun (x : ActV) (hx : x ∈ R) => (HROK.out x hx).kept HB4.out)
  clear HR0 HROK HB1 HB4
  obtain ⟨OL, hOL⟩ : ∃ OL, ofA t R = OL := ⟨_, rfl⟩
  have HTD := Lib.hid ((ofA_take_drop t R c).trans hOL)
  have HID := Lib.hid (show ofA t OL = OL by rw [← hOL]; exact ofA_idem t R)
  have HTK := Lib.hid (show ticksA OL = ticksA R by rw [← hOL]; exact ticks_of t R)
  have HOO := Lib.hid hOL
  have hOl : OL.length ≤ 40 := by
    have h1 : (ofA t R).length ≤ R.length := List.length_filter_le _ _
    rw [hOL] at h1
    omega
  have HKO := Lib.hid (fun (x : ActV) (hx : x ∈ OL) => HK4.out x (by rw [← hOL] at hx; exact (List.mem_filter.1 hx).1))
  have HOC := HO.out
  rw [hOL] at HOC
  clear HO hOL
  have HIO := Lib.hid HOC
  obtain ⟨oa, oc, rfl, ho1, ho2, ob, oo, ho3, ho4⟩ := HOC
  have HO3 := Lib.hid ho3
  have HO4 := Lib.hid ho4
  unfold maxLen at ho2
  clear ho3 ho4
  have HDR := Lib.hid (HR4.out.drop hcm)
  have HTA := Lib.hid (HR4.out.take hcm)
  obtain ⟨dv, hdv⟩ : ∃ dv, dv = Value.slice (if vc = c then va else va.map (fun q => q.add (c * 15))) (R.length - c) (vc - c) := ⟨_, rfl⟩
  rw [← hdv] at HDR
  have HDV := Lib.hid hdv
  clear hdv
  refine wp_region_pl (fun _ => True) (.take 1 <| .take 2 <| .take 3 <| .take 4 <| .take 7 <| .take 8 <| .take 9 <| .take 10 <| .two 0 5 <| .doo 6 <| .doo 11 <| .doo 12 <| .take 13 <| .done) ?plL5 (by kernel_rfl) (by kernel_rfl) (by kernel_rfl) ?plH5 (by intro c a d v w; cases d <;> exact fun h => h) trivial ?_
  case plH5 =>
    simp only [Pl.with, List.getElem?_toArray, List.getElem?_cons_zero, List.getElem?_cons_succ]
    try rfl
  iterate 3 (refine wpPl_take (v := ?_) (by rfl) (fun w' hS => ?_) ?_; rotate_left; (focus (go_simp; with_reducible rfl)); simp only [Act.put, List.setIfInBounds_toArray, List.set_cons_zero, List.set_cons_succ])
  refine wpPl_take (v := .slice va c vc) (by rfl) (fun w' hS => slice32hi w' _ _ _ _ _ _ _ c rfl rfl (by omega)) ?_
  simp only [Act.put, List.setIfInBounds_toArray, List.set_cons_zero, List.set_cons_succ]
  iterate 3 (refine wpPl_take (v := ?_) (by rfl) (fun w' hS => ?_) ?_; rotate_left; (focus (go_simp; with_reducible rfl)); simp only [Act.put, List.setIfInBounds_toArray, List.set_cons_zero, List.set_cons_succ])
  refine wpPl_take (v := dv) (by rfl) (fun w' hS => by rw [HDV.out]; exact slice32lo w' _ _ _ _ _ _ _ c rfl rfl (by omega) (by omega)) ?_
  simp only [Act.put, List.setIfInBounds_toArray, List.set_cons_zero, List.set_cons_succ]
  refine wpPl_two (fun u v y => y.ownsRow w4.heap.size 31 15 u 0 (cellsA []) ∧ IsR ActV.cs 15 y v (ofA t (R.take c)) ∧ Below w4.heap.size w4 y) (by rfl) (by rfl) (by rintro d ⟨⟩; decide) (fun K hK => ?_) (fun K hK => ?_) ?_
  · go_wp2_with fail
    (try refine ⟨trivial, ?_⟩)
    refine wpOne_do (by rfl) (fun K hK => ?_)
    go_wp2_with (go_at_call 8; (with_reducible refine (of_any t _ (R.take c) _ (HTA.out.kept (((Below.refl _ w4).alloc (Nat.le_refl _) (.cells #[] 31)).drew)) (fun x hx => (HK4.out x (List.mem_of_mem_take hx)).kept (((Below.refl _ w4).alloc (Nat.le_refl _) (.cells #[] 31)).drew)) (by simp; omega)).mono ?_); rintro e w5 ⟨r2, rfl, ho, hb⟩; have HO5 := Lib.hid ho; have HB5 := Lib.hid hb; clear ho hb)
    (first | refine ⟨trivial, _, rfl, ?_⟩ | refine ⟨_, rfl, ?_⟩ | skip)
    exact ⟨((World.ownsRow_made w4 #[] 0 (Nat.le_refl _) (by unfold maxLen; omega) rfl).drew).kept (grown_of_below HB5.out none) (Classical.em _), IsR.of_ownA HO5.out, below_step ((Below.refl _ w4).alloc (Nat.le_refl _) _).drew HB5.out⟩
  · go_wp2_with (go_at_call 8; (with_reducible refine (of_any t _ (R.take c) _ (HTA.out.kept ((Below.refl _ w4).drew)) (fun x hx => (HK4.out x (List.mem_of_mem_take hx)).kept ((Below.refl _ w4).drew)) (by simp; omega)).mono ?_); rintro e w5 ⟨r2, rfl, ho, hb⟩; have HO5 := Lib.hid ho; have HB5 := Lib.hid hb; clear ho hb)
    refine ⟨trivial, _, rfl, wpOne_do (by rfl) (fun K hK => ?_)⟩
    go_wp2_with fail
    (first | refine ⟨trivial, _, rfl, ?_⟩ | refine ⟨_, rfl, ?_⟩ | skip)
    exact ⟨World.ownsRow_made w5 #[] 0 HB5.out.size (by unfold maxLen; omega) rfl, (IsR.of_ownA HO5.out).kept ((Below.refl _ _).alloc (Nat.le_refl _) _), (below_step (Below.refl _ w4).drew HB5.out).alloc HB5.out.size _⟩
  rintro u v w5 ⟨hu, hv, hb5⟩ -
  have HU := Lib.hid hu
  have HV := Lib.hid hv
  have HB5 := Lib.hid hb5
  have hz5 := hb5.size
  clear hu hv hb5
  simp only [Act.put, List.setIfInBounds_toArray, List.set_cons_zero, List.set_cons_succ]
  refine wpPl_do (by rfl) (fun K hK => ?_)
  have htk : (ofA t (R.take c)).length ≤ 40 := by
    have h1 : (ofA t (R.take c)).length ≤ (R.take c).length := List.length_filter_le _ _
    simp at h1
    omega
  have hdk : (ofA t (R.drop c)).length ≤ 40 := by
    have h1 : (ofA t (R.drop c)).length ≤ (R.drop c).length := List.length_filter_le _ _
    simp at h1
    omega
  refine wp_append_rows (.tmp 26) (.tmp 31) rfl w4.heap.size u v 0 [] _ rfl HU.out rfl HV.out (fun x hx => (HK4.out x (List.mem_of_mem_take (List.mem_filter.1 hx).1)).kept HB5.out) (by omega) hz5 ?_
  intro v6 w6 ho6 hg6
  have HO6 := Lib.hid ho6
  have HB6 := Lib.hid (HB5.out.grown hg6 hz5 (fun k hk => (HU.out.lt k hk).1))
  clear ho6 hg6
  refine hK _ _ ⟨trivial, ?_⟩
  simp only [Act.put, List.setIfInBounds_toArray, List.set_cons_zero, List.set_cons_succ]
  refine wpPl_do (by rfl) (fun K hK => ?_)
  go_wp2_with (go_at_call 8; (with_reducible refine (of_any t _ (R.drop c) _ (HDR.out.kept HB6.out) (fun x hx => (HK4.out x (List.mem_of_mem_drop hx)).kept HB6.out) (by simp; omega)).mono ?_); rintro e w7 ⟨r7, rfl, ho, hb⟩; have HV7 := Lib.hid (show IsR ActV.cs 15 w7 r7 (ofA t (R.drop c)) from IsR.of_ownA ho); have HO7 := Lib.hid (HO6.out.kept (grown_of_below hb none) (Classical.em _)); have HB7 := Lib.hid (below_step HB6.out hb); clear ho hb)
  (try refine ⟨trivial, ?_⟩)
  refine wpPl_do (by rfl) (fun K hK => ?_)
  refine wp_append_rows (.tmp 32) (.tmp 37) rfl w4.heap.size v6 r7 _ _ _ rfl HO7.out rfl HV7.out (fun x hx => (HK4.out x (List.mem_of_mem_drop (List.mem_filter.1 hx).1)).kept HB7.out) (by omega) HB7.out.size ?_
  intro v8 w8 ho8 hg8
  have HB8 := Lib.hid (HB7.out.grown hg8 HB7.out.size (fun k hk => (HO7.out.lt k hk).1))
  have HP8 := Lib.hid (show IsR ActV.cs 15 w8 v8 OL from by
    have h := ho8
    rw [List.nil_append, HTD.out] at h
    have hl : 0 + (ofA t (List.take c R)).length + (ofA t (List.drop c R)).length = OL.length := by rw [← HTD.out]; simp
    rw [hl] at h
    exact IsR.of_ownA h)
  clear ho8 hg8
  refine hK _ _ ⟨trivial, ?_⟩
  simp only [Act.put, List.setIfInBounds_toArray, List.set_cons_zero, List.set_cons_succ]
  iterate 1 (refine wpPl_take (v := ?_) (by rfl) (fun w' hS => ?_) ?_; rotate_left; (focus (go_simp; with_reducible rfl)); simp only [Act.put, List.setIfInBounds_toArray, List.set_cons_zero, List.set_cons_succ])
  refine wpPl_done ?_
  clear HTA HDR HU HV HB5 HO6 HB6 HV7 HO7 HB7 htk hdk
  obtain ⟨qa, qc, rfl, hq1, hq2, qb, qo, hq3, hq4⟩ := HP8.out
  have HQ3 := Lib.hid hq3
  have HQ4 := Lib.hid hq4
  clear hq1 hq2 hq3 hq4
  go_wp2_with (go_at_call 8; (with_reducible refine (of_any t _ OL _ (HIO.out.kept HB8.out) (fun x hx => (HKO.out x hx).kept HB8.out) (by omega)).mono ?_); rintro e w9 ⟨r9, rfl, ho, hb⟩; have HT9 := Lib.hid (show IsR ActV.cs 15 w9 r9 OL from by rw [HID.out] at ho; exact IsR.of_ownA ho); have HQB := Lib.hid hb; have HB9 := Lib.hid (below_step HB8.out hb); clear ho hb; obtain ⟨ua, uc, rfl, hu1, hu2, ub, uo, hu3, hu4⟩ := HT9.out; have HU3 := Lib.hid hu3; have HU4 := Lib.hid hu4; clear hu1 hu2 hu3 hu4)
  have OA := Lib.hid (fun (i : Nat) (x : ActV) (hi : OL[i]? = some x) (j : Nat) (u : Value) (hj : x.cs[j]? = some u) => (HB9.out.cell (p := ⟨ob, oo + i * 15 + j, none⟩) (HO3.out (by have := (List.getElem?_eq_some_iff.1 hi).1; omega)).2).trans (HO4.out i x hi j u hj))
  have QA := Lib.hid (fun (i : Nat) (x : ActV) (hi : OL[i]? = some x) (j : Nat) (u : Value) (hj : x.cs[j]? = some u) => (HQB.out.cell (p := ⟨qb, qo + i * 15 + j, none⟩) (HQ3.out (by have := (List.getElem?_eq_some_iff.1 hi).1; omega)).2).trans (HQ4.out i x hi j u hj))
  have hob2 := HB9.out.size
  have hqb2 := HQB.out.size
  have HO3' := Lib.hid (show 0 < OL.length → oa = some ⟨ob, oo, none⟩ ∧ ob < w9.heap.size from fun h => ⟨(HO3.out h).1, by have := (HO3.out h).2; omega⟩)
  have HQ3' := Lib.hid (show 0 < OL.length → qa = some ⟨qb, qo, none⟩ ∧ qb < w9.heap.size from fun h => ⟨(HQ3.out h).1, by have := (HQ3.out h).2; omega⟩)
  have HK9 := Lib.hid (fun (x : ActV) (hx : x ∈ OL) => (HKO.out x hx).kept HB9.out)
  clear HO3 HQ3 HP8
  obtain ⟨n, hn⟩ : ∃ n, n = OL.length := ⟨_, rfl⟩
  have HNL := Lib.hid hn
  go_loopg [13, 56] n (fun g v13 v56 wr => ∃ (jj nn : Nat), jj ≤ n ∧ g = n - jj ∧ v13 = .int .i64 nn ∧ v56 = .int .i64 jj ∧ nn = (ticksA (OL.take jj)).length ∧ Below w9.heap.size w9 wr)
  case atStart => exact ⟨0, 0, by omega, by omega, rfl, rfl, rfl, Below.refl _ _⟩
  case round =>
    obtain ⟨jj, nn, hj, rfl, rfl, rfl, hnn, hb⟩ := hrel
    have HBr := Lib.hid hb
    have hz := hb.size
    have HNN := Lib.hid hnn
    have hnj : nn ≤ jj := by rw [hnn]; exact ticks_len _ _
    clear hb hnn
    by_cases hlt0 : jj < n
    · have hlt : jj < OL.length := by omega
      obtain ⟨rfl, hob⟩ := HO3'.out (by omega)
      obtain ⟨rfl, hqb⟩ := HQ3'.out (by omega)
      obtain ⟨rfl, hub⟩ := HU3.out (by omega)
      clear hn
      obtain ⟨x, hx⟩ : ∃ x, OL[jj]? = some x := ⟨OL[jj], by simp [hlt]⟩
      have HX := Lib.hid hx
      have HXO := Lib.hid (HK9.out x (List.mem_of_getElem? hx))
      have hsl : ∃ pa pl pc, x.pipe.ops = .slice pa pl pc := by
        obtain ⟨pa, pc, hv, _⟩ := HXO.out
        exact ⟨pa, _, pc, hv⟩
      have HE1 := Lib.hid (fun h => ticks_yes hx h)
      have HE2 := Lib.hid (fun h => ticks_no hx h)
      have HSM := Lib.hid (fun (V : World) (hb : Below w9.heap.size w9 V) => (decide_eq_true (ActV.same_refl x)) ▸ same_any x x V (HXO.out.kept hb) (HXO.out.kept hb))
      clear hx
      obtain ⟨pa, pl, pc, hsl⟩ := hsl
      obtain ⟨k1, t1, f1, n1, ⟨p1, ol1, s1, d1, g1, sk1, fd1⟩, m1, i1, y1, v1, u1⟩ := x
      simp only at hsl
      subst hsl
      simp only [ActV.val] at HSM
      go_wp2_with fail
      refine wp_region_pl (fun x => Below wr.heap.size wr x) (.take 0 <| .take 1 <| .take 2 <| .take 3 <| .take 4 <| .take 5 <| .take 6 <| .take 7 <| .doo 8 <| .take 9 <| .take 10 <| .take 11 <| .take 12 <| .take 13 <| .take 14 <| .take 15 <| .take 16 <| .take 17 <| .take 18 <| .doo 19 <| .take 20 <| .take 21 <| .done) ?plL13 (by kernel_rfl) (by kernel_rfl) (by kernel_rfl) ?plH13 (by intro c a d v w; cases d <;> exact fun h => h) (Below.refl _ wr).drew ?_
      case plH13 =>
        simp only [Pl.with, List.getElem?_toArray, List.getElem?_cons_zero, List.getElem?_cons_succ]
        try rfl
      iterate 3 (refine wpPl_take (v := ?_) (by rfl) (fun w' hS => ?_) ?_; rotate_left; (focus (go_simp; with_reducible rfl)); simp only [Act.put, List.setIfInBounds_toArray, List.set_cons_zero, List.set_cons_succ])
      refine wpPl_take (v := .agg #[.int .i64 k1, .int .i64 t1, .int .i64 f1, .int .i64 n1, .slice pa pl pc, .int .i64 s1, .int .i64 d1, .int .i64 g1, .int .i64 sk1, .int .i64 fd1, .bool m1, .int .i64 i1, .int .i64 y1, .int .i64 v1, .int .u64 u1]) (by rfl) (fun w' hS => load31 w' _ _ _ ob (oo + jj * 15) ⟨k1, t1, f1, n1, ⟨.slice pa pl pc, ol1, s1, d1, g1, sk1, fd1⟩, m1, i1, y1, v1, u1⟩ rfl (fun j u hj => (hS.cell (p := ⟨ob, oo + jj * 15 + j, none⟩) (show ob < wr.heap.size by omega)).trans ((HBr.out.cell (p := ⟨ob, oo + jj * 15 + j, none⟩) hob).trans (OA.out jj _ HX.out j u hj)))) ?_
      simp only [Act.put, List.setIfInBounds_toArray, List.set_cons_zero, List.set_cons_succ]
      iterate 3 (refine wpPl_take (v := ?_) (by rfl) (fun w' hS => ?_) ?_; rotate_left; (focus (go_simp; with_reducible rfl)); simp only [Act.put, List.setIfInBounds_toArray, List.set_cons_zero, List.set_cons_succ])
      refine wpPl_take (v := .agg #[.int .i64 k1, .int .i64 t1, .int .i64 f1, .int .i64 n1, .slice pa pl pc, .int .i64 s1, .int .i64 d1, .int .i64 g1, .int .i64 sk1, .int .i64 fd1, .bool m1, .int .i64 i1, .int .i64 y1, .int .i64 v1, .int .u64 u1]) (by rfl) (fun w' hS => load31 w' _ _ _ qb (qo + jj * 15) ⟨k1, t1, f1, n1, ⟨.slice pa pl pc, ol1, s1, d1, g1, sk1, fd1⟩, m1, i1, y1, v1, u1⟩ rfl (fun j u hj => (hS.cell (p := ⟨qb, qo + jj * 15 + j, none⟩) (show qb < wr.heap.size by omega)).trans ((HBr.out.cell (p := ⟨qb, qo + jj * 15 + j, none⟩) hqb).trans (QA.out jj _ HX.out j u hj)))) ?_
      simp only [Act.put, List.setIfInBounds_toArray, List.set_cons_zero, List.set_cons_succ]
      refine wpPl_do (by rfl) (fun K hK => ?_)
      go_wp2_with (go_at_call 9; (with_reducible refine (HSM.out _ HBr.out.drew).mono ?_); rintro e w10 ⟨rfl, hb⟩; have HS10 := Lib.hid (below_step (Below.refl _ wr).drew hb); have HB10 := Lib.hid (below_step HBr.out.drew hb); clear hb)
      refine ⟨HS10.out, ?_⟩
      iterate 5 (refine wpPl_take (v := ?_) (by rfl) (fun w' hS => ?_) ?_; rotate_left; (focus (go_simp; with_reducible rfl)); simp only [Act.put, List.setIfInBounds_toArray, List.set_cons_zero, List.set_cons_succ])
      refine wpPl_take (v := .agg #[.int .i64 k1, .int .i64 t1, .int .i64 f1, .int .i64 n1, .slice pa pl pc, .int .i64 s1, .int .i64 d1, .int .i64 g1, .int .i64 sk1, .int .i64 fd1, .bool m1, .int .i64 i1, .int .i64 y1, .int .i64 v1, .int .u64 u1]) (by rfl) (fun w' hS => load31 w' _ _ _ ob (oo + jj * 15) ⟨k1, t1, f1, n1, ⟨.slice pa pl pc, ol1, s1, d1, g1, sk1, fd1⟩, m1, i1, y1, v1, u1⟩ rfl (fun j u hj => (hS.cell (p := ⟨ob, oo + jj * 15 + j, none⟩) (show ob < wr.heap.size by omega)).trans ((HBr.out.cell (p := ⟨ob, oo + jj * 15 + j, none⟩) hob).trans (OA.out jj _ HX.out j u hj)))) ?_
      simp only [Act.put, List.setIfInBounds_toArray, List.set_cons_zero, List.set_cons_succ]
      iterate 3 (refine wpPl_take (v := ?_) (by rfl) (fun w' hS => ?_) ?_; rotate_left; (focus (go_simp; with_reducible rfl)); simp only [Act.put, List.setIfInBounds_toArray, List.set_cons_zero, List.set_cons_succ])
      refine wpPl_take (v := .agg #[.int .i64 k1, .int .i64 t1, .int .i64 f1, .int .i64 n1, .slice pa pl pc, .int .i64 s1, .int .i64 d1, .int .i64 g1, .int .i64 sk1, .int .i64 fd1, .bool m1, .int .i64 i1, .int .i64 y1, .int .i64 v1, .int .u64 u1]) (by rfl) (fun w' hS => load31 w' _ _ _ ub (uo + jj * 15) ⟨k1, t1, f1, n1, ⟨.slice pa pl pc, ol1, s1, d1, g1, sk1, fd1⟩, m1, i1, y1, v1, u1⟩ rfl (fun j u hj => (hS.cell (p := ⟨ub, uo + jj * 15 + j, none⟩) (show ub < wr.heap.size by omega)).trans ((HBr.out.cell (p := ⟨ub, uo + jj * 15 + j, none⟩) hub).trans (HU4.out jj _ HX.out j u hj)))) ?_
      simp only [Act.put, List.setIfInBounds_toArray, List.set_cons_zero, List.set_cons_succ]
      refine wpPl_do (by rfl) (fun K hK => ?_)
      go_wp2_with (go_at_call 9; (with_reducible refine (HSM.out _ HB10.out).mono ?_); rintro e w11 ⟨rfl, hb⟩; have HS11 := Lib.hid (below_step HS10.out hb); have HB11 := Lib.hid (below_step HB10.out hb); clear hb)
      refine ⟨HS11.out, ?_⟩
      iterate 2 (refine wpPl_take (v := ?_) (by rfl) (fun w' hS => ?_) ?_; rotate_left; (focus (go_simp; with_reducible rfl)); simp only [Act.put, List.setIfInBounds_toArray, List.set_cons_zero, List.set_cons_succ])
      refine wpPl_done ?_
      have kk0 : w11.cell? ⟨ob, oo + jj * 15, none⟩ = some (.int .i64 k1) := by
        have := (HB11.out.cell (p := ⟨ob, oo + jj * 15, none⟩) hob).trans (by have := OA.out jj _ HX.out 0 _ rfl; simpa using this)
        exact this
      by_cases hk3 : k1 = 3
      · have HQ := Lib.hid (HE1.out hk3)
        subst hk3
        go_wp2_with fail
        go_roundg (n - (jj + 1))
        case measure => omega
        case rel => exact ⟨jj + 1, nn + 1, by omega, rfl, by go_num, by go_num, by rw [HQ.out, List.length_append, ← HNN.out]; rfl, HB11.out⟩
      · have HQ := Lib.hid (HE2.out hk3)
        have hk3' : (k1 == 3) = false := by simp [hk3]
        go_wp2_with fail
        go_roundg (n - (jj + 1))
        case measure => omega
        case rel => exact ⟨jj + 1, nn, by omega, rfl, by go_num, by go_num, by rw [HQ.out]; exact HNN.out, HB11.out⟩
    · have hji : jj = n := by omega
      have hnt : (ofA 7 R).length = nn := by rw [of7 R HRT.out, HNN.out, List.take_of_length_le (by omega), HTK.out]
      have HR9 := Lib.hid ((HR4.out.kept HB9.out).kept HBr.out)
      have HKR := Lib.hid (fun (x : ActV) (hx : x ∈ R) => ((HK4.out x hx).kept HB9.out).kept HBr.out)
      have HO9 := Lib.hid ((HIO.out.kept HB9.out).kept HBr.out)
      have HKO9 := Lib.hid (fun (x : ActV) (hx : x ∈ OL) => ((HKO.out x hx).kept HB9.out).kept HBr.out)
      have HNT := Lib.hid hnt
      have hnl : ¬ jj < OL.length := by omega
      clear hnt hji hlt0 hj
      obtain ⟨i0, hi3, hz0, hz1, hz2⟩ := info_parts info41
      have hm4 : R.length ≤ 40 := by omega
      have hmk : ∀ w : World, (Instr.makeSlice 51 (.int .i64 (R.length : Int)) (.int .i64 (R.length : Int))).run Try.prog w = .ok (.slice (some ⟨w.heap.size, 0, none⟩) R.length R.length) (w.alloc (.cells (madeCells #[.int .i64 0, .slice none 0 0, .slice none 0 0] (R.length * 3)) 41)) := fun w => by
        have h := run_make (P := Try.prog) w 51 41 i0 _ Try.underlying51 hi3 hz0 .i64 .i64 R.length R.length (by omega) (Int.le_refl _) (by rw [hz2]; omega) (by omega)
        rw [hz1] at h
        simpa [Value.cells] using h
      clear hi3 hz0 hz1 hz2
      go_wp2_with (first
        | (go_at_call 8; (with_reducible refine (of_any 7 _ R _ HR9.out HKR.out (by omega)).mono ?_); rintro e w12 ⟨r12, rfl, ho, hb⟩; have HB12 := Lib.hid hb; rw [HNT.out] at ho; obtain ⟨xa, xl, xc, rfl⟩ := own_shape ho; obtain rfl := (show xl = nn from by rcases ho.2 with ⟨h1, h2⟩ | ⟨g, cap, cur, h1, _⟩ <;> (simp at h1; omega)); clear ho hb)
        | (go_at_call 10; (with_reducible refine (low_any t _ _ R OL _ (HR9.out.kept HB12.out) (HO9.out.kept HB12.out) (fun x hx => (HKR.out x hx).kept HB12.out) (fun x hx => (HKO9.out x hx).kept HB12.out) (by omega) (by omega)).mono ?_); rintro e w13 ⟨b13, rfl, hiff, hb⟩; obtain rfl := (show b13 = true from hiff.2 (by rw [HOO.out, HID.out]; exact alikeL_refl OL)); have HB13 := Lib.hid (below_step HB12.out hb); clear hiff hb)
        | (go_at_call 16; (with_reducible refine (answers_any 7 _ _ R (List.replicate R.length N0) _ (HR9.out.kept (HB13.out.alloc HB13.out.size _)) (zeros_is w13 R.length (by omega)) (fun x hx => (HKR.out x hx).kept (HB13.out.alloc HB13.out.size _)) (fun y hy => by rw [(List.mem_replicate.1 hy).2]; exact okN0 _) (by omega) (by simp; omega)).mono ?_); rintro e w14 ⟨r14, rfl, ho, hb⟩; have HB14 := Lib.hid (below_step (HB13.out.alloc HB13.out.size _) hb); rw [ans7 R _ HRT.out] at ho; obtain ⟨xa, xl, xc, rfl⟩ := own_shape ho; obtain rfl := (show xl = 0 from by rcases ho.2 with ⟨h1, h2⟩ | ⟨g, cap, cur, h1, _⟩ <;> (simp at h1; omega)); clear ho hb)
        | (go_at_call 3; (with_reducible refine (runs_any _).mono ?_); rintro e w15 ⟨rfl, hb⟩; have HB15 := Lib.hid (below_step HB14.out hb); clear hb))
      go_ret
      exact ⟨rfl, below_step (below_step HBW.out HB9.out) (below_step HBr.out HB15.out)⟩
end Go.Proofs.Ytemmekpmoigdeaa

