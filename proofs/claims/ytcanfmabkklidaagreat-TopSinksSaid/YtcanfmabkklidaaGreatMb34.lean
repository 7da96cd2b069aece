/- TopSinks: a tick, given and told. -/
import Derived.Test.YtcanfmabkklidaaGreatMb33
set_option linter.unusedSimpArgs false
set_option linter.unusedVariables false
set_option linter.unnecessarySimpa false
namespace Go.Proofs.YtcanfmabkklidaaGreat
open Go.RowKit

/-- a slot that was turned -/
def clOf (l : List Value) (n : Nat) : Value := l.getD n undef
/-- a part of a code, by a path -/
def codeAt : Code → List Nat → Code
  | c, [] => c
  | .seq a _, 0 :: l => codeAt a l
  | .seq _ b, _ :: l => codeAt b l
  | .block _ c, _ :: l => codeAt c l
  | .loop c, _ :: l => codeAt c l
  | .cond _ a _, 0 :: l => codeAt a l
  | .cond _ _ b, _ :: l => codeAt b l
  | c, _ :: _ => c
set_option maxHeartbeats 4000000 in
set_option maxRecDepth 100000 in
theorem stick_any {sl0 sl1 sl2 sl3 sl4 sl8 sl10 sl11 sl13 sl14 sl15 sl16 sl17 sl18 sl19 sl20 sl21 sl22 sl23 sl24 sl25 sl26 sl27 sl28 sl29 sl30 sl31 sl32 sl33 sl34 sl35 sl36 sl37 sl38 sl39 sl40 sl41 sl42 sl43 sl44 sl45 sl46 sl47 sl48 sl49 sl50 sl51 sl52 sl53 sl54 sl55 sl56 sl57 sl58 sl59 sl60 sl61 sl62 sl63 sl64 sl65 sl66 sl67 sl68 sl69 sl70 sl71 sl72 sl73 sl74 sl75 sl76 sl77 sl78 sl79 sl80 sl81 sl82 sl83 sl84 sl85 sl86 sl87 sl88 sl89 sl90 sl91 sl92 sl93 sl94 sl95 sl96 sl97 sl98 sl99 sl100 sl101 sl102 sl103 sl104 sl105 sl106 sl107 sl108 sl109 sl110 sl111 sl112 sl113 sl114 sl115 sl116 sl117 sl118 sl119 sl120 sl121 sl122 sl123 sl124 sl125 sl126 sl127 sl128 sl129 sl130 sl131 sl132 sl133 sl134 sl135 sl136 sl137 sl138 sl139 sl140 sl141 sl142 sl143 sl144 sl145 sl146 sl147 sl148 sl149 sl150 sl151 sl152 sl153 sl154 sl155 sl156 sl157 sl158 sl159 sl160 sl161 sl162 sl163 sl164 sl165 sl166 sl167 sl168 sl169 sl170 sl171 sl172 sl173 sl174 sl175 sl176 sl177 sl178 sl179 sl180 sl181 sl182 sl183 sl184 sl185 sl186 sl187 sl188 sl189 sl190 sl191 sl192 sl193 sl194 sl195 sl196 sl197 sl198 sl199 sl200 sl201 sl202 sl203 sl204 sl205 sl206 sl207 sl208 sl209 sl210 sl211 sl212 sl213 sl214 sl215 sl216 sl217 sl218 sl219 sl220 sl221 sl222 sl223 sl224 sl225 sl226 sl227 sl228 sl229 sl230 sl231 sl232 sl233 sl234 sl235 sl236 sl237 sl238 sl239 sl240 sl241 sl242 : Value} (Q' : Exit → Act → World → Prop) (w5 : World) (Fa : List Nat) (a bp bw ab sb base : Nat) (B R Q : Int) (ra : Option Addr) (rc : Nat) (r : List SinkV) (c : CoreV) (f : Nat → List RelV) (i : Nat) (S8 : List Nat) (vs : List Value) (w8 : World) (X : Code) (hX : X = codeAt (Tryz.f8.body.getD .skip) [1, 1, 1, 1, 1, 1, 1, 0, 1, 0, 0, 1, 1, 0, 0, 1, 1, 1, 1, 1])
    (hBK : SnkB w5 Fa bp bw) (hSET : SetBd B R Q r) (hPP5 : At w5 sb [.int .i64 B, .int .i64 R, .int .i64 Q, .slice ra r.length rc]) (hO5 : w5.ownsRow base 49 5 (.slice ra r.length rc) r.length (r.flatMap SinkV.cs)) (hPPD : sb ≠ bp ∧ sb ≠ bw ∧ sb ∉ Fa) (hSLD : ∀ x ∈ (Value.slice ra r.length rc).ownBlock.toList, x ≠ bp ∧ x ≠ bw ∧ x ∉ Fa)
    (hQP : ∀ ch x d v w, Q' (.panic ch) (Act.put x d v) w → Q' (.panic ch) x w) (hrl : r.length ≤ 2) (hi40 : i < 40) (hJ : SnkJ r Q c f (6 * i) (8000 * i)) (hQ : 0 ≤ Q ∧ Q ≤ 1000) (hfl : ∀ j, (f j).length ≤ i) (hvl : vs.length = r.length) (h5a : w5.heap.size ≤ ab) (hOKT : CoreOk c.tick (6 * i + 6)) (hQC : c.tick.quota = c.quota)
    (hS8 : SnkS w5 Fa w8 a c.tick bp bw c.pots f S8 vs) (hH8 : At w8 (ab + 1) (hadL c 8)) (hN8 : ab + 1 ∉ S8)
    (hK : ∀ (l : List Value) (w' : World), (∃ f3 S3 vs3, SnkJ r Q c.tick f3 (6 * (i + 1)) (8000 * (i + 1)) ∧ SnkS w5 Fa w' a c.tick bp bw c.tick.pots f3 S3 vs3 ∧ vs3.length = r.length ∧ ∀ j, (f3 j).length ≤ i + 1) → l = [sl0, sl1, sl2, sl3, clOf l 4, .pointer (some ⟨sb, 0, none⟩), .pointer (some ⟨a, 0, none⟩), .slice (some ⟨bp, 0, none⟩) r.length r.length, sl8, .slice (some ⟨bw, 0, none⟩) r.length r.length, sl10, sl11, .pointer (some ⟨ab + 1, 0, none⟩), sl13, sl14, clOf l 15, clOf l 16, clOf l 17, clOf l 18, clOf l 19, clOf l 20, clOf l 21, clOf l 22, sl23, sl24, sl25, sl26, sl27, sl28, sl29, sl30, sl31, sl32, sl33, sl34, sl35, sl36, sl37, sl38, sl39, sl40, sl41, sl42, sl43, sl44, sl45, sl46, sl47, sl48, sl49, sl50, sl51, sl52, sl53, sl54, sl55, sl56, sl57, sl58, sl59, sl60, sl61, sl62, sl63, sl64, sl65, sl66, sl67, sl68, sl69, sl70, sl71, sl72, sl73, sl74, sl75, sl76, sl77, sl78, sl79, sl80, sl81, sl82, sl83, sl84, clOf l 85, clOf l 86, clOf l 87, clOf l 88, clOf l 89, clOf l 90, clOf l 91, clOf l 92, clOf l 93, clOf l 94, clOf l 95, clOf l 96, clOf l 97, clOf l 98, clOf l 99, clOf l 100, clOf l 101, clOf l 102, clOf l 103, clOf l 104, clOf l 105, clOf l 106, clOf l 107, clOf l 108, clOf l 109, clOf l 110, clOf l 111, clOf l 112, clOf l 113, clOf l 114, clOf l 115, clOf l 116, clOf l 117, clOf l 118, clOf l 119, clOf l 120, clOf l 121, clOf l 122, clOf l 123, clOf l 124, clOf l 125, clOf l 126, clOf l 127, clOf l 128, clOf l 129, clOf l 130, clOf l 131, clOf l 132, clOf l 133, clOf l 134, clOf l 135, clOf l 136, clOf l 137, clOf l 138, clOf l 139, clOf l 140, clOf l 141, clOf l 142, clOf l 143, clOf l 144, clOf l 145, clOf l 146, clOf l 147, clOf l 148, clOf l 149, clOf l 150, clOf l 151, clOf l 152, clOf l 153, clOf l 154, clOf l 155, clOf l 156, clOf l 157, clOf l 158, clOf l 159, clOf l 160, clOf l 161, clOf l 162, clOf l 163, clOf l 164, clOf l 165, clOf l 166, clOf l 167, clOf l 168, clOf l 169, clOf l 170, clOf l 171, clOf l 172, clOf l 173, clOf l 174, clOf l 175, clOf l 176, clOf l 177, clOf l 178, clOf l 179, clOf l 180, clOf l 181, clOf l 182, clOf l 183, clOf l 184, clOf l 185, sl186, sl187, sl188, sl189, sl190, sl191, sl192, sl193, sl194, sl195, sl196, sl197, sl198, sl199, sl200, sl201, sl202, sl203, sl204, sl205, sl206, sl207, sl208, sl209, sl210, sl211, sl212, sl213, sl214, sl215, sl216, sl217, sl218, sl219, sl220, sl221, sl222, sl223, sl224, sl225, sl226, sl227, sl228, sl229, sl230, sl231, sl232, sl233, sl234, sl235, sl236, sl237, sl238, sl239, sl240, sl241, sl242] → Q' .normal ⟨List.toArray l, []⟩ w') :
    Code.wp Tryz.prog X Q' ⟨#[sl0, sl1, sl2, sl3, sl4, .pointer (some ⟨sb, 0, none⟩), .pointer (some ⟨a, 0, none⟩), .slice (some ⟨bp, 0, none⟩) r.length r.length, sl8, .slice (some ⟨bw, 0, none⟩) r.length r.length, sl10, sl11, .pointer (some ⟨ab + 1, 0, none⟩), sl13, sl14, sl15, sl16, sl17, sl18, sl19, sl20, sl21, sl22, sl23, sl24, sl25, sl26, sl27, sl28, sl29, sl30, sl31, sl32, sl33, sl34, sl35, sl36, sl37, sl38, sl39, sl40, sl41, sl42, sl43, sl44, sl45, sl46, sl47, sl48, sl49, sl50, sl51, sl52, sl53, sl54, sl55, sl56, sl57, sl58, sl59, sl60, sl61, sl62, sl63, sl64, sl65, sl66, sl67, sl68, sl69, sl70, sl71, sl72, sl73, sl74, sl75, sl76, sl77, sl78, sl79, sl80, sl81, sl82, sl83, sl84, sl85, sl86, sl87, sl88, sl89, sl90, sl91, sl92, sl93, sl94, sl95, sl96, sl97, sl98, sl99, sl100, sl101, sl102, sl103, sl104, sl105, sl106, sl107, sl108, sl109, sl110, sl111, sl112, sl113, sl114, sl115, sl116, sl117, sl118, sl119, sl120, sl121, sl122, sl123, sl124, sl125, sl126, sl127, sl128, sl129, sl130, sl131, sl132, sl133, sl134, sl135, sl136, sl137, sl138, sl139, sl140, sl141, sl142, sl143, sl144, sl145, sl146, sl147, sl148, sl149, sl150, sl151, sl152, sl153, sl154, sl155, sl156, sl157, sl158, sl159, sl160, sl161, sl162, sl163, sl164, sl165, sl166, sl167, sl168, sl169, sl170, sl171, sl172, sl173, sl174, sl175, sl176, sl177, sl178, sl179, sl180, sl181, sl182, sl183, sl184, sl185, sl186, sl187, sl188, sl189, sl190, sl191, sl192, sl193, sl194, sl195, sl196, sl197, sl198, sl199, sl200, sl201, sl202, sl203, sl204, sl205, sl206, sl207, sl208, sl209, sl210, sl211, sl212, sl213, sl214, sl215, sl216, sl217, sl218, sl219, sl220, sl221, sl222, sl223, sl224, sl225, sl226, sl227, sl228, sl229, sl230, sl231, sl232, sl233, sl234, sl235, sl236, sl237, sl238, sl239, sl240, sl241, sl242], []⟩ w8 := by
  have HQP := Lib.hid hQP
  have HBK := Lib.hid hBK
  have HSET := Lib.hid hSET
  have HPP5 := Lib.hid hPP5
  have HO5 := Lib.hid hO5
  have HPPD := Lib.hid hPPD
  have HSLD := Lib.hid hSLD
  have HJ := Lib.hid hJ
  have HFLN := Lib.hid hfl
  have HOKT := Lib.hid hOKT
  have HQC := Lib.hid hQC
  have HS8 := Lib.hid hS8
  have HH8 := Lib.hid hH8
  have HN8 := Lib.hid hN8
  have hcs : c.sinks = r := hJ.s
  have HCS := Lib.hid hcs
  have HQT0 := Lib.hid (show 0 ≤ c.tick.quota by rw [hQC, hJ.q]; exact hQ.1)
  have HQT1 := Lib.hid (show c.tick.quota ≤ 1000 by rw [hQC, hJ.q]; exact hQ.2)
  have HKK := Lib.hid hK
  clear hQP hBK hSET hPP5 hO5 hPPD hSLD hJ hfl hOKT hQC hS8 hH8 hN8 hcs hQ hK
  subst hX
  conv => arg 2; whnf
  have hmid := HJ.out.i.mid HJ.out.ok (by omega)
  have HMID := Lib.hid hmid.1
  have HMP := Lib.hid (show givM c 8 = (midC c).pots from hmid.2)
  have HTT := Lib.hid (tick_ticks c)
  clear hmid
  go_wp2_with fail
  go_loopg [85] 8 (fun g v85 wx => ∃ (m : Nat) (S2 : List Nat), m ≤ 8 ∧ g = 8 - m ∧ v85 = .int .i64 m ∧ SnkS w5 Fa wx a c.tick bp bw (givM c m) f S2 vs ∧ At wx (ab + 1) (hadL c 8) ∧ ab + 1 ∉ S2)
  case atStart => exact ⟨0, S8, by omega, by omega, rfl, HS8.out, HH8.out, HN8.out⟩
  case round =>
    obtain ⟨m, S2, hm2, rfl, rfl, hs, hh, hn⟩ := hrel
    have HS2 := Lib.hid hs
    have HH2 := Lib.hid hh
    have HN2 := Lib.hid hn
    have hbl2 := hh.lt
    clear hs hh hn
    by_cases hm8 : m < 8
    · cases hx : c.cells m with
      | none =>
        have HCX := Lib.hid (tick_no (by omega) hx)
        have HG := Lib.hid (show givM c (m + 1) = givM c m by rw [givM_succ]; simp [giveT, hx])
        clear hx
        go_wp2_with (go_at_call 29; (with_reducible refine (cellN_at a S2 c.tick m (by omega) _ HS2.out.c HCX.out).mono ?_); rintro e w6 ⟨rfl, rfl⟩)
        go_roundg (8 - (m + 1))
        case measure => omega
        case rel => exact ⟨m + 1, S2, by omega, rfl, by go_num, by rw [HG.out]; exact HS2.out, HH2.out, HN2.out⟩
      | some x =>
        obtain ⟨y, hy1, hy2, hy3⟩ := tick_some HJ.out.ok (by omega) hx
        have HCX := Lib.hid hy1
        have HYR := Lib.hid hy3
        have hsk1 := (HJ.out.ok.cell m x hx).run.pip.sink1
        have hsk2 : x.run.pipe.sink < (r.length : Int) := by have := HJ.out.ok.sink m x hx; rw [HCS.out] at this; exact this
        have hhad : (hadL c 8)[m]? = some (.int .i64 (x.rows.length : Int)) := by rw [hadL_get c 8 m hm8, if_pos hm8]; simp [hadI, hx]
        have HHAD := Lib.hid hhad
        obtain ⟨sk, hsk⟩ : ∃ sk, sk = x.run.pipe.sink := ⟨_, rfl⟩
        have HHX := Lib.hid hx
        have HSK := Lib.hid hsk
        have hle : ((y.rows.length : Int) < (x.rows.length : Int)) = False := by rw [hy3, List.length_append]; simp; omega
        have hle2 : ((x.rows.length : Int) > (y.rows.length : Int)) = False := by rw [hy3, List.length_append]; simp; omega
        rw [← hsk] at hsk1 hsk2
        have HSKY := Lib.hid (show y.run.pipe.sink = sk by rw [hy2, hsk])
        clear hx hy1 hy2 hy3 hhad hsk
        go_upto_region 30 with (go_at_call 29; (with_reducible refine (cellS_at a S2 c.tick (6 * i + 6) m (by omega) _ HS2.out.c HOKT.out (by omega) y HCX.out).mono ?_); rintro e w9 ⟨⟨q, rfl, hq⟩, hb9⟩; obtain ⟨br, k4, k8, lq, lbr⟩ := hq.cells; rw [HSKY.out] at k8; have HTW := Lib.hid hq; have HB9 := Lib.hid hb9; have hh9 := HH2.out.below hb9; have ch9 := hh9.c m _ HHAD.out; have lh9 := hh9.lt; have HH9 := Lib.hid hh9; clear hq hb9 hh9)
        refine wp_region_plB (fun w0 => w0 = w9) ?phC (.take 0 <| .take 1 <| .take 2 <| .take 3 <| .take 4 <| .take 5 <| .take 6 <| .take 7 <| .take 8 <| .take 9 <| .take 10 <| .take 11 <| .take 12 <| .done) ?plLC (by kernel_rfl) (by kernel_rfl) (by kernel_rfl) ?plHC (by intro c a d v w; exact fun h => HQP.out _ _ _ _ _ h) ?_
        case plHC =>
          simp only [Pl.with, List.getElem?_toArray, List.getElem?_cons_zero, List.getElem?_cons_succ]
          try rfl
        case phC => rfl
        rintro w0 hw0
        rw [hw0]
        clear hw0
        have q0 : ∀ z, Below w9.heap.size w9 z → z.cell? ⟨q, 4, none⟩ = some (.pointer (some ⟨br, 0, none⟩)) := fun z hz => (hz.cell (p := ⟨q, 4, none⟩) lq).trans k4
        have q1 : ∀ z, Below w9.heap.size w9 z → z.cell? ⟨ab + 1, m, none⟩ = some (.int .i64 (x.rows.length : Int)) := fun z hz => (hz.cell (p := ⟨ab + 1, m, none⟩) lh9).trans ch9
        iterate 10 (refine wpPl_take (v := ?_) (by rfl) (fun w' hS => ?_) ?_; rotate_left; (focus (go_simp; with_reducible rfl)); simp only [Act.put, List.setIfInBounds_toArray, List.set_cons_zero, List.set_cons_succ])
        (refine wpPl_call (v := .int .i64 (y.rows.length : Int)) (f := 30) (args := #[.pointer (some ⟨q, 0, none⟩)]) (by rfl) (fun w' hS => ?_) (fun w' hS => count_cell q y w' (HTW.out.below hS)) ?_; (focus (go_simp; done)); simp only [Act.put, List.setIfInBounds_toArray, List.set_cons_zero, List.set_cons_succ])
        iterate 2 (refine wpPl_take (v := ?_) (by rfl) (fun w' hS => ?_) ?_; rotate_left; (focus (go_simp; with_reducible rfl)); simp only [Act.put, List.setIfInBounds_toArray, List.set_cons_zero, List.set_cons_succ])
        refine wpPl_done ?_
        clear q0 q1
        go_upto_region 33 with fail
        by_cases hsn : sk = -1
        · subst hsn
          have HG := Lib.hid (show givM c (m + 1) = givM c m by rw [givM_succ]; simp [giveT, HHX.out, ← HSK.out])
          go_wp2_with fail
          go_roundg (8 - (m + 1))
          case measure => omega
          case rel => exact ⟨m + 1, S2, by omega, rfl, by go_num, by rw [HG.out]; exact HS2.out.below HBK.out (bel_draw HB9.out), HH9.out.drew, HN2.out⟩
        · obtain ⟨j, rfl⟩ : ∃ j : Nat, sk = (j : Int) := ⟨sk.toNat, by omega⟩
          have hj : j < r.length := by omega
          have hsd : SnkS w5 Fa w9.drew a c.tick bp bw (givM c m) f S2 vs := HS2.out.below HBK.out (bel_draw HB9.out)
          have HRO := Lib.hid (snk_rows HBK.out hsd (6 * i + 6) m (by omega) HQT0.out HQT1.out HOKT.out (by omega) y HCX.out)
          have hxy : x.rows.length ≤ y.rows.length := by rw [HYR.out, List.length_append]; omega
          clear hsd hsk1 hsk2 hsn k4 k8 ch9
          go_upto_region 35 with (go_at_call 19; (with_reducible refine HRO.out.mono ?_); rintro e w10 ⟨v10, S3, rfl, ho, hs10, hm10, hi10⟩; obtain ⟨pa, pc, rfl⟩ := own_shape2 ho; have HO10 := Lib.hid ho; have HS10 := Lib.hid hs10; have hh10 := HH9.out.drew.mod hm10 HN2.out; have ch10 := hh10.c m _ HHAD.out; have lh10 := hh10.lt; have HH10 := Lib.hid hh10; have HN10 := Lib.hid (into_not hi10 (by simpa using lh9) HN2.out); clear ho hs10 hm10 hi10 hh10)
          go_upto_region 37 with fail
          obtain ⟨s, hse⟩ : ∃ s, r[j]? = some s := ⟨r[j], by simp [hj]⟩
          have HSE := Lib.hid hse
          obtain ⟨sg, sc2, hsg, _, hsglt, _, _, hcs⟩ := own_form (HS10.out.own HO5.out HSLD.out) (by omega)
          simp only [Value.slice.injEq, true_and] at hsg
          obtain ⟨rfl, rfl⟩ := hsg
          have HXS := Lib.hid (fun (jj : Nat) (u : Value) (hu : s.cs[jj]? = some u) => hcs (j * 5 + jj) u (flat_get (cs := SinkV.cs) (k := 5) (fun _ => rfl) hse hu))
          have hP0 : j < (givM c m).length := by rw [givM_len, HJ.out.ok.pots, HCS.out]; exact hj
          obtain ⟨p, hp⟩ : ∃ p, (givM c m)[j]? = some p := ⟨(givM c m)[j], by simp [hP0]⟩
          have HPK := Lib.hid (givM_kind HJ.out.ok.kind m p (List.mem_of_getElem? hp))
          have HP := Lib.hid hp
          have HG := Lib.hid (show givM c (m + 1) = (givM c m).set j (p.give s m (outsI c m)) by
            rw [givM_succ]
            unfold giveT
            rw [HHX.out]
            simp only
            rw [← HSK.out, if_neg (by omega), Int.toNat_natCast, List.getD_eq_getElem?_getD, hp, HCS.out, List.getD_eq_getElem?_getD, hse]
            rfl)
          obtain ⟨T, hT1, hT2⟩ := own_cut HO10.out x.rows.length hxy
          have e1 : y.rows.drop x.rows.length = outsI c m := by rw [HYR.out]; simp
          rw [e1] at hT1
          have HBT := Lib.hid (show bp ∉ T from fun hh => by
            have h1 := hT2 bp hh
            have h2 := HBK.out.p
            have h3 := HS2.out.m.size
            have h4 := HB9.out.size
            simp at h1
            omega)
          obtain ⟨vd, hvd⟩ : ∃ vd, vd = sliced pa x.rows.length y.rows.length pc 5 := ⟨_, rfl⟩
          have hsl : ∀ w, (Instr.slice 59 (.slice pa y.rows.length pc) (some (.int .i64 (x.rows.length : Int))) none none).run Tryz.prog w = .ok vd w := fun w => by rw [hvd]; exact slice59 pa _ pc _ hxy w
          rw [← hvd] at hT1
          have HT := Lib.hid (hT1.same (w' := w10.drew) (fun x hx => rfl))
          obtain ⟨s1, s2, s3, s4, s5⟩ := s
          have pp10 := HS10.out.cell HPP5.out HPPD.out.1 HPPD.out.2.1 HPPD.out.2.2
          have pp3 := pp10.c 3 _ rfl
          have ppl := pp10.lt
          have q0 : ∀ z, Below w10.heap.size w10 z → z.cell? ⟨sb, 3, none⟩ = some (.slice (some ⟨sg, 0, none⟩) r.length rc) := fun z hz => (hz.cell (p := ⟨sb, 3, none⟩) ppl).trans pp3
          have q1 : ∀ z, Below w10.heap.size w10 z → z.cell? ⟨sg, j * 5, none⟩ = some (.int .u64 s1) := fun z hz => (hz.cell (p := ⟨sg, j * 5, none⟩) hsglt).trans (HXS.out 0 _ rfl)
          have q2 : ∀ z, Below w10.heap.size w10 z → z.cell? ⟨sg, j * 5 + 1, none⟩ = some (.int .u64 s2) := fun z hz => (hz.cell (p := ⟨sg, j * 5 + 1, none⟩) hsglt).trans (HXS.out 1 _ rfl)
          have q3 : ∀ z, Below w10.heap.size w10 z → z.cell? ⟨sg, j * 5 + 2, none⟩ = some (.int .i64 s3) := fun z hz => (hz.cell (p := ⟨sg, j * 5 + 2, none⟩) hsglt).trans (HXS.out 2 _ rfl)
          have q4 : ∀ z, Below w10.heap.size w10 z → z.cell? ⟨sg, j * 5 + 3, none⟩ = some (.int .i64 s4) := fun z hz => (hz.cell (p := ⟨sg, j * 5 + 3, none⟩) hsglt).trans (HXS.out 3 _ rfl)
          have q5 : ∀ z, Below w10.heap.size w10 z → z.cell? ⟨sg, j * 5 + 4, none⟩ = some (.int .i64 s5) := fun z hz => (hz.cell (p := ⟨sg, j * 5 + 4, none⟩) hsglt).trans (HXS.out 4 _ rfl)
          have q6 : ∀ z, Below w10.heap.size w10 z → z.cell? ⟨ab + 1, m, none⟩ = some (.int .i64 (x.rows.length : Int)) := fun z hz => (hz.cell (p := ⟨ab + 1, m, none⟩) lh10).trans ch10
          clear hcs hse hp hP0 hT1 hT2 e1 hvd pp10 pp3
          refine wp_region_pt 14 (fun z => Below w10.heap.size w10 z) (.take 0 <| .take 1 <| .take 2 <| .take 3 <| .take 4 <| .take 5 <| .take 6 <| .take 7 <| .take 8 <| .take 9 <| .take 10 <| .take 11 <| .take 12 <| .take 13 <| .done) ?plAD (by kernel_rfl) (by kernel_rfl) ?plBD (by intro c a d v w; exact fun h => HQP.out _ _ _ _ _ h) ?plCD ?_
          case plBD =>
            simp only [Pt.with, List.getElem?_toArray, List.getElem?_cons_zero, List.getElem?_cons_succ]
            try rfl
          case plCD => exact bel_draw (Below.refl _ _)
          iterate 14 (refine wpPt_take (v := ?_) (by rfl) (fun w' hS => ?_) ?_; rotate_left; (focus (go_simp; with_reducible rfl)); simp only [Act.put, List.setIfInBounds_toArray, List.set_cons_zero, List.set_cons_succ])
          refine wpPt_done ?_
          try simp only [List.drop_succ_cons, List.drop_zero]
          clear q0 q1 q2 q3 q4 q5 q6 hsl
          go_wp2_with (go_at_call 31; (with_reducible refine (give_any bp j (givM c m) p HP.out ⟨s1, s2, s3, s4, s5⟩ m (by omega) vd (outsI c m) T _ HS10.out.p.drew HPK.out.1 HPK.out.2 HT.out HBT.out).mono ?_); rintro e w11 ⟨⟨u, rfl⟩, hat, hmm⟩; have HAT := Lib.hid hat; have HMM := Lib.hid hmm; clear hat hmm)
          go_roundg (8 - (m + 1))
          case measure => omega
          case rel =>
            have hab5 : ab + 1 ∉ [bp] := by have := HBK.out.p; simp; omega
            refine ⟨m + 1, S3, by omega, rfl, by go_num, ?_, HH10.out.drew.mod HMM.out hab5, HN10.out⟩
            rw [HG.out]
            exact (HS10.out.below HBK.out (bel_draw (Below.refl _ _))).pot HBK.out HMM.out HAT.out
    · obtain rfl : m = 8 := by omega
      rw [HMP.out] at HS2
      have pp := HS2.out.cell HPP5.out HPPD.out.1 HPPD.out.2.1 HPPD.out.2.2
      have pp3 := pp.c 3 _ rfl
      have ppl := pp.lt
      clear pp HH2 HN2 hbl2
      go_wp2_with fail
      clear pp3 ppl
      go_loopg [150] r.length (fun g v150 wx => ∃ (n : Nat) (f3 : Nat → List RelV) (S3 : List Nat) (vs3 : List Value), n ≤ r.length ∧ g = r.length - n ∧ v150 = .int .i64 n ∧ SnkS w5 Fa wx a c.tick bp bw (tellM (midC c) n).pots f3 S3 vs3 ∧ SnkI (tellM (midC c) n) f3 (8000 * i + 32 * (6 * i)) ∧ vs3.length = r.length ∧ ∀ j, (f3 j).length ≤ i + (if j < n then 1 else 0))
      case atStart => exact ⟨0, f, S2, vs, by omega, by omega, rfl, HS2.out, HMID.out, hvl, fun j => by have := HFLN.out j; omega⟩
      case round =>
        obtain ⟨n, f3, S3, vs3, hn, rfl, rfl, hs, hi3, hv3, hf3⟩ := hrel
        have HF3 := Lib.hid hf3
        clear hf3
        have HS3 := Lib.hid hs
        have HI3 := Lib.hid hi3
        clear hs hi3 HS2
        by_cases hnr : n < r.length
        · obtain ⟨s, hse⟩ : ∃ s, r[n]? = some s := ⟨r[n], by simp [hnr]⟩
          have HSE := Lib.hid hse
          obtain ⟨sg, sc2, hsg, _, hsglt, _, _, hcs⟩ := own_form (HS3.out.own HO5.out HSLD.out) (by omega)
          simp only [Value.slice.injEq, true_and] at hsg
          obtain ⟨rfl, rfl⟩ := hsg
          have HXS := Lib.hid (fun (jj : Nat) (u : Value) (hu : s.cs[jj]? = some u) => hcs (n * 5 + jj) u (flat_get (cs := SinkV.cs) (k := 5) (fun _ => rfl) hse hu))
          have hsbd := HSET.out.sinks s (List.mem_of_getElem? hse)
          have HSB2 := Lib.hid hsbd
          have hms := tellM_same (midC c) n
          have hpl : n < (tellM (midC c) n).pots.length := by rw [tellM_plen, midC_plen HMP.out, HJ.out.ok.pots, HCS.out]; exact hnr
          obtain ⟨p, hp⟩ : ∃ p, (tellM (midC c) n).pots[n]? = some p := ⟨(tellM (midC c) n).pots[n], by simp [hpl]⟩
          have HP := Lib.hid hp
          obtain ⟨v0, hv0⟩ : ∃ v, vs3[n]? = some v := ⟨vs3[n]'(by omega), by simp [hv3, hnr]⟩
          have HV0 := Lib.hid hv0
          obtain ⟨tk, htk⟩ : ∃ tk : Nat, tk = c.tick.ticks := ⟨_, rfl⟩
          have htk2 : (tellM (midC c) n).ticks = tk := by rw [hms.1, htk, HTT.out.1]; rfl
          have hsn : (tellM (midC c) n).sinks[n]? = some s := by rw [hms.2, midC_sinks, HCS.out]; exact hse
          have HNO := Lib.hid (fun (h : epochOk s tk = false) => tell_no (c := tellM (midC c) n) hsn (by rw [htk2]; exact h) f3)
          have HYES := Lib.hid (show epochOk s tk = true → ((tellM (midC c) n).tell1 n).pots = (tellM (midC c) n).pots.set n (PotV.new s) ∧ tellF (tellM (midC c) n) n f3 = fun k => if k = n then f3 n ++ [p.tell s n (epochI s tk)] else f3 k from fun h => by
            have h2 := tell_yes (c := tellM (midC c) n) hsn hp (by rw [htk2]; exact h) f3
            rw [htk2] at h2
            exact h2)
          have HIT := Lib.hid (HI3.out.tell n (by rw [hms.2, midC_sinks, HCS.out]; exact hnr))
          have htk1 : 1 ≤ tk := by rw [htk, HTT.out.1]; omega
          have htk9 : tk ≤ 1000000 := by rw [htk]; have := HOKT.out.ticks; omega
          have HTK := Lib.hid htk
          clear hcs hse hsbd hms hpl hp hv0 htk2 hsn htk
          obtain ⟨s1, s2, s3, s4, s5⟩ := s
          have x0 := HXS.out 0 _ rfl
          have x1 := HXS.out 1 _ rfl
          have x2 := HXS.out 2 _ rfl
          have x3 := HXS.out 3 _ rfl
          have x4 := HXS.out 4 _ rfl
          simp only [Nat.add_zero] at x0
          go_upto_region 42 with fail
          obtain ⟨wb, hwb⟩ : ∃ wb, wb = wr.alloc (.cells #[.int .u64 s1, .int .u64 s2, .int .i64 s3, .int .i64 s4, .int .i64 s5] 49) := ⟨_, rfl⟩
          obtain ⟨tb, htb⟩ : ∃ tb, tb = wr.heap.size := ⟨_, rfl⟩
          have hwbb : Below wr.heap.size wr wb := by rw [hwb]; exact bel_alloc (Below.refl _ _) _
          have HTB := Lib.hid (show At wb tb [.int .u64 s1, .int .u64 s2, .int .i64 s3, .int .i64 s4, .int .i64 s5] by rw [hwb, htb]; exact At.new wr _ _)
          have HSb := Lib.hid (HS3.out.below HBK.out (hwbb.trans (bel_le (bel_draw (Below.refl _ wb)) hwbb.size)))
          have htbl : tb < wb.heap.size := HTB.out.lt
          have htb5 : w5.heap.size ≤ tb := by rw [htb]; exact HS3.out.m.size
          have HVT := Lib.hid (show ∀ x ∈ v0.ownBlock.toList, w5.heap.size ≤ x ∧ x < tb from fun x hx => ⟨own_new (HS3.out.o n v0 HV0.out) x hx, by rw [htb]; exact own_lt (HS3.out.o n v0 HV0.out) x hx⟩)
          rw [← hwb, ← htb]
          clear hwb hwbb x0 x1 x2 x3 x4 HXS htb HS3
          refine wp_region_plB (fun w0 => w0 = wb) ?phE (.take 0 <| .take 1 <| .doo 2 <| .doo 3 <| .take 4 <| .take 5 <| .take 6 <| .take 7 <| .take 8 <| .done) ?plLE (by kernel_rfl) (by kernel_rfl) (by kernel_rfl) ?plHE (by intro c a d v w; exact fun h => HQP.out _ _ _ _ _ h) ?_
          case plHE =>
            simp only [Pl.with, List.getElem?_toArray, List.getElem?_cons_zero, List.getElem?_cons_succ]
            try rfl
          case phE => rfl
          rintro w0 hw0
          rw [hw0]
          clear hw0
          have y0 : ∀ z, Below wb.heap.size wb z → z.cell? ⟨tb, 0, none⟩ = some (.int .u64 s1) := fun z hz => (HTB.out.below hz).c 0 _ rfl
          have y1 : ∀ z, Below wb.heap.size wb z → z.cell? ⟨tb, 1, none⟩ = some (.int .u64 s2) := fun z hz => (HTB.out.below hz).c 1 _ rfl
          have y2 : ∀ z, Below wb.heap.size wb z → z.cell? ⟨tb, 2, none⟩ = some (.int .i64 s3) := fun z hz => (HTB.out.below hz).c 2 _ rfl
          have y3 : ∀ z, Below wb.heap.size wb z → z.cell? ⟨tb, 3, none⟩ = some (.int .i64 s4) := fun z hz => (HTB.out.below hz).c 3 _ rfl
          have y4 : ∀ z, Below wb.heap.size wb z → z.cell? ⟨tb, 4, none⟩ = some (.int .i64 s5) := fun z hz => (HTB.out.below hz).c 4 _ rfl
          iterate 2 (refine wpPl_take (v := ?_) (by rfl) (fun w' hS => ?_) ?_; rotate_left; (focus (go_simp; with_reducible rfl)); simp only [Act.put, List.setIfInBounds_toArray, List.set_cons_zero, List.set_cons_succ])
          clear y0 y1 y2 y3 y4
          refine wpPl_do (by rfl) (fun K hK => ?_)
          go_wp2_with (go_at_call 33; (with_reducible refine (ticks_at a S3 c.tick _ HSb.out.c).mono ?_); rintro e w6 ⟨rfl, rfl⟩; rw [← HTK.out])
          refine ⟨bel_draw (Below.refl _ _), ?_⟩
          refine wpPl_do (by rfl) (fun K hK => ?_)
          go_wp2_with (go_at_call 32; (with_reducible refine (epoch_any ⟨s1, s2, s3, s4, s5⟩ tk htk1 htk9 HSB2.out.k1 (by have := HSB2.out.k2; omega) _).mono ?_); rintro e w7 ⟨⟨en, rfl, hen⟩, hb7⟩; have HEN := Lib.hid hen; have HB7 := Lib.hid hb7; clear hen hb7)
          refine ⟨below_step (bel_draw (Below.refl _ _)) HB7.out, ?_⟩
          iterate 5 (refine wpPl_take (v := ?_) (by rfl) (fun w' hS => ?_) ?_; rotate_left; (focus (go_simp; with_reducible rfl)); simp only [Act.put, List.setIfInBounds_toArray, List.set_cons_zero, List.set_cons_succ])
          refine wpPl_done ?_
          have HS7 := Lib.hid (HSb.out.below HBK.out HB7.out)
          have HTB7 := Lib.hid (HTB.out.drew.below HB7.out)
          have HB37 := Lib.hid HB7.out.size
          clear HSb HTB
          cases heo : epochOk ⟨s1, s2, s3, s4, s5⟩ (tk : Int) with
          | false =>
            have hno := HNO.out heo
            go_wp2_with fail
            go_roundg (r.length - (n + 1))
            case measure => omega
            case rel =>
              refine ⟨n + 1, f3, S3, vs3, by omega, rfl, by go_num, ?_, ?_, hv3, fun j => ?_⟩
              · rw [tellM_succ, hno.1]
                exact HS7.out
              · rw [tellM_succ]
                have h2 := HIT.out
                rw [hno.2] at h2
                exact h2
              · have := HF3.out j
                split at this <;> split <;> omega
          | true =>
            have HY2 := Lib.hid (HYES.out heo)
            have hE := HEN.out heo
            subst hE
            go_upto_region 44 with fail
            obtain ⟨va, vc, rfl⟩ := own_shape2 (HS7.out.o n v0 HV0.out)
            obtain ⟨p1, p2, p3, p4⟩ := p
            obtain ⟨⟨r1, r2, r3, r4⟩, hR⟩ : ∃ R : RelV, R = PotV.tell ⟨p1, p2, p3, p4⟩ ⟨s1, s2, s3, s4, s5⟩ (n : Int) (epochI ⟨s1, s2, s3, s4, s5⟩ tk) := ⟨_, rfl⟩
            have htl := fun y => tell_any ⟨p1, p2, p3, p4⟩ ⟨s1, s2, s3, s4, s5⟩ (n : Int) (epochI ⟨s1, s2, s3, s4, s5⟩ tk) y
            rw [← hR] at htl
            have HTL := Lib.hid htl
            have hy2 := HY2.out
            rw [← hR] at hy2
            have HY3 := Lib.hid hy2
            obtain ⟨ep, hep⟩ : ∃ ep, ep = epochI ⟨s1, s2, s3, s4, s5⟩ (tk : Int) := ⟨_, rfl⟩
            rw [← hep] at HTL ⊢
            clear htl hy2 hR HY2 HYES HNO HEN hep
            obtain ⟨i0, hi3, hz0, hz1, hz2⟩ := info_parts info52
            have HI := Lib.hid (And.intro hi3 (And.intro hz0 (And.intro hz1 hz2)))
            clear hi3 hz0 hz1 hz2
            have hbpw := HBK.out.p
            have hbww := HBK.out.q
            have hbne := HBK.out.ne
            obtain ⟨L, hL⟩ : ∃ L : List (Nat × Nat × Value), L = [(bw, n, .slice va (f3 n).length vc), (bp, n * 4, .int .i64 p1), (bp, n * 4 + 1, .int .i64 p2), (bp, n * 4 + 2, .int .i64 p3), (bp, n * 4 + 3, .int .u64 p4), (tb, 0, .int .u64 s1), (tb, 1, .int .u64 s2), (tb, 2, .int .i64 s3), (tb, 3, .int .i64 s4), (tb, 4, .int .i64 s5)] := ⟨_, rfl⟩
            have HCL := Lib.hid (show Cl L w7 from by
              rw [hL]
              exact Cl.cons (HS7.out.q.c n _ HV0.out) (Cl.cons (HS7.out.p.c (n * 4) _ (potcs_at HP.out (j := 0) (by decide) rfl)) (Cl.cons (HS7.out.p.c (n * 4 + 1) _ (potcs_at HP.out (j := 1) (by decide) rfl)) (Cl.cons (HS7.out.p.c (n * 4 + 2) _ (potcs_at HP.out (j := 2) (by decide) rfl)) (Cl.cons (HS7.out.p.c (n * 4 + 3) _ (potcs_at HP.out (j := 3) (by decide) rfl)) (Cl.cons (HTB7.out.c 0 _ rfl) (Cl.cons (HTB7.out.c 1 _ rfl) (Cl.cons (HTB7.out.c 2 _ rfl) (Cl.cons (HTB7.out.c 3 _ rfl) (Cl.cons (HTB7.out.c 4 _ rfl) (Cl.nil _)))))))))))
            have HLB := Lib.hid (show ∀ x ∈ L, x.1 ∉ (Value.slice va (f3 n).length vc).ownBlock.toList from fun x hx hh => by
              have h1 := HVT.out _ hh
              rw [hL] at hx
              simp only [List.mem_cons, List.not_mem_nil, or_false] at hx
              rcases hx with rfl | rfl | rfl | rfl | rfl | rfl | rfl | rfl | rfl | rfl <;> simp at h1 <;> omega)
            have y0 : ∀ z, Cl L z → z.cell? ⟨tb, 0, none⟩ = some (.int .u64 s1) := fun z hz => by rw [hL] at hz; exact hz.at _ _ _ (by simp)
            have y1 : ∀ z, Cl L z → z.cell? ⟨tb, 1, none⟩ = some (.int .u64 s2) := fun z hz => by rw [hL] at hz; exact hz.at _ _ _ (by simp)
            have y2 : ∀ z, Cl L z → z.cell? ⟨tb, 2, none⟩ = some (.int .i64 s3) := fun z hz => by rw [hL] at hz; exact hz.at _ _ _ (by simp)
            have y3 : ∀ z, Cl L z → z.cell? ⟨tb, 3, none⟩ = some (.int .i64 s4) := fun z hz => by rw [hL] at hz; exact hz.at _ _ _ (by simp)
            have y4 : ∀ z, Cl L z → z.cell? ⟨tb, 4, none⟩ = some (.int .i64 s5) := fun z hz => by rw [hL] at hz; exact hz.at _ _ _ (by simp)
            have y5 : ∀ z, Cl L z → z.cell? ⟨bw, n, none⟩ = some (.slice va (f3 n).length vc) := fun z hz => by rw [hL] at hz; exact hz.at _ _ _ (by simp)
            have y6 : ∀ z, Cl L z → z.cell? ⟨bp, n * 4, none⟩ = some (.int .i64 p1) := fun z hz => by rw [hL] at hz; exact hz.at _ _ _ (by simp)
            have y7 : ∀ z, Cl L z → z.cell? ⟨bp, n * 4 + 1, none⟩ = some (.int .i64 p2) := fun z hz => by rw [hL] at hz; exact hz.at _ _ _ (by simp)
            have y8 : ∀ z, Cl L z → z.cell? ⟨bp, n * 4 + 2, none⟩ = some (.int .i64 p3) := fun z hz => by rw [hL] at hz; exact hz.at _ _ _ (by simp)
            have y9 : ∀ z, Cl L z → z.cell? ⟨bp, n * 4 + 3, none⟩ = some (.int .u64 p4) := fun z hz => by rw [hL] at hz; exact hz.at _ _ _ (by simp)
            clear hL
            refine wp_region_pt 17 (Cl L) (.take 0 <| .take 1 <| .take 2 <| .take 3 <| .take 4 <| .take 5 <| .take 6 <| .take 7 <| .take 8 <| .take 9 <| .take 10 <| .take 11 <| .take 12 <| .doo 13 <| .doo 14 <| .doo 15 <| .take 16 <| .done) ?plAF (by kernel_rfl) (by kernel_rfl) ?plBF (by intro c a d v w; exact fun h => HQP.out _ _ _ _ _ h) ?plCF ?_
            case plBF =>
              simp only [Pt.with, List.getElem?_toArray, List.getElem?_cons_zero, List.getElem?_cons_succ]
              try rfl
            case plCF => exact HCL.out.drew
            iterate 13 (refine wpPt_take (v := ?_) (by rfl) (fun w' hS => ?_) ?_; rotate_left; (focus (go_simp; with_reducible rfl)); simp only [Act.put, List.setIfInBounds_toArray, List.set_cons_zero, List.set_cons_succ])
            clear y0 y1 y2 y3 y4 y5 y6 y7 y8 y9
            refine wpPt_do (by rfl) (fun K hK => ?_)
            go_wp2_with (go_at_call 34; (with_reducible refine (HTL.out _).mono ?_); rintro e w8 ⟨rfl, hb8⟩; have HB8 := Lib.hid hb8; clear hb8)
            refine ⟨HCL.out.drew.below HB8.out, ?_⟩
            refine wpPt_do (by rfl) (fun K hK => ?_)
            go_wp2_with fail
            have HC8 := Lib.hid ((HCL.out.drew.below HB8.out).alloc (.cells #[.int .i64 r1, .int .i64 r2, .int .i64 r3, .bool r4] 52))
            have HS8 := Lib.hid (HS7.out.below HBK.out ((bel_draw (Below.refl _ w7)).trans (bel_alloc (bel_le HB8.out (by simp)) (.cells #[.int .i64 r1, .int .i64 r2, .int .i64 r3, .bool r4] 52))))
            have HR8 := Lib.hid (show RdR RelV.cs 4 (w8.alloc (.cells #[.int .i64 r1, .int .i64 r2, .int .i64 r3, .bool r4] 52)) (.slice (some ⟨w8.heap.size, 0, none⟩) 1 1) [(⟨r1, r2, r3, r4⟩ : RelV)] [w8.heap.size] from rdr_lone (At.new w8 _ _))
            have HT8 := Lib.hid ((HTB7.out.drew.below HB8.out).alloc (.cells #[.int .i64 r1, .int .i64 r2, .int .i64 r3, .bool r4] 52))
            refine ⟨HC8.out, ?_⟩
            refine wpPt_do (by rfl) (fun K hK => ?_)
            have hfn : (f3 n).length ≤ i := by have := HF3.out n; rw [if_neg (by omega)] at this; exact this
            refine wp_append_rdr (.tmp 168) (.tmp 177) 46 rfl w5.heap.size 52 i0 _ 4 32 Tryz.underlying46 HI.out.1 HI.out.2.1 HI.out.2.2.1 HI.out.2.2.2 rfl (by decide) (by decide) (fun _ => rfl) RelV.one (.slice va (f3 n).length vc) (f3 n) rfl (HS8.out.o n _ HV0.out) (.slice (some ⟨w8.heap.size, 0, none⟩) 1 1) [(⟨r1, r2, r3, r4⟩ : RelV)] _ rfl HR8.out (by simp; omega) HS8.out.m.size ?_
            intro v' w9 hown9 hgrow9 hat9
            obtain ⟨va2, vc2, rfl⟩ := own_shape2 hown9
            have hm9 : Mod (Value.slice va (f3 n).length vc).ownBlock.toList _ w9 := Mod.of_grown hgrow9 _ (fun x hx => .inl (by simpa using hx))
            have HC9 := Lib.hid (HC8.out.mod hm9 HLB.out)
            have hT9 := HT8.out.mod hm9 (fun hh => by have := HVT.out _ hh; omega)
            have hs9 := HS8.out.want HBK.out HV0.out hgrow9 hown9 hat9
            rw [show (f3 n ++ [(⟨r1, r2, r3, r4⟩ : RelV)]).length = (f3 n).length + 1 by simp] at hs9
            have HS9 := Lib.hid hs9
            clear hs9
            have hq9 := HS8.out.q.mod hm9 (fun hh => by have := HVT.out _ hh; omega)
            have c9 := hq9.c n _ HV0.out
            have f9 := hq9.f n
            have l9 := hq9.lt
            clear hown9 hgrow9 hat9 hm9 hq9
            refine hK _ _ ⟨HC9.out, ?_⟩
            simp only [Act.put, List.setIfInBounds_toArray, List.set_cons_zero, List.set_cons_succ]
            iterate 1 (refine wpPt_take (v := ?_) (by rfl) (fun w' hS => ?_) ?_; rotate_left; (focus (go_simp; with_reducible rfl)); simp only [Act.put, List.setIfInBounds_toArray, List.set_cons_zero, List.set_cons_succ])
            refine wpPt_done ?_
            try simp only [List.drop_succ_cons, List.drop_zero]
            have htw : ¬ tb = bw := by omega
            have x0 := hT9.c 0 _ rfl
            have x1 := hT9.c 1 _ rfl
            have x2 := hT9.c 2 _ rfl
            have x3 := hT9.c 3 _ rfl
            have x4 := hT9.c 4 _ rfl
            have ltb := hT9.lt
            clear hT9
            go_wp2_with (go_at_call 28; (with_reducible refine (snew_any ⟨s1, s2, s3, s4, s5⟩ _).mono ?_); rintro e w10 ⟨rfl, hb10⟩; have hs10 := HS9.out.below HBK.out hb10; have pb := hs10.p; have f0 := pb.f (n * 4); have f1 := pb.f (n * 4 + 1); have f2 := pb.f (n * 4 + 2); have f3' := pb.f (n * 4 + 3); have t0 := pb.c (n * 4) _ (potcs_at HP.out (j := 0) (by decide) rfl); have t1 := pb.c (n * 4 + 1) _ (potcs_at HP.out (j := 1) (by decide) rfl); have t2 := pb.c (n * 4 + 2) _ (potcs_at HP.out (j := 2) (by decide) rfl); have t3 := pb.c (n * 4 + 3) _ (potcs_at HP.out (j := 3) (by decide) rfl); have l10 := pb.lt; have HS10 := Lib.hid hs10; clear hs10 pb hb10)
            go_roundg (r.length - (n + 1))
            case measure => omega
            case rel =>
              have hpl : n < (tellM (midC c) n).pots.length := (List.getElem?_eq_some_iff.1 HP.out).1
              have hfl : ((tellM (midC c) n).pots.flatMap PotV.cs).length = (tellM (midC c) n).pots.length * 4 := flat_len (cs := PotV.cs) (k := 4) (fun _ => rfl) _
              have h := ((((HS10.out.p.set (n * 4) (.int .i64 (PotV.new ⟨s1, s2, s3, s4, s5⟩).count) (by omega)).set (n * 4 + 1) (.int .i64 (PotV.new ⟨s1, s2, s3, s4, s5⟩).kind) (by rw [List.length_set]; omega)).set (n * 4 + 2) (.int .i64 (PotV.new ⟨s1, s2, s3, s4, s5⟩).value) (by rw [List.length_set, List.length_set]; omega)).set (n * 4 + 3) (.int .u64 (PotV.new ⟨s1, s2, s3, s4, s5⟩).who) (by rw [List.length_set, List.length_set, List.length_set]; omega))
              rw [pot_set4 HP.out (PotV.new ⟨s1, s2, s3, s4, s5⟩)] at h
              refine ⟨n + 1, fun k => if k = n then f3 n ++ [⟨r1, r2, r3, r4⟩] else f3 k, S3, vs3.set n (.slice va2 ((f3 n).length + 1) vc2), by omega, rfl, by go_num, ?_, ?_, by rw [List.length_set]; exact hv3, fun j => ?_⟩
              · rw [tellM_succ, HY3.out.1]
                exact HS10.out.pot HBK.out (((((Mod.refl _ _).set _ _ _ (.inl (by simp))).set _ _ _ (.inl (by simp))).set _ _ _ (.inl (by simp))).set _ _ _ (.inl (by simp))) h
              · rw [tellM_succ]
                have h2 := HIT.out
                rw [HY3.out.2] at h2
                exact h2
              · have := HF3.out j
                by_cases e : j = n
                · subst e
                  simp only [if_true, List.length_append, List.length_singleton]
                  rw [if_pos (by omega)]
                  omega
                · simp only [e, if_false]
                  split at this <;> split <;> omega
        · obtain rfl : n = r.length := by omega
          have htm : tellM (midC c) r.length = c.tick := by rw [tick_mid, HCS.out]
          rw [htm] at HS3 HI3
          go_wp2_with fail
          refine HKK.out _ _ ⟨f3, S3, vs3, ⟨?_, ?_, HOKT.out.wide (by omega) (by omega), HI3.out.wide (by omega)⟩, HS3.out, hv3, fun j => ?_⟩ rfl
          · rw [HTT.out.2]
            exact HJ.out.s
          · rw [HQC.out]
            exact HJ.out.q
          · have := HF3.out j
            split at this <;> omega
end Go.Proofs.YtcanfmabkklidaaGreat
