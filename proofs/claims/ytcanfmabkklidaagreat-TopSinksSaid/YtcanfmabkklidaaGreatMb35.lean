/- TopSinks: the end: what was told is what was wanted. -/
import Derived.Test.YtcanfmabkklidaaGreatMb34
set_option linter.unusedSimpArgs false
set_option linter.unusedVariables false
set_option linter.unnecessarySimpa false
namespace Go.Proofs.YtcanfmabkklidaaGreat
open Go.RowKit

set_option maxHeartbeats 4000000 in
set_option maxRecDepth 100000 in
theorem sfin_any {sl0 sl1 sl2 sl3 sl4 sl8 sl10 sl11 sl12 sl13 sl14 sl15 sl16 sl17 sl18 sl19 sl20 sl21 sl22 sl23 sl24 sl25 sl26 sl27 sl28 sl29 sl30 sl31 sl32 sl33 sl34 sl35 sl36 sl37 sl38 sl39 sl40 sl41 sl42 sl43 sl44 sl45 sl46 sl47 sl48 sl49 sl50 sl51 sl52 sl53 sl54 sl55 sl56 sl57 sl58 sl59 sl60 sl61 sl62 sl63 sl64 sl65 sl66 sl67 sl68 sl69 sl70 sl71 sl72 sl73 sl74 sl75 sl76 sl77 sl78 sl79 sl80 sl81 sl82 sl83 sl84 sl85 sl86 sl87 sl88 sl89 sl90 sl91 sl92 sl93 sl94 sl95 sl96 sl97 sl98 sl99 sl100 sl101 sl102 sl103 sl104 sl105 sl106 sl107 sl108 sl109 sl110 sl111 sl112 sl113 sl114 sl115 sl116 sl117 sl118 sl119 sl120 sl121 sl122 sl123 sl124 sl125 sl126 sl127 sl128 sl129 sl130 sl131 sl132 sl133 sl134 sl135 sl136 sl137 sl138 sl139 sl140 sl141 sl142 sl143 sl144 sl145 sl146 sl147 sl148 sl149 sl150 sl151 sl152 sl153 sl154 sl155 sl156 sl157 sl158 sl159 sl160 sl161 sl162 sl163 sl164 sl165 sl166 sl167 sl168 sl169 sl170 sl171 sl172 sl173 sl174 sl175 sl176 sl177 sl178 sl179 sl180 sl181 sl182 sl183 sl184 sl185 sl186 sl187 sl188 sl189 sl190 sl191 sl192 sl193 sl194 sl195 sl196 sl197 sl198 sl199 sl200 sl201 sl202 sl203 sl204 sl205 sl206 sl207 sl208 sl209 sl210 sl211 sl212 sl213 sl214 sl215 sl216 sl217 sl218 sl219 sl220 sl221 sl222 sl223 sl224 sl225 sl226 sl227 sl228 sl229 sl230 sl231 sl232 sl233 sl234 sl235 sl236 sl237 sl238 sl239 sl240 sl241 sl242 : Value} (W w5 : World) (Fa : List Nat) (a bp bw sb base M M2 : Nat) (B R Q : Int) (ra : Option Addr) (rc : Nat) (r : List SinkV) (c : CoreV) (f : Nat → List RelV) (S : List Nat) (vs : List Value) (wr : World) (X : Code) (hX : X = codeAt (Tryz.f8.body.getD .skip) [1, 1, 1, 1, 1, 1, 1, 1])
    (hBK : SnkB w5 Fa bp bw) (hPP5 : At w5 sb [.int .i64 B, .int .i64 R, .int .i64 Q, .slice ra r.length rc]) (hO5 : w5.ownsRow base 49 5 (.slice ra r.length rc) r.length (r.flatMap SinkV.cs)) (hPPD : sb ≠ bp ∧ sb ≠ bw ∧ sb ∉ Fa) (hSLD : ∀ x ∈ (Value.slice ra r.length rc).ownBlock.toList, x ≠ bp ∧ x ≠ bw ∧ x ∉ Fa)
    (hrl : r.length ≤ 2) (hM : M ≤ 240) (hJ : SnkJ r Q c f M M2) (hQ : 0 ≤ Q ∧ Q ≤ 1000) (hvl : vs.length = r.length) (hB05 : Below W.heap.size W w5) (hTD : ∀ x ∈ bp :: bw :: Fa, W.heap.size ≤ x)
    (hS : SnkS w5 Fa wr a c bp bw c.pots f S vs) :
    Code.wp Tryz.prog X (bodyPost Tryz.prog Tryz.f8 fun e w' => e = .returned (.bool true) ∧ Below W.heap.size W w') ⟨#[sl0, sl1, sl2, sl3, sl4, .pointer (some ⟨sb, 0, none⟩), .pointer (some ⟨a, 0, none⟩), .slice (some ⟨bp, 0, none⟩) r.length r.length, sl8, .slice (some ⟨bw, 0, none⟩) r.length r.length, sl10, sl11, sl12, sl13, sl14, sl15, sl16, sl17, sl18, sl19, sl20, sl21, sl22, sl23, sl24, sl25, sl26, sl27, sl28, sl29, sl30, sl31, sl32, sl33, sl34, sl35, sl36, sl37, sl38, sl39, sl40, sl41, sl42, sl43, sl44, sl45, sl46, sl47, sl48, sl49, sl50, sl51, sl52, sl53, sl54, sl55, sl56, sl57, sl58, sl59, sl60, sl61, sl62, sl63, sl64, sl65, sl66, sl67, sl68, sl69, sl70, sl71, sl72, sl73, sl74, sl75, sl76, sl77, sl78, sl79, sl80, sl81, sl82, sl83, sl84, sl85, sl86, sl87, sl88, sl89, sl90, sl91, sl92, sl93, sl94, sl95, sl96, sl97, sl98, sl99, sl100, sl101, sl102, sl103, sl104, sl105, sl106, sl107, sl108, sl109, sl110, sl111, sl112, sl113, sl114, sl115, sl116, sl117, sl118, sl119, sl120, sl121, sl122, sl123, sl124, sl125, sl126, sl127, sl128, sl129, sl130, sl131, sl132, sl133, sl134, sl135, sl136, sl137, sl138, sl139, sl140, sl141, sl142, sl143, sl144, sl145, sl146, sl147, sl148, sl149, sl150, sl151, sl152, sl153, sl154, sl155, sl156, sl157, sl158, sl159, sl160, sl161, sl162, sl163, sl164, sl165, sl166, sl167, sl168, sl169, sl170, sl171, sl172, sl173, sl174, sl175, sl176, sl177, sl178, sl179, sl180, sl181, sl182, sl183, sl184, sl185, sl186, sl187, sl188, sl189, sl190, sl191, sl192, sl193, sl194, sl195, sl196, sl197, sl198, sl199, sl200, sl201, sl202, sl203, sl204, sl205, sl206, sl207, sl208, sl209, sl210, sl211, sl212, sl213, sl214, sl215, sl216, sl217, sl218, sl219, sl220, sl221, sl222, sl223, sl224, sl225, sl226, sl227, sl228, sl229, sl230, sl231, sl232, sl233, sl234, sl235, sl236, sl237, sl238, sl239, sl240, sl241, sl242], []⟩ wr := by
  have HBK := Lib.hid hBK
  have HPP5 := Lib.hid hPP5
  have HO5 := Lib.hid hO5
  have HPPD := Lib.hid hPPD
  have HSLD := Lib.hid hSLD
  have HJ := Lib.hid hJ
  have HS := Lib.hid hS
  have HB05 := Lib.hid hB05
  have HTD := Lib.hid hTD
  have hcs : c.sinks = r := hJ.s
  have HCS := Lib.hid hcs
  have HQ0 := Lib.hid (show 0 ≤ c.quota by rw [hJ.q]; exact hQ.1)
  have HQ1 := Lib.hid (show c.quota ≤ 1000 by rw [hJ.q]; exact hQ.2)
  clear hBK hPP5 hO5 hPPD hSLD hJ hS hB05 hTD hcs hQ
  subst hX
  conv => arg 2; whnf
  go_wp2_with fail
  go_loopg [187] 8 (fun g v187 wx => ∃ (t : Nat) (S4 : List Nat), t ≤ 8 ∧ g = 8 - t ∧ v187 = .int .i64 t ∧ SnkS w5 Fa wx a c bp bw c.pots f S4 vs)
  case atStart => exact ⟨0, S, by omega, by omega, rfl, HS.out⟩
  case round =>
    obtain ⟨t, S4, ht, rfl, rfl, hs⟩ := hrel
    have HS4 := Lib.hid hs
    clear hs HS
    by_cases ht8 : t < 8
    · have hd8 : ((t : Int) < 8) := by omega
      have pp := HS4.out.cell HPP5.out HPPD.out.1 HPPD.out.2.1 HPPD.out.2.2
      have pp3 := pp.c 3 _ rfl
      have ppl := pp.lt
      clear pp
      go_wp2_with fail
      clear pp3 ppl
      go_loopg [193] r.length (fun g v193 wx => ∃ (n : Nat) (S5 : List Nat), n ≤ r.length ∧ g = r.length - n ∧ v193 = .int .i64 n ∧ SnkS w5 Fa wx a c bp bw c.pots f S5 vs)
      case atStart => exact ⟨0, S4, by omega, by omega, rfl, HS4.out⟩
      case round =>
        obtain ⟨n, S5, hn, rfl, rfl, hs⟩ := hrel
        have HS5 := Lib.hid hs
        clear hs HS4
        by_cases hnr : n < r.length
        · obtain ⟨s, hse⟩ : ∃ s, r[n]? = some s := ⟨r[n], by simp [hnr]⟩
          obtain ⟨sg, sc2, hsg, _, hsglt, _, _, hcs⟩ := own_form (HS5.out.own HO5.out HSLD.out) (by omega)
          simp only [Value.slice.injEq, true_and] at hsg
          obtain ⟨rfl, rfl⟩ := hsg
          have HXS := Lib.hid (fun (jj : Nat) (u : Value) (hu : s.cs[jj]? = some u) => hcs (n * 5 + jj) u (flat_get (cs := SinkV.cs) (k := 5) (fun _ => rfl) hse hu))
          obtain ⟨v0, hv0⟩ : ∃ v, vs[n]? = some v := ⟨vs[n]'(by omega), by simp [hvl, hnr]⟩
          have HV0 := Lib.hid hv0
          obtain ⟨X, hX⟩ : ∃ X, X = c.board t := ⟨_, rfl⟩
          have HXE := Lib.hid hX
          have hXl : X.length ≤ 240 := by rw [hX]; have := HJ.out.ok.bd t; omega
          have hfb := HJ.out.i.b t (by omega) n (by rw [HCS.out]; exact hnr)
          rw [← hX, ← ownR_all, HCS.out, List.getD_eq_getElem?_getD, hse] at hfb
          have HFB := Lib.hid hfb
          clear hcs hse hv0 hX hfb
          obtain ⟨s1, s2, s3, s4, s5⟩ := s
          have x0 := HXS.out 0 _ rfl
          have x1 := HXS.out 1 _ rfl
          have x2 := HXS.out 2 _ rfl
          have x3 := HXS.out 3 _ rfl
          have x4 := HXS.out 4 _ rfl
          simp only [Nat.add_zero] at x0
          obtain ⟨tb, htb⟩ : ∃ tb, tb = wr.heap.size := ⟨_, rfl⟩
          have HTB0 := Lib.hid (fun (w' : World) (hm : Mod S5 (wr.alloc (.cells #[.int .u64 s1, .int .u64 s2, .int .i64 s3, .int .i64 s4, .int .i64 s5] 49)) w') => show At w' tb [.int .u64 s1, .int .u64 s2, .int .i64 s3, .int .i64 s4, .int .i64 s5] from by rw [htb]; exact (At.new wr _ _).mod hm (fun hh => by have := HS5.out.c.lt _ hh; omega))
          go_wp2_with (go_at_call 13; (with_reducible refine (snk_told HBK.out (HS5.out.below HBK.out (bel_alloc (Below.refl _ _) _)) (M) t (by omega) HQ0.out HQ1.out HJ.out.ok (by omega)).mono ?_); rintro e w9 ⟨v9, S6, rfl, ho, hs6, hm6⟩; rw [← HXE.out] at ho; obtain ⟨xa, xc, rfl⟩ := own_shape2 ho; have HO9 := Lib.hid ho; have HS6 := Lib.hid hs6; have HTB := Lib.hid (HTB0.out w9 hm6); clear ho hs6 hm6)
          have HSM := Lib.hid HS6.out.m.size
          rw [← htb]
          clear HTB0 htb x0 x1 x2 x3 x4 HXS HS5
          obtain ⟨i0, hi3, hz0, hz1, hz2⟩ := info_parts info52
          have HI := Lib.hid (And.intro hi3 (And.intro hz0 (And.intro hz1 hz2)))
          clear hi3 hz0 hz1 hz2
          go_loopg [202, 26] X.length (fun g v202 v26 wx => ∃ (k : Nat) (oa : Option Addr) (oc : Nat), k ≤ X.length ∧ g = X.length - k ∧ v202 = .int .i64 k ∧ v26 = .slice oa (ownR X n k).length oc ∧ wx.ownsRow w9.heap.size 52 4 (.slice oa (ownR X n k).length oc) (ownR X n k).length ((ownR X n k).flatMap RelV.cs) ∧ Below w9.heap.size w9 wx)
          case atStart => exact ⟨0, none, 0, by omega, by omega, rfl, rfl, World.ownsRow_nil _ _ _ _, Below.refl _ _⟩
          case round =>
            obtain ⟨k, oa, oc, hk, rfl, rfl, rfl, ho, hb⟩ := hrel
            have HOW := Lib.hid ho
            have HBW := Lib.hid hb
            have hbz := hb.size
            clear ho hb
            have hol := ownR_len X n k
            by_cases hkl : k < X.length
            · obtain ⟨rr, hrr⟩ : ∃ rr, X[k]? = some rr := ⟨X[k], by simp [hkl]⟩
              obtain ⟨xg, xc2, hxg, _, hxgl, _, _, hxc⟩ := own_form HO9.out (by omega)
              simp only [Value.slice.injEq, true_and] at hxg
              obtain ⟨rfl, rfl⟩ := hxg
              have HXR := Lib.hid (fun (jj : Nat) (u : Value) (hu : rr.cs[jj]? = some u) => (HBW.out.cell (p := ⟨xg, k * 4 + jj, none⟩) hxgl).trans (hxc (k * 4 + jj) u (flat_get (cs := RelV.cs) (k := 4) (fun _ => rfl) hrr hu)))
              have HRR := Lib.hid hrr
              clear hxc hrr
              obtain ⟨r1, r2, r3, r4⟩ := rr
              have z0 := HXR.out 0 _ rfl
              have z1 := HXR.out 1 _ rfl
              have z2 := HXR.out 2 _ rfl
              have z3 := HXR.out 3 _ rfl
              simp only [Nat.add_zero] at z0
              by_cases hr : r1 = (n : Int)
              · have HOY := Lib.hid (ownR_yes (n := n) HRR.out hr)
                have e1 : (r1 == (n : Int)) = true := by simp [hr]
                have HB2 := Lib.hid (bel_alloc (bel_alloc (Below.refl _ wr) (.cells #[.int .i64 r1, .int .i64 r2, .int .i64 r3, .bool r4] 52)) (.cells #[.int .i64 r1, .int .i64 r2, .int .i64 r3, .bool r4] 52))
                clear hr
                go_wp2_with (at_builtin; refine wpList_append_rdr_at rfl (.tmp 210) (.tmp 212) 46 rfl w9.heap.size 52 i0 _ 4 32 Tryz.underlying46 HI.out.1 HI.out.2.1 HI.out.2.2.1 HI.out.2.2.2 rfl (by decide) (by decide) (fun _ => rfl) RelV.one (.slice oa (ownR X n k).length oc) (ownR X n k) rfl ((HOW.out.alloc _).alloc _) (.slice (some ⟨wr.heap.size + 1, 0, none⟩) 1 1) [(⟨r1, r2, r3, r4⟩ : RelV)] _ rfl (rdr_lone (At.newAt (by simp) _ _)) (by simp; omega) (by simp; omega) ?_; intro v2 w2 hown2 hgrow2 hat2; have HO2 := Lib.hid hown2; have HG2 := Lib.hid hgrow2; obtain ⟨ta2, tc2, rfl⟩ := own_shape2 hown2; clear hown2 hgrow2 hat2)
                go_roundg (X.length - (k + 1))
                case measure => omega
                case rel =>
                  have hb2 := HBW.out.trans (bel_le HB2.out hbz)
                  have hb3 := (Mod.of_grown HG2.out (Value.slice oa (ownR X n k).length oc).ownBlock.toList (fun x hx => .inl (by simpa using hx))).belowB hb2 hb2.size (fun x hx => own_new HOW.out x hx)
                  refine ⟨k + 1, ta2, tc2, by omega, rfl, by go_num, ?_, ?_, hb3⟩
                  · rw [HOY.out, List.length_append]
                    rfl
                  · rw [HOY.out]
                    exact HO2.out
              · have HOY := Lib.hid (ownR_no (n := n) HRR.out hr)
                have e1 : (r1 == (n : Int)) = false := by simp [hr]
                clear hr
                go_wp2_with fail
                go_roundg (X.length - (k + 1))
                case measure => omega
                case rel =>
                  refine ⟨k + 1, oa, oc, by omega, rfl, by go_num, ?_, ?_, HBW.out.trans (bel_le (bel_alloc (Below.refl _ _) _) hbz)⟩
                  · rw [HOY.out]
                  · rw [HOY.out]
                    exact HOW.out.alloc _
            · obtain rfl : k = X.length := by omega
              obtain ⟨own, hown⟩ : ∃ own, own = ownR X n X.length := ⟨_, rfl⟩
              rw [← hown] at HOW hol HFB ⊢
              have hs9 := HS6.out.below HBK.out HBW.out
              have HS9 := Lib.hid hs9
              have tt1 := (HTB.out.below HBW.out).c 1 _ rfl
              have ltb := (HTB.out.below HBW.out).lt
              have cw := hs9.q.c n _ HV0.out
              have lw := hs9.q.lt
              obtain ⟨va, vc, rfl⟩ := own_shape2 (hs9.o n v0 HV0.out)
              have HRW := Lib.hid (hs9.o n _ HV0.out)
              clear hs9 hown
              cases hh : hasI s2 t with
              | true =>
                have hf := HFB.out
                simp only [Option.getD_some, hh, if_true] at hf
                have HF := Lib.hid hf
                have HH := Lib.hid hh
                clear hf hh
                go_wp2_with (first
                  | (go_at_call 14; (with_reducible refine (has_any s2 t (by omega) _).mono ?_); rintro e w11 ⟨rfl, rfl⟩; rw [show (bits BinOp.and IntKind.u64 s2 ((2 ^ t : Nat) : Int) != 0) = true from HH.out])
                  | (go_at_call 23; (with_reducible refine (sameL _ _ own (f n) _ (RdR.of_own (cs := RelV.cs) (k := 4) (fun _ => rfl) HOW.out).isr (RdR.of_own (cs := RelV.cs) (k := 4) (fun _ => rfl) HRW.out).isr).mono ?_); rintro e w11 ⟨rfl, hb11⟩; rw [show decide (own = f n) = true from decide_eq_true HF.out]; have HB11 := Lib.hid hb11; have tt2 := (HTB.out.below HBW.out).below hb11 |>.c 1 _ rfl; clear hb11))
                go_roundg (r.length - (n + 1))
                case measure => omega
                case rel => exact ⟨n + 1, S6, by omega, rfl, by go_num, HS9.out.below HBK.out HB11.out⟩
              | false =>
                have hf := HFB.out
                simp only [Option.getD_some, hh, Bool.false_eq_true, if_false] at hf
                subst hf
                have HH := Lib.hid hh
                clear hh
                simp only [List.length_nil]
                go_wp2_with (go_at_call 14; (with_reducible refine (has_any s2 t (by omega) _).mono ?_); rintro e w11 ⟨rfl, rfl⟩; rw [show (bits BinOp.and IntKind.u64 s2 ((2 ^ t : Nat) : Int) != 0) = false from HH.out])
                go_roundg (r.length - (n + 1))
                case measure => omega
                case rel => exact ⟨n + 1, S6, by omega, rfl, by go_num, HS9.out⟩
        · obtain rfl : n = r.length := by omega
          go_wp2_with fail
          go_roundg (8 - (t + 1))
          case measure => omega
          case rel => exact ⟨t + 1, S5, by omega, rfl, by go_num, HS5.out⟩
    · obtain rfl : t = 8 := by omega
      go_wp2_with (go_at_call 15; (with_reducible refine (awake_any _).mono ?_); rintro e w9 ⟨rfl, hb9⟩; have HB9 := Lib.hid hb9; clear hb9)
      go_ret
      exact ⟨rfl, below_step (HS4.out.m.belowB HB05.out HB05.out.size HTD.out) HB9.out⟩
end Go.Proofs.YtcanfmabkklidaaGreat
