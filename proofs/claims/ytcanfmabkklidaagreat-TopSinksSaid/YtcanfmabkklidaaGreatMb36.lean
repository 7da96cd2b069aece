/- TopSinks: the walk. -/
import Derived.Test.YtcanfmabkklidaaGreatMb35
set_option linter.unusedSimpArgs false
set_option linter.unusedVariables false
set_option linter.unnecessarySimpa false
namespace Go.Proofs.YtcanfmabkklidaaGreat
open Go.RowKit

theorem snk_R {x : ActV} (h : ActBd x) : ActR x.m := ⟨by have := h.t1; have := h.t2; show x.tenant.toNat ≤ 7; omega, fun hk => (h.pipe hk).m⟩
set_option maxHeartbeats 4000000 in
set_option maxRecDepth 100000 in
theorem tsinks_any (W : World) (kb kr kq : Int) (vs0 : Value) (ks : List KSinkV) (hks : IsR KSinkV.cs 5 W vs0 ks) (v1 : Value) (l : List KActV) (hl : IsR KActV.cs 15 W v1 l) (hlo : ∀ k ∈ l, k.ok W) :
    Calls Tryz.prog 8 #[.agg #[.int .i64 kb, .int .i64 kr, .int .i64 kq, vs0], v1] W fun e w' => e = .returned (.bool true) ∧ Below W.heap.size W w' := by
  obtain ⟨ka, kc, rfl, _⟩ := id hks
  have HKS := Lib.hid (fun (w' : World) (hb : Below W.heap.size W w') => hks.kept hb)
  have HL := Lib.hid (fun (w' : World) (hb : Below W.heap.size W w') => hl.kept hb)
  have HLO := Lib.hid hlo
  clear hks hl hlo
  go_enter Tryz.func8, Tryz.ntmps8
  go_upto_region 5 with (first
    | (go_at_call 9; (with_reducible refine (setup_any _ _ ks kb kr kq (HKS.out _ (bel_alloc (Below.refl _ W) _))).mono ?_); rintro e w1 ⟨B, R, Q, vr, r, rfl, ho, hset, hb⟩; have HO1 := Lib.hid ho; have HSET := Lib.hid hset; have HB1 := Lib.hid (below_step (bel_alloc (Below.refl _ W) _) hb); obtain ⟨ra, rc, rfl⟩ := own_shape2 ho; have hs1 := HB1.out.size; have HRD := Lib.hid (fun (o : Obj) => RdR.of_own sinkcs_len' (HO1.out.alloc o)); clear ho hset hb)
    | (go_at_call 10; (with_reducible refine (cnew10 _ r _ B R Q _ (HRD.out _) HSET.out).mono ?_); rintro e w3 ⟨a, Fa, rfl, hc, hF, hb⟩; have HC := Lib.hid hc; have HF := Lib.hid hF; have pp := (At.new w1 #[.int .i64 B, .int .i64 R, .int .i64 Q, .slice ra r.length rc] 28).below hb; have HPP := Lib.hid pp; have pp3 := pp.c 3 _ rfl; have ppl := pp.lt; have HB3 := Lib.hid (below_step (bel_alloc HB1.out _) hb); have HO3 := Lib.hid (own_of_block (HO1.out.alloc _) (fun x hx => hb.block x (own_lt (HO1.out.alloc _) x hx))); clear hc hF hb pp))
  have hrl : r.length ≤ 2 := HSET.out.len
  have hmk := mk81 r.length hrl
  go_wp2_with fail
  clear hmk
  obtain ⟨w4, hw4⟩ : ∃ w4, w4 = w3.alloc (.cells ((List.replicate r.length (⟨0, 0, 0, 0⟩ : PotV)).flatMap PotV.cs).toArray 87) := ⟨_, rfl⟩
  have HA4 := Lib.hid (show At w4 w3.heap.size ((potsK r 0).flatMap PotV.cs) by rw [hw4, potsK_zero]; exact At.new w3 _ _)
  have hb34 : Below w3.heap.size w3 w4 := by rw [hw4]; exact bel_alloc (Below.refl _ _) _
  have HB34 := Lib.hid hb34
  have HPP4 := Lib.hid (HPP.out.below hb34)
  have HC4 := Lib.hid (HC.out.below hb34)
  have HB4 := Lib.hid (below_step HB3.out hb34)
  have HO4 := Lib.hid (own_of_block HO3.out (fun x hx => hb34.block x (own_lt HO3.out x hx)))
  have HSL := Lib.hid (show ∀ x ∈ (Value.slice ra r.length rc).ownBlock.toList, x < w1.heap.size from own_lt HO1.out)
  have HFL := Lib.hid (show ∀ x ∈ Fa, x < w3.heap.size ∧ w1.heap.size + 1 ≤ x from fun x hx => ⟨HC.out.lt x hx, by have := HF.out x hx; simpa using this⟩)
  have hs34 : w4.heap.size = w3.heap.size + 1 := by rw [hw4]; simp
  have hs13 : w1.heap.size + 1 ≤ w3.heap.size := by have := HPP.out.lt; omega
  try rw [← hw4]
  clear hw4 hb34 pp3
  obtain ⟨bp, hbp⟩ : ∃ bp, bp = w3.heap.size := ⟨_, rfl⟩
  rw [← hbp] at HA4 HFL hs34 hs13 ⊢
  have HBP := Lib.hid hbp
  clear hbp ppl
  go_loopg [41] r.length (fun g v41 wr => ∃ k : Nat, k ≤ r.length ∧ g = r.length - k ∧ v41 = .int .i64 k ∧ At wr bp ((potsK r k).flatMap PotV.cs) ∧ Mod [bp] w4 wr)
  case atStart => exact ⟨0, by omega, by omega, rfl, HA4.out, Mod.refl _ _⟩
  case round =>
    obtain ⟨k, hk, rfl, rfl, hap, hmr⟩ := hrel
    have HAP := Lib.hid hap
    have HMR := Lib.hid hmr
    have hbpl := hap.lt
    have pp := HPP4.out.mod hmr (by simp; omega)
    have p3 := pp.c 3 _ rfl
    have ppl := pp.lt
    clear hap hmr pp
    by_cases hlt : k < r.length
    · obtain ⟨s, hse⟩ : ∃ s, r[k]? = some s := ⟨r[k], by simp [hlt]⟩
      obtain ⟨sg, sc2, hsg, _, hsglt, _, _, hcs⟩ := own_form HO4.out (by omega)
      simp only [Value.slice.injEq, true_and] at hsg
      obtain ⟨rfl, rfl⟩ := hsg
      have hsgb := HSL.out sg (by simp [Value.ownBlock])
      have HX := Lib.hid (fun (j : Nat) (u : Value) (hj : s.cs[j]? = some u) => (HMR.out.cell hsglt (by simp; omega)).trans (hcs (k * 5 + j) u (flat_get (cs := SinkV.cs) (k := 5) (fun _ => rfl) hse hj)))
      have HSE := Lib.hid hse
      clear hcs hse
      obtain ⟨z0, hz0⟩ : ∃ z, (potsK r k)[k]? = some z := ⟨(potsK r k)[k]'(by rw [potsK_len r k hk]; exact hlt), by simp⟩
      have HZ0 := Lib.hid hz0
      clear hz0
      obtain ⟨s1, s2, s3, s4, s5⟩ := s
      have x0 := HX.out 0 _ rfl
      have x1 := HX.out 1 _ rfl
      have x2 := HX.out 2 _ rfl
      have x3 := HX.out 3 _ rfl
      have x4 := HX.out 4 _ rfl
      simp only [Nat.add_zero] at x0
      go_wp2_with (go_at_call 28; (with_reducible refine (snew_any ⟨s1, s2, s3, s4, s5⟩ _).mono ?_); rintro e w8 ⟨rfl, hb8⟩; have pb := HAP.out.below hb8; have f0 := pb.f (k * 4); have f1 := pb.f (k * 4 + 1); have f2 := pb.f (k * 4 + 2); have f3 := pb.f (k * 4 + 3); have t0 := pb.c (k * 4) _ (potcs_at HZ0.out (j := 0) (by decide) rfl); have t1 := pb.c (k * 4 + 1) _ (potcs_at HZ0.out (j := 1) (by decide) rfl); have t2 := pb.c (k * 4 + 2) _ (potcs_at HZ0.out (j := 2) (by decide) rfl); have t3 := pb.c (k * 4 + 3) _ (potcs_at HZ0.out (j := 3) (by decide) rfl); have l8 := pb.lt; have HPB := Lib.hid pb; have HB8 := Lib.hid hb8; clear pb hb8)
      go_roundg (r.length - (k + 1))
      case measure => omega
      case rel =>
        have hfl : ((potsK r k).flatMap PotV.cs).length = r.length * 4 := by rw [flat_len (cs := PotV.cs) (k := 4) (fun _ => rfl), potsK_len r k hk]
        have h := ((((HPB.out.set (k * 4) (.int .i64 (PotV.new ⟨s1, s2, s3, s4, s5⟩).count) (by omega)).set (k * 4 + 1) (.int .i64 (PotV.new ⟨s1, s2, s3, s4, s5⟩).kind) (by rw [List.length_set]; omega)).set (k * 4 + 2) (.int .i64 (PotV.new ⟨s1, s2, s3, s4, s5⟩).value) (by rw [List.length_set, List.length_set]; omega)).set (k * 4 + 3) (.int .u64 (PotV.new ⟨s1, s2, s3, s4, s5⟩).who) (by rw [List.length_set, List.length_set, List.length_set]; omega))
        rw [pot_set4 HZ0.out (PotV.new ⟨s1, s2, s3, s4, s5⟩), potsK_set r k _ HSE.out] at h
        exact ⟨k + 1, by omega, rfl, by go_num, h, (((((HMR.out.bel HB8.out).set _ _ _ (.inl (by simp))).set _ _ _ (.inl (by simp))).set _ _ _ (.inl (by simp))).set _ _ _ (.inl (by simp)))⟩
    · obtain rfl : k = r.length := by omega
      rw [potsK_all] at HAP
      have hmk := mk89 r.length hrl
      have hbw3 : W.heap.size ≤ bp := by rw [HBP.out]; exact HB3.out.size
      have HBR := Lib.hid (show Below W.heap.size W wr from HMR.out.belowB HB4.out HB4.out.size (by simp; omega))
      have hsr := HMR.out.size
      go_upto_region 12 with fail
      rename_i K2 hK2 K1 hK1
      have HK2 := Lib.hid hK2
      clear hK2
      go_wp2_with (go_at_call 11; (with_reducible refine (acts_any _ v1 l (HL.out _ (bel_alloc HBR.out _)) (fun k hk => (HLO.out k hk).kept (bel_alloc HBR.out _))).mono ?_); rintro e w5 hret; obtain ⟨va, la, rfl, hna, hal, hb5⟩ := ActsL.of hret (bp :: wr.heap.size :: Fa) (fun x hx => by
        simp only [List.mem_cons] at hx
        rcases hx with rfl | rfl | hx
        · simp; omega
        · simp
        · have := (HFL.out x hx).1
          simp; omega); have HNA := Lib.hid hna; have HAL := Lib.hid hal; have HB5 := Lib.hid hb5; obtain ⟨aa, ac, rfl⟩ := own_shape2 hal.o; clear hret hna hal hb5)
      clear hmk
      obtain ⟨bw, hbw⟩ : ∃ bw, bw = wr.heap.size := ⟨_, rfl⟩
      have hs5 : bw + 1 ≤ w5.heap.size := by have := HB5.out.size; simp at this; omega
      have hbn : bp < bw := by omega
      have HBK := Lib.hid (show SnkB w5 Fa bp bw from ⟨by omega, by omega, by omega, fun hh => by have := (HFL.out _ hh).1; omega, fun hh => by have := (HFL.out _ hh).1; omega, fun x hx => by have := (HFL.out x hx).1; omega⟩)
      have HS0 := Lib.hid (show SnkS w5 Fa w5 a (CoreV.new B R Q r) bp bw (r.map PotV.new) (fun _ => []) Fa (List.replicate r.length (.slice none 0 0)) from by
        have hpF : ∀ x ∈ [bp], x ∉ Fa := fun x hx hh => by
          obtain rfl : x = bp := by simpa using hx
          have := (HFL.out _ hh).1
          omega
        refine ⟨((HC4.out.apart HMR.out hpF).below (bel_alloc (Below.refl _ _) _)).below HB5.out, Into.refl _ _, (HAP.out.alloc _).below HB5.out, ?_, fun j v hv => ?_, fun j v hv => ?_, fun j k u v hu hv hne => ?_, Mod.refl _ _⟩
        · rw [hbw]
          have h := (At.new wr (Array.replicate r.length (.slice none 0 0)) 46).below HB5.out
          simpa using h
        · obtain rfl : v = .slice none 0 0 := by
            rw [List.getElem?_replicate] at hv
            split at hv
            · exact (Option.some.inj hv).symm
            · cases hv
          exact World.ownsRow_nil _ _ _ _
        · obtain rfl : v = .slice none 0 0 := by
            rw [List.getElem?_replicate] at hv
            split at hv
            · exact (Option.some.inj hv).symm
            · cases hv
          simp [Value.ownBlock]
        · obtain rfl : u = .slice none 0 0 := by
            rw [List.getElem?_replicate] at hu
            split at hu
            · exact (Option.some.inj hu).symm
            · cases hu
          simp [Value.ownBlock])
      have HPP5 := Lib.hid (show At w5 w1.heap.size [.int .i64 B, .int .i64 R, .int .i64 Q, .slice ra r.length rc] from ((HPP4.out.mod HMR.out (by simp; omega)).alloc _).below HB5.out)
      have HO5 := Lib.hid (show w5.ownsRow W.heap.size 49 5 (.slice ra r.length rc) r.length (r.flatMap SinkV.cs) from ownsRow_base (own_of_block ((own_mod HO4.out HMR.out (fun x hx => by have := HSL.out x hx; simp; omega)).alloc _) (fun x hx => HB5.out.block x (by have := HSL.out x hx; simp; omega))) (by simp))
      have HB05 := Lib.hid (below_step (bel_alloc HBR.out _) HB5.out)
      have HPPD := Lib.hid (show w1.heap.size ≠ bp ∧ w1.heap.size ≠ bw ∧ w1.heap.size ∉ Fa from ⟨by omega, by omega, fun hh => by have := (HFL.out _ hh).2; omega⟩)
      have HSLD := Lib.hid (show ∀ x ∈ (Value.slice ra r.length rc).ownBlock.toList, x ≠ bp ∧ x ≠ bw ∧ x ∉ Fa from fun x hx => by
        have h1 := HSL.out x hx
        exact ⟨by omega, by omega, fun hh => by have := (HFL.out _ hh).2; omega⟩)
      have HTD := Lib.hid (show ∀ x ∈ bp :: bw :: Fa, W.heap.size ≤ x from fun x hx => by
        simp only [List.mem_cons] at hx
        have h1 := HB1.out.size
        rcases hx with rfl | rfl | hx
        · omega
        · omega
        · have := (HFL.out x hx).2
          omega)
      rw [← hbw] at HAL ⊢
      clear hbw hbw3 HBR HMR HAP HA4 HB4 HB34 HPP4 HC4 HO4 HPP HC HB3 HO3 HF HRD HB5 HFL HBP p3 ppl hbpl
      have hla : la.length ≤ 40 := by have := HNA.out; omega
      have HJ0 := Lib.hid (show SnkJ r Q (CoreV.new B R Q r) (fun _ => []) 0 0 from ⟨rfl, rfl, new_ok HSET.out, SnkI.new B R Q r⟩)
      have HQ := Lib.hid (show 0 ≤ Q ∧ Q ≤ 1000 from ⟨HSET.out.q1, by have := HSET.out.q2; omega⟩)
      go_loopg [61] la.length (fun g v61 wr => ∃ (i : Nat) (c : CoreV) (f : Nat → List RelV) (S : List Nat) (vs : List Value), i ≤ la.length ∧ g = la.length - i ∧ v61 = .int .i64 i ∧ SnkJ r Q c f (6 * i) (8000 * i) ∧ SnkS w5 Fa wr a c bp bw c.pots f S vs ∧ vs.length = r.length ∧ ∀ j, (f j).length ≤ i)
      case atStart => exact ⟨0, _, _, _, _, by omega, by omega, rfl, HJ0.out, HS0.out, by simp, by simp⟩
      case round =>
        obtain ⟨i, c, f, S, vs, hi, rfl, rfl, hj, hs, hvl, hfl⟩ := hrel
        have HFLN := Lib.hid hfl
        clear hfl
        have HJ := Lib.hid hj
        have HS := Lib.hid hs
        have hcs : c.sinks = r := hj.s
        have HCS := Lib.hid hcs
        have HQ0 := Lib.hid (show 0 ≤ c.quota by rw [hj.q]; exact HQ.out.1)
        have HQ1 := Lib.hid (show c.quota ≤ 1000 by rw [hj.q]; exact HQ.out.2)
        clear hj hs hcs
        by_cases hlt : i < la.length
        · obtain ⟨x, hx⟩ : ∃ x, la[i]? = some x := ⟨la[i], by simp [hlt]⟩
          obtain ⟨g, cap, hg, hcell⟩ := HAL.out.cell HS.out.m hx
          simp only [Value.slice.injEq, true_and] at hg
          obtain ⟨rfl, rfl⟩ := hg
          obtain ⟨hbd, So, hop, hSo⟩ := HAL.out.a x (List.mem_of_getElem? hx)
          have HX := Lib.hid hcell
          have HBD := Lib.hid hbd
          have HOP := Lib.hid hop
          obtain ⟨oa, oc, hvo, _⟩ := hop
          clear hcell hbd hx
          obtain ⟨ak, at', af, an, ⟨vo, opl, sz, sl, ag, si, fd⟩, am, ti, ky, va', lb⟩ := x
          simp only at hvo
          subst hvo
          have x0 := HX.out 0 _ rfl
          have x1 := HX.out 1 _ rfl
          have x2 := HX.out 2 _ rfl
          have x3 := HX.out 3 _ rfl
          have x4 := HX.out 4 _ rfl
          have x5 := HX.out 5 _ rfl
          have x6 := HX.out 6 _ rfl
          have x7 := HX.out 7 _ rfl
          have x8 := HX.out 8 _ rfl
          have x9 := HX.out 9 _ rfl
          have x10 := HX.out 10 _ rfl
          have x11 := HX.out 11 _ rfl
          have x12 := HX.out 12 _ rfl
          have x13 := HX.out 13 _ rfl
          have x14 := HX.out 14 _ rfl
          simp only [Nat.add_zero] at x0
          go_upto_region 16 with fail
          obtain ⟨wa, hwa⟩ : ∃ wa, wa = (wr.alloc (.cells #[.int .i64 ak, .int .i64 at', .int .i64 af, .int .i64 an, .slice oa opl.length oc, .int .i64 sz, .int .i64 sl, .int .i64 ag, .int .i64 si, .int .i64 fd, .bool am, .int .i64 ti, .int .i64 ky, .int .i64 va', .int .u64 lb] 43)).alloc (.cells #[.int .i64 0, .int .i64 0, .int .i64 0, .int .i64 0, .int .i64 0, .int .i64 0, .int .i64 0, .int .i64 0] 90) := ⟨_, rfl⟩
          obtain ⟨ab, hab⟩ : ∃ ab, ab = wr.heap.size := ⟨_, rfl⟩
          have hba : Below wr.heap.size wr wa := by rw [hwa]; exact bel_alloc (bel_alloc (Below.refl _ _) _) _
          have HAA := Lib.hid (show At wa ab (Array.toList #[.int .i64 ak, .int .i64 at', .int .i64 af, .int .i64 an, .slice oa opl.length oc, .int .i64 sz, .int .i64 sl, .int .i64 ag, .int .i64 si, .int .i64 fd, .bool am, .int .i64 ti, .int .i64 ky, .int .i64 va', .int .u64 lb]) from by rw [hwa, hab]; exact (At.new wr _ _).alloc _)
          have HAH := Lib.hid (show At wa (ab + 1) (hadL c 0) from by rw [hwa, hadL_zero, hab]; exact At.newAt (by simp) _ _)
          have hsa : wa.heap.size = ab + 2 := by rw [hwa, hab]; simp
          have h5a : w5.heap.size ≤ ab := by rw [hab]; exact HS.out.m.size
          have HSB := Lib.hid (show ∀ x ∈ S, x < ab from fun x hx => by rw [hab]; exact HS.out.c.lt x hx)
          have HSY := Lib.hid (show ∀ y, Below ab wa y → SnkS w5 Fa y a c bp bw c.pots f S vs from fun y hy => HS.out.below HBK.out (hba.trans (by rw [← hab]; exact hy)))
          rw [← hwa, ← hab]
          clear hwa x0 x1 x2 x3 x4 x5 x6 x7 x8 x9 x10 x11 x12 x13 x14 HS HX hab hba
          go_wp2_with fail
          go_loopg [65] 8 (fun g v65 wx => ∃ m : Nat, m ≤ 8 ∧ g = 8 - m ∧ v65 = .int .i64 m ∧ Below ab wa wx ∧ At wx (ab + 1) (hadL c m) ∧ At wx ab (Array.toList #[.int .i64 ak, .int .i64 at', .int .i64 af, .int .i64 an, .slice oa opl.length oc, .int .i64 sz, .int .i64 sl, .int .i64 ag, .int .i64 si, .int .i64 fd, .bool am, .int .i64 ti, .int .i64 ky, .int .i64 va', .int .u64 lb]))
          case atStart => exact ⟨0, by omega, by omega, rfl, ⟨rfl, rfl, rfl, Nat.le_refl _, fun _ _ => rfl⟩, HAH.out, HAA.out⟩
          case round =>
            obtain ⟨m, hm, rfl, rfl, hs, hh, ha⟩ := hrel
            have HY := Lib.hid hs
            have HS := Lib.hid (HSY.out _ hs)
            have HH := Lib.hid hh
            have HA := Lib.hid ha
            have hbl := hh.lt
            clear hs hh ha
            by_cases hm8 : m < 8
            · cases hx : c.cells m with
              | none =>
                have HCX := Lib.hid hx
                clear hx
                go_wp2_with (go_at_call 29; (with_reducible refine (cellN_at a S c m (by omega) _ HS.out.c HCX.out).mono ?_); rintro e w6 ⟨rfl, rfl⟩)
                go_roundg (8 - (m + 1))
                case measure => omega
                case rel => exact ⟨m + 1, by omega, rfl, by go_num, HY.out, by rw [← hadL_none c m HCX.out]; exact HH.out, HA.out⟩
              | some x =>
                have HCX := Lib.hid hx
                have HHI := Lib.hid (show hadI c m = (x.rows.length : Int) by simp [hadI, hx])
                clear hx
                go_wp2_with (first
                  | (go_at_call 29; (with_reducible refine (cellS_at a S c (6 * i) m (by omega) _ HS.out.c HJ.out.ok (by omega) x HCX.out).mono ?_); rintro e w6 ⟨⟨q, rfl, hq⟩, hb6⟩; have HQ6 := Lib.hid hq; have HB6 := Lib.hid hb6; have ha6 := HH.out.below hb6; have ch := ha6.c m _ (hadL_get c m m hm8); have fh := ha6.f m; have lh := ha6.lt; have HH6 := Lib.hid ha6; clear hq hb6 ha6)
                  | (go_at_call 30; (with_reducible refine (count_cell q x _ HQ6.out).mono ?_); rintro e w7 ⟨rfl, rfl⟩))
                go_roundg (8 - (m + 1))
                case measure => omega
                case rel =>
                  refine ⟨m + 1, by omega, rfl, by go_num, (HY.out.trans (bel_le HB6.out (by omega))).setCell (p := ⟨ab + 1, m, none⟩) (by simp) _, ?_, ?_⟩
                  · rw [← hadL_set, HHI.out]
                    exact HH6.out.set m _ (by simp [hadL]; omega)
                  · exact (HA.out.below HB6.out).other ⟨ab + 1, m, none⟩ _ (by simp)
            · obtain rfl : m = 8 := by omega
              have x0 := HA.out.c 0 _ rfl
              have x1 := HA.out.c 1 _ rfl
              have x2 := HA.out.c 2 _ rfl
              have x3 := HA.out.c 3 _ rfl
              have x4 := HA.out.c 4 _ rfl
              have x5 := HA.out.c 5 _ rfl
              have x6 := HA.out.c 6 _ rfl
              have x7 := HA.out.c 7 _ rfl
              have x8 := HA.out.c 8 _ rfl
              have x9 := HA.out.c 9 _ rfl
              have x10 := HA.out.c 10 _ rfl
              have x11 := HA.out.c 11 _ rfl
              have x12 := HA.out.c 12 _ rfl
              have x13 := HA.out.c 13 _ rfl
              have x14 := HA.out.c 14 _ rfl
              obtain ⟨C, hC⟩ : ∃ C, C = c.act (ActV.m ⟨ak, at', af, an, ⟨.slice oa opl.length oc, opl, sz, sl, ag, si, fd⟩, am, ti, ky, va', lb⟩) := ⟨_, rfl⟩
              have hdo := snk_do HBK.out HS.out (6 * i) ⟨ak, at', af, an, ⟨.slice oa opl.length oc, opl, sz, sl, ag, si, fd⟩, am, ti, ky, va', lb⟩ HBD.out.b7 So HOP.out hSo HQ0.out HQ1.out HJ.out.ok (by omega)
              rw [← hC] at hdo
              have HDO := Lib.hid (show Calls Tryz.prog 12 #[.pointer (some ⟨a, 0, none⟩), .slice (some ⟨wr.heap.size, 0, none⟩) 1 1] (wr.alloc (.cells #[.int .i64 ak, .int .i64 at', .int .i64 af, .int .i64 an, .slice oa opl.length oc, .int .i64 sz, .int .i64 sl, .int .i64 ag, .int .i64 si, .int .i64 fd, .bool am, .int .i64 ti, .int .i64 ky, .int .i64 va', .int .u64 lb] 43)) _ from hdo)
              have hact := HJ.out.ok.act HQ0.out HQ1.out (snk_R HBD.out).1 (snk_R HBD.out).2 (by omega)
              rw [← hC] at hact
              have HOKC := Lib.hid hact
              have hqc := (act_quota c (ActV.m ⟨ak, at', af, an, ⟨.slice oa opl.length oc, opl, sz, sl, ag, si, fd⟩, am, ti, ky, va', lb⟩)).1
              rw [← hC] at hqc
              have HQC := Lib.hid hqc
              have HCE := Lib.hid hC
              clear hdo hact hC hqc
              have hyr := HY.out.size
              by_cases hk : ak = 3
              · subst hk
                have HCT := Lib.hid (show C.1 = c.tick by rw [HCE.out]; simp [CoreV.act, ActV.m])
                go_upto_region 24 with (go_at_call 12; (with_reducible refine HDO.out.mono ?_); rintro e w8 ⟨⟨v8, rfl⟩, S8, hs8, hm8', hi8⟩; have HS8 := Lib.hid hs8; have z0 := (HA.out.mod hm8' (fun hh => by have := HSB.out ab hh; omega)).c 0 _ rfl; have HH8 := Lib.hid (HH.out.mod hm8' (fun hh => by have := HSB.out _ hh; omega)); have HN8 := Lib.hid (into_not hi8 hbl (fun hh => by have := HSB.out _ hh; omega)); clear hs8 hm8' hi8)
                rename_i K4 hK4 K3 hK3
                have HK4 := Lib.hid hK4
                clear hK4
                go_wp2_with fail
                rw [HCT.out] at HS8 HOKC HQC
                refine HK4.out _ _ ?_
                refine stick_any _ w5 Fa a bp bw ab w1.heap.size W.heap.size B R Q ra rc r c f i S8 vs w8 _ (by kernel_rfl) HBK.out HSET.out HPP5.out HO5.out HPPD.out HSLD.out (by intro c a d v w; cases d <;> exact fun h => h) hrl (by omega) HJ.out HQ.out HFLN.out hvl h5a HOKC.out HQC.out HS8.out HH8.out HN8.out ?_
                rintro ll wx ⟨f3, S3, vs3, hj3, hs3, hv3, hf3⟩ hll
                generalize clOf ll = cl at hll
                subst hll
                have HJ3 := Lib.hid hj3
                have HS3 := Lib.hid hs3
                have HF3 := Lib.hid hf3
                clear hj3 hs3 hf3
                go_wp2_with fail
                go_roundg (la.length - (i + 1))
                case measure => omega
                case rel => exact ⟨i + 1, c.tick, f3, S3, vs3, by omega, rfl, by go_num, HJ3.out, HS3.out, hv3, HF3.out⟩
              · have hk1 : (ak == 3) = false := by simp [hk]
                have hk2 : (ak != 3) = true := by simp [hk]
                have hst := act_still c (ActV.m ⟨ak, at', af, an, ⟨.slice oa opl.length oc, opl, sz, sl, ag, si, fd⟩, am, ti, ky, va', lb⟩) hk
                have hsi := HJ.out.i.act (ActV.m ⟨ak, at', af, an, ⟨.slice oa opl.length oc, opl, sz, sl, ag, si, fd⟩, am, ti, ky, va', lb⟩) hk
                rw [← HCE.out] at hst hsi
                have HST := Lib.hid hst
                have HSI := Lib.hid hsi
                clear hst hsi
                go_wp2_with (go_at_call 12; (with_reducible refine HDO.out.mono ?_); rintro e w8 ⟨⟨v8, rfl⟩, S8, hs8, hm8', hi8⟩; have HS8 := Lib.hid hs8; have z0 := (HA.out.mod hm8' (fun hh => by have := HSB.out ab hh; omega)).c 0 _ rfl; clear hs8 hm8' hi8)
                go_roundg (la.length - (i + 1))
                case measure => omega
                case rel =>
                  refine ⟨i + 1, C.1, f, S8, vs, by omega, rfl, by go_num, ⟨?_, ?_, HOKC.out.wide (by omega) (by omega), HSI.out.wide (by omega)⟩, ?_, hvl, fun j => by have := HFLN.out j; omega⟩
                  · rw [HST.out.2.2]
                    exact HJ.out.s
                  · rw [HQC.out]
                    exact HJ.out.q
                  · rw [HST.out.1]
                    exact HS8.out
        · obtain rfl : i = la.length := by omega
          go_wp2_with fail
          refine HK2.out _ _ ?_
          exact sfin_any W w5 Fa a bp bw w1.heap.size W.heap.size (6 * la.length) (8000 * la.length) B R Q ra rc r c f S vs _ _ (by kernel_rfl) HBK.out HPP5.out HO5.out HPPD.out HSLD.out hrl (by omega) HJ.out HQ.out hvl HB05.out HTD.out HS.out
end Go.Proofs.YtcanfmabkklidaaGreat
