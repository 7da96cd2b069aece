/- TopTiming: the walk. -/
import Derived.Test.YtcanfmabkklidaaGreatMb27
import Derived.Test.YtcanfmabkklidaaGreatMb28
import Derived.Test.YtcanfmabkklidaaGreatMb29
import Derived.Test.YtcanfmabkklidaaGreatMb31
set_option linter.unusedSimpArgs false
set_option linter.unusedVariables false
set_option linter.unnecessarySimpa false
namespace Go.Proofs.YtcanfmabkklidaaGreat
open Go.RowKit

theorem KActV.ok.kept {w w' : World} {k : KActV} (h : k.ok w) (hb : Below w.heap.size w w') : k.ok w' := ⟨h.o.kept hb, h.n.kept hb⟩
/-- acts that lie beside the cores -/
structure ActsL (w : World) (S0 : List Nat) (v : Value) (l : List ActV) : Prop where
  o : w.ownsRow 0 43 15 v l.length (cellsA l)
  d : ∀ x ∈ v.ownBlock.toList, x ∉ S0
  a : ∀ x ∈ l, ActBd x ∧ ∃ So, RdR OpV.cs 2 w x.pipe.ops x.pipe.ol So ∧ ∀ y ∈ So, y ∉ S0
theorem ActsL.below {w w' : World} {S0 : List Nat} {v : Value} {l : List ActV} (h : ActsL w S0 v l) (hb : Below w.heap.size w w') : ActsL w' S0 v l :=
  ⟨own_of_block h.o (fun x hx => hb.block x (own_lt h.o x hx)), h.d, fun x hx => by
    obtain ⟨h1, So, h2, h3⟩ := h.a x hx
    exact ⟨h1, So, h2.same (fun y hy => hb.block y (h2.lt y hy)), h3⟩⟩
theorem ActsL.of {w w' : World} {n : Nat} {e : Ending} (h : RetK w n e w') (S0 : List Nat) (hS : ∀ x ∈ S0, x < w.heap.size) : ∃ v l, e = .returned v ∧ l.length = n ∧ ActsL w' S0 v l ∧ Below w.heap.size w w' := by
  obtain ⟨v, l, he, ho, hn, ha, hb⟩ := h
  refine ⟨v, l, he, hn, ⟨ownsRow_base ho (Nat.zero_le _), fun x hx hh => ?_, fun x hx => ?_⟩, hb⟩
  · have := own_new ho x hx
    have := hS x hh
    omega
  · obtain ⟨h1, h2⟩ := ha x hx
    refine ⟨h1, _, RdR.of_own opcs_len h2, fun y hy hh => ?_⟩
    have := own_new h2 y hy
    have := hS y hh
    omega
/-- the acts' cells, read where the cores may have turned -/
theorem ActsL.cell {w w' : World} {S0 : List Nat} {v : Value} {l : List ActV} (h : ActsL w S0 v l) (hm : Mod S0 w w') {i : Nat} {x : ActV} (hi : l[i]? = some x) : ∃ g cap, v = .slice (some ⟨g, 0, none⟩) l.length cap ∧ ∀ j u, x.cs[j]? = some u → w'.cell? ⟨g, i * 15 + j, none⟩ = some u := by
  have hlt := (List.getElem?_eq_some_iff.1 hi).1
  obtain ⟨g, cap, rfl, _, hg, _, _, hc⟩ := own_form h.o (by omega)
  refine ⟨g, cap, rfl, fun j u hj => ?_⟩
  rw [hm.cell hg (h.d g (by simp [Value.ownBlock]))]
  have hc2 : (cellsA l)[i * 15 + j]? = some u := cellsA_get hi hj
  exact hc _ u hc2
structure TimC (l : List SinkV) (c : CoreV) (T N : Nat) : Prop where
  t : TimI l c T
  ok : CoreOk c N
  q0 : 0 ≤ c.quota
  q1 : c.quota ≤ 1000
theorem TimC.act {l : List SinkV} {c : CoreV} {T N : Nat} (h : TimC l c T N) (a : ActM) (ha : a.kind ≠ 3) (hr : ActR a) (hN : N + 6 ≤ 100000) : TimC l (c.act a).1 T (N + 6) := by
  have hq := act_quota c a
  exact ⟨h.t.act a ha, h.ok.act h.q0 h.q1 hr.1 hr.2 hN, by rw [hq.1]; exact h.q0, by rw [hq.1]; exact h.q1⟩
theorem TimC.wide {l : List SinkV} {c : CoreV} {T N M : Nat} (h : TimC l c T N) (hm : N ≤ M) (hM : M ≤ 100000) : TimC l c T M := ⟨h.t, h.ok.wide hm hM, h.q0, h.q1⟩
def tickA : ActV := ⟨3, 0, 0, 0, ⟨.slice none 0 0, [], 0, 0, 0, 0, 0⟩, false, 0, 0, 0, 0⟩
theorem tickA_bd : ActBd7 tickA := ⟨by simp [tickA], by simp [tickA], by simp [tickA], by simp [tickA], fun h => by simp [tickA] at h⟩
theorem tickA_act (c : CoreV) : (c.act tickA.m).1 = c.tick := by simp [CoreV.act, ActV.m, tickA]
theorem TimC.tick {l : List SinkV} {c : CoreV} {T N : Nat} (h : TimC l c T N) (hN : N + 6 ≤ 100000) : TimC l (c.act tickA.m).1 (T + 1) (N + 6) := by
  have hq := act_quota c tickA.m
  refine ⟨?_, h.ok.act h.q0 h.q1 (by simp [ActV.m, tickA]) (fun hk => by simp [ActV.m, tickA] at hk) hN, by rw [hq.1]; exact h.q0, by rw [hq.1]; exact h.q1⟩
  rw [tickA_act]
  exact h.t.tick
theorem act_R {x : ActV} (h : ActBd x) : ActR x.m := ⟨by have := h.t1; have := h.t2; show x.tenant.toNat ≤ 7; omega, fun hk => (h.pipe hk).m⟩
set_option maxHeartbeats 4000000 in
set_option maxRecDepth 100000 in
theorem timing_any (W : World) (kb kr kq : Int) (vs : Value) (ks : List KSinkV) (hks : IsR KSinkV.cs 5 W vs ks) (v1 v2 : Value) (l m : List KActV) (hl : IsR KActV.cs 15 W v1 l) (hlo : ∀ k ∈ l, k.ok W) (hm : IsR KActV.cs 15 W v2 m) (hmo : ∀ k ∈ m, k.ok W) :
    Calls Tryz.prog 3 #[.agg #[.int .i64 kb, .int .i64 kr, .int .i64 kq, vs], v1, v2] W fun e w' => e = .returned (.bool true) ∧ Below W.heap.size W w' := by
  obtain ⟨ka, kc, rfl, _⟩ := id hks
  have HKS := Lib.hid (fun (w' : World) (hb : Below W.heap.size W w') => hks.kept hb)
  have HL := Lib.hid (fun (w' : World) (hb : Below W.heap.size W w') => hl.kept hb)
  have HM := Lib.hid (fun (w' : World) (hb : Below W.heap.size W w') => hm.kept hb)
  have HLO := Lib.hid hlo
  have HMO := Lib.hid hmo
  clear hks hl hlo hm hmo
  go_enter Tryz.func3, Tryz.ntmps3
  go_wp2_with (first
    | (go_at_call 9; (with_reducible refine (setup_any _ _ ks kb kr kq (HKS.out _ (bel_alloc (Below.refl _ W) _))).mono ?_); rintro e w1 ⟨B, R, Q, vr, r, rfl, ho, hset, hb⟩; have HO1 := Lib.hid ho; have HSET := Lib.hid hset; have HB1 := Lib.hid (below_step (bel_alloc (Below.refl _ W) _) hb); obtain ⟨ra, rc, rfl⟩ := own_shape2 ho; have hs1 := HB1.out.size; clear ho hset hb))
  refine wp_region_plB (fun w0 => At w0 w1.heap.size [.int .i64 B, .int .i64 R, .int .i64 Q, .slice ra r.length rc] ∧ w0.ownsRow W.heap.size 49 5 (.slice ra r.length rc) r.length (r.flatMap SinkV.cs) ∧ Below W.heap.size W w0 ∧ (∀ x ∈ (Value.slice ra r.length rc).ownBlock.toList, x < w1.heap.size)) ?ph2 (.take 0 <| .take 2 <| .doo 1 <| .doo 3 <| .take 4 <| .take 5 <| .done) ?plL2 (by kernel_rfl) (by kernel_rfl) (by kernel_rfl) ?plH2 (by intro c a d v w; cases d <;> exact fun h => h) ?_
  case plH2 =>
    simp only [Pl.with, List.getElem?_toArray, List.getElem?_cons_zero, List.getElem?_cons_succ]
    try rfl
  case ph2 => exact ⟨At.new w1 _ _, (ownsRow_base HO1.out (by simp)).alloc _, bel_alloc HB1.out _, own_lt HO1.out⟩
  rintro w2 ⟨ha2, ho2, hb2, hsl⟩
  have HA2 := Lib.hid ha2
  have HO2 := Lib.hid ho2
  have HB2 := Lib.hid hb2
  have HSL := Lib.hid hsl
  have l2 := ha2.lt
  have q0 : ∀ x, Below w2.heap.size w2 x → x.cell? ⟨w1.heap.size, 0, none⟩ = some (.int .i64 B) := fun x hx => (HA2.out.below hx).c 0 _ rfl
  have q1 : ∀ x, Below w2.heap.size w2 x → x.cell? ⟨w1.heap.size, 1, none⟩ = some (.int .i64 R) := fun x hx => (HA2.out.below hx).c 1 _ rfl
  have q2 : ∀ x, Below w2.heap.size w2 x → x.cell? ⟨w1.heap.size, 2, none⟩ = some (.int .i64 Q) := fun x hx => (HA2.out.below hx).c 2 _ rfl
  have q3 : ∀ x, Below w2.heap.size w2 x → x.cell? ⟨w1.heap.size, 3, none⟩ = some (.slice ra r.length rc) := fun x hx => (HA2.out.below hx).c 3 _ rfl
  clear ha2 ho2 hb2 hsl
  iterate 2 (refine wpPl_take (v := ?_) (by rfl) (fun w' hS => ?_) ?_; rotate_left; (focus (go_simp; with_reducible rfl)); simp only [Act.put, List.setIfInBounds_toArray, List.set_cons_zero, List.set_cons_succ])
  clear q0 q1 q2 q3
  refine wpPl_do (by rfl) (fun K hK => ?_)
  go_wp2_with (go_at_call 10; (with_reducible refine (cnew10 _ r _ B R Q _ (RdR.of_own sinkcs_len' HO2.out.drew) HSET.out).mono ?_); rintro e w3 ⟨a, Fa, rfl, hc, hF, hb⟩; have HCA := Lib.hid hc; have HFA := Lib.hid hF; have HB3 := Lib.hid (below_step (bel_draw (Below.refl _ w2)) hb); clear hc hF hb)
  refine ⟨HB3.out, ?_⟩
  refine wpPl_do (by rfl) (fun K hK => ?_)
  go_wp2_with (go_at_call 10; (with_reducible refine (cnew10 _ r _ B R Q _ (RdR.of_own sinkcs_len' (own_of_block HO2.out (fun x hx => HB3.out.block x (own_lt HO2.out x hx)))) HSET.out).mono ?_); rintro e w4 ⟨b, Fb, rfl, hc, hF, hb⟩; have HCB := Lib.hid hc; have HFB := Lib.hid hF; have HB4 := Lib.hid hb; clear hc hF hb)
  refine ⟨below_step HB3.out HB4.out, ?_⟩
  iterate 2 (refine wpPl_take (v := ?_) (by rfl) (fun w' hS => ?_) ?_; rotate_left; (focus (go_simp; with_reducible rfl)); simp only [Act.put, List.setIfInBounds_toArray, List.set_cons_zero, List.set_cons_succ])
  refine wpPl_done ?_
  have HB24 := Lib.hid (below_step HB2.out (below_step HB3.out HB4.out))
  have HS0 := Lib.hid (show ∀ x ∈ Fa ++ Fb, x < w4.heap.size ∧ w2.heap.size ≤ x from fun x hx => by
    have h3 := HB3.out.size
    have h4 := HB4.out.size
    rcases List.mem_append.1 hx with h | h
    · have h5 := HCA.out.lt x h
      have h6 := HFA.out x h
      simp at h6
      omega
    · have h5 := HCB.out.lt x h
      have h6 := HFB.out x h
      omega)
  have HTW := Lib.hid (show Two w4 a Fa (CoreV.new B R Q r) b Fb (CoreV.new B R Q r) from ⟨HCA.out.below HB4.out, HCB.out, fun z hz hh => by
    have h5 := HCA.out.lt z hz
    have h6 := HFB.out z hh
    omega⟩)
  go_wp2_with (first
    | (go_at_call 11; (with_reducible refine (acts_any _ v1 l (HL.out _ HB24.out) (fun k hk => (HLO.out k hk).kept HB24.out)).mono ?_); rintro e w5 hret; obtain ⟨va, la, rfl, hna, hal, hb5⟩ := ActsL.of hret (Fa ++ Fb) (fun x hx => (HS0.out x hx).1); have HNA := Lib.hid hna; have HAL := Lib.hid hal; have HB5 := Lib.hid hb5; obtain ⟨aa, ac, rfl⟩ := own_shape2 hal.o; clear hret hna hal hb5)
    | (go_at_call 11; (with_reducible refine (acts_any _ v2 m (HM.out _ (below_step HB24.out HB5.out)) (fun k hk => (HMO.out k hk).kept (below_step HB24.out HB5.out))).mono ?_); rintro e w6 hret; obtain ⟨vb, lb, rfl, hnb, hbl, hb6⟩ := ActsL.of hret (Fa ++ Fb) (fun x hx => by have := (HS0.out x hx).1; have := HB5.out.size; omega); have HNB := Lib.hid hnb; have HBL := Lib.hid hbl; have HB6 := Lib.hid hb6; have HAL6 := Lib.hid (HAL.out.below hb6); obtain ⟨ba, bc, rfl⟩ := own_shape2 hbl.o; clear hret hnb hbl hb6))
  have hS0 : ∀ x ∈ Fa ++ Fb, x < w6.heap.size ∧ w2.heap.size ≤ x := fun x hx => by
    have h1 := HS0.out x hx
    have h2 := HB5.out.size
    have h3 := HB6.out.size
    omega
  have HS6 := Lib.hid hS0
  have HB46 := Lib.hid (below_step HB5.out HB6.out)
  have HB06 := Lib.hid (below_step HB24.out HB46.out)
  have HTC := Lib.hid (show TimC r (CoreV.new B R Q r) 0 0 from ⟨TimI.new B R Q r, new_ok HSET.out, HSET.out.q1, by have := HSET.out.q2; show Q ≤ 1000; omega⟩)
  have HD6 := Lib.hid (show Duo2 w6 (Fa ++ Fb) w6 a b (CoreV.new B R Q r) (CoreV.new B R Q r) from (HTW.out.below HB46.out).duo)
  have HA6 := Lib.hid (show At w6 w1.heap.size [.int .i64 B, .int .i64 R, .int .i64 Q, .slice ra r.length rc] from (HA2.out.below (below_step HB3.out HB4.out)).below HB46.out)
  have HO6 := Lib.hid (show w6.ownsRow W.heap.size 49 5 (.slice ra r.length rc) r.length (r.flatMap SinkV.cs) from own_of_block HO2.out (fun x hx => (below_step (below_step HB3.out HB4.out) HB46.out).block x (own_lt HO2.out x hx)))
  clear hS0
  have hrl := HSET.out.len
  go_loopg [12] 30 (fun g v12 wr => ∃ (i : Nat) (ca cb : CoreV), i ≤ 30 ∧ g = 30 - i ∧ v12 = .int .i64 i ∧ TimC r ca i (12 * i) ∧ TimC r cb i (12 * i) ∧ Duo2 w6 (Fa ++ Fb) wr a b ca cb)
  case atStart => exact ⟨0, _, _, by omega, by omega, rfl, HTC.out, HTC.out, HD6.out⟩
  case round =>
    obtain ⟨i, ca, cb, hi, rfl, rfl, hta, htb, hd⟩ := hrel
    have TA := Lib.hid hta
    have TB := Lib.hid htb
    have HD := Lib.hid hd
    clear hta htb hd
    by_cases hlt : i < 30
    · go_upto_block 1 with fail
      apply wp_block
      (apply wp_seq_k; intro _ _)
      go_cut [] (fun wx => ∃ ca', TimC r ca' i (12 * i + 6) ∧ Duo2 w6 (Fa ++ Fb) wx a b ca' cb)
      case first =>
        by_cases hia : i < la.length
        · obtain ⟨x, hx⟩ : ∃ x, la[i]? = some x := ⟨la[i], by simp [hia]⟩
          obtain ⟨g, cap, hg, hcell⟩ := HAL6.out.cell HD.out.mod hx
          simp only [Value.slice.injEq, true_and] at hg
          obtain ⟨rfl, rfl⟩ := hg
          obtain ⟨hbd, So, hop, hSo⟩ := HAL6.out.a x (List.mem_of_getElem? hx)
          have HX := Lib.hid hcell
          have HBD := Lib.hid hbd
          have HOP := Lib.hid hop
          obtain ⟨oa, oc, hvo, _⟩ := hop
          clear hcell hbd hx
          obtain ⟨ak, at', af, an, ⟨vo, opl, sz, sl, ag, si, fd⟩, am, ti, ky, va', lb⟩ := x
          simp only at hvo
          subst hvo
          have x0 := HX.out 0 _ rfl
          simp only [Nat.add_zero] at x0
          by_cases hk : ak = 3
          · subst hk
            go_wp2_with fail
            go_meet
            case rel => exact ⟨ca, TA.out.wide (by omega) (by omega), HD.out⟩
          · have hk1 : (ak == 3) = false := by simp [hk]
            have hk2 : (ak != 3) = true := by simp [hk]
            have HK := Lib.hid hk
            have x1 := HX.out 1 _ rfl
            have x2 := HX.out 2 _ rfl
            have x3 := HX.out 3 _ rfl
            have x4 := HX.out 4 _ rfl
            have x5 := HX.out 5 _ rfl
            have x6 := HX.out 6 _ rfl
            have x7 := HX.out 7 _ rfl
            have x8 := HX.out 8 _ rfl
            have x9 := HX.out 9 _ rfl
            have x10 := HX.out 10 _ rfl
            have x11 := HX.out 11 _ rfl
            have x12 := HX.out 12 _ rfl
            have x13 := HX.out 13 _ rfl
            have x14 := HX.out 14 _ rfl
            have HDO := Lib.hid (show Calls Tryz.prog 12 #[.pointer (some ⟨a, 0, none⟩), .slice (some ⟨wr.heap.size, 0, none⟩) 1 1] (wr.alloc (.cells #[.int .i64 ak, .int .i64 at', .int .i64 af, .int .i64 an, .slice oa opl.length oc, .int .i64 sz, .int .i64 sl, .int .i64 ag, .int .i64 si, .int .i64 fd, .bool am, .int .i64 ti, .int .i64 ky, .int .i64 va', .int .u64 lb] 43)) _ from duo_do HD.out (12 * i) ⟨ak, at', af, an, ⟨.slice oa opl.length oc, opl, sz, sl, ag, si, fd⟩, am, ti, ky, va', lb⟩ HBD.out.b7 So HOP.out hSo TA.out.q0 TA.out.q1 TA.out.ok (by omega))
            go_wp2_with (go_at_call 12; (with_reducible refine HDO.out.mono ?_); rintro e w' ⟨⟨v, rfl⟩, hd⟩; have HD' := Lib.hid hd; clear hd)
            go_meet
            case rel => exact ⟨_, TA.out.act _ HK.out (act_R HBD.out) (by omega), HD'.out⟩
        · go_wp2_with fail
          go_meet
          case rel => exact ⟨ca, TA.out.wide (by omega) (by omega), HD.out⟩
      case rest =>
      obtain ⟨ca', hta', hd'⟩ := hcut
      clear HD TA
      have TA := Lib.hid hta'
      have HD := Lib.hid hd'
      clear hta' hd'
      apply_assumption
      (apply wp_seq_k; intro _ _)
      go_cut [] (fun wx => ∃ cb', TimC r cb' i (12 * i + 6) ∧ Duo2 w6 (Fa ++ Fb) wx a b ca' cb')
      case first =>
        by_cases hia : i < lb.length
        · obtain ⟨x, hx⟩ : ∃ x, lb[i]? = some x := ⟨lb[i], by simp [hia]⟩
          obtain ⟨g, cap, hg, hcell⟩ := HBL.out.cell HD.out.mod hx
          simp only [Value.slice.injEq, true_and] at hg
          obtain ⟨rfl, rfl⟩ := hg
          obtain ⟨hbd, So, hop, hSo⟩ := HBL.out.a x (List.mem_of_getElem? hx)
          have HX := Lib.hid hcell
          have HBD := Lib.hid hbd
          have HOP := Lib.hid hop
          obtain ⟨oa, oc, hvo, _⟩ := hop
          clear hcell hbd hx
          obtain ⟨ak, at', af, an, ⟨vo, opl, sz, sl, ag, si, fd⟩, am, ti, ky, va', lb⟩ := x
          simp only at hvo
          subst hvo
          have x0 := HX.out 0 _ rfl
          simp only [Nat.add_zero] at x0
          by_cases hk : ak = 3
          · subst hk
            go_wp2_with fail
            go_meet
            case rel => exact ⟨cb, TB.out.wide (by omega) (by omega), HD.out⟩
          · have hk1 : (ak == 3) = false := by simp [hk]
            have hk2 : (ak != 3) = true := by simp [hk]
            have HK := Lib.hid hk
            have x1 := HX.out 1 _ rfl
            have x2 := HX.out 2 _ rfl
            have x3 := HX.out 3 _ rfl
            have x4 := HX.out 4 _ rfl
            have x5 := HX.out 5 _ rfl
            have x6 := HX.out 6 _ rfl
            have x7 := HX.out 7 _ rfl
            have x8 := HX.out 8 _ rfl
            have x9 := HX.out 9 _ rfl
            have x10 := HX.out 10 _ rfl
            have x11 := HX.out 11 _ rfl
            have x12 := HX.out 12 _ rfl
            have x13 := HX.out 13 _ rfl
            have x14 := HX.out 14 _ rfl
            have HDO := Lib.hid (show Calls Tryz.prog 12 #[.pointer (some ⟨b, 0, none⟩), .slice (some ⟨wc.heap.size, 0, none⟩) 1 1] (wc.alloc (.cells #[.int .i64 ak, .int .i64 at', .int .i64 af, .int .i64 an, .slice oa opl.length oc, .int .i64 sz, .int .i64 sl, .int .i64 ag, .int .i64 si, .int .i64 fd, .bool am, .int .i64 ti, .int .i64 ky, .int .i64 va', .int .u64 lb] 43)) _ from duo_do HD.out.swap (12 * i) ⟨ak, at', af, an, ⟨.slice oa opl.length oc, opl, sz, sl, ag, si, fd⟩, am, ti, ky, va', lb⟩ HBD.out.b7 So HOP.out hSo TB.out.q0 TB.out.q1 TB.out.ok (by omega))
            go_wp2_with (go_at_call 12; (with_reducible refine HDO.out.mono ?_); rintro e w' ⟨⟨v, rfl⟩, hd⟩; have HD' := Lib.hid hd; clear hd)
            go_meet
            case rel => exact ⟨_, TB.out.act _ HK.out (act_R HBD.out) (by omega), HD'.out.swap⟩
        · go_wp2_with fail
          go_meet
          case rel => exact ⟨cb, TB.out.wide (by omega) (by omega), HD.out⟩
      case rest =>
      obtain ⟨cb', htb', hd'⟩ := hcut
      clear HD TB
      have TB := Lib.hid htb'
      have HT1 := Lib.hid (show Calls Tryz.prog 12 #[.pointer (some ⟨a, 0, none⟩), .slice (some ⟨wc.heap.size, 0, none⟩) 1 1] (wc.alloc (.cells #[.int .i64 3, .int .i64 0, .int .i64 0, .int .i64 0, .slice none 0 0, .int .i64 0, .int .i64 0, .int .i64 0, .int .i64 0, .int .i64 0, .bool false, .int .i64 0, .int .i64 0, .int .i64 0, .int .u64 0] 43)) _ from duo_do hd' (12 * i + 6) tickA tickA_bd [] (RdR.nil _ _ _) (by simp) TA.out.q0 TA.out.q1 TA.out.ok (by omega))
      clear htb' hd'
      apply_assumption
      go_wp2_with (first
        | (go_at_call 12; (with_reducible refine HT1.out.mono ?_); rintro e w7 ⟨⟨v, rfl⟩, hd⟩; have HT2 := Lib.hid (show Calls Tryz.prog 12 #[.pointer (some ⟨b, 0, none⟩), .slice (some ⟨w7.heap.size, 0, none⟩) 1 1] (w7.alloc (.cells #[.int .i64 3, .int .i64 0, .int .i64 0, .int .i64 0, .slice none 0 0, .int .i64 0, .int .i64 0, .int .i64 0, .int .i64 0, .int .i64 0, .bool false, .int .i64 0, .int .i64 0, .int .i64 0, .int .u64 0] 43)) _ from duo_do hd.swap (12 * i + 6) tickA tickA_bd [] (RdR.nil _ _ _) (by simp) TB.out.q0 TB.out.q1 TB.out.ok (by omega)); clear hd)
        | (go_at_call 12; (with_reducible refine HT2.out.mono ?_); rintro e w8 ⟨⟨v, rfl⟩, hd⟩; have HD8 := Lib.hid hd.swap; clear hd))
      obtain ⟨ca2, hca2⟩ : ∃ c, c = (ca'.act tickA.m).1 := ⟨_, rfl⟩
      obtain ⟨cb2, hcb2⟩ : ∃ c, c = (cb'.act tickA.m).1 := ⟨_, rfl⟩
      have ta2 := TA.out.tick (by omega)
      have tb2 := TB.out.tick (by omega)
      rw [← hca2] at ta2 HD8
      rw [← hcb2] at tb2 HD8
      clear TA TB HT1 HT2 hca2 hcb2
      have TA := Lib.hid ta2
      have TB := Lib.hid tb2
      clear ta2 tb2
      go_loopg [86] 4 (fun g v86 wt => ∃ t : Nat, t ≤ 4 ∧ g = 4 - t ∧ v86 = .int .i64 t ∧ Duo2 w6 (Fa ++ Fb) wt a b ca2 cb2)
      case atStart => exact ⟨0, by omega, by omega, rfl, HD8.out⟩
      case round =>
        obtain ⟨t, ht, rfl, rfl, hdt⟩ := hrel
        have HDt := Lib.hid hdt
        clear hdt
        by_cases htl : t < 4
        · obtain ⟨X, hX⟩ : ∃ X, X = ca2.board t := ⟨_, rfl⟩
          obtain ⟨Y, hY⟩ : ∃ Y, Y = cb2.board t := ⟨_, rfl⟩
          have kx := TA.out.t.b t (by omega)
          have ky := TB.out.t.b t (by omega)
          have zx := TA.out.t.z t
          rw [← hX] at kx zx
          rw [← hY] at ky
          have hlx : (X.length : Int) = wantM r t (i + 1) r.length := by
            have h1 := congrArg List.length kx
            rw [List.length_map] at h1
            rw [h1]
            exact keysT_len r hrl HSET.out.sinks t (i + 1)
          have hly : Y.length = X.length := by
            have h1 := congrArg List.length kx
            have h2 := congrArg List.length ky
            rw [List.length_map] at h1 h2
            omega
          have hwb := wantM_bd r HSET.out.sinks t (i + 1) r.length (Nat.le_refl _)
          have hx60 : X.length ≤ 60 := by
            have h1 : (r.length : Int) * ((i + 1 : Nat) : Int) ≤ 2 * ((i + 1 : Nat) : Int) := Int.mul_le_mul_of_nonneg_right (by omega) (by omega)
            omega
          have KX := Lib.hid kx
          have KY := Lib.hid ky
          have ZX := Lib.hid zx
          have HLX := Lib.hid hlx
          have HLY := Lib.hid hly
          have HXE := Lib.hid hX
          have HYE := Lib.hid hY
          have HTO := Lib.hid (duo_told HDt.out (12 * i + 6 + 6) t (by omega) TA.out.q0 TA.out.q1 TA.out.ok (by omega) (by rw [← hX]; omega))
          have HY60 := Lib.hid (show (cb2.board t).length ≤ 640 by rw [← hY]; omega)
          clear kx ky zx hlx hly hX hY hwb
          go_wp2_with (first
            | (go_at_call 13; (with_reducible refine HTO.out.mono ?_); rintro e w9 ⟨vx, S1, rfl, hox, hdx, hd9, hi9, hm9⟩; rw [← HXE.out] at hox; have HOX := Lib.hid hox; have HDX := Lib.hid hdx; have HI9 := Lib.hid hi9; have HM9 := Lib.hid hm9; obtain ⟨xa, xc, rfl⟩ := own_shape2 hox; have HTP := Lib.hid (duo_told hd9.swap (12 * i + 6 + 6) t (by omega) TB.out.q0 TB.out.q1 TB.out.ok (by omega) HY60.out); clear hox hdx hd9 hi9 hm9)
            | (go_at_call 13; (with_reducible refine HTP.out.mono ?_); rintro e w10 ⟨vy, S2, rfl, hoy, hdy, hd10, hi10, hm10⟩; rw [← HYE.out, HLY.out] at hoy; have HOY := Lib.hid hoy; have HOX2 := Lib.hid (own_mod HOX.out hm10 HDX.out); have HD10 := Lib.hid (Duo2.comp HM9.out HI9.out (Duo2.comp hm10 hi10 hd10.swap)); obtain ⟨ya, yc, rfl⟩ := own_shape2 hoy; have m3 := (HA6.out.mod HD10.out.mod (fun hh => by have := (HS6.out _ hh).2; omega)).c 3 _ rfl; clear hoy hdy hd10 hi10 hm10))
          have HXB := Lib.hid hx60
          have HS10 := Lib.hid (HSET.out.sinks)
          go_loopg [16, 98] r.length (fun g v16 v98 wr => ∃ j : Nat, j ≤ r.length ∧ g = r.length - j ∧ v16 = .int .i64 (wantM r t (i + 1) j) ∧ v98 = .int .i64 j ∧ Below w10.heap.size w10 wr)
          case atStart => exact ⟨0, by omega, by omega, rfl, rfl, Below.refl _ _⟩
          case round =>
            obtain ⟨j, hj, rfl, rfl, rfl, hbj⟩ := hrel
            have HBJ := Lib.hid hbj
            clear hbj
            by_cases hjl : j < r.length
            · obtain ⟨s, hs⟩ : ∃ s, r[j]? = some s := ⟨r[j], by simp [hjl]⟩
              obtain ⟨rg, rc2, hrg, hrge, hrgl, _, _, hrcs⟩ := own_form HO6.out (by omega)
              simp only [Value.slice.injEq, true_and] at hrg
              obtain ⟨rfl, rfl⟩ := hrg
              have hrg0 : rg ∉ Fa ++ Fb := fun hh => by
                have h1 := (HS6.out _ hh).2
                have h2 := HSL.out rg (by simp [Value.ownBlock])
                omega
              have HXS := Lib.hid (fun (jj : Nat) (u : Value) (hu : s.cs[jj]? = some u) => (HBJ.out.cell (p := ⟨rg, j * 5 + jj, none⟩) (Nat.lt_of_lt_of_le hrgl HD10.out.mod.size)).trans ((HD10.out.mod.cell hrgl hrg0).trans (hrcs (j * 5 + jj) u (flat_get (cs := SinkV.cs) (k := 5) (fun _ => rfl) hs hu))))
              have hsb := HSET.out.sinks s (List.mem_of_getElem? hs)
              have hws := wantM_succ r t (i + 1) j s hs
              have hwb := wantM_bd r HSET.out.sinks t (i + 1) j (by omega)
              have hwb2 : wantM r t (i + 1) j ≤ 60 := by
                have h1 : (j : Int) * ((i + 1 : Nat) : Int) ≤ 2 * ((i + 1 : Nat) : Int) := Int.mul_le_mul_of_nonneg_right (by omega) (by omega)
                omega
              have hwi := wantI_bd s hsb t (i + 1)
              obtain ⟨wj, hwj⟩ : ∃ z, z = wantM r t (i + 1) j := ⟨_, rfl⟩
              rw [← hwj] at hws hwb hwb2 ⊢
              have HWS := Lib.hid hws
              have hwb1 := hwb.1
              clear hrcs hws hwb hwj hs
              obtain ⟨s1, s2, s3, s4, s5⟩ := s
              have y0 := HXS.out 0 _ rfl
              have y1 := HXS.out 1 _ rfl
              have y2 := HXS.out 2 _ rfl
              have y3 := HXS.out 3 _ rfl
              have y4 := HXS.out 4 _ rfl
              simp only [Nat.add_zero] at y0
              have k1 : 1 ≤ s5 := hsb.k1
              have k2 : s5 ≤ 6 := hsb.k2
              clear hsb
              cases hh : hasI s2 t with
              | false =>
                have HH := Lib.hid hh
                have HWI := Lib.hid (show wantI ⟨s1, s2, s3, s4, s5⟩ t (i + 1) = 0 from by simp [wantI, hh])
                clear hh hwi
                go_wp2_with (go_at_call 14; (with_reducible refine (has_any s2 t (by omega) _).mono ?_); rintro e w1 ⟨rfl, rfl⟩; rw [show (bits BinOp.and IntKind.u64 s2 ((2 ^ t : Nat) : Int) != 0) = false from HH.out])
                go_roundg (r.length - (j + 1))
                case measure => omega
                case rel => exact ⟨j + 1, by omega, rfl, by rw [HWS.out, HWI.out, Int.add_zero], by go_num, bel_alloc HBJ.out _⟩
              | true =>
                have HH := Lib.hid hh
                have hq : wantI ⟨s1, s2, s3, s4, s5⟩ t (i + 1) = ((i : Int) + 1).tdiv s5 := by
                  simp only [wantI, hh, if_true]
                  rw [Int.tdiv_eq_ediv_of_nonneg (by omega)]
                  rfl
                rw [hq] at hwi HWS
                have hq1 := hwi.1
                have hq2 := hwi.2
                clear hh hwi hq
                go_wp2_with (go_at_call 14; (with_reducible refine (has_any s2 t (by omega) _).mono ?_); rintro e w1 ⟨rfl, rfl⟩; rw [show (bits BinOp.and IntKind.u64 s2 ((2 ^ t : Nat) : Int) != 0) = true from HH.out])
                go_roundg (r.length - (j + 1))
                case measure => omega
                case rel =>
                  exact ⟨j + 1, by omega, rfl, by rw [HWS.out], by go_num, bel_alloc HBJ.out _⟩
            · obtain rfl : j = r.length := by omega
              rw [← HLX.out]
              go_wp2_with fail
              go_loopg [126] X.length (fun g v126 wn => ∃ n : Nat, n ≤ X.length ∧ g = X.length - n ∧ v126 = .int .i64 n ∧ Below wr.heap.size wr wn)
              case atStart => exact ⟨0, by omega, by omega, rfl, Below.refl _ _⟩
              case round =>
                obtain ⟨n, hn, rfl, rfl, hbn⟩ := hrel
                have HBN := Lib.hid (below_step HBJ.out hbn)
                have HBN2 := Lib.hid hbn
                clear hbn
                by_cases hnl : n < X.length
                · obtain ⟨x, hx⟩ : ∃ x, X[n]? = some x := ⟨X[n], by simp [hnl]⟩
                  obtain ⟨y, hy⟩ : ∃ y, Y[n]? = some y := ⟨Y[n]'(by have := HLY.out; omega), by simp [HLY.out, hnl]⟩
                  have hxy : keyR x = keyR y := by
                    have h1 : (X.map keyR)[n]? = (Y.map keyR)[n]? := by rw [KX.out, KY.out]
                    rw [List.getElem?_map, List.getElem?_map, hx, hy] at h1
                    simpa using h1
                  have hzx := ZX.out x (List.mem_of_getElem? hx)
                  obtain ⟨xg, xc2, hxg, _, hxgl, _, _, hxcs⟩ := own_form HOX2.out (by omega)
                  obtain ⟨yg, yc2, hyg, _, hygl, _, _, hycs⟩ := own_form HOY.out (by omega)
                  simp only [Value.slice.injEq, true_and] at hxg hyg
                  obtain ⟨rfl, rfl⟩ := hxg
                  obtain ⟨rfl, rfl⟩ := hyg
                  have HXC := Lib.hid (fun (jj : Nat) (u : Value) (hu : x.cs[jj]? = some u) => (HBN.out.cell (p := ⟨xg, n * 4 + jj, none⟩) hxgl).trans (hxcs (n * 4 + jj) u (flat_get (cs := RelV.cs) (k := 4) (fun _ => rfl) hx hu)))
                  have HYC := Lib.hid (fun (jj : Nat) (u : Value) (hu : y.cs[jj]? = some u) => (HBN.out.cell (p := ⟨yg, n * 4 + jj, none⟩) hygl).trans (hycs (n * 4 + jj) u (flat_get (cs := RelV.cs) (k := 4) (fun _ => rfl) hy hu)))
                  clear hxcs hycs hx hy
                  obtain ⟨x1, x2, x3, x4⟩ := x
                  obtain ⟨y1, y2, y3, y4⟩ := y
                  simp only [keyR, Prod.mk.injEq] at hxy
                  obtain ⟨rfl, rfl⟩ := hxy
                  have c0 := HXC.out 0 _ rfl
                  have c1 := HXC.out 1 _ rfl
                  have c2 := HXC.out 2 _ rfl
                  have c3 := HXC.out 3 _ rfl
                  have d0 := HYC.out 0 _ rfl
                  have d1 := HYC.out 1 _ rfl
                  simp only [Nat.add_zero] at c0 d0
                  have hz : x4 = false ∨ (x4 = true ∧ x3 = 0) := by
                    cases x4 with
                    | false => exact .inl rfl
                    | true => exact .inr ⟨rfl, hzx rfl⟩
                  clear hzx
                  rcases hz with rfl | ⟨rfl, rfl⟩
                  · go_wp2_with fail
                    go_quiet (fail)
                    go_wp2_with fail
                    go_roundg (X.length - (n + 1))
                    case measure => omega
                    case rel => exact ⟨n + 1, by omega, rfl, by go_num, bel_drawN HBN2.out _⟩
                  · go_wp2_with fail
                    go_quiet (fail)
                    go_wp2_with fail
                    go_roundg (X.length - (n + 1))
                    case measure => omega
                    case rel => exact ⟨n + 1, by omega, rfl, by go_num, bel_drawN HBN2.out _⟩
                · obtain rfl : n = X.length := by omega
                  go_wp2_with fail
                  go_roundg (4 - (t + 1))
                  case measure => omega
                  case rel => exact ⟨t + 1, by omega, rfl, by go_num, (HD10.out.below HBN.out)⟩
        · obtain rfl : t = 4 := by omega
          go_wp2_with fail
          go_roundg (30 - (i + 1))
          case measure => omega
          case rel => exact ⟨i + 1, ca2, cb2, by omega, rfl, by go_num, TA.out.wide (by omega) (by omega), TB.out.wide (by omega) (by omega), HDt.out⟩
    · obtain rfl : i = 30 := by omega
      go_wp2_with (go_at_call 15; (with_reducible refine (awake_any _).mono ?_); rintro e w9 ⟨rfl, hb9⟩; have HB9 := Lib.hid hb9; clear hb9)
      go_ret
      have hm := HD.out.mod
      have h1 : Below W.heap.size W wr := hm.belowB HB06.out HB06.out.size (fun x hx => by have := (HS6.out x hx).2; have := HB2.out.size; omega)
      exact ⟨rfl, below_step h1 HB9.out⟩
end Go.Proofs.YtcanfmabkklidaaGreat
set_option linter.unusedSimpArgs false
set_option linter.unusedVariables false
set_option linter.unnecessarySimpa false
namespace Go.Proofs.YtcanfmabkklidaaGreat
open Go.RowKit

set_option maxRecDepth 100000 in
theorem timing_walk (W : World) {base : Nat} (v0 : Value) (h0 : Value.okWide Tryz.prog W .any base 24 v0) (r0 : Rd Tryz.prog W 24 v0.cells.toList) (a1 : Option Addr) (len1 cap1 : Nat) (r1 : Rd Tryz.prog W 25 [.slice a1 len1 cap1]) (a2 : Option Addr) (len2 cap2 : Nat) (r2 : Rd Tryz.prog W 25 [.slice a2 len2 cap2]) :
    Calls Tryz.prog 3 #[v0, .slice a1 len1 cap1, .slice a2 len2 cap2] W fun e w' => e = .returned (.bool true) ∧ Below W.heap.size W w' := by
  obtain ⟨kb, kr, kq, vs, ks, rfl, hks⟩ := setup_open h0 r0
  obtain ⟨l, _, hl, hlo⟩ := kacts_of r1
  obtain ⟨m, _, hm, hmo⟩ := kacts_of r2
  exact timing_any W kb kr kq vs ks hks _ _ l m hl hlo hm hmo
end Go.Proofs.YtcanfmabkklidaaGreat
