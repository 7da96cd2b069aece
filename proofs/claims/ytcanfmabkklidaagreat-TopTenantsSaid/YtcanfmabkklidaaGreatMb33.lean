/- TopTenants: the walk. -/
import Derived.Test.YtcanfmabkklidaaGreatMb29
import Derived.Test.YtcanfmabkklidaaGreatMb30
import Derived.Test.YtcanfmabkklidaaGreatMb32
set_option linter.unusedSimpArgs false
set_option linter.unusedVariables false
set_option linter.unnecessarySimpa false
namespace Go.Proofs.YtcanfmabkklidaaGreat
open Go.RowKit

theorem ten_reg (B R Q : Int) (r : List SinkV) (a b : Nat) (ha : a ≤ 7) (hb : b ≤ 7) (hab : a ≠ b) (h : SetBd B R Q r) (x y : ActV) (hx : ActBd7 x) (hy : ActBd7 y) (k1 : x.kind = 1) (k2 : y.kind = 1) (t1 : x.tenant = (a : Int)) (t2 : y.tenant = (b : Int)) (hp : x.pipe.m = y.pipe.m) (hs : x.pipe.sink = -1) (hf : x.pipe.feed = -1) :
    TenI ((CoreV.new B R Q r).acts ([x, y].map ActV.m)).1 a b ∧ CoreOk ((CoreV.new B R Q r).acts ([x, y].map ActV.m)).1 12 ∧ ((CoreV.new B R Q r).acts ([x, y].map ActV.m)).1.quota = Q := by
  have hk := CoreOk.acts ([x, y].map ActV.m) (new_ok h) h.q1 (by have := h.q2; show Q ≤ 1000; omega) (fun z hz => by
    obtain ⟨u, hu, rfl⟩ := List.mem_map.1 hz
    simp only [List.mem_cons, List.not_mem_nil, or_false] at hu
    rcases hu with rfl | rfl
    · exact ⟨by show u.tenant.toNat ≤ 7; omega, fun hk => (hx.pipe hk).m⟩
    · exact ⟨by show u.tenant.toNat ≤ 7; omega, fun hk => (hy.pipe hk).m⟩) (by simp)
  refine ⟨⟨CellV.new a Q x.pipe.m, ?_, ?_, ?_, rfl, hf, ⟨(hx.pipe k1).m, by simp [CellV.new, RunV.new], by simp [CellV.new, RunV.new]⟩⟩, by simpa using hk.1, hk.2.1⟩
  all_goals
    have e1 : x.tenant.toNat = a := by omega
    have e2 : y.tenant.toNat = b := by omega
    have e3 : x.pipe.m.sink = -1 := hs
    have e4 : x.pipe.m.feed = -1 := hf
    have e5 : ¬ b = a := fun e => hab e.symm
    have s1 : (CoreV.new B R Q r).act x.m = ((CoreV.new B R Q r).setCell a (CellV.new a Q x.pipe.m), ⟨0, [], []⟩) := by
      simp [CoreV.act, ActV.m, k1, CoreV.register, e1, CoreV.new, CoreV.mayI, inI, e3, e4]
    have s2 : ((CoreV.new B R Q r).setCell a (CellV.new a Q x.pipe.m)).act y.m = (((CoreV.new B R Q r).setCell a (CellV.new a Q x.pipe.m)).setCell b (CellV.new b Q x.pipe.m), ⟨0, [], []⟩) := by
      simp [CoreV.act, ActV.m, k2, CoreV.register, e2, CoreV.new, CoreV.setCell, e5, CoreV.mayI, inI, ← hp, e3, e4]
    first
      | (simp only [List.map_cons, List.map_nil, CoreV.acts, s1, s2]; simp [CoreV.setCell, hab]; done)
      | (simp only [List.map_cons, List.map_nil, CoreV.acts, s1, s2]; simp [CoreV.setCell, relC, relRun, relO, CellV.new, RunV.new]; done)
      | (simp [relC, relRun, relO, CellV.new, RunV.new])
set_option maxHeartbeats 4000000 in
set_option maxRecDepth 100000 in
theorem tenants_any (W : World) (kb kr kq : Int) (vs : Value) (ks : List KSinkV) (hks : IsR KSinkV.cs 5 W vs ks) (v1 : Value) (l : List InV) (hl : IsR InV.cs 4 W v1 l) (vo vn : Value) (ol nl : List Int) (sz sl ag si fd : Int) (hvo : IsL W vo ol) (hvn : IsL W vn nl) (n1 n2 : Int) :
    Calls Tryz.prog 6 #[.agg #[.int .i64 kb, .int .i64 kr, .int .i64 kq, vs], v1, .agg #[vo, vn, .int .i64 sz, .int .i64 sl, .int .i64 ag, .int .i64 si, .int .i64 fd], .int .i64 n1, .int .i64 n2] W fun e w' => e = .returned (.bool true) ∧ Below W.heap.size W w' := by
  obtain ⟨ka, kc, rfl, _⟩ := id hks
  obtain ⟨oa, oc, rfl, _⟩ := id hvo
  obtain ⟨na, nc, rfl, _⟩ := id hvn
  have HKS := Lib.hid (fun (w' : World) (hb : Below W.heap.size W w') => hks.kept hb)
  have HL := Lib.hid (fun (w' : World) (hb : Below W.heap.size W w') => hl.kept hb)
  have HVO := Lib.hid (fun (w' : World) (hb : Below W.heap.size W w') => hvo.kept hb)
  have HVN := Lib.hid (fun (w' : World) (hb : Below W.heap.size W w') => hvn.kept hb)
  clear hks hl hvo hvn
  have b1 := within_bd n1 0 7 (by omega)
  obtain ⟨a, ha⟩ : ∃ t : Nat, within n1 0 7 = (t : Int) := ⟨(within n1 0 7).toNat, by omega⟩
  rw [ha] at b1
  have ha7 : a ≤ 7 := by omega
  have b2 := within_bd n2 0 7 (by omega)
  obtain ⟨b, hb⟩ : ∃ t : Nat, within n2 0 7 = (t : Int) := ⟨(within n2 0 7).toNat, by omega⟩
  rw [hb] at b2
  have hb7 : b ≤ 7 := by omega
  have HTA := Lib.hid ha
  have HTB := Lib.hid hb
  clear ha hb
  go_enter Tryz.func6, Tryz.ntmps6
  go_upto_if 38 with (first
    | (go_at_call 9; (with_reducible refine (setup_any _ _ ks kb kr kq (HKS.out _ (bel_alloc (bel_alloc (Below.refl _ W) _) _))).mono ?_); rintro e w1 ⟨B, R, Q, vr, r, rfl, ho, hset, hb⟩; have HO1 := Lib.hid ho; have HSET := Lib.hid hset; have HB1 := Lib.hid (below_step (bel_alloc (bel_alloc (Below.refl _ W) _) _) hb); have kk := (At.newAt (w := W.alloc (.cells #[.int .i64 kb, .int .i64 kr, .int .i64 kq, .slice ka ks.length kc] 24)) (b := W.heap.size + 1) (by simp) #[.slice oa ol.length oc, .slice na nl.length nc, .int .i64 sz, .int .i64 sl, .int .i64 ag, .int .i64 si, .int .i64 fd] 75).below hb; have k0 := kk.c 0 _ rfl; have k1 := kk.c 1 _ rfl; have k2 := kk.c 2 _ rfl; have k3 := kk.c 3 _ rfl; have k4 := kk.c 4 _ rfl; have k5 := kk.c 5 _ rfl; have k6 := kk.c 6 _ rfl; have lk := kk.lt; obtain ⟨ra, rc, rfl⟩ := own_shape2 ho; have hs1 := HB1.out.size; clear ho hset hb kk)
    | (go_at_call 16; (with_reducible refine (within_any n1 _ _ _ (by omega) (by omega) (by omega)).mono ?_); rintro e wd ⟨rfl, rfl⟩; rw [HTA.out])
    | (go_at_call 16; (with_reducible refine (within_any n2 _ _ _ (by omega) (by omega) (by omega)).mono ?_); rintro e wd ⟨rfl, rfl⟩; rw [HTB.out])
    | (go_at_call 24; (with_reducible refine (pipe_any _ (.slice oa ol.length oc) (.slice na nl.length nc) ol nl sz sl ag si fd (HVO.out _ (bel_alloc HB1.out _)) (HVN.out _ (bel_alloc HB1.out _))).mono ?_); rintro e w2 ⟨p, rfl, hrow, hbdp, hb⟩; have HROW := Lib.hid hrow; have HBP := Lib.hid hbdp; have HB2 := Lib.hid hb; obtain ⟨po, pl, p2, p3, p4, p5, p6⟩ := p; obtain ⟨pa, pc, hpo⟩ := (show ∃ pa pc, po = .slice pa pl.length pc from own_shape2 HROW.out); subst hpo; simp only [PipeV.val]; have qq := (At.new w1 #[.int .i64 B, .int .i64 R, .int .i64 Q, .slice ra r.length rc] 28).below hb; have q0 := qq.c 0 _ rfl; have q1 := qq.c 1 _ rfl; have q2 := qq.c 2 _ rfl; have q3 := qq.c 3 _ rfl; have lq := qq.lt; have HQQ := Lib.hid qq; have HOS := Lib.hid (show w2.ownsRow W.heap.size 49 5 (.slice ra r.length rc) r.length (r.flatMap SinkV.cs) from own_of_block (ownsRow_base (HO1.out.alloc (.cells #[.int .i64 B, .int .i64 R, .int .i64 Q, .slice ra r.length rc] 28)) (by simp; omega)) (fun x hx => hb.block x (own_lt (HO1.out.alloc (.cells #[.int .i64 B, .int .i64 R, .int .i64 Q, .slice ra r.length rc] 28)) x hx))); have HRD := Lib.hid (fun (o : Obj) => RdR.of_own sinkcs_len' (HOS.out.alloc o)); clear hrow hbdp hb qq)
    | (go_at_call 10; (with_reducible refine (cnew10 _ r _ B R Q _ (HRD.out _) HSET.out).mono ?_); rintro e w3 ⟨c, Fc, rfl, hc, hF, hb⟩; have HC := Lib.hid hc; have HF := Lib.hid hF; have HB3 := Lib.hid hb; clear hc hF hb))
  by_cases hab : a = b
  · have e1 : ((a : Int) == (b : Int)) = true := by simp [hab]
    have HBW3 := Lib.hid (below_step (bel_alloc (below_step (bel_alloc HB1.out (.cells #[.int .i64 B, .int .i64 R, .int .i64 Q, .slice ra r.length rc] 28)) HB2.out) (.cells #[.slice pa pl.length pc, .int .i64 p2, .int .i64 p3, .int .i64 p4, .int .i64 (-1), .int .i64 (-1)] 36)) HB3.out)
    simp only [e1]
    go_wp2_with (go_at_call 15; (with_reducible refine (awake_any _).mono ?_); rintro e w9 ⟨rfl, hb9⟩; have HB9 := Lib.hid hb9; clear hb9)
    go_ret
    exact ⟨rfl, below_step HBW3.out HB9.out⟩
  · have e1 : ((a : Int) == (b : Int)) = false := by simp; omega
    have HAB := Lib.hid hab
    have HBW3 := Lib.hid (below_step (bel_alloc (below_step (bel_alloc HB1.out (.cells #[.int .i64 B, .int .i64 R, .int .i64 Q, .slice ra r.length rc] 28)) HB2.out) (.cells #[.slice pa pl.length pc, .int .i64 p2, .int .i64 p3, .int .i64 p4, .int .i64 (-1), .int .i64 (-1)] 36)) HB3.out)
    simp only [e1]
    clear hab e1
    have hp3 := (At.new w2 #[.slice pa pl.length pc, .int .i64 p2, .int .i64 p3, .int .i64 p4, .int .i64 (-1), .int .i64 (-1)] 36).below HB3.out
    have u0 := hp3.c 0 _ rfl
    have u1 := hp3.c 1 _ rfl
    have u2 := hp3.c 2 _ rfl
    have u3 := hp3.c 3 _ rfl
    have u4 := hp3.c 4 _ rfl
    have u5 := hp3.c 5 _ rfl
    have hsz2 : W.heap.size ≤ w2.heap.size := by have := HB1.out.size; have := HB2.out.size; simp at this; omega
    have HFW := Lib.hid (show ∀ z ∈ Fc, W.heap.size ≤ z ∧ w2.heap.size ≤ z from fun z hz => by have := HF.out z hz; simp at this; omega)
    have hra : ActBd7 ⟨1, (a : Int), 0, 0, ⟨.slice pa pl.length pc, pl, p2, p3, p4, -1, -1⟩, false, 0, 0, 0, 0⟩ := ⟨by simp, by simp, by simp, by simp; omega, fun _ => ⟨HBP.out.slide1, HBP.out.slide2, HBP.out.size1, HBP.out.size2, HBP.out.agg1, HBP.out.agg2, by simp, by simp, by simp, by simp, HBP.out.len, HBP.out.ops⟩⟩
    have hrb : ActBd7 ⟨1, (b : Int), 0, 0, ⟨.slice pa pl.length pc, pl, p2, p3, p4, -1, -1⟩, false, 0, 0, 0, 0⟩ := ⟨by simp, by simp, by simp, by simp; omega, fun _ => ⟨HBP.out.slide1, HBP.out.slide2, HBP.out.size1, HBP.out.size2, HBP.out.agg1, HBP.out.agg2, by simp, by simp, by simp, by simp, HBP.out.len, HBP.out.ops⟩⟩
    have hop : ∃ So, RdR OpV.cs 2 w3 (.slice pa pl.length pc) pl So ∧ ∀ y ∈ So, y ∉ Fc := by
      have h1 := RdR.of_own opcs_len HROW.out
      refine ⟨_, (h1.same (fun z hz => (bel_alloc (Below.refl _ w2) (.cells #[.slice pa pl.length pc, .int .i64 p2, .int .i64 p3, .int .i64 p4, .int .i64 (-1), .int .i64 (-1)] 36)).block z (h1.lt z hz))).same (fun z hz => HB3.out.block z (by have := h1.lt z hz; simp; omega)), fun y hy hh => ?_⟩
      have h2 := h1.lt y hy
      have h3 := (HFW.out y hh).2
      omega
    have hreg := ten_reg B R Q r a b ha7 hb7 HAB.out HSET.out ⟨1, (a : Int), 0, 0, ⟨.slice pa pl.length pc, pl, p2, p3, p4, -1, -1⟩, false, 0, 0, 0, 0⟩ ⟨1, (b : Int), 0, 0, ⟨.slice pa pl.length pc, pl, p2, p3, p4, -1, -1⟩, false, 0, 0, 0, 0⟩ hra hrb rfl rfl rfl rfl rfl rfl rfl
    have HREG := Lib.hid hreg
    have HDR := Lib.hid (show Calls Tryz.prog 12 #[.pointer (some ⟨c, 0, none⟩), .slice (some ⟨w3.heap.size, 0, none⟩) 2 2] (w3.alloc (.cells #[.int .i64 1, .int .i64 a, .int .i64 0, .int .i64 0, .slice pa pl.length pc, .int .i64 p2, .int .i64 p3, .int .i64 p4, .int .i64 (-1), .int .i64 (-1), .bool false, .int .i64 0, .int .i64 0, .int .i64 0, .int .u64 0, .int .i64 1, .int .i64 b, .int .i64 0, .int .i64 0, .slice pa pl.length pc, .int .i64 p2, .int .i64 p3, .int .i64 p4, .int .i64 (-1), .int .i64 (-1), .bool false, .int .i64 0, .int .i64 0, .int .i64 0, .int .u64 0] 43)) _ from one_dos HC.out.one 0 [⟨1, (a : Int), 0, 0, ⟨.slice pa pl.length pc, pl, p2, p3, p4, -1, -1⟩, false, 0, 0, 0, 0⟩, ⟨1, (b : Int), 0, 0, ⟨.slice pa pl.length pc, pl, p2, p3, p4, -1, -1⟩, false, 0, 0, 0, 0⟩] (by simp) (by simp) (fun x hx => by
      simp only [List.mem_cons, List.not_mem_nil, or_false] at hx
      rcases hx with rfl | rfl
      · exact ⟨hra, hop⟩
      · exact ⟨hrb, hop⟩) HSET.out.q1 (by have := HSET.out.q2; show Q ≤ 1000; omega) (new_ok HSET.out) (by simp))
    have HQ := Lib.hid (show 0 ≤ Q ∧ Q ≤ 1000 from ⟨HSET.out.q1, by have := HSET.out.q2; omega⟩)
    clear hp3 hreg hra hrb hop
    go_wp2_with (first
      | (go_at_call 12; (with_reducible refine HDR.out.mono ?_); rintro e w4 ⟨g4, cap4, L4, S1, rfl, _, _, _, hone, hin, hmod⟩; have HONE := Lib.hid hone; have HIN1 := Lib.hid hin; have HM4 := Lib.hid hmod; have HBW4 := Lib.hid (show Below W.heap.size W w4 from hmod.belowB HBW3.out HBW3.out.size (fun z hz => (HFW.out z hz).1)); clear hone hin hmod)
      | (go_at_call 22; (with_reducible refine (inputs_any _ v1 l (HL.out _ HBW4.out)).mono ?_); rintro e w5 ⟨vi, ins, rfl, hoi, hli, hbi, hb5⟩; have HOI := Lib.hid hoi; have HLI := Lib.hid hli; have HB5 := Lib.hid hb5; obtain ⟨ia, ic, rfl⟩ := own_shape2 hoi; clear hoi hli hbi hb5))
    obtain ⟨S1', hc1, hi1, _⟩ := HONE.out
    have HS1 := Lib.hid (show ∀ z ∈ S1', z < w4.heap.size ∧ W.heap.size ≤ z from fun z hz => ⟨hc1.lt z hz, by
      rcases hi1 z hz with h | h
      · rcases HIN1.out z h with h' | h'
        · exact (HFW.out z h').1
        · have := HBW3.out.size; omega
      · have := HBW4.out.size; omega⟩)
    have HC1 := Lib.hid (hc1.below HB5.out)
    clear hc1 hi1
    have hins : ins.length ≤ 25 := by have := HLI.out; omega
    have HNI := Lib.hid (show ∀ z ∈ (Value.slice ia ins.length ic).ownBlock.toList, z ∉ S1' from fun z hz hh => by
      have h1 := own_new HOI.out z hz
      have h2 := (HS1.out z hh).1
      omega)
    go_loopg [52] ins.length (fun g v52 wr => ∃ (i : Nat) (cc : CoreV), i ≤ ins.length ∧ g = ins.length - i ∧ v52 = .int .i64 i ∧ TenI cc a b ∧ CoreOk cc (12 + 18 * i) ∧ cc.quota = Q ∧ One w5 S1' wr c cc)
    case atStart => exact ⟨0, _, by omega, by omega, rfl, HREG.out.1, HREG.out.2.1, HREG.out.2.2, HC1.out.one⟩
    case round =>
      obtain ⟨i, cc, hi, rfl, rfl, hten, hok, hq, hone⟩ := hrel
      have HTEN := Lib.hid hten
      have HOK := Lib.hid hok
      have HQC := Lib.hid hq
      have HONEr := Lib.hid hone
      clear hten hok hq hone
      by_cases hlt : i < ins.length
      · obtain ⟨x, hx⟩ : ∃ x, ins[i]? = some x := ⟨ins[i], by simp [hlt]⟩
        obtain ⟨ig, ic2, hig, _, higl, _, _, hics⟩ := own_form HOI.out (by omega)
        simp only [Value.slice.injEq, true_and] at hig
        obtain ⟨rfl, rfl⟩ := hig
        have HXC := Lib.hid (fun (jj : Nat) (u : Value) (hu : x.cs[jj]? = some u) => (HONEr.out.mod.cell higl (HNI.out ig (by simp [Value.ownBlock]))).trans (hics (i * 5 + jj) u (flat_get (cs := InpV.cs) (k := 5) (fun _ => rfl) hx hu)))
        clear hics hx
        obtain ⟨im, it, ik, iv, il⟩ := x
        have x0 := HXC.out 0 _ rfl
        have x1 := HXC.out 1 _ rfl
        have x2 := HXC.out 2 _ rfl
        have x3 := HXC.out 3 _ rfl
        have x4 := HXC.out 4 _ rfl
        simp only [Nat.add_zero] at x0
        have hoa : ActBd7 ⟨2, (a : Int), 0, 0, ⟨.slice none 0 0, [], 0, 0, 0, 0, 0⟩, im, it, ik, iv, il⟩ := ⟨by simp, by simp, by simp, by simp; omega, fun h => by simp at h⟩
        have hob : ActBd7 ⟨2, (b : Int), 0, 0, ⟨.slice none 0 0, [], 0, 0, 0, 0, 0⟩, im, it, ik, iv, il⟩ := ⟨by simp, by simp, by simp, by simp; omega, fun h => by simp at h⟩
        have hot : ActBd7 ⟨3, 0, 0, 0, ⟨.slice none 0 0, [], 0, 0, 0, 0, 0⟩, false, 0, 0, 0, 0⟩ := ⟨by simp, by simp, by simp, by simp, fun h => by simp at h⟩
        have hd3 := one_dos (HONEr.out.below (bel_alloc (Below.refl _ wr) (.cells #[.bool im, .int .i64 it, .int .i64 ik, .int .i64 iv, .int .u64 il] 41))) (12 + 18 * i) [⟨2, (a : Int), 0, 0, ⟨.slice none 0 0, [], 0, 0, 0, 0, 0⟩, im, it, ik, iv, il⟩, ⟨2, (b : Int), 0, 0, ⟨.slice none 0 0, [], 0, 0, 0, 0, 0⟩, im, it, ik, iv, il⟩, ⟨3, 0, 0, 0, ⟨.slice none 0 0, [], 0, 0, 0, 0, 0⟩, false, 0, 0, 0, 0⟩] (by simp) (by simp) (fun x hx => by
          simp only [List.mem_cons, List.not_mem_nil, or_false] at hx
          rcases hx with rfl | rfl | rfl
          · exact ⟨hoa, [], RdR.nil _ _ _, by simp⟩
          · exact ⟨hob, [], RdR.nil _ _ _, by simp⟩
          · exact ⟨hot, [], RdR.nil _ _ _, by simp⟩) (by rw [HQC.out]; exact HQ.out.1) (by rw [HQC.out]; exact HQ.out.2) HOK.out (by simp; omega)
        rw [show (wr.alloc (.cells #[.bool im, .int .i64 it, .int .i64 ik, .int .i64 iv, .int .u64 il] 41)).heap.size = wr.heap.size + 1 by simp] at hd3
        have HD3 := Lib.hid (show Calls Tryz.prog 12 #[.pointer (some ⟨c, 0, none⟩), .slice (some ⟨wr.heap.size + 1, 0, none⟩) 3 3] ((wr.alloc (.cells #[.bool im, .int .i64 it, .int .i64 ik, .int .i64 iv, .int .u64 il] 41)).alloc (.cells #[.int .i64 2, .int .i64 a, .int .i64 0, .int .i64 0, .slice none 0 0, .int .i64 0, .int .i64 0, .int .i64 0, .int .i64 0, .int .i64 0, .bool im, .int .i64 it, .int .i64 ik, .int .i64 iv, .int .u64 il, .int .i64 2, .int .i64 b, .int .i64 0, .int .i64 0, .slice none 0 0, .int .i64 0, .int .i64 0, .int .i64 0, .int .i64 0, .int .i64 0, .bool im, .int .i64 it, .int .i64 ik, .int .i64 iv, .int .u64 il, .int .i64 3, .int .i64 0, .int .i64 0, .int .i64 0, .slice none 0 0, .int .i64 0, .int .i64 0, .int .i64 0, .int .i64 0, .int .i64 0, .bool false, .int .i64 0, .int .i64 0, .int .i64 0, .int .u64 0] 43)) _ from hd3)
        clear hd3 hoa hob hot
        go_wp2_with (go_at_call 12; (with_reducible refine HD3.out.mono ?_); rintro e w6 ⟨g6, cap6, L6, S6, rfl, hcap6, hat6, hlm6, hone6, hin6, hmod6⟩; have HAT6 := Lib.hid hat6; have HLM6 := Lib.hid hlm6; have HONE6 := Lib.hid hone6; have HIN6 := Lib.hid hin6; have HMOD6 := Lib.hid hmod6; clear hat6 hlm6 hone6 hin6 hmod6)
        obtain ⟨y0, y1, y2, hL⟩ : ∃ y0 y1 y2, L6 = [y0, y1, y2] := by
          have h1 := congrArg List.length HLM6.out
          rw [List.length_map, acts_len] at h1
          match L6, h1 with
          | [y0, y1, y2], _ => exact ⟨y0, y1, y2, rfl⟩
        subst hL
        have hoff := HTEN.out.offers ha7 hb7 HAB.out (ActV.m ⟨2, (a : Int), 0, 0, ⟨.slice none 0 0, [], 0, 0, 0, 0, 0⟩, im, it, ik, iv, il⟩) (ActV.m ⟨2, (b : Int), 0, 0, ⟨.slice none 0 0, [], 0, 0, 0, 0, 0⟩, im, it, ik, iv, il⟩) rfl rfl (by show (a : Int).toNat = a; omega) (by show (b : Int).toNat = b; omega) rfl
        have hact3 : (cc.acts ([⟨2, (a : Int), 0, 0, ⟨.slice none 0 0, [], 0, 0, 0, 0, 0⟩, im, it, ik, iv, il⟩, ⟨2, (b : Int), 0, 0, ⟨.slice none 0 0, [], 0, 0, 0, 0, 0⟩, im, it, ik, iv, il⟩, ⟨3, 0, 0, 0, ⟨.slice none 0 0, [], 0, 0, 0, 0, 0⟩, false, 0, 0, 0, 0⟩].map ActV.m)) = ((((cc.act (ActV.m ⟨2, (a : Int), 0, 0, ⟨.slice none 0 0, [], 0, 0, 0, 0, 0⟩, im, it, ik, iv, il⟩)).1.act (ActV.m ⟨2, (b : Int), 0, 0, ⟨.slice none 0 0, [], 0, 0, 0, 0, 0⟩, im, it, ik, iv, il⟩)).1.act (ActV.m ⟨3, 0, 0, 0, ⟨.slice none 0 0, [], 0, 0, 0, 0, 0⟩, false, 0, 0, 0, 0⟩)).1, [(cc.act (ActV.m ⟨2, (a : Int), 0, 0, ⟨.slice none 0 0, [], 0, 0, 0, 0, 0⟩, im, it, ik, iv, il⟩)).2, ((cc.act (ActV.m ⟨2, (a : Int), 0, 0, ⟨.slice none 0 0, [], 0, 0, 0, 0, 0⟩, im, it, ik, iv, il⟩)).1.act (ActV.m ⟨2, (b : Int), 0, 0, ⟨.slice none 0 0, [], 0, 0, 0, 0, 0⟩, im, it, ik, iv, il⟩)).2, (((cc.act (ActV.m ⟨2, (a : Int), 0, 0, ⟨.slice none 0 0, [], 0, 0, 0, 0, 0⟩, im, it, ik, iv, il⟩)).1.act (ActV.m ⟨2, (b : Int), 0, 0, ⟨.slice none 0 0, [], 0, 0, 0, 0, 0⟩, im, it, ik, iv, il⟩)).1.act (ActV.m ⟨3, 0, 0, 0, ⟨.slice none 0 0, [], 0, 0, 0, 0, 0⟩, false, 0, 0, 0, 0⟩)).2]) := rfl
        have hlm := HLM6.out
        rw [hact3] at hlm
        simp only [List.map_cons, List.map_nil, List.cons.injEq, and_true] at hlm
        have he0 : y0.err = (cc.act (ActV.m ⟨2, (a : Int), 0, 0, ⟨.slice none 0 0, [], 0, 0, 0, 0, 0⟩, im, it, ik, iv, il⟩)).2.err := congrArg AnsM.err hlm.1
        have he1 : y1.err = y0.err := by rw [he0, hoff.2]; exact congrArg AnsM.err hlm.2.1
        have k0 : w6.cell? ⟨g6, 0, none⟩ = some (.int .i64 y0.err) := HAT6.out.c 0 _ rfl
        have k3 : w6.cell? ⟨g6, 3, none⟩ = some (.int .i64 y0.err) := by
          have h : w6.cell? ⟨g6, 3, none⟩ = some (.int .i64 y1.err) := HAT6.out.c 3 _ rfl
          rw [he1] at h
          exact h
        have hcap6' : 3 ≤ cap6 := by simpa using hcap6
        have htick : (((cc.act (ActV.m ⟨2, (a : Int), 0, 0, ⟨.slice none 0 0, [], 0, 0, 0, 0, 0⟩, im, it, ik, iv, il⟩)).1.act (ActV.m ⟨2, (b : Int), 0, 0, ⟨.slice none 0 0, [], 0, 0, 0, 0, 0⟩, im, it, ik, iv, il⟩)).1.act (ActV.m ⟨3, 0, 0, 0, ⟨.slice none 0 0, [], 0, 0, 0, 0, 0⟩, false, 0, 0, 0, 0⟩)).1 = ((cc.act (ActV.m ⟨2, (a : Int), 0, 0, ⟨.slice none 0 0, [], 0, 0, 0, 0, 0⟩, im, it, ik, iv, il⟩)).1.act (ActV.m ⟨2, (b : Int), 0, 0, ⟨.slice none 0 0, [], 0, 0, 0, 0, 0⟩, im, it, ik, iv, il⟩)).1.tick := by simp [CoreV.act, ActV.m]
        have HTN2 := Lib.hid (show TenI (cc.acts ([⟨2, (a : Int), 0, 0, ⟨.slice none 0 0, [], 0, 0, 0, 0, 0⟩, im, it, ik, iv, il⟩, ⟨2, (b : Int), 0, 0, ⟨.slice none 0 0, [], 0, 0, 0, 0, 0⟩, im, it, ik, iv, il⟩, ⟨3, 0, 0, 0, ⟨.slice none 0 0, [], 0, 0, 0, 0, 0⟩, false, 0, 0, 0, 0⟩].map ActV.m)).1 a b from by
          rw [hact3]
          simp only
          rw [htick]
          exact hoff.1.tick ha7 hb7)
        have hoks := CoreOk.acts ([⟨2, (a : Int), 0, 0, ⟨.slice none 0 0, [], 0, 0, 0, 0, 0⟩, im, it, ik, iv, il⟩, ⟨2, (b : Int), 0, 0, ⟨.slice none 0 0, [], 0, 0, 0, 0, 0⟩, im, it, ik, iv, il⟩, ⟨3, 0, 0, 0, ⟨.slice none 0 0, [], 0, 0, 0, 0, 0⟩, false, 0, 0, 0, 0⟩].map ActV.m) HOK.out (by rw [HQC.out]; exact HQ.out.1) (by rw [HQC.out]; exact HQ.out.2) (fun z hz => by
          obtain ⟨u, hu, rfl⟩ := List.mem_map.1 hz
          simp only [List.mem_cons, List.not_mem_nil, or_false] at hu
          rcases hu with rfl | rfl | rfl
          · exact ⟨by show (a : Int).toNat ≤ 7; omega, fun hk => by simp [ActV.m] at hk⟩
          · exact ⟨by show (b : Int).toNat ≤ 7; omega, fun hk => by simp [ActV.m] at hk⟩
          · exact ⟨by simp [ActV.m], fun hk => by simp [ActV.m] at hk⟩) (by simp; omega)
        have HOKS := Lib.hid hoks
        clear hoff hact3 hlm he0 he1 htick hoks hcap6
        go_quiet (fail)
        go_wp2_with fail
        go_roundg (ins.length - (i + 1))
        case measure => omega
        case rel => exact ⟨i + 1, _, by omega, rfl, by go_num, HTN2.out, (by have := HOKS.out.1; exact this.wide (by simp; omega) (by omega)), HOKS.out.2.1.trans HQC.out, One.comp HMOD6.out HIN6.out (HONE6.out.below (bel_drawN (Below.refl _ _) _))⟩
      · obtain rfl : i = ins.length := by omega
        have hrl := rows_bd (t := a) HOK.out
        have hrb := rows_bd (t := b) HOK.out
        have HR1 := Lib.hid (one_rows HONEr.out (12 + 18 * ins.length) a ha7 (by rw [HQC.out]; exact HQ.out.1) (by rw [HQC.out]; exact HQ.out.2) HOK.out (by omega) (by omega))
        obtain ⟨X, hX⟩ : ∃ X, X = rowsV cc a := ⟨_, rfl⟩
        have hrows := HTEN.out.rows
        rw [← hX] at hrows HR1
        have HXX := Lib.hid hrows
        have hXl : X.length ≤ 2000 := by rw [hX]; omega
        have HRB := Lib.hid hrb
        clear hrl hrows hX hrb
        go_wp2_with (first
          | (go_at_call 19; (with_reducible refine HR1.out.mono ?_); rintro e w7 ⟨vx, S7, rfl, hox, hdx, hone, hin, hmod⟩; have HOX := Lib.hid hox; have HDX := Lib.hid hdx; have HINs := Lib.hid hin; have HM7 := Lib.hid hmod; obtain ⟨xa, xc, rfl⟩ := own_shape2 hox; have HR2 := Lib.hid (one_rows hone (12 + 18 * ins.length) b hb7 (by rw [HQC.out]; exact HQ.out.1) (by rw [HQC.out]; exact HQ.out.2) HOK.out (by omega) (by have := HRB.out; omega)); clear hox hdx hone hin hmod)
          | (go_at_call 19; (with_reducible refine HR2.out.mono ?_); rintro e w8 ⟨vy, S8, rfl, hoy, hdy, hone, hin, hmod⟩; rw [HXX.out.1, List.length_map] at hoy; have HOY := Lib.hid hoy; have HOX2 := Lib.hid (own_mod HOX.out hmod HDX.out); have HM8 := Lib.hid hmod; have HI8 := Lib.hid hin; obtain ⟨ya, yc, rfl⟩ := own_shape2 hoy; clear hoy hdy hone hin hmod))
        have hbw5 := below_step HBW4.out HB5.out
        have hbw7 : Below W.heap.size W w7 := HM7.out.belowB hbw5 hbw5.size (fun z hz => (HS1.out z hz).2)
        have hbw8 : Below W.heap.size W w8 := HM8.out.belowB hbw7 hbw7.size (fun z hz => by
          rcases HINs.out z hz with h | h
          · exact (HS1.out z h).2
          · have := hbw5.size; omega)
        have hwr : W.heap.size ≤ wr.heap.size := by have := HONEr.out.mod.size; have := hbw5.size; omega
        have HBW8 := Lib.hid hbw8
        obtain ⟨gx, hgx⟩ : ∃ gx, (0 < X.length → xa = some ⟨gx, 0, none⟩ ∧ At w8 gx (X.flatMap RowV.cs) ∧ gx < w7.heap.size) ∧ W.heap.size ≤ gx := by
          by_cases h0 : 0 < X.length
          · obtain ⟨gx, cx, hv, hge, _, _, _, _⟩ := own_form HOX2.out h0
            have hlt := own_lt HOX.out gx (by rw [hv]; simp [Value.ownBlock])
            have e : xa = some ⟨gx, 0, none⟩ := by simp only [Value.slice.injEq] at hv; exact hv.1
            exact ⟨gx, fun _ => ⟨e, At.of_row HOX2.out (by rw [hv]; rfl), hlt⟩, by omega⟩
          · exact ⟨w8.heap.size, fun h => absurd h h0, hbw8.size⟩
        obtain ⟨gy, hgy⟩ : ∃ gy, (0 < X.length → ya = some ⟨gy, 0, none⟩ ∧ At w8 gy ((X.map (relR ((2 ^ b : Nat) : Int))).flatMap RowV.cs) ∧ w7.heap.size ≤ gy) ∧ W.heap.size ≤ gy := by
          by_cases h0 : 0 < X.length
          · obtain ⟨gy, cy, hv, hge, _, _, _, _⟩ := own_form HOY.out h0
            have e : ya = some ⟨gy, 0, none⟩ := by simp only [Value.slice.injEq] at hv; exact hv.1
            exact ⟨gy, fun _ => ⟨e, At.of_row HOY.out (by rw [hv]; rfl), hge⟩, by have := hbw7.size; omega⟩
          · exact ⟨w8.heap.size, fun h => absurd h h0, hbw8.size⟩
        have HGX := Lib.hid hgx
        have HGY := Lib.hid hgy
        have HXC := Lib.hid (show X.length ≤ xc ∧ xc ≤ maxLen ∧ X.length ≤ yc ∧ yc ≤ maxLen from by
          have h1 := (RdR.of_own (cs := RowV.cs) (k := 5) (fun _ => rfl) HOX2.out)
          have h2 := HOY.out
          have e2 : (X.map (relR ((2 ^ b : Nat) : Int))).length = X.length := List.length_map _
          rw [← e2] at h2
          have h3 := (RdR.of_own (cs := RowV.cs) (k := 5) (fun _ => rfl) h2)
          obtain ⟨_, _, q1, q2, q3, _⟩ := h1
          obtain ⟨_, _, r1, r2, r3, _⟩ := h3
          simp only [Value.slice.injEq] at q1 r1
          rw [e2] at r2
          rw [q1.2.2, r1.2.2]
          exact ⟨q2, q3, r2, r3⟩)
        clear hbw5 hbw7 hbw8 hgx hgy
        go_loopg [94] X.length (fun g v94 wr => ∃ n : Nat, n ≤ X.length ∧ g = X.length - n ∧ v94 = .int .i64 n ∧ (0 < X.length → At wr gx ((mixL X n).flatMap RowV.cs) ∧ At wr gy ((mixL (X.map (relR ((2 ^ b : Nat) : Int))) n).flatMap RowV.cs)) ∧ Mod [gx, gy] w8 wr)
        case atStart => exact ⟨0, by omega, by omega, rfl, fun h0 => by rw [mixL_0, mixL_0]; exact ⟨(HGX.out.1 h0).2.1, (HGY.out.1 h0).2.1⟩, Mod.refl _ _⟩
        case round =>
          obtain ⟨n, hn, rfl, rfl, hat, hmo⟩ := hrel
          have HMOn := Lib.hid hmo
          clear hmo
          by_cases hnl : n < X.length
          · have h0 : 0 < X.length := by omega
            obtain ⟨x, hx⟩ : ∃ x, X[n]? = some x := ⟨X[n], by simp [hnl]⟩
            obtain ⟨rfl, _, hgxl⟩ := HGX.out.1 h0
            obtain ⟨rfl, _, hgyl⟩ := HGY.out.1 h0
            have HAX := Lib.hid (hat h0).1
            have HAY := Lib.hid (hat h0).2
            have hxl : x.label = ((2 ^ a : Nat) : Int) := lab_all HXX.out.2 x (List.mem_of_getElem? hx)
            have hy : (X.map (relR ((2 ^ b : Nat) : Int)))[n]? = some (relR ((2 ^ b : Nat) : Int) x) := by simp [hx]
            have c4 : wr.cell? ⟨gx, n * 5 + 4, none⟩ = some (.int .u64 ((2 ^ a : Nat) : Int)) := by
              rw [← hxl]
              exact HAX.out.c _ _ (flat_get (cs := RowV.cs) (k := 5) (fun _ => rfl) (mixL_get hx) rfl)
            have d4 : wr.cell? ⟨gy, n * 5 + 4, none⟩ = some (.int .u64 ((2 ^ b : Nat) : Int)) := HAY.out.c _ _ (flat_get (cs := RowV.cs) (k := 5) (fun _ => rfl) (mixL_get hy) rfl)
            have HX := Lib.hid hx
            have HY := Lib.hid hy
            have hne : gx ≠ gy := by omega
            have fx := HAX.out.f (n * 5 + 4)
            have fy := HAY.out.f (n * 5 + 4)
            have lx := HAX.out.lt
            have ly := HAY.out.lt
            clear hat hx hy hxl
            go_wp2_with fail
            have wa := wrap_pow ha7
            have wb := wrap_pow hb7
            obtain ⟨La, hLa⟩ : ∃ L : Int, L = ((2 ^ a : Nat) : Int) := ⟨_, rfl⟩
            obtain ⟨Lb, hLb⟩ : ∃ L : Int, L = ((2 ^ b : Nat) : Int) := ⟨_, rfl⟩
            rw [← hLa] at c4 wa
            rw [← hLb] at d4 wb
            clear hLa hLb
            have ea : (La != La) = false := by simp
            have eb : (Lb != Lb) = false := by simp
            go_quiet (fail)
            go_wp2_with fail
            go_roundg (X.length - (n + 1))
            case measure => omega
            case rel =>
              have hlx : ∀ Z : List RowV, Z.length = X.length → n * 5 + 4 < ((mixL Z n).flatMap RowV.cs).length := fun Z hZ => by
                rw [flat_len (cs := RowV.cs) (k := 5) (fun _ => rfl), mixL_len, hZ]
                omega
              have h1 := (HAX.out.below (bel_drawN (Below.refl wr.heap.size wr) nq)).set (n * 5 + 4) (.int .u64 0) (hlx X rfl)
              rw [flat_wipe _ n x (mixL_get HX.out), mixL_set HX.out] at h1
              have h2 := ((HAY.out.below (bel_drawN (Below.refl wr.heap.size wr) nq)).mod (Mod.setCell _ gx (n * 5 + 4) (.int .u64 0)) (by simp; exact fun e => hne e.symm)).set (n * 5 + 4) (.int .u64 0) (hlx _ (List.length_map _))
              rw [flat_wipe _ n _ (mixL_get HY.out), mixL_set HY.out] at h2
              exact ⟨n + 1, by omega, rfl, by go_num, fun _ => ⟨h1.mod (Mod.setCell _ gy (n * 5 + 4) (.int .u64 0)) (by simp; exact hne), h2⟩, ((HMOn.out.drawN nq).set gx (n * 5 + 4) (.int .u64 0) (.inl (by simp))).set gy (n * 5 + 4) (.int .u64 0) (.inl (by simp))⟩
          · obtain rfl : n = X.length := by omega
            have hI1 : IsR RowV.cs 5 wr (.slice xa X.length xc) (X.map (relR 0)) := isr_at (List.length_map _) HXC.out.1 HXC.out.2.1 gx (fun h => ⟨(HGX.out.1 h).1, by have := (hat h).1; rw [mixL_all] at this; exact this⟩)
            have hI2 : IsR RowV.cs 5 wr (.slice ya X.length yc) (X.map (relR 0)) := isr_at (List.length_map _) HXC.out.2.2.1 HXC.out.2.2.2 gy (fun h => ⟨(HGY.out.1 h).1, by
              have := (hat h).2
              have e := mixL_all (X.map (relR ((2 ^ b : Nat) : Int)))
              rw [List.length_map, wiped_eq] at e
              rw [e] at this
              exact this⟩)
            have HI1 := Lib.hid hI1
            have HI2 := Lib.hid hI2
            clear hat hI1 hI2
            go_wp2_with (first
              | (go_at_call 18; (with_reducible refine (sameR _ _ _ _ _ HI1.out HI2.out).mono ?_); rintro e wz ⟨rfl, hbz⟩; rw [show decide (X.map (relR 0) = X.map (relR 0)) = true from decide_eq_true rfl]; have HBZ := Lib.hid hbz; clear hbz)
              | (go_at_call 15; (with_reducible refine (awake_any _).mono ?_); rintro e w9 ⟨rfl, hb9⟩; have HB9 := Lib.hid hb9; clear hb9))
            go_ret
            have h1 : Below W.heap.size W wr := HMOn.out.belowB HBW8.out HBW8.out.size (fun z hz => by
              rcases List.mem_cons.1 hz with rfl | hz
              · exact HGX.out.2
              · obtain rfl := List.mem_singleton.1 hz
                exact HGY.out.2)
            exact ⟨rfl, below_step (below_step h1 HBZ.out) HB9.out⟩
end Go.Proofs.YtcanfmabkklidaaGreat
set_option linter.unusedSimpArgs false
set_option linter.unusedVariables false
set_option linter.unnecessarySimpa false
namespace Go.Proofs.YtcanfmabkklidaaGreat
open Go.RowKit

set_option maxRecDepth 100000 in
theorem tenants_walk (W : World) {base : Nat} (v0 : Value) (h0 : Value.okWide Tryz.prog W .any base 24 v0) (r0 : Rd Tryz.prog W 24 v0.cells.toList) (a1 : Option Addr) (len1 cap1 : Nat) (r1 : Rd Tryz.prog W 67 [.slice a1 len1 cap1]) {base2 : Nat} (v2 : Value) (h2 : Value.okWide Tryz.prog W .any base2 75 v2) (r2 : Rd Tryz.prog W 75 v2.cells.toList) (a3 : Int) (w3 : (Lit.int .i64 a3).wf = true) (a4 : Int) (w4 : (Lit.int .i64 a4).wf = true) :
    Calls Tryz.prog 6 #[v0, .slice a1 len1 cap1, v2, .int .i64 a3, .int .i64 a4] W fun e w' => e = .returned (.bool true) ∧ Below W.heap.size W w' := by
  obtain ⟨kb, kr, kq, vs, ks, rfl, hks⟩ := setup_open h0 r0
  obtain ⟨l, _, hl⟩ := kins_of r1
  obtain ⟨vo, ol, vn, nl, sz, sl, ag, si, fd, rfl, hvo, hvn⟩ := pipe_open h2 r2
  exact tenants_any W kb kr kq vs ks hks _ l hl vo vn ol nl sz sl ag si fd hvo hvn a3 a4
end Go.Proofs.YtcanfmabkklidaaGreat
