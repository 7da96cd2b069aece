/- TopFlood: the walk. -/
import Derived.Test.YtcanfmabkklidaaGreatMb27
import Derived.Test.YtcanfmabkklidaaGreatMb28
import Derived.Test.YtcanfmabkklidaaGreatMb29
import Derived.Test.YtcanfmabkklidaaGreatMb31
import Derived.Test.YtcanfmabkklidaaGreatMb32
set_option linter.unusedSimpArgs false
set_option linter.unusedVariables false
set_option linter.unnecessarySimpa false
namespace Go.Proofs.YtcanfmabkklidaaGreat
open Go.RowKit

/-- registering with a pipe without sink or feed -/
def regF (t : Nat) : ActV := ⟨1, (t : Int), 0, 0, ⟨.slice none 0 0, [], 6, 3, 2, -1, -1⟩, false, 0, 0, 0, 0⟩
theorem regF_bd {t : Nat} (ht : t ≤ 7) : ActBd7 (regF t) := ⟨by simp [regF], by simp [regF], by simp [regF], by simp [regF]; omega, fun _ => ⟨by simp [regF], by simp [regF], by simp [regF], by simp [regF], by simp [regF], by simp [regF], by simp [regF], by simp [regF], by simp [regF], by simp [regF], by simp [regF], by simp [regF]⟩⟩
def regL (t : Nat) : List ActV := [regF t, regF 5]
theorem bd7_R {x : ActV} (h : ActBd7 x) : ActR x.m := ⟨by have := h.t1; have := h.t2; show x.tenant.toNat ≤ 7; omega, fun hk => (h.pipe hk).m⟩
theorem reg_sim (B R Q : Int) (r : List SinkV) (t : Nat) (ht : t ≤ 2) (h : SetBd B R Q r) : Sim t ((CoreV.new B R Q r).acts ((regL t).map ActV.m)).1 ((CoreV.new B R Q r).acts ((regL t).map ActV.m)).1 ∧ CoreOk ((CoreV.new B R Q r).acts ((regL t).map ActV.m)).1 12 ∧ ((CoreV.new B R Q r).acts ((regL t).map ActV.m)).1.quota = Q := by
  have hk := CoreOk.acts ((regL t).map ActV.m) (new_ok h) h.q1 (by have := h.q2; show Q ≤ 1000; omega) (fun a ha => by
    obtain ⟨x, hx, rfl⟩ := List.mem_map.1 ha
    simp only [regL, List.mem_cons, List.not_mem_nil, or_false] at hx
    rcases hx with rfl | rfl
    · exact bd7_R (regF_bd (by omega))
    · exact bd7_R (regF_bd (by omega))) (by simp [regL])
  refine ⟨⟨rfl, rfl, ?_⟩, by simpa [regL] using hk.1, hk.2.1⟩
  have hc : ((CoreV.new B R Q r).acts ((regL t).map ActV.m)).1.cells t = some (CellV.new t Q ⟨[], 6, 3, 2, -1, -1⟩) := by
    have e5 : ¬ t = 5 := by omega
    have e6 : ¬ 5 = t := by omega
    simp [regL, regF, CoreV.acts, CoreV.act, ActV.m, PipeV.m, CoreV.register, CoreV.new, CoreV.mayI, inI, CoreV.setCell, e5, e6]
  exact ⟨_, hc, hc, rfl, ⟨⟨by simp [CellV.new, RunV.new], by simp [CellV.new, RunV.new], by simp [CellV.new, RunV.new], by simp [CellV.new, RunV.new], by simp [CellV.new, RunV.new], by simp [CellV.new, RunV.new], by simp [CellV.new, RunV.new], by simp [CellV.new, RunV.new], by simp [CellV.new, RunV.new], by simp [CellV.new, RunV.new], by simp [CellV.new, RunV.new], by simp [CellV.new, RunV.new]⟩, by simp [CellV.new, RunV.new], by simp [CellV.new, RunV.new]⟩⟩
set_option maxHeartbeats 4000000 in
set_option maxRecDepth 100000 in
theorem flood_any (W : World) (kb kr kq : Int) (vs : Value) (ks : List KSinkV) (hks : IsR KSinkV.cs 5 W vs ks) (v1 : Value) (l : List KActV) (hl : IsR KActV.cs 15 W v1 l) (hlo : ∀ k ∈ l, k.ok W) (tn nn : Int) :
    Calls Tryz.prog 4 #[.agg #[.int .i64 kb, .int .i64 kr, .int .i64 kq, vs], v1, .int .i64 tn, .int .i64 nn] W fun e w' => e = .returned (.bool true) ∧ Below W.heap.size W w' := by
  obtain ⟨ka, kc, rfl, _⟩ := id hks
  have HKS := Lib.hid (fun (w' : World) (hb : Below W.heap.size W w') => hks.kept hb)
  have HL := Lib.hid (fun (w' : World) (hb : Below W.heap.size W w') => hl.kept hb)
  have HLO := Lib.hid hlo
  clear hks hl hlo
  have bt := within_bd tn 0 2 (by omega)
  obtain ⟨t, ht⟩ : ∃ t : Nat, within tn 0 2 = (t : Int) := ⟨(within tn 0 2).toNat, by omega⟩
  rw [ht] at bt
  have ht2 : t ≤ 2 := by omega
  have bm := within_bd nn 0 12 (by omega)
  obtain ⟨mm, hmm⟩ : ∃ t : Nat, within nn 0 12 = (t : Int) := ⟨(within nn 0 12).toNat, by omega⟩
  rw [hmm] at bm
  have hm12 : mm ≤ 12 := by omega
  have HT := Lib.hid ht
  have HMM := Lib.hid hmm
  clear ht hmm
  go_enter Tryz.func4, Tryz.ntmps4
  go_wp2_with (first
    | (go_at_call 9; (with_reducible refine (setup_any _ _ ks kb kr kq (HKS.out _ (bel_alloc (Below.refl _ W) _))).mono ?_); rintro e w1 ⟨B, R, Q, vr, r, rfl, ho, hset, hb⟩; have HO1 := Lib.hid ho; have HSET := Lib.hid hset; have HB1 := Lib.hid (below_step (bel_alloc (Below.refl _ W) _) hb); obtain ⟨ra, rc, rfl⟩ := own_shape2 ho; have hs1 := HB1.out.size; clear ho hset hb)
    | (go_at_call 16; (with_reducible refine (within_any _ _ _ _ (by omega) (by omega) (by omega)).mono ?_); rintro e wd ⟨rfl, rfl⟩; rw [HT.out]))
  refine wp_region_plB (fun w0 => At w0 w1.heap.size [.int .i64 B, .int .i64 R, .int .i64 Q, .slice ra r.length rc] ∧ At w0 (w1.heap.size + 1) [.slice none 0 0, .int .i64 6, .int .i64 3, .int .i64 2, .int .i64 (-1), .int .i64 (-1)] ∧ w0.ownsRow W.heap.size 49 5 (.slice ra r.length rc) r.length (r.flatMap SinkV.cs) ∧ Below W.heap.size W w0 ∧ w1.heap.size + 1 < w0.heap.size) ?ph2 (.take 0 <| .take 2 <| .doo 1 <| .doo 3 <| .take 4 <| .take 5 <| .done) ?plL2 (by kernel_rfl) (by kernel_rfl) (by kernel_rfl) ?plH2 (by intro c a d v w; cases d <;> exact fun h => h) ?_
  case plH2 =>
    simp only [Pl.with, List.getElem?_toArray, List.getElem?_cons_zero, List.getElem?_cons_succ]
    try rfl
  case ph2 => exact ⟨(At.new w1 _ _).alloc _, At.newAt (by simp) _ _, ((ownsRow_base HO1.out (by simp)).alloc _).alloc _, bel_alloc (bel_alloc HB1.out _) _, by simp⟩
  rintro w2 ⟨ha2, hp2, ho2, hb2, hsz2⟩
  have HA2 := Lib.hid ha2
  have HP2 := Lib.hid hp2
  have HO2 := Lib.hid ho2
  have HB2 := Lib.hid hb2
  have HSZ2 := Lib.hid hsz2
  have l2 := ha2.lt
  have q0 : ∀ x, Below w2.heap.size w2 x → x.cell? ⟨w1.heap.size, 0, none⟩ = some (.int .i64 B) := fun x hx => (HA2.out.below hx).c 0 _ rfl
  have q1 : ∀ x, Below w2.heap.size w2 x → x.cell? ⟨w1.heap.size, 1, none⟩ = some (.int .i64 R) := fun x hx => (HA2.out.below hx).c 1 _ rfl
  have q2 : ∀ x, Below w2.heap.size w2 x → x.cell? ⟨w1.heap.size, 2, none⟩ = some (.int .i64 Q) := fun x hx => (HA2.out.below hx).c 2 _ rfl
  have q3 : ∀ x, Below w2.heap.size w2 x → x.cell? ⟨w1.heap.size, 3, none⟩ = some (.slice ra r.length rc) := fun x hx => (HA2.out.below hx).c 3 _ rfl
  clear ha2 ho2 hb2 hp2 hsz2
  iterate 2 (refine wpPl_take (v := ?_) (by rfl) (fun w' hS => ?_) ?_; rotate_left; (focus (go_simp; with_reducible rfl)); simp only [Act.put, List.setIfInBounds_toArray, List.set_cons_zero, List.set_cons_succ])
  clear q0 q1 q2 q3
  refine wpPl_do (by rfl) (fun K hK => ?_)
  go_wp2_with (go_at_call 10; (with_reducible refine (cnew10 _ r _ B R Q _ (RdR.of_own sinkcs_len' HO2.out.drew) HSET.out).mono ?_); rintro e w3 ⟨a, Fa, rfl, hc, hF, hb⟩; have HCA := Lib.hid hc; have HFA := Lib.hid hF; have HB3 := Lib.hid (below_step (bel_draw (Below.refl _ w2)) hb); clear hc hF hb)
  refine ⟨HB3.out, ?_⟩
  refine wpPl_do (by rfl) (fun K hK => ?_)
  go_wp2_with (go_at_call 10; (with_reducible refine (cnew10 _ r _ B R Q _ (RdR.of_own sinkcs_len' (own_of_block HO2.out (fun x hx => HB3.out.block x (own_lt HO2.out x hx)))) HSET.out).mono ?_); rintro e w4 ⟨b, Fb, rfl, hc, hF, hb⟩; have HCB := Lib.hid hc; have HFB := Lib.hid hF; have HB4 := Lib.hid hb; clear hc hF hb)
  refine ⟨below_step HB3.out HB4.out, ?_⟩
  iterate 2 (refine wpPl_take (v := ?_) (by rfl) (fun w' hS => ?_) ?_; rotate_left; (focus (go_simp; with_reducible rfl)); simp only [Act.put, List.setIfInBounds_toArray, List.set_cons_zero, List.set_cons_succ])
  refine wpPl_done ?_
  have HB24 := Lib.hid (below_step HB2.out (below_step HB3.out HB4.out))
  have HS0 := Lib.hid (show ∀ x ∈ Fa ++ Fb, x < w4.heap.size ∧ w2.heap.size ≤ x from fun x hx => by
    have h3 := HB3.out.size
    have h4 := HB4.out.size
    rcases List.mem_append.1 hx with h | h
    · have h5 := HCA.out.lt x h
      have h6 := HFA.out x h
      simp at h6
      omega
    · have h5 := HCB.out.lt x h
      have h6 := HFB.out x h
      omega)
  have HTW := Lib.hid (show Two w4 a Fa (CoreV.new B R Q r) b Fb (CoreV.new B R Q r) from ⟨HCA.out.below HB4.out, HCB.out, fun z hz hh => by
    have h5 := HCA.out.lt z hz
    have h6 := HFB.out z hh
    omega⟩)
  go_wp2_with fail
  obtain ⟨w6, hw6⟩ : ∃ w6, w6 = w4.alloc (.cells #[.pointer (some ⟨a, 0, none⟩), .pointer (some ⟨b, 0, none⟩)] 30) := ⟨_, rfl⟩
  have HB46 := Lib.hid (show Below w4.heap.size w4 w6 by rw [hw6]; exact bel_alloc (Below.refl _ _) _)
  have HC6 := Lib.hid (show At w6 w4.heap.size [.pointer (some ⟨a, 0, none⟩), .pointer (some ⟨b, 0, none⟩)] by rw [hw6]; exact At.new w4 _ _)
  try rw [← hw6]
  have HS6 := Lib.hid (show ∀ x ∈ Fa ++ Fb, x < w4.heap.size ∧ w2.heap.size ≤ x ∧ W.heap.size ≤ x from fun x hx => by
    have h1 := HS0.out x hx
    have h2 := HB2.out.size
    omega)
  have HB06 := Lib.hid (below_step HB24.out HB46.out)
  have HD6 := Lib.hid (show Duo2 w6 (Fa ++ Fb) w6 a b (CoreV.new B R Q r) (CoreV.new B R Q r) from (HTW.out.below HB46.out).duo)
  have HP6 := Lib.hid (show At w6 (w1.heap.size + 1) [.slice none 0 0, .int .i64 6, .int .i64 3, .int .i64 2, .int .i64 (-1), .int .i64 (-1)] from (HP2.out.below (below_step HB3.out HB4.out)).below HB46.out)
  clear hw6
  obtain ⟨cr, hcr⟩ : ∃ c, c = ((CoreV.new B R Q r).acts ((regL t).map ActV.m)).1 := ⟨_, rfl⟩
  have hrs := reg_sim B R Q r t ht2 HSET.out
  rw [← hcr] at hrs
  have HRS := Lib.hid hrs
  have HCRE := Lib.hid hcr
  clear hrs hcr
  go_loopg [40] 2 (fun g v40 wr => ∃ (k : Nat), k ≤ 2 ∧ g = 2 - k ∧ v40 = .int .i64 k ∧ Duo2 w6 (Fa ++ Fb) wr a b (if 0 < k then ((CoreV.new B R Q r).acts ((regL t).map ActV.m)).1 else CoreV.new B R Q r) (if 1 < k then ((CoreV.new B R Q r).acts ((regL t).map ActV.m)).1 else CoreV.new B R Q r))
  case atStart => exact ⟨0, by omega, by omega, rfl, HD6.out⟩
  case round =>
    obtain ⟨k, hk, rfl, rfl, hd⟩ := hrel
    have HD := Lib.hid hd
    have pp0 := (HP6.out.mod HD.out.mod (fun hh => by have := (HS6.out _ hh).2.1; have := HSZ2.out; omega))
    have p0 := pp0.c 0 _ rfl
    have p1 := pp0.c 1 _ rfl
    have p2 := pp0.c 2 _ rfl
    have p3 := pp0.c 3 _ rfl
    have p4 := pp0.c 4 _ rfl
    have p5 := pp0.c 5 _ rfl
    have qq0 := (HC6.out.mod HD.out.mod (fun hh => by have := (HS6.out _ hh).1; omega))
    have q0 := qq0.c 0 _ rfl
    have q1 := qq0.c 1 _ rfl
    clear hd pp0 qq0
    rcases (by omega : k = 0 ∨ k = 1 ∨ k = 2) with rfl | rfl | rfl
    · skip
      have HDR := Lib.hid (show Calls Tryz.prog 12 #[.pointer (some ⟨a, 0, none⟩), .slice (some ⟨wr.heap.size, 0, none⟩) 2 2] (wr.alloc (.cells #[.int .i64 1, .int .i64 t, .int .i64 0, .int .i64 0, .slice none 0 0, .int .i64 6, .int .i64 3, .int .i64 2, .int .i64 (-1), .int .i64 (-1), .bool false, .int .i64 0, .int .i64 0, .int .i64 0, .int .u64 0, .int .i64 1, .int .i64 5, .int .i64 0, .int .i64 0, .slice none 0 0, .int .i64 6, .int .i64 3, .int .i64 2, .int .i64 (-1), .int .i64 (-1), .bool false, .int .i64 0, .int .i64 0, .int .i64 0, .int .u64 0] 43)) _ from duo_dos HD.out 0 (regL t) (by simp [regL]) (by simp [regL]) (fun x hx => by
          simp only [regL, List.mem_cons, List.not_mem_nil, or_false] at hx
          rcases hx with rfl | rfl
          · exact ⟨regF_bd (by omega), [], RdR.nil _ _ _, by simp⟩
          · exact ⟨regF_bd (by omega), [], RdR.nil _ _ _, by simp⟩) HSET.out.q1 (by have := HSET.out.q2; show Q ≤ 1000; omega) (new_ok HSET.out) (by simp [regL]))
      go_wp2_with (go_at_call 12; (with_reducible refine HDR.out.mono ?_); rintro e w' ⟨⟨v, rfl⟩, hd⟩; have HD' := Lib.hid hd; clear hd)
      go_roundg (2 - (0 + 1))
      case measure => omega
      case rel => exact ⟨0 + 1, by omega, by omega, by rfl, HD'.out⟩
    · skip
      have HDR := Lib.hid (show Calls Tryz.prog 12 #[.pointer (some ⟨b, 0, none⟩), .slice (some ⟨wr.heap.size, 0, none⟩) 2 2] (wr.alloc (.cells #[.int .i64 1, .int .i64 t, .int .i64 0, .int .i64 0, .slice none 0 0, .int .i64 6, .int .i64 3, .int .i64 2, .int .i64 (-1), .int .i64 (-1), .bool false, .int .i64 0, .int .i64 0, .int .i64 0, .int .u64 0, .int .i64 1, .int .i64 5, .int .i64 0, .int .i64 0, .slice none 0 0, .int .i64 6, .int .i64 3, .int .i64 2, .int .i64 (-1), .int .i64 (-1), .bool false, .int .i64 0, .int .i64 0, .int .i64 0, .int .u64 0] 43)) _ from duo_dos HD.out.swap 0 (regL t) (by simp [regL]) (by simp [regL]) (fun x hx => by
          simp only [regL, List.mem_cons, List.not_mem_nil, or_false] at hx
          rcases hx with rfl | rfl
          · exact ⟨regF_bd (by omega), [], RdR.nil _ _ _, by simp⟩
          · exact ⟨regF_bd (by omega), [], RdR.nil _ _ _, by simp⟩) HSET.out.q1 (by have := HSET.out.q2; show Q ≤ 1000; omega) (new_ok HSET.out) (by simp [regL]))
      go_wp2_with (go_at_call 12; (with_reducible refine HDR.out.mono ?_); rintro e w' ⟨⟨v, rfl⟩, hd⟩; have HD' := Lib.hid hd; clear hd)
      go_roundg (2 - (1 + 1))
      case measure => omega
      case rel => exact ⟨1 + 1, by omega, by omega, by rfl, HD'.out.swap⟩
    · have hdr : Duo2 w6 (Fa ++ Fb) wr a b cr cr := by rw [HCRE.out]; exact HD.out
      have HDR := Lib.hid hdr
      have HBR := Lib.hid (show Below W.heap.size W wr from HD.out.mod.belowB HB06.out HB06.out.size (fun z hz => (HS6.out z hz).2.2))
      obtain ⟨Sa, Sb, htw, hin, hmo⟩ := hdr.two
      have HT6 := Lib.hid htw
      have hsl : ∀ x ∈ Sa ++ Sb, x < wr.heap.size ∧ W.heap.size ≤ x := fun x hx => by
        refine ⟨?_, ?_⟩
        · rcases List.mem_append.1 hx with h | h
          · exact htw.x.lt x h
          · exact htw.y.lt x h
        · rcases hin x hx with h | h
          · exact (HS6.out x h).2.2
          · have := HB06.out.size
            omega
      have HSL := Lib.hid hsl
      clear hdr htw hin hmo hsl p0 p1 p2 p3 p4 p5 q0 q1 HDR HD
      go_wp2_with (first
        | (go_at_call 16; (with_reducible refine (within_any _ _ _ _ (by omega) (by omega) (by omega)).mono ?_); rintro e we ⟨rfl, rfl⟩; rw [HMM.out])
        | (go_at_call 11; (with_reducible refine (acts_any _ v1 l (HL.out _ HBR.out) (fun k hk => (HLO.out k hk).kept HBR.out)).mono ?_); rintro e w7 hret; obtain ⟨va, la, rfl, hna, hal, hb7⟩ := ActsL.of hret (Sa ++ Sb) (fun x hx => (HSL.out x hx).1); have HNA := Lib.hid hna; have HAL := Lib.hid hal; have HB7 := Lib.hid hb7; obtain ⟨aa, ac, rfl⟩ := own_shape2 hal.o; clear hret hna hal hb7))
      have HD7 := Lib.hid (show Duo2 w7 (Sa ++ Sb) w7 a b cr cr from (HT6.out.below HB7.out).duo)
      have hla : la.length ≤ 40 := by have := HNA.out; omega
      have HQ := Lib.hid (show 0 ≤ Q ∧ Q ≤ 1000 from ⟨HSET.out.q1, by have := HSET.out.q2; omega⟩)
      go_loopg [58] la.length (fun g v58 wr => ∃ (i : Nat) (ca cb : CoreV), i ≤ la.length ∧ g = la.length - i ∧ v58 = .int .i64 i ∧ Sim t ca cb ∧ CoreOk ca (12 + 6 * i) ∧ CoreOk cb (12 + 78 * i) ∧ (ca.quota = Q ∧ cb.quota = Q) ∧ Duo2 w7 (Sa ++ Sb) wr a b ca cb)
      case atStart => exact ⟨0, cr, cr, by omega, by omega, rfl, HRS.out.1, HRS.out.2.1, HRS.out.2.1, ⟨HRS.out.2.2, HRS.out.2.2⟩, HD7.out⟩
      case round =>
        obtain ⟨i, ca, cb, hi, rfl, rfl, hsim, hoka, hokb, hq, hd⟩ := hrel
        have HSIM := Lib.hid hsim
        have HOA := Lib.hid hoka
        have HOB := Lib.hid hokb
        have HQQ := Lib.hid hq
        have HD := Lib.hid hd
        clear hsim hoka hokb hq hd
        by_cases hlt : i < la.length
        · obtain ⟨x, hx⟩ : ∃ x, la[i]? = some x := ⟨la[i], by simp [hlt]⟩
          obtain ⟨g, cap, hg, hcell⟩ := HAL.out.cell HD.out.mod hx
          simp only [Value.slice.injEq, true_and] at hg
          obtain ⟨rfl, rfl⟩ := hg
          obtain ⟨hbd, So, hop, hSo⟩ := HAL.out.a x (List.mem_of_getElem? hx)
          have HX := Lib.hid hcell
          have HBD := Lib.hid hbd
          have HOP := Lib.hid hop
          have HSO := Lib.hid hSo
          obtain ⟨oa, oc, hvo, _⟩ := hop
          clear hcell hbd hx hSo
          obtain ⟨ak, at', af, an, ⟨vo, opl, sz, sl, ag, si, fd⟩, am, ti, ky, va', lb⟩ := x
          simp only at hvo
          subst hvo
          have x0 := HX.out 0 _ rfl
          have x1 := HX.out 1 _ rfl
          have x2 := HX.out 2 _ rfl
          have x3 := HX.out 3 _ rfl
          have x4 := HX.out 4 _ rfl
          have x5 := HX.out 5 _ rfl
          have x6 := HX.out 6 _ rfl
          have x7 := HX.out 7 _ rfl
          have x8 := HX.out 8 _ rfl
          have x9 := HX.out 9 _ rfl
          have x10 := HX.out 10 _ rfl
          have x11 := HX.out 11 _ rfl
          have x12 := HX.out 12 _ rfl
          have x13 := HX.out 13 _ rfl
          have x14 := HX.out 14 _ rfl
          simp only [Nat.add_zero] at x0
          have ka1 : 1 ≤ ak := HBD.out.k1
          have ka2 : ak ≤ 5 := HBD.out.k2
          go_upto_region 16 with fail
          obtain ⟨w8, hw8⟩ : ∃ w8, w8 = wr.alloc (.cells #[.int .i64 ak, .int .i64 at', .int .i64 af, .int .i64 an, .slice oa opl.length oc, .int .i64 sz, .int .i64 sl, .int .i64 ag, .int .i64 si, .int .i64 fd, .bool am, .int .i64 ti, .int .i64 ky, .int .i64 va', .int .u64 lb] 43) := ⟨_, rfl⟩
          have HN8 := Lib.hid (show At w8 wr.heap.size [.int .i64 ak, .int .i64 at', .int .i64 af, .int .i64 an, .slice oa opl.length oc, .int .i64 sz, .int .i64 sl, .int .i64 ag, .int .i64 si, .int .i64 fd, .bool am, .int .i64 ti, .int .i64 ky, .int .i64 va', .int .u64 lb] by rw [hw8]; exact At.new wr _ _)
          have HB8 := Lib.hid (show Below wr.heap.size wr w8 by rw [hw8]; exact bel_alloc (Below.refl _ _) _)
          have hz8 : w8.heap.size = wr.heap.size + 1 := by rw [hw8]; simp
          try rw [← hw8]
          obtain ⟨nx, hnx⟩ : ∃ nx, nx = wr.heap.size := ⟨_, rfl⟩
          rw [← hnx] at HN8 hz8 ⊢
          have HNX := Lib.hid hnx
          have HZ8 := Lib.hid hz8
          have k0 := HN8.out.c 0 _ rfl
          have k1 := HN8.out.c 1 _ rfl
          clear hw8 hnx hz8 x0 x1 x2 x3 x4 x5 x6 x7 x8 x9 x10 x11 x12 x13 x14
          obtain ⟨Sa1, Sb1, ht1, hi1, hm1⟩ := HD.out.two
          have HT8 := Lib.hid (ht1.below HB8.out)
          have HS8 := Lib.hid (show ∀ z ∈ Sa1 ++ Sb1, z < nx from fun z hz => by
            rw [HNX.out]
            rcases List.mem_append.1 hz with h | h
            · exact ht1.x.lt z h
            · exact ht1.y.lt z h)
          have HI8 := Lib.hid hi1
          have HM8 := Lib.hid (hm1.bel HB8.out)
          clear ht1 hi1 hm1
          go_cut [70] (fun u70 wx => w8 = wx ∧ u70 = .bool (!decide (ak = 3 ∨ at' = (t : Int))))
          case first =>
            by_cases hat : at' = (t : Int)
            · have e1 : (at' == (t : Int)) = true := by simp [hat]
              have e2 : (at' != (t : Int)) = false := by simp [hat]
              have HAT := Lib.hid hat
              clear hat
              go_wp2_with fail
              go_meet
              case rel => exact ⟨rfl, by simp [HAT.out]⟩
            · have e1 : (at' == (t : Int)) = false := by simp [hat]
              have e2 : (at' != (t : Int)) = true := by simp [hat]
              have HAT := Lib.hid hat
              clear hat
              by_cases hk3 : ak = 3
              · have e3 : (ak != 3) = false := by simp [hk3]
                have HK3 := Lib.hid hk3
                clear hk3
                go_wp2_with fail
                go_meet
                case rel => exact ⟨rfl, by simp [HK3.out]⟩
              · have e3 : (ak != 3) = true := by simp [hk3]
                have HK3 := Lib.hid hk3
                clear hk3
                go_wp2_with fail
                go_meet
                case rel => exact ⟨rfl, by simp [HK3.out, HAT.out]⟩
          case rest =>
          obtain ⟨rfl, rfl⟩ := hcut
          by_cases hB : ak = 3 ∨ at' = (t : Int)
          · have HBB := Lib.hid hB
            simp only [hB, decide_true, Bool.not_true]
            clear hB
            apply_assumption
            go_wp2_with fail
            have HFA := Lib.hid (show ActBd7 ⟨2, 5, 0, 0, ⟨.slice none 0 0, [], 0, 0, 0, 0, 0⟩, false, (mm : Int), 0, 9, 0⟩ from ⟨by simp, by simp, by simp, by simp, fun h => by simp at h⟩)
            go_loopg [72] mm (fun g v72 wr => ∃ (j : Nat) (cb' : CoreV), j ≤ mm ∧ g = mm - j ∧ v72 = .int .i64 j ∧ Sim t ca cb' ∧ CoreOk cb' (12 + 78 * i + 6 * j) ∧ cb'.quota = Q ∧ Duo2 w8 (Sa1 ++ Sb1) wr a b ca cb')
            case atStart => exact ⟨0, cb, by omega, by omega, rfl, HSIM.out, HOB.out, HQQ.out.2, HT8.out.duo⟩
            case round =>
              obtain ⟨j, cb', hj, rfl, rfl, hsj, hoj, hqj, hdj⟩ := hrel
              have HSJ := Lib.hid hsj
              have HOJ := Lib.hid hoj
              have HQJ := Lib.hid hqj
              have HDJ := Lib.hid hdj
              clear hsj hoj hqj hdj
              by_cases hjl : j < mm
              · have HDF := Lib.hid (show Calls Tryz.prog 12 #[.pointer (some ⟨b, 0, none⟩), .slice (some ⟨wr.heap.size, 0, none⟩) 1 1] (wr.alloc (.cells #[.int .i64 2, .int .i64 5, .int .i64 0, .int .i64 0, .slice none 0 0, .int .i64 0, .int .i64 0, .int .i64 0, .int .i64 0, .int .i64 0, .bool false, .int .i64 mm, .int .i64 0, .int .i64 9, .int .u64 0] 43)) _ from duo_do HDJ.out.swap (12 + 78 * i + 6 * j) ⟨2, 5, 0, 0, ⟨.slice none 0 0, [], 0, 0, 0, 0, 0⟩, false, (mm : Int), 0, 9, 0⟩ HFA.out [] (RdR.nil _ _ _) (by simp) (by rw [HQJ.out]; exact HQ.out.1) (by rw [HQJ.out]; exact HQ.out.2) HOJ.out (by omega))
                go_wp2_with (go_at_call 12; (with_reducible refine HDF.out.mono ?_); rintro e w' ⟨⟨v, rfl⟩, hd⟩; have HD' := Lib.hid hd.swap; clear hd)
                go_roundg (mm - (j + 1))
                case measure => omega
                case rel =>
                  have hqq := act_quota cb' (ActV.m ⟨2, 5, 0, 0, ⟨.slice none 0 0, [], 0, 0, 0, 0, 0⟩, false, (mm : Int), 0, 9, 0⟩)
                  refine ⟨j + 1, _, by omega, rfl, by go_num, HSJ.out.other _ rfl (by show (5 : Int).toNat ≠ t; simp; omega), (HOJ.out.act (by rw [HQJ.out]; exact HQ.out.1) (by rw [HQJ.out]; exact HQ.out.2) (by show (5 : Int).toNat ≤ 7; decide) (fun h => by simp [ActV.m] at h) (by omega)).wide (by omega) (by omega), hqq.1.trans HQJ.out, HD'.out⟩
              · obtain rfl : j = mm := by omega
                go_upto_region 21 with fail
                obtain ⟨Sa3, Sb3, ht3, hi3, hm3⟩ := HDJ.out.two
                have HT3 := Lib.hid ht3
                have HI3 := Lib.hid hi3
                have HM3 := Lib.hid hm3
                have HN3 := Lib.hid (HN8.out.mod hm3 (fun hh => by have := HS8.out _ hh; omega))
                have HZ3 := Lib.hid hm3.size
                have HNS3 := Lib.hid (show nx ∉ Sa3 ++ Sb3 from fun hh => by
                  rcases hi3 nx hh with h | h
                  · have := HS8.out nx h; omega
                  · have := HZ8.out; omega)
                clear ht3 hi3 hm3
                obtain ⟨wB, hwB⟩ : ∃ w, w = wr := ⟨_, rfl⟩
                rw [← hwB] at HT3 HM3 HN3 HZ3 ⊢
                clear hwB
                have HOP3 := Lib.hid (show RdR OpV.cs 2 wB (.slice oa opl.length oc) opl So from HOP.out.same (fun z hz => (HM8.out.trans HM3.out HI8.out).block z (HOP.out.lt z hz) (HSO.out z hz)))
                have HSO3 := Lib.hid (show ∀ y ∈ So, y ∉ Sa3 ++ Sb3 from fun y hy hh => by
                  have h7 := HOP.out.lt y hy
                  rcases HI3.out y hh with h | h
                  · rcases HI8.out y h with h' | h'
                    · exact HSO.out y hy h'
                    · omega
                  · have := HM8.out.size
                    omega)
                go_cut [19, 20] (fun u19 u20 wx => FullW wB (Sa3 ++ Sb3) a b (ca.act (ActV.m ⟨ak, at', af, an, ⟨.slice oa opl.length oc, opl, sz, sl, ag, si, fd⟩, am, ti, ky, va', lb⟩)).1 (cb'.act (ActV.m ⟨ak, at', af, an, ⟨.slice oa opl.length oc, opl, sz, sl, ag, si, fd⟩, am, ti, ky, va', lb⟩)).1 (ca.act (ActV.m ⟨ak, at', af, an, ⟨.slice oa opl.length oc, opl, sz, sl, ag, si, fd⟩, am, ti, ky, va', lb⟩)).2 (cb'.act (ActV.m ⟨ak, at', af, an, ⟨.slice oa opl.length oc, opl, sz, sl, ag, si, fd⟩, am, ti, ky, va', lb⟩)).2 u19 u20 wx)
                case first =>
                  refine wp_region_pl (fun y : World => At y nx [.int .i64 ak, .int .i64 at', .int .i64 af, .int .i64 an, .slice oa opl.length oc, .int .i64 sz, .int .i64 sl, .int .i64 ag, .int .i64 si, .int .i64 fd, .bool am, .int .i64 ti, .int .i64 ky, .int .i64 va', .int .u64 lb]) (.take 0 <| .take 1 <| .take 4 <| .take 5 <| .fork 2 (.two 3 6 <| .doo 7 <| .take 8 <| .take 9 <| .done) 6 (.doo 2 <| .doo 3 <| .doo 7 <| .take 8 <| .take 9 <| .done)) ?plA21 (by kernel_rfl) (by kernel_rfl) (by kernel_rfl) ?plB21 (by intro c a d v w; cases d <;> exact fun h => h) ?plC21 ?_
                  case plB21 =>
                    simp only [Pl.with, List.getElem?_toArray, List.getElem?_cons_zero, List.getElem?_cons_succ]
                    try rfl
                  case plC21 => exact HN3.out.drew
                  have q0 : ∀ y : World, (fun y : World => At y nx [.int .i64 ak, .int .i64 at', .int .i64 af, .int .i64 an, .slice oa opl.length oc, .int .i64 sz, .int .i64 sl, .int .i64 ag, .int .i64 si, .int .i64 fd, .bool am, .int .i64 ti, .int .i64 ky, .int .i64 va', .int .u64 lb]) y → y.cell? ⟨nx, 0, none⟩ = some (.int .i64 ak) := fun y h => h.c 0 _ rfl
                  have q1 : ∀ y : World, (fun y : World => At y nx [.int .i64 ak, .int .i64 at', .int .i64 af, .int .i64 an, .slice oa opl.length oc, .int .i64 sz, .int .i64 sl, .int .i64 ag, .int .i64 si, .int .i64 fd, .bool am, .int .i64 ti, .int .i64 ky, .int .i64 va', .int .u64 lb]) y → y.cell? ⟨nx, 1, none⟩ = some (.int .i64 at') := fun y h => h.c 1 _ rfl
                  have q2 : ∀ y : World, (fun y : World => At y nx [.int .i64 ak, .int .i64 at', .int .i64 af, .int .i64 an, .slice oa opl.length oc, .int .i64 sz, .int .i64 sl, .int .i64 ag, .int .i64 si, .int .i64 fd, .bool am, .int .i64 ti, .int .i64 ky, .int .i64 va', .int .u64 lb]) y → y.cell? ⟨nx, 2, none⟩ = some (.int .i64 af) := fun y h => h.c 2 _ rfl
                  have q3 : ∀ y : World, (fun y : World => At y nx [.int .i64 ak, .int .i64 at', .int .i64 af, .int .i64 an, .slice oa opl.length oc, .int .i64 sz, .int .i64 sl, .int .i64 ag, .int .i64 si, .int .i64 fd, .bool am, .int .i64 ti, .int .i64 ky, .int .i64 va', .int .u64 lb]) y → y.cell? ⟨nx, 3, none⟩ = some (.int .i64 an) := fun y h => h.c 3 _ rfl
                  have q4 : ∀ y : World, (fun y : World => At y nx [.int .i64 ak, .int .i64 at', .int .i64 af, .int .i64 an, .slice oa opl.length oc, .int .i64 sz, .int .i64 sl, .int .i64 ag, .int .i64 si, .int .i64 fd, .bool am, .int .i64 ti, .int .i64 ky, .int .i64 va', .int .u64 lb]) y → y.cell? ⟨nx, 4, none⟩ = some (.slice oa opl.length oc) := fun y h => h.c 4 _ rfl
                  have q5 : ∀ y : World, (fun y : World => At y nx [.int .i64 ak, .int .i64 at', .int .i64 af, .int .i64 an, .slice oa opl.length oc, .int .i64 sz, .int .i64 sl, .int .i64 ag, .int .i64 si, .int .i64 fd, .bool am, .int .i64 ti, .int .i64 ky, .int .i64 va', .int .u64 lb]) y → y.cell? ⟨nx, 5, none⟩ = some (.int .i64 sz) := fun y h => h.c 5 _ rfl
                  have q6 : ∀ y : World, (fun y : World => At y nx [.int .i64 ak, .int .i64 at', .int .i64 af, .int .i64 an, .slice oa opl.length oc, .int .i64 sz, .int .i64 sl, .int .i64 ag, .int .i64 si, .int .i64 fd, .bool am, .int .i64 ti, .int .i64 ky, .int .i64 va', .int .u64 lb]) y → y.cell? ⟨nx, 6, none⟩ = some (.int .i64 sl) := fun y h => h.c 6 _ rfl
                  have q7 : ∀ y : World, (fun y : World => At y nx [.int .i64 ak, .int .i64 at', .int .i64 af, .int .i64 an, .slice oa opl.length oc, .int .i64 sz, .int .i64 sl, .int .i64 ag, .int .i64 si, .int .i64 fd, .bool am, .int .i64 ti, .int .i64 ky, .int .i64 va', .int .u64 lb]) y → y.cell? ⟨nx, 7, none⟩ = some (.int .i64 ag) := fun y h => h.c 7 _ rfl
                  have q8 : ∀ y : World, (fun y : World => At y nx [.int .i64 ak, .int .i64 at', .int .i64 af, .int .i64 an, .slice oa opl.length oc, .int .i64 sz, .int .i64 sl, .int .i64 ag, .int .i64 si, .int .i64 fd, .bool am, .int .i64 ti, .int .i64 ky, .int .i64 va', .int .u64 lb]) y → y.cell? ⟨nx, 8, none⟩ = some (.int .i64 si) := fun y h => h.c 8 _ rfl
                  have q9 : ∀ y : World, (fun y : World => At y nx [.int .i64 ak, .int .i64 at', .int .i64 af, .int .i64 an, .slice oa opl.length oc, .int .i64 sz, .int .i64 sl, .int .i64 ag, .int .i64 si, .int .i64 fd, .bool am, .int .i64 ti, .int .i64 ky, .int .i64 va', .int .u64 lb]) y → y.cell? ⟨nx, 9, none⟩ = some (.int .i64 fd) := fun y h => h.c 9 _ rfl
                  have q10 : ∀ y : World, (fun y : World => At y nx [.int .i64 ak, .int .i64 at', .int .i64 af, .int .i64 an, .slice oa opl.length oc, .int .i64 sz, .int .i64 sl, .int .i64 ag, .int .i64 si, .int .i64 fd, .bool am, .int .i64 ti, .int .i64 ky, .int .i64 va', .int .u64 lb]) y → y.cell? ⟨nx, 10, none⟩ = some (.bool am) := fun y h => h.c 10 _ rfl
                  have q11 : ∀ y : World, (fun y : World => At y nx [.int .i64 ak, .int .i64 at', .int .i64 af, .int .i64 an, .slice oa opl.length oc, .int .i64 sz, .int .i64 sl, .int .i64 ag, .int .i64 si, .int .i64 fd, .bool am, .int .i64 ti, .int .i64 ky, .int .i64 va', .int .u64 lb]) y → y.cell? ⟨nx, 11, none⟩ = some (.int .i64 ti) := fun y h => h.c 11 _ rfl
                  have q12 : ∀ y : World, (fun y : World => At y nx [.int .i64 ak, .int .i64 at', .int .i64 af, .int .i64 an, .slice oa opl.length oc, .int .i64 sz, .int .i64 sl, .int .i64 ag, .int .i64 si, .int .i64 fd, .bool am, .int .i64 ti, .int .i64 ky, .int .i64 va', .int .u64 lb]) y → y.cell? ⟨nx, 12, none⟩ = some (.int .i64 ky) := fun y h => h.c 12 _ rfl
                  have q13 : ∀ y : World, (fun y : World => At y nx [.int .i64 ak, .int .i64 at', .int .i64 af, .int .i64 an, .slice oa opl.length oc, .int .i64 sz, .int .i64 sl, .int .i64 ag, .int .i64 si, .int .i64 fd, .bool am, .int .i64 ti, .int .i64 ky, .int .i64 va', .int .u64 lb]) y → y.cell? ⟨nx, 13, none⟩ = some (.int .i64 va') := fun y h => h.c 13 _ rfl
                  have q14 : ∀ y : World, (fun y : World => At y nx [.int .i64 ak, .int .i64 at', .int .i64 af, .int .i64 an, .slice oa opl.length oc, .int .i64 sz, .int .i64 sl, .int .i64 ag, .int .i64 si, .int .i64 fd, .bool am, .int .i64 ti, .int .i64 ky, .int .i64 va', .int .u64 lb]) y → y.cell? ⟨nx, 14, none⟩ = some (.int .u64 lb) := fun y h => h.c 14 _ rfl
                  iterate 4 (refine wpPl_take (v := ?_) (by rfl) (fun w' hS => ?_) ?_; rotate_left; (focus (go_simp; with_reducible rfl)); simp only [Act.put, List.setIfInBounds_toArray, List.set_cons_zero, List.set_cons_succ])
                  have HR1 := Lib.hid (show RdR ActV.cs 15 ((wB.alloc (.cells #[.int .i64 ak, .int .i64 at', .int .i64 af, .int .i64 an, .slice oa opl.length oc, .int .i64 sz, .int .i64 sl, .int .i64 ag, .int .i64 si, .int .i64 fd, .bool am, .int .i64 ti, .int .i64 ky, .int .i64 va', .int .u64 lb] 43)).drew) (.slice (some ⟨wB.heap.size, 0, none⟩) 1 1) [⟨ak, at', af, an, ⟨.slice oa opl.length oc, opl, sz, sl, ag, si, fd⟩, am, ti, ky, va', lb⟩] [wB.heap.size] from (rdr_one wB ⟨ak, at', af, an, ⟨.slice oa opl.length oc, opl, sz, sl, ag, si, fd⟩, am, ti, ky, va', lb⟩).same (fun _ _ => rfl))
                  have HW1 := Lib.hid (show Below wB.heap.size wB ((wB.alloc (.cells #[.int .i64 ak, .int .i64 at', .int .i64 af, .int .i64 an, .slice oa opl.length oc, .int .i64 sz, .int .i64 sl, .int .i64 ag, .int .i64 si, .int .i64 fd, .bool am, .int .i64 ti, .int .i64 ky, .int .i64 va', .int .u64 lb] 43)).drew) from bel_draw (bel_alloc (Below.refl _ _) _))
                  have HR2 := Lib.hid (show RdR ActV.cs 15 (((wB.alloc (.cells #[.int .i64 ak, .int .i64 at', .int .i64 af, .int .i64 an, .slice oa opl.length oc, .int .i64 sz, .int .i64 sl, .int .i64 ag, .int .i64 si, .int .i64 fd, .bool am, .int .i64 ti, .int .i64 ky, .int .i64 va', .int .u64 lb] 43)).alloc (.cells #[.int .i64 ak, .int .i64 at', .int .i64 af, .int .i64 an, .slice oa opl.length oc, .int .i64 sz, .int .i64 sl, .int .i64 ag, .int .i64 si, .int .i64 fd, .bool am, .int .i64 ti, .int .i64 ky, .int .i64 va', .int .u64 lb] 43)).drew) (.slice (some ⟨wB.heap.size, 0, none⟩) 1 1) [⟨ak, at', af, an, ⟨.slice oa opl.length oc, opl, sz, sl, ag, si, fd⟩, am, ti, ky, va', lb⟩] [wB.heap.size] from (rdr_one wB ⟨ak, at', af, an, ⟨.slice oa opl.length oc, opl, sz, sl, ag, si, fd⟩, am, ti, ky, va', lb⟩).same (fun z hz => by
                    have hz' := List.mem_singleton.1 hz
                    exact Below.heap_alloc _ _ _ (by rw [hz']; simp)))
                  have HR3 := Lib.hid (show RdR ActV.cs 15 (((wB.alloc (.cells #[.int .i64 ak, .int .i64 at', .int .i64 af, .int .i64 an, .slice oa opl.length oc, .int .i64 sz, .int .i64 sl, .int .i64 ag, .int .i64 si, .int .i64 fd, .bool am, .int .i64 ti, .int .i64 ky, .int .i64 va', .int .u64 lb] 43)).alloc (.cells #[.int .i64 ak, .int .i64 at', .int .i64 af, .int .i64 an, .slice oa opl.length oc, .int .i64 sz, .int .i64 sl, .int .i64 ag, .int .i64 si, .int .i64 fd, .bool am, .int .i64 ti, .int .i64 ky, .int .i64 va', .int .u64 lb] 43)).drew) (.slice (some ⟨wB.heap.size + 1, 0, none⟩) 1 1) [⟨ak, at', af, an, ⟨.slice oa opl.length oc, opl, sz, sl, ag, si, fd⟩, am, ti, ky, va', lb⟩] [wB.heap.size + 1] from by
                    have h := rdr_one (wB.alloc (.cells #[.int .i64 ak, .int .i64 at', .int .i64 af, .int .i64 an, .slice oa opl.length oc, .int .i64 sz, .int .i64 sl, .int .i64 ag, .int .i64 si, .int .i64 fd, .bool am, .int .i64 ti, .int .i64 ky, .int .i64 va', .int .u64 lb] 43)) ⟨ak, at', af, an, ⟨.slice oa opl.length oc, opl, sz, sl, ag, si, fd⟩, am, ti, ky, va', lb⟩
                    rw [show (wB.alloc (.cells #[.int .i64 ak, .int .i64 at', .int .i64 af, .int .i64 an, .slice oa opl.length oc, .int .i64 sz, .int .i64 sl, .int .i64 ag, .int .i64 si, .int .i64 fd, .bool am, .int .i64 ti, .int .i64 ky, .int .i64 va', .int .u64 lb] 43)).heap.size = wB.heap.size + 1 by simp] at h
                    exact h.same (fun _ _ => rfl))
                  have HW2 := Lib.hid (show Below wB.heap.size wB (((wB.alloc (.cells #[.int .i64 ak, .int .i64 at', .int .i64 af, .int .i64 an, .slice oa opl.length oc, .int .i64 sz, .int .i64 sl, .int .i64 ag, .int .i64 si, .int .i64 fd, .bool am, .int .i64 ti, .int .i64 ky, .int .i64 va', .int .u64 lb] 43)).alloc (.cells #[.int .i64 ak, .int .i64 at', .int .i64 af, .int .i64 an, .slice oa opl.length oc, .int .i64 sz, .int .i64 sl, .int .i64 ag, .int .i64 si, .int .i64 fd, .bool am, .int .i64 ti, .int .i64 ky, .int .i64 va', .int .u64 lb] 43)).drew) from bel_draw (bel_alloc (bel_alloc (Below.refl _ _) _) _))
                  refine wpPl_fork (by rfl) (by rfl) (fun K hK => ?_) (fun K hK => ?_)
                  · go_wp2_with fail
                    refine ⟨(HN3.out.alloc _).drew, ?_⟩
                    have CA1 := Lib.hid (show Calls Tryz.prog 12 #[.pointer (some ⟨a, 0, none⟩), .slice (some ⟨wB.heap.size, 0, none⟩) 1 1] (wB.alloc (.cells #[.int .i64 ak, .int .i64 at', .int .i64 af, .int .i64 an, .slice oa opl.length oc, .int .i64 sz, .int .i64 sl, .int .i64 ag, .int .i64 si, .int .i64 fd, .bool am, .int .i64 ti, .int .i64 ky, .int .i64 va', .int .u64 lb] 43)).drew _ from two_one (HT3.out.below HW1.out) (12 + 6 * i) ⟨ak, at', af, an, ⟨.slice oa opl.length oc, opl, sz, sl, ag, si, fd⟩, am, ti, ky, va', lb⟩ _ _ HR1.out (fun y hy hh => by
                      have hy' := List.mem_singleton.1 hy
                      rw [hy'] at hh
                      have := HT3.out.x.lt _ hh
                      omega) HBD.out.b7 So (HOP3.out.same (fun z hz => HW1.out.block z (HOP3.out.lt z hz))) (fun y hy hh => HSO3.out y hy (List.mem_append_left _ hh)) (by rw [HQQ.out.1]; exact HQ.out.1) (by rw [HQQ.out.1]; exact HQ.out.2) HOA.out (by omega))
                    refine wpPl_two (fun u v y => HalfW wB Sa3 Sb3 a b (ca.act (ActV.m ⟨ak, at', af, an, ⟨.slice oa opl.length oc, opl, sz, sl, ag, si, fd⟩, am, ti, ky, va', lb⟩)).1 cb' (ca.act (ActV.m ⟨ak, at', af, an, ⟨.slice oa opl.length oc, opl, sz, sl, ag, si, fd⟩, am, ti, ky, va', lb⟩)).2 ⟨ak, at', af, an, ⟨.slice oa opl.length oc, opl, sz, sl, ag, si, fd⟩, am, ti, ky, va', lb⟩ u v y) (by rfl) (by rfl) (by rintro d ⟨⟩; simp) (fun KK hKK => ?_) (fun KK hKK => ?_) ?_
                    · go_wp2_with (go_at_call 12; (with_reducible refine CA1.out.mono ?_); rintro e wp ⟨v', g1, r1, t1, Sa4, rfl, han, htw, hin, hmo, hgs, hds⟩; obtain ⟨cap1, rfl, _, _⟩ := id han.v; have HANw := Lib.hid han; have HTWw := Lib.hid htw; have HINw := Lib.hid hin; have HMOw := Lib.hid hmo; have HDSw := Lib.hid (And.intro hgs hds); clear han htw hin hmo hgs hds)
                      refine ⟨((HN3.out.alloc _).drew).mod HMOw.out (fun hh => HNS3.out (List.mem_append_left _ hh)), _, rfl, wpOne_do (by rfl) (fun KK2 hKK2 => ?_)⟩
                      go_wp2_with fail
                      have hsw := HMOw.out.size
                      simp at hsw
                      exact ⟨(((HN3.out.alloc _).drew).mod HMOw.out (fun hh => HNS3.out (List.mem_append_left _ hh))).alloc _, _, rfl, ⟨g1, r1, t1, Sa4, wp.heap.size, rfl, rdr_one wp ⟨ak, at', af, an, ⟨.slice oa opl.length oc, opl, sz, sl, ag, si, fd⟩, am, ti, ky, va', lb⟩, by omega, (HANw.out.base (m := wB.heap.size) (by simp)).below (bel_alloc (Below.refl _ _) _), HTWw.out.below (bel_alloc (Below.refl _ _) _), fun z hz => (HINw.out z hz).imp_right (fun h => by simp at h; omega), ((Mod.of_below HW1.out Sa3).trans HMOw.out (Into.refl _ _)).new _, (fun z hz => (List.mem_cons.1 hz).elim (fun e => e ▸ HDSw.out.1) (fun h => HDSw.out.2 z h))⟩⟩
                    · go_wp2_with fail
                      refine ⟨((HN3.out.alloc _).alloc _).drew, ?_⟩
                      refine wpOne_do (by rfl) (fun KK2 hKK2 => ?_)
                      have CA2 := Lib.hid (show Calls Tryz.prog 12 #[.pointer (some ⟨a, 0, none⟩), .slice (some ⟨wB.heap.size, 0, none⟩) 1 1] ((wB.alloc (.cells #[.int .i64 ak, .int .i64 at', .int .i64 af, .int .i64 an, .slice oa opl.length oc, .int .i64 sz, .int .i64 sl, .int .i64 ag, .int .i64 si, .int .i64 fd, .bool am, .int .i64 ti, .int .i64 ky, .int .i64 va', .int .u64 lb] 43)).alloc (.cells #[.int .i64 ak, .int .i64 at', .int .i64 af, .int .i64 an, .slice oa opl.length oc, .int .i64 sz, .int .i64 sl, .int .i64 ag, .int .i64 si, .int .i64 fd, .bool am, .int .i64 ti, .int .i64 ky, .int .i64 va', .int .u64 lb] 43)).drew _ from two_one (HT3.out.below HW2.out) (12 + 6 * i) ⟨ak, at', af, an, ⟨.slice oa opl.length oc, opl, sz, sl, ag, si, fd⟩, am, ti, ky, va', lb⟩ _ _ HR2.out (fun y hy hh => by
                        have hy' := List.mem_singleton.1 hy
                        rw [hy'] at hh
                        have := HT3.out.x.lt _ hh
                        omega) HBD.out.b7 So (HOP3.out.same (fun z hz => HW2.out.block z (HOP3.out.lt z hz))) (fun y hy hh => HSO3.out y hy (List.mem_append_left _ hh)) (by rw [HQQ.out.1]; exact HQ.out.1) (by rw [HQQ.out.1]; exact HQ.out.2) HOA.out (by omega))
                      go_wp2_with (go_at_call 12; (with_reducible refine CA2.out.mono ?_); rintro e wp ⟨v', g1, r1, t1, Sa4, rfl, han, htw, hin, hmo, hgs, hds⟩; obtain ⟨cap1, rfl, _, _⟩ := id han.v; have HANw := Lib.hid han; have HTWw := Lib.hid htw; have HINw := Lib.hid hin; have HMOw := Lib.hid hmo; have HDSw := Lib.hid (And.intro hgs hds); clear han htw hin hmo hgs hds)
                      have hsw := HMOw.out.size
                      simp at hsw
                      exact ⟨(((HN3.out.alloc _).alloc _).drew).mod HMOw.out (fun hh => HNS3.out (List.mem_append_left _ hh)), _, rfl, ⟨g1, r1, t1, Sa4, wB.heap.size + 1, rfl, HR3.out.same (fun z hz => HMOw.out.block z (HR3.out.lt z hz) (fun hh => by
                        have hz' := List.mem_singleton.1 hz
                        rw [hz'] at hh
                        have := HT3.out.x.lt _ hh
                        omega)), by omega, (HANw.out.base (m := wB.heap.size) (by simp; omega)), HTWw.out, fun z hz => (HINw.out z hz).imp_right (fun h => by simp at h; omega), ((Mod.of_below HW2.out Sa3).trans HMOw.out (Into.refl _ _)), (fun z hz => (List.mem_cons.1 hz).elim (fun e => e ▸ HDSw.out.1) (fun h => HDSw.out.2 z h))⟩⟩
                    rintro u v y ⟨g1, r1, t1, Sa4, gb, rfl, hrv, hgb, han, htw, hin, hmo, hds⟩ hSy
                    obtain ⟨cap1, rfl, _, _⟩ := id han.v
                    have HAN := Lib.hid han
                    have HTW4 := Lib.hid htw
                    have HIN := Lib.hid hin
                    have HMO := Lib.hid hmo
                    have HDS := Lib.hid hds
                    have HRV := Lib.hid hrv
                    have HGB := Lib.hid hgb
                    have HSY := Lib.hid hSy
                    clear han htw hin hmo hds hrv hgb hSy q0 q1 q2 q3 q4 q5 q6 q7 q8 q9 q10 q11 q12 q13 q14
                    simp only [Act.put, List.setIfInBounds_toArray, List.set_cons_zero, List.set_cons_succ]
                    have CA3 := Lib.hid (show Calls Tryz.prog 12 #[.pointer (some ⟨b, 0, none⟩), .slice (some ⟨gb, 0, none⟩) 1 1] y _ from two_one HTW4.out.swap (12 + 78 * i + 6 * j) ⟨ak, at', af, an, ⟨.slice oa opl.length oc, opl, sz, sl, ag, si, fd⟩, am, ti, ky, va', lb⟩ _ _ HRV.out (fun y hy hh => by
                      have hy' := List.mem_singleton.1 hy
                      rw [hy'] at hh
                      have h1 := HT3.out.y.lt _ hh
                      have h2 := HGB.out
                      omega) HBD.out.b7 So (HOP3.out.same (fun z hz => HMO.out.block z (HOP3.out.lt z hz) (fun hh => HSO3.out z hz (List.mem_append_left _ hh)))) (fun y hy hh => HSO3.out y hy (List.mem_append_right _ hh)) (by rw [HQJ.out]; exact HQ.out.1) (by rw [HQJ.out]; exact HQ.out.2) HOJ.out (by omega))
                    refine wpPl_do (by rfl) (fun K hK => ?_)
                    go_wp2_with (go_at_call 12; (with_reducible refine CA3.out.mono ?_); rintro e wq ⟨v', g2, r2, t2, Sb4, rfl, han2, htw2, hin2, hmo2, hgs2, hds2⟩; obtain ⟨cap2, rfl, _, _⟩ := id han2.v; have HAN2 := Lib.hid han2; have HTW5 := Lib.hid htw2; have HIN2 := Lib.hid hin2; have HMO2 := Lib.hid hmo2; have HDS2 := Lib.hid (And.intro hgs2 hds2); clear han2 htw2 hin2 hmo2 hgs2 hds2)
                    refine ⟨HSY.out.mod HMO2.out (fun hh => HNS3.out (List.mem_append_right _ hh)), ?_⟩
                    iterate 2 (refine wpPl_take (v := ?_) (by rfl) (fun w' hS => ?_) ?_; rotate_left; (focus (go_simp; with_reducible rfl)); simp only [Act.put, List.setIfInBounds_toArray, List.set_cons_zero, List.set_cons_succ])
                    refine wpPl_done ?_
                    go_wp2_with fail
                    go_meet
                    case rel => exact full_of (fun z hz => HT3.out.y.lt z hz) HAN.out HTW4.out HIN.out HMO.out HDS.out HAN2.out HTW5.out HIN2.out HMO2.out HDS2.out.1 HDS2.out.2
                  · go_wp2_with fail
                    refine ⟨(HN3.out.alloc _).drew, ?_⟩
                    refine wpPl_do (by rfl) (fun K hK => ?_)
                    go_wp2_with fail
                    refine ⟨((HN3.out.alloc _).alloc _).drew, ?_⟩
                    refine wpPl_do (by rfl) (fun K hK => ?_)
                    have CAB := Lib.hid (show Calls Tryz.prog 12 #[.pointer (some ⟨a, 0, none⟩), .slice (some ⟨wB.heap.size + 1, 0, none⟩) 1 1] ((wB.alloc (.cells #[.int .i64 ak, .int .i64 at', .int .i64 af, .int .i64 an, .slice oa opl.length oc, .int .i64 sz, .int .i64 sl, .int .i64 ag, .int .i64 si, .int .i64 fd, .bool am, .int .i64 ti, .int .i64 ky, .int .i64 va', .int .u64 lb] 43)).alloc (.cells #[.int .i64 ak, .int .i64 at', .int .i64 af, .int .i64 an, .slice oa opl.length oc, .int .i64 sz, .int .i64 sl, .int .i64 ag, .int .i64 si, .int .i64 fd, .bool am, .int .i64 ti, .int .i64 ky, .int .i64 va', .int .u64 lb] 43)).drew _ from two_one (HT3.out.below HW2.out) (12 + 6 * i) ⟨ak, at', af, an, ⟨.slice oa opl.length oc, opl, sz, sl, ag, si, fd⟩, am, ti, ky, va', lb⟩ _ _ HR3.out (fun y hy hh => by
                      have hy' := List.mem_singleton.1 hy
                      rw [hy'] at hh
                      have := HT3.out.x.lt _ hh
                      omega) HBD.out.b7 So (HOP3.out.same (fun z hz => HW2.out.block z (HOP3.out.lt z hz))) (fun y hy hh => HSO3.out y hy (List.mem_append_left _ hh)) (by rw [HQQ.out.1]; exact HQ.out.1) (by rw [HQQ.out.1]; exact HQ.out.2) HOA.out (by omega))
                    go_wp2_with (go_at_call 12; (with_reducible refine CAB.out.mono ?_); rintro e wp ⟨v', g1, r1, t1, Sa4, rfl, han, htw, hin, hmo, hgs, hds⟩; obtain ⟨cap1, rfl, _, _⟩ := id han.v; have HANw := Lib.hid han; have HTWw := Lib.hid htw; have HINw := Lib.hid hin; have HMOw := Lib.hid hmo; have HDSw := Lib.hid (And.intro hgs hds); clear han htw hin hmo hgs hds)
                    have hsw := HMOw.out.size
                    simp at hsw
                    have HAN := Lib.hid (HANw.out.base (m := wB.heap.size) (by simp; omega))
                    have HTW4 := HTWw
                    have HIN := Lib.hid (show Into Sa4 Sa3 wB.heap.size from fun z hz => (HINw.out z hz).imp_right (fun h => by simp at h; omega))
                    have HMO := Lib.hid ((Mod.of_below HW2.out Sa3).trans HMOw.out (Into.refl _ _))
                    have HDS := Lib.hid (show ∀ z ∈ g1 :: (r1.ownBlock.toList ++ t1.ownBlock.toList), z ∉ Sa4 from (fun z hz => (List.mem_cons.1 hz).elim (fun e => e ▸ HDSw.out.1) (fun h => HDSw.out.2 z h)))
                    have HRV := Lib.hid (HR2.out.same (fun z hz => HMOw.out.block z (HR2.out.lt z hz) (fun hh => by
                      have hz' := List.mem_singleton.1 hz
                      rw [hz'] at hh
                      have := HT3.out.x.lt _ hh
                      omega)))
                    have HGB := Lib.hid (Nat.le_refl wB.heap.size)
                    have HSY := Lib.hid ((((HN3.out.alloc _).alloc _).drew).mod HMOw.out (fun hh => HNS3.out (List.mem_append_left _ hh)))
                    refine ⟨HSY.out, ?_⟩
                    clear q0 q1 q2 q3 q4 q5 q6 q7 q8 q9 q10 q11 q12 q13 q14
                    have CA3 := Lib.hid (show Calls Tryz.prog 12 #[.pointer (some ⟨b, 0, none⟩), .slice (some ⟨wB.heap.size, 0, none⟩) 1 1] wp _ from two_one HTW4.out.swap (12 + 78 * i + 6 * j) ⟨ak, at', af, an, ⟨.slice oa opl.length oc, opl, sz, sl, ag, si, fd⟩, am, ti, ky, va', lb⟩ _ _ HRV.out (fun y hy hh => by
                      have hy' := List.mem_singleton.1 hy
                      rw [hy'] at hh
                      have h1 := HT3.out.y.lt _ hh
                      have h2 := HGB.out
                      omega) HBD.out.b7 So (HOP3.out.same (fun z hz => HMO.out.block z (HOP3.out.lt z hz) (fun hh => HSO3.out z hz (List.mem_append_left _ hh)))) (fun y hy hh => HSO3.out y hy (List.mem_append_right _ hh)) (by rw [HQJ.out]; exact HQ.out.1) (by rw [HQJ.out]; exact HQ.out.2) HOJ.out (by omega))
                    refine wpPl_do (by rfl) (fun K hK => ?_)
                    go_wp2_with (go_at_call 12; (with_reducible refine CA3.out.mono ?_); rintro e wq ⟨v', g2, r2, t2, Sb4, rfl, han2, htw2, hin2, hmo2, hgs2, hds2⟩; obtain ⟨cap2, rfl, _, _⟩ := id han2.v; have HAN2 := Lib.hid han2; have HTW5 := Lib.hid htw2; have HIN2 := Lib.hid hin2; have HMO2 := Lib.hid hmo2; have HDS2 := Lib.hid (And.intro hgs2 hds2); clear han2 htw2 hin2 hmo2 hgs2 hds2)
                    refine ⟨HSY.out.mod HMO2.out (fun hh => HNS3.out (List.mem_append_right _ hh)), ?_⟩
                    iterate 2 (refine wpPl_take (v := ?_) (by rfl) (fun w' hS => ?_) ?_; rotate_left; (focus (go_simp; with_reducible rfl)); simp only [Act.put, List.setIfInBounds_toArray, List.set_cons_zero, List.set_cons_succ])
                    refine wpPl_done ?_
                    go_wp2_with fail
                    go_meet
                    case rel => exact full_of (fun z hz => HT3.out.y.lt z hz) HAN.out HTW4.out HIN.out HMO.out HDS.out HAN2.out HTW5.out HIN2.out HMO2.out HDS2.out.1 HDS2.out.2
                case rest =>
                obtain ⟨g1, r1, t1, g2, r2, t2, Sa4, Sb4, han1, han2, htw, hin, hmo, hds⟩ := hcut
                obtain ⟨cap1, rfl, hc1, _⟩ := id han1.v
                obtain ⟨cap2, rfl, hc2, _⟩ := id han2.v
                have hsa := HSJ.out.act (by omega) (ActV.m ⟨ak, at', af, an, ⟨.slice oa opl.length oc, opl, sz, sl, ag, si, fd⟩, am, ti, ky, va', lb⟩) (HBB.out.imp (fun h => h) (fun h => by show at'.toNat = t; omega)) ka1 ka2
                obtain ⟨ca1, hca1⟩ : ∃ c, c = (ca.act (ActV.m ⟨ak, at', af, an, ⟨.slice oa opl.length oc, opl, sz, sl, ag, si, fd⟩, am, ti, ky, va', lb⟩)).1 := ⟨_, rfl⟩
                obtain ⟨cb1, hcb1⟩ : ∃ c, c = (cb'.act (ActV.m ⟨ak, at', af, an, ⟨.slice oa opl.length oc, opl, sz, sl, ag, si, fd⟩, am, ti, ky, va', lb⟩)).1 := ⟨_, rfl⟩
                obtain ⟨A, hA⟩ : ∃ c, c = (ca.act (ActV.m ⟨ak, at', af, an, ⟨.slice oa opl.length oc, opl, sz, sl, ag, si, fd⟩, am, ti, ky, va', lb⟩)).2 := ⟨_, rfl⟩
                obtain ⟨A2, hA2⟩ : ∃ c, c = (cb'.act (ActV.m ⟨ak, at', af, an, ⟨.slice oa opl.length oc, opl, sz, sl, ag, si, fd⟩, am, ti, ky, va', lb⟩)).2 := ⟨_, rfl⟩
                have hok1 := HOA.out.act (by rw [HQQ.out.1]; exact HQ.out.1) (by rw [HQQ.out.1]; exact HQ.out.2) (bd7_R HBD.out.b7).1 (bd7_R HBD.out.b7).2 (by omega)
                have hok2 := HOJ.out.act (by rw [HQJ.out]; exact HQ.out.1) (by rw [HQJ.out]; exact HQ.out.2) (bd7_R HBD.out.b7).1 (bd7_R HBD.out.b7).2 (by omega)
                have hqa := (act_quota ca (ActV.m ⟨ak, at', af, an, ⟨.slice oa opl.length oc, opl, sz, sl, ag, si, fd⟩, am, ti, ky, va', lb⟩)).1.trans HQQ.out.1
                have hqb := (act_quota cb' (ActV.m ⟨ak, at', af, an, ⟨.slice oa opl.length oc, opl, sz, sl, ag, si, fd⟩, am, ti, ky, va', lb⟩)).1.trans HQJ.out
                rw [← hca1] at hsa htw hok1 hqa
                rw [← hcb1] at hsa htw hok2 hqb
                rw [← hA] at hsa han1
                rw [← hA2] at hsa han2
                have HSIM1 := Lib.hid hsa.1
                have HAA := Lib.hid (show ak ≠ 5 → A = A2 from hsa.2)
                have HOA1 := Lib.hid hok1
                have HOB1 := Lib.hid hok2
                have HQA := Lib.hid hqa
                have HQB := Lib.hid hqb
                have HRE := Lib.hid hsa.1.rows
                have HRL := Lib.hid (show (rowsV ca1 t).length ≤ 1200 from by have := rows_bd (t := t) hok1; omega)
                obtain ⟨r1a, r1c, rfl⟩ := own_shape2 han1.r
                obtain ⟨t1a, t1c, rfl⟩ := own_shape2 han1.t
                obtain ⟨r2a, r2c, rfl⟩ := own_shape2 han2.r
                obtain ⟨t2a, t2c, rfl⟩ := own_shape2 han2.t
                have HR1 := Lib.hid han1.r
                have HT1 := Lib.hid han1.t
                have HR2 := Lib.hid han2.r
                have HT2 := Lib.hid han2.t
                have HSC := Lib.hid (show (fun y : World => At y nx [.int .i64 ak, .int .i64 at', .int .i64 af, .int .i64 an, .slice oa opl.length oc, .int .i64 sz, .int .i64 sl, .int .i64 ag, .int .i64 si, .int .i64 fd, .bool am, .int .i64 ti, .int .i64 ky, .int .i64 va', .int .u64 lb] ∧ At y g1 [.int .i64 A.err, .slice r1a A.rows.length r1c, .slice t1a A.told.length t1c] ∧ At y g2 [.int .i64 A2.err, .slice r2a A2.rows.length r2c, .slice t2a A2.told.length t2c]) wc from ⟨HN3.out.mod hmo HNS3.out, han1.c, han2.c⟩)
                have HNO := Lib.hid (show nx ∉ Sa4 ++ Sb4 ∧ g1 ∉ Sa4 ++ Sb4 ∧ g2 ∉ Sa4 ++ Sb4 from ⟨fun hh => (hin _ hh).elim HNS3.out (fun h => by have := HN3.out.lt; omega), hds g1 (by simp), hds g2 (by simp)⟩)
                have HTWc := Lib.hid htw
                have HMOc := Lib.hid hmo
                have HINc := Lib.hid hin
                clear han1 han2 htw hin hmo hds hsa hok1 hok2 hqa hqb hca1 hcb1 hA hA2 HSIM HSJ HOA HOJ HQJ HQQ
                apply_assumption
                by_cases h5 : ak = 5
                · skip
                  have e5 : (ak != 5) = false := by simp [h5]
                  have HK5 := Lib.hid h5
                  clear h5
                  go_upto_region 22 with fail
                  refine wp_region_pl (fun y : World => At y nx [.int .i64 ak, .int .i64 at', .int .i64 af, .int .i64 an, .slice oa opl.length oc, .int .i64 sz, .int .i64 sl, .int .i64 ag, .int .i64 si, .int .i64 fd, .bool am, .int .i64 ti, .int .i64 ky, .int .i64 va', .int .u64 lb] ∧ At y g1 [.int .i64 A.err, .slice r1a A.rows.length r1c, .slice t1a A.told.length t1c] ∧ At y g2 [.int .i64 A2.err, .slice r2a A2.rows.length r2c, .slice t2a A2.told.length t2c]) (.take 0 <| .take 1 <| .take 2 <| .take 3 <| .take 4 <| .take 5 <| .take 6 <| .take 7 <| .take 8 <| .take 9 <| .take 10 <| .take 11 <| .take 12 <| .take 13 <| .take 14 <| .take 15 <| .take 16 <| .take 17 <| .take 18 <| .doo 19 <| .take 20 <| .take 21 <| .take 22 <| .take 23 <| .take 24 <| .take 25 <| .take 27 <| .take 28 <| .doo 26 <| .doo 29 <| .doo 30 <| .take 31 <| .take 32 <| .done) ?plA22t (by kernel_rfl) (by kernel_rfl) (by kernel_rfl) ?plB22t (by intro c a d v w; cases d <;> exact fun h => h) ?plC22t ?_
                  case plB22t =>
                    simp only [Pl.with, List.getElem?_toArray, List.getElem?_cons_zero, List.getElem?_cons_succ]
                    try rfl
                  case plC22t => exact ⟨HSC.out.1.drew, HSC.out.2.1.drew, HSC.out.2.2.drew⟩
                  have z0 : ∀ y : World, (fun y : World => At y nx [.int .i64 ak, .int .i64 at', .int .i64 af, .int .i64 an, .slice oa opl.length oc, .int .i64 sz, .int .i64 sl, .int .i64 ag, .int .i64 si, .int .i64 fd, .bool am, .int .i64 ti, .int .i64 ky, .int .i64 va', .int .u64 lb] ∧ At y g1 [.int .i64 A.err, .slice r1a A.rows.length r1c, .slice t1a A.told.length t1c] ∧ At y g2 [.int .i64 A2.err, .slice r2a A2.rows.length r2c, .slice t2a A2.told.length t2c]) y → y.cell? ⟨nx, 0, none⟩ = some (.int .i64 ak) := fun y h => h.1.c 0 _ rfl
                  have a0 : ∀ y : World, (fun y : World => At y nx [.int .i64 ak, .int .i64 at', .int .i64 af, .int .i64 an, .slice oa opl.length oc, .int .i64 sz, .int .i64 sl, .int .i64 ag, .int .i64 si, .int .i64 fd, .bool am, .int .i64 ti, .int .i64 ky, .int .i64 va', .int .u64 lb] ∧ At y g1 [.int .i64 A.err, .slice r1a A.rows.length r1c, .slice t1a A.told.length t1c] ∧ At y g2 [.int .i64 A2.err, .slice r2a A2.rows.length r2c, .slice t2a A2.told.length t2c]) y → y.cell? ⟨g1, 0, none⟩ = some (.int .i64 A.err) := fun y h => h.2.1.c 0 _ rfl
                  have a1 : ∀ y : World, (fun y : World => At y nx [.int .i64 ak, .int .i64 at', .int .i64 af, .int .i64 an, .slice oa opl.length oc, .int .i64 sz, .int .i64 sl, .int .i64 ag, .int .i64 si, .int .i64 fd, .bool am, .int .i64 ti, .int .i64 ky, .int .i64 va', .int .u64 lb] ∧ At y g1 [.int .i64 A.err, .slice r1a A.rows.length r1c, .slice t1a A.told.length t1c] ∧ At y g2 [.int .i64 A2.err, .slice r2a A2.rows.length r2c, .slice t2a A2.told.length t2c]) y → y.cell? ⟨g1, 1, none⟩ = some (.slice r1a A.rows.length r1c) := fun y h => h.2.1.c 1 _ rfl
                  have a2 : ∀ y : World, (fun y : World => At y nx [.int .i64 ak, .int .i64 at', .int .i64 af, .int .i64 an, .slice oa opl.length oc, .int .i64 sz, .int .i64 sl, .int .i64 ag, .int .i64 si, .int .i64 fd, .bool am, .int .i64 ti, .int .i64 ky, .int .i64 va', .int .u64 lb] ∧ At y g1 [.int .i64 A.err, .slice r1a A.rows.length r1c, .slice t1a A.told.length t1c] ∧ At y g2 [.int .i64 A2.err, .slice r2a A2.rows.length r2c, .slice t2a A2.told.length t2c]) y → y.cell? ⟨g1, 2, none⟩ = some (.slice t1a A.told.length t1c) := fun y h => h.2.1.c 2 _ rfl
                  have b0 : ∀ y : World, (fun y : World => At y nx [.int .i64 ak, .int .i64 at', .int .i64 af, .int .i64 an, .slice oa opl.length oc, .int .i64 sz, .int .i64 sl, .int .i64 ag, .int .i64 si, .int .i64 fd, .bool am, .int .i64 ti, .int .i64 ky, .int .i64 va', .int .u64 lb] ∧ At y g1 [.int .i64 A.err, .slice r1a A.rows.length r1c, .slice t1a A.told.length t1c] ∧ At y g2 [.int .i64 A2.err, .slice r2a A2.rows.length r2c, .slice t2a A2.told.length t2c]) y → y.cell? ⟨g2, 0, none⟩ = some (.int .i64 A2.err) := fun y h => h.2.2.c 0 _ rfl
                  have b1 : ∀ y : World, (fun y : World => At y nx [.int .i64 ak, .int .i64 at', .int .i64 af, .int .i64 an, .slice oa opl.length oc, .int .i64 sz, .int .i64 sl, .int .i64 ag, .int .i64 si, .int .i64 fd, .bool am, .int .i64 ti, .int .i64 ky, .int .i64 va', .int .u64 lb] ∧ At y g1 [.int .i64 A.err, .slice r1a A.rows.length r1c, .slice t1a A.told.length t1c] ∧ At y g2 [.int .i64 A2.err, .slice r2a A2.rows.length r2c, .slice t2a A2.told.length t2c]) y → y.cell? ⟨g2, 1, none⟩ = some (.slice r2a A2.rows.length r2c) := fun y h => h.2.2.c 1 _ rfl
                  have b2 : ∀ y : World, (fun y : World => At y nx [.int .i64 ak, .int .i64 at', .int .i64 af, .int .i64 an, .slice oa opl.length oc, .int .i64 sz, .int .i64 sl, .int .i64 ag, .int .i64 si, .int .i64 fd, .bool am, .int .i64 ti, .int .i64 ky, .int .i64 va', .int .u64 lb] ∧ At y g1 [.int .i64 A.err, .slice r1a A.rows.length r1c, .slice t1a A.told.length t1c] ∧ At y g2 [.int .i64 A2.err, .slice r2a A2.rows.length r2c, .slice t2a A2.told.length t2c]) y → y.cell? ⟨g2, 2, none⟩ = some (.slice t2a A2.told.length t2c) := fun y h => h.2.2.c 2 _ rfl
                  iterate 4 (refine wpPl_take (v := ?_) (by rfl) (fun w' hS => ?_) ?_; rotate_left; (focus (go_simp; with_reducible rfl)); simp only [Act.put, List.setIfInBounds_toArray, List.set_cons_zero, List.set_cons_succ])
                  iterate 15 (refine wpPl_pass (by rfl) ?_; simp only [Act.put, List.setIfInBounds_toArray, List.set_cons_zero, List.set_cons_succ])
                  refine wpPl_skip (by rfl) ⟨⟨HSC.out.1.drew, HSC.out.2.1.drew, HSC.out.2.2.drew⟩, ?_⟩
                  simp only [Act.put, List.setIfInBounds_toArray, List.set_cons_zero, List.set_cons_succ]
                  iterate 2 (refine wpPl_pass (by rfl) ?_; simp only [Act.put, List.setIfInBounds_toArray, List.set_cons_zero, List.set_cons_succ])
                  iterate 6 (refine wpPl_take (v := ?_) (by rfl) (fun w' hS => ?_) ?_; rotate_left; (focus (go_simp; with_reducible rfl)); simp only [Act.put, List.setIfInBounds_toArray, List.set_cons_zero, List.set_cons_succ])
                  clear z0 a0 a1 a2 b0 b1 b2
                  have HD0 := Lib.hid ((HTWc.out.duo).below (bel_draw (Below.refl _ wc)))
                  have HRA := Lib.hid (duo_rows HD0.out (12 + 6 * i + 6) t (by omega) (by rw [HQA.out]; exact HQ.out.1) (by rw [HQA.out]; exact HQ.out.2) HOA1.out (by omega) (by have := HRL.out; omega))
                  refine wpPl_do (by rfl) (fun K hK => ?_)
                  go_wp2_with (go_at_call 19; (with_reducible refine HRA.out.mono ?_); rintro e wx ⟨vx, S5, rfl, hox, hdx, hd5, hi5, hm5⟩; have HOX := Lib.hid hox; have HDX := Lib.hid hdx; have HI5 := Lib.hid hi5; have HM5 := Lib.hid hm5; obtain ⟨xa, xc, rfl⟩ := own_shape2 hox; have HD5 := Lib.hid hd5; clear hox hdx hd5 hi5 hm5)
                  refine ⟨⟨HSC.out.1.mod HM5.out HNO.out.1, HSC.out.2.1.mod HM5.out HNO.out.2.1, HSC.out.2.2.mod HM5.out HNO.out.2.2⟩, ?_⟩
                  have HRB := Lib.hid (duo_rows HD5.out.swap (12 + 78 * i + 6 * j + 6) t (by omega) (by rw [HQB.out]; exact HQ.out.1) (by rw [HQB.out]; exact HQ.out.2) HOB1.out (by omega) (by rw [← HRE.out]; have := HRL.out; omega))
                  have hsc5 := HM5.out.size
                  have HNO5 := Lib.hid (show nx ∉ S5 ∧ g1 ∉ S5 ∧ g2 ∉ S5 from ⟨fun hh => (HI5.out _ hh).elim HNO.out.1 (fun h => by have := HSC.out.1.lt; omega), fun hh => (HI5.out _ hh).elim HNO.out.2.1 (fun h => by have := HSC.out.2.1.lt; omega), fun hh => (HI5.out _ hh).elim HNO.out.2.2 (fun h => by have := HSC.out.2.2.lt; omega)⟩)
                  refine wpPl_do (by rfl) (fun K hK => ?_)
                  go_wp2_with (go_at_call 19; (with_reducible refine HRB.out.mono ?_); rintro e wy ⟨vy, S6, rfl, hoy, hdy, hd6, hi6, hm6⟩; rw [← HRE.out] at hoy; have HOY := Lib.hid hoy; have HOX2 := Lib.hid (own_mod HOX.out hm6 HDX.out); have HM6 := Lib.hid hm6; obtain ⟨ya, yc, rfl⟩ := own_shape2 hoy; have HD6' := Lib.hid (Duo2.comp HM5.out HI5.out (Duo2.comp hm6 hi6 hd6.swap)); clear hoy hdy hd6 hi6 hm6)
                  have HS6y := Lib.hid (show (fun y : World => At y nx [.int .i64 ak, .int .i64 at', .int .i64 af, .int .i64 an, .slice oa opl.length oc, .int .i64 sz, .int .i64 sl, .int .i64 ag, .int .i64 si, .int .i64 fd, .bool am, .int .i64 ti, .int .i64 ky, .int .i64 va', .int .u64 lb] ∧ At y g1 [.int .i64 A.err, .slice r1a A.rows.length r1c, .slice t1a A.told.length t1c] ∧ At y g2 [.int .i64 A2.err, .slice r2a A2.rows.length r2c, .slice t2a A2.told.length t2c]) wy from ⟨(HSC.out.1.mod HM5.out HNO.out.1).mod HM6.out HNO5.out.1, (HSC.out.2.1.mod HM5.out HNO.out.2.1).mod HM6.out HNO5.out.2.1, (HSC.out.2.2.mod HM5.out HNO.out.2.2).mod HM6.out HNO5.out.2.2⟩)
                  refine ⟨HS6y.out, ?_⟩
                  refine wpPl_do (by rfl) (fun K hK => ?_)
                  go_wp2_with (go_at_call 18; (with_reducible refine (sameR _ _ (rowsV ca1 t) (rowsV ca1 t) _ (RdR.of_own (cs := RowV.cs) (k := 5) (fun _ => rfl) HOX2.out).isr (RdR.of_own (cs := RowV.cs) (k := 5) (fun _ => rfl) HOY.out).isr).mono ?_); rintro e wz ⟨rfl, hbz⟩; rw [show decide (rowsV ca1 t = rowsV ca1 t) = true from decide_eq_true rfl]; have HBZ := Lib.hid hbz; clear hbz)
                  refine ⟨⟨HS6y.out.1.below HBZ.out, HS6y.out.2.1.below HBZ.out, HS6y.out.2.2.below HBZ.out⟩, ?_⟩
                  iterate 2 (refine wpPl_take (v := ?_) (by rfl) (fun w' hS => ?_) ?_; rotate_left; (focus (go_simp; with_reducible rfl)); simp only [Act.put, List.setIfInBounds_toArray, List.set_cons_zero, List.set_cons_succ])
                  refine wpPl_done ?_
                  go_wp2_with fail
                  go_roundg (la.length - (i + 1))
                  case measure => omega
                  case rel => exact ⟨i + 1, ca1, cb1, by omega, rfl, by go_num, HSIM1.out, HOA1.out.wide (by omega) (by omega), HOB1.out.wide (by omega) (by omega), ⟨HQA.out, HQB.out⟩, Duo2.comp HM8.out HI8.out (Duo2.comp HM3.out HI3.out (Duo2.comp HMOc.out HINc.out (HD6'.out.below HBZ.out)))⟩
                · skip
                  have e5 : (ak != 5) = true := by simp [h5]
                  have HAE := Lib.hid (HAA.out h5)
                  have HK5 := Lib.hid h5
                  clear h5
                  go_upto_region 22 with fail
                  refine wp_region_pl (fun y : World => At y nx [.int .i64 ak, .int .i64 at', .int .i64 af, .int .i64 an, .slice oa opl.length oc, .int .i64 sz, .int .i64 sl, .int .i64 ag, .int .i64 si, .int .i64 fd, .bool am, .int .i64 ti, .int .i64 ky, .int .i64 va', .int .u64 lb] ∧ At y g1 [.int .i64 A.err, .slice r1a A.rows.length r1c, .slice t1a A.told.length t1c] ∧ At y g2 [.int .i64 A2.err, .slice r2a A2.rows.length r2c, .slice t2a A2.told.length t2c]) (.take 0 <| .take 1 <| .take 2 <| .take 3 <| .take 4 <| .take 5 <| .take 6 <| .take 7 <| .take 8 <| .take 9 <| .take 10 <| .take 11 <| .take 12 <| .take 13 <| .take 14 <| .take 15 <| .take 16 <| .take 17 <| .take 18 <| .doo 19 <| .take 20 <| .take 21 <| .take 22 <| .take 23 <| .take 24 <| .take 25 <| .take 27 <| .take 28 <| .doo 26 <| .doo 29 <| .doo 30 <| .take 31 <| .take 32 <| .done) ?plA22o (by kernel_rfl) (by kernel_rfl) (by kernel_rfl) ?plB22o (by intro c a d v w; cases d <;> exact fun h => h) ?plC22o ?_
                  case plB22o =>
                    simp only [Pl.with, List.getElem?_toArray, List.getElem?_cons_zero, List.getElem?_cons_succ]
                    try rfl
                  case plC22o => exact ⟨HSC.out.1.drew, HSC.out.2.1.drew, HSC.out.2.2.drew⟩
                  have z0 : ∀ y : World, (fun y : World => At y nx [.int .i64 ak, .int .i64 at', .int .i64 af, .int .i64 an, .slice oa opl.length oc, .int .i64 sz, .int .i64 sl, .int .i64 ag, .int .i64 si, .int .i64 fd, .bool am, .int .i64 ti, .int .i64 ky, .int .i64 va', .int .u64 lb] ∧ At y g1 [.int .i64 A.err, .slice r1a A.rows.length r1c, .slice t1a A.told.length t1c] ∧ At y g2 [.int .i64 A2.err, .slice r2a A2.rows.length r2c, .slice t2a A2.told.length t2c]) y → y.cell? ⟨nx, 0, none⟩ = some (.int .i64 ak) := fun y h => h.1.c 0 _ rfl
                  have a0 : ∀ y : World, (fun y : World => At y nx [.int .i64 ak, .int .i64 at', .int .i64 af, .int .i64 an, .slice oa opl.length oc, .int .i64 sz, .int .i64 sl, .int .i64 ag, .int .i64 si, .int .i64 fd, .bool am, .int .i64 ti, .int .i64 ky, .int .i64 va', .int .u64 lb] ∧ At y g1 [.int .i64 A.err, .slice r1a A.rows.length r1c, .slice t1a A.told.length t1c] ∧ At y g2 [.int .i64 A2.err, .slice r2a A2.rows.length r2c, .slice t2a A2.told.length t2c]) y → y.cell? ⟨g1, 0, none⟩ = some (.int .i64 A.err) := fun y h => h.2.1.c 0 _ rfl
                  have a1 : ∀ y : World, (fun y : World => At y nx [.int .i64 ak, .int .i64 at', .int .i64 af, .int .i64 an, .slice oa opl.length oc, .int .i64 sz, .int .i64 sl, .int .i64 ag, .int .i64 si, .int .i64 fd, .bool am, .int .i64 ti, .int .i64 ky, .int .i64 va', .int .u64 lb] ∧ At y g1 [.int .i64 A.err, .slice r1a A.rows.length r1c, .slice t1a A.told.length t1c] ∧ At y g2 [.int .i64 A2.err, .slice r2a A2.rows.length r2c, .slice t2a A2.told.length t2c]) y → y.cell? ⟨g1, 1, none⟩ = some (.slice r1a A.rows.length r1c) := fun y h => h.2.1.c 1 _ rfl
                  have a2 : ∀ y : World, (fun y : World => At y nx [.int .i64 ak, .int .i64 at', .int .i64 af, .int .i64 an, .slice oa opl.length oc, .int .i64 sz, .int .i64 sl, .int .i64 ag, .int .i64 si, .int .i64 fd, .bool am, .int .i64 ti, .int .i64 ky, .int .i64 va', .int .u64 lb] ∧ At y g1 [.int .i64 A.err, .slice r1a A.rows.length r1c, .slice t1a A.told.length t1c] ∧ At y g2 [.int .i64 A2.err, .slice r2a A2.rows.length r2c, .slice t2a A2.told.length t2c]) y → y.cell? ⟨g1, 2, none⟩ = some (.slice t1a A.told.length t1c) := fun y h => h.2.1.c 2 _ rfl
                  have b0 : ∀ y : World, (fun y : World => At y nx [.int .i64 ak, .int .i64 at', .int .i64 af, .int .i64 an, .slice oa opl.length oc, .int .i64 sz, .int .i64 sl, .int .i64 ag, .int .i64 si, .int .i64 fd, .bool am, .int .i64 ti, .int .i64 ky, .int .i64 va', .int .u64 lb] ∧ At y g1 [.int .i64 A.err, .slice r1a A.rows.length r1c, .slice t1a A.told.length t1c] ∧ At y g2 [.int .i64 A2.err, .slice r2a A2.rows.length r2c, .slice t2a A2.told.length t2c]) y → y.cell? ⟨g2, 0, none⟩ = some (.int .i64 A2.err) := fun y h => h.2.2.c 0 _ rfl
                  have b1 : ∀ y : World, (fun y : World => At y nx [.int .i64 ak, .int .i64 at', .int .i64 af, .int .i64 an, .slice oa opl.length oc, .int .i64 sz, .int .i64 sl, .int .i64 ag, .int .i64 si, .int .i64 fd, .bool am, .int .i64 ti, .int .i64 ky, .int .i64 va', .int .u64 lb] ∧ At y g1 [.int .i64 A.err, .slice r1a A.rows.length r1c, .slice t1a A.told.length t1c] ∧ At y g2 [.int .i64 A2.err, .slice r2a A2.rows.length r2c, .slice t2a A2.told.length t2c]) y → y.cell? ⟨g2, 1, none⟩ = some (.slice r2a A2.rows.length r2c) := fun y h => h.2.2.c 1 _ rfl
                  have b2 : ∀ y : World, (fun y : World => At y nx [.int .i64 ak, .int .i64 at', .int .i64 af, .int .i64 an, .slice oa opl.length oc, .int .i64 sz, .int .i64 sl, .int .i64 ag, .int .i64 si, .int .i64 fd, .bool am, .int .i64 ti, .int .i64 ky, .int .i64 va', .int .u64 lb] ∧ At y g1 [.int .i64 A.err, .slice r1a A.rows.length r1c, .slice t1a A.told.length t1c] ∧ At y g2 [.int .i64 A2.err, .slice r2a A2.rows.length r2c, .slice t2a A2.told.length t2c]) y → y.cell? ⟨g2, 2, none⟩ = some (.slice t2a A2.told.length t2c) := fun y h => h.2.2.c 2 _ rfl
                  iterate 19 (refine wpPl_take (v := ?_) (by rfl) (fun w' hS => ?_) ?_; rotate_left; (focus (go_simp; with_reducible rfl)); simp only [Act.put, List.setIfInBounds_toArray, List.set_cons_zero, List.set_cons_succ])
                  clear z0 a0 a1 a2 b0 b1 b2
                  refine wpPl_do (by rfl) (fun K hK => ?_)
                  have HANK := Lib.hid (show Calls Tryz.prog 17 #[.agg #[.int .i64 A.err, .slice r1a A.rows.length r1c, .slice t1a A.told.length t1c], .agg #[.int .i64 A2.err, .slice r2a A2.rows.length r2c, .slice t2a A2.told.length t2c]] wc.drew _ from ansK_any ⟨A.err, .slice r1a A.rows.length r1c, A.rows, .slice t1a A.told.length t1c, A.told⟩ ⟨A2.err, .slice r2a A2.rows.length r2c, A2.rows, .slice t2a A2.told.length t2c, A2.told⟩ wc.drew ⟨(RdR.of_own (cs := RowV.cs) (k := 5) (fun _ => rfl) HR1.out.drew).isr, (RdR.of_own (cs := RelV.cs) (k := 4) (fun _ => rfl) HT1.out.drew).isr⟩ ⟨(RdR.of_own (cs := RowV.cs) (k := 5) (fun _ => rfl) HR2.out.drew).isr, (RdR.of_own (cs := RelV.cs) (k := 4) (fun _ => rfl) HT2.out.drew).isr⟩)
                  go_wp2_with (go_at_call 17; (with_reducible refine HANK.out.mono ?_); rintro e wv ⟨rfl, hbv⟩; rw [show decide (AnsV.same ⟨A.err, .slice r1a A.rows.length r1c, A.rows, .slice t1a A.told.length t1c, A.told⟩ ⟨A2.err, .slice r2a A2.rows.length r2c, A2.rows, .slice t2a A2.told.length t2c, A2.told⟩) = true from decide_eq_true (by rw [HAE.out]; exact ⟨rfl, rfl, rfl⟩)]; have HBV := Lib.hid hbv; clear hbv)
                  have HSV := Lib.hid (show (fun y : World => At y nx [.int .i64 ak, .int .i64 at', .int .i64 af, .int .i64 an, .slice oa opl.length oc, .int .i64 sz, .int .i64 sl, .int .i64 ag, .int .i64 si, .int .i64 fd, .bool am, .int .i64 ti, .int .i64 ky, .int .i64 va', .int .u64 lb] ∧ At y g1 [.int .i64 A.err, .slice r1a A.rows.length r1c, .slice t1a A.told.length t1c] ∧ At y g2 [.int .i64 A2.err, .slice r2a A2.rows.length r2c, .slice t2a A2.told.length t2c]) wv from ⟨HSC.out.1.drew.below HBV.out, HSC.out.2.1.drew.below HBV.out, HSC.out.2.2.drew.below HBV.out⟩)
                  refine ⟨HSV.out, ?_⟩
                  iterate 8 (refine wpPl_take (v := ?_) (by rfl) (fun w' hS => ?_) ?_; rotate_left; (focus (go_simp; with_reducible rfl)); simp only [Act.put, List.setIfInBounds_toArray, List.set_cons_zero, List.set_cons_succ])
                  have HD0 := Lib.hid (((HTWc.out.duo).below (bel_draw (Below.refl _ wc))).below HBV.out)
                  have HRA := Lib.hid (duo_rows HD0.out (12 + 6 * i + 6) t (by omega) (by rw [HQA.out]; exact HQ.out.1) (by rw [HQA.out]; exact HQ.out.2) HOA1.out (by omega) (by have := HRL.out; omega))
                  refine wpPl_do (by rfl) (fun K hK => ?_)
                  go_wp2_with (go_at_call 19; (with_reducible refine HRA.out.mono ?_); rintro e wx ⟨vx, S5, rfl, hox, hdx, hd5, hi5, hm5⟩; have HOX := Lib.hid hox; have HDX := Lib.hid hdx; have HI5 := Lib.hid hi5; have HM5 := Lib.hid hm5; obtain ⟨xa, xc, rfl⟩ := own_shape2 hox; have HD5 := Lib.hid hd5; clear hox hdx hd5 hi5 hm5)
                  refine ⟨⟨HSC.out.1.mod HM5.out HNO.out.1, HSC.out.2.1.mod HM5.out HNO.out.2.1, HSC.out.2.2.mod HM5.out HNO.out.2.2⟩, ?_⟩
                  have HRB := Lib.hid (duo_rows HD5.out.swap (12 + 78 * i + 6 * j + 6) t (by omega) (by rw [HQB.out]; exact HQ.out.1) (by rw [HQB.out]; exact HQ.out.2) HOB1.out (by omega) (by rw [← HRE.out]; have := HRL.out; omega))
                  have hsc5 := HM5.out.size
                  have HNO5 := Lib.hid (show nx ∉ S5 ∧ g1 ∉ S5 ∧ g2 ∉ S5 from ⟨fun hh => (HI5.out _ hh).elim HNO.out.1 (fun h => by have := HSC.out.1.lt; omega), fun hh => (HI5.out _ hh).elim HNO.out.2.1 (fun h => by have := HSC.out.2.1.lt; omega), fun hh => (HI5.out _ hh).elim HNO.out.2.2 (fun h => by have := HSC.out.2.2.lt; omega)⟩)
                  refine wpPl_do (by rfl) (fun K hK => ?_)
                  go_wp2_with (go_at_call 19; (with_reducible refine HRB.out.mono ?_); rintro e wy ⟨vy, S6, rfl, hoy, hdy, hd6, hi6, hm6⟩; rw [← HRE.out] at hoy; have HOY := Lib.hid hoy; have HOX2 := Lib.hid (own_mod HOX.out hm6 HDX.out); have HM6 := Lib.hid hm6; obtain ⟨ya, yc, rfl⟩ := own_shape2 hoy; have HD6' := Lib.hid (Duo2.comp HM5.out HI5.out (Duo2.comp hm6 hi6 hd6.swap)); clear hoy hdy hd6 hi6 hm6)
                  have HS6y := Lib.hid (show (fun y : World => At y nx [.int .i64 ak, .int .i64 at', .int .i64 af, .int .i64 an, .slice oa opl.length oc, .int .i64 sz, .int .i64 sl, .int .i64 ag, .int .i64 si, .int .i64 fd, .bool am, .int .i64 ti, .int .i64 ky, .int .i64 va', .int .u64 lb] ∧ At y g1 [.int .i64 A.err, .slice r1a A.rows.length r1c, .slice t1a A.told.length t1c] ∧ At y g2 [.int .i64 A2.err, .slice r2a A2.rows.length r2c, .slice t2a A2.told.length t2c]) wy from ⟨(HSC.out.1.mod HM5.out HNO.out.1).mod HM6.out HNO5.out.1, (HSC.out.2.1.mod HM5.out HNO.out.2.1).mod HM6.out HNO5.out.2.1, (HSC.out.2.2.mod HM5.out HNO.out.2.2).mod HM6.out HNO5.out.2.2⟩)
                  refine ⟨HS6y.out, ?_⟩
                  refine wpPl_do (by rfl) (fun K hK => ?_)
                  go_wp2_with (go_at_call 18; (with_reducible refine (sameR _ _ (rowsV ca1 t) (rowsV ca1 t) _ (RdR.of_own (cs := RowV.cs) (k := 5) (fun _ => rfl) HOX2.out).isr (RdR.of_own (cs := RowV.cs) (k := 5) (fun _ => rfl) HOY.out).isr).mono ?_); rintro e wz ⟨rfl, hbz⟩; rw [show decide (rowsV ca1 t = rowsV ca1 t) = true from decide_eq_true rfl]; have HBZ := Lib.hid hbz; clear hbz)
                  refine ⟨⟨HS6y.out.1.below HBZ.out, HS6y.out.2.1.below HBZ.out, HS6y.out.2.2.below HBZ.out⟩, ?_⟩
                  iterate 2 (refine wpPl_take (v := ?_) (by rfl) (fun w' hS => ?_) ?_; rotate_left; (focus (go_simp; with_reducible rfl)); simp only [Act.put, List.setIfInBounds_toArray, List.set_cons_zero, List.set_cons_succ])
                  refine wpPl_done ?_
                  go_wp2_with fail
                  go_roundg (la.length - (i + 1))
                  case measure => omega
                  case rel => exact ⟨i + 1, ca1, cb1, by omega, rfl, by go_num, HSIM1.out, HOA1.out.wide (by omega) (by omega), HOB1.out.wide (by omega) (by omega), ⟨HQA.out, HQB.out⟩, Duo2.comp HM8.out HI8.out (Duo2.comp HM3.out HI3.out (Duo2.comp HMOc.out HINc.out (HD6'.out.below HBZ.out)))⟩
          · have e5 : decide (ak = 3 ∨ at' = (t : Int)) = false := decide_eq_false hB
            simp only [e5, Bool.not_false]
            clear hB e5
            apply_assumption
            go_wp2_with fail
            go_roundg (la.length - (i + 1))
            case measure => omega
            case rel => exact ⟨i + 1, ca, cb, by omega, rfl, by go_num, HSIM.out, HOA.out.wide (by omega) (by omega), HOB.out.wide (by omega) (by omega), HQQ.out, HT8.out.duo0 HI8.out HM8.out⟩
        · obtain rfl : i = la.length := by omega
          go_wp2_with (go_at_call 15; (with_reducible refine (awake_any _).mono ?_); rintro e w9 ⟨rfl, hb9⟩; have HB9 := Lib.hid hb9; clear hb9)
          go_ret
          have hm := HD.out.mod
          have h0 := below_step HBR.out HB7.out
          have h1 : Below W.heap.size W wr := hm.belowB h0 h0.size (fun x hx => (HSL.out x hx).2)
          exact ⟨rfl, below_step h1 HB9.out⟩
end Go.Proofs.YtcanfmabkklidaaGreat
set_option linter.unusedSimpArgs false
set_option linter.unusedVariables false
set_option linter.unnecessarySimpa false
namespace Go.Proofs.YtcanfmabkklidaaGreat
open Go.RowKit

set_option maxRecDepth 100000 in
theorem flood_walk (W : World) {base : Nat} (v0 : Value) (h0 : Value.okWide Tryz.prog W .any base 24 v0) (r0 : Rd Tryz.prog W 24 v0.cells.toList) (a1 : Option Addr) (len1 cap1 : Nat) (r1 : Rd Tryz.prog W 25 [.slice a1 len1 cap1]) (a2 : Int) (w2 : (Lit.int .i64 a2).wf = true) (a3 : Int) (w3 : (Lit.int .i64 a3).wf = true) :
    Calls Tryz.prog 4 #[v0, .slice a1 len1 cap1, .int .i64 a2, .int .i64 a3] W fun e w' => e = .returned (.bool true) ∧ Below W.heap.size W w' := by
  obtain ⟨kb, kr, kq, vs, ks, rfl, hks⟩ := setup_open h0 r0
  obtain ⟨l, _, hl, hlo⟩ := kacts_of r1
  exact flood_any W kb kr kq vs ks hks _ l hl hlo a2 a3
end Go.Proofs.YtcanfmabkklidaaGreat
