/- TopHidden: the walk. -/
import Derived.Test.YtcanfmabkklidaaGreatMb27
import Derived.Test.YtcanfmabkklidaaGreatMb28
import Derived.Test.YtcanfmabkklidaaGreatMb29
import Derived.Test.YtcanfmabkklidaaGreatMb31
set_option linter.unusedSimpArgs false
set_option linter.unusedVariables false
set_option linter.unnecessarySimpa false
namespace Go.Proofs.YtcanfmabkklidaaGreat
open Go.RowKit

def tickH : ActV := ⟨3, 0, 0, 0, ⟨.slice none 0 0, [], 0, 0, 0, 0, 0⟩, false, 0, 0, 0, 0⟩
theorem tickH_bd : ActBd7 tickH := ⟨by simp [tickH], by simp [tickH], by simp [tickH], by simp [tickH], fun h => by simp [tickH] at h⟩
theorem tickH_act (c : CoreV) : (c.act tickH.m).1 = c.tick := by simp [CoreV.act, ActV.m, tickH]
theorem bd7_R {x : ActV} (h : ActBd7 x) : ActR x.m := ⟨by have := h.t1; have := h.t2; show x.tenant.toNat ≤ 7; omega, fun hk => (h.pipe hk).m⟩
theorem duo_set : SetBd 4 8 50 [⟨3, 3, 2, 2, 4⟩] := ⟨by simp, by simp, by simp, by simp, by simp, by simp, by simp, fun s hs => by
  obtain rfl : s = ⟨3, 3, 2, 2, 4⟩ := by simpa using hs
  exact ⟨by simp, by simp, by simp, by simp, by simp, by simp, by simp, by simp, by simp, by simp⟩⟩
set_option maxHeartbeats 4000000 in
set_option maxRecDepth 100000 in
theorem hidden_any (W : World) (v0 : Value) (ks : List KSinkV) (hks : IsR KSinkV.cs 5 W v0 ks) (v1 v2 : Value) (l m : List InV) (hl : IsR InV.cs 4 W v1 l) (hm : IsR InV.cs 4 W v2 m) (tn : Int) :
    Calls Tryz.prog 5 #[v0, v1, v2, .int .i64 tn] W fun e w' => e = .returned (.bool true) ∧ Below W.heap.size W w' := by
  have HKS := Lib.hid (fun (w' : World) (hb : Below W.heap.size W w') => hks.kept hb)
  have HL := Lib.hid (fun (w' : World) (hb : Below W.heap.size W w') => hl.kept hb)
  have HM := Lib.hid (fun (w' : World) (hb : Below W.heap.size W w') => hm.kept hb)
  clear hks hl hm
  have bt := within_bd tn 0 7 (by omega)
  obtain ⟨t, ht⟩ : ∃ t : Nat, within tn 0 7 = (t : Int) := ⟨(within tn 0 7).toNat, by omega⟩
  rw [ht] at bt
  have HT := Lib.hid ht
  have ht7 : t ≤ 7 := by omega
  clear ht
  go_enter Tryz.func5, Tryz.ntmps5
  go_upto_if 29 with (first
    | (go_at_call 20; (with_reducible refine (duo_any _).mono ?_); rintro e w1 ⟨v, S, rfl, hr, hS, hb⟩; obtain ⟨da, dc, hv, _⟩ := id hr; simp only [List.length_cons, List.length_nil, Nat.zero_add] at hv; subst hv; have HR := Lib.hid hr; have HSn := Lib.hid hS; have HB1 := Lib.hid hb; clear hr hb hS)
    | (go_at_call 21; (with_reducible refine (sinks_any _ _ ks (HKS.out _ (bel_alloc HB1.out _))).mono ?_); rintro e w2 ⟨v2', r, rfl, ho, hlr, hbd, hb2⟩; have HO2 := Lib.hid ho; have HBD := Lib.hid hbd; have HB2 := Lib.hid (below_step (bel_alloc HB1.out _) hb2); have HR2 := Lib.hid (HR.out.same (fun x hx => (below_step (bel_alloc (Below.refl _ w1) _) hb2).block x (HR.out.lt x hx))); have A2 := (At.new w1 #[.int .i64 4, .int .i64 8, .int .i64 50, .slice da 1 dc] 28).below hb2; have HA2 := Lib.hid A2; have c3 := A2.c 3 _ rfl; have f3 := A2.f 3; have l2 := A2.lt; obtain ⟨ra, rc, rfl⟩ := own_shape2 ho; clear ho hlr hbd hb2 A2))
  go_cut [] (fun wx => ∃ (vs : Value) (s : SinkV) (Sv : List Nat), At wx w1.heap.size [.int .i64 4, .int .i64 8, .int .i64 50, vs] ∧ RdR SinkV.cs 5 wx vs [s] Sv ∧ SetBd 4 8 50 [s] ∧ Below W.heap.size W wx)
  case first =>
    cases r with
    | nil =>
      go_wp2_with fail
      go_meet
      case rel => exact ⟨.slice da 1 dc, ⟨3, 3, 2, 2, 4⟩, S, HA2.out, HR2.out, duo_set, HB2.out⟩
    | cons s r =>
      obtain ⟨g, cap, hg, hgge, hgl, hcap, hcap2, hcs⟩ := own_form HO2.out (by simp)
      simp only [Value.slice.injEq, true_and] at hg
      obtain ⟨rfl, rfl⟩ := hg
      have hcap3 : 1 ≤ rc := by simp at hcap; omega
      have hcp : rc ≤ 9223372036854775807 := by unfold maxLen at hcap2; omega
      have HCS := Lib.hid hcs
      clear hcs hcap hcap2
      have hd1 : decide (0 < (s :: r).length) = true := by simp
      have hd2 : 0 < (s :: r).length := by simp
      simp only [hd1]
      go_wp2_with fail
      go_meet
      case rel =>
        have hm3 := Mod.setCell w2 w1.heap.size 3 (.slice (some ⟨g, 0, none⟩) 1 rc)
        have hne : g ≠ w1.heap.size := by
          have h1 := HB1.out.size
          have h2 := hgge
          simp at h2
          omega
        refine ⟨.slice (some ⟨g, 0, none⟩) 1 rc, s, [g], HA2.out.set 3 _ (by simp), ⟨some ⟨g, 0, none⟩, rc, rfl, hcap3, by unfold maxLen; omega, .inr ⟨g, 0, rfl, rfl, by simp [World.setCell]; exact hgl, fun i x hi j u hj => ?_⟩⟩, ⟨by simp, by simp, by simp, by simp, by simp, by simp, by simp, fun x hx => ?_⟩, bel_set HB2.out HB1.out.size _⟩
        · match i, hi with
          | 0, hi =>
            obtain rfl : s = x := by simpa using hi
            rw [hm3.cell hgl (by simp; exact hne)]
            refine HCS.out _ u ?_
            have := flat_get (cs := SinkV.cs) (k := 5) (fun _ => rfl) (l := s :: r) (i := 0) (x := s) (j := j) (u := u) rfl hj
            simpa using this
        · obtain rfl : x = s := by simpa using hx
          exact HBD.out x (by simp)
  case rest =>
  obtain ⟨vs, s, Sv, hac, hrc, hset, hbc⟩ := hcut
  obtain ⟨va, vc, hv, _⟩ := id hrc
  simp only [List.length_cons, List.length_nil, Nat.zero_add] at hv
  subst hv
  have HAC := Lib.hid hac
  have HRC := Lib.hid hrc
  have HSET := Lib.hid hset
  have HBC := Lib.hid hbc
  have lac := hac.lt
  clear hac hrc hset hbc
  apply_assumption
  go_wp2_with (go_at_call 16; (with_reducible refine (within_any _ _ _ _ (by omega) (by omega) (by omega)).mono ?_); rintro e wd ⟨rfl, rfl⟩; rw [HT.out])
  refine wp_region_plB (fun w0 => At w0 w1.heap.size [.int .i64 4, .int .i64 8, .int .i64 50, .slice va 1 vc] ∧ At w0 wd.heap.size [.slice none 0 0, .int .i64 4, .int .i64 2, .int .i64 2, .int .i64 0, .int .i64 (-1)] ∧ RdR SinkV.cs 5 w0 (.slice va 1 vc) [s] Sv ∧ Below W.heap.size W w0) ?ph7 (.take 0 <| .take 2 <| .doo 1 <| .doo 3 <| .take 4 <| .take 5 <| .done) ?plL7 (by kernel_rfl) (by kernel_rfl) (by kernel_rfl) ?plH7 (by intro c a d v w; cases d <;> exact fun h => h) ?_
  case plH7 =>
    simp only [Pl.with, List.getElem?_toArray, List.getElem?_cons_zero, List.getElem?_cons_succ]
    try rfl
  case ph7 => exact ⟨HAC.out.alloc _, At.new wd _ _, HRC.out.same (fun x hx => (bel_alloc (Below.refl _ wd) _).block x (HRC.out.lt x hx)), bel_alloc HBC.out _⟩
  rintro w2' ⟨ha2, hp2, hr2, hb2⟩
  have HA2' := Lib.hid ha2
  have HP2 := Lib.hid hp2
  have HR2' := Lib.hid hr2
  have HB2' := Lib.hid hb2
  have lp2 := hp2.lt
  have q0 : ∀ x, Below w2'.heap.size w2' x → x.cell? ⟨w1.heap.size, 0, none⟩ = some (.int .i64 4) := fun x hx => (HA2'.out.below hx).c 0 _ rfl
  have q1 : ∀ x, Below w2'.heap.size w2' x → x.cell? ⟨w1.heap.size, 1, none⟩ = some (.int .i64 8) := fun x hx => (HA2'.out.below hx).c 1 _ rfl
  have q2 : ∀ x, Below w2'.heap.size w2' x → x.cell? ⟨w1.heap.size, 2, none⟩ = some (.int .i64 50) := fun x hx => (HA2'.out.below hx).c 2 _ rfl
  have q3 : ∀ x, Below w2'.heap.size w2' x → x.cell? ⟨w1.heap.size, 3, none⟩ = some (.slice va 1 vc) := fun x hx => (HA2'.out.below hx).c 3 _ rfl
  clear ha2 hp2 hr2 hb2
  iterate 2 (refine wpPl_take (v := ?_) (by rfl) (fun w' hS => ?_) ?_; rotate_left; (focus (go_simp; with_reducible rfl)); simp only [Act.put, List.setIfInBounds_toArray, List.set_cons_zero, List.set_cons_succ])
  clear q0 q1 q2 q3
  refine wpPl_do (by rfl) (fun K hK => ?_)
  go_wp2_with (go_at_call 10; (with_reducible refine (cnew10 _ [s] _ 4 8 50 _ (HR2'.out.same (w' := w2'.drew) (fun x hx => rfl)) HSET.out).mono ?_); rintro e w3 ⟨a, Fa, rfl, hc, hF, hb⟩; have HCA := Lib.hid hc; have HFA := Lib.hid hF; have HB3 := Lib.hid (below_step (bel_draw (Below.refl _ w2')) hb); clear hc hF hb)
  refine ⟨HB3.out, ?_⟩
  refine wpPl_do (by rfl) (fun K hK => ?_)
  go_wp2_with (go_at_call 10; (with_reducible refine (cnew10 _ [s] _ 4 8 50 _ (HR2'.out.same (w' := w3) (fun x hx => HB3.out.block x (HR2'.out.lt x hx))) HSET.out).mono ?_); rintro e w4 ⟨b, Fb, rfl, hc, hF, hb⟩; have HCB := Lib.hid hc; have HFB := Lib.hid hF; have HB4 := Lib.hid hb; clear hc hF hb)
  refine ⟨below_step HB3.out HB4.out, ?_⟩
  iterate 2 (refine wpPl_take (v := ?_) (by rfl) (fun w' hS => ?_) ?_; rotate_left; (focus (go_simp; with_reducible rfl)); simp only [Act.put, List.setIfInBounds_toArray, List.set_cons_zero, List.set_cons_succ])
  refine wpPl_done ?_
  have HB24 := Lib.hid (below_step HB2'.out (below_step HB3.out HB4.out))
  have HS0 := Lib.hid (show ∀ x ∈ Fa ++ Fb, x < w4.heap.size ∧ w2'.heap.size ≤ x from fun x hx => by
    have h3 := HB3.out.size
    have h4 := HB4.out.size
    rcases List.mem_append.1 hx with h | h
    · have h5 := HCA.out.lt x h
      have h6 := HFA.out x h
      simp at h6
      omega
    · have h5 := HCB.out.lt x h
      have h6 := HFB.out x h
      omega)
  have HTW := Lib.hid (show Two w4 a Fa (CoreV.new 4 8 50 [s]) b Fb (CoreV.new 4 8 50 [s]) from ⟨HCA.out.below HB4.out, HCB.out, fun z hz hh => by
    have h5 := HCA.out.lt z hz
    have h6 := HFB.out z hh
    omega⟩)
  have HNEW := Lib.hid (HidI.new 4 8 50 s t HSET.out (new_ok HSET.out))
  have HSB := Lib.hid (HSET.out.sinks s (by simp))
  go_wp2_with fail
  obtain ⟨w6, hw6⟩ : ∃ w6, w6 = w4.alloc (.cells #[.pointer (some ⟨a, 0, none⟩), .pointer (some ⟨b, 0, none⟩)] 30) := ⟨_, rfl⟩
  have HB46 := Lib.hid (show Below w4.heap.size w4 w6 by rw [hw6]; exact bel_alloc (Below.refl _ _) _)
  have HC6 := Lib.hid (show At w6 w4.heap.size [.pointer (some ⟨a, 0, none⟩), .pointer (some ⟨b, 0, none⟩)] by rw [hw6]; exact At.new w4 _ _)
  try rw [← hw6]
  have HS6 := Lib.hid (show ∀ x ∈ Fa ++ Fb, x < w4.heap.size ∧ w2'.heap.size ≤ x ∧ W.heap.size ≤ x from fun x hx => by
    have h1 := HS0.out x hx
    have h2 := HB2'.out.size
    omega)
  have HB06 := Lib.hid (below_step HB24.out HB46.out)
  have HD6 := Lib.hid (show Duo2 w6 (Fa ++ Fb) w6 a b (CoreV.new 4 8 50 [s]) (CoreV.new 4 8 50 [s]) from (HTW.out.below HB46.out).duo)
  have HP6 := Lib.hid (show At w6 wd.heap.size [.slice none 0 0, .int .i64 4, .int .i64 2, .int .i64 2, .int .i64 0, .int .i64 (-1)] from (HP2.out.below (below_step HB3.out HB4.out)).below HB46.out)
  have regA_bd : ActBd7 ⟨1, (t : Int), 0, 0, ⟨.slice none 0 0, [], 4, 2, 2, 0, -1⟩, false, 0, 0, 0, 0⟩ := ⟨by simp, by simp, by simp, by simp; omega, fun _ => ⟨by simp, by simp, by simp, by simp, by simp, by simp, by simp, by simp, by simp, by simp, by simp, by simp⟩⟩
  have offA_bd : ∀ {im : Bool} {it ik iv il : Int}, ActBd7 ⟨2, (t : Int), 0, 0, ⟨.slice none 0 0, [], 0, 0, 0, 0, 0⟩, im, it, ik, iv, il⟩ := ⟨by simp, by simp, by simp, by simp; omega, fun h => by simp at h⟩
  clear hw6
  go_loopg [50] 2 (fun g v50 wr => ∃ (k : Nat) (ca cb : CoreV), k ≤ 2 ∧ g = 2 - k ∧ v50 = .int .i64 k ∧ HidI s t ca (if 0 < k then 25 else 0) (1000 * k) ∧ HidI s t cb (if 1 < k then 25 else 0) (1000 * k) ∧ Duo2 w6 (Fa ++ Fb) wr a b ca cb)
  case atStart => exact ⟨0, _, _, by omega, by omega, rfl, HNEW.out, HNEW.out, HD6.out⟩
  case round =>
    obtain ⟨k, ca, cb, hk, rfl, rfl, hia, hib, hd⟩ := hrel
    have HD := Lib.hid hd
    have pp0 := (HP6.out.mod HD.out.mod (fun hh => by have := (HS6.out _ hh).2.1; omega))
    have p0 := pp0.c 0 _ rfl
    have p1 := pp0.c 1 _ rfl
    have p2 := pp0.c 2 _ rfl
    have p3 := pp0.c 3 _ rfl
    have p4 := pp0.c 4 _ rfl
    have p5 := pp0.c 5 _ rfl
    have qq0 := (HC6.out.mod HD.out.mod (fun hh => by have := (HS6.out _ hh).1; omega))
    have q0 := qq0.c 0 _ rfl
    have q1 := qq0.c 1 _ rfl
    clear hd pp0 qq0
    rcases (by omega : k = 0 ∨ k = 1 ∨ k = 2) with rfl | rfl | rfl
    · have HIA := Lib.hid hia
      have HIB := Lib.hid hib
      clear hia hib
      have HDR := Lib.hid (show Calls Tryz.prog 12 #[.pointer (some ⟨a, 0, none⟩), .slice (some ⟨wr.heap.size, 0, none⟩) 1 1] (wr.alloc (.cells #[.int .i64 1, .int .i64 t, .int .i64 0, .int .i64 0, .slice none 0 0, .int .i64 4, .int .i64 2, .int .i64 2, .int .i64 0, .int .i64 (-1), .bool false, .int .i64 0, .int .i64 0, .int .i64 0, .int .u64 0] 43)) _ from duo_do HD.out (1000 * 0) ⟨1, (t : Int), 0, 0, ⟨.slice none 0 0, [], 4, 2, 2, 0, -1⟩, false, 0, 0, 0, 0⟩ regA_bd [] (RdR.nil _ _ _) (by simp) HIA.out.q0 HIA.out.q1 HIA.out.ok (by omega))
      go_wp2_with (first
        | (go_at_call 12; (with_reducible refine HDR.out.mono ?_); rintro e w7 ⟨⟨v7, rfl⟩, hd7⟩; obtain ⟨Sa, Sb, htw7, hsa7, hsb7, hmm7⟩ := hd7; have HTW7 := Lib.hid htw7; have HSA7 := Lib.hid hsa7; have HSB7 := Lib.hid hsb7; have HMM7 := Lib.hid hmm7; have HBW7 := Lib.hid (show Below W.heap.size W w7 from hmm7.belowB HB06.out HB06.out.size (fun z hz => (HS6.out z hz).2.2)); clear htw7 hsa7 hsb7 hmm7)
        | (go_at_call 22; (with_reducible refine (inputs_any _ v1 l (HL.out _ HBW7.out)).mono ?_); rintro e w8 ⟨vi, ins, rfl, hoi, hli, hbi, hb8⟩; have HOI := Lib.hid hoi; have HB8 := Lib.hid hb8; obtain ⟨ia, ic, rfl⟩ := own_shape2 hoi; clear hoi hli hbi hb8))
      have HBI := Lib.hid HB8.out
      have HI7 := Lib.hid (HIA.out.act (ActV.m ⟨1, (t : Int), 0, 0, ⟨.slice none 0 0, [], 4, 2, 2, 0, -1⟩, false, 0, 0, 0, 0⟩) (.inl rfl) rfl (bd7_R regA_bd) (by omega))
      have HDI := Lib.hid (show Duo2 w8 (Sa ++ Sb) w8 a b _ _ from (HTW7.out.below HBI.out).duo)
      have hs7 : ∀ z ∈ Sa ++ Sb, z < w7.heap.size := fun z hz => by
        rcases List.mem_append.1 hz with h | h
        · exact HTW7.out.x.lt z h
        · exact HTW7.out.y.lt z h
      have HS7 := Lib.hid hs7
      have HIN := Lib.hid (show ∀ z ∈ (Value.slice ia ins.length ic).ownBlock.toList, z ∉ Sa ++ Sb from fun z hz hh => by
        have h1 := own_new HOI.out z hz
        have h2 := hs7 z hh
        have h3 := HB8.out.size
        omega)
      clear hs7
      go_loopg [18] 25 (fun g v18 wn => ∃ (n : Nat) (c' : CoreV), n ≤ 25 ∧ g = 25 - n ∧ v18 = .int .i64 n ∧ HidI s t c' n (1000 * 0 + 6 + 12 * n) ∧ Duo2 w8 (Sa ++ Sb) wn a b c' cb)
      case atStart => exact ⟨0, _, by omega, by omega, rfl, HI7.out.wide (by omega) (by omega), HDI.out⟩
      case round =>
        obtain ⟨n, c', hn, rfl, rfl, hi', hd'⟩ := hrel
        have HIn := Lib.hid hi'
        have HDn := Lib.hid hd'
        clear hi' hd'
        by_cases hnl : n < 25
        · go_upto_block 3 with fail
          apply wp_block
          (apply wp_seq_k; intro _ _)
          go_cut [] (fun wx => ∃ c'', HidI s t c'' n (1000 * 0 + 6 + 12 * n + 6) ∧ Duo2 w8 (Sa ++ Sb) wx a b c'' cb)
          case first =>
            by_cases hni : n < ins.length
            · obtain ⟨x, hx⟩ : ∃ x, ins[n]? = some x := ⟨ins[n], by simp [hni]⟩
              obtain ⟨ig, ic2, hig, _, higl, _, _, hics⟩ := own_form HOI.out (by omega)
              simp only [Value.slice.injEq, true_and] at hig
              obtain ⟨rfl, rfl⟩ := hig
              have HXC := Lib.hid (fun (jj : Nat) (u : Value) (hu : x.cs[jj]? = some u) => (HDn.out.mod.cell higl (HIN.out ig (by simp [Value.ownBlock]))).trans (hics (n * 5 + jj) u (flat_get (cs := InpV.cs) (k := 5) (fun _ => rfl) hx hu)))
              clear hics hx
              obtain ⟨im, it, ik, iv, il⟩ := x
              have x0 := HXC.out 0 _ rfl
              have x1 := HXC.out 1 _ rfl
              have x2 := HXC.out 2 _ rfl
              have x3 := HXC.out 3 _ rfl
              have x4 := HXC.out 4 _ rfl
              simp only [Nat.add_zero] at x0
              have HDO := Lib.hid (show Calls Tryz.prog 12 #[.pointer (some ⟨a, 0, none⟩), .slice (some ⟨wr.heap.size, 0, none⟩) 1 1] (wr.alloc (.cells #[.int .i64 2, .int .i64 t, .int .i64 0, .int .i64 0, .slice none 0 0, .int .i64 0, .int .i64 0, .int .i64 0, .int .i64 0, .int .i64 0, .bool im, .int .i64 it, .int .i64 ik, .int .i64 iv, .int .u64 il] 43)) _ from duo_do HDn.out (1000 * 0 + 6 + 12 * n) ⟨2, (t : Int), 0, 0, ⟨.slice none 0 0, [], 0, 0, 0, 0, 0⟩, im, it, ik, iv, il⟩ offA_bd [] (RdR.nil _ _ _) (by simp) HIn.out.q0 HIn.out.q1 HIn.out.ok (by omega))
              go_wp2_with (go_at_call 12; (with_reducible refine HDO.out.mono ?_); rintro e wo ⟨⟨vo, rfl⟩, hd⟩; have HDo := Lib.hid hd; clear hd)
              go_meet
              case rel => exact ⟨_, HIn.out.act _ (.inr rfl) rfl (bd7_R offA_bd) (by omega), HDo.out⟩
            · go_wp2_with fail
              go_meet
              case rel => exact ⟨c', HIn.out.wide (by omega) (by omega), HDn.out⟩
          case rest =>
          obtain ⟨c'', hi'', hd''⟩ := hcut
          have HIc := Lib.hid hi''
          have HDT := Lib.hid (show Calls Tryz.prog 12 #[.pointer (some ⟨a, 0, none⟩), .slice (some ⟨wc.heap.size, 0, none⟩) 1 1] (wc.alloc (.cells #[.int .i64 3, .int .i64 0, .int .i64 0, .int .i64 0, .slice none 0 0, .int .i64 0, .int .i64 0, .int .i64 0, .int .i64 0, .int .i64 0, .bool false, .int .i64 0, .int .i64 0, .int .i64 0, .int .u64 0] 43)) _ from duo_do hd'' (1000 * 0 + 6 + 12 * n + 6) tickH tickH_bd [] (RdR.nil _ _ _) (by simp) HIc.out.q0 HIc.out.q1 HIc.out.ok (by omega))
          clear hi'' hd''
          apply_assumption
          go_wp2_with (go_at_call 12; (with_reducible refine HDT.out.mono ?_); rintro e wo ⟨⟨vo, rfl⟩, hd⟩; have HDo := Lib.hid hd; clear hd)
          go_roundg (25 - (n + 1))
          case measure => omega
          case rel => exact ⟨n + 1, _, by omega, rfl, by go_num, (by rw [tickH_act]; exact (HIc.out.tick ht7 HSB.out (by omega)).wide (by omega) (by omega)), HDo.out⟩
        · obtain rfl : n = 25 := by omega
          go_wp2_with fail
          go_roundg (2 - (0 + 1))
          case measure => omega
          case rel =>
            have hfin := Duo2.comp HMM7.out (show Into (Sa ++ Sb) (Fa ++ Fb) w6.heap.size from fun z hz => by
              rcases List.mem_append.1 hz with h | h
              · exact HSA7.out z h
              · exact HSB7.out z h) (Duo2.comp (Mod.of_below HBI.out (Sa ++ Sb)) (Into.refl _ _) HDn.out)
            refine ⟨0 + 1, c', cb, by omega, by omega, by rfl, HIn.out.wide (by omega) (by omega), HIB.out.wide (by omega) (by omega), hfin⟩
    · have HIA := Lib.hid hia
      have HIB := Lib.hid hib
      clear hia hib
      have HDR := Lib.hid (show Calls Tryz.prog 12 #[.pointer (some ⟨b, 0, none⟩), .slice (some ⟨wr.heap.size, 0, none⟩) 1 1] (wr.alloc (.cells #[.int .i64 1, .int .i64 t, .int .i64 0, .int .i64 0, .slice none 0 0, .int .i64 4, .int .i64 2, .int .i64 2, .int .i64 0, .int .i64 (-1), .bool false, .int .i64 0, .int .i64 0, .int .i64 0, .int .u64 0] 43)) _ from duo_do HD.out.swap (1000 * 1) ⟨1, (t : Int), 0, 0, ⟨.slice none 0 0, [], 4, 2, 2, 0, -1⟩, false, 0, 0, 0, 0⟩ regA_bd [] (RdR.nil _ _ _) (by simp) HIB.out.q0 HIB.out.q1 HIB.out.ok (by omega))
      go_wp2_with (first
        | (go_at_call 12; (with_reducible refine HDR.out.mono ?_); rintro e w7 ⟨⟨v7, rfl⟩, hd7⟩; obtain ⟨Sa, Sb, htw7, hsa7, hsb7, hmm7⟩ := hd7; have HTW7 := Lib.hid htw7; have HSA7 := Lib.hid hsa7; have HSB7 := Lib.hid hsb7; have HMM7 := Lib.hid hmm7; have HBW7 := Lib.hid (show Below W.heap.size W w7 from hmm7.belowB HB06.out HB06.out.size (fun z hz => (HS6.out z hz).2.2)); clear htw7 hsa7 hsb7 hmm7)
        | (go_at_call 22; (with_reducible refine (inputs_any _ v1 l (HL.out _ HBW7.out)).mono ?_); rintro e w8 ⟨vj, jns, rfl, hoj, hlj, hbj, hb8⟩; have HB8 := Lib.hid hb8; obtain ⟨ja, jc, rfl⟩ := own_shape2 hoj; clear hoj hlj hbj hb8)
        | (go_at_call 22; (with_reducible refine (inputs_any _ v2 m (HM.out _ (below_step HBW7.out HB8.out))).mono ?_); rintro e w9 ⟨vi, ins, rfl, hoi, hli, hbi, hb9⟩; have HOI := Lib.hid hoi; have HB9 := Lib.hid hb9; obtain ⟨ia, ic, rfl⟩ := own_shape2 hoi; clear hoi hli hbi hb9))
      have HBI := Lib.hid (below_step HB8.out HB9.out)
      have HI7 := Lib.hid (HIB.out.act (ActV.m ⟨1, (t : Int), 0, 0, ⟨.slice none 0 0, [], 4, 2, 2, 0, -1⟩, false, 0, 0, 0, 0⟩) (.inl rfl) rfl (bd7_R regA_bd) (by omega))
      have HDI := Lib.hid (show Duo2 w9 (Sa ++ Sb) w9 b a _ _ from (HTW7.out.below HBI.out).duo)
      have hs7 : ∀ z ∈ Sa ++ Sb, z < w7.heap.size := fun z hz => by
        rcases List.mem_append.1 hz with h | h
        · exact HTW7.out.x.lt z h
        · exact HTW7.out.y.lt z h
      have HS7 := Lib.hid hs7
      have HIN := Lib.hid (show ∀ z ∈ (Value.slice ia ins.length ic).ownBlock.toList, z ∉ Sa ++ Sb from fun z hz hh => by
        have h1 := own_new HOI.out z hz
        have h2 := hs7 z hh
        have h3 := HB8.out.size
        omega)
      clear hs7
      go_loopg [18] 25 (fun g v18 wn => ∃ (n : Nat) (c' : CoreV), n ≤ 25 ∧ g = 25 - n ∧ v18 = .int .i64 n ∧ HidI s t c' n (1000 * 1 + 6 + 12 * n) ∧ Duo2 w9 (Sa ++ Sb) wn b a c' ca)
      case atStart => exact ⟨0, _, by omega, by omega, rfl, HI7.out.wide (by omega) (by omega), HDI.out⟩
      case round =>
        obtain ⟨n, c', hn, rfl, rfl, hi', hd'⟩ := hrel
        have HIn := Lib.hid hi'
        have HDn := Lib.hid hd'
        clear hi' hd'
        by_cases hnl : n < 25
        · go_upto_block 3 with fail
          apply wp_block
          (apply wp_seq_k; intro _ _)
          go_cut [] (fun wx => ∃ c'', HidI s t c'' n (1000 * 1 + 6 + 12 * n + 6) ∧ Duo2 w9 (Sa ++ Sb) wx b a c'' ca)
          case first =>
            by_cases hni : n < ins.length
            · obtain ⟨x, hx⟩ : ∃ x, ins[n]? = some x := ⟨ins[n], by simp [hni]⟩
              obtain ⟨ig, ic2, hig, _, higl, _, _, hics⟩ := own_form HOI.out (by omega)
              simp only [Value.slice.injEq, true_and] at hig
              obtain ⟨rfl, rfl⟩ := hig
              have HXC := Lib.hid (fun (jj : Nat) (u : Value) (hu : x.cs[jj]? = some u) => (HDn.out.mod.cell higl (HIN.out ig (by simp [Value.ownBlock]))).trans (hics (n * 5 + jj) u (flat_get (cs := InpV.cs) (k := 5) (fun _ => rfl) hx hu)))
              clear hics hx
              obtain ⟨im, it, ik, iv, il⟩ := x
              have x0 := HXC.out 0 _ rfl
              have x1 := HXC.out 1 _ rfl
              have x2 := HXC.out 2 _ rfl
              have x3 := HXC.out 3 _ rfl
              have x4 := HXC.out 4 _ rfl
              simp only [Nat.add_zero] at x0
              have HDO := Lib.hid (show Calls Tryz.prog 12 #[.pointer (some ⟨b, 0, none⟩), .slice (some ⟨wr.heap.size, 0, none⟩) 1 1] (wr.alloc (.cells #[.int .i64 2, .int .i64 t, .int .i64 0, .int .i64 0, .slice none 0 0, .int .i64 0, .int .i64 0, .int .i64 0, .int .i64 0, .int .i64 0, .bool im, .int .i64 it, .int .i64 ik, .int .i64 iv, .int .u64 il] 43)) _ from duo_do HDn.out (1000 * 1 + 6 + 12 * n) ⟨2, (t : Int), 0, 0, ⟨.slice none 0 0, [], 0, 0, 0, 0, 0⟩, im, it, ik, iv, il⟩ offA_bd [] (RdR.nil _ _ _) (by simp) HIn.out.q0 HIn.out.q1 HIn.out.ok (by omega))
              go_wp2_with (go_at_call 12; (with_reducible refine HDO.out.mono ?_); rintro e wo ⟨⟨vo, rfl⟩, hd⟩; have HDo := Lib.hid hd; clear hd)
              go_meet
              case rel => exact ⟨_, HIn.out.act _ (.inr rfl) rfl (bd7_R offA_bd) (by omega), HDo.out⟩
            · go_wp2_with fail
              go_meet
              case rel => exact ⟨c', HIn.out.wide (by omega) (by omega), HDn.out⟩
          case rest =>
          obtain ⟨c'', hi'', hd''⟩ := hcut
          have HIc := Lib.hid hi''
          have HDT := Lib.hid (show Calls Tryz.prog 12 #[.pointer (some ⟨b, 0, none⟩), .slice (some ⟨wc.heap.size, 0, none⟩) 1 1] (wc.alloc (.cells #[.int .i64 3, .int .i64 0, .int .i64 0, .int .i64 0, .slice none 0 0, .int .i64 0, .int .i64 0, .int .i64 0, .int .i64 0, .int .i64 0, .bool false, .int .i64 0, .int .i64 0, .int .i64 0, .int .u64 0] 43)) _ from duo_do hd'' (1000 * 1 + 6 + 12 * n + 6) tickH tickH_bd [] (RdR.nil _ _ _) (by simp) HIc.out.q0 HIc.out.q1 HIc.out.ok (by omega))
          clear hi'' hd''
          apply_assumption
          go_wp2_with (go_at_call 12; (with_reducible refine HDT.out.mono ?_); rintro e wo ⟨⟨vo, rfl⟩, hd⟩; have HDo := Lib.hid hd; clear hd)
          go_roundg (25 - (n + 1))
          case measure => omega
          case rel => exact ⟨n + 1, _, by omega, rfl, by go_num, (by rw [tickH_act]; exact (HIc.out.tick ht7 HSB.out (by omega)).wide (by omega) (by omega)), HDo.out⟩
        · obtain rfl : n = 25 := by omega
          go_wp2_with fail
          go_roundg (2 - (1 + 1))
          case measure => omega
          case rel =>
            have hfin := Duo2.comp HMM7.out (show Into (Sa ++ Sb) (Fa ++ Fb) w6.heap.size from fun z hz => by
              rcases List.mem_append.1 hz with h | h
              · exact HSA7.out z h
              · exact HSB7.out z h) (Duo2.comp (Mod.of_below HBI.out (Sa ++ Sb)) (Into.refl _ _) HDn.out)
            refine ⟨1 + 1, ca, c', by omega, by omega, by rfl, HIA.out.wide (by omega) (by omega), HIn.out.wide (by omega) (by omega), hfin.swap⟩
    · have HIA := Lib.hid hia
      have HIB := Lib.hid hib
      clear hia hib
      go_wp2_with fail
      go_loopg [89] 8 (fun g v89 wr => ∃ u : Nat, u ≤ 8 ∧ g = 8 - u ∧ v89 = .int .i64 u ∧ Duo2 w6 (Fa ++ Fb) wr a b ca cb)
      case atStart => exact ⟨0, by omega, by omega, rfl, HD.out⟩
      case round =>
        obtain ⟨u, hu, rfl, rfl, hdt⟩ := hrel
        have HDt := Lib.hid hdt
        clear hdt
        by_cases hul : u < 8
        · obtain ⟨X, hX⟩ : ∃ X, X = ca.board u := ⟨_, rfl⟩
          have kx := HIA.out.tm.b u (by omega)
          have ky := HIB.out.tm.b u (by omega)
          have hx25 : X.length ≤ 25 := by
            have h1 := congrArg List.length kx
            rw [List.length_map, ← hX] at h1
            have h2 := keysT_len [s] (by simp) HSET.out.sinks u 25
            have h3 := (wantM_bd [s] HSET.out.sinks u 25 1 (by simp)).2
            have h4 : X.length = (keysT [s] u 25).length := h1
            have h5 : ((keysT [s] u 25).length : Int) = wantM [s] u 25 1 := h2
            omega
          have hxy : cb.board u = X := by
            rw [hX]
            exact hid_eq (ky.trans kx.symm) (HIB.out.hid u) (HIA.out.hid u)
          have HXY := Lib.hid hxy
          have HXE := Lib.hid hX
          have HZX := Lib.hid (show ∀ r ∈ X, r.hidden = true ∧ r.value = 0 from by rw [hX]; exact HIA.out.hid u)
          have HTO := Lib.hid (duo_told HDt.out (1000 * 2) u (by omega) HIA.out.q0 HIA.out.q1 HIA.out.ok (by omega) (by rw [← hX]; omega))
          have HY60 := Lib.hid (show (cb.board u).length ≤ 640 by rw [hxy]; omega)
          clear kx ky hX hxy
          go_wp2_with (first
            | (go_at_call 13; (with_reducible refine HTO.out.mono ?_); rintro e w9 ⟨vx, S1, rfl, hox, hdx, hd9, hi9, hm9⟩; rw [← HXE.out] at hox; have HOX := Lib.hid hox; have HDX := Lib.hid hdx; have HI9 := Lib.hid hi9; have HM9 := Lib.hid hm9; obtain ⟨xa, xc, rfl⟩ := own_shape2 hox; have HTP := Lib.hid (duo_told hd9.swap (1000 * 2) u (by omega) HIB.out.q0 HIB.out.q1 HIB.out.ok (by omega) HY60.out); clear hox hdx hd9 hi9 hm9)
            | (go_at_call 13; (with_reducible refine HTP.out.mono ?_); rintro e w10 ⟨vy, S2, rfl, hoy, hdy, hd10, hi10, hm10⟩; rw [HXY.out] at hoy; have HOY := Lib.hid hoy; have HOX2 := Lib.hid (own_mod HOX.out hm10 HDX.out); have HD10 := Lib.hid (Duo2.comp HM9.out HI9.out (Duo2.comp hm10 hi10 hd10.swap)); obtain ⟨ya, yc, rfl⟩ := own_shape2 hoy; clear hoy hdy hd10 hi10 hm10)
            | (go_at_call 23; (with_reducible refine (sameL _ _ X X _ (RdR.of_own (cs := RelV.cs) (k := 4) (fun _ => rfl) HOX2.out).isr (RdR.of_own (cs := RelV.cs) (k := 4) (fun _ => rfl) HOY.out).isr).mono ?_); rintro e w11 ⟨rfl, hb11⟩; rw [show decide (X = X) = true from decide_eq_true rfl]; have HB11 := Lib.hid hb11; clear hb11))
          go_loopg [104] X.length (fun g v104 wr => ∃ n : Nat, n ≤ X.length ∧ g = X.length - n ∧ v104 = .int .i64 n ∧ Below w10.heap.size w10 wr)
          case atStart => exact ⟨0, by omega, by omega, rfl, HB11.out⟩
          case round =>
            obtain ⟨n, hn, rfl, rfl, hbn⟩ := hrel
            have HBN := Lib.hid hbn
            clear hbn
            by_cases hnl : n < X.length
            · obtain ⟨x, hx⟩ : ∃ x, X[n]? = some x := ⟨X[n], by simp [hnl]⟩
              have hzx := HZX.out x (List.mem_of_getElem? hx)
              obtain ⟨xg, xc2, hxg, _, hxgl, _, _, hxcs⟩ := own_form HOX2.out (by omega)
              simp only [Value.slice.injEq, true_and] at hxg
              obtain ⟨rfl, rfl⟩ := hxg
              have HXC := Lib.hid (fun (jj : Nat) (u : Value) (hu : x.cs[jj]? = some u) => (HBN.out.cell (p := ⟨xg, n * 4 + jj, none⟩) hxgl).trans (hxcs (n * 4 + jj) u (flat_get (cs := RelV.cs) (k := 4) (fun _ => rfl) hx hu)))
              clear hxcs hx
              obtain ⟨x1, x2, x3, x4⟩ := x
              simp only at hzx
              obtain ⟨rfl, rfl⟩ := hzx
              have c0 := HXC.out 0 _ rfl
              have c1 := HXC.out 1 _ rfl
              have c2 := HXC.out 2 _ rfl
              have c3 := HXC.out 3 _ rfl
              simp only [Nat.add_zero] at c0
              go_wp2_with fail
              go_roundg (X.length - (n + 1))
              case measure => omega
              case rel => exact ⟨n + 1, by omega, rfl, by go_num, bel_alloc HBN.out _⟩
            · obtain rfl : n = X.length := by omega
              go_wp2_with fail
              go_roundg (8 - (u + 1))
              case measure => omega
              case rel => exact ⟨u + 1, by omega, rfl, by go_num, HD10.out.below HBN.out⟩
        · obtain rfl : u = 8 := by omega
          go_wp2_with (go_at_call 15; (with_reducible refine (awake_any _).mono ?_); rintro e w9 ⟨rfl, hb9⟩; have HB9 := Lib.hid hb9; clear hb9)
          go_ret
          have hm := HDt.out.mod
          have h1 : Below W.heap.size W wr := hm.belowB HB06.out HB06.out.size (fun x hx => (HS6.out x hx).2.2)
          exact ⟨rfl, below_step h1 HB9.out⟩
end Go.Proofs.YtcanfmabkklidaaGreat
set_option linter.unusedSimpArgs false
set_option linter.unusedVariables false
set_option linter.unnecessarySimpa false
namespace Go.Proofs.YtcanfmabkklidaaGreat
open Go.RowKit

set_option maxRecDepth 100000 in
theorem hidden_walk (W : World) (a0 : Option Addr) (len0 cap0 : Nat) (r0 : Rd Tryz.prog W 22 [.slice a0 len0 cap0]) (a1 : Option Addr) (len1 cap1 : Nat) (r1 : Rd Tryz.prog W 67 [.slice a1 len1 cap1]) (a2 : Option Addr) (len2 cap2 : Nat) (r2 : Rd Tryz.prog W 67 [.slice a2 len2 cap2]) (a3 : Int) (w3 : (Lit.int .i64 a3).wf = true) :
    Calls Tryz.prog 5 #[.slice a0 len0 cap0, .slice a1 len1 cap1, .slice a2 len2 cap2, .int .i64 a3] W fun e w' => e = .returned (.bool true) ∧ Below W.heap.size W w' := by
  obtain ⟨ks, _, hks⟩ := ksinks_of r0
  obtain ⟨l, _, hl⟩ := kins_of r1
  obtain ⟨m, _, hm⟩ := kins_of r2
  exact hidden_any W _ ks hks _ _ l m hl hm a3
end Go.Proofs.YtcanfmabkklidaaGreat
