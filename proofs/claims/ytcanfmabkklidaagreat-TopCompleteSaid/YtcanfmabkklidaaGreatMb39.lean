/- TopComplete: the walk. -/
import Derived.Test.YtcanfmabkklidaaGreatMb29
import Derived.Test.YtcanfmabkklidaaGreatMb30
import Derived.Test.YtcanfmabkklidaaGreatMb36
import Derived.Test.YtcanfmabkklidaaGreatMb38
import Derived.Test.YtcanfmabkklidaaGreatMb32
set_option linter.unusedSimpArgs false
set_option linter.unusedVariables false
set_option linter.unnecessarySimpa false
namespace Go.Proofs.YtcanfmabkklidaaGreat
open Go.RowKit

/-- a core, its blocks told from a world on, and a row beside it -/
structure Bes (w0 : World) (S0 : List Nat) (w : World) (a : Nat) (c : CoreV) (v : Value) : Prop where
  h : ∃ S, CoreAt w a S c ∧ Into S S0 w0.heap.size ∧ (∀ z ∈ v.ownBlock.toList, z ∉ S)
  m : Mod S0 w0 w
theorem Bes.one {w0 : World} {S0 : List Nat} {w : World} {a : Nat} {c : CoreV} {v : Value} (h : Bes w0 S0 w a c v) : One w0 S0 w a c := by
  obtain ⟨S, h1, h2, _⟩ := h.h
  exact ⟨S, h1, h2, h.m⟩
theorem s1_bd {W w3 w4 : World} {Fc S1 S1' : List Nat} {n : Nat} (hc : ∀ z ∈ S1', z < w4.heap.size) (hi1 : Into S1' S1 w4.heap.size) (hin : Into S1 Fc w3.heap.size) (hF : ∀ z ∈ Fc, W.heap.size ≤ z ∧ n ≤ z) (h1 : W.heap.size ≤ w3.heap.size) (h2 : n ≤ w3.heap.size) (h3 : w3.heap.size ≤ w4.heap.size) :
    ∀ z ∈ S1', z < w4.heap.size ∧ W.heap.size ≤ z ∧ n ≤ z := fun z hz => ⟨hc z hz, by
  rcases hi1 z hz with h | h
  · rcases hin z h with h' | h'
    · exact hF z h'
    · omega
  · omega⟩
/-- one act at a core, a row kept beside it -/
theorem bes_one {w0 : World} {S0 : List Nat} {w : World} {a : Nat} {c : CoreV} {v : Value} (h : Bes w0 S0 w a c v) (N : Nat) (x : ActV) (hx : ActBd7 x) (So : List Nat) (hop : RdR OpV.cs 2 w0 x.pipe.ops x.pipe.ol So) (hSo : ∀ y ∈ So, y ∉ S0) (hq0 : 0 ≤ c.quota) (hq1 : c.quota ≤ 1000) (ok : CoreOk c N) (hN : N + 6 ≤ 100000)
    {base : Nat} {e0 : TypeId} {k n : Nat} {xs : List Value} (ho : w.ownsRow base e0 k v n xs) (nx : Array Value) (ex : TypeId) :
    Calls Tryz.prog 12 #[.pointer (some ⟨a, 0, none⟩), .slice (some ⟨w.heap.size + 1, 0, none⟩) 1 1] ((w.alloc (.cells nx ex)).alloc (.cells x.cs.toArray 43)) fun e w' => ∃ g cap vr vt, e = .returned (.slice (some ⟨g, 0, none⟩) 1 cap) ∧ 1 ≤ cap ∧ At w' g [.int .i64 (c.act x.m).2.err, vr, vt] ∧ Bes w0 S0 w' a (c.act x.m).1 v ∧ w'.ownsRow base e0 k v n xs ∧ At w' w.heap.size nx.toList ∧ w.heap.size + 2 ≤ w'.heap.size := by
  obtain ⟨S, h1, h2, h3⟩ := h.h
  have hal := acts_lit (w.alloc (.cells nx ex)) [x] S (fun z hz => by have := h1.lt z hz; simp; omega) (by simp) (by simp) (fun y hy => by
    obtain rfl : y = x := by simpa using hy
    refine ⟨hx, So, hop.same (fun z hz => (h.m.new _).block z (hop.lt z hz) (hSo z hz)), fun z hz hh => ?_⟩
    rcases h2 z hh with h5 | h5
    · exact hSo z hz h5
    · have := hop.lt z hz
      omega)
  simp only [List.flatMap_cons, List.flatMap_nil, List.append_nil, List.length_cons, List.length_nil, Nat.zero_add] at hal
  rw [show (w.alloc (.cells nx ex)).heap.size = w.heap.size + 1 by simp] at hal
  have e1 : (c.acts ([x].map ActV.m)).1 = (c.act x.m).1 := by simp [CoreV.acts]
  have e2 : (c.acts ([x].map ActV.m)).2 = [(c.act x.m).2] := by simp [CoreV.acts]
  refine (dos_at a S c N _ [x] hq0 hq1 _ (h1.below (bel_alloc (bel_alloc (Below.refl _ _) _) _)) hal ok (by simpa using hN)).mono ?_
  rintro e w' hdo
  obtain ⟨g, cap, ra, rc, ta, tc, S2, rfl, hg1, hg2, hc1, hc2, k0, k1, k2, hr, ht, hc, hi, hm, hd1, hd2, hd3⟩ := hdo.one e2
  rw [e1] at hc
  obtain ⟨⟨v1, L, S9, he9, ho9, _⟩, _⟩ := hdo
  have hat : At w' g [.int .i64 (c.act x.m).2.err, .slice ra (c.act x.m).2.rows.length rc, .slice ta (c.act x.m).2.told.length tc] := by
    have hv : v1 = .slice (some ⟨g, 0, none⟩) 1 cap := by
      simp only [Ending.returned.injEq] at he9
      exact he9.symm
    have hr := At.of_row ho9 (g := g) (by rw [hv]; rfl)
    refine ⟨fun j u hj => ?_, hr.f, hr.lt⟩
    match j, hj with
    | 0, hj => simp at hj; rw [← hj]; exact k0
    | 1, hj => simp at hj; rw [← hj]; exact k1
    | 2, hj => simp at hj; rw [← hj]; exact k2
  have hsz : ((w.alloc (.cells nx ex)).alloc (.cells x.cs.toArray 43)).heap.size = w.heap.size + 2 := by simp
  have hms := hm.size
  refine ⟨g, cap, _, _, rfl, hc1, hat, ⟨⟨S2, hc, fun z hz => ?_, fun z hz hh => ?_⟩, ((h.m.new _).new _).trans hm h2⟩, own_mod ((ho.alloc _).alloc _) hm h3, ((At.new w nx ex).alloc _).mod hm (fun hh => by have := h1.lt _ hh; omega), by omega⟩
  · rcases hi z hz with h4 | h4
    · exact h2 z h4
    · exact .inr (by have := h.m.size; omega)
  · rcases hi z hh with h4 | h4
    · exact h3 z hz h4
    · have := own_lt ho z hz
      omega
/-- one act at a core, a row kept beside it -/
theorem bes_tick {w0 : World} {S0 : List Nat} {w : World} {a : Nat} {c : CoreV} {v : Value} (h : Bes w0 S0 w a c v) (N : Nat) (x : ActV) (hx : ActBd7 x) (So : List Nat) (hop : RdR OpV.cs 2 w0 x.pipe.ops x.pipe.ol So) (hSo : ∀ y ∈ So, y ∉ S0) (hq0 : 0 ≤ c.quota) (hq1 : c.quota ≤ 1000) (ok : CoreOk c N) (hN : N + 6 ≤ 100000)
    {base : Nat} {e0 : TypeId} {k n : Nat} {xs : List Value} (ho : w.ownsRow base e0 k v n xs) :
    Calls Tryz.prog 12 #[.pointer (some ⟨a, 0, none⟩), .slice (some ⟨w.heap.size, 0, none⟩) 1 1] (w.alloc (.cells x.cs.toArray 43)) fun e w' => ∃ g cap vr vt, e = .returned (.slice (some ⟨g, 0, none⟩) 1 cap) ∧ 1 ≤ cap ∧ At w' g [.int .i64 (c.act x.m).2.err, vr, vt] ∧ Bes w0 S0 w' a (c.act x.m).1 v ∧ w'.ownsRow base e0 k v n xs ∧ w.heap.size + 1 ≤ w'.heap.size := by
  obtain ⟨S, h1, h2, h3⟩ := h.h
  have hal := acts_lit w [x] S h1.lt (by simp) (by simp) (fun y hy => by
    obtain rfl : y = x := by simpa using hy
    refine ⟨hx, So, hop.same (fun z hz => h.m.block z (hop.lt z hz) (hSo z hz)), fun z hz hh => ?_⟩
    rcases h2 z hh with h5 | h5
    · exact hSo z hz h5
    · have := hop.lt z hz
      omega)
  simp only [List.flatMap_cons, List.flatMap_nil, List.append_nil, List.length_cons, List.length_nil, Nat.zero_add] at hal
  have e1 : (c.acts ([x].map ActV.m)).1 = (c.act x.m).1 := by simp [CoreV.acts]
  have e2 : (c.acts ([x].map ActV.m)).2 = [(c.act x.m).2] := by simp [CoreV.acts]
  refine (dos_at a S c N _ [x] hq0 hq1 _ (h1.below (bel_alloc (Below.refl _ _) _)) hal ok (by simpa using hN)).mono ?_
  rintro e w' hdo
  obtain ⟨g, cap, ra, rc, ta, tc, S2, rfl, hg1, hg2, hc1, hc2, k0, k1, k2, hr, ht, hc, hi, hm, hd1, hd2, hd3⟩ := hdo.one e2
  rw [e1] at hc
  obtain ⟨⟨v1, L, S9, he9, ho9, _⟩, _⟩ := hdo
  have hat : At w' g [.int .i64 (c.act x.m).2.err, .slice ra (c.act x.m).2.rows.length rc, .slice ta (c.act x.m).2.told.length tc] := by
    have hv : v1 = .slice (some ⟨g, 0, none⟩) 1 cap := by
      simp only [Ending.returned.injEq] at he9
      exact he9.symm
    have hr := At.of_row ho9 (g := g) (by rw [hv]; rfl)
    refine ⟨fun j u hj => ?_, hr.f, hr.lt⟩
    match j, hj with
    | 0, hj => simp at hj; rw [← hj]; exact k0
    | 1, hj => simp at hj; rw [← hj]; exact k1
    | 2, hj => simp at hj; rw [← hj]; exact k2
  have hsz : (w.alloc (.cells x.cs.toArray 43)).heap.size = w.heap.size + 1 := by simp
  have hms := hm.size
  refine ⟨g, cap, _, _, rfl, hc1, hat, ⟨⟨S2, hc, fun z hz => ?_, fun z hz hh => ?_⟩, (h.m.new _).trans hm h2⟩, own_mod (ho.alloc _) hm h3, by omega⟩
  · rcases hi z hz with h4 | h4
    · exact h2 z h4
    · exact .inr (by have := h.m.size; omega)
  · rcases hi z hh with h4 | h4
    · exact h3 z hz h4
    · have := own_lt ho z hz
      omega
theorem Bes.new {w0 : World} {S0 : List Nat} {w : World} {a : Nat} {c : CoreV} {v : Value} (h : Bes w0 S0 w a c v) (o : Obj) : Bes w0 S0 (w.alloc o) a c v := by
  obtain ⟨S, h1, h2, h3⟩ := h.h
  exact ⟨⟨S, h1.below (bel_alloc (Below.refl _ _) _), h2, h3⟩, h.m.new _⟩
/-- the row grown by one -/
theorem Bes.grow {w0 : World} {S0 : List Nat} {w w' : World} {a : Nat} {c : CoreV} {v v' : Value} (h : Bes w0 S0 w a c v) {base : Nat} {e0 : TypeId} {k n : Nat} {xs : List Value} (ho : w.ownsRow base e0 k v n xs) (hb : w0.heap.size ≤ base) (hg : w.grownBy w' v.ownBlock) (hat : v'.ownBlock = v.ownBlock ∨ v'.ownBlock = some w.heap.size) : Bes w0 S0 w' a c v' := by
  have hm8 := Mod.of_grown hg v.ownBlock.toList (fun k hk => .inl (by simpa using hk))
  obtain ⟨S, h1, h2, h3⟩ := h.h
  exact ⟨⟨S, h1.apart hm8 h3, h2, app_block (n := 0) hat h3 (fun hh => by have := h1.lt _ hh; omega)⟩, h.m.grow hg (fun x hx => .inr (Nat.le_trans hb (own_new ho x (by simpa using hx))))⟩
def tickC : ActV := ⟨3, 0, 0, 0, ⟨.slice none 0 0, [], 0, 0, 0, 0, 0⟩, false, 0, 0, 0, 0⟩
theorem tickC_bd : ActBd7 tickC := ⟨by simp [tickC], by simp [tickC], by simp [tickC], by simp [tickC], fun h => by simp [tickC] at h⟩
theorem tickC_act (c : CoreV) : (c.act tickC.m).1 = c.tick := by simp [CoreV.act, ActV.m, tickC]
set_option maxHeartbeats 4000000 in
set_option maxRecDepth 100000 in
theorem complete_any (W : World) (kb kr kq : Int) (vs : Value) (ks : List KSinkV) (hks : IsR KSinkV.cs 5 W vs ks) (v1 v2 : Value) (l m : List KActV) (hl : IsR KActV.cs 15 W v1 l) (hlo : ∀ k ∈ l, k.ok W) (hm : IsR KActV.cs 15 W v2 m) (hmo : ∀ k ∈ m, k.ok W) (tn : Int) :
    Calls Tryz.prog 7 #[.agg #[.int .i64 kb, .int .i64 kr, .int .i64 kq, vs], v1, v2, .int .i64 tn] W fun e w' => e = .returned (.bool true) ∧ Below W.heap.size W w' := by
  obtain ⟨ka, kc, rfl, _⟩ := id hks
  have HKS := Lib.hid (fun (w' : World) (hb : Below W.heap.size W w') => hks.kept hb)
  have HL := Lib.hid (fun (w' : World) (hb : Below W.heap.size W w') => hl.kept hb)
  have HM := Lib.hid (fun (w' : World) (hb : Below W.heap.size W w') => hm.kept hb)
  have HLO := Lib.hid hlo
  have HMO := Lib.hid hmo
  clear hks hl hlo hm hmo
  have b1 := within_bd tn 0 3 (by omega)
  obtain ⟨t, ht⟩ : ∃ t : Nat, within tn 0 3 = (t : Int) := ⟨(within tn 0 3).toNat, by omega⟩
  rw [ht] at b1
  have ht3 : t ≤ 3 := by omega
  have HT := Lib.hid ht
  clear ht
  go_enter Tryz.func7, Tryz.ntmps7
  go_wp2_with (first
    | (go_at_call 9; (with_reducible refine (setup_any _ _ ks kb kr kq (HKS.out _ (bel_alloc (Below.refl _ W) _))).mono ?_); rintro e w1 ⟨B, R, Q, vr, r, rfl, ho, hset, hb⟩; have HO1 := Lib.hid ho; have HSET0 := Lib.hid hset; have HSET := Lib.hid (show SetBd B R 300 r from ⟨hset.b1, hset.b2, hset.r1, hset.r2, by omega, by omega, hset.len, hset.sinks⟩); have HB1 := Lib.hid (below_step (bel_alloc (Below.refl _ W) _) hb); obtain ⟨ra, rc, rfl⟩ := own_shape2 ho; have hs1 := HB1.out.size; have HRD := Lib.hid (fun (o o' : Obj) => RdR.of_own sinkcs_len' ((HO1.out.alloc o).alloc o')); clear ho hset hb)
    | (go_at_call 16; (with_reducible refine (within_any tn _ _ _ (by omega) (by omega) (by omega)).mono ?_); rintro e wd ⟨rfl, rfl⟩; rw [HT.out])
    | (go_at_call 10; (with_reducible refine (cnew10 _ r _ B R 300 _ (HRD.out _ _) HSET.out).mono ?_); rintro e w3 ⟨c, Fc, rfl, hc, hF, hb⟩; have HC := Lib.hid hc; have HF := Lib.hid hF; have HB3 := Lib.hid hb; have pp := (At.newAt (w := w1.alloc (.cells #[.int .i64 B, .int .i64 R, .int .i64 300, .slice ra r.length rc] 28)) (b := w1.heap.size + 1) (by simp) #[.slice none 0 0, .int .i64 6, .int .i64 3, .int .i64 4, .int .i64 (-1), .int .i64 (-1)] 36).below hb; have p0 := pp.c 0 _ rfl; have p1 := pp.c 1 _ rfl; have p2 := pp.c 2 _ rfl; have p3 := pp.c 3 _ rfl; have p4 := pp.c 4 _ rfl; have p5 := pp.c 5 _ rfl; have HPP := Lib.hid pp; have HNN := Lib.hid (((At.new w1 #[.int .i64 B, .int .i64 R, .int .i64 300, .slice ra r.length rc] 28).alloc (.cells #[.slice none 0 0, .int .i64 6, .int .i64 3, .int .i64 4, .int .i64 (-1), .int .i64 (-1)] 36)).below hb); have HBW3 := Lib.hid (below_step (bel_alloc (bel_alloc HB1.out (.cells #[.int .i64 B, .int .i64 R, .int .i64 300, .slice ra r.length rc] 28)) (.cells #[.slice none 0 0, .int .i64 6, .int .i64 3, .int .i64 4, .int .i64 (-1), .int .i64 (-1)] 36)) hb); have HFW := Lib.hid (show ∀ z ∈ Fc, W.heap.size ≤ z ∧ w1.heap.size + 2 ≤ z from fun z hz => by have := HF.out z hz; simp at this; omega); have hra : ActBd7 ⟨1, (t : Int), 0, 0, ⟨.slice none 0 0, [], 6, 3, 4, -1, -1⟩, false, 0, 0, 0, 0⟩ := ⟨by simp, by simp, by simp, by simp; omega, fun _ => ⟨by simp, by simp, by simp, by simp, by simp, by simp, by simp, by simp, by simp, by simp, by simp, by simp⟩⟩; have HDR := Lib.hid (show Calls Tryz.prog 12 #[.pointer (some ⟨c, 0, none⟩), .slice (some ⟨w3.heap.size, 0, none⟩) 1 1] (w3.alloc (.cells #[.int .i64 1, .int .i64 t, .int .i64 0, .int .i64 0, .slice none 0 0, .int .i64 6, .int .i64 3, .int .i64 4, .int .i64 (-1), .int .i64 (-1), .bool false, .int .i64 0, .int .i64 0, .int .i64 0, .int .u64 0] 43)) _ from one_dos hc.one 0 [⟨1, (t : Int), 0, 0, ⟨.slice none 0 0, [], 6, 3, 4, -1, -1⟩, false, 0, 0, 0, 0⟩] (by simp) (by simp) (fun x hx => (List.mem_singleton.1 hx) ▸ ⟨hra, [], RdR.nil _ _ _, by simp⟩) (by show (0 : Int) ≤ 300; decide) (by show (300 : Int) ≤ 1000; decide) (new_ok HSET.out) (by simp)); have HRA := Lib.hid hra; clear hc hF hb pp hra)
    | (go_at_call 12; (with_reducible refine HDR.out.mono ?_); rintro e w4 ⟨g4, cap4, L4, S1, rfl, _, _, _, hone, hin, hmod⟩; have HBW4 := Lib.hid (show Below W.heap.size W w4 from hmod.belowB HBW3.out HBW3.out.size (fun z hz => (HFW.out z hz).1)); obtain ⟨S1', hc1, hi1, _⟩ := hone; have HC1 := Lib.hid hc1; have HM4 := Lib.hid hmod; have HS1 := Lib.hid (s1_bd (n := w1.heap.size + 2) hc1.lt hi1 hin HFW.out HBW3.out.size (by have h7 := HB3.out.size; simp at h7; omega) hmod.size); clear hin hmod hc1 hi1)
    | (go_at_call 11; (with_reducible refine (acts_any _ v1 l (HL.out _ HBW4.out) (fun k hk => (HLO.out k hk).kept HBW4.out)).mono ?_); rintro e w5 hret; obtain ⟨va, la, rfl, hna, hal, hb5⟩ := ActsL.of hret S1' (fun x hx => (HS1.out x hx).1); have HNA := Lib.hid hna; have HAL := Lib.hid hal; have HB5 := Lib.hid hb5; obtain ⟨aa, ac, rfl⟩ := own_shape2 hal.o; clear hret hna hal hb5))
  obtain ⟨c1, hc1⟩ : ∃ c1, c1 = ((CoreV.new B R 300 r).acts ([⟨1, (t : Int), 0, 0, ⟨.slice none 0 0, [], 6, 3, 4, -1, -1⟩, false, 0, 0, 0, 0⟩].map ActV.m)).1 := ⟨_, rfl⟩
  have hact1 : ((CoreV.new B R 300 r).acts ([⟨1, (t : Int), 0, 0, ⟨.slice none 0 0, [], 6, 3, 4, -1, -1⟩, false, 0, 0, 0, 0⟩].map ActV.m)).1 = ((CoreV.new B R 300 r).act (ActV.m ⟨1, (t : Int), 0, 0, ⟨.slice none 0 0, [], 6, 3, 4, -1, -1⟩, false, 0, 0, 0, 0⟩)).1 := rfl
  have hcm := CmI.new B R 300 r t (ActV.m ⟨1, (t : Int), 0, 0, ⟨.slice none 0 0, [], 6, 3, 4, -1, -1⟩, false, 0, 0, 0, 0⟩) rfl (by show (t : Int).toNat = t; omega) rfl (by have := HSET.out.r1; omega) rfl
  have hok1 := CoreOk.acts ([⟨1, (t : Int), 0, 0, ⟨.slice none 0 0, [], 6, 3, 4, -1, -1⟩, false, 0, 0, 0, 0⟩].map ActV.m) (new_ok HSET.out) (by show (0 : Int) ≤ 300; decide) (by show (300 : Int) ≤ 1000; decide) (fun z hz => by
    obtain ⟨u, hu, rfl⟩ := List.mem_map.1 hz
    obtain rfl := List.mem_singleton.1 hu
    exact ⟨by show (t : Int).toNat ≤ 7; omega, fun hk => (HRA.out.pipe hk).m⟩) (by simp)
  rw [← hact1] at hcm
  rw [← hc1] at hcm hok1 HC1
  have HCM := Lib.hid hcm
  have HOK1 := Lib.hid (show CoreOk c1 6 from by simpa using hok1.1)
  have HQ1 := Lib.hid (show c1.quota = 300 from hok1.2.1)
  have hla : la.length ≤ 40 := by have := HNA.out; omega
  clear hc1 hact1 hcm hok1
  have HBES := Lib.hid (show Bes w5 S1' w5 c c1 (.slice none 0 0) from ⟨⟨S1', HC1.out.below HB5.out, Into.refl _ _, by simp [Value.ownBlock]⟩, Mod.refl _ _⟩)
  obtain ⟨i0, hi3, hz0, hz1, hz2⟩ := info_parts info29
  have HI := Lib.hid (And.intro hi3 (And.intro hz0 (And.intro hz1 hz2)))
  clear hi3 hz0 hz1 hz2
  go_loopg [43, 13] la.length (fun g v43 v13 wr => ∃ (i : Nat) (cc : CoreV) (sent : List InpV) (ya : Option Addr) (yc : Nat), i ≤ la.length ∧ g = la.length - i ∧ v43 = .int .i64 i ∧ v13 = .slice ya sent.length yc ∧ CmI cc t B R sent ∧ CoreOk cc (6 + 6 * i) ∧ cc.quota = 300 ∧ Bnds sent ∧ sent.length ≤ i ∧ Bes w5 S1' wr c cc (.slice ya sent.length yc) ∧ wr.ownsRow w5.heap.size 41 5 (.slice ya sent.length yc) sent.length (sent.flatMap InpV.cs))
  case atStart => exact ⟨0, c1, [], none, 0, by omega, by omega, rfl, rfl, HCM.out, HOK1.out, HQ1.out, fun i hi => by simp at hi, by simp, HBES.out, World.ownsRow_nil _ _ _ _⟩
  case round =>
    obtain ⟨i, cc, sent, ya, yc, hi, rfl, rfl, rfl, hcm, hok, hq, hbn, hsl, hbes, hrow⟩ := hrel
    have HCMr := Lib.hid hcm
    have HOKr := Lib.hid hok
    have HQr := Lib.hid hq
    have HBN := Lib.hid hbn
    have HBESr := Lib.hid hbes
    have HROW := Lib.hid hrow
    clear hcm hok hq hbn hbes hrow
    by_cases hlt : i < la.length
    · obtain ⟨x, hx⟩ : ∃ x, la[i]? = some x := ⟨la[i], by simp [hlt]⟩
      obtain ⟨g, cap, hg, hcell⟩ := HAL.out.cell HBESr.out.m hx
      simp only [Value.slice.injEq, true_and] at hg
      obtain ⟨rfl, rfl⟩ := hg
      obtain ⟨hbd, So, hop, hSo⟩ := HAL.out.a x (List.mem_of_getElem? hx)
      have HX := Lib.hid hcell
      have HBD := Lib.hid hbd
      have HOP := Lib.hid hop
      obtain ⟨oa, oc, hvo, _⟩ := hop
      clear hcell hbd hx
      obtain ⟨ak, at', af, an, ⟨vo, opl, sz, sl, ag, si, fd⟩, am, ti, ky, va', lb⟩ := x
      simp only at hvo
      subst hvo
      have x0 := HX.out 0 _ rfl
      have x1 := HX.out 1 _ rfl
      have x2 := HX.out 2 _ rfl
      have x3 := HX.out 3 _ rfl
      have x4 := HX.out 4 _ rfl
      have x5 := HX.out 5 _ rfl
      have x6 := HX.out 6 _ rfl
      have x7 := HX.out 7 _ rfl
      have x8 := HX.out 8 _ rfl
      have x9 := HX.out 9 _ rfl
      have x10 := HX.out 10 _ rfl
      have x11 := HX.out 11 _ rfl
      have x12 := HX.out 12 _ rfl
      have x13 := HX.out 13 _ rfl
      have x14 := HX.out 14 _ rfl
      simp only [Nat.add_zero] at x0
      have hd := bes_one HBESr.out (6 + 6 * i) ⟨ak, at', af, an, ⟨.slice oa opl.length oc, opl, sz, sl, ag, si, fd⟩, am, ti, ky, va', lb⟩ HBD.out.b7 So HOP.out hSo (by rw [HQr.out]; decide) (by rw [HQr.out]; decide) HOKr.out (by omega) HROW.out #[.int .i64 ak, .int .i64 at', .int .i64 af, .int .i64 an, .slice oa opl.length oc, .int .i64 sz, .int .i64 sl, .int .i64 ag, .int .i64 si, .int .i64 fd, .bool am, .int .i64 ti, .int .i64 ky, .int .i64 va', .int .u64 lb] 43
      have HDO := Lib.hid (show Calls Tryz.prog 12 #[.pointer (some ⟨c, 0, none⟩), .slice (some ⟨wr.heap.size + 1, 0, none⟩) 1 1] ((wr.alloc (.cells #[.int .i64 ak, .int .i64 at', .int .i64 af, .int .i64 an, .slice oa opl.length oc, .int .i64 sz, .int .i64 sl, .int .i64 ag, .int .i64 si, .int .i64 fd, .bool am, .int .i64 ti, .int .i64 ky, .int .i64 va', .int .u64 lb] 43)).alloc (.cells #[.int .i64 ak, .int .i64 at', .int .i64 af, .int .i64 an, .slice oa opl.length oc, .int .i64 sz, .int .i64 sl, .int .i64 ag, .int .i64 si, .int .i64 fd, .bool am, .int .i64 ti, .int .i64 ky, .int .i64 va', .int .u64 lb] 43)) _ from hd)
      clear hd
      go_upto_region 16 with (go_at_call 12; (with_reducible refine HDO.out.mono ?_); rintro e w7 ⟨g7, cap7, vr7, vt7, rfl, hcap7, hat7, hbes7, hrow7, hnx7, hsz7⟩; have HAT7 := Lib.hid hat7; have HBES7 := Lib.hid hbes7; have HROW7 := Lib.hid hrow7; have HNX7 := Lib.hid hnx7; have e7 := hat7.c 0 _ rfl; have z0 := hnx7.c 0 _ rfl; have z1 := hnx7.c 1 _ rfl; have z10 := hnx7.c 10 _ rfl; have z11 := hnx7.c 11 _ rfl; have z12 := hnx7.c 12 _ rfl; have z13 := hnx7.c 13 _ rfl; have z14 := hnx7.c 14 _ rfl; clear hat7 hbes7 hrow7 hnx7)
      obtain ⟨E, hE⟩ : ∃ E, E = (cc.act (ActV.m ⟨ak, at', af, an, ⟨.slice oa opl.length oc, opl, sz, sl, ag, si, fd⟩, am, ti, ky, va', lb⟩)).2.err := ⟨_, rfl⟩
      rw [← hE] at e7
      have HOK7 := Lib.hid (show CoreOk (cc.act (ActV.m ⟨ak, at', af, an, ⟨.slice oa opl.length oc, opl, sz, sl, ag, si, fd⟩, am, ti, ky, va', lb⟩)).1 (6 + 6 * (i + 1)) from (HOKr.out.act (by rw [HQr.out]; decide) (by rw [HQr.out]; decide) (by show at'.toNat ≤ 7; have h1 := HBD.out.t1; have h2 := HBD.out.t2; simp only at h1 h2; omega) (fun hk => (HBD.out.b7.pipe hk).m) (by omega)).wide (by omega) (by omega))
      have HQ7 := Lib.hid ((act_quota cc (ActV.m ⟨ak, at', af, an, ⟨.slice oa opl.length oc, opl, sz, sl, ag, si, fd⟩, am, ti, ky, va', lb⟩)).1.trans HQr.out)
      have hk1 : 1 ≤ ak := HBD.out.k1
      have hk5 : ak ≤ 5 := HBD.out.k2
      have ht0 : 0 ≤ at' := HBD.out.t1
      have HAC := Lib.hid (show (ak = 2 ∧ at' = (t : Int) ∧ E = 0 → CmI (cc.act (ActV.m ⟨ak, at', af, an, ⟨.slice oa opl.length oc, opl, sz, sl, ag, si, fd⟩, am, ti, ky, va', lb⟩)).1 t B R (sent ++ [⟨am, ti, ky, va', lb⟩])) ∧ (¬ (ak = 2 ∧ at' = (t : Int) ∧ E = 0) → CmI (cc.act (ActV.m ⟨ak, at', af, an, ⟨.slice oa opl.length oc, opl, sz, sl, ag, si, fd⟩, am, ti, ky, va', lb⟩)).1 t B R sent) from by
        by_cases h3 : ak = 3
        · have e : (cc.act (ActV.m ⟨ak, at', af, an, ⟨.slice oa opl.length oc, opl, sz, sl, ag, si, fd⟩, am, ti, ky, va', lb⟩)).1 = cc.tick := by simp [CoreV.act, ActV.m, h3]
          rw [e]
          exact ⟨fun h => by omega, fun _ => (HCMr.out.tick (by omega) HSET.out.b1).1⟩
        · have ha := HCMr.out.act (ActV.m ⟨ak, at', af, an, ⟨.slice oa opl.length oc, opl, sz, sl, ag, si, fd⟩, am, ti, ky, va', lb⟩) h3 hk1 hk5
          rw [hE]
          refine ⟨fun h => ha.1 ⟨h.1, by show at'.toNat = t; omega, h.2.2⟩, fun h => ha.2 (fun hh => h ⟨hh.1, ?_, hh.2.2⟩)⟩
          have : at'.toNat = t := hh.2.1
          omega)
      clear hE
      by_cases h2 : ak = 2
      · by_cases h4 : at' = (t : Int)
        · by_cases h6 : E = 0
          · have HACC := Lib.hid (HAC.out.1 ⟨h2, h4, h6⟩)
            have hib := HBD.out.inp h2
            have HBN2 := Lib.hid (show Bnds (sent ++ [⟨am, ti, ky, va', lb⟩]) from fun j hj => by
              rcases List.mem_append.1 hj with hj | hj
              · exact HBN.out j hj
              · obtain rfl := List.mem_singleton.1 hj
                exact ⟨hib.t1, hib.t2, hib.t3⟩)
            clear hib
            have e1 : (ak == 2) = true := by simp [h2]
            have e2 : (at' == (t : Int)) = true := by simp [h4]
            have e3 : (E == 0) = true := by simp [h6]
            have H2 := Lib.hid h2
            have H4 := Lib.hid h4
            have H6 := Lib.hid h6
            clear h2 h4 h6
            go_wp2_with (at_builtin; refine wpList_append_own_at _ rfl (.tmp 70) (.tmp 73) 69 rfl w5.heap.size 41 i0 _ 5 40 Tryz.underlying69 HI.out.1 HI.out.2.1 HI.out.2.2.1 HI.out.2.2.2 rfl (by decide) (.slice ya sent.length yc) sent.length (sent.flatMap InpV.cs) rfl (HROW7.out.alloc _) ⟨w7.heap.size, 0, none⟩ 1 1 [.bool am, .int .i64 ti, .int .i64 ky, .int .i64 va', .int .u64 lb] rfl rfl (row_cells _ _ _) (by simp [Value.oneCell']) (by unfold maxLen; omega) (by omega) (by have := HBES7.out.m.size; simp; omega) ?_; intro v' w8 hown8 hgrow8 _ hat8; have HO8 := Lib.hid hown8; have HG8 := Lib.hid hgrow8; have HT8 := Lib.hid hat8; obtain ⟨ya2, yc2, rfl⟩ := own_shape2 hown8; clear hown8 hgrow8 hat8)
            go_roundg (la.length - (i + 1))
            case measure => omega
            case rel =>
              have hm8 := Mod.of_grown HG8.out (Value.slice ya sent.length yc).ownBlock.toList (fun k hk => .inl (by simpa using hk))
              refine ⟨i + 1, _, sent ++ [⟨am, ti, ky, va', lb⟩], ya2, yc2, by omega, rfl, by go_num, by rw [List.length_append]; rfl, HACC.out, HOK7.out, HQ7.out, HBN2.out, by rw [List.length_append]; simp; omega, ?_, ?_⟩
              · obtain ⟨S, h1, h2, h3⟩ := HBES7.out.h
                refine ⟨⟨S, (h1.below (bel_alloc (Below.refl _ _) _)).apart hm8 h3, h2, ?_⟩, (HBES7.out.m.new _).grow HG8.out (fun x hx => .inr (own_new HROW7.out x (by simpa using hx)))⟩
                rw [List.length_append]
                exact app_block (n := 0) HT8.out h3 (fun hh => by have := h1.lt _ hh; simp at this; omega)
              · rw [List.flatMap_append, List.length_append]
                exact HO8.out
          · have e1 : (ak == 2) = true := by simp [h2]
            have e2 : (at' == (t : Int)) = true := by simp [h4]
            have e3 : (E == 0) = false := by simp [h6]
            have HNO := Lib.hid (HAC.out.2 (fun h => h6 h.2.2))
            clear h2 h4 h6
            go_wp2_with fail
            go_roundg (la.length - (i + 1))
            case measure => omega
            case rel => exact ⟨i + 1, _, sent, ya, yc, by omega, rfl, by go_num, rfl, HNO.out, HOK7.out, HQ7.out, HBN.out, by omega, HBES7.out, HROW7.out⟩
        · have e1 : (ak == 2) = true := by simp [h2]
          have e2 : (at' == (t : Int)) = false := by simp [h4]
          have HNO := Lib.hid (HAC.out.2 (fun h => h4 h.2.1))
          clear h2 h4
          go_wp2_with fail
          go_roundg (la.length - (i + 1))
          case measure => omega
          case rel => exact ⟨i + 1, _, sent, ya, yc, by omega, rfl, by go_num, rfl, HNO.out, HOK7.out, HQ7.out, HBN.out, by omega, HBES7.out, HROW7.out⟩
      · have e1 : (ak == 2) = false := by simp [h2]
        have HNO := Lib.hid (HAC.out.2 (fun h => h2 h.1))
        clear h2
        go_wp2_with fail
        go_roundg (la.length - (i + 1))
        case measure => omega
        case rel => exact ⟨i + 1, _, sent, ya, yc, by omega, rfl, by go_num, rfl, HNO.out, HOK7.out, HQ7.out, HBN.out, by omega, HBES7.out, HROW7.out⟩
    · obtain rfl : i = la.length := by omega
      have hnn := (HNN.out.mod HM4.out (fun hh => by have := (HFW.out _ hh).2; omega))
      have hnn5 := hnn.below HB5.out
      have hnn6 := hnn5.mod HBESr.out.m (fun hh => by have := (HS1.out _ hh).2.2; omega)
      have n0 := hnn6.c 0 _ rfl
      have n1 := hnn6.c 1 _ rfl
      have HPW := Lib.hid (((HPP.out.mod HM4.out (fun hh => by have := (HFW.out _ hh).2; omega)).below HB5.out).mod HBESr.out.m (fun hh => by have := (HS1.out _ hh).2.2; omega))
      clear hnn hnn5 hnn6
      obtain ⟨bN, hbN⟩ : ∃ bN : Nat, B = (bN : Int) := ⟨B.toNat, by have := HSET.out.b1; omega⟩
      obtain ⟨rN, hrN⟩ : ∃ rN : Nat, R = (rN : Int) := ⟨R.toNat, by have := HSET.out.r1; omega⟩
      have hb1 : 1 ≤ bN := by have := HSET.out.b1; omega
      have hb4 : bN ≤ 4 := by have := HSET.out.b2; omega
      have hr1 : 1 ≤ rN := by have := HSET.out.r1; omega
      have hr8 : rN ≤ 8 := by have := HSET.out.r2; omega
      rw [hbN] at n0
      rw [hrN] at n1
      have HBE := Lib.hid hbN
      have HRE := Lib.hid hrN
      clear hbN hrN
      have htb := ticks_bd hr1 hr8 hb1
      obtain ⟨tk, htk⟩ : ∃ tk, tk = ticksI rN bN := ⟨_, rfl⟩
      have HMOST := Lib.hid (fun (w : World) => show Calls Tryz.prog 25 #[.int .i64 rN, .int .i64 0, .int .i64 bN] w fun e w' => e = .returned (.int .i64 (tk : Nat)) ∧ w' = w from by
        rw [htk]
        exact bmost_any rN 0 bN (by omega) hr1 (by omega) hb1 (by omega) w)
      have htl := ticks_left (room := rN) hb1
      rw [← htk] at htb htl
      have HTL := Lib.hid htl
      have htk1 := htb.1
      have htk9 := htb.2
      clear htk htb htl
      go_wp2_with (go_at_call 25; (with_reducible refine (HMOST.out _).mono ?_); rintro e wm ⟨rfl, rfl⟩)
      go_loopg [88] tk (fun g v88 wr => ∃ (j : Nat) (cd : CoreV), j ≤ tk ∧ g = tk - j ∧ v88 = .int .i64 j ∧ CmI cd t B R sent ∧ waitingOf cd t ≤ ((rN - j * bN : Nat) : Int) ∧ CoreOk cd (6 + 6 * la.length + 6 * j) ∧ cd.quota = 300 ∧ Bes w5 S1' wr c cd (.slice ya sent.length yc) ∧ wr.ownsRow w5.heap.size 41 5 (.slice ya sent.length yc) sent.length (sent.flatMap InpV.cs))
      case atStart => exact ⟨0, cc, by omega, by omega, rfl, HCMr.out, by have := HCMr.out.wait.2; have := HRE.out; omega, HOKr.out, HQr.out, HBESr.out, HROW.out⟩
      case round =>
        obtain ⟨j, cd, hj, rfl, rfl, hcm, hwt, hok, hq, hbes, hrow⟩ := hrel
        have HCMd := Lib.hid hcm
        have HWT := Lib.hid hwt
        have HOKd := Lib.hid hok
        have HQd := Lib.hid hq
        have HBESd := Lib.hid hbes
        have HROWd := Lib.hid hrow
        clear hcm hwt hok hq hbes hrow
        by_cases hjt : j < tk
        · have HDT := Lib.hid (show Calls Tryz.prog 12 #[.pointer (some ⟨c, 0, none⟩), .slice (some ⟨wr.heap.size, 0, none⟩) 1 1] (wr.alloc (.cells #[.int .i64 3, .int .i64 0, .int .i64 0, .int .i64 0, .slice none 0 0, .int .i64 0, .int .i64 0, .int .i64 0, .int .i64 0, .int .i64 0, .bool false, .int .i64 0, .int .i64 0, .int .i64 0, .int .u64 0] 43)) _ from bes_tick HBESd.out (6 + 6 * la.length + 6 * j) tickC tickC_bd [] (RdR.nil _ _ _) (by simp) (by rw [HQd.out]; decide) (by rw [HQd.out]; decide) HOKd.out (by omega) HROWd.out)
          go_wp2_with (go_at_call 12; (with_reducible refine HDT.out.mono ?_); rintro e w7 ⟨g7, cap7, vr7, vt7, rfl, hcap7, hat7, hbes7, hrow7, hsz7⟩; have HBES7 := Lib.hid hbes7; have HROW7 := Lib.hid hrow7; clear hat7 hbes7 hrow7)
          go_roundg (tk - (j + 1))
          case measure => omega
          case rel =>
            have htk2 := HCMd.out.tick (show t ≤ 7 by omega) HSET.out.b1
            have hbe := HBE.out
            have hwt := HWT.out
            have hmul : (j + 1) * bN = j * bN + bN := Nat.succ_mul j bN
            refine ⟨j + 1, _, by omega, rfl, by go_num, ?_, ?_, ?_, (act_quota cd tickC.m).1.trans HQd.out, HBES7.out, HROW7.out⟩
            · rw [tickC_act]; exact htk2.1
            · rw [tickC_act, htk2.2, hmul]; omega
            · exact (HOKd.out.act (by rw [HQd.out]; decide) (by rw [HQd.out]; decide) (by simp [ActV.m, tickC]) (fun hk => by simp [ActV.m, tickC] at hk) (by omega)).wide (by omega) (by omega)
        · obtain rfl : j = tk := by omega
          have hw0 : waitingOf cd t = 0 := by
            have h1 := HWT.out
            have h2 := HCMd.out.wait.1
            rw [HTL.out] at h1
            omega
          have hlast := HCMd.out.last HSET.out.r1 hw0 (by omega) (ActV.m ⟨2, (t : Int), 0, 0, ⟨.slice none 0 0, [], 0, 0, 0, 0, 0⟩, true, 4000, 0, 0, 0⟩) rfl (by show (t : Int).toNat = t; omega) rfl
          have HLAST := Lib.hid hlast
          have hd := bes_one HBESd.out (6 + 6 * la.length + 6 * j) ⟨2, (t : Int), 0, 0, ⟨.slice none 0 0, [], 0, 0, 0, 0, 0⟩, true, 4000, 0, 0, 0⟩ ⟨by simp, by simp, by simp, by simp; omega, fun h => by simp at h⟩ [] (RdR.nil _ _ _) (by simp) (by rw [HQd.out]; decide) (by rw [HQd.out]; decide) HOKd.out (by omega) HROWd.out #[.bool true, .int .i64 4000, .int .i64 0, .int .i64 0, .int .u64 0] 41
          rw [hlast.1] at hd
          have HDE := Lib.hid (show Calls Tryz.prog 12 #[.pointer (some ⟨c, 0, none⟩), .slice (some ⟨wr.heap.size + 1, 0, none⟩) 1 1] ((wr.alloc (.cells #[.bool true, .int .i64 4000, .int .i64 0, .int .i64 0, .int .u64 0] 41)).alloc (.cells #[.int .i64 2, .int .i64 t, .int .i64 0, .int .i64 0, .slice none 0 0, .int .i64 0, .int .i64 0, .int .i64 0, .int .i64 0, .int .i64 0, .bool true, .int .i64 4000, .int .i64 0, .int .i64 0, .int .u64 0] 43)) _ from hd)
          have HOKe := Lib.hid (HOKd.out.act (a := ActV.m ⟨2, (t : Int), 0, 0, ⟨.slice none 0 0, [], 0, 0, 0, 0, 0⟩, true, 4000, 0, 0, 0⟩) (by rw [HQd.out]; decide) (by rw [HQd.out]; decide) (by show (t : Int).toNat ≤ 7; omega) (fun hk => by simp [ActV.m] at hk) (by omega))
          have HQe := Lib.hid ((act_quota cd (ActV.m ⟨2, (t : Int), 0, 0, ⟨.slice none 0 0, [], 0, 0, 0, 0, 0⟩, true, 4000, 0, 0, 0⟩)).1.trans HQd.out)
          clear hw0 hlast hd
          go_wp2_with (first
            | (go_at_call 12; (with_reducible refine HDE.out.mono ?_); rintro e w7 ⟨g7, cap7, vr7, vt7, rfl, hcap7, hat7, hbes7, hrow7, hnx7, hsz7⟩; have HBES7 := Lib.hid hbes7; have HROW7 := Lib.hid hrow7; have e7 := hat7.c 0 _ rfl; have z0 := hnx7.c 0 _ rfl; have z1 := hnx7.c 1 _ rfl; have z2 := hnx7.c 2 _ rfl; have z3 := hnx7.c 3 _ rfl; have z4 := hnx7.c 4 _ rfl; have HBW7 := Lib.hid (hbes7.m.size); clear hat7 hbes7 hrow7 hnx7)
            | (at_builtin; refine wpList_append_own_at _ rfl (.tmp 113) (.tmp 115) 69 rfl w5.heap.size 41 i0 _ 5 40 Tryz.underlying69 HI.out.1 HI.out.2.1 HI.out.2.2.1 HI.out.2.2.2 rfl (by decide) (.slice ya sent.length yc) sent.length (sent.flatMap InpV.cs) rfl (HROW7.out.alloc _) ⟨w7.heap.size, 0, none⟩ 1 1 [.bool true, .int .i64 4000, .int .i64 0, .int .i64 0, .int .u64 0] rfl rfl (row_cells _ _ _) (by simp [Value.oneCell']) (by unfold maxLen; omega) (by omega) (by have := HBW7.out; simp; omega) ?_; intro v' w8 hown8 hgrow8 _ hat8; have HO8 := Lib.hid hown8; have HB8 := Lib.hid ((HBES7.out.new (.cells #[.bool true, .int .i64 4000, .int .i64 0, .int .i64 0, .int .u64 0] 41)).grow (HROW7.out.alloc _) (Nat.le_refl _) hgrow8 hat8); have HBWW := Lib.hid (show Below W.heap.size W w8 from HB8.out.m.belowB (below_step HBW4.out HB5.out) (below_step HBW4.out HB5.out).size (fun z hz => (HS1.out z hz).2.1)); obtain ⟨ya2, yc2, rfl⟩ := own_shape2 hown8; clear hown8 hgrow8 hat8)
            | (go_at_call 11; (with_reducible refine (acts_any _ v2 m (HM.out _ HBWW.out) (fun k hk => (HMO.out k hk).kept HBWW.out)).mono ?_); rintro e w10 hret; obtain ⟨S9, hS9, hI9, hd9⟩ := HB8.out.h; obtain ⟨vb, lb2, rfl, hnb, hbl, hb10⟩ := ActsL.of hret S9 hS9.lt; have HNB := Lib.hid hnb; have HBL := Lib.hid hbl; have HB10 := Lib.hid hb10; have HS9 := Lib.hid (And.intro hS9 (And.intro hI9 hd9)); obtain ⟨ba, bc, rfl⟩ := own_shape2 hbl.o; clear hret hnb hbl hb10 hS9 hI9 hd9))
          obtain ⟨ce, hce⟩ : ∃ ce, ce = (cd.act (ActV.m ⟨2, (t : Int), 0, 0, ⟨.slice none 0 0, [], 0, 0, 0, 0, 0⟩, true, 4000, 0, 0, 0⟩)).1 := ⟨_, rfl⟩
          have hcme := HLAST.out.2.1
          have hwe := HLAST.out.2.2
          have hoke := HOKe.out
          have hqe := HQe.out
          have hsz9 := HS9.out
          rw [← hce] at hcme hwe hoke hqe hsz9
          have HCMe := Lib.hid hcme
          have HWe := Lib.hid hwe
          have HOKe2 := Lib.hid hoke
          have HQe2 := Lib.hid hqe
          have hlb : lb2.length ≤ 40 := by have := HNB.out; omega
          have HROW10 := Lib.hid (show w10.ownsRow w5.heap.size 41 5 (.slice ya2 (sent.length + 1) yc2) (sent.length + 1) ((sent ++ [endI]).flatMap InpV.cs) from by
            have h := HO8.out
            rw [List.flatMap_append]
            exact own_of_block h (fun x hx => HB10.out.block x (own_lt h x hx)))
          have HBES10 := Lib.hid (show Bes w10 S9 w10 c ce (.slice ya2 (sent.length + 1) yc2) from ⟨⟨S9, hsz9.1.below HB10.out, Into.refl _ _, hsz9.2.2⟩, Mod.refl _ _⟩)
          have HPW10 := Lib.hid (show At w10 (w1.heap.size + 1) [.slice none 0 0, .int .i64 6, .int .i64 3, .int .i64 4, .int .i64 (-1), .int .i64 (-1)] from ((HPP.out.mod HM4.out (fun hh => by have := (HFW.out _ hh).2; omega)).below HB5.out |>.mod HB8.out.m (fun hh => by have := (HS1.out _ hh).2.2; omega)).below HB10.out)
          have HS9b := Lib.hid (show ∀ z ∈ S9, W.heap.size ≤ z ∧ w1.heap.size + 2 ≤ z from fun z hz => by
            rcases hsz9.2.1 z hz with h | h
            · exact (HS1.out z h).2
            · have h1 := HB5.out.size
              have h2 := HBW4.out.size
              have h3 := HM4.out.size
              have h4 := HB3.out.size
              simp at h4
              omega)
          have HBW10 := Lib.hid (below_step HBWW.out HB10.out)
          clear hcme hwe hoke hqe hsz9 hce
          go_loopg [120] lb2.length (fun g v120 wr => ∃ (i : Nat) (cf : CoreV), i ≤ lb2.length ∧ g = lb2.length - i ∧ v120 = .int .i64 i ∧ CmI cf t B R (sent ++ [endI]) ∧ waitingOf cf t = 1 ∧ CoreOk cf (400 + 6 * i) ∧ cf.quota = 300 ∧ Bes w10 S9 wr c cf (.slice ya2 (sent.length + 1) yc2) ∧ wr.ownsRow w5.heap.size 41 5 (.slice ya2 (sent.length + 1) yc2) (sent.length + 1) ((sent ++ [endI]).flatMap InpV.cs))
          case atStart => exact ⟨0, ce, by omega, by omega, rfl, HCMe.out, HWe.out, HOKe2.out.wide (by omega) (by omega), HQe2.out, HBES10.out, HROW10.out⟩
          case round =>
            obtain ⟨i, cf, hi, rfl, rfl, hcm, hwt, hok, hq, hbes, hrow⟩ := hrel
            have HCMf := Lib.hid hcm
            have HWf := Lib.hid hwt
            have HOKf := Lib.hid hok
            have HQf := Lib.hid hq
            have HBESf := Lib.hid hbes
            have HROWf := Lib.hid hrow
            clear hcm hwt hok hq hbes hrow
            by_cases hlt : i < lb2.length
            · obtain ⟨x, hx⟩ : ∃ x, lb2[i]? = some x := ⟨lb2[i], by simp [hlt]⟩
              obtain ⟨g, cap, hg, hcell⟩ := HBL.out.cell HBESf.out.m hx
              simp only [Value.slice.injEq, true_and] at hg
              obtain ⟨rfl, rfl⟩ := hg
              obtain ⟨hbd, So, hop, hSo⟩ := HBL.out.a x (List.mem_of_getElem? hx)
              have HX := Lib.hid hcell
              have HBD := Lib.hid hbd
              have HOP := Lib.hid hop
              obtain ⟨oa, oc, hvo, _⟩ := hop
              clear hcell hbd hx
              obtain ⟨ak, at', af, an, ⟨vo, opl, sz, sl, ag, si, fd⟩, am, ti, ky, va', lb⟩ := x
              simp only at hvo
              subst hvo
              have x0 := HX.out 0 _ rfl
              have x1 := HX.out 1 _ rfl
              have x2 := HX.out 2 _ rfl
              have x3 := HX.out 3 _ rfl
              have x4 := HX.out 4 _ rfl
              have x5 := HX.out 5 _ rfl
              have x6 := HX.out 6 _ rfl
              have x7 := HX.out 7 _ rfl
              have x8 := HX.out 8 _ rfl
              have x9 := HX.out 9 _ rfl
              have x10 := HX.out 10 _ rfl
              have x11 := HX.out 11 _ rfl
              have x12 := HX.out 12 _ rfl
              have x13 := HX.out 13 _ rfl
              have x14 := HX.out 14 _ rfl
              simp only [Nat.add_zero] at x0
              have hd := bes_one HBESf.out (400 + 6 * i) ⟨ak, at', af, an, ⟨.slice oa opl.length oc, opl, sz, sl, ag, si, fd⟩, am, ti, ky, va', lb⟩ HBD.out.b7 So HOP.out hSo (by rw [HQf.out]; decide) (by rw [HQf.out]; decide) HOKf.out (by omega) HROWf.out #[.int .i64 ak, .int .i64 at', .int .i64 af, .int .i64 an, .slice oa opl.length oc, .int .i64 sz, .int .i64 sl, .int .i64 ag, .int .i64 si, .int .i64 fd, .bool am, .int .i64 ti, .int .i64 ky, .int .i64 va', .int .u64 lb] 43
              have HDO := Lib.hid (show Calls Tryz.prog 12 #[.pointer (some ⟨c, 0, none⟩), .slice (some ⟨wr.heap.size + 1, 0, none⟩) 1 1] ((wr.alloc (.cells #[.int .i64 ak, .int .i64 at', .int .i64 af, .int .i64 an, .slice oa opl.length oc, .int .i64 sz, .int .i64 sl, .int .i64 ag, .int .i64 si, .int .i64 fd, .bool am, .int .i64 ti, .int .i64 ky, .int .i64 va', .int .u64 lb] 43)).alloc (.cells #[.int .i64 ak, .int .i64 at', .int .i64 af, .int .i64 an, .slice oa opl.length oc, .int .i64 sz, .int .i64 sl, .int .i64 ag, .int .i64 si, .int .i64 fd, .bool am, .int .i64 ti, .int .i64 ky, .int .i64 va', .int .u64 lb] 43)) _ from hd)
              have ht0 : 0 ≤ at' := HBD.out.t1
              have HOK7 := Lib.hid (show CoreOk (cf.act (ActV.m ⟨ak, at', af, an, ⟨.slice oa opl.length oc, opl, sz, sl, ag, si, fd⟩, am, ti, ky, va', lb⟩)).1 (400 + 6 * (i + 1)) from (HOKf.out.act (by rw [HQf.out]; decide) (by rw [HQf.out]; decide) (by show at'.toNat ≤ 7; have h1 := HBD.out.t1; have h2 := HBD.out.t2; simp only at h1 h2; omega) (fun hk => (HBD.out.b7.pipe hk).m) (by omega)).wide (by omega) (by omega))
              have HQ7 := Lib.hid ((act_quota cf (ActV.m ⟨ak, at', af, an, ⟨.slice oa opl.length oc, opl, sz, sl, ag, si, fd⟩, am, ti, ky, va', lb⟩)).1.trans HQf.out)
              clear hd
              by_cases h9 : i < 9
              · by_cases h3 : ak = 3
                · have e1 : (ak != 3) = false := by simp [h3]
                  clear h3
                  go_wp2_with fail
                  go_roundg (lb2.length - (i + 1))
                  case measure => omega
                  case rel => exact ⟨i + 1, cf, by omega, rfl, by go_num, HCMf.out, HWf.out, HOKf.out.wide (by omega) (by omega), HQf.out, HBESf.out.new _, HROWf.out.alloc _⟩
                · have e1 : (ak != 3) = true := by simp [h3]
                  by_cases h4 : at' = (t : Int)
                  · have e2 : (at' != (t : Int)) = false := by simp [h4]
                    clear h3 h4
                    go_wp2_with fail
                    go_roundg (lb2.length - (i + 1))
                    case measure => omega
                    case rel => exact ⟨i + 1, cf, by omega, rfl, by go_num, HCMf.out, HWf.out, HOKf.out.wide (by omega) (by omega), HQf.out, HBESf.out.new _, HROWf.out.alloc _⟩
                  · have e2 : (at' != (t : Int)) = true := by simp [h4]
                    have HOT := Lib.hid (HCMf.out.other (ActV.m ⟨ak, at', af, an, ⟨.slice oa opl.length oc, opl, sz, sl, ag, si, fd⟩, am, ti, ky, va', lb⟩) h3 (by show at'.toNat ≠ t; omega))
                    clear h3 h4
                    go_wp2_with (go_at_call 12; (with_reducible refine HDO.out.mono ?_); rintro e w7 ⟨g7, cap7, vr7, vt7, rfl, hcap7, hat7, hbes7, hrow7, hnx7, hsz7⟩; have HBES7 := Lib.hid hbes7; have HROW7 := Lib.hid hrow7; clear hat7 hbes7 hrow7 hnx7)
                    go_roundg (lb2.length - (i + 1))
                    case measure => omega
                    case rel => exact ⟨i + 1, _, by omega, rfl, by go_num, HOT.out.1, HOT.out.2.trans HWf.out, HOK7.out, HQ7.out, HBES7.out, HROW7.out⟩
              · skip
                go_wp2_with fail
                go_roundg (lb2.length - (i + 1))
                case measure => omega
                case rel => exact ⟨i + 1, cf, by omega, rfl, by go_num, HCMf.out, HWf.out, HOKf.out.wide (by omega) (by omega), HQf.out, HBESf.out.new _, HROWf.out.alloc _⟩
            · obtain rfl : i = lb2.length := by omega
              have HDT := Lib.hid (show Calls Tryz.prog 12 #[.pointer (some ⟨c, 0, none⟩), .slice (some ⟨wr.heap.size, 0, none⟩) 1 1] (wr.alloc (.cells #[.int .i64 3, .int .i64 0, .int .i64 0, .int .i64 0, .slice none 0 0, .int .i64 0, .int .i64 0, .int .i64 0, .int .i64 0, .int .i64 0, .bool false, .int .i64 0, .int .i64 0, .int .i64 0, .int .u64 0] 43)) _ from bes_tick HBESf.out (400 + 6 * lb2.length) tickC tickC_bd [] (RdR.nil _ _ _) (by simp) (by rw [HQf.out]; decide) (by rw [HQf.out]; decide) HOKf.out (by omega) HROWf.out)
              have htk := HCMf.out.tick (show t ≤ 7 by omega) HSET.out.b1
              have hbb := HSET.out.b1
              have hokg := HOKf.out.act (a := tickC.m) (by rw [HQf.out]; decide) (by rw [HQf.out]; decide) (by simp [ActV.m, tickC]) (fun hk => by simp [ActV.m, tickC] at hk) (by omega)
              have hqg := (act_quota cf tickC.m).1.trans HQf.out
              have hdone := CmI.done (c := (cf.act tickC.m).1) (t := t) (B := B) (R := R) (sent := sent) (by rw [tickC_act]; exact htk.1) (by rw [tickC_act, htk.2, HWf.out]; omega) HBN.out
              obtain ⟨cg, hcg⟩ : ∃ cg, cg = (cf.act tickC.m).1 := ⟨_, rfl⟩
              have HCG := Lib.hid hcg
              rw [← hcg] at hokg hqg hdone
              have hrb := rows_bd (t := t) hokg
              have HOKg := Lib.hid hokg
              have HQg := Lib.hid hqg
              have HDONE := Lib.hid hdone
              have HRB := Lib.hid (show (rowsV cg t).length ≤ 6400 by omega)
              obtain ⟨T2, hT2⟩ : ∃ T, T = ((RunV.new pipC).take ((sent ++ [endI]).map (labI t))).2 := ⟨_, rfl⟩
              have HT2 := Lib.hid hT2
              clear htk hbb hokg hqg hdone hcg hrb hT2
              go_wp2_with (first
                | (go_at_call 12; (with_reducible refine HDT.out.mono ?_); rintro e w11 ⟨g7, cap7, vr7, vt7, rfl, hcap7, hat7, hbes7, hrow7, hsz7⟩; rw [← HCG.out] at hbes7; have HBES11 := Lib.hid hbes7; have HROW11 := Lib.hid hrow7; obtain ⟨S11, hS11, hI11, hd11⟩ := hbes7.h; have HS11 := Lib.hid (And.intro hS11 (And.intro hI11 hd11)); have HRR := Lib.hid (one_rows hS11.one (400 + 6 * lb2.length + 6) t (by omega) (by rw [HQg.out]; decide) (by rw [HQg.out]; decide) HOKg.out (by omega) HRB.out); clear hat7 hbes7 hrow7 hS11 hI11 hd11)
                | (go_at_call 19; (with_reducible refine HRR.out.mono ?_); rintro e w12 ⟨vx, S12, rfl, hox, _, _, _, hm12⟩; rw [HDONE.out.1, ← HT2.out] at hox; have HOX := Lib.hid hox; have HM12 := Lib.hid hm12; have HROW12 := Lib.hid (own_mod HROW11.out hm12 HS11.out.2.2); obtain ⟨xa, xc, rfl⟩ := own_shape2 hox; clear hox hm12))
              obtain ⟨gs, cs, hgs, hgsge, hgsl, hcs1, hcs2, _⟩ := own_form HROW12.out (by omega)
              have hgs10 := own_lt HROW10.out gs (by rw [hgs]; simp [Value.ownBlock])
              have HAG := Lib.hid (At.of_row HROW12.out (g := gs) (by rw [hgs]; rfl))
              simp only [Value.slice.injEq, true_and] at hgs
              obtain ⟨rfl, rfl⟩ := hgs
              have HCAP := Lib.hid (And.intro hcs1 hcs2)
              have h1011 := HBES11.out.m.size
              have h1112 := HM12.out.size
              have hnp : w1.heap.size + 1 < w10.heap.size := HPW10.out.lt
              have h5 : w1.heap.size + 1 < w5.heap.size := by
                have h1 := HB5.out.size
                have h3 := HM4.out.size
                have h4 := HB3.out.size
                simp at h4
                omega
              have HP12 := Lib.hid ((HPW10.out.mod HBES11.out.m (fun hh => by have := (HS9b.out _ hh).2; omega)).mod HM12.out (fun hh => by
                rcases HS11.out.2.1 _ hh with h | h
                · have := (HS9b.out _ h).2; omega
                · omega))
              have hbw11 : Below W.heap.size W w11 := HBES11.out.m.belowB HBW10.out HBW10.out.size (fun z hz => (HS9b.out z hz).1)
              have HBW12 := Lib.hid (show Below W.heap.size W w12 from HM12.out.belowB hbw11 hbw11.size (fun z hz => by
                rcases HS11.out.2.1 z hz with h | h
                · exact (HS9b.out z h).1
                · have := HBW10.out.size; omega))
              have hgsW : W.heap.size ≤ gs := by have h1 := HBW4.out.size; have h2 := HB5.out.size; omega
              have wa := wrap_pow (n := t) (by omega)
              obtain ⟨Lt, hLt⟩ : ∃ L : Int, L = ((2 ^ t : Nat) : Int) := ⟨_, rfl⟩
              rw [← hLt] at wa
              have HLT := Lib.hid hLt
              clear hLt hbw11
              go_loopg [152] (sent.length + 1) (fun g v152 wr => ∃ n : Nat, n ≤ sent.length + 1 ∧ g = sent.length + 1 - n ∧ v152 = .int .i64 n ∧ At wr gs ((mixI t (sent ++ [endI]) n).flatMap InpV.cs) ∧ Mod [gs] w12 wr)
              case atStart => exact ⟨0, by omega, by omega, rfl, by rw [mixI_0]; exact HAG.out, Mod.refl _ _⟩
              case round =>
                obtain ⟨n, hn, rfl, rfl, hat, hmo⟩ := hrel
                have HATn := Lib.hid hat
                have HMOn := Lib.hid hmo
                clear hat hmo
                by_cases hnl : n < sent.length + 1
                · have hl2 : (sent ++ [endI]).length = sent.length + 1 := by simp
                  obtain ⟨x, hx⟩ : ∃ x, (sent ++ [endI])[n]? = some x := ⟨(sent ++ [endI])[n]'(by omega), List.getElem?_eq_getElem (by omega)⟩
                  have c4 : wr.cell? ⟨gs, n * 5 + 4, none⟩ = some (.int .u64 x.label) := HATn.out.c _ _ (flat_get (cs := InpV.cs) (k := 5) (fun _ => rfl) (mixI_get hx) rfl)
                  have f4 := HATn.out.f (n * 5 + 4)
                  have l4 := HATn.out.lt
                  have HXn := Lib.hid hx
                  have HL2 := Lib.hid hl2
                  clear hx hl2
                  go_wp2_with fail
                  go_roundg (sent.length + 1 - (n + 1))
                  case measure => omega
                  case rel =>
                    have h1 := HATn.out.set (n * 5 + 4) (.int .u64 ((2 ^ t : Nat) : Int)) (by
                      rw [flat_len (cs := InpV.cs) (k := 5) (fun _ => rfl), mixI_len, HL2.out]
                      omega)
                    rw [flat_lab t _ n x (mixI_get HXn.out), mixI_set HXn.out, ← HLT.out] at h1
                    exact ⟨n + 1, by omega, rfl, by go_num, h1, HMOn.out.set gs (n * 5 + 4) (.int .u64 Lt) (.inl (by simp))⟩
                · obtain rfl : n = sent.length + 1 := by omega
                  have hl2 : (sent ++ [endI]).length = sent.length + 1 := by simp
                  have hat2 : At wr gs (((sent ++ [endI]).map (labI t)).flatMap InpV.cs) := by
                    have h := HATn.out
                    rw [← hl2, mixI_all] at h
                    exact h
                  have hl3 : ((sent ++ [endI]).map (labI t)).length = sent.length + 1 := by rw [List.length_map]; exact hl2
                  have hri : RdR InpV.cs 5 wr (.slice (some ⟨gs, 0, none⟩) (sent.length + 1) yc2) ((sent ++ [endI]).map (labI t)) [gs] := by
                    have h := rdi_at (cap := yc2) (l := (sent ++ [endI]).map (labI t)) (by rw [hl3]; exact HCAP.out.1) HCAP.out.2 gs hat2
                    rw [hl3] at h
                    exact h
                  have HRI := Lib.hid hri
                  have HW26 := Lib.hid (show Calls Tryz.prog 26 #[.agg #[.slice none 0 0, .int .i64 6, .int .i64 3, .int .i64 4, .int .i64 (-1), .int .i64 (-1)], .slice (some ⟨gs, 0, none⟩) (sent.length + 1) yc2] wr fun e w' => ∃ v, e = .returned v ∧ w'.ownsRow wr.heap.size 64 5 v T2.length (T2.flatMap RowV.cs) ∧ Below wr.heap.size wr w' from by
                    rw [HT2.out]
                    exact wrows_any pipCv [] pipCv_bd _ _ [gs] wr (RdR.nil _ _ _) hri (by rw [hl3]; omega))
                  have HW27 := Lib.hid (fun (w' : World) (hb : Below wr.heap.size wr w') => (show Calls Tryz.prog 27 #[.agg #[.slice none 0 0, .int .i64 6, .int .i64 3, .int .i64 4, .int .i64 (-1), .int .i64 (-1)], .slice (some ⟨gs, 0, none⟩) (sent.length + 1) yc2] w' fun e w'' => e = .returned (.bool true) ∧ Below w'.heap.size w' w'' from by
                    have h := wpast_any pipCv [] pipCv_bd (.slice (some ⟨gs, 0, none⟩) (sent.length + 1) yc2) ((sent ++ [endI]).map (labI t)) [gs] w' (RdR.nil _ _ _) (HRI.out.same (fun z hz => hb.block z (HRI.out.lt z hz))) (by rw [hl3]; omega)
                    have e : ((RunV.new pipCv.m).take ((sent ++ [endI]).map (labI t))).1.opn = [] := HDONE.out.2
                    rw [e] at h
                    exact h))
                  have hpr := HP12.out.mod HMOn.out (by simp; omega)
                  have HPR := Lib.hid hpr
                  have p0 := hpr.c 0 _ rfl
                  have p1 := hpr.c 1 _ rfl
                  have p2 := hpr.c 2 _ rfl
                  have p3 := hpr.c 3 _ rfl
                  have p4 := hpr.c 4 _ rfl
                  have p5 := hpr.c 5 _ rfl
                  have lpr := hpr.lt
                  have HOXr := Lib.hid (own_mod HOX.out HMOn.out (fun z hz hh => by
                    have h1 := own_new HOX.out z hz
                    have h2 : z = gs := by simpa using hh
                    omega))
                  clear hl2 hat2 hl3 hri hpr
                  go_wp2_with (first
                    | (go_at_call 26; (with_reducible refine HW26.out.mono ?_); rintro e w13 ⟨vy, rfl, hoy, hb13⟩; have HOY := Lib.hid hoy; have HB13 := Lib.hid hb13; obtain ⟨ya3, yc3, rfl⟩ := own_shape2 hoy; clear hoy hb13)
                    | (go_at_call 18; (with_reducible refine (sameR _ _ T2 T2 _ (RdR.of_own (cs := RowV.cs) (k := 5) (fun _ => rfl) (own_of_block HOXr.out (fun z hz => HB13.out.block z (own_lt HOXr.out z hz)))).isr (RdR.of_own (cs := RowV.cs) (k := 5) (fun _ => rfl) HOY.out).isr).mono ?_); rintro e w14 ⟨rfl, hb14⟩; rw [show decide (T2 = T2) = true from decide_eq_true rfl]; have HB14 := Lib.hid (below_step HB13.out hb14); have pq := HPR.out.below (below_step HB13.out hb14); have r0 := pq.c 0 _ rfl; have r1 := pq.c 1 _ rfl; have r2 := pq.c 2 _ rfl; have r3 := pq.c 3 _ rfl; have r4 := pq.c 4 _ rfl; have r5 := pq.c 5 _ rfl; clear hb14 pq)
                    | (go_at_call 27; (with_reducible refine (HW27.out _ HB14.out).mono ?_); rintro e w15 ⟨rfl, hb15⟩; have HB15 := Lib.hid (below_step HB14.out hb15); clear hb15)
                    | (go_at_call 15; (with_reducible refine (awake_any _).mono ?_); rintro e w16 ⟨rfl, hb16⟩; have HB16 := Lib.hid (below_step HB15.out hb16); clear hb16))
                  go_ret
                  have h1 : Below W.heap.size W wr := HMOn.out.belowB HBW12.out HBW12.out.size (fun z hz => by
                    have h2 : z = gs := by simpa using hz
                    omega)
                  exact ⟨rfl, below_step h1 HB16.out⟩
end Go.Proofs.YtcanfmabkklidaaGreat
set_option linter.unusedSimpArgs false
set_option linter.unusedVariables false
set_option linter.unnecessarySimpa false
namespace Go.Proofs.YtcanfmabkklidaaGreat
open Go.RowKit

set_option maxRecDepth 100000 in
theorem complete_walk (W : World) {base : Nat} (v0 : Value) (h0 : Value.okWide Tryz.prog W .any base 24 v0) (r0 : Rd Tryz.prog W 24 v0.cells.toList) (a1 : Option Addr) (len1 cap1 : Nat) (r1 : Rd Tryz.prog W 25 [.slice a1 len1 cap1]) (a2 : Option Addr) (len2 cap2 : Nat) (r2 : Rd Tryz.prog W 25 [.slice a2 len2 cap2]) (a3 : Int) (w3 : (Lit.int .i64 a3).wf = true) :
    Calls Tryz.prog 7 #[v0, .slice a1 len1 cap1, .slice a2 len2 cap2, .int .i64 a3] W fun e w' => e = .returned (.bool true) ∧ Below W.heap.size W w' := by
  obtain ⟨kb, kr, kq, vs, ks, rfl, hks⟩ := setup_open h0 r0
  obtain ⟨l, _, hl, hlo⟩ := kacts_of r1
  obtain ⟨m, _, hm, hmo⟩ := kacts_of r2
  exact complete_any W kb kr kq vs ks hks _ _ l m hl hlo hm hmo a3
end Go.Proofs.YtcanfmabkklidaaGreat
