/- What Acts makes of numbers. -/
import Derived.Test.YtemmekpmoigdeaaInp
set_option linter.unusedSimpArgs false
set_option linter.unusedVariables false
set_option linter.unnecessarySimpa false
namespace Go.Proofs.Ytemmekpmoigdeaa
open Go.RowKit

structure KActV where
  kind : Int
  tenant : Int
  frm : Int
  n : Int
  ops : Value
  ol : List Int
  ns : Value
  nl : List Int
  size : Int
  slide : Int
  agg : Int
  sink : Int
  feed : Int
  inp : InV
def KActV.cs (k : KActV) : List Value := [.int .i64 k.kind, .int .i64 k.tenant, .int .i64 k.frm, .int .i64 k.n, k.ops, k.ns, .int .i64 k.size, .int .i64 k.slide, .int .i64 k.agg, .int .i64 k.sink, .int .i64 k.feed, .int .i64 k.inp.time, .int .i64 k.inp.key, .int .i64 k.inp.value, .int .i64 k.inp.mark]
structure KActV.ok (w : World) (k : KActV) : Prop where
  o : IsL w k.ops k.ol
  n : IsL w k.ns k.nl
structure ActBd (x : ActV) : Prop where
  k1 : 1 ≤ x.kind
  k2 : x.kind ≤ 5
  t1 : 0 ≤ x.tenant
  t2 : x.tenant ≤ 3
  f1 : -1 ≤ x.frm
  f2 : x.frm ≤ 6
  n1 : -1 ≤ x.n
  n2 : x.n ≤ 9
  pipe : x.kind = 1 → PipeBd x.pipe
  inp : x.kind = 2 → InpBd ⟨x.mark, x.time, x.key, x.value, x.label⟩
theorem At.put0 {w : World} {b : Nat} {x0 x1 x2 x3 x4 x5 x6 x7 x8 x9 x10 x11 x12 x13 x14 : Value} (h : At w b [x0, x1, x2, x3, x4, x5, x6, x7, x8, x9, x10, x11, x12, x13, x14]) (y0 : Value) : At (w.setCell ⟨b, 0, none⟩ y0) b [y0, x1, x2, x3, x4, x5, x6, x7, x8, x9, x10, x11, x12, x13, x14] := by
  have h0 : At _ b [y0, x1, x2, x3, x4, x5, x6, x7, x8, x9, x10, x11, x12, x13, x14] := h.set 0 y0 (by simp)
  exact h0
theorem At.putP {w : World} {b : Nat} {x0 x1 x2 x3 x4 x5 x6 x7 x8 x9 x10 x11 x12 x13 x14 : Value} (h : At w b [x0, x1, x2, x3, x4, x5, x6, x7, x8, x9, x10, x11, x12, x13, x14]) (y0 y4 y5 y6 y7 y8 y9 : Value) : At (((((((w.setCell ⟨b, 0, none⟩ y0).setCell ⟨b, 4, none⟩ y4).setCell ⟨b, 5, none⟩ y5).setCell ⟨b, 6, none⟩ y6).setCell ⟨b, 7, none⟩ y7).setCell ⟨b, 8, none⟩ y8).setCell ⟨b, 9, none⟩ y9) b [y0, x1, x2, x3, y4, y5, y6, y7, y8, y9, x10, x11, x12, x13, x14] := by
  have h0 : At _ b [y0, x1, x2, x3, x4, x5, x6, x7, x8, x9, x10, x11, x12, x13, x14] := h.set 0 y0 (by simp)
  have h1 : At _ b [y0, x1, x2, x3, y4, x5, x6, x7, x8, x9, x10, x11, x12, x13, x14] := h0.set 4 y4 (by simp)
  have h2 : At _ b [y0, x1, x2, x3, y4, y5, x6, x7, x8, x9, x10, x11, x12, x13, x14] := h1.set 5 y5 (by simp)
  have h3 : At _ b [y0, x1, x2, x3, y4, y5, y6, x7, x8, x9, x10, x11, x12, x13, x14] := h2.set 6 y6 (by simp)
  have h4 : At _ b [y0, x1, x2, x3, y4, y5, y6, y7, x8, x9, x10, x11, x12, x13, x14] := h3.set 7 y7 (by simp)
  have h5 : At _ b [y0, x1, x2, x3, y4, y5, y6, y7, y8, x9, x10, x11, x12, x13, x14] := h4.set 8 y8 (by simp)
  have h6 : At _ b [y0, x1, x2, x3, y4, y5, y6, y7, y8, y9, x10, x11, x12, x13, x14] := h5.set 9 y9 (by simp)
  exact h6
theorem At.putI {w : World} {b : Nat} {x0 x1 x2 x3 x4 x5 x6 x7 x8 x9 x10 x11 x12 x13 x14 : Value} (h : At w b [x0, x1, x2, x3, x4, x5, x6, x7, x8, x9, x10, x11, x12, x13, x14]) (y0 y10 y11 y12 y13 y14 : Value) : At ((((((w.setCell ⟨b, 0, none⟩ y0).setCell ⟨b, 10, none⟩ y10).setCell ⟨b, 11, none⟩ y11).setCell ⟨b, 12, none⟩ y12).setCell ⟨b, 13, none⟩ y13).setCell ⟨b, 14, none⟩ y14) b [y0, x1, x2, x3, x4, x5, x6, x7, x8, x9, y10, y11, y12, y13, y14] := by
  have h0 : At _ b [y0, x1, x2, x3, x4, x5, x6, x7, x8, x9, x10, x11, x12, x13, x14] := h.set 0 y0 (by simp)
  have h1 : At _ b [y0, x1, x2, x3, x4, x5, x6, x7, x8, x9, y10, x11, x12, x13, x14] := h0.set 10 y10 (by simp)
  have h2 : At _ b [y0, x1, x2, x3, x4, x5, x6, x7, x8, x9, y10, y11, x12, x13, x14] := h1.set 11 y11 (by simp)
  have h3 : At _ b [y0, x1, x2, x3, x4, x5, x6, x7, x8, x9, y10, y11, y12, x13, x14] := h2.set 12 y12 (by simp)
  have h4 : At _ b [y0, x1, x2, x3, x4, x5, x6, x7, x8, x9, y10, y11, y12, y13, x14] := h3.set 13 y13 (by simp)
  have h5 : At _ b [y0, x1, x2, x3, x4, x5, x6, x7, x8, x9, y10, y11, y12, y13, y14] := h4.set 14 y14 (by simp)
  exact h5

theorem IsR.of_row4 (w : World) (x : InV) (e : TypeId) : IsR InV.cs 4 (w.alloc (.cells #[.int .i64 x.time, .int .i64 x.key, .int .i64 x.value, .int .i64 x.mark] e)) (.slice (some ⟨w.heap.size, 0, none⟩) 1 1) [x] := by
  refine ⟨_, 1, rfl, Nat.le_refl _, by unfold maxLen; simp, w.heap.size, 0, fun _ => ⟨rfl, by simp⟩, fun i y hi j u hj => ?_⟩
  match i, hi with
  | 0, hi =>
    obtain rfl : x = y := by simpa using hi
    refine cell_new _ _ _ _ _ _ rfl ?_
    simpa [InV.cs] using hj
/-- a pipe's operations lie in a row of their own -/
def ActV.row (w : World) (a : ActV) : Prop := w.ownsRow 0 76 2 a.pipe.ops a.pipe.ol.length (a.pipe.ol.flatMap OpV.cs)
theorem ActV.row.ok {w : World} {a : ActV} (h : a.row w) : a.ok w := IsR.of_own opcs_len h
theorem ActV.row.alloc {w : World} {a : ActV} (h : a.row w) (o : Obj) : a.row (w.alloc o) := World.ownsRow.alloc h o
theorem ActV.row.drew {w : World} {a : ActV} (h : a.row w) : a.row w.drew := World.ownsRow.drew h
theorem ActV.row.kept {w w' : World} {a : ActV} (h : a.row w) (hb : Below w.heap.size w w') : a.row w' := World.ownsRow.kept h (grown_of_below hb none) (Classical.em _)
theorem ActV.row.grown {w w' : World} {a : ActV} (h : a.row w) {b : Nat} {e : TypeId} {s : Nat} {v : Value} {n : Nat} {xs : List Value} (ho : w.ownsRow b e s v n xs) (he : 76 ≠ e) (hg : w.grownBy w' v.ownBlock) : a.row w' := World.ownsRow.kept h hg (rows_apart h ho he)
theorem ActV.row.set {w : World} {a : ActV} (h : a.row w) (p : Addr) (v : Value) (hp : a.pipe.ops.ownBlock ≠ some p.block) : a.row (w.setCell p v) := ownsRow_setCell_other h hp v
theorem ActV.row.nil (w : World) (k t f n : Int) (m : Bool) (a b c d : Int) (z1 z2 z3 z4 z5 : Int) : ActV.row w ⟨k, t, f, n, ⟨.slice none 0 0, [], z1, z2, z3, z4, z5⟩, m, a, b, c, d⟩ := World.ownsRow_nil _ _ _ _
theorem ActV.row.ne {w : World} {a : ActV} (h : a.row w) {b : Nat} (hb : w.heap.size ≤ b) : a.pipe.ops.ownBlock ≠ some b := fun e => by have := (World.ownsRow.lt h b e).2; omega
theorem own_shape {w : World} {base : Nat} {e : TypeId} {s : Nat} {v : Value} {n : Nat} {xs : List Value} (h : w.ownsRow base e s v n xs) : ∃ pa pl pc, v = .slice pa pl pc := by
  rcases h.2 with ⟨rfl, _⟩ | ⟨g, cap, cur, rfl, _⟩
  · exact ⟨_, _, _, rfl⟩
  · exact ⟨_, _, _, rfl⟩
theorem own_ne {w : World} {base : Nat} {e : TypeId} {s : Nat} {v : Value} {n : Nat} {xs : List Value} (h : w.ownsRow base e s v n xs) {b : Nat} (hb : w.heap.size ≤ b) : v.ownBlock ≠ some b := fun e => by have := (h.lt b e).2; omega
theorem IsR.drew {α : Type} {cs : α → List Value} {k : Nat} {w : World} {v : Value} {l : List α} (h : IsR cs k w v l) : IsR cs k w.drew v l := h.kept ((Below.refl _ w).drew)
/-- what a call that makes a list of acts leaves -/
def RetK (W : World) (n : Nat) (e : Ending) (w' : World) : Prop := ∃ (v : Value) (r : List ActV), e = .returned v ∧ w'.ownsRow W.heap.size 31 15 v r.length (cellsA r) ∧ r.length = n ∧ (∀ x ∈ r, ActBd x ∧ x.row w') ∧ Below W.heap.size W w'

set_option maxRecDepth 100000 in
set_option maxHeartbeats 16000000 in
theorem acts_any (W : World) (v : Value) (l : List KActV) (h : IsR KActV.cs 15 W v l) (hok : ∀ k ∈ l, k.ok W) :
    Calls Try.prog 14 #[v] W (RetK W (min l.length 40)) := by
  obtain ⟨al, cl, rfl, hl1, hl2, bl, ol, hl3, hl4⟩ := h
  unfold maxLen at hl2
  have H3 := Lib.hid hl3
  have H4 := Lib.hid hl4
  have HOK := Lib.hid hok
  clear hl3 hl4 hok
  obtain ⟨n, hn⟩ : ∃ n, n = min l.length 40 := ⟨_, rfl⟩
  rw [← hn]
  have hn1 : n ≤ 40 := by omega
  have hn2 : n ≤ l.length := by omega
  have HN3 := Lib.hid (show n = l.length ∨ n = 40 by omega)
  clear hn
  go_enter Try.func14, Try.ntmps14
  go_wp2_with fail
  go_loopg [3, 4] n (fun g v3 v4 wr => ∃ (i : Nat) (va : Option Addr) (vc : Nat) (L : List ActV), i ≤ n ∧ g = n - i ∧ v3 = .slice va i vc ∧ v4 = .int .i64 i ∧ L.length = i ∧ (∀ o ∈ L, ActBd o ∧ o.row wr) ∧ wr.ownsRow W.heap.size 31 15 (.slice va i vc) i (cellsA L) ∧ Below W.heap.size W wr)
  case atStart => exact ⟨0, none, 0, [], by omega, by omega, rfl, rfl, rfl, by simp, World.ownsRow_nil _ _ _ _, Below.refl _ _⟩
  case round =>
    obtain ⟨i, va, vc, L, hi, rfl, rfl, rfl, hL, hbd, ho, hb⟩ := hrel
    have HOr := Lib.hid ho
    have HBr := Lib.hid hb
    have HBD := Lib.hid hbd
    have HLr := Lib.hid hL
    have hb2 : W.heap.size ≤ wr.heap.size := hb.size
    obtain ⟨i0, hi3, hz0, hz1, hz2⟩ := info_parts info31
    have HI := Lib.hid (And.intro hi3 (And.intro hz0 (And.intro hz1 hz2)))
    clear hi3 hz0 hz1 hz2 ho hb hbd hL
    by_cases hlt : i < n
    · have hlt1 : i < 40 := by omega
      have hlt2 : i < l.length := by omega
      obtain ⟨rfl, hbl⟩ := H3.out (by omega)
      obtain ⟨x, hx⟩ : ∃ x, l[i]? = some x := ⟨l[i], by simp [hlt2]⟩
      have HX := Lib.hid (fun (j : Nat) (u : Value) (hj : x.cs[j]? = some u) => (HBr.out.cell (p := ⟨bl, ol + i * 15 + j, none⟩) hbl).trans (H4.out i x hx j u hj))
      have HKO := Lib.hid (HOK.out x (List.mem_of_getElem? hx))
      clear hx
      obtain ⟨kk, kt, kf, kn, vo, ol', vn, nl, sz, sl, ag, si, fd, ⟨T, K, V, M⟩⟩ := x
      obtain ⟨hok1, hok2⟩ := HKO.out
      have HO1 := Lib.hid hok1
      have HN1 := Lib.hid hok2
      obtain ⟨oa, oc, hv1, _⟩ := hok1
      obtain ⟨na, nc, hv2, _⟩ := hok2
      simp only at hv1 hv2 HO1 HN1
      subst hv1 hv2
      clear HKO
      have c0 := HX.out 0 _ rfl
      have c1 := HX.out 1 _ rfl
      have c2 := HX.out 2 _ rfl
      have c3 := HX.out 3 _ rfl
      have c4 := HX.out 4 _ rfl
      have c5 := HX.out 5 _ rfl
      have c6 := HX.out 6 _ rfl
      have c7 := HX.out 7 _ rfl
      have c8 := HX.out 8 _ rfl
      have c9 := HX.out 9 _ rfl
      have c10 := HX.out 10 _ rfl
      have c11 := HX.out 11 _ rfl
      have c12 := HX.out 12 _ rfl
      have c13 := HX.out 13 _ rfl
      have c14 := HX.out 14 _ rfl
      simp only [Nat.add_zero] at c0
      clear HX
      go_wp2_with fail
      refine wp_region_plS (fun x => At x wr.heap.size [.int .i64 kk, .int .i64 kt, .int .i64 kf, .int .i64 kn, .slice oa ol'.length oc, .slice na nl.length nc, .int .i64 sz, .int .i64 sl, .int .i64 ag, .int .i64 si, .int .i64 fd, .int .i64 T, .int .i64 K, .int .i64 V, .int .i64 M]) (fun w0 => At w0 wr.heap.size [.int .i64 kk, .int .i64 kt, .int .i64 kf, .int .i64 kn, .slice oa ol'.length oc, .slice na nl.length nc, .int .i64 sz, .int .i64 sl, .int .i64 ag, .int .i64 si, .int .i64 fd, .int .i64 T, .int .i64 K, .int .i64 V, .int .i64 M] ∧ Below W.heap.size W w0 ∧ w0.ownsRow W.heap.size 31 15 (.slice va i vc) i (cellsA L) ∧ (∀ o ∈ L, o.row w0) ∧ wr.heap.size + 1 ≤ w0.heap.size) ?ph6 (fun w0 h => h.1.drew) (.take 0 <| .take 1 <| .take 2 <| .take 3 <| .take 4 <| .take 5 <| .take 6 <| .take 7 <| .take 8 <| .take 9 <| .doo 10 <| .doo 11 <| .done) ?plL6 (by kernel_rfl) (by kernel_rfl) (by kernel_rfl) ?plH6 (by intro c a d v w; cases d <;> exact fun h => h) ?_
      case plH6 =>
        simp only [Pl.with, List.getElem?_toArray, List.getElem?_cons_zero, List.getElem?_cons_succ]
        try rfl
      case ph6 => exact ⟨At.new wr _ _, HBr.out.alloc hb2 _, HOr.out.alloc _, fun o ho => (HBD.out o ho).2.alloc _, by simp⟩
      rintro w1 ⟨ha, hb1, ho1, hr1, hsz⟩
      have HR1 := Lib.hid hr1
      have HA := Lib.hid ha
      have HB1 := Lib.hid hb1
      have HW1 := Lib.hid ho1
      have hsz1 : wr.heap.size < w1.heap.size := by omega
      clear ha hb1 ho1 hr1 hsz
      have q1 : ∀ x, At x wr.heap.size [.int .i64 kk, .int .i64 kt, .int .i64 kf, .int .i64 kn, .slice oa ol'.length oc, .slice na nl.length nc, .int .i64 sz, .int .i64 sl, .int .i64 ag, .int .i64 si, .int .i64 fd, .int .i64 T, .int .i64 K, .int .i64 V, .int .i64 M] → x.cell? ⟨wr.heap.size, 1, none⟩ = some (.int .i64 kt) := fun x hx => hx.c 1 _ rfl
      have q2 : ∀ x, At x wr.heap.size [.int .i64 kk, .int .i64 kt, .int .i64 kf, .int .i64 kn, .slice oa ol'.length oc, .slice na nl.length nc, .int .i64 sz, .int .i64 sl, .int .i64 ag, .int .i64 si, .int .i64 fd, .int .i64 T, .int .i64 K, .int .i64 V, .int .i64 M] → x.cell? ⟨wr.heap.size, 2, none⟩ = some (.int .i64 kf) := fun x hx => hx.c 2 _ rfl
      have q3 : ∀ x, At x wr.heap.size [.int .i64 kk, .int .i64 kt, .int .i64 kf, .int .i64 kn, .slice oa ol'.length oc, .slice na nl.length nc, .int .i64 sz, .int .i64 sl, .int .i64 ag, .int .i64 si, .int .i64 fd, .int .i64 T, .int .i64 K, .int .i64 V, .int .i64 M] → x.cell? ⟨wr.heap.size, 3, none⟩ = some (.int .i64 kn) := fun x hx => hx.c 3 _ rfl
      iterate 2 (refine wpPl_take (v := ?_) (by rfl) (fun w' hS => ?_) ?_; rotate_left; (focus (go_simp; with_reducible rfl)); simp only [Act.put, List.setIfInBounds_toArray, List.set_cons_zero, List.set_cons_succ])
      (refine wpPl_call (v := .int .i64 (within kt 0 3)) (f := 12) (args := #[.int .i64 kt, .int .i64 0, .int .i64 3]) (by rfl) (fun w' hS => ?_) (fun w' hS => within_any _ _ _ _ (by omega) (by omega) (by omega)) ?_; (focus (go_simp; done)); simp only [Act.put, List.setIfInBounds_toArray, List.set_cons_zero, List.set_cons_succ])
      iterate 2 (refine wpPl_take (v := ?_) (by rfl) (fun w' hS => ?_) ?_; rotate_left; (focus (go_simp; with_reducible rfl)); simp only [Act.put, List.setIfInBounds_toArray, List.set_cons_zero, List.set_cons_succ])
      (refine wpPl_call (v := .int .i64 (within kf (-1) 6)) (f := 12) (args := #[.int .i64 kf, .int .i64 (-1), .int .i64 6]) (by rfl) (fun w' hS => ?_) (fun w' hS => within_any _ _ _ _ (by omega) (by omega) (by omega)) ?_; (focus (go_simp; done)); simp only [Act.put, List.setIfInBounds_toArray, List.set_cons_zero, List.set_cons_succ])
      iterate 2 (refine wpPl_take (v := ?_) (by rfl) (fun w' hS => ?_) ?_; rotate_left; (focus (go_simp; with_reducible rfl)); simp only [Act.put, List.setIfInBounds_toArray, List.set_cons_zero, List.set_cons_succ])
      (refine wpPl_call (v := .int .i64 (within kn (-1) 9)) (f := 12) (args := #[.int .i64 kn, .int .i64 (-1), .int .i64 9]) (by rfl) (fun w' hS => ?_) (fun w' hS => within_any _ _ _ _ (by omega) (by omega) (by omega)) ?_; (focus (go_simp; done)); simp only [Act.put, List.setIfInBounds_toArray, List.set_cons_zero, List.set_cons_succ])
      clear q1 q2 q3
      have b1 := within_bd kt 0 3 (by omega)
      have b2 := within_bd kf (-1) 6 (by omega)
      have b3 := within_bd kn (-1) 9 (by omega)
      have b4 := within_bd kk 0 9 (by omega)
      obtain ⟨tn, ht⟩ : ∃ t, within kt 0 3 = t := ⟨_, rfl⟩
      obtain ⟨fr, hf⟩ : ∃ t, within kf (-1) 6 = t := ⟨_, rfl⟩
      obtain ⟨nn, hn⟩ : ∃ t, within kn (-1) 9 = t := ⟨_, rfl⟩
      obtain ⟨c, hc⟩ : ∃ t, within kk 0 9 = t := ⟨_, rfl⟩
      rw [ht] at b1
      rw [hf] at b2
      rw [hn] at b3
      rw [hc] at b4
      have HC := Lib.hid hc
      simp only [ht, hf, hn]
      clear ht hf hn hc
      iterate 1 (refine wpPl_take (v := ?_) (by rfl) (fun w' hS => ?_) ?_; rotate_left; (focus (go_simp; with_reducible rfl)); simp only [Act.put, List.setIfInBounds_toArray, List.set_cons_zero, List.set_cons_succ])
      refine wpPl_do (by rfl) (fun K hK => ?_)
      go_wp2_with fail
      refine ⟨HA.out.drew.alloc _, ?_⟩
      refine wpPl_do (by rfl) (fun K hK => ?_)
      go_wp2_with fail
      refine ⟨(HA.out.alloc _).drew, ?_⟩
      refine wpPl_done ?_
      have k0 := HA.out.c 0 _ rfl
      go_upto_block 2 with (go_at_call 12; (with_reducible refine (within_any _ _ _ _ (by omega) (by omega) (by omega)).mono ?_); rintro e w1 ⟨rfl, rfl⟩; rw [HC.out])
      clear k0
      go_cut [35] (fun s35 wx => ∃ (x : ActV) (pa : Option Addr) (pl pc : Nat), x.pipe.ops = .slice pa pl pc ∧ At wx w1.heap.size x.cs ∧ ActBd x ∧ x.row wx ∧ wx.ownsRow W.heap.size 31 15 (.slice va i vc) i (cellsA L) ∧ (∀ o ∈ L, o.row wx) ∧ Below W.heap.size W wx)
      case first =>
        rcases (by omega : c = 0 ∨ c = 1 ∨ c = 2 ∨ c = 3 ∨ c = 4 ∨ c = 5 ∨ c = 6 ∨ c = 7 ∨ c = 8 ∨ c = 9) with hcc | hcc | hcc | hcc | hcc | hcc | hcc | hcc | hcc | hcc
        · subst hcc
          have k4 := HA.out.c 4 _ rfl
          have k5 := HA.out.c 5 _ rfl
          have k6 := HA.out.c 6 _ rfl
          have k7 := HA.out.c 7 _ rfl
          have k8 := HA.out.c 8 _ rfl
          have k9 := HA.out.c 9 _ rfl
          have k10 := HA.out.c 10 _ rfl
          go_wp2_with (go_at_call 23; (with_reducible refine (pipe_any _ _ _ ol' nl sz sl ag si fd (HO1.out.kept (HB1.out.alloc HB1.out.size _).drew) (HN1.out.kept (HB1.out.alloc HB1.out.size _).drew)).mono ?_); rintro e w2 ⟨p, rfl, hrow, hbdp, hb⟩; have HROW := Lib.hid hrow; have HBP := Lib.hid hbdp; have HB2 := Lib.hid (below_step (HB1.out.alloc HB1.out.size _).drew hb); have HT2 := Lib.hid (show At w2 w1.heap.size [.int .i64 0, .int .i64 tn, .int .i64 fr, .int .i64 nn, .slice none 0 0, .int .i64 0, .int .i64 0, .int .i64 0, .int .i64 0, .int .i64 0, .bool false, .int .i64 0, .int .i64 0, .int .i64 0, .int .u64 0] from ((At.new w1 _ _).drew).below hb); have HO2 := Lib.hid (((HW1.out.alloc _).drew).kept (grown_of_below hb none) (Classical.em _)); have HR2 := Lib.hid (fun (o : ActV) (ho : o ∈ L) => (((HR1.out o ho).alloc _).drew).kept hb); have hsz2 := hb.size; simp at hsz2; clear hrow hbdp hb; obtain ⟨po, p2, p3, p4, p5, p6, p7⟩ := p; obtain ⟨pa, pl, pc, hpo⟩ := (show ∃ pa pl pc, po = .slice pa pl pc from own_shape HROW.out); subst hpo; simp only [PipeV.val]; have s0 := HT2.out.c 0 _ rfl; have s4 := HT2.out.c 4 _ rfl; have s5 := HT2.out.c 5 _ rfl; have s6 := HT2.out.c 6 _ rfl; have s7 := HT2.out.c 7 _ rfl; have s8 := HT2.out.c 8 _ rfl; have s9 := HT2.out.c 9 _ rfl; have f0 := HT2.out.f 0; have f4 := HT2.out.f 4; have f5 := HT2.out.f 5; have f6 := HT2.out.f 6; have f7 := HT2.out.f 7; have f8 := HT2.out.f 8; have f9 := HT2.out.f 9)
          go_meet
          case rel =>
            have hneL : ∀ o ∈ L, o.pipe.ops.ownBlock ≠ some w1.heap.size := fun o ho => (HR1.out o ho).ne (Nat.le_refl _)
            have hneO := own_ne HW1.out (Nat.le_refl w1.heap.size)
            have hneP : (Value.slice pa pl pc).ownBlock ≠ some w1.heap.size := fun e => by have := (HROW.out.lt _ e).1; simp at this; omega
            have hrow : ActV.row w2 ⟨1, tn, fr, nn, ⟨.slice pa pl pc, p2, p3, p4, p5, p6, p7⟩, false, 0, 0, 0, 0⟩ := ownsRow_base HROW.out (Nat.zero_le _)
            have hle := HB1.out.size
            refine ⟨⟨1, tn, fr, nn, ⟨.slice pa pl pc, p2, p3, p4, p5, p6, p7⟩, false, 0, 0, 0, 0⟩, pa, pl, pc, rfl, At.putP HT2.out _ _ _ _ _ _ _, ⟨by simp, by simp, b1.1, b1.2, b2.1, b2.2, b3.1, b3.2, fun _ => HBP.out, fun h => by simp at h⟩, ?_, ?_, fun o ho => ?_, ?_⟩
            · exact (((((((hrow).set _ _ hneP).set _ _ hneP).set _ _ hneP).set _ _ hneP).set _ _ hneP).set _ _ hneP).set _ _ hneP
            · exact ownsRow_setCell_other (ownsRow_setCell_other (ownsRow_setCell_other (ownsRow_setCell_other (ownsRow_setCell_other (ownsRow_setCell_other (ownsRow_setCell_other (HO2.out) hneO _) hneO _) hneO _) hneO _) hneO _) hneO _) hneO _
            · exact ((((((((HR2.out o ho)).set _ _ (hneL o ho)).set _ _ (hneL o ho)).set _ _ (hneL o ho)).set _ _ (hneL o ho)).set _ _ (hneL o ho)).set _ _ (hneL o ho)).set _ _ (hneL o ho)
            · exact (((((((HB2.out).setCell hle _).setCell hle _).setCell hle _).setCell hle _).setCell hle _).setCell hle _).setCell hle _
        · subst hcc
          go_wp2_with fail
          refine wp_region_plS (fun x => At x wr.heap.size [.int .i64 kk, .int .i64 kt, .int .i64 kf, .int .i64 kn, .slice oa ol'.length oc, .slice na nl.length nc, .int .i64 sz, .int .i64 sl, .int .i64 ag, .int .i64 si, .int .i64 fd, .int .i64 T, .int .i64 K, .int .i64 V, .int .i64 M]) (fun w0 => At w0 wr.heap.size [.int .i64 kk, .int .i64 kt, .int .i64 kf, .int .i64 kn, .slice oa ol'.length oc, .slice na nl.length nc, .int .i64 sz, .int .i64 sl, .int .i64 ag, .int .i64 si, .int .i64 fd, .int .i64 T, .int .i64 K, .int .i64 V, .int .i64 M] ∧ At w0 w1.heap.size [.int .i64 0, .int .i64 tn, .int .i64 fr, .int .i64 nn, .slice none 0 0, .int .i64 0, .int .i64 0, .int .i64 0, .int .i64 0, .int .i64 0, .bool false, .int .i64 0, .int .i64 0, .int .i64 0, .int .u64 0] ∧ Below W.heap.size W w0 ∧ w0.ownsRow W.heap.size 31 15 (.slice va i vc) i (cellsA L) ∧ (∀ o ∈ L, o.row w0) ∧ w1.heap.size + 1 ≤ w0.heap.size) ?ph16_1 (fun w0 h => h.1.drew) (.take 0 <| .take 1 <| .take 6 <| .doo 2 <| .doo 3 <| .take 4 <| .two 5 7 <| .take 8 <| .doo 9 <| .done) ?plL16_1 (by kernel_rfl) (by kernel_rfl) (by kernel_rfl) ?plH16_1 (by intro c a d v w; cases d <;> exact fun h => h) ?_
          case plH16_1 =>
            simp only [Pl.with, List.getElem?_toArray, List.getElem?_cons_zero, List.getElem?_cons_succ]
            try rfl
          case ph16_1 => exact ⟨(HA.out.alloc _).drew, (At.new w1 _ _).drew, (HB1.out.alloc HB1.out.size _).drew, (HW1.out.alloc _).drew, fun o ho => ((HR1.out o ho).alloc _).drew, by simp⟩
          rintro w6 ⟨ha6, ht6, hb6, ho6, hr6, hsz6⟩
          have HT6 := Lib.hid ht6
          have HB6 := Lib.hid hb6
          have HO6 := Lib.hid ho6
          have HR6 := Lib.hid hr6
          have HA6 := Lib.hid ha6
          have hle := HB1.out.size
          clear ha6 ht6 hb6 ho6 hr6
          have q1 : ∀ x, At x wr.heap.size [.int .i64 kk, .int .i64 kt, .int .i64 kf, .int .i64 kn, .slice oa ol'.length oc, .slice na nl.length nc, .int .i64 sz, .int .i64 sl, .int .i64 ag, .int .i64 si, .int .i64 fd, .int .i64 T, .int .i64 K, .int .i64 V, .int .i64 M] → x.cell? ⟨wr.heap.size, 11, none⟩ = some (.int .i64 T) := fun x hx => hx.c 11 _ rfl
          have q2 : ∀ x, At x wr.heap.size [.int .i64 kk, .int .i64 kt, .int .i64 kf, .int .i64 kn, .slice oa ol'.length oc, .slice na nl.length nc, .int .i64 sz, .int .i64 sl, .int .i64 ag, .int .i64 si, .int .i64 fd, .int .i64 T, .int .i64 K, .int .i64 V, .int .i64 M] → x.cell? ⟨wr.heap.size, 12, none⟩ = some (.int .i64 K) := fun x hx => hx.c 12 _ rfl
          have q3 : ∀ x, At x wr.heap.size [.int .i64 kk, .int .i64 kt, .int .i64 kf, .int .i64 kn, .slice oa ol'.length oc, .slice na nl.length nc, .int .i64 sz, .int .i64 sl, .int .i64 ag, .int .i64 si, .int .i64 fd, .int .i64 T, .int .i64 K, .int .i64 V, .int .i64 M] → x.cell? ⟨wr.heap.size, 13, none⟩ = some (.int .i64 V) := fun x hx => hx.c 13 _ rfl
          have q4 : ∀ x, At x wr.heap.size [.int .i64 kk, .int .i64 kt, .int .i64 kf, .int .i64 kn, .slice oa ol'.length oc, .slice na nl.length nc, .int .i64 sz, .int .i64 sl, .int .i64 ag, .int .i64 si, .int .i64 fd, .int .i64 T, .int .i64 K, .int .i64 V, .int .i64 M] → x.cell? ⟨wr.heap.size, 14, none⟩ = some (.int .i64 M) := fun x hx => hx.c 14 _ rfl
          iterate 3 (refine wpPl_take (v := ?_) (by rfl) (fun w' hS => ?_) ?_; rotate_left; (focus (go_simp; with_reducible rfl)); simp only [Act.put, List.setIfInBounds_toArray, List.set_cons_zero, List.set_cons_succ])
          clear q1 q2 q3 q4
          refine wpPl_do (by rfl) (fun KK hKK => ?_)
          go_wp2_with fail
          refine ⟨HA6.out.drew.alloc _, ?_⟩
          refine wpPl_do (by rfl) (fun KK hKK => ?_)
          go_wp2_with (go_at_call 24; (with_reducible refine (inputs_any _ _ [⟨T, K, V, M⟩] (IsR.of_row4 w6 ⟨T, K, V, M⟩ _).drew).mono ?_); rintro e w7 ⟨vr, r, rfl, hor, hlr, hbdr, hb7⟩; have HLR := Lib.hid hlr; have HBDR := Lib.hid hbdr; have HOR := Lib.hid hor; have HA7 := Lib.hid (((HA6.out.alloc _).drew).below hb7); have HT7 := Lib.hid (((HT6.out.alloc _).drew).below hb7); have HB7 := Lib.hid (below_step ((HB6.out.alloc HB6.out.size _).drew) hb7); have HO7 := Lib.hid (((HO6.out.alloc _).drew).kept (grown_of_below hb7 none) (Classical.em _)); have HR7 := Lib.hid (fun (o : ActV) (ho : o ∈ L) => (((HR6.out o ho).alloc _).drew).kept hb7); have hsz7 := hb7.size; simp at hsz7; clear hlr hbdr hor hb7)
          refine ⟨HA7.out, ?_⟩
          obtain ⟨y, rfl⟩ : ∃ y, r = [y] := by
            have := HLR.out
            match r, this with
            | [y], _ => exact ⟨y, rfl⟩
          obtain ⟨g7, cap7, hvr, hg7, _, hcap7, _, hcs7⟩ := own_form HOR.out (by simp)
          simp only [List.length_cons, List.length_nil, Nat.zero_add] at hvr
          subst hvr
          have hc7 : 1 ≤ cap7 := by simpa using hcap7
          have HC7 := Lib.hid hcs7
          have HBY := Lib.hid (HBDR.out y (by simp))
          obtain ⟨ym, yt, yk, yv, yl⟩ := y
          have z0 := HC7.out 0 _ rfl
          have z1 := HC7.out 1 _ rfl
          have z2 := HC7.out 2 _ rfl
          have z3 := HC7.out 3 _ rfl
          have z4 := HC7.out 4 _ rfl
          clear hcs7 hcap7
          simp at hg7
          iterate 1 (refine wpPl_take (v := ?_) (by rfl) (fun w' hS => ?_) ?_; rotate_left; (focus (go_simp; with_reducible rfl)); simp only [Act.put, List.setIfInBounds_toArray, List.set_cons_zero, List.set_cons_succ])
          have s0 := HT7.out.c 0 _ rfl
          have s10 := HT7.out.c 10 _ rfl
          have s11 := HT7.out.c 11 _ rfl
          have s12 := HT7.out.c 12 _ rfl
          have s13 := HT7.out.c 13 _ rfl
          have s14 := HT7.out.c 14 _ rfl
          have f0 := HT7.out.f 0
          have f10 := HT7.out.f 10
          have f11 := HT7.out.f 11
          have f12 := HT7.out.f 12
          have f13 := HT7.out.f 13
          have f14 := HT7.out.f 14
          have HA7b := Lib.hid (show At (w7.setCell ⟨w1.heap.size, 0, none⟩ (.int .i64 2)) wr.heap.size [.int .i64 kk, .int .i64 kt, .int .i64 kf, .int .i64 kn, .slice oa ol'.length oc, .slice na nl.length nc, .int .i64 sz, .int .i64 sl, .int .i64 ag, .int .i64 si, .int .i64 fd, .int .i64 T, .int .i64 K, .int .i64 V, .int .i64 M] from HA7.out.other _ _ (by simp; omega))
          refine wpPl_two (fun u v y => u = .agg #[.bool ym, .int .i64 yt, .int .i64 yk, .int .i64 yv, .int .u64 yl] ∧ y = w7.setCell ⟨w1.heap.size, 0, none⟩ (.int .i64 2)) (by rfl) (by rfl) (by rintro d ⟨⟩; simp) (fun KK hKK => ?_) (fun KK hKK => ?_) ?_
          · go_wp2_with fail
            refine ⟨HA7.out, wpOne_do (by rfl) (fun KK hKK => ?_)⟩
            go_wp2_with fail
            first | exact HA7b.out | exact ⟨HA7b.out, rfl⟩ | exact ⟨HA7b.out, rfl, rfl⟩ | exact ⟨HA7b.out, _, rfl, rfl, rfl⟩
          · go_wp2_with fail
            refine ⟨HA7b.out, wpOne_do (by rfl) (fun KK hKK => ?_)⟩
            go_wp2_with fail
            first | exact HA7b.out | exact ⟨HA7b.out, rfl⟩ | exact ⟨HA7b.out, rfl, rfl⟩ | exact ⟨HA7b.out, _, rfl, rfl, rfl⟩
          rintro u v y ⟨rfl, rfl⟩ hS5
          simp only [Act.put, List.setIfInBounds_toArray, List.set_cons_zero, List.set_cons_succ]
          iterate 1 (refine wpPl_take (v := ?_) (by rfl) (fun w' hS => ?_) ?_; rotate_left; (focus (go_simp; with_reducible rfl)); simp only [Act.put, List.setIfInBounds_toArray, List.set_cons_zero, List.set_cons_succ])
          refine wpPl_do (by rfl) (fun KK hKK => ?_)
          go_wp2_with fail
          refine ⟨?_, ?_⟩
          · exact ((((((HA7.out).other _ _ (by simp; omega)).other _ _ (by simp; omega)).other _ _ (by simp; omega)).other _ _ (by simp; omega)).other _ _ (by simp; omega)).other _ _ (by simp; omega)
          refine wpPl_done ?_
          go_wp2_with fail
          go_meet
          case rel =>
            have hneL : ∀ o ∈ L, o.pipe.ops.ownBlock ≠ some w1.heap.size := fun o ho => (HR1.out o ho).ne (Nat.le_refl _)
            have hneO := own_ne HW1.out (Nat.le_refl w1.heap.size)
            refine ⟨⟨2, tn, fr, nn, ⟨.slice none 0 0, [], 0, 0, 0, 0, 0⟩, ym, yt, yk, yv, yl⟩, none, 0, 0, rfl, At.putI HT7.out _ _ _ _ _ _, ⟨by simp, by simp, b1.1, b1.2, b2.1, b2.2, b3.1, b3.2, fun h => by simp at h, fun _ => HBY.out⟩, ActV.row.nil _ _ _ _ _ _ _ _ _ _ _ _ _ _ _, ?_, fun o ho => ?_, ?_⟩
            · exact ownsRow_setCell_other (ownsRow_setCell_other (ownsRow_setCell_other (ownsRow_setCell_other (ownsRow_setCell_other (ownsRow_setCell_other (HO7.out) hneO _) hneO _) hneO _) hneO _) hneO _) hneO _
            · exact (((((((HR7.out o ho)).set _ _ (hneL o ho)).set _ _ (hneL o ho)).set _ _ (hneL o ho)).set _ _ (hneL o ho)).set _ _ (hneL o ho)).set _ _ (hneL o ho)
            · exact ((((((HB7.out).setCell hle _).setCell hle _).setCell hle _).setCell hle _).setCell hle _).setCell hle _
        · subst hcc
          go_wp2_with fail
          refine wp_region_plS (fun x => At x wr.heap.size [.int .i64 kk, .int .i64 kt, .int .i64 kf, .int .i64 kn, .slice oa ol'.length oc, .slice na nl.length nc, .int .i64 sz, .int .i64 sl, .int .i64 ag, .int .i64 si, .int .i64 fd, .int .i64 T, .int .i64 K, .int .i64 V, .int .i64 M]) (fun w0 => At w0 wr.heap.size [.int .i64 kk, .int .i64 kt, .int .i64 kf, .int .i64 kn, .slice oa ol'.length oc, .slice na nl.length nc, .int .i64 sz, .int .i64 sl, .int .i64 ag, .int .i64 si, .int .i64 fd, .int .i64 T, .int .i64 K, .int .i64 V, .int .i64 M] ∧ At w0 w1.heap.size [.int .i64 0, .int .i64 tn, .int .i64 fr, .int .i64 nn, .slice none 0 0, .int .i64 0, .int .i64 0, .int .i64 0, .int .i64 0, .int .i64 0, .bool false, .int .i64 0, .int .i64 0, .int .i64 0, .int .u64 0] ∧ Below W.heap.size W w0 ∧ w0.ownsRow W.heap.size 31 15 (.slice va i vc) i (cellsA L) ∧ (∀ o ∈ L, o.row w0) ∧ w1.heap.size + 1 ≤ w0.heap.size) ?ph16_2 (fun w0 h => h.1.drew) (.take 0 <| .take 1 <| .take 6 <| .doo 2 <| .doo 3 <| .take 4 <| .two 5 7 <| .take 8 <| .doo 9 <| .done) ?plL16_2 (by kernel_rfl) (by kernel_rfl) (by kernel_rfl) ?plH16_2 (by intro c a d v w; cases d <;> exact fun h => h) ?_
          case plH16_2 =>
            simp only [Pl.with, List.getElem?_toArray, List.getElem?_cons_zero, List.getElem?_cons_succ]
            try rfl
          case ph16_2 => exact ⟨(HA.out.alloc _).drew, (At.new w1 _ _).drew, (HB1.out.alloc HB1.out.size _).drew, (HW1.out.alloc _).drew, fun o ho => ((HR1.out o ho).alloc _).drew, by simp⟩
          rintro w6 ⟨ha6, ht6, hb6, ho6, hr6, hsz6⟩
          have HT6 := Lib.hid ht6
          have HB6 := Lib.hid hb6
          have HO6 := Lib.hid ho6
          have HR6 := Lib.hid hr6
          have HA6 := Lib.hid ha6
          have hle := HB1.out.size
          clear ha6 ht6 hb6 ho6 hr6
          have q1 : ∀ x, At x wr.heap.size [.int .i64 kk, .int .i64 kt, .int .i64 kf, .int .i64 kn, .slice oa ol'.length oc, .slice na nl.length nc, .int .i64 sz, .int .i64 sl, .int .i64 ag, .int .i64 si, .int .i64 fd, .int .i64 T, .int .i64 K, .int .i64 V, .int .i64 M] → x.cell? ⟨wr.heap.size, 11, none⟩ = some (.int .i64 T) := fun x hx => hx.c 11 _ rfl
          have q2 : ∀ x, At x wr.heap.size [.int .i64 kk, .int .i64 kt, .int .i64 kf, .int .i64 kn, .slice oa ol'.length oc, .slice na nl.length nc, .int .i64 sz, .int .i64 sl, .int .i64 ag, .int .i64 si, .int .i64 fd, .int .i64 T, .int .i64 K, .int .i64 V, .int .i64 M] → x.cell? ⟨wr.heap.size, 12, none⟩ = some (.int .i64 K) := fun x hx => hx.c 12 _ rfl
          have q3 : ∀ x, At x wr.heap.size [.int .i64 kk, .int .i64 kt, .int .i64 kf, .int .i64 kn, .slice oa ol'.length oc, .slice na nl.length nc, .int .i64 sz, .int .i64 sl, .int .i64 ag, .int .i64 si, .int .i64 fd, .int .i64 T, .int .i64 K, .int .i64 V, .int .i64 M] → x.cell? ⟨wr.heap.size, 13, none⟩ = some (.int .i64 V) := fun x hx => hx.c 13 _ rfl
          have q4 : ∀ x, At x wr.heap.size [.int .i64 kk, .int .i64 kt, .int .i64 kf, .int .i64 kn, .slice oa ol'.length oc, .slice na nl.length nc, .int .i64 sz, .int .i64 sl, .int .i64 ag, .int .i64 si, .int .i64 fd, .int .i64 T, .int .i64 K, .int .i64 V, .int .i64 M] → x.cell? ⟨wr.heap.size, 14, none⟩ = some (.int .i64 M) := fun x hx => hx.c 14 _ rfl
          iterate 3 (refine wpPl_take (v := ?_) (by rfl) (fun w' hS => ?_) ?_; rotate_left; (focus (go_simp; with_reducible rfl)); simp only [Act.put, List.setIfInBounds_toArray, List.set_cons_zero, List.set_cons_succ])
          clear q1 q2 q3 q4
          refine wpPl_do (by rfl) (fun KK hKK => ?_)
          go_wp2_with fail
          refine ⟨HA6.out.drew.alloc _, ?_⟩
          refine wpPl_do (by rfl) (fun KK hKK => ?_)
          go_wp2_with (go_at_call 24; (with_reducible refine (inputs_any _ _ [⟨T, K, V, M⟩] (IsR.of_row4 w6 ⟨T, K, V, M⟩ _).drew).mono ?_); rintro e w7 ⟨vr, r, rfl, hor, hlr, hbdr, hb7⟩; have HLR := Lib.hid hlr; have HBDR := Lib.hid hbdr; have HOR := Lib.hid hor; have HA7 := Lib.hid (((HA6.out.alloc _).drew).below hb7); have HT7 := Lib.hid (((HT6.out.alloc _).drew).below hb7); have HB7 := Lib.hid (below_step ((HB6.out.alloc HB6.out.size _).drew) hb7); have HO7 := Lib.hid (((HO6.out.alloc _).drew).kept (grown_of_below hb7 none) (Classical.em _)); have HR7 := Lib.hid (fun (o : ActV) (ho : o ∈ L) => (((HR6.out o ho).alloc _).drew).kept hb7); have hsz7 := hb7.size; simp at hsz7; clear hlr hbdr hor hb7)
          refine ⟨HA7.out, ?_⟩
          obtain ⟨y, rfl⟩ : ∃ y, r = [y] := by
            have := HLR.out
            match r, this with
            | [y], _ => exact ⟨y, rfl⟩
          obtain ⟨g7, cap7, hvr, hg7, _, hcap7, _, hcs7⟩ := own_form HOR.out (by simp)
          simp only [List.length_cons, List.length_nil, Nat.zero_add] at hvr
          subst hvr
          have hc7 : 1 ≤ cap7 := by simpa using hcap7
          have HC7 := Lib.hid hcs7
          have HBY := Lib.hid (HBDR.out y (by simp))
          obtain ⟨ym, yt, yk, yv, yl⟩ := y
          have z0 := HC7.out 0 _ rfl
          have z1 := HC7.out 1 _ rfl
          have z2 := HC7.out 2 _ rfl
          have z3 := HC7.out 3 _ rfl
          have z4 := HC7.out 4 _ rfl
          clear hcs7 hcap7
          simp at hg7
          iterate 1 (refine wpPl_take (v := ?_) (by rfl) (fun w' hS => ?_) ?_; rotate_left; (focus (go_simp; with_reducible rfl)); simp only [Act.put, List.setIfInBounds_toArray, List.set_cons_zero, List.set_cons_succ])
          have s0 := HT7.out.c 0 _ rfl
          have s10 := HT7.out.c 10 _ rfl
          have s11 := HT7.out.c 11 _ rfl
          have s12 := HT7.out.c 12 _ rfl
          have s13 := HT7.out.c 13 _ rfl
          have s14 := HT7.out.c 14 _ rfl
          have f0 := HT7.out.f 0
          have f10 := HT7.out.f 10
          have f11 := HT7.out.f 11
          have f12 := HT7.out.f 12
          have f13 := HT7.out.f 13
          have f14 := HT7.out.f 14
          have HA7b := Lib.hid (show At (w7.setCell ⟨w1.heap.size, 0, none⟩ (.int .i64 2)) wr.heap.size [.int .i64 kk, .int .i64 kt, .int .i64 kf, .int .i64 kn, .slice oa ol'.length oc, .slice na nl.length nc, .int .i64 sz, .int .i64 sl, .int .i64 ag, .int .i64 si, .int .i64 fd, .int .i64 T, .int .i64 K, .int .i64 V, .int .i64 M] from HA7.out.other _ _ (by simp; omega))
          refine wpPl_two (fun u v y => u = .agg #[.bool ym, .int .i64 yt, .int .i64 yk, .int .i64 yv, .int .u64 yl] ∧ y = w7.setCell ⟨w1.heap.size, 0, none⟩ (.int .i64 2)) (by rfl) (by rfl) (by rintro d ⟨⟩; simp) (fun KK hKK => ?_) (fun KK hKK => ?_) ?_
          · go_wp2_with fail
            refine ⟨HA7.out, wpOne_do (by rfl) (fun KK hKK => ?_)⟩
            go_wp2_with fail
            first | exact HA7b.out | exact ⟨HA7b.out, rfl⟩ | exact ⟨HA7b.out, rfl, rfl⟩ | exact ⟨HA7b.out, _, rfl, rfl, rfl⟩
          · go_wp2_with fail
            refine ⟨HA7b.out, wpOne_do (by rfl) (fun KK hKK => ?_)⟩
            go_wp2_with fail
            first | exact HA7b.out | exact ⟨HA7b.out, rfl⟩ | exact ⟨HA7b.out, rfl, rfl⟩ | exact ⟨HA7b.out, _, rfl, rfl, rfl⟩
          rintro u v y ⟨rfl, rfl⟩ hS5
          simp only [Act.put, List.setIfInBounds_toArray, List.set_cons_zero, List.set_cons_succ]
          iterate 1 (refine wpPl_take (v := ?_) (by rfl) (fun w' hS => ?_) ?_; rotate_left; (focus (go_simp; with_reducible rfl)); simp only [Act.put, List.setIfInBounds_toArray, List.set_cons_zero, List.set_cons_succ])
          refine wpPl_do (by rfl) (fun KK hKK => ?_)
          go_wp2_with fail
          refine ⟨?_, ?_⟩
          · exact ((((((HA7.out).other _ _ (by simp; omega)).other _ _ (by simp; omega)).other _ _ (by simp; omega)).other _ _ (by simp; omega)).other _ _ (by simp; omega)).other _ _ (by simp; omega)
          refine wpPl_done ?_
          go_wp2_with fail
          go_meet
          case rel =>
            have hneL : ∀ o ∈ L, o.pipe.ops.ownBlock ≠ some w1.heap.size := fun o ho => (HR1.out o ho).ne (Nat.le_refl _)
            have hneO := own_ne HW1.out (Nat.le_refl w1.heap.size)
            refine ⟨⟨2, tn, fr, nn, ⟨.slice none 0 0, [], 0, 0, 0, 0, 0⟩, ym, yt, yk, yv, yl⟩, none, 0, 0, rfl, At.putI HT7.out _ _ _ _ _ _, ⟨by simp, by simp, b1.1, b1.2, b2.1, b2.2, b3.1, b3.2, fun h => by simp at h, fun _ => HBY.out⟩, ActV.row.nil _ _ _ _ _ _ _ _ _ _ _ _ _ _ _, ?_, fun o ho => ?_, ?_⟩
            · exact ownsRow_setCell_other (ownsRow_setCell_other (ownsRow_setCell_other (ownsRow_setCell_other (ownsRow_setCell_other (ownsRow_setCell_other (HO7.out) hneO _) hneO _) hneO _) hneO _) hneO _) hneO _
            · exact (((((((HR7.out o ho)).set _ _ (hneL o ho)).set _ _ (hneL o ho)).set _ _ (hneL o ho)).set _ _ (hneL o ho)).set _ _ (hneL o ho)).set _ _ (hneL o ho)
            · exact ((((((HB7.out).setCell hle _).setCell hle _).setCell hle _).setCell hle _).setCell hle _).setCell hle _
        · subst hcc
          go_wp2_with fail
          refine wp_region_plS (fun x => At x wr.heap.size [.int .i64 kk, .int .i64 kt, .int .i64 kf, .int .i64 kn, .slice oa ol'.length oc, .slice na nl.length nc, .int .i64 sz, .int .i64 sl, .int .i64 ag, .int .i64 si, .int .i64 fd, .int .i64 T, .int .i64 K, .int .i64 V, .int .i64 M]) (fun w0 => At w0 wr.heap.size [.int .i64 kk, .int .i64 kt, .int .i64 kf, .int .i64 kn, .slice oa ol'.length oc, .slice na nl.length nc, .int .i64 sz, .int .i64 sl, .int .i64 ag, .int .i64 si, .int .i64 fd, .int .i64 T, .int .i64 K, .int .i64 V, .int .i64 M] ∧ At w0 w1.heap.size [.int .i64 0, .int .i64 tn, .int .i64 fr, .int .i64 nn, .slice none 0 0, .int .i64 0, .int .i64 0, .int .i64 0, .int .i64 0, .int .i64 0, .bool false, .int .i64 0, .int .i64 0, .int .i64 0, .int .u64 0] ∧ Below W.heap.size W w0 ∧ w0.ownsRow W.heap.size 31 15 (.slice va i vc) i (cellsA L) ∧ (∀ o ∈ L, o.row w0) ∧ w1.heap.size + 1 ≤ w0.heap.size) ?ph16_3 (fun w0 h => h.1.drew) (.take 0 <| .take 1 <| .take 6 <| .doo 2 <| .doo 3 <| .take 4 <| .two 5 7 <| .take 8 <| .doo 9 <| .done) ?plL16_3 (by kernel_rfl) (by kernel_rfl) (by kernel_rfl) ?plH16_3 (by intro c a d v w; cases d <;> exact fun h => h) ?_
          case plH16_3 =>
            simp only [Pl.with, List.getElem?_toArray, List.getElem?_cons_zero, List.getElem?_cons_succ]
            try rfl
          case ph16_3 => exact ⟨(HA.out.alloc _).drew, (At.new w1 _ _).drew, (HB1.out.alloc HB1.out.size _).drew, (HW1.out.alloc _).drew, fun o ho => ((HR1.out o ho).alloc _).drew, by simp⟩
          rintro w6 ⟨ha6, ht6, hb6, ho6, hr6, hsz6⟩
          have HT6 := Lib.hid ht6
          have HB6 := Lib.hid hb6
          have HO6 := Lib.hid ho6
          have HR6 := Lib.hid hr6
          have HA6 := Lib.hid ha6
          have hle := HB1.out.size
          clear ha6 ht6 hb6 ho6 hr6
          have q1 : ∀ x, At x wr.heap.size [.int .i64 kk, .int .i64 kt, .int .i64 kf, .int .i64 kn, .slice oa ol'.length oc, .slice na nl.length nc, .int .i64 sz, .int .i64 sl, .int .i64 ag, .int .i64 si, .int .i64 fd, .int .i64 T, .int .i64 K, .int .i64 V, .int .i64 M] → x.cell? ⟨wr.heap.size, 11, none⟩ = some (.int .i64 T) := fun x hx => hx.c 11 _ rfl
          have q2 : ∀ x, At x wr.heap.size [.int .i64 kk, .int .i64 kt, .int .i64 kf, .int .i64 kn, .slice oa ol'.length oc, .slice na nl.length nc, .int .i64 sz, .int .i64 sl, .int .i64 ag, .int .i64 si, .int .i64 fd, .int .i64 T, .int .i64 K, .int .i64 V, .int .i64 M] → x.cell? ⟨wr.heap.size, 12, none⟩ = some (.int .i64 K) := fun x hx => hx.c 12 _ rfl
          have q3 : ∀ x, At x wr.heap.size [.int .i64 kk, .int .i64 kt, .int .i64 kf, .int .i64 kn, .slice oa ol'.length oc, .slice na nl.length nc, .int .i64 sz, .int .i64 sl, .int .i64 ag, .int .i64 si, .int .i64 fd, .int .i64 T, .int .i64 K, .int .i64 V, .int .i64 M] → x.cell? ⟨wr.heap.size, 13, none⟩ = some (.int .i64 V) := fun x hx => hx.c 13 _ rfl
          have q4 : ∀ x, At x wr.heap.size [.int .i64 kk, .int .i64 kt, .int .i64 kf, .int .i64 kn, .slice oa ol'.length oc, .slice na nl.length nc, .int .i64 sz, .int .i64 sl, .int .i64 ag, .int .i64 si, .int .i64 fd, .int .i64 T, .int .i64 K, .int .i64 V, .int .i64 M] → x.cell? ⟨wr.heap.size, 14, none⟩ = some (.int .i64 M) := fun x hx => hx.c 14 _ rfl
          iterate 3 (refine wpPl_take (v := ?_) (by rfl) (fun w' hS => ?_) ?_; rotate_left; (focus (go_simp; with_reducible rfl)); simp only [Act.put, List.setIfInBounds_toArray, List.set_cons_zero, List.set_cons_succ])
          clear q1 q2 q3 q4
          refine wpPl_do (by rfl) (fun KK hKK => ?_)
          go_wp2_with fail
          refine ⟨HA6.out.drew.alloc _, ?_⟩
          refine wpPl_do (by rfl) (fun KK hKK => ?_)
          go_wp2_with (go_at_call 24; (with_reducible refine (inputs_any _ _ [⟨T, K, V, M⟩] (IsR.of_row4 w6 ⟨T, K, V, M⟩ _).drew).mono ?_); rintro e w7 ⟨vr, r, rfl, hor, hlr, hbdr, hb7⟩; have HLR := Lib.hid hlr; have HBDR := Lib.hid hbdr; have HOR := Lib.hid hor; have HA7 := Lib.hid (((HA6.out.alloc _).drew).below hb7); have HT7 := Lib.hid (((HT6.out.alloc _).drew).below hb7); have HB7 := Lib.hid (below_step ((HB6.out.alloc HB6.out.size _).drew) hb7); have HO7 := Lib.hid (((HO6.out.alloc _).drew).kept (grown_of_below hb7 none) (Classical.em _)); have HR7 := Lib.hid (fun (o : ActV) (ho : o ∈ L) => (((HR6.out o ho).alloc _).drew).kept hb7); have hsz7 := hb7.size; simp at hsz7; clear hlr hbdr hor hb7)
          refine ⟨HA7.out, ?_⟩
          obtain ⟨y, rfl⟩ : ∃ y, r = [y] := by
            have := HLR.out
            match r, this with
            | [y], _ => exact ⟨y, rfl⟩
          obtain ⟨g7, cap7, hvr, hg7, _, hcap7, _, hcs7⟩ := own_form HOR.out (by simp)
          simp only [List.length_cons, List.length_nil, Nat.zero_add] at hvr
          subst hvr
          have hc7 : 1 ≤ cap7 := by simpa using hcap7
          have HC7 := Lib.hid hcs7
          have HBY := Lib.hid (HBDR.out y (by simp))
          obtain ⟨ym, yt, yk, yv, yl⟩ := y
          have z0 := HC7.out 0 _ rfl
          have z1 := HC7.out 1 _ rfl
          have z2 := HC7.out 2 _ rfl
          have z3 := HC7.out 3 _ rfl
          have z4 := HC7.out 4 _ rfl
          clear hcs7 hcap7
          simp at hg7
          iterate 1 (refine wpPl_take (v := ?_) (by rfl) (fun w' hS => ?_) ?_; rotate_left; (focus (go_simp; with_reducible rfl)); simp only [Act.put, List.setIfInBounds_toArray, List.set_cons_zero, List.set_cons_succ])
          have s0 := HT7.out.c 0 _ rfl
          have s10 := HT7.out.c 10 _ rfl
          have s11 := HT7.out.c 11 _ rfl
          have s12 := HT7.out.c 12 _ rfl
          have s13 := HT7.out.c 13 _ rfl
          have s14 := HT7.out.c 14 _ rfl
          have f0 := HT7.out.f 0
          have f10 := HT7.out.f 10
          have f11 := HT7.out.f 11
          have f12 := HT7.out.f 12
          have f13 := HT7.out.f 13
          have f14 := HT7.out.f 14
          have HA7b := Lib.hid (show At (w7.setCell ⟨w1.heap.size, 0, none⟩ (.int .i64 2)) wr.heap.size [.int .i64 kk, .int .i64 kt, .int .i64 kf, .int .i64 kn, .slice oa ol'.length oc, .slice na nl.length nc, .int .i64 sz, .int .i64 sl, .int .i64 ag, .int .i64 si, .int .i64 fd, .int .i64 T, .int .i64 K, .int .i64 V, .int .i64 M] from HA7.out.other _ _ (by simp; omega))
          refine wpPl_two (fun u v y => u = .agg #[.bool ym, .int .i64 yt, .int .i64 yk, .int .i64 yv, .int .u64 yl] ∧ y = w7.setCell ⟨w1.heap.size, 0, none⟩ (.int .i64 2)) (by rfl) (by rfl) (by rintro d ⟨⟩; simp) (fun KK hKK => ?_) (fun KK hKK => ?_) ?_
          · go_wp2_with fail
            refine ⟨HA7.out, wpOne_do (by rfl) (fun KK hKK => ?_)⟩
            go_wp2_with fail
            first | exact HA7b.out | exact ⟨HA7b.out, rfl⟩ | exact ⟨HA7b.out, rfl, rfl⟩ | exact ⟨HA7b.out, _, rfl, rfl, rfl⟩
          · go_wp2_with fail
            refine ⟨HA7b.out, wpOne_do (by rfl) (fun KK hKK => ?_)⟩
            go_wp2_with fail
            first | exact HA7b.out | exact ⟨HA7b.out, rfl⟩ | exact ⟨HA7b.out, rfl, rfl⟩ | exact ⟨HA7b.out, _, rfl, rfl, rfl⟩
          rintro u v y ⟨rfl, rfl⟩ hS5
          simp only [Act.put, List.setIfInBounds_toArray, List.set_cons_zero, List.set_cons_succ]
          iterate 1 (refine wpPl_take (v := ?_) (by rfl) (fun w' hS => ?_) ?_; rotate_left; (focus (go_simp; with_reducible rfl)); simp only [Act.put, List.setIfInBounds_toArray, List.set_cons_zero, List.set_cons_succ])
          refine wpPl_do (by rfl) (fun KK hKK => ?_)
          go_wp2_with fail
          refine ⟨?_, ?_⟩
          · exact ((((((HA7.out).other _ _ (by simp; omega)).other _ _ (by simp; omega)).other _ _ (by simp; omega)).other _ _ (by simp; omega)).other _ _ (by simp; omega)).other _ _ (by simp; omega)
          refine wpPl_done ?_
          go_wp2_with fail
          go_meet
          case rel =>
            have hneL : ∀ o ∈ L, o.pipe.ops.ownBlock ≠ some w1.heap.size := fun o ho => (HR1.out o ho).ne (Nat.le_refl _)
            have hneO := own_ne HW1.out (Nat.le_refl w1.heap.size)
            refine ⟨⟨2, tn, fr, nn, ⟨.slice none 0 0, [], 0, 0, 0, 0, 0⟩, ym, yt, yk, yv, yl⟩, none, 0, 0, rfl, At.putI HT7.out _ _ _ _ _ _, ⟨by simp, by simp, b1.1, b1.2, b2.1, b2.2, b3.1, b3.2, fun h => by simp at h, fun _ => HBY.out⟩, ActV.row.nil _ _ _ _ _ _ _ _ _ _ _ _ _ _ _, ?_, fun o ho => ?_, ?_⟩
            · exact ownsRow_setCell_other (ownsRow_setCell_other (ownsRow_setCell_other (ownsRow_setCell_other (ownsRow_setCell_other (ownsRow_setCell_other (HO7.out) hneO _) hneO _) hneO _) hneO _) hneO _) hneO _
            · exact (((((((HR7.out o ho)).set _ _ (hneL o ho)).set _ _ (hneL o ho)).set _ _ (hneL o ho)).set _ _ (hneL o ho)).set _ _ (hneL o ho)).set _ _ (hneL o ho)
            · exact ((((((HB7.out).setCell hle _).setCell hle _).setCell hle _).setCell hle _).setCell hle _).setCell hle _
        · subst hcc
          go_wp2_with fail
          refine wp_region_plS (fun x => At x wr.heap.size [.int .i64 kk, .int .i64 kt, .int .i64 kf, .int .i64 kn, .slice oa ol'.length oc, .slice na nl.length nc, .int .i64 sz, .int .i64 sl, .int .i64 ag, .int .i64 si, .int .i64 fd, .int .i64 T, .int .i64 K, .int .i64 V, .int .i64 M]) (fun w0 => At w0 wr.heap.size [.int .i64 kk, .int .i64 kt, .int .i64 kf, .int .i64 kn, .slice oa ol'.length oc, .slice na nl.length nc, .int .i64 sz, .int .i64 sl, .int .i64 ag, .int .i64 si, .int .i64 fd, .int .i64 T, .int .i64 K, .int .i64 V, .int .i64 M] ∧ At w0 w1.heap.size [.int .i64 0, .int .i64 tn, .int .i64 fr, .int .i64 nn, .slice none 0 0, .int .i64 0, .int .i64 0, .int .i64 0, .int .i64 0, .int .i64 0, .bool false, .int .i64 0, .int .i64 0, .int .i64 0, .int .u64 0] ∧ Below W.heap.size W w0 ∧ w0.ownsRow W.heap.size 31 15 (.slice va i vc) i (cellsA L) ∧ (∀ o ∈ L, o.row w0) ∧ w1.heap.size + 1 ≤ w0.heap.size) ?ph16_4 (fun w0 h => h.1.drew) (.take 0 <| .take 1 <| .take 6 <| .doo 2 <| .doo 3 <| .take 4 <| .two 5 7 <| .take 8 <| .doo 9 <| .done) ?plL16_4 (by kernel_rfl) (by kernel_rfl) (by kernel_rfl) ?plH16_4 (by intro c a d v w; cases d <;> exact fun h => h) ?_
          case plH16_4 =>
            simp only [Pl.with, List.getElem?_toArray, List.getElem?_cons_zero, List.getElem?_cons_succ]
            try rfl
          case ph16_4 => exact ⟨(HA.out.alloc _).drew, (At.new w1 _ _).drew, (HB1.out.alloc HB1.out.size _).drew, (HW1.out.alloc _).drew, fun o ho => ((HR1.out o ho).alloc _).drew, by simp⟩
          rintro w6 ⟨ha6, ht6, hb6, ho6, hr6, hsz6⟩
          have HT6 := Lib.hid ht6
          have HB6 := Lib.hid hb6
          have HO6 := Lib.hid ho6
          have HR6 := Lib.hid hr6
          have HA6 := Lib.hid ha6
          have hle := HB1.out.size
          clear ha6 ht6 hb6 ho6 hr6
          have q1 : ∀ x, At x wr.heap.size [.int .i64 kk, .int .i64 kt, .int .i64 kf, .int .i64 kn, .slice oa ol'.length oc, .slice na nl.length nc, .int .i64 sz, .int .i64 sl, .int .i64 ag, .int .i64 si, .int .i64 fd, .int .i64 T, .int .i64 K, .int .i64 V, .int .i64 M] → x.cell? ⟨wr.heap.size, 11, none⟩ = some (.int .i64 T) := fun x hx => hx.c 11 _ rfl
          have q2 : ∀ x, At x wr.heap.size [.int .i64 kk, .int .i64 kt, .int .i64 kf, .int .i64 kn, .slice oa ol'.length oc, .slice na nl.length nc, .int .i64 sz, .int .i64 sl, .int .i64 ag, .int .i64 si, .int .i64 fd, .int .i64 T, .int .i64 K, .int .i64 V, .int .i64 M] → x.cell? ⟨wr.heap.size, 12, none⟩ = some (.int .i64 K) := fun x hx => hx.c 12 _ rfl
          have q3 : ∀ x, At x wr.heap.size [.int .i64 kk, .int .i64 kt, .int .i64 kf, .int .i64 kn, .slice oa ol'.length oc, .slice na nl.length nc, .int .i64 sz, .int .i64 sl, .int .i64 ag, .int .i64 si, .int .i64 fd, .int .i64 T, .int .i64 K, .int .i64 V, .int .i64 M] → x.cell? ⟨wr.heap.size, 13, none⟩ = some (.int .i64 V) := fun x hx => hx.c 13 _ rfl
          have q4 : ∀ x, At x wr.heap.size [.int .i64 kk, .int .i64 kt, .int .i64 kf, .int .i64 kn, .slice oa ol'.length oc, .slice na nl.length nc, .int .i64 sz, .int .i64 sl, .int .i64 ag, .int .i64 si, .int .i64 fd, .int .i64 T, .int .i64 K, .int .i64 V, .int .i64 M] → x.cell? ⟨wr.heap.size, 14, none⟩ = some (.int .i64 M) := fun x hx => hx.c 14 _ rfl
          iterate 3 (refine wpPl_take (v := ?_) (by rfl) (fun w' hS => ?_) ?_; rotate_left; (focus (go_simp; with_reducible rfl)); simp only [Act.put, List.setIfInBounds_toArray, List.set_cons_zero, List.set_cons_succ])
          clear q1 q2 q3 q4
          refine wpPl_do (by rfl) (fun KK hKK => ?_)
          go_wp2_with fail
          refine ⟨HA6.out.drew.alloc _, ?_⟩
          refine wpPl_do (by rfl) (fun KK hKK => ?_)
          go_wp2_with (go_at_call 24; (with_reducible refine (inputs_any _ _ [⟨T, K, V, M⟩] (IsR.of_row4 w6 ⟨T, K, V, M⟩ _).drew).mono ?_); rintro e w7 ⟨vr, r, rfl, hor, hlr, hbdr, hb7⟩; have HLR := Lib.hid hlr; have HBDR := Lib.hid hbdr; have HOR := Lib.hid hor; have HA7 := Lib.hid (((HA6.out.alloc _).drew).below hb7); have HT7 := Lib.hid (((HT6.out.alloc _).drew).below hb7); have HB7 := Lib.hid (below_step ((HB6.out.alloc HB6.out.size _).drew) hb7); have HO7 := Lib.hid (((HO6.out.alloc _).drew).kept (grown_of_below hb7 none) (Classical.em _)); have HR7 := Lib.hid (fun (o : ActV) (ho : o ∈ L) => (((HR6.out o ho).alloc _).drew).kept hb7); have hsz7 := hb7.size; simp at hsz7; clear hlr hbdr hor hb7)
          refine ⟨HA7.out, ?_⟩
          obtain ⟨y, rfl⟩ : ∃ y, r = [y] := by
            have := HLR.out
            match r, this with
            | [y], _ => exact ⟨y, rfl⟩
          obtain ⟨g7, cap7, hvr, hg7, _, hcap7, _, hcs7⟩ := own_form HOR.out (by simp)
          simp only [List.length_cons, List.length_nil, Nat.zero_add] at hvr
          subst hvr
          have hc7 : 1 ≤ cap7 := by simpa using hcap7
          have HC7 := Lib.hid hcs7
          have HBY := Lib.hid (HBDR.out y (by simp))
          obtain ⟨ym, yt, yk, yv, yl⟩ := y
          have z0 := HC7.out 0 _ rfl
          have z1 := HC7.out 1 _ rfl
          have z2 := HC7.out 2 _ rfl
          have z3 := HC7.out 3 _ rfl
          have z4 := HC7.out 4 _ rfl
          clear hcs7 hcap7
          simp at hg7
          iterate 1 (refine wpPl_take (v := ?_) (by rfl) (fun w' hS => ?_) ?_; rotate_left; (focus (go_simp; with_reducible rfl)); simp only [Act.put, List.setIfInBounds_toArray, List.set_cons_zero, List.set_cons_succ])
          have s0 := HT7.out.c 0 _ rfl
          have s10 := HT7.out.c 10 _ rfl
          have s11 := HT7.out.c 11 _ rfl
          have s12 := HT7.out.c 12 _ rfl
          have s13 := HT7.out.c 13 _ rfl
          have s14 := HT7.out.c 14 _ rfl
          have f0 := HT7.out.f 0
          have f10 := HT7.out.f 10
          have f11 := HT7.out.f 11
          have f12 := HT7.out.f 12
          have f13 := HT7.out.f 13
          have f14 := HT7.out.f 14
          have HA7b := Lib.hid (show At (w7.setCell ⟨w1.heap.size, 0, none⟩ (.int .i64 2)) wr.heap.size [.int .i64 kk, .int .i64 kt, .int .i64 kf, .int .i64 kn, .slice oa ol'.length oc, .slice na nl.length nc, .int .i64 sz, .int .i64 sl, .int .i64 ag, .int .i64 si, .int .i64 fd, .int .i64 T, .int .i64 K, .int .i64 V, .int .i64 M] from HA7.out.other _ _ (by simp; omega))
          refine wpPl_two (fun u v y => u = .agg #[.bool ym, .int .i64 yt, .int .i64 yk, .int .i64 yv, .int .u64 yl] ∧ y = w7.setCell ⟨w1.heap.size, 0, none⟩ (.int .i64 2)) (by rfl) (by rfl) (by rintro d ⟨⟩; simp) (fun KK hKK => ?_) (fun KK hKK => ?_) ?_
          · go_wp2_with fail
            refine ⟨HA7.out, wpOne_do (by rfl) (fun KK hKK => ?_)⟩
            go_wp2_with fail
            first | exact HA7b.out | exact ⟨HA7b.out, rfl⟩ | exact ⟨HA7b.out, rfl, rfl⟩ | exact ⟨HA7b.out, _, rfl, rfl, rfl⟩
          · go_wp2_with fail
            refine ⟨HA7b.out, wpOne_do (by rfl) (fun KK hKK => ?_)⟩
            go_wp2_with fail
            first | exact HA7b.out | exact ⟨HA7b.out, rfl⟩ | exact ⟨HA7b.out, rfl, rfl⟩ | exact ⟨HA7b.out, _, rfl, rfl, rfl⟩
          rintro u v y ⟨rfl, rfl⟩ hS5
          simp only [Act.put, List.setIfInBounds_toArray, List.set_cons_zero, List.set_cons_succ]
          iterate 1 (refine wpPl_take (v := ?_) (by rfl) (fun w' hS => ?_) ?_; rotate_left; (focus (go_simp; with_reducible rfl)); simp only [Act.put, List.setIfInBounds_toArray, List.set_cons_zero, List.set_cons_succ])
          refine wpPl_do (by rfl) (fun KK hKK => ?_)
          go_wp2_with fail
          refine ⟨?_, ?_⟩
          · exact ((((((HA7.out).other _ _ (by simp; omega)).other _ _ (by simp; omega)).other _ _ (by simp; omega)).other _ _ (by simp; omega)).other _ _ (by simp; omega)).other _ _ (by simp; omega)
          refine wpPl_done ?_
          go_wp2_with fail
          go_meet
          case rel =>
            have hneL : ∀ o ∈ L, o.pipe.ops.ownBlock ≠ some w1.heap.size := fun o ho => (HR1.out o ho).ne (Nat.le_refl _)
            have hneO := own_ne HW1.out (Nat.le_refl w1.heap.size)
            refine ⟨⟨2, tn, fr, nn, ⟨.slice none 0 0, [], 0, 0, 0, 0, 0⟩, ym, yt, yk, yv, yl⟩, none, 0, 0, rfl, At.putI HT7.out _ _ _ _ _ _, ⟨by simp, by simp, b1.1, b1.2, b2.1, b2.2, b3.1, b3.2, fun h => by simp at h, fun _ => HBY.out⟩, ActV.row.nil _ _ _ _ _ _ _ _ _ _ _ _ _ _ _, ?_, fun o ho => ?_, ?_⟩
            · exact ownsRow_setCell_other (ownsRow_setCell_other (ownsRow_setCell_other (ownsRow_setCell_other (ownsRow_setCell_other (ownsRow_setCell_other (HO7.out) hneO _) hneO _) hneO _) hneO _) hneO _) hneO _
            · exact (((((((HR7.out o ho)).set _ _ (hneL o ho)).set _ _ (hneL o ho)).set _ _ (hneL o ho)).set _ _ (hneL o ho)).set _ _ (hneL o ho)).set _ _ (hneL o ho)
            · exact ((((((HB7.out).setCell hle _).setCell hle _).setCell hle _).setCell hle _).setCell hle _).setCell hle _
        · subst hcc
          go_wp2_with fail
          refine wp_region_plS (fun x => At x wr.heap.size [.int .i64 kk, .int .i64 kt, .int .i64 kf, .int .i64 kn, .slice oa ol'.length oc, .slice na nl.length nc, .int .i64 sz, .int .i64 sl, .int .i64 ag, .int .i64 si, .int .i64 fd, .int .i64 T, .int .i64 K, .int .i64 V, .int .i64 M]) (fun w0 => At w0 wr.heap.size [.int .i64 kk, .int .i64 kt, .int .i64 kf, .int .i64 kn, .slice oa ol'.length oc, .slice na nl.length nc, .int .i64 sz, .int .i64 sl, .int .i64 ag, .int .i64 si, .int .i64 fd, .int .i64 T, .int .i64 K, .int .i64 V, .int .i64 M] ∧ At w0 w1.heap.size [.int .i64 0, .int .i64 tn, .int .i64 fr, .int .i64 nn, .slice none 0 0, .int .i64 0, .int .i64 0, .int .i64 0, .int .i64 0, .int .i64 0, .bool false, .int .i64 0, .int .i64 0, .int .i64 0, .int .u64 0] ∧ Below W.heap.size W w0 ∧ w0.ownsRow W.heap.size 31 15 (.slice va i vc) i (cellsA L) ∧ (∀ o ∈ L, o.row w0) ∧ w1.heap.size + 1 ≤ w0.heap.size) ?ph16_5 (fun w0 h => h.1.drew) (.take 0 <| .take 1 <| .take 6 <| .doo 2 <| .doo 3 <| .take 4 <| .two 5 7 <| .take 8 <| .doo 9 <| .done) ?plL16_5 (by kernel_rfl) (by kernel_rfl) (by kernel_rfl) ?plH16_5 (by intro c a d v w; cases d <;> exact fun h => h) ?_
          case plH16_5 =>
            simp only [Pl.with, List.getElem?_toArray, List.getElem?_cons_zero, List.getElem?_cons_succ]
            try rfl
          case ph16_5 => exact ⟨(HA.out.alloc _).drew, (At.new w1 _ _).drew, (HB1.out.alloc HB1.out.size _).drew, (HW1.out.alloc _).drew, fun o ho => ((HR1.out o ho).alloc _).drew, by simp⟩
          rintro w6 ⟨ha6, ht6, hb6, ho6, hr6, hsz6⟩
          have HT6 := Lib.hid ht6
          have HB6 := Lib.hid hb6
          have HO6 := Lib.hid ho6
          have HR6 := Lib.hid hr6
          have HA6 := Lib.hid ha6
          have hle := HB1.out.size
          clear ha6 ht6 hb6 ho6 hr6
          have q1 : ∀ x, At x wr.heap.size [.int .i64 kk, .int .i64 kt, .int .i64 kf, .int .i64 kn, .slice oa ol'.length oc, .slice na nl.length nc, .int .i64 sz, .int .i64 sl, .int .i64 ag, .int .i64 si, .int .i64 fd, .int .i64 T, .int .i64 K, .int .i64 V, .int .i64 M] → x.cell? ⟨wr.heap.size, 11, none⟩ = some (.int .i64 T) := fun x hx => hx.c 11 _ rfl
          have q2 : ∀ x, At x wr.heap.size [.int .i64 kk, .int .i64 kt, .int .i64 kf, .int .i64 kn, .slice oa ol'.length oc, .slice na nl.length nc, .int .i64 sz, .int .i64 sl, .int .i64 ag, .int .i64 si, .int .i64 fd, .int .i64 T, .int .i64 K, .int .i64 V, .int .i64 M] → x.cell? ⟨wr.heap.size, 12, none⟩ = some (.int .i64 K) := fun x hx => hx.c 12 _ rfl
          have q3 : ∀ x, At x wr.heap.size [.int .i64 kk, .int .i64 kt, .int .i64 kf, .int .i64 kn, .slice oa ol'.length oc, .slice na nl.length nc, .int .i64 sz, .int .i64 sl, .int .i64 ag, .int .i64 si, .int .i64 fd, .int .i64 T, .int .i64 K, .int .i64 V, .int .i64 M] → x.cell? ⟨wr.heap.size, 13, none⟩ = some (.int .i64 V) := fun x hx => hx.c 13 _ rfl
          have q4 : ∀ x, At x wr.heap.size [.int .i64 kk, .int .i64 kt, .int .i64 kf, .int .i64 kn, .slice oa ol'.length oc, .slice na nl.length nc, .int .i64 sz, .int .i64 sl, .int .i64 ag, .int .i64 si, .int .i64 fd, .int .i64 T, .int .i64 K, .int .i64 V, .int .i64 M] → x.cell? ⟨wr.heap.size, 14, none⟩ = some (.int .i64 M) := fun x hx => hx.c 14 _ rfl
          iterate 3 (refine wpPl_take (v := ?_) (by rfl) (fun w' hS => ?_) ?_; rotate_left; (focus (go_simp; with_reducible rfl)); simp only [Act.put, List.setIfInBounds_toArray, List.set_cons_zero, List.set_cons_succ])
          clear q1 q2 q3 q4
          refine wpPl_do (by rfl) (fun KK hKK => ?_)
          go_wp2_with fail
          refine ⟨HA6.out.drew.alloc _, ?_⟩
          refine wpPl_do (by rfl) (fun KK hKK => ?_)
          go_wp2_with (go_at_call 24; (with_reducible refine (inputs_any _ _ [⟨T, K, V, M⟩] (IsR.of_row4 w6 ⟨T, K, V, M⟩ _).drew).mono ?_); rintro e w7 ⟨vr, r, rfl, hor, hlr, hbdr, hb7⟩; have HLR := Lib.hid hlr; have HBDR := Lib.hid hbdr; have HOR := Lib.hid hor; have HA7 := Lib.hid (((HA6.out.alloc _).drew).below hb7); have HT7 := Lib.hid (((HT6.out.alloc _).drew).below hb7); have HB7 := Lib.hid (below_step ((HB6.out.alloc HB6.out.size _).drew) hb7); have HO7 := Lib.hid (((HO6.out.alloc _).drew).kept (grown_of_below hb7 none) (Classical.em _)); have HR7 := Lib.hid (fun (o : ActV) (ho : o ∈ L) => (((HR6.out o ho).alloc _).drew).kept hb7); have hsz7 := hb7.size; simp at hsz7; clear hlr hbdr hor hb7)
          refine ⟨HA7.out, ?_⟩
          obtain ⟨y, rfl⟩ : ∃ y, r = [y] := by
            have := HLR.out
            match r, this with
            | [y], _ => exact ⟨y, rfl⟩
          obtain ⟨g7, cap7, hvr, hg7, _, hcap7, _, hcs7⟩ := own_form HOR.out (by simp)
          simp only [List.length_cons, List.length_nil, Nat.zero_add] at hvr
          subst hvr
          have hc7 : 1 ≤ cap7 := by simpa using hcap7
          have HC7 := Lib.hid hcs7
          have HBY := Lib.hid (HBDR.out y (by simp))
          obtain ⟨ym, yt, yk, yv, yl⟩ := y
          have z0 := HC7.out 0 _ rfl
          have z1 := HC7.out 1 _ rfl
          have z2 := HC7.out 2 _ rfl
          have z3 := HC7.out 3 _ rfl
          have z4 := HC7.out 4 _ rfl
          clear hcs7 hcap7
          simp at hg7
          iterate 1 (refine wpPl_take (v := ?_) (by rfl) (fun w' hS => ?_) ?_; rotate_left; (focus (go_simp; with_reducible rfl)); simp only [Act.put, List.setIfInBounds_toArray, List.set_cons_zero, List.set_cons_succ])
          have s0 := HT7.out.c 0 _ rfl
          have s10 := HT7.out.c 10 _ rfl
          have s11 := HT7.out.c 11 _ rfl
          have s12 := HT7.out.c 12 _ rfl
          have s13 := HT7.out.c 13 _ rfl
          have s14 := HT7.out.c 14 _ rfl
          have f0 := HT7.out.f 0
          have f10 := HT7.out.f 10
          have f11 := HT7.out.f 11
          have f12 := HT7.out.f 12
          have f13 := HT7.out.f 13
          have f14 := HT7.out.f 14
          have HA7b := Lib.hid (show At (w7.setCell ⟨w1.heap.size, 0, none⟩ (.int .i64 2)) wr.heap.size [.int .i64 kk, .int .i64 kt, .int .i64 kf, .int .i64 kn, .slice oa ol'.length oc, .slice na nl.length nc, .int .i64 sz, .int .i64 sl, .int .i64 ag, .int .i64 si, .int .i64 fd, .int .i64 T, .int .i64 K, .int .i64 V, .int .i64 M] from HA7.out.other _ _ (by simp; omega))
          refine wpPl_two (fun u v y => u = .agg #[.bool ym, .int .i64 yt, .int .i64 yk, .int .i64 yv, .int .u64 yl] ∧ y = w7.setCell ⟨w1.heap.size, 0, none⟩ (.int .i64 2)) (by rfl) (by rfl) (by rintro d ⟨⟩; simp) (fun KK hKK => ?_) (fun KK hKK => ?_) ?_
          · go_wp2_with fail
            refine ⟨HA7.out, wpOne_do (by rfl) (fun KK hKK => ?_)⟩
            go_wp2_with fail
            first | exact HA7b.out | exact ⟨HA7b.out, rfl⟩ | exact ⟨HA7b.out, rfl, rfl⟩ | exact ⟨HA7b.out, _, rfl, rfl, rfl⟩
          · go_wp2_with fail
            refine ⟨HA7b.out, wpOne_do (by rfl) (fun KK hKK => ?_)⟩
            go_wp2_with fail
            first | exact HA7b.out | exact ⟨HA7b.out, rfl⟩ | exact ⟨HA7b.out, rfl, rfl⟩ | exact ⟨HA7b.out, _, rfl, rfl, rfl⟩
          rintro u v y ⟨rfl, rfl⟩ hS5
          simp only [Act.put, List.setIfInBounds_toArray, List.set_cons_zero, List.set_cons_succ]
          iterate 1 (refine wpPl_take (v := ?_) (by rfl) (fun w' hS => ?_) ?_; rotate_left; (focus (go_simp; with_reducible rfl)); simp only [Act.put, List.setIfInBounds_toArray, List.set_cons_zero, List.set_cons_succ])
          refine wpPl_do (by rfl) (fun KK hKK => ?_)
          go_wp2_with fail
          refine ⟨?_, ?_⟩
          · exact ((((((HA7.out).other _ _ (by simp; omega)).other _ _ (by simp; omega)).other _ _ (by simp; omega)).other _ _ (by simp; omega)).other _ _ (by simp; omega)).other _ _ (by simp; omega)
          refine wpPl_done ?_
          go_wp2_with fail
          go_meet
          case rel =>
            have hneL : ∀ o ∈ L, o.pipe.ops.ownBlock ≠ some w1.heap.size := fun o ho => (HR1.out o ho).ne (Nat.le_refl _)
            have hneO := own_ne HW1.out (Nat.le_refl w1.heap.size)
            refine ⟨⟨2, tn, fr, nn, ⟨.slice none 0 0, [], 0, 0, 0, 0, 0⟩, ym, yt, yk, yv, yl⟩, none, 0, 0, rfl, At.putI HT7.out _ _ _ _ _ _, ⟨by simp, by simp, b1.1, b1.2, b2.1, b2.2, b3.1, b3.2, fun h => by simp at h, fun _ => HBY.out⟩, ActV.row.nil _ _ _ _ _ _ _ _ _ _ _ _ _ _ _, ?_, fun o ho => ?_, ?_⟩
            · exact ownsRow_setCell_other (ownsRow_setCell_other (ownsRow_setCell_other (ownsRow_setCell_other (ownsRow_setCell_other (ownsRow_setCell_other (HO7.out) hneO _) hneO _) hneO _) hneO _) hneO _) hneO _
            · exact (((((((HR7.out o ho)).set _ _ (hneL o ho)).set _ _ (hneL o ho)).set _ _ (hneL o ho)).set _ _ (hneL o ho)).set _ _ (hneL o ho)).set _ _ (hneL o ho)
            · exact ((((((HB7.out).setCell hle _).setCell hle _).setCell hle _).setCell hle _).setCell hle _).setCell hle _
        · subst hcc
          go_wp2_with fail
          go_meet
          case rel =>
            refine ⟨⟨3, tn, fr, nn, ⟨.slice none 0 0, [], 0, 0, 0, 0, 0⟩, false, 0, 0, 0, 0⟩, none, 0, 0, rfl, (At.new w1 _ _).drew, ⟨by simp, by simp, b1.1, b1.2, b2.1, b2.2, b3.1, b3.2, fun h => by simp at h, fun h => by simp at h⟩, ActV.row.nil _ _ _ _ _ _ _ _ _ _ _ _ _ _ _, (HW1.out.alloc _).drew, fun o ho => ((HR1.out o ho).alloc _).drew, (HB1.out.alloc HB1.out.size _).drew⟩
        · subst hcc
          go_wp2_with fail
          go_meet
          case rel =>
            refine ⟨⟨3, tn, fr, nn, ⟨.slice none 0 0, [], 0, 0, 0, 0, 0⟩, false, 0, 0, 0, 0⟩, none, 0, 0, rfl, (At.new w1 _ _).drew, ⟨by simp, by simp, b1.1, b1.2, b2.1, b2.2, b3.1, b3.2, fun h => by simp at h, fun h => by simp at h⟩, ActV.row.nil _ _ _ _ _ _ _ _ _ _ _ _ _ _ _, (HW1.out.alloc _).drew, fun o ho => ((HR1.out o ho).alloc _).drew, (HB1.out.alloc HB1.out.size _).drew⟩
        · subst hcc
          go_wp2_with fail
          go_meet
          case rel =>
            refine ⟨⟨4, tn, fr, nn, ⟨.slice none 0 0, [], 0, 0, 0, 0, 0⟩, false, 0, 0, 0, 0⟩, none, 0, 0, rfl, (At.new w1 _ _).drew, ⟨by simp, by simp, b1.1, b1.2, b2.1, b2.2, b3.1, b3.2, fun h => by simp at h, fun h => by simp at h⟩, ActV.row.nil _ _ _ _ _ _ _ _ _ _ _ _ _ _ _, (HW1.out.alloc _).drew, fun o ho => ((HR1.out o ho).alloc _).drew, (HB1.out.alloc HB1.out.size _).drew⟩
        · subst hcc
          go_wp2_with fail
          go_meet
          case rel =>
            refine ⟨⟨5, tn, fr, nn, ⟨.slice none 0 0, [], 0, 0, 0, 0, 0⟩, false, 0, 0, 0, 0⟩, none, 0, 0, rfl, (At.new w1 _ _).drew, ⟨by simp, by simp, b1.1, b1.2, b2.1, b2.2, b3.1, b3.2, fun h => by simp at h, fun h => by simp at h⟩, ActV.row.nil _ _ _ _ _ _ _ _ _ _ _ _ _ _ _, (HW1.out.alloc _).drew, fun o ho => ((HR1.out o ho).alloc _).drew, (HB1.out.alloc HB1.out.size _).drew⟩
      case rest =>
        obtain ⟨x, pa, pl, pc, hpo, hat, hbx, hrx, how, hrL, hbel⟩ := hcut
        have HBX := Lib.hid hbx
        have HRX := Lib.hid hrx
        have HOW := Lib.hid how
        have HRL := Lib.hid hrL
        have HBW := Lib.hid hbel
        have hbw := hbel.size
        have HAT := Lib.hid hat
        clear hbx hrx how hrL hbel hat
        obtain ⟨k1, t1, f1, n1, ⟨p1, ol1, s1, d1, g1, sk1, fd1⟩, m1, i1, y1, v1, u1⟩ := x
        simp only at hpo
        subst hpo
        have x0 := HAT.out.c 0 _ rfl
        have x1 := HAT.out.c 1 _ rfl
        have x2 := HAT.out.c 2 _ rfl
        have x3 := HAT.out.c 3 _ rfl
        have x4 := HAT.out.c 4 _ rfl
        have x5 := HAT.out.c 5 _ rfl
        have x6 := HAT.out.c 6 _ rfl
        have x7 := HAT.out.c 7 _ rfl
        have x8 := HAT.out.c 8 _ rfl
        have x9 := HAT.out.c 9 _ rfl
        have x10 := HAT.out.c 10 _ rfl
        have x11 := HAT.out.c 11 _ rfl
        have x12 := HAT.out.c 12 _ rfl
        have x13 := HAT.out.c 13 _ rfl
        have x14 := HAT.out.c 14 _ rfl
        go_wp2_with (at_builtin; refine wpList_append_own _ rfl (.tmp 63) (.tmp 65) 32 rfl W.heap.size 31 i0 _ 15 136 Try.underlying32 HI.out.1 HI.out.2.1 HI.out.2.2.1 HI.out.2.2.2 rfl (by decide) (.slice va i vc) i (cellsA L) rfl (HOW.out.alloc _) ⟨wc.heap.size, 0, none⟩ 1 1 [.int .i64 k1, .int .i64 t1, .int .i64 f1, .int .i64 n1, .slice pa pl pc, .int .i64 s1, .int .i64 d1, .int .i64 g1, .int .i64 sk1, .int .i64 fd1, .bool m1, .int .i64 i1, .int .i64 y1, .int .i64 v1, .int .u64 u1] rfl rfl (row_cells _ _ _) (by simp [Value.oneCell']) (by unfold maxLen; omega) (by omega) (by simp; omega) ?_; intro v' w5 hown5 hgrow5 _; have HO5 := Lib.hid hown5; have HB5 := Lib.hid ((HBW.out.alloc hbw _).grown hgrow5 (by simp; omega) (fun k hk => (HOW.out.lt k hk).1)); have HRX5 := Lib.hid ((HRX.out.alloc _).grown (HOW.out.alloc _) (by decide) hgrow5); have HRL5 := Lib.hid (fun (o : ActV) (ho : o ∈ L) => ((HRL.out o ho).alloc _).grown (HOW.out.alloc _) (by decide) hgrow5); clear hown5 hgrow5; obtain ⟨g5, cap5, rfl, _⟩ := own_form HO5.out (by omega))
        go_roundg (n - (i + 1))
        case measure => omega
        case rel =>
          refine ⟨i + 1, _, cap5, L ++ [⟨k1, t1, f1, n1, ⟨.slice pa pl pc, ol1, s1, d1, g1, sk1, fd1⟩, m1, i1, y1, v1, u1⟩], by omega, rfl, rfl, by go_num, by simp [HLr.out], fun o ho => ?_, ?_, HB5.out⟩
          · rcases List.mem_append.1 ho with h | h
            · exact ⟨(HBD.out o h).1, HRL5.out o h⟩
            · obtain rfl := (List.mem_singleton.1 h)
              exact ⟨HBX.out, HRX5.out⟩
          · rw [cellsA_snoc]
            exact HO5.out
    · rcases (by have := HN3.out; omega : ¬ i < l.length ∨ (i < l.length ∧ ¬ i < 40)) with hx | ⟨hx, hx4⟩
      all_goals
        go_wp2_with fail
        go_ret
        have hl := HLr.out
        have hin : i = n := by omega
        refine ⟨_, L, rfl, ?_, by omega, HBD.out, HBr.out⟩
        rw [hl]
        exact HOr.out
end Go.Proofs.Ytemmekpmoigdeaa

