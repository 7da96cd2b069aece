/- A cell's rows are read. -/
import Derived.Test.YtcanfmabkklidaaGreatMb21
import Derived.Laws.Cover1
set_option linter.unusedSimpArgs false
set_option linter.unusedVariables false
set_option linter.unnecessarySimpa false
namespace Go.Proofs.YtcanfmabkklidaaGreat
open Go.RowKit

set_option maxRecDepth 100000 in
set_option maxHeartbeats 4000000 in
theorem rows_no (b : Nat) (xs : List Value) (vr : Value) (l : List RowV) (frm n : Int) (w : World) (h : At w b xs) (h6 : xs[6]? = some vr) (hr : w.ownsRow 0 64 5 vr l.length (l.flatMap RowV.cs)) (hl : l.length ≤ 1000000) (hf : cutOk l frm = false) :
    Calls Tryz.prog 60 #[.pointer (some ⟨b, 0, none⟩), .int .i64 frm, .int .i64 n] w fun e w' => e = .returned (.tuple #[.slice none 0 0, .int .i64 5]) ∧ w' = w := by
  have hb := h.lt
  have c6 := h.c 6 _ h6
  obtain ⟨ra, rc, rfl⟩ := own_shape2 hr
  have hf2 : frm < 0 ∨ (0 ≤ frm ∧ (l.length : Int) < frm) := by simp [cutOk] at hf; omega
  clear h h6 hr hf
  rcases hf2 with hf | ⟨h1, h2⟩
  all_goals
    go_enter Tryz.func60, Tryz.ntmps60
    go_wp2
    go_ret2
    exact ⟨rfl, rfl⟩
theorem cutL_cases {α : Type} (l : List α) (f d : Nat) (n : Int) (hl : l.length = f + d) :
    (n ≤ 0 ∧ cutL l f n = (l.drop f).take 0) ∨ (∃ k : Nat, n = k ∧ 0 < k ∧ k ≤ 32 ∧ k ≤ d ∧ cutL l f n = (l.drop f).take k) ∨ (0 < n ∧ n ≤ 32 ∧ (d : Int) < n ∧ cutL l f n = (l.drop f).take d) ∨
      (32 < n ∧ 32 ≤ d ∧ cutL l f n = (l.drop f).take 32) ∨ (32 < n ∧ d < 32 ∧ cutL l f n = (l.drop f).take d) := by
  have e : cutL l f n = (l.drop f).take (max 0 (min (min n 32) ((l.length : Int) - f))).toNat := by
    unfold cutL cutOk
    rw [if_pos (by simp; omega)]
    simp
  rw [e, hl]
  rcases (by omega : n ≤ 0 ∨ (0 < n ∧ n ≤ 32 ∧ n ≤ (d : Int)) ∨ (0 < n ∧ n ≤ 32 ∧ (d : Int) < n) ∨ (32 < n ∧ 32 ≤ d) ∨ (32 < n ∧ d < 32)) with h | h | h | h | h
  · left
    refine ⟨h, ?_⟩
    rw [show (max 0 (min (min n 32) (((f + d : Nat) : Int) - f))).toNat = 0 by omega]
  · right; left
    refine ⟨n.toNat, by omega, by omega, by omega, by omega, ?_⟩
    rw [show (max 0 (min (min n 32) (((f + d : Nat) : Int) - f))).toNat = n.toNat by omega]
  · right; right; left
    refine ⟨h.1, h.2.1, h.2.2, ?_⟩
    rw [show (max 0 (min (min n 32) (((f + d : Nat) : Int) - f))).toNat = d by omega]
  · right; right; right; left
    refine ⟨h.1, h.2, ?_⟩
    rw [show (max 0 (min (min n 32) (((f + d : Nat) : Int) - f))).toNat = 32 by omega]
  · right; right; right; right
    refine ⟨h.1, h.2, ?_⟩
    rw [show (max 0 (min (min n 32) (((f + d : Nat) : Int) - f))).toNat = d by omega]
/-- a piece of a list: what is read by it -/
theorem RdR.piece {α : Type} {cs : α → List Value} {k : Nat} {w : World} {ad : Addr} {n c f m : Nat} {l : List α} {S : List Nat} (h : RdR cs k w (.slice (some ad) n c) l S) (hm : f + m ≤ n) (hf : f < c) : ∃ S', RdR cs k w (.slice (some (ad.add (f * k))) m (c - f)) ((l.drop f).take m) S' := by
  obtain ⟨S1, h1, _⟩ := h.drop (m := f) (by omega)
  exact h1.take (by omega)
theorem RdR.none {α : Type} (cs : α → List Value) (k : Nat) (w : World) (ad : Addr) : RdR cs k w (.slice (some ad) 0 0) [] [] := ⟨some ad, 0, by simp, by simp, by simp, .inl ⟨rfl, rfl, fun h => by cases h⟩⟩
set_option maxRecDepth 100000 in
set_option maxHeartbeats 4000000 in
theorem rows_yes (b : Nat) (xs : List Value) (vr : Value) (l : List RowV) (f : Nat) (n : Int) (w : World) (h : At w b xs) (h6 : xs[6]? = some vr) (hr : w.ownsRow 0 64 5 vr l.length (l.flatMap RowV.cs)) (hl : l.length ≤ 1000000) (hf : f ≤ l.length) :
    Calls Tryz.prog 60 #[.pointer (some ⟨b, 0, none⟩), .int .i64 f, .int .i64 n] w fun e w' => ∃ v, e = .returned (.tuple #[v, .int .i64 0]) ∧ w'.ownsRow w.heap.size 64 5 v (cutL l f n).length ((cutL l f n).flatMap RowV.cs) ∧ Below w.heap.size w w' := by
  have hb := h.lt
  have c6 := h.c 6 _ h6
  obtain ⟨d, hd⟩ : ∃ d, l.length = f + d := ⟨l.length - f, by omega⟩
  have hR := RdR.of_own rowcs_len hr
  have hcap : (vr = .slice none 0 0 ∧ f + d = 0) ∨ ∃ ad rc, vr = .slice (some ad) (f + d) rc ∧ f + d ≤ rc ∧ rc ≤ 9223372036854775807 := by
    rcases hr.2 with ⟨h1, h2⟩ | ⟨g, cap, cur, h1, _, _, h2, h3, _⟩
    · exact .inl ⟨h1, by omega⟩
    · unfold maxLen at h3
      exact .inr ⟨_, cap, by rw [h1, hd], by omega, by omega⟩
  have h1 : ((f : Int) < 0) = False := by simp
  have h2 : (((f + d : Nat) : Int) < f) = False := by simp; omega
  have hw : wrap64 (((f + d : Nat) : Int) - f) = d := by unfold wrap64; omega
  have hm2 : max 0 ((f : Int) + d - f) = d := by omega
  have hcut := cutL_cases l f d n hd
  obtain ⟨C, hC⟩ : ∃ C, C = cutL l f n := ⟨_, rfl⟩
  rw [← hC] at hcut ⊢
  have hld : f + d ≤ 1000000 := by omega
  clear h h6 hr hC hl hf
  rcases hcap with ⟨rfl, h0⟩ | ⟨ad, rc, rfl, hrc, hrc2⟩
  · obtain ⟨rfl, rfl⟩ : f = 0 ∧ d = 0 := by omega
    obtain rfl : l = [] := List.eq_nil_of_length_eq_zero (by omega)
    have HC := Lib.hid (show C = [] from by rcases hcut with ⟨_, h⟩ | ⟨_, _, _, _, _, h⟩ | ⟨_, _, _, h⟩ | ⟨_, _, h⟩ | ⟨_, _, h⟩ <;> simpa using h)
    have HP := Lib.hid (show RdR RowV.cs 5 w (.slice none 0 0) C [] from by rw [HC.out]; exact RdR.nil _ _ _)
    have hCl : C.length ≤ 1000000 := by simp [HC.out]
    clear hcut hd hR
    rcases (by omega : n ≤ 0 ∨ (0 < n ∧ n ≤ 32) ∨ 32 < n) with hn | ⟨hn, hn2⟩ | hn
    · have hm : max 0 n = 0 := by omega
      go_enter Tryz.func60, Tryz.ntmps60
      go_wp2_with (go_at_call 70; (with_reducible refine (clone70 _ _ _ _ HP.out hCl).mono ?_); rintro e w1 ⟨v1, rfl, ho1, hb1⟩; obtain ⟨pa, pc, rfl⟩ := own_shape2 ho1; have HO1 := Lib.hid ho1; have HB1 := Lib.hid hb1; clear ho1 hb1)
      go_ret2
      exact ⟨_, rfl, HO1.out, HB1.out⟩
    · go_enter Tryz.func60, Tryz.ntmps60
      go_wp2_with (go_at_call 70; (with_reducible refine (clone70 _ _ _ _ HP.out hCl).mono ?_); rintro e w1 ⟨v1, rfl, ho1, hb1⟩; obtain ⟨pa, pc, rfl⟩ := own_shape2 ho1; have HO1 := Lib.hid ho1; have HB1 := Lib.hid hb1; clear ho1 hb1)
      go_ret2
      exact ⟨_, rfl, HO1.out, HB1.out⟩
    · go_enter Tryz.func60, Tryz.ntmps60
      go_wp2_with (go_at_call 70; (with_reducible refine (clone70 _ _ _ _ HP.out hCl).mono ?_); rintro e w1 ⟨v1, rfl, ho1, hb1⟩; obtain ⟨pa, pc, rfl⟩ := own_shape2 ho1; have HO1 := Lib.hid ho1; have HB1 := Lib.hid hb1; clear ho1 hb1)
      go_ret2
      exact ⟨_, rfl, HO1.out, HB1.out⟩
  · rcases hcut with ⟨g1, g2⟩ | ⟨k, rfl, g0, g1, g3, g2⟩ | ⟨g0, g1, g3, g2⟩ | ⟨g1, g3, g2⟩ | ⟨g1, g3, g2⟩
    all_goals
      have HC := Lib.hid g2
      have HR := Lib.hid hR
      have HD := Lib.hid hd
      have hCl : C.length ≤ 1000000 := by rw [HC.out, List.length_take, List.length_drop]; have := HD.out; omega
      clear g2 hR hd
      rcases (by omega : f = rc ∨ f < rc) with hfr | hfr
    · obtain rfl := hfr
      obtain rfl : d = 0 := by omega
      have HC2 := Lib.hid (show C = [] from by rw [HC.out]; simp)
      have HC := HC2
      have HP := Lib.hid (show RdR RowV.cs 5 w (.slice (some ad) 0 0) C [] from by rw [HC.out]; exact RdR.none _ _ _ _)
      have hm : max 0 n = 0 := by omega
      go_enter Tryz.func60, Tryz.ntmps60
      go_wp2_with (go_at_call 70; (with_reducible refine (clone70 _ _ _ _ HP.out hCl).mono ?_); rintro e w1 ⟨v1, rfl, ho1, hb1⟩; obtain ⟨pa, pc, rfl⟩ := own_shape2 ho1; have HO1 := Lib.hid ho1; have HB1 := Lib.hid hb1; clear ho1 hb1)
      go_ret2
      exact ⟨_, rfl, HO1.out, HB1.out⟩
    · have hm : max 0 n = 0 := by omega
      obtain ⟨S1, hp⟩ := HR.out.piece (f := f) (m := 0) (by omega) hfr
      have HP := Lib.hid (show RdR RowV.cs 5 w _ C S1 from HC.out ▸ hp)
      clear hp
      go_enter Tryz.func60, Tryz.ntmps60
      go_wp2_with (go_at_call 70; (with_reducible refine (clone70 _ _ _ _ HP.out hCl).mono ?_); rintro e w1 ⟨v1, rfl, ho1, hb1⟩; obtain ⟨pa, pc, rfl⟩ := own_shape2 ho1; have HO1 := Lib.hid ho1; have HB1 := Lib.hid hb1; clear ho1 hb1)
      go_ret2
      exact ⟨_, rfl, HO1.out, HB1.out⟩
    · omega
    · skip
      obtain ⟨S1, hp⟩ := HR.out.piece (f := f) (m := k) (by omega) hfr
      have HP := Lib.hid (show RdR RowV.cs 5 w _ C S1 from HC.out ▸ hp)
      clear hp
      go_enter Tryz.func60, Tryz.ntmps60
      go_wp2_with (go_at_call 70; (with_reducible refine (clone70 _ _ _ _ HP.out hCl).mono ?_); rintro e w1 ⟨v1, rfl, ho1, hb1⟩; obtain ⟨pa, pc, rfl⟩ := own_shape2 ho1; have HO1 := Lib.hid ho1; have HB1 := Lib.hid hb1; clear ho1 hb1)
      go_ret2
      exact ⟨_, rfl, HO1.out, HB1.out⟩
    · obtain rfl := hfr
      obtain rfl : d = 0 := by omega
      have HC2 := Lib.hid (show C = [] from by rw [HC.out]; simp)
      have HC := HC2
      have HP := Lib.hid (show RdR RowV.cs 5 w (.slice (some ad) 0 0) C [] from by rw [HC.out]; exact RdR.none _ _ _ _)
      go_enter Tryz.func60, Tryz.ntmps60
      go_wp2_with (go_at_call 70; (with_reducible refine (clone70 _ _ _ _ HP.out hCl).mono ?_); rintro e w1 ⟨v1, rfl, ho1, hb1⟩; obtain ⟨pa, pc, rfl⟩ := own_shape2 ho1; have HO1 := Lib.hid ho1; have HB1 := Lib.hid hb1; clear ho1 hb1)
      go_ret2
      exact ⟨_, rfl, HO1.out, HB1.out⟩
    · skip
      obtain ⟨S1, hp⟩ := HR.out.piece (f := f) (m := d) (by omega) hfr
      have HP := Lib.hid (show RdR RowV.cs 5 w _ C S1 from HC.out ▸ hp)
      clear hp
      go_enter Tryz.func60, Tryz.ntmps60
      go_wp2_with (go_at_call 70; (with_reducible refine (clone70 _ _ _ _ HP.out hCl).mono ?_); rintro e w1 ⟨v1, rfl, ho1, hb1⟩; obtain ⟨pa, pc, rfl⟩ := own_shape2 ho1; have HO1 := Lib.hid ho1; have HB1 := Lib.hid hb1; clear ho1 hb1)
      go_ret2
      exact ⟨_, rfl, HO1.out, HB1.out⟩
    · omega
    · have hm3 : ((f : Int) + max 0 32).toNat - f = 32 := by omega
      obtain ⟨S1, hp⟩ := HR.out.piece (f := f) (m := 32) (by omega) hfr
      have HP := Lib.hid (show RdR RowV.cs 5 w _ C S1 from HC.out ▸ hp)
      clear hp
      go_enter Tryz.func60, Tryz.ntmps60
      go_wp2_with (go_at_call 70; (with_reducible refine (clone70 _ _ _ _ HP.out hCl).mono ?_); rintro e w1 ⟨v1, rfl, ho1, hb1⟩; obtain ⟨pa, pc, rfl⟩ := own_shape2 ho1; have HO1 := Lib.hid ho1; have HB1 := Lib.hid hb1; clear ho1 hb1)
      go_ret2
      exact ⟨_, rfl, HO1.out, HB1.out⟩
    · obtain rfl := hfr
      obtain rfl : d = 0 := by omega
      have HC2 := Lib.hid (show C = [] from by rw [HC.out]; simp)
      have HC := HC2
      have HP := Lib.hid (show RdR RowV.cs 5 w (.slice (some ad) 0 0) C [] from by rw [HC.out]; exact RdR.none _ _ _ _)
      go_enter Tryz.func60, Tryz.ntmps60
      go_wp2_with (go_at_call 70; (with_reducible refine (clone70 _ _ _ _ HP.out hCl).mono ?_); rintro e w1 ⟨v1, rfl, ho1, hb1⟩; obtain ⟨pa, pc, rfl⟩ := own_shape2 ho1; have HO1 := Lib.hid ho1; have HB1 := Lib.hid hb1; clear ho1 hb1)
      go_ret2
      exact ⟨_, rfl, HO1.out, HB1.out⟩
    · skip
      obtain ⟨S1, hp⟩ := HR.out.piece (f := f) (m := d) (by omega) hfr
      have HP := Lib.hid (show RdR RowV.cs 5 w _ C S1 from HC.out ▸ hp)
      clear hp
      go_enter Tryz.func60, Tryz.ntmps60
      go_wp2_with (go_at_call 70; (with_reducible refine (clone70 _ _ _ _ HP.out hCl).mono ?_); rintro e w1 ⟨v1, rfl, ho1, hb1⟩; obtain ⟨pa, pc, rfl⟩ := own_shape2 ho1; have HO1 := Lib.hid ho1; have HB1 := Lib.hid hb1; clear ho1 hb1)
      go_ret2
      exact ⟨_, rfl, HO1.out, HB1.out⟩
end Go.Proofs.YtcanfmabkklidaaGreat
set_option linter.unusedSimpArgs false
set_option linter.unusedVariables false
set_option linter.unnecessarySimpa false
namespace Go.Proofs.YtcanfmabkklidaaGreat
open Go.RowKit

def ptrOf (p : Option Nat) : Value := .pointer (p.map fun x => (⟨x, 0, none⟩ : Addr))
def coreCs (c : CoreV) (vs vp : Value) (bb : Nat) (pc : Nat → Option Nat) : List Value :=
  [.int .i64 c.budget, .int .i64 c.room, .int .i64 c.quota, vs, ptrOf (pc 0), ptrOf (pc 1), ptrOf (pc 2), ptrOf (pc 3), ptrOf (pc 4), ptrOf (pc 5), ptrOf (pc 6), ptrOf (pc 7), vp, .pointer (some ⟨bb, 0, none⟩), .int .i64 c.ticks]
theorem core_cell (c : CoreV) (vs vp : Value) (bb : Nat) (pc : Nat → Option Nat) (t : Nat) (ht : t ≤ 7) : (coreCs c vs vp bb pc)[4 + t]? = some (ptrOf (pc t)) := by
  have hc : t = 0 ∨ t = 1 ∨ t = 2 ∨ t = 3 ∨ t = 4 ∨ t = 5 ∨ t = 6 ∨ t = 7 := by omega
  rcases hc with rfl | rfl | rfl | rfl | rfl | rfl | rfl | rfl <;> rfl
theorem core_set (c : CoreV) (vs vp : Value) (bb : Nat) (pc : Nat → Option Nat) (t : Nat) (ht : t ≤ 7) (x : Option Nat) : (coreCs c vs vp bb pc).set (4 + t) (ptrOf x) = coreCs c vs vp bb (fun u => if u = t then x else pc u) := by
  have hc : t = 0 ∨ t = 1 ∨ t = 2 ∨ t = 3 ∨ t = 4 ∨ t = 5 ∨ t = 6 ∨ t = 7 := by omega
  rcases hc with rfl | rfl | rfl | rfl | rfl | rfl | rfl | rfl <;> rfl
def PotsAt (w : World) (vp : Value) (pots : List PotV) (S : List Nat) : Prop :=
  (pots = [] ∧ vp = .slice none 0 0 ∧ S = []) ∨ ∃ g cap, vp = .slice (some ⟨g, 0, none⟩) pots.length cap ∧ At w g (pots.flatMap PotV.cs) ∧ S = [g] ∧ pots.length ≤ cap
theorem PotsAt.same {w w' : World} {vp : Value} {pots : List PotV} {S : List Nat} (h : PotsAt w vp pots S) (hs : ∀ x ∈ S, w'.heap[x]? = w.heap[x]?) : PotsAt w' vp pots S := by
  rcases h with h | ⟨g, cap, h1, h2, rfl, h3⟩
  · exact .inl h
  · exact .inr ⟨g, cap, h1, h2.of_block (hs g (by simp)), rfl, h3⟩
def CellOpt (w : World) (p : Option Nat) (S : List Nat) : Option CellV → Prop
  | none => p = none ∧ S = []
  | some x => ∃ bt, p = some bt ∧ CellAt w bt S x
theorem CellOpt.same {w w' : World} {p : Option Nat} {S : List Nat} {x : Option CellV} (h : CellOpt w p S x) (hs : ∀ y ∈ S, w'.heap[y]? = w.heap[y]?) : CellOpt w' p S x := by
  cases x with
  | none => exact h
  | some x =>
    obtain ⟨bt, h1, h2⟩ := h
    exact ⟨bt, h1, h2.same hs⟩
def boardCs (vb : Nat → Value) : List Value := [vb 0, vb 1, vb 2, vb 3, vb 4, vb 5, vb 6, vb 7]
theorem board_cell (vb : Nat → Value) (t : Nat) (ht : t ≤ 7) : (boardCs vb)[t]? = some (vb t) := by
  have hc : t = 0 ∨ t = 1 ∨ t = 2 ∨ t = 3 ∨ t = 4 ∨ t = 5 ∨ t = 6 ∨ t = 7 := by omega
  rcases hc with rfl | rfl | rfl | rfl | rfl | rfl | rfl | rfl <;> rfl
theorem board_set (vb : Nat → Value) (t : Nat) (ht : t ≤ 7) (x : Value) : (boardCs vb).set t x = boardCs (fun u => if u = t then x else vb u) := by
  have hc : t = 0 ∨ t = 1 ∨ t = 2 ∨ t = 3 ∨ t = 4 ∨ t = 5 ∨ t = 6 ∨ t = 7 := by omega
  rcases hc with rfl | rfl | rfl | rfl | rfl | rfl | rfl | rfl <;> rfl
/-- the board: its block, and a row for each tenant; H: part 0 is the block, part t + 1 what tenant t's row lies in -/
structure BoardIn (w : World) (bb : Nat) (vb : Nat → Value) (H : Nat → List Nat) (f : Nat → List RelV) : Prop where
  a : At w bb (boardCs vb)
  h0 : H 0 = [bb]
  r : ∀ t, t < 8 → w.ownsRow 0 52 4 (vb t) (f t).length ((f t).flatMap RelV.cs)
  ht : ∀ t, t < 8 → H (t + 1) = (vb t).ownBlock.toList
  pr : Parts w.heap.size 9 H
def BoardAt (w : World) (bb : Nat) (S : List Nat) (f : Nat → List RelV) : Prop := ∃ vb H, S = allOf 9 H ∧ BoardIn w bb vb H f
theorem BoardIn.same {w w' : World} {bb : Nat} {vb : Nat → Value} {H : Nat → List Nat} {f : Nat → List RelV} (h : BoardIn w bb vb H f) (hs : ∀ x ∈ allOf 9 H, w'.heap[x]? = w.heap[x]?) (hsz : w.heap.size ≤ w'.heap.size) : BoardIn w' bb vb H f :=
  ⟨h.a.of_block (hs bb (mem_allOf.2 ⟨0, by omega, by simp [h.h0]⟩)), h.h0, fun t ht => own_of_block (h.r t ht) (fun x hx => hs x (mem_allOf.2 ⟨t + 1, by omega, by rw [h.ht t ht]; exact hx⟩)), h.ht, h.pr.grow hsz⟩
theorem BoardAt.same {w w' : World} {bb : Nat} {S : List Nat} {f : Nat → List RelV} (h : BoardAt w bb S f) (hs : ∀ x ∈ S, w'.heap[x]? = w.heap[x]?) (hsz : w.heap.size ≤ w'.heap.size) : BoardAt w' bb S f := by
  obtain ⟨vb, H, rfl, h⟩ := h
  exact ⟨vb, H, rfl, h.same hs hsz⟩
structure CoreIn (w : World) (b : Nat) (G : Nat → List Nat) (vs vp : Value) (bb : Nat) (pc : Nat → Option Nat) (c : CoreV) : Prop where
  a : At w b (coreCs c vs vp bb pc)
  g0 : G 0 = [b]
  s : RdR SinkV.cs 5 w vs c.sinks (G 1)
  p : PotsAt w vp c.pots (G 2)
  bd : BoardAt w bb (G 3) c.board
  cs : ∀ t, t < 8 → CellOpt w (pc t) (G (4 + t)) (c.cells t)
  pr : Parts w.heap.size 12 G
def CoreAt (w : World) (b : Nat) (S : List Nat) (c : CoreV) : Prop := ∃ G vs vp bb pc, S = allOf 12 G ∧ CoreIn w b G vs vp bb pc c
section
variable {w w' : World} {b : Nat} {G : Nat → List Nat} {vs vp : Value} {bb : Nat} {pc : Nat → Option Nat} {c : CoreV}
theorem CoreIn.lt (h : CoreIn w b G vs vp bb pc c) : ∀ x ∈ allOf 12 G, x < w.heap.size := fun x hx => by
  obtain ⟨i, hi, hx⟩ := mem_allOf.1 hx
  exact h.pr.lt i hi x hx
theorem CoreIn.same (h : CoreIn w b G vs vp bb pc c) (hs : ∀ x ∈ allOf 12 G, w'.heap[x]? = w.heap[x]?) (hsz : w.heap.size ≤ w'.heap.size) : CoreIn w' b G vs vp bb pc c :=
  have hg : ∀ i, i < 12 → ∀ x ∈ G i, w'.heap[x]? = w.heap[x]? := fun i hi x hx => hs x (mem_allOf.2 ⟨i, hi, hx⟩)
  ⟨h.a.of_block (hg 0 (by omega) b (by simp [h.g0])), h.g0, h.s.same (hg 1 (by omega)), h.p.same (hg 2 (by omega)), h.bd.same (hg 3 (by omega)) hsz, fun t ht => (h.cs t ht).same (hg (4 + t) (by omega)), h.pr.grow hsz⟩
theorem CoreIn.below (h : CoreIn w b G vs vp bb pc c) (hb : Below w.heap.size w w') : CoreIn w' b G vs vp bb pc c := h.same (fun x hx => hb.block x (h.lt x hx)) hb.size
theorem CoreIn.drew (h : CoreIn w b G vs vp bb pc c) : CoreIn w.drew b G vs vp bb pc c := h.below (bel_draw (Below.refl _ _))
theorem CoreIn.alloc (h : CoreIn w b G vs vp bb pc c) (o : Obj) : CoreIn (w.alloc o) b G vs vp bb pc c := h.below (bel_alloc (Below.refl _ _) o)
/-- part i turned: the others stand -/
theorem CoreIn.parts {i : Nat} {S : List Nat} (h : CoreIn w b G vs vp bb pc c) (hi : i < 12) (hm : Mod (G i) w w') (hS : Into S (G i) w.heap.size) (hlt : ∀ x ∈ S, x < w'.heap.size) :
    Parts w'.heap.size 12 (put G i S) ∧ (∀ j, j < 12 → j ≠ i → ∀ x ∈ G j, w'.heap[x]? = w.heap[x]?) ∧ (∀ j, j < 12 → Into (put G i S j) (G j) w.heap.size) := by
  refine ⟨h.pr.upd i hS hlt hm.size, fun j hj hne => h.pr.same rfl hm (fun x hx => hx) hi hj hne, fun j hj => ?_⟩
  by_cases e : j = i
  · subst e
    rw [put_same]
    exact hS
  · rw [put_ne G S e]
    exact Into.refl _ _
/-- tenant t's cell turned -/
theorem CoreIn.cell {t bt : Nat} {S : List Nat} {x : CellV} (h : CoreIn w b G vs vp bb pc c) (ht : t < 8) (hp : pc t = some bt) (hm : Mod (G (4 + t)) w w') (hx : CellAt w' bt S x) (hS : Into S (G (4 + t)) w.heap.size) :
    CoreIn w' b (put G (4 + t) S) vs vp bb pc (c.setCell t x) := by
  obtain ⟨h1, h2, _⟩ := h.parts (by omega) hm hS hx.lt
  refine ⟨h.a.of_block (h2 0 (by omega) (by omega) b (by simp [h.g0])), by rw [put_ne G S (by omega)]; exact h.g0, ?_, ?_, ?_, fun u hu => ?_, h1⟩
  · rw [put_ne G S (by omega)]; exact h.s.same (h2 1 (by omega) (by omega))
  · rw [put_ne G S (by omega)]; exact h.p.same (h2 2 (by omega) (by omega))
  · rw [put_ne G S (by omega)]; exact h.bd.same (h2 3 (by omega) (by omega)) hm.size
  · by_cases e : u = t
    · subst e
      rw [put_same]
      simp only [CoreV.setCell, if_true]
      exact ⟨bt, hp, hx⟩
    · rw [put_ne G S (by omega)]
      simp only [CoreV.setCell, if_neg e]
      exact (h.cs u hu).same (h2 (4 + u) (by omega) (by omega))
/-- the pots turned -/
theorem CoreIn.potted {pots : List PotV} (h : CoreIn w b G vs vp bb pc c) (hm : Mod (G 2) w w') (hp : PotsAt w' vp pots (G 2)) :
    CoreIn w' b G vs vp bb pc { c with pots := pots } := by
  have hs : ∀ j, j < 12 → j ≠ 2 → ∀ x ∈ G j, w'.heap[x]? = w.heap[x]? := fun j hj hne => h.pr.same rfl hm (fun x hx => hx) (by omega) hj hne
  exact ⟨h.a.of_block (hs 0 (by omega) (by omega) b (by simp [h.g0])), h.g0, h.s.same (hs 1 (by omega) (by omega)), hp, h.bd.same (hs 3 (by omega) (by omega)) hm.size, fun u hu => (h.cs u hu).same (hs (4 + u) (by omega) (by omega)), h.pr.grow hm.size⟩
/-- the board turned -/
theorem CoreIn.boarded {f : Nat → List RelV} {S : List Nat} (h : CoreIn w b G vs vp bb pc c) (hm : Mod (G 3) w w') (hb : BoardAt w' bb S f) (hS : Into S (G 3) w.heap.size) (hlt : ∀ x ∈ S, x < w'.heap.size) :
    CoreIn w' b (put G 3 S) vs vp bb pc { c with board := f } := by
  obtain ⟨h1, h2, _⟩ := h.parts (by omega) hm hS hlt
  refine ⟨h.a.of_block (h2 0 (by omega) (by omega) b (by simp [h.g0])), by rw [put_ne G S (by omega)]; exact h.g0, ?_, ?_, ?_, fun u hu => ?_, h1⟩
  · rw [put_ne G S (by omega)]; exact h.s.same (h2 1 (by omega) (by omega))
  · rw [put_ne G S (by omega)]; exact h.p.same (h2 2 (by omega) (by omega))
  · rw [put_same]; exact hb
  · rw [put_ne G S (by omega)]; exact (h.cs u hu).same (h2 (4 + u) (by omega) (by omega))
/-- the core's own block turned -/
theorem CoreIn.own {c' : CoreV} (h : CoreIn w b G vs vp bb pc c) (hm : Mod [b] w w') (ha : At w' b (coreCs c' vs vp bb pc)) (h1 : c'.sinks = c.sinks) (h2 : c'.pots = c.pots) (h3 : c'.board = c.board) (h4 : c'.cells = c.cells) :
    CoreIn w' b G vs vp bb pc c' := by
  have hs : ∀ j, j < 12 → j ≠ 0 → ∀ x ∈ G j, w'.heap[x]? = w.heap[x]? := fun j hj hne => h.pr.same rfl hm (fun x hx => by rw [h.g0]; exact hx) (by omega) hj hne
  exact ⟨ha, h.g0, h1 ▸ h.s.same (hs 1 (by omega) (by omega)), h2 ▸ h.p.same (hs 2 (by omega) (by omega)), h3 ▸ h.bd.same (hs 3 (by omega) (by omega)) hm.size, fun u hu => by rw [h4]; exact (h.cs u hu).same (hs (4 + u) (by omega) (by omega)), h.pr.grow hm.size⟩
end
end Go.Proofs.YtcanfmabkklidaaGreat
