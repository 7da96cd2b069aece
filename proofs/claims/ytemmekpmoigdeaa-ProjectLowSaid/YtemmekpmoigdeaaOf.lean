/- What Of makes. -/
import Derived.Test.YtemmekpmoigdeaaAct
set_option linter.unusedSimpArgs false
set_option linter.unusedVariables false
set_option linter.unnecessarySimpa false
namespace Go.Proofs.Ytemmekpmoigdeaa
open Go.RowKit

/-- ticks, and what a tenant does -/
def ofA (t : Int) (l : List ActV) : List ActV := l.filter fun a => decide (a.kind = 3 ∨ a.own t)
def cellsA (l : List ActV) : List Value := l.flatMap ActV.cs
theorem cellsA_length (l : List ActV) : (cellsA l).length = l.length * 15 := by
  induction l with
  | nil => rfl
  | cons a l ih =>
    have : cellsA (a :: l) = a.cs ++ cellsA l := rfl
    rw [this, List.length_append, ih]
    simp [ActV.cs]
    omega
theorem ofA_yes {t : Int} {l : List ActV} {i : Nat} {x : ActV} (hx : l[i]? = some x) (h : x.kind = 3 ∨ x.own t) : ofA t (l.take (i + 1)) = ofA t (l.take i) ++ [x] := by
  unfold ofA
  rw [List.take_add_one, hx]
  simp [h]
theorem ofA_no {t : Int} {l : List ActV} {i : Nat} {x : ActV} (hx : l[i]? = some x) (h : ¬ (x.kind = 3 ∨ x.own t)) : ofA t (l.take (i + 1)) = ofA t (l.take i) := by
  unfold ofA
  rw [List.take_add_one, hx]
  simp [h]
theorem ofA_len (t : Int) (l : List ActV) (i : Nat) : (ofA t (l.take i)).length ≤ i := by
  have h1 := List.length_filter_le (fun a : ActV => decide (a.kind = 3 ∨ a.own t)) (l.take i)
  have h2 : (l.take i).length ≤ i := by simp; omega
  exact Nat.le_trans h1 h2
theorem row_cells2 (w : World) (x : Obj) (xs : Array Value) (e : TypeId) : ∀ j u, xs.toList[j]? = some u → ((w.alloc x).alloc (.cells xs e)).cell? ((⟨w.heap.size + 1, 0, none⟩ : Addr).add j) = some u := by
  intro j u hu
  have h := row_cells (w.alloc x) xs e j u hu
  rw [show (w.alloc x).heap.size = w.heap.size + 1 by simp] at h
  exact h
theorem cellsA_snoc (l : List ActV) (x : ActV) : cellsA (l ++ [x]) = cellsA l ++ x.cs := by simp [cellsA]
theorem info31 : (Try.prog.info? 31).map (fun i => (i.zero, i.size, i.bytes)) = some (some (.agg #[.int .i64 0, .int .i64 0, .int .i64 0, .int .i64 0, .slice none 0 0, .int .i64 0, .int .i64 0, .int .i64 0, .int .i64 0, .int .i64 0, .bool false, .int .i64 0, .int .i64 0, .int .i64 0, .int .u64 0]), 15, 136) := by kernel_rfl
/-- what a call that makes a list of acts leaves -/
def RetA (w : World) (l : List ActV) (e : Ending) (w' : World) : Prop := ∃ v, e = .returned v ∧ w'.ownsRow w.heap.size 31 15 v l.length (cellsA l) ∧ Below w.heap.size w w'

set_option maxRecDepth 100000 in
set_option maxHeartbeats 4000000 in
theorem of_any (t : Int) (v : Value) (l : List ActV) (w : World) (h : IsR ActV.cs 15 w v l) (hok : ∀ a ∈ l, a.ok w) (hlen : l.length ≤ 1000000) :
    Calls Try.prog 8 #[.int .i64 t, v] w (RetA w (ofA t l)) := by
  obtain ⟨a1, c1, rfl, h11, h12, b1, o1, h13, h14⟩ := h
  unfold maxLen at h12
  obtain ⟨n, hn⟩ : ∃ n, n = l.length := ⟨_, rfl⟩
  have HA1 := Lib.hid (show 0 < n → a1 = some ⟨b1, o1, none⟩ ∧ b1 < w.heap.size from fun h => h13 (by omega))
  have H14 := Lib.hid h14
  have HOK := Lib.hid hok
  have HN := Lib.hid hn
  rw [← hn] at h11 hlen ⊢
  clear h14 h13 hok hn
  go_enter Try.func8, Try.ntmps8
  go_wp2
  go_loopg [10, 5] n (fun g v10 v5 wr => ∃ i : Nat, i ≤ n ∧ g = n - i ∧ v10 = .int .i64 i ∧ wr.ownsRow w.heap.size 31 15 v5 (ofA t (l.take i)).length (cellsA (ofA t (l.take i))) ∧ Below w.heap.size w wr)
  case atStart => exact ⟨0, by omega, by omega, rfl, World.ownsRow_nil _ _ _ _, Below.refl _ _⟩
  case round =>
    obtain ⟨i, hi, rfl, rfl, ho, hb⟩ := hrel
    have HO := Lib.hid ho
    have HB := Lib.hid hb
    clear ho hb
    by_cases hlt : i < n
    · obtain ⟨rfl, hbl⟩ := HA1.out (by omega)
      obtain ⟨x, hx⟩ : ∃ x, l[i]? = some x := ⟨l[i]'(by have := HN.out; omega), by simp [← HN.out, hlt]⟩
      have HX := Lib.hid hx
      have HK := Lib.hid (fun (j : Nat) (u : Value) (hj : x.cs[j]? = some u) => (HB.out.cell (p := ⟨b1, o1 + i * 15 + j, none⟩) hbl).trans (H14.out i x hx j u hj))
      have hsl : ∃ pa pl pc, x.pipe.ops = .slice pa pl pc := by
        obtain ⟨pa, pc, hv, _⟩ := HOK.out x (List.mem_of_getElem? hx)
        exact ⟨pa, _, pc, hv⟩
      clear hx
      obtain ⟨pa, pl, pc, hsl⟩ := hsl
      obtain ⟨k1, t1, f1, n1, ⟨p1, ol1, s1, d1, g1, sk1, fd1⟩, m1, i1, y1, v1, u1⟩ := x
      simp only at hsl
      subst hsl
      have hc0 := HK.out 0 _ rfl
      have hc1 := HK.out 1 _ rfl
      have hc2 := HK.out 2 _ rfl
      have hc3 := HK.out 3 _ rfl
      have hc4 := HK.out 4 _ rfl
      have hc5 := HK.out 5 _ rfl
      have hc6 := HK.out 6 _ rfl
      have hc7 := HK.out 7 _ rfl
      have hc8 := HK.out 8 _ rfl
      have hc9 := HK.out 9 _ rfl
      have hc10 := HK.out 10 _ rfl
      have hc11 := HK.out 11 _ rfl
      have hc12 := HK.out 12 _ rfl
      have hc13 := HK.out 13 _ rfl
      have hc14 := HK.out 14 _ rfl
      simp only [Nat.add_zero] at hc0 hc1 hc2 hc3 hc4 hc5 hc6 hc7 hc8 hc9 hc10 hc11 hc12 hc13 hc14
      have HOW := Lib.hid (fun (W : World) => (show Calls Try.prog 17 #[.int .i64 t, .agg #[.int .i64 k1, .int .i64 t1, .int .i64 f1, .int .i64 n1, .slice pa pl pc, .int .i64 s1, .int .i64 d1, .int .i64 g1, .int .i64 sk1, .int .i64 fd1, .bool m1, .int .i64 i1, .int .i64 y1, .int .i64 v1, .int .u64 u1]] W _ from own_any t ⟨k1, t1, f1, n1, ⟨.slice pa pl pc, ol1, s1, d1, g1, sk1, fd1⟩, m1, i1, y1, v1, u1⟩ W))
      have HL := Lib.hid (ofA_len t l i)
      have HE1 := Lib.hid (fun h => ofA_yes (t := t) HX.out h)
      have HE2 := Lib.hid (fun h => ofA_no (t := t) HX.out h)
      obtain ⟨x, hxx⟩ : ∃ x : ActV, ⟨k1, t1, f1, n1, ⟨.slice pa pl pc, ol1, s1, d1, g1, sk1, fd1⟩, m1, i1, y1, v1, u1⟩ = x := ⟨_, rfl⟩
      have hxk : x.kind = k1 := by rw [← hxx]
      have hxc : x.cs = [.int .i64 k1, .int .i64 t1, .int .i64 f1, .int .i64 n1, .slice pa pl pc, .int .i64 s1, .int .i64 d1, .int .i64 g1, .int .i64 sk1, .int .i64 fd1, .bool m1, .int .i64 i1, .int .i64 y1, .int .i64 v1, .int .u64 u1] := by rw [← hxx]; rfl
      rw [hxx] at HOW HE1 HE2
      have HXC := Lib.hid hxc
      obtain ⟨D, hD⟩ : ∃ D, ofA t (l.take i) = D := ⟨_, rfl⟩
      rw [hD] at HO HE1 HE2 HL
      clear hxx hxc hD HX HK
      obtain ⟨i0, hi3, hz0, hz1, hz2⟩ := info_parts info31
      have HI := Lib.hid (And.intro hi3 (And.intro hz0 (And.intro hz1 hz2)))
      clear hi3 hz0 hz1 hz2
      have hz := HB.out.size
      have hDl : D.length ≤ i := HL.out
      by_cases hk : k1 = 3
      · have HE := Lib.hid (HE1.out (.inl (hxk.trans hk)))
        clear hxk
        subst hk
        go_wp2_with (at_builtin; refine wpList_append_own _ rfl (.tmp 22) (.tmp 24) 32 rfl w.heap.size 31 i0 _ 15 136 Try.underlying32 HI.out.1 HI.out.2.1 HI.out.2.2.1 HI.out.2.2.2 rfl (by decide) u5 D.length (cellsA D) rfl ((HO.out.alloc _).alloc _) ⟨wr.heap.size + 1, 0, none⟩ 1 1 [.int .i64 3, .int .i64 t1, .int .i64 f1, .int .i64 n1, .slice pa pl pc, .int .i64 s1, .int .i64 d1, .int .i64 g1, .int .i64 sk1, .int .i64 fd1, .bool m1, .int .i64 i1, .int .i64 y1, .int .i64 v1, .int .u64 u1] rfl rfl (row_cells2 _ _ _ _) (by simp [Value.oneCell']) (by unfold maxLen; omega) (by omega) (by simp; omega) ?_; intro v' w5 hown5 hgrow5 _; have HO5 := Lib.hid hown5; have HB5 := Lib.hid (((HB.out.alloc HB.out.size _).alloc (by simp; omega) _).grown hgrow5 (by simp; omega) (fun q hq => (HO.out.lt q hq).1)); clear hown5 hgrow5)
        go_roundg (n - (i + 1))
        case measure => omega
        case rel => exact ⟨i + 1, by omega, rfl, by go_num, by rw [HE.out, List.length_append, cellsA_snoc, HXC.out]; exact HO5.out, HB5.out⟩
      · have hk' : (k1 == 3) = false := by simp [hk]
        by_cases hown : x.own t
        · have HE := Lib.hid (HE1.out (.inr hown))
          have HOd := Lib.hid hown
          clear hown hxk hk
          go_wp2_with (first
            | (go_at_call 17; (with_reducible refine (HOW.out _).mono ?_); rintro e w1 ⟨rfl, hb⟩; (rw [decide_eq_true HOd.out]); have hc := (bcell hb).1; have HO1 := Lib.hid ((HO.out.alloc _).kept (grown_of_below hb none) (Classical.em _)); have HB1 := Lib.hid (below_step (HB.out.alloc HB.out.size _) hb); clear hb)
            | (at_builtin; refine wpList_append_own _ rfl (.tmp 22) (.tmp 24) 32 rfl w.heap.size 31 i0 _ 15 136 Try.underlying32 HI.out.1 HI.out.2.1 HI.out.2.2.1 HI.out.2.2.2 rfl (by decide) u5 D.length (cellsA D) rfl (HO1.out.alloc _) ⟨w1.heap.size, 0, none⟩ 1 1 [.int .i64 k1, .int .i64 t1, .int .i64 f1, .int .i64 n1, .slice pa pl pc, .int .i64 s1, .int .i64 d1, .int .i64 g1, .int .i64 sk1, .int .i64 fd1, .bool m1, .int .i64 i1, .int .i64 y1, .int .i64 v1, .int .u64 u1] rfl rfl (row_cells _ _ _) (by simp [Value.oneCell']) (by unfold maxLen; omega) (by omega) (by have := HB1.out.size; simp; omega) ?_; intro v' w5 hown5 hgrow5 _; have HO5 := Lib.hid hown5; have HB5 := Lib.hid ((HB1.out.alloc HB1.out.size (.cells #[.int .i64 k1, .int .i64 t1, .int .i64 f1, .int .i64 n1, .slice pa pl pc, .int .i64 s1, .int .i64 d1, .int .i64 g1, .int .i64 sk1, .int .i64 fd1, .bool m1, .int .i64 i1, .int .i64 y1, .int .i64 v1, .int .u64 u1] 31)).grown hgrow5 (by have := HB1.out.size; simp; omega) (fun q hq => (HO1.out.lt q hq).1)); clear hown5 hgrow5))
          go_roundg (n - (i + 1))
          case measure => omega
          case rel => exact ⟨i + 1, by omega, rfl, by go_num, by rw [HE.out, List.length_append, cellsA_snoc, HXC.out]; exact HO5.out, HB5.out⟩
        · have HE := Lib.hid (HE2.out (by rw [hxk]; exact fun h => h.elim hk hown))
          have HOd := Lib.hid hown
          clear hown hxk hk
          go_wp2_with (go_at_call 17; (with_reducible refine (HOW.out _).mono ?_); rintro e w1 ⟨rfl, hb⟩; (rw [decide_eq_false HOd.out]); have HO1 := Lib.hid ((HO.out.alloc _).kept (grown_of_below hb none) (Classical.em _)); have HB1 := Lib.hid (below_step (HB.out.alloc HB.out.size _) hb); clear hb)
          go_roundg (n - (i + 1))
          case measure => omega
          case rel => exact ⟨i + 1, by omega, rfl, by go_num, by rw [HE.out]; exact HO1.out, HB1.out⟩
    · obtain rfl : i = n := by omega
      go_wp2
      go_ret
      have := HO.out
      rw [List.take_of_length_le (by have := HN.out; omega)] at this
      exact ⟨_, rfl, this, HB.out⟩
end Go.Proofs.Ytemmekpmoigdeaa
