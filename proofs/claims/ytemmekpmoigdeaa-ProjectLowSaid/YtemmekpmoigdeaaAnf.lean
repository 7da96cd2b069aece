/- What project.Answers picks. -/
import Derived.Test.YtemmekpmoigdeaaKa
set_option linter.unusedSimpArgs false
set_option linter.unusedVariables false
set_option linter.unnecessarySimpa false
namespace Go.Proofs.Ytemmekpmoigdeaa
open Go.RowKit

/-- the answers to a tenant's own acts -/
def ansA (t : Int) (z : List (ActV × AnsV)) : List AnsV := (z.filter fun p => decide (p.1.own t)).map (·.2)
theorem ansA_yes {t : Int} {z : List (ActV × AnsV)} {i : Nat} {x : ActV} {y : AnsV} (hx : z[i]? = some (x, y)) (h : x.own t) : ansA t (z.take (i + 1)) = ansA t (z.take i) ++ [y] := by
  unfold ansA
  rw [List.take_add_one, hx]
  simp [h]
theorem ansA_no {t : Int} {z : List (ActV × AnsV)} {i : Nat} {x : ActV} {y : AnsV} (hx : z[i]? = some (x, y)) (h : ¬ x.own t) : ansA t (z.take (i + 1)) = ansA t (z.take i) := by
  unfold ansA
  rw [List.take_add_one, hx]
  simp [h]
theorem ansA_len (t : Int) (z : List (ActV × AnsV)) (i : Nat) : (ansA t (z.take i)).length ≤ i := by
  unfold ansA
  have h1 := List.length_filter_le (fun p : ActV × AnsV => decide (p.1.own t)) (z.take i)
  have h2 : (z.take i).length ≤ i := by simp; omega
  simp only [List.length_map]
  omega
theorem anscs_len (x : AnsV) : x.cs.length = 3 := rfl
theorem info41 : (Try.prog.info? 41).map (fun i => (i.zero, i.size, i.bytes)) = some (some (.agg #[.int .i64 0, .slice none 0 0, .slice none 0 0]), 3, 56) := by kernel_rfl
/-- what a call that makes a list of answers leaves -/
def RetN (W : World) (l : List AnsV) (e : Ending) (w' : World) : Prop := ∃ v, e = .returned v ∧ w'.ownsRow W.heap.size 41 3 v l.length (l.flatMap AnsV.cs) ∧ Below W.heap.size W w'

set_option maxRecDepth 100000 in
set_option maxHeartbeats 8000000 in
theorem answers_any (t : Int) (va vn : Value) (la : List ActV) (ln : List AnsV) (w : World) (h1 : IsR ActV.cs 15 w va la) (h2 : IsR AnsV.cs 3 w vn ln) (k1 : ∀ a ∈ la, a.ok w) (k2 : ∀ a ∈ ln, a.ok w) (hlen : la.length ≤ 1000000) (hlen2 : ln.length ≤ 1000000) :
    Calls Try.prog 16 #[.int .i64 t, va, vn] w (RetN w (ansA t (la.zip ln))) := by
  obtain ⟨a1, c1, rfl, h11, h12, b1, o1, h13, h14⟩ := h1
  obtain ⟨a2, c2, rfl, h21, h22, b2, o2, h23, h24⟩ := h2
  unfold maxLen at h12 h22
  obtain ⟨n, hn⟩ : ∃ n, n = min la.length ln.length := ⟨_, rfl⟩
  have hn1 : n ≤ la.length := by omega
  have hn2 : n ≤ ln.length := by omega
  have HNZ := Lib.hid (show (la.zip ln).length = n by simp [hn])
  have HA1 := Lib.hid (show 0 < n → a1 = some ⟨b1, o1, none⟩ ∧ b1 < w.heap.size from fun h => h13 (by omega))
  have HA2 := Lib.hid (show 0 < n → a2 = some ⟨b2, o2, none⟩ ∧ b2 < w.heap.size from fun h => h23 (by omega))
  have H14 := Lib.hid h14
  have H24 := Lib.hid h24
  have HK1 := Lib.hid k1
  have HK2 := Lib.hid k2
  clear h14 h24 h13 h23 k1 k2
  rcases (by omega : (n = la.length ∧ la.length < ln.length) ∨ (n = la.length ∧ (la.length ≤ ln.length ∧ ln.length ≤ la.length)) ∨ (n = ln.length ∧ ln.length < la.length)) with ⟨hn3, hx⟩ | ⟨hn3, hx⟩ | ⟨hn3, hx⟩
  all_goals
    clear hn
    have HN3 := Lib.hid hn3
    clear hn3
    go_enter Try.func16, Try.ntmps16
    go_wp2_with fail
    go_loopg [7, 18] n (fun g v7 v18 wr => ∃ (i : Nat) (ua : Option Addr) (uc : Nat), i ≤ n ∧ g = n - i ∧ v7 = .slice ua (ansA t ((la.zip ln).take i)).length uc ∧ v18 = .int .i64 i ∧ wr.ownsRow w.heap.size 41 3 (.slice ua (ansA t ((la.zip ln).take i)).length uc) (ansA t ((la.zip ln).take i)).length ((ansA t ((la.zip ln).take i)).flatMap AnsV.cs) ∧ Below w.heap.size w wr)
    case atStart => exact ⟨0, none, 0, by omega, by omega, rfl, rfl, World.ownsRow_nil _ _ _ _, Below.refl _ _⟩
    case round =>
      obtain ⟨i, ua, uc, hi, rfl, rfl, rfl, ho, hb⟩ := hrel
      have HO := Lib.hid ho
      have HB := Lib.hid hb
      have hz := hb.size
      clear ho hb
      by_cases hlt : i < n
      · have hl1 : i < la.length := by omega
        have hl2 : i < ln.length := by omega
        obtain ⟨rfl, hbl1⟩ := HA1.out (by omega)
        obtain ⟨rfl, hbl2⟩ := HA2.out (by omega)
        obtain ⟨x, hx1⟩ : ∃ x, la[i]? = some x := ⟨la[i], by simp [hl1]⟩
        obtain ⟨y, hy1⟩ : ∃ y, ln[i]? = some y := ⟨ln[i], by simp [hl2]⟩
        have hzip : (la.zip ln)[i]? = some (x, y) := by simp [List.getElem?_zip_eq_some, hx1, hy1]
        have HE1 := Lib.hid (fun h => ansA_yes (t := t) hzip h)
        have HE2 := Lib.hid (fun h => ansA_no (t := t) hzip h)
        have HX := Lib.hid (fun (j : Nat) (u : Value) (hj : x.cs[j]? = some u) => (HB.out.cell (p := ⟨b1, o1 + i * 15 + j, none⟩) hbl1).trans (H14.out i x hx1 j u hj))
        have HY := Lib.hid (fun (j : Nat) (u : Value) (hj : y.cs[j]? = some u) => (HB.out.cell (p := ⟨b2, o2 + i * 3 + j, none⟩) hbl2).trans (H24.out i y hy1 j u hj))
        have hsl : ∃ pa pl pc, x.pipe.ops = .slice pa pl pc := by
          obtain ⟨pa, pc, hv, _⟩ := HK1.out x (List.mem_of_getElem? hx1)
          exact ⟨pa, _, pc, hv⟩
        have hsr : ∃ pa pl pc, y.rows = .slice pa pl pc := by
          obtain ⟨pa, pc, hv, _⟩ := (HK2.out y (List.mem_of_getElem? hy1)).r
          exact ⟨pa, _, pc, hv⟩
        have hst : ∃ pa pl pc, y.told = .slice pa pl pc := by
          obtain ⟨pa, pc, hv, _⟩ := (HK2.out y (List.mem_of_getElem? hy1)).t
          exact ⟨pa, _, pc, hv⟩
        clear hx1 hy1 hzip
        obtain ⟨pa, pl, pc, hsl⟩ := hsl
        obtain ⟨ra, rl, rc, hsr⟩ := hsr
        obtain ⟨ta, tl, tc, hst⟩ := hst
        obtain ⟨k1, t1, f1, n1, ⟨p1, ol1, s1, d1, g1, sk1, fd1⟩, m1, i1, y1, v1, u1⟩ := x
        obtain ⟨ye, yr, yrl, yt, ytl⟩ := y
        simp only at hsl hsr hst
        subst hsl hsr hst
        have c0 := HX.out 0 _ rfl
        have c1 := HX.out 1 _ rfl
        have c2 := HX.out 2 _ rfl
        have c3 := HX.out 3 _ rfl
        have c4 := HX.out 4 _ rfl
        have c5 := HX.out 5 _ rfl
        have c6 := HX.out 6 _ rfl
        have c7 := HX.out 7 _ rfl
        have c8 := HX.out 8 _ rfl
        have c9 := HX.out 9 _ rfl
        have c10 := HX.out 10 _ rfl
        have c11 := HX.out 11 _ rfl
        have c12 := HX.out 12 _ rfl
        have c13 := HX.out 13 _ rfl
        have c14 := HX.out 14 _ rfl
        have z0 := HY.out 0 _ rfl
        have z1 := HY.out 1 _ rfl
        have z2 := HY.out 2 _ rfl
        simp only [Nat.add_zero] at c0 z0
        have hlt2 : b2 < wr.heap.size := by omega
        have hne2 : b2 ≠ wr.heap.size := by omega
        have hne2' : wr.heap.size ≠ b2 := by omega
        clear HX HY
        have HOW := Lib.hid (fun (W : World) => (show Calls Try.prog 17 #[.int .i64 t, .agg #[.int .i64 k1, .int .i64 t1, .int .i64 f1, .int .i64 n1, .slice pa pl pc, .int .i64 s1, .int .i64 d1, .int .i64 g1, .int .i64 sk1, .int .i64 fd1, .bool m1, .int .i64 i1, .int .i64 y1, .int .i64 v1, .int .u64 u1]] W _ from own_any t ⟨k1, t1, f1, n1, ⟨.slice pa pl pc, ol1, s1, d1, g1, sk1, fd1⟩, m1, i1, y1, v1, u1⟩ W))
        have HL := Lib.hid (ansA_len t (la.zip ln) i)
        obtain ⟨x, hxx⟩ : ∃ x : ActV, ⟨k1, t1, f1, n1, ⟨.slice pa pl pc, ol1, s1, d1, g1, sk1, fd1⟩, m1, i1, y1, v1, u1⟩ = x := ⟨_, rfl⟩
        rw [hxx] at HOW HE1 HE2
        clear hxx
        obtain ⟨D, hD⟩ : ∃ D, ansA t ((la.zip ln).take i) = D := ⟨_, rfl⟩
        rw [hD] at HO HE1 HE2 HL
        simp only [hD]
        clear hD
        obtain ⟨i0, hi3, hz0, hz1, hz2⟩ := info_parts info41
        have HI := Lib.hid (And.intro hi3 (And.intro hz0 (And.intro hz1 hz2)))
        clear hi3 hz0 hz1 hz2
        have hDl : D.length ≤ i := HL.out
        by_cases hown : x.own t
        · have HE := Lib.hid (HE1.out hown)
          have HOd := Lib.hid hown
          clear hown
          go_wp2_with (first
            | (go_at_call 17; (with_reducible refine (HOW.out _).mono ?_); rintro e w1 ⟨rfl, hb⟩; (rw [decide_eq_true HOd.out]); have hc := (bcell hb).1; have HO1 := Lib.hid ((HO.out.alloc _).kept (grown_of_below hb none) (Classical.em _)); have HB1 := Lib.hid (below_step (HB.out.alloc HB.out.size _) hb); clear hb)
            | (at_builtin; refine wpList_append_own _ rfl (.tmp 26) (.tmp 31) 51 rfl w.heap.size 41 i0 _ 3 56 Try.underlying51 HI.out.1 HI.out.2.1 HI.out.2.2.1 HI.out.2.2.2 rfl (by decide) (.slice ua D.length uc) D.length (D.flatMap AnsV.cs) rfl (HO1.out.alloc _) ⟨w1.heap.size, 0, none⟩ 1 1 [.int .i64 ye, .slice ra rl rc, .slice ta tl tc] rfl rfl (row_cells _ _ _) (by simp [Value.oneCell']) (by unfold maxLen; omega) (by omega) (by have := HB1.out.size; simp; omega) ?_; intro v' w5 hown5 hgrow5 _; have HO5 := Lib.hid hown5; have HB5 := Lib.hid ((HB1.out.alloc HB1.out.size _).grown hgrow5 (by have := HB1.out.size; simp; omega) (fun q hq => (HO1.out.lt q hq).1)); clear hown5 hgrow5; obtain ⟨g5, cap5, rfl, _⟩ := own_form HO5.out (by omega)))
          go_roundg (n - (i + 1))
          case measure => omega
          case rel =>
            have hl := congrArg List.length HE.out
            simp only [List.length_append, List.length_cons, List.length_nil, Nat.zero_add] at hl
            refine ⟨i + 1, _, cap5, by omega, rfl, by rw [hl], by go_num, ?_, HB5.out⟩
            rw [HE.out, List.flatMap_append]
            simp only [List.length_append, List.length_cons, List.length_nil, Nat.zero_add]
            exact HO5.out
        · have HE := Lib.hid (HE2.out hown)
          have HOd := Lib.hid hown
          clear hown
          go_wp2_with (go_at_call 17; (with_reducible refine (HOW.out _).mono ?_); rintro e w1 ⟨rfl, hb⟩; (rw [decide_eq_false HOd.out]); have HO1 := Lib.hid ((HO.out.alloc _).kept (grown_of_below hb none) (Classical.em _)); have HB1 := Lib.hid (below_step (HB.out.alloc HB.out.size _) hb); clear hb)
          go_roundg (n - (i + 1))
          case measure => omega
          case rel => exact ⟨i + 1, ua, uc, by omega, rfl, by rw [HE.out], by go_num, by rw [HE.out]; exact HO1.out, HB1.out⟩
      · have hl1 : i = n := by omega
        clear hlt hi
        subst hl1
        have hcase := HN3.out
        go_wp2_with fail
        go_ret
        have hw : ansA t ((la.zip ln).take i) = ansA t (la.zip ln) := by rw [List.take_of_length_le (by have := HNZ.out; omega)]
        refine ⟨_, rfl, ?_, HB.out⟩
        rw [← hw]
        exact HO.out
end Go.Proofs.Ytemmekpmoigdeaa

