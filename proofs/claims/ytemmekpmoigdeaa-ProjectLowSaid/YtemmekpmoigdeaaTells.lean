/- ProjectTells: any acts: those of a tenant, and the ticks; their answers. -/
import Derived.Test.YtemmekpmoigdeaaAnf
set_option linter.unusedSimpArgs false
set_option linter.unusedVariables false
set_option linter.unnecessarySimpa false
namespace Go.Proofs.Ytemmekpmoigdeaa
open Go.ChangeShapes Go.WideShapes Go.RowKit

def ActV.setKind (x : ActV) (k : Int) : ActV := { x with kind := k }
theorem cellsA_set {l : List ActV} {i : Nat} {x : ActV} (k : Int) (hi : l[i]? = some x) : (cellsA l).set (i * 15) (.int .i64 k) = cellsA (l.set i (x.setKind k)) := by
  induction l generalizing i with
  | nil => simp at hi
  | cons a l ih =>
    have hc : ∀ (b : ActV) (l : List ActV), cellsA (b :: l) = b.cs ++ cellsA l := fun _ _ => rfl
    cases i with
    | zero =>
      obtain rfl : a = x := by simpa using hi
      rfl
    | succ i =>
      rw [List.set_cons_succ, hc, hc, List.set_append, if_neg (by show ¬ (i + 1) * 15 < 15; omega), show (i + 1) * 15 - a.cs.length = i * 15 by show (i + 1) * 15 - 15 = _; omega, ih (by simpa using hi)]

theorem ofA_app (t : Int) (a b : List ActV) : ofA t (a ++ b) = ofA t a ++ ofA t b := by simp [ofA]
theorem drop_at {α : Type} {l : List α} {i : Nat} {x : α} (h : l[i]? = some x) : l.drop i = x :: l.drop (i + 1) := by
  obtain ⟨hi, rfl⟩ := List.getElem?_eq_some_iff.1 h
  exact List.drop_eq_getElem_cons hi
theorem ofA_at {t : Int} {R : List ActV} {i : Nat} {x : ActV} (hx : R[i]? = some x) (h : x.kind = 3 ∨ x.own t) : (ofA t R)[(ofA t (R.take i)).length]? = some x := by
  have h1 : ofA t R = ofA t (R.take i) ++ ofA t (R.drop i) := by rw [← ofA_app, List.take_append_drop]
  have h2 : ofA t (x :: R.drop (i + 1)) = x :: ofA t (R.drop (i + 1)) := by simp [ofA, h]
  rw [h1, drop_at hx, h2, List.getElem?_append_right (Nat.le_refl _), Nat.sub_self]
  rfl
theorem ansA_at {t : Int} {z : List (ActV × AnsV)} {i : Nat} {x : ActV} {y : AnsV} (hx : z[i]? = some (x, y)) (h : x.own t) : (ansA t z)[(ansA t (z.take i)).length]? = some y := by
  have h1 : ansA t z = ansA t (z.take i) ++ ansA t (z.drop i) := by
    conv => lhs; rw [← List.take_append_drop i z]
    unfold ansA
    rw [List.filter_append, List.map_append]
  have h2 : ansA t ((x, y) :: z.drop (i + 1)) = y :: ansA t (z.drop (i + 1)) := by simp [ansA, h]
  rw [h1, drop_at hx, h2, List.getElem?_append_right (Nat.le_refl _), Nat.sub_self]
  rfl
theorem ansA_skip {t : Int} {R : List ActV} {N : List AnsV} {i : Nat} {x : ActV} (hx : R[i]? = some x) (h : ¬ x.own t) : ansA t ((R.zip N).take (i + 1)) = ansA t ((R.zip N).take i) := by
  cases hN : N[i]? with
  | none =>
    have hle : (R.zip N).length ≤ i := by have := List.getElem?_eq_none_iff.1 hN; simp; omega
    rw [List.take_of_length_le hle, List.take_of_length_le (by omega)]
  | some y => exact ansA_no (y := y) (by simp [List.getElem?_zip_eq_some, hx, hN]) h
theorem ansA_out {t : Int} {R : List ActV} {N : List AnsV} {i : Nat} (h : N.length ≤ i) : ansA t ((R.zip N).take (i + 1)) = ansA t ((R.zip N).take i) := by
  have hle : (R.zip N).length ≤ i := by simp; omega
  rw [List.take_of_length_le hle, List.take_of_length_le (by omega)]
theorem same_y (z : Int) (w : World) : Calls Try.prog 11 #[.agg #[.int .i64 z, .slice none 0 0, .slice none 0 0], .agg #[.int .i64 z, .slice none 0 0, .slice none 0 0]] w fun e w' => e = .returned (.bool true) ∧ Below w.heap.size w w' :=
  (ans_any ⟨z, .slice none 0 0, [], .slice none 0 0, []⟩ ⟨z, .slice none 0 0, [], .slice none 0 0, []⟩ w ⟨IsR.nil _ _ w, IsR.nil _ _ w⟩ ⟨IsR.nil _ _ w, IsR.nil _ _ w⟩).mono fun e w' h => ⟨by rw [h.1]; simp [AnsV.same], h.2⟩
theorem ActV.same_refl (x : ActV) : x.same x := by simp [ActV.same, PipeV.same]

set_option maxRecDepth 100000 in
set_option maxHeartbeats 8000000 in
theorem tells_law (W : World) (a0 : Option Addr) (len0 cap0 : Nat) (h0 : Rd Try.prog W 43 [.slice a0 len0 cap0]) (tenant : Int) (wt : (Lit.int .i64 tenant).wf = true) (a2 : Option Addr) (len2 cap2 : Nat) (h2 : Rd Try.prog W 50 [.slice a2 len2 cap2]) :
    Calls Try.prog 6 #[.slice a0 len0 cap0, .int .i64 tenant, .slice a2 len2 cap2] W fun e w' => e = .returned (.bool true) ∧ Below W.heap.size W w' := by
  clear wt
  obtain ⟨l, hl, hil, hok⟩ := kacts_of h0
  obtain ⟨es, he⟩ := isl_of h2
  obtain ⟨ea, ec, hev, he1, he2, eb, eo, he3, he4⟩ := he
  simp only [Value.slice.injEq] at hev
  obtain ⟨rfl, rfl, rfl⟩ := hev
  have HE3 := Lib.hid he3
  have HE4 := Lib.hid he4
  have HA := Lib.hid (acts_any W _ l hil hok)
  unfold maxLen at he2
  clear h0 h2 hil hok he3 he4
  have bt := within_bd tenant 0 3 (by omega)
  obtain ⟨t, ht⟩ : ∃ t, within tenant 0 3 = t := ⟨_, rfl⟩
  rw [ht] at bt
  have HT := Lib.hid ht
  clear ht
  go_enter Try.func6, Try.ntmps6
  go_wp2_with (go_at_call 14; (with_reducible refine HA.out.mono ?_); rintro e w1 ⟨v, r, rfl, hr, hrl, hrx, hb⟩; have HR := Lib.hid hr; have HRX := Lib.hid (fun x hx => (hrx x hx).2); have HB := Lib.hid hb; obtain ⟨m, hm⟩ := (⟨r.length, rfl⟩ : ∃ m, r.length = m); have hm40 := (by omega : m ≤ 40); have HM := Lib.hid hm; obtain ⟨va, vl, vc, hv⟩ := own_shape hr; obtain rfl := (show vl = m from by rcases hr.2 with ⟨h1, h2⟩ | ⟨g, cap, cur, h1, _⟩ <;> (rw [hv] at h1; simp at h1; omega)); subst hv; clear hr hrl hrx hb hm)
  go_loopg [22] vl (fun g v22 wr => ∃ (i : Nat) (R : List ActV), i ≤ vl ∧ g = vl - i ∧ v22 = .int .i64 i ∧ R.length = vl ∧ wr.ownsRow W.heap.size 31 15 (.slice va vl vc) vl (cellsA R) ∧ (∀ x ∈ R, x.row wr) ∧ Below W.heap.size W wr)
  case atStart => exact ⟨0, r, by omega, by omega, rfl, HM.out, by have := HR.out; rw [HM.out] at this; exact this, HRX.out, HB.out⟩
  case round =>
    obtain ⟨i, R, hi, rfl, rfl, hRl, ho, hx, hb⟩ := hrel
    have HO := Lib.hid ho
    have HX := Lib.hid hx
    have HBr := Lib.hid hb
    clear ho hx hb
    by_cases hlt : i < vl
    · obtain ⟨g, cap, hv, hg0, hg, hcap, hcap2, hcs⟩ := own_form HO.out (by omega)
      simp only [Value.slice.injEq] at hv
      obtain ⟨rfl, _, rfl⟩ := hv
      obtain ⟨x, hx⟩ : ∃ x, R[i]? = some x := ⟨R[i], by simp [hRl, hlt]⟩
      have c0 := hcs (i * 15) (.int .i64 x.kind) (by have := cellsA_get (j := 0) hx (u := .int .i64 x.kind) rfl; simpa using this)
      have f0 := HO.out.frozenAt (i * 15)
      have HXi := Lib.hid hx
      have HXr := Lib.hid (HX.out x (List.mem_of_getElem? hx))
      clear hx hcs
      by_cases hm : (i : Int) % 9 = 8
      · have hm' : ((i : Int) % 9 == 8) = true := by simp [hm]
        clear hm
        go_wp2_with fail
        go_roundg (vl - (i + 1))
        case measure => omega
        case rel =>
          obtain ⟨hs1, hs2⟩ := HO.out.stored (i * 15) (.int .i64 (wrap64 (6 + bits BinOp.and IntKind.i64 (↑i) 1)))
          rw [cellsA_set _ HXi.out] at hs1
          refine ⟨i + 1, _, by omega, rfl, by go_num, by simp [hRl], hs1, fun y hy => ?_, HBr.out.setCell hg0 _⟩
          have hne : ∀ z : ActV, z.row wr → z.pipe.ops.ownBlock ≠ some g := fun z hz e => by
            rcases rows_apart hz HO.out (by decide) with h | h
            · rw [h] at e; cases e
            · exact h (by rw [e]; rfl)
          rcases List.mem_or_eq_of_mem_set hy with h | h
          · exact (HX.out y h).set _ _ (hne y (HX.out y h))
          · subst h
            exact ActV.row.set (a := x.setKind _) HXr.out _ _ (hne x HXr.out)
      · have hm' : ((i : Int) % 9 == 8) = false := by simp [hm]
        clear hm
        go_wp2_with fail
        go_roundg (vl - (i + 1))
        case measure => omega
        case rel => exact ⟨i + 1, R, by omega, rfl, by go_num, hRl, HO.out, HX.out, HBr.out⟩
    · obtain rfl : i = vl := by omega
      have HRl := Lib.hid hRl
      clear hRl hlt hi
      go_upto_block 2 with (go_at_call 12; (with_reducible refine (within_any _ _ _ _ (by omega) (by omega) (by omega)).mono ?_); rintro e w1 ⟨rfl, rfl⟩; rw [HT.out])
      go_cut [10] (fun s10 wx => ∃ (q : Nat) (ua : Option Addr) (uc : Nat) (N : List AnsV), q ≤ 40 ∧ s10 = .slice ua q uc ∧ N.length = q ∧ (∀ y ∈ N, ∃ z : Int, y = ⟨z, .slice none 0 0, [], .slice none 0 0, []⟩) ∧ IsR ActV.cs 15 wx (.slice va i vc) R ∧ IsR AnsV.cs 3 wx (.slice ua q uc) N ∧ (∀ x ∈ R, x.ok wx) ∧ Below W.heap.size W wx)
      case first =>
        obtain ⟨k, hk⟩ : ∃ k, k = min es.length i := ⟨_, rfl⟩
        have hk1 : k ≤ es.length := by omega
        have hk2 : k ≤ i := by omega
        have HKK := Lib.hid (show k = es.length ∨ k = i by omega)
        clear hk
        go_wp2_with fail
        go_loopg [10, 11] k (fun g v10 v11 wr => ∃ (q : Nat) (ua : Option Addr) (uc : Nat) (N : List AnsV), q ≤ k ∧ g = k - q ∧ v10 = .slice ua q uc ∧ v11 = .int .i64 q ∧ N.length = q ∧ (∀ y ∈ N, ∃ z : Int, y = ⟨z, .slice none 0 0, [], .slice none 0 0, []⟩) ∧ wr.ownsRow W.heap.size 41 3 (.slice ua q uc) q (N.flatMap AnsV.cs) ∧ wr.ownsRow W.heap.size 31 15 (.slice va i vc) i (cellsA R) ∧ (∀ x ∈ R, x.row wr) ∧ Below W.heap.size W wr)
        case atStart => exact ⟨0, none, 0, [], by omega, by omega, rfl, rfl, rfl, by simp, World.ownsRow_nil _ _ _ _, HO.out, HX.out, HBr.out⟩
        case round =>
          obtain ⟨q, ua, uc, N, hq, rfl, rfl, rfl, hN, hny, hn, ho, hx, hb⟩ := hrel
          clear HO HX HBr
          have HN := Lib.hid hn
          have HO := Lib.hid ho
          have HX := Lib.hid hx
          have HB := Lib.hid hb
          have HNY := Lib.hid hny
          have HNl := Lib.hid hN
          have hz := hb.size
          clear hn ho hx hb hny hN
          by_cases hlt : q < k
          · have hl1 : q < es.length := by omega
            have hl2 : q < i := by omega
            obtain ⟨rfl, hbl⟩ := HE3.out (by omega)
            have c0 : wr.cell? ⟨eb, eo + q, none⟩ = some (.int .i64 (es.getD q 0)) := (HB.out.cell (p := ⟨eb, eo + q, none⟩) hbl).trans (HE4.out q hl1)
            obtain ⟨E, hE⟩ : ∃ E, es.getD q 0 = E := ⟨_, rfl⟩
            rw [hE] at c0
            clear hE
            obtain ⟨i0, hi3, hz0, hz1, hz2⟩ := info_parts info41
            have HI := Lib.hid (And.intro hi3 (And.intro hz0 (And.intro hz1 hz2)))
            clear hi3 hz0 hz1 hz2
            go_wp2_with (at_builtin; refine wpList_append_own _ rfl (.tmp 50) (.tmp 57) 51 rfl W.heap.size 41 i0 _ 3 56 Try.underlying51 HI.out.1 HI.out.2.1 HI.out.2.2.1 HI.out.2.2.2 rfl (by decide) (.slice ua q uc) q (N.flatMap AnsV.cs) rfl (HN.out.alloc _) ⟨wr.heap.size, 0, none⟩ 1 1 [.int .i64 (bits BinOp.and IntKind.i64 E 7), .slice none 0 0, .slice none 0 0] rfl rfl (row_cells _ _ _) (by simp [Value.oneCell']) (by unfold maxLen; omega) (by omega) (by simp; omega) ?_; intro v' w5 hown5 hgrow5 _; have HN5 := Lib.hid hown5; have HO5 := Lib.hid ((HO.out.alloc _).kept hgrow5 (rows_apart (e1 := 31) (e2 := 41) HO.out HN.out (by decide))); have HX5 := Lib.hid (fun (x : ActV) (hx : x ∈ R) => ((HX.out x hx).alloc _).grown (e := 41) (HN.out.alloc _) (by decide) hgrow5); have HB5 := Lib.hid ((HB.out.alloc hz _).grown hgrow5 (by simp; omega) (fun k hk => (HN.out.lt k hk).1)); clear hown5 hgrow5; obtain ⟨g5, cap5, rfl, _⟩ := own_form HN5.out (by omega))
            go_roundg (k - (q + 1))
            case measure => omega
            case rel =>
              refine ⟨q + 1, _, cap5, N ++ [⟨bits BinOp.and IntKind.i64 E 7, .slice none 0 0, [], .slice none 0 0, []⟩], by omega, rfl, rfl, by go_num, by simp [HNl.out], fun y hy => ?_, ?_, HO5.out, HX5.out, HB5.out⟩
              · rcases List.mem_append.1 hy with h | h
                · exact HNY.out y h
                · exact ⟨_, List.mem_singleton.1 h⟩
              · rw [List.flatMap_append]
                exact HN5.out
          · obtain rfl : q = k := by omega
            clear hlt hq
            have HI1 := Lib.hid (show IsR ActV.cs 15 wr (.slice va i vc) R from IsR.of_ownA (base := W.heap.size) (by rw [HRl.out]; exact HO.out))
            have HI2 := Lib.hid (show IsR AnsV.cs 3 wr (.slice ua q uc) N from IsR.of_own anscs_len (base := W.heap.size) (e := 41) (by rw [HNl.out]; exact HN.out))
            rcases (by have := HKK.out; omega : ¬ q < es.length ∨ (q < es.length ∧ ¬ q < i)) with hx | ⟨hx, hx4⟩
            all_goals
              go_wp2_with fail
              go_meet
              case rel => exact ⟨q, ua, uc, N, by omega, rfl, HNl.out, HNY.out, HI1.out, HI2.out, fun x hx => (HX.out x hx).ok, HB.out⟩
      case rest =>
        obtain ⟨q, ua, uc, N, hq40, rfl, hNl, hNY, hIA, hIN, hRok, hB⟩ := hcut
        have hOK : ∀ y ∈ N, ∀ w : World, y.ok w := fun y hy w => by
          obtain ⟨z, rfl⟩ := hNY y hy
          exact ⟨IsR.nil _ _ w, IsR.nil _ _ w⟩
        have HNYc := Lib.hid hNY
        have HNl := Lib.hid hNl
        have HOK := Lib.hid hOK
        have HIA := Lib.hid hIA
        have HIN := Lib.hid hIN
        have HROK := Lib.hid hRok
        have HBc := Lib.hid hB
        clear HO HX HBr hNl hNY hIA hIN hRok hB hOK
        go_wp2_with (first
          | (go_at_call 8; (with_reducible refine (of_any t _ R wc HIA.out HROK.out (by rw [HRl.out]; omega)).mono ?_); rintro e w3 ⟨r1, rfl, ho, hb⟩; have HO := Lib.hid ho; have HB3 := Lib.hid hb; clear ho hb)
          | (go_at_call 16; (with_reducible refine (answers_any t _ _ R N w3 (HIA.out.kept HB3.out) (HIN.out.kept HB3.out) (fun x hx => (HROK.out x hx).kept HB3.out) (fun y hy => HOK.out y hy w3) (by rw [HRl.out]; omega) (by rw [HNl.out]; omega)).mono ?_); rintro e w4 ⟨r2, rfl, ho, hb⟩; have HG := Lib.hid ho; have HB4 := Lib.hid hb; clear ho hb))
        have F1 := Lib.hid (fun (j : Nat) (x : ActV) (hx : R[j]? = some x) (h : x.kind = 3 ∨ x.own t) => ofA_at (t := t) hx h)
        have F2 := Lib.hid (fun (j : Nat) (x : ActV) (y : AnsV) (hx : (R.zip N)[j]? = some (x, y)) (h : x.own t) => ansA_at (t := t) hx h)
        have F3 : ofA t (R.take i) = ofA t R := by rw [List.take_of_length_le (by rw [HRl.out]; omega)]
        have F4 : ansA t ((R.zip N).take i) = ansA t (R.zip N) := by rw [List.take_of_length_le (by have := HRl.out; simp; omega)]
        have HF3 := Lib.hid F3
        have HF4 := Lib.hid F4
        clear F3 F4
        obtain ⟨OL, hOL⟩ : ∃ OL, ofA t R = OL := ⟨_, rfl⟩
        obtain ⟨GL, hGL⟩ : ∃ GL, ansA t (R.zip N) = GL := ⟨_, rfl⟩
        rw [hOL] at HO F1 HF3
        rw [hGL] at HG F2 HF4
        clear hOL hGL
        have HIO := Lib.hid ((show IsR ActV.cs 15 w3 r1 OL from IsR.of_ownA HO.out).kept HB4.out)
        have HIG := Lib.hid (show IsR AnsV.cs 3 w4 r2 GL from IsR.of_own anscs_len HG.out)
        have HIA4 := Lib.hid (HIA.out.kept (below_step HB3.out HB4.out))
        have HIN4 := Lib.hid (HIN.out.kept (below_step HB3.out HB4.out))
        have HR4 := Lib.hid (fun (x : ActV) (hx : x ∈ R) => (HROK.out x hx).kept (below_step HB3.out HB4.out))
        have HB0 := Lib.hid (below_step HBc.out (below_step HB3.out HB4.out))
        clear HIA HIN HROK HO HG HB3 HB4 HBc
        obtain ⟨oa, oc, rfl, ho1, ho2, ob, oo, ho3, ho4⟩ := HIO.out
        obtain ⟨ga, gc, rfl, hg1, hg2, gb, gz, hg3, hg4⟩ := HIG.out
        obtain ⟨aa, ac, hva, ha1, ha2, ab, az, ha3, ha4⟩ := HIA4.out
        simp only [Value.slice.injEq] at hva
        obtain ⟨rfl, -, rfl⟩ := hva
        obtain ⟨na, nc, hvn, hn1, hn2, nb, nz, hn3, hn4⟩ := HIN4.out
        simp only [Value.slice.injEq] at hvn
        obtain ⟨rfl, -, rfl⟩ := hvn
        unfold maxLen at ho2 hg2
        have HO3 := Lib.hid ho3
        have HG3 := Lib.hid hg3
        have HA3 := Lib.hid (show 0 < i → _ from fun h => ha3 (by have := HRl.out; omega))
        have HN3 := Lib.hid (show 0 < q → _ from fun h => hn3 (by have := HNl.out; omega))
        have HOC := Lib.hid ho4
        have HGC := Lib.hid hg4
        have HAC := Lib.hid ha4
        have HNC := Lib.hid hn4
        have hai : i ≤ vc := by have := HRl.out; omega
        have hnq : q ≤ uc := by have := HNl.out; omega
        clear ho3 ho4 hg3 hg4 ha3 ha4 hn3 hn4 HIO HIG HIA4 HIN4 ha1 ha2 hn1 hn2
        go_loopg [14, 15, 68] i (fun g v14 v15 v68 wr => ∃ (jj nn mm : Nat), jj ≤ i ∧ g = i - jj ∧ v14 = .int .i64 nn ∧ v15 = .int .i64 mm ∧ v68 = .int .i64 jj ∧ nn = (ofA t (R.take jj)).length ∧ mm = (ansA t ((R.zip N).take jj)).length ∧ Below w4.heap.size w4 wr)
        case atStart => exact ⟨0, 0, 0, by omega, by omega, rfl, rfl, rfl, rfl, rfl, Below.refl _ _⟩
        case round =>
          obtain ⟨jj, nn, mm, hj, rfl, rfl, rfl, rfl, hnn, hmm, hb⟩ := hrel
          have HBr := Lib.hid hb
          have hz := hb.size
          have HNN := Lib.hid hnn
          have HMM := Lib.hid hmm
          have hnj : nn ≤ jj := by rw [hnn]; exact ofA_len _ _ _
          have hmj : mm ≤ jj := by rw [hmm]; exact ansA_len _ _ _
          clear hb hnn hmm
          by_cases hlt : jj < i
          · obtain ⟨rfl, hab⟩ := HA3.out (by omega)
            obtain ⟨x, hx⟩ : ∃ x, R[jj]? = some x := ⟨R[jj]'(by have := HRl.out; omega), by simp [show jj < R.length by have := HRl.out; omega]⟩
            have HX := Lib.hid hx
            have HXC := Lib.hid (fun (j : Nat) (u : Value) (hj : x.cs[j]? = some u) => (HBr.out.cell (p := ⟨ab, az + jj * 15 + j, none⟩) hab).trans (HAC.out jj x hx j u hj))
            have HXO := Lib.hid (HR4.out x (List.mem_of_getElem? hx))
            have hsl : ∃ pa pl pc, x.pipe.ops = .slice pa pl pc := by
              obtain ⟨pa, pc, hv, _⟩ := HXO.out
              exact ⟨pa, _, pc, hv⟩
            have HE1 := Lib.hid (fun h => ofA_yes (t := t) hx h)
            have HE2 := Lib.hid (fun h => ofA_no (t := t) hx h)
            have HE3 := Lib.hid (fun h => ansA_skip (t := t) (N := N) hx h)
            have HSM := Lib.hid (fun (V : World) (hb : Below w4.heap.size w4 V) => (decide_eq_true (ActV.same_refl x)) ▸ same_any x x V (HXO.out.kept hb) (HXO.out.kept hb))
            have HF1 := Lib.hid (fun h => F1.out jj x hx h)
            clear hx
            obtain ⟨pa, pl, pc, hsl⟩ := hsl
            obtain ⟨k1, t1, f1, n1, ⟨p1, ol1, s1, d1, g1, sk1, fd1⟩, m1, i1, y1, v1, u1⟩ := x
            simp only at hsl
            subst hsl
            simp only [ActV.val] at HSM
            have c0 := HXC.out 0 _ rfl
            have c1 := HXC.out 1 _ rfl
            have c2 := HXC.out 2 _ rfl
            have c3 := HXC.out 3 _ rfl
            have c4 := HXC.out 4 _ rfl
            have c5 := HXC.out 5 _ rfl
            have c6 := HXC.out 6 _ rfl
            have c7 := HXC.out 7 _ rfl
            have c8 := HXC.out 8 _ rfl
            have c9 := HXC.out 9 _ rfl
            have c10 := HXC.out 10 _ rfl
            have c11 := HXC.out 11 _ rfl
            have c12 := HXC.out 12 _ rfl
            have c13 := HXC.out 13 _ rfl
            have c14 := HXC.out 14 _ rfl
            simp only [Nat.add_zero] at c0
            clear HXC
            have hlt2 : ab < wr.heap.size := by omega
            have hne2 : ab ≠ wr.heap.size := by omega
            by_cases hk6 : k1 = 6
            · have HQ := Lib.hid (HE2.out (by rw [hk6]; simp [ActV.own]))
              have HQ3 := Lib.hid (HE3.out (by rw [hk6]; simp [ActV.own]))
              subst hk6
              go_wp2_with fail
              go_roundg (i - (jj + 1))
              case measure => omega
              case rel => exact ⟨jj + 1, nn, mm, by omega, rfl, by go_num, by go_num, by go_num, by rw [HQ.out]; exact HNN.out, by rw [HQ3.out]; exact HMM.out, HBr.out.alloc HBr.out.size _⟩
            by_cases hk7 : k1 = 7
            · have HQ := Lib.hid (HE2.out (by rw [hk7]; simp [ActV.own]))
              have HQ3 := Lib.hid (HE3.out (by rw [hk7]; simp [ActV.own]))
              subst hk7
              go_wp2_with fail
              go_roundg (i - (jj + 1))
              case measure => omega
              case rel => exact ⟨jj + 1, nn, mm, by omega, rfl, by go_num, by go_num, by go_num, by rw [HQ.out]; exact HNN.out, by rw [HQ3.out]; exact HMM.out, HBr.out.alloc HBr.out.size _⟩
            have hk6' : (k1 == 6) = false := by simp [hk6]
            have hk7' : (k1 == 7) = false := by simp [hk7]
            by_cases hk3 : k1 = 3
            · have HQ := Lib.hid (HE1.out (.inl hk3))
              have HQ3 := Lib.hid (HE3.out (by rw [hk3]; simp [ActV.own]))
              have hat := HF1.out (.inl hk3)
              rw [← HNN.out] at hat
              have HAT := Lib.hid hat
              have hnl : nn < OL.length := (List.getElem?_eq_some_iff.1 hat).1
              have hnl2 : ¬ OL.length ≤ nn := by omega
              have hnl3 : decide ((OL.length : Int) ≤ nn) = false := by simp; omega
              obtain ⟨rfl, hob⟩ := HO3.out (by omega)
              clear hat hk6 hk7 hk6' hk7'
              subst hk3
              go_wp2_with fail
              refine wp_region_plB (fun w5 => At w5 wr.heap.size [.int .i64 3, .int .i64 t1, .int .i64 f1, .int .i64 n1, .slice pa pl pc, .int .i64 s1, .int .i64 d1, .int .i64 g1, .int .i64 sk1, .int .i64 fd1, .bool m1, .int .i64 i1, .int .i64 y1, .int .i64 v1, .int .u64 u1] ∧ Below w4.heap.size w4 w5 ∧ wr.heap.size < w5.heap.size) ?ph20a (.take 0 <| .take 1 <| .take 2 <| .take 3 <| .take 4 <| .take 5 <| .take 6 <| .take 7 <| .take 8 <| .take 9 <| .doo 10 <| .take 11 <| .take 12 <| .done) ?plL20a (by kernel_rfl) (by kernel_rfl) (by kernel_rfl) ?plH20a (by intro c a d v w; cases d <;> exact fun h => h) ?_
              case plH20a =>
                simp only [Pl.with, List.getElem?_toArray, List.getElem?_cons_zero, List.getElem?_cons_succ]
                try rfl
              case ph20a => exact ⟨At.new wr _ _, HBr.out.alloc HBr.out.size _, by simp⟩
              rintro w5 ⟨ha5, hb5, hs5⟩
              have HA5 := Lib.hid ha5
              have HB5 := Lib.hid hb5
              have hz5 := hb5.size
              clear ha5 hb5
              iterate 8 (refine wpPl_take (v := ?_) (by rfl) (fun w' hS => ?_) ?_; rotate_left; (focus (go_simp; with_reducible rfl)); simp only [Act.put, List.setIfInBounds_toArray, List.set_cons_zero, List.set_cons_succ])
              refine wpPl_take (v := .agg #[.int .i64 3, .int .i64 t1, .int .i64 f1, .int .i64 n1, .slice pa pl pc, .int .i64 s1, .int .i64 d1, .int .i64 g1, .int .i64 sk1, .int .i64 fd1, .bool m1, .int .i64 i1, .int .i64 y1, .int .i64 v1, .int .u64 u1]) (by rfl) (fun w' hS => load31 w' _ _ _ ob (oo + nn * 15) ⟨3, t1, f1, n1, ⟨.slice pa pl pc, ol1, s1, d1, g1, sk1, fd1⟩, m1, i1, y1, v1, u1⟩ rfl (fun j u hj => (hS.cell (p := ⟨ob, oo + nn * 15 + j, none⟩) (show ob < w5.heap.size by omega)).trans ((HB5.out.cell (p := ⟨ob, oo + nn * 15 + j, none⟩) hob).trans (HOC.out nn _ HAT.out j u hj)))) ?_
              simp only [Act.put, List.setIfInBounds_toArray, List.set_cons_zero, List.set_cons_succ]
              refine wpPl_take (v := .agg #[.int .i64 3, .int .i64 t1, .int .i64 f1, .int .i64 n1, .slice pa pl pc, .int .i64 s1, .int .i64 d1, .int .i64 g1, .int .i64 sk1, .int .i64 fd1, .bool m1, .int .i64 i1, .int .i64 y1, .int .i64 v1, .int .u64 u1]) (by rfl) (fun w' hS => load31 w' _ _ _ wr.heap.size 0 ⟨3, t1, f1, n1, ⟨.slice pa pl pc, ol1, s1, d1, g1, sk1, fd1⟩, m1, i1, y1, v1, u1⟩ rfl (fun j u hj => by rw [Nat.zero_add]; exact (HA5.out.below hS).c j u hj)) ?_
              simp only [Act.put, List.setIfInBounds_toArray, List.set_cons_zero, List.set_cons_succ]
              refine wpPl_do (by rfl) (fun K hK => ?_)
              go_wp2_with (go_at_call 9; (with_reducible refine (HSM.out _ (HB5.out.drew)).mono ?_); rintro e w6 ⟨rfl, hb6⟩; have HB6 := Lib.hid (below_step HB5.out.drew hb6); have HS6 := Lib.hid (below_step (Below.refl _ w5).drew hb6); clear hb6)
              refine ⟨HS6.out, ?_⟩
              iterate 2 (refine wpPl_take (v := ?_) (by rfl) (fun w' hS => ?_) ?_; rotate_left; (focus (go_simp; with_reducible rfl)); simp only [Act.put, List.setIfInBounds_toArray, List.set_cons_zero, List.set_cons_succ])
              refine wpPl_done ?_
              have kq0 := (HA5.out.below HS6.out).c 0 _ rfl

              go_wp2_with fail
              go_roundg (i - (jj + 1))
              case measure => omega
              case rel => exact ⟨jj + 1, nn + 1, mm, by omega, rfl, by go_num, by go_num, by go_num, by rw [HQ.out, List.length_append, ← HNN.out]; rfl, by rw [HQ3.out]; exact HMM.out, HB6.out⟩
            have hk3' : (k1 == 3) = false := by simp [hk3]
            have hk32 : (k1 != 3) = true := by simp [hk3]
            by_cases htt : t1 = t
            · have hown : ActV.own t ⟨k1, t1, f1, n1, ⟨.slice pa pl pc, ol1, s1, d1, g1, sk1, fd1⟩, m1, i1, y1, v1, u1⟩ := ⟨htt, hk3, hk6, hk7⟩
              have HQ := Lib.hid (HE1.out (.inr hown))
              have hat := HF1.out (.inr hown)
              have HOWN := Lib.hid hown
              rw [← HNN.out] at hat
              have HAT := Lib.hid hat
              have hnl : nn < OL.length := (List.getElem?_eq_some_iff.1 hat).1
              have hnl2 : ¬ OL.length ≤ nn := by omega
              have hnl3 : decide ((OL.length : Int) ≤ nn) = false := by simp; omega
              obtain ⟨rfl, hob⟩ := HO3.out (by omega)
              clear hat hown
              subst htt
              by_cases hjq : jj < q
              · obtain ⟨y, hy⟩ : ∃ y, N[jj]? = some y := ⟨N[jj]'(by have := HNl.out; omega), by simp [show jj < N.length by have := HNl.out; omega]⟩
                have hzip : (R.zip N)[jj]? = some (⟨k1, t1, f1, n1, ⟨.slice pa pl pc, ol1, s1, d1, g1, sk1, fd1⟩, m1, i1, y1, v1, u1⟩, y) := by simp [List.getElem?_zip_eq_some, HX.out, hy]
                have HQ4 := Lib.hid (ansA_yes hzip HOWN.out)
                have hat2 := F2.out jj _ y hzip HOWN.out
                rw [← HMM.out] at hat2
                have HAT2 := Lib.hid hat2
                have hml : mm < GL.length := (List.getElem?_eq_some_iff.1 hat2).1
                obtain ⟨rfl, hgb⟩ := HG3.out (by omega)
                obtain ⟨rfl, hnb⟩ := HN3.out (by omega)
                have HY := Lib.hid hy
                obtain ⟨z, rfl⟩ := HNYc.out y (List.mem_of_getElem? hy)
                clear hat2 hy hzip
                go_wp2_with fail
                refine wp_region_plB (fun w5 => At w5 wr.heap.size [.int .i64 k1, .int .i64 t1, .int .i64 f1, .int .i64 n1, .slice pa pl pc, .int .i64 s1, .int .i64 d1, .int .i64 g1, .int .i64 sk1, .int .i64 fd1, .bool m1, .int .i64 i1, .int .i64 y1, .int .i64 v1, .int .u64 u1] ∧ Below w4.heap.size w4 w5 ∧ wr.heap.size < w5.heap.size) ?ph20b (.take 0 <| .take 1 <| .take 2 <| .take 3 <| .take 4 <| .take 5 <| .take 6 <| .take 7 <| .take 8 <| .take 9 <| .doo 10 <| .take 11 <| .take 12 <| .done) ?plL20b (by kernel_rfl) (by kernel_rfl) (by kernel_rfl) ?plH20b (by intro c a d v w; cases d <;> exact fun h => h) ?_
                case plH20b =>
                  simp only [Pl.with, List.getElem?_toArray, List.getElem?_cons_zero, List.getElem?_cons_succ]
                  try rfl
                case ph20b => exact ⟨At.new wr _ _, HBr.out.alloc HBr.out.size _, by simp⟩
                rintro w5 ⟨ha5, hb5, hs5⟩
                have HA5 := Lib.hid ha5
                have HB5 := Lib.hid hb5
                have hz5 := hb5.size
                clear ha5 hb5
                iterate 8 (refine wpPl_take (v := ?_) (by rfl) (fun w' hS => ?_) ?_; rotate_left; (focus (go_simp; with_reducible rfl)); simp only [Act.put, List.setIfInBounds_toArray, List.set_cons_zero, List.set_cons_succ])
                refine wpPl_take (v := .agg #[.int .i64 k1, .int .i64 t1, .int .i64 f1, .int .i64 n1, .slice pa pl pc, .int .i64 s1, .int .i64 d1, .int .i64 g1, .int .i64 sk1, .int .i64 fd1, .bool m1, .int .i64 i1, .int .i64 y1, .int .i64 v1, .int .u64 u1]) (by rfl) (fun w' hS => load31 w' _ _ _ ob (oo + nn * 15) ⟨k1, t1, f1, n1, ⟨.slice pa pl pc, ol1, s1, d1, g1, sk1, fd1⟩, m1, i1, y1, v1, u1⟩ rfl (fun j u hj => (hS.cell (p := ⟨ob, oo + nn * 15 + j, none⟩) (show ob < w5.heap.size by omega)).trans ((HB5.out.cell (p := ⟨ob, oo + nn * 15 + j, none⟩) hob).trans (HOC.out nn _ HAT.out j u hj)))) ?_
                simp only [Act.put, List.setIfInBounds_toArray, List.set_cons_zero, List.set_cons_succ]
                refine wpPl_take (v := .agg #[.int .i64 k1, .int .i64 t1, .int .i64 f1, .int .i64 n1, .slice pa pl pc, .int .i64 s1, .int .i64 d1, .int .i64 g1, .int .i64 sk1, .int .i64 fd1, .bool m1, .int .i64 i1, .int .i64 y1, .int .i64 v1, .int .u64 u1]) (by rfl) (fun w' hS => load31 w' _ _ _ wr.heap.size 0 ⟨k1, t1, f1, n1, ⟨.slice pa pl pc, ol1, s1, d1, g1, sk1, fd1⟩, m1, i1, y1, v1, u1⟩ rfl (fun j u hj => by rw [Nat.zero_add]; exact (HA5.out.below hS).c j u hj)) ?_
                simp only [Act.put, List.setIfInBounds_toArray, List.set_cons_zero, List.set_cons_succ]
                refine wpPl_do (by rfl) (fun K hK => ?_)
                go_wp2_with (go_at_call 9; (with_reducible refine (HSM.out _ (HB5.out.drew)).mono ?_); rintro e w6 ⟨rfl, hb6⟩; have HB6 := Lib.hid (below_step HB5.out.drew hb6); have HS6 := Lib.hid (below_step (Below.refl _ w5).drew hb6); clear hb6)
                refine ⟨HS6.out, ?_⟩
                iterate 2 (refine wpPl_take (v := ?_) (by rfl) (fun w' hS => ?_) ?_; rotate_left; (focus (go_simp; with_reducible rfl)); simp only [Act.put, List.setIfInBounds_toArray, List.set_cons_zero, List.set_cons_succ])
                refine wpPl_done ?_
                have kq0 := (HA5.out.below HS6.out).c 0 _ rfl

                go_wp2_with fail
                have hml2 : ¬ GL.length ≤ mm := by omega
                have hml3 : decide ((GL.length : Int) ≤ mm) = false := by simp; omega
                refine wp_region_plB (fun w7 => Below w4.heap.size w4 w7) ?ph24 (.take 0 <| .take 1 <| .take 2 <| .take 3 <| .take 4 <| .take 5 <| .take 6 <| .take 7 <| .take 8 <| .take 9 <| .take 10 <| .take 11 <| .take 12 <| .doo 13 <| .take 14 <| .take 15 <| .take 16 <| .take 17 <| .take 18 <| .take 19 <| .take 20 <| .take 21 <| .take 22 <| .take 23 <| .take 24 <| .take 25 <| .take 26 <| .take 27 <| .take 28 <| .done) ?plL24 (by kernel_rfl) (by kernel_rfl) (by kernel_rfl) ?plH24 (by intro c a d v w; cases d <;> exact fun h => h) ?_
                case plH24 =>
                  simp only [Pl.with, List.getElem?_toArray, List.getElem?_cons_zero, List.getElem?_cons_succ]
                  try rfl
                case ph24 => exact HB6.out
                rintro w7 hb7
                have HB7 := Lib.hid hb7
                have hz7 := hb7.size
                clear hb7
                have qg : ∀ x, Below w7.heap.size w7 x → x.cell? ⟨gb, gz + mm * 3, none⟩ = some (.int .i64 z) := fun x hx => (hx.cell (p := ⟨gb, gz + mm * 3, none⟩) (show gb < w7.heap.size by omega)).trans ((HB7.out.cell (p := ⟨gb, gz + mm * 3, none⟩) hgb).trans (by have := HGC.out mm _ HAT2.out 0 _ rfl; simpa using this))
                have qn : ∀ x, Below w7.heap.size w7 x → x.cell? ⟨nb, nz + jj * 3, none⟩ = some (.int .i64 z) := fun x hx => (hx.cell (p := ⟨nb, nz + jj * 3, none⟩) (show nb < w7.heap.size by omega)).trans ((HB7.out.cell (p := ⟨nb, nz + jj * 3, none⟩) hnb).trans (by have := HNC.out jj _ HY.out 0 _ rfl; simpa using this))
                iterate 8 (refine wpPl_take (v := ?_) (by rfl) (fun w' hS => ?_) ?_; rotate_left; (focus (go_simp; with_reducible rfl)); simp only [Act.put, List.setIfInBounds_toArray, List.set_cons_zero, List.set_cons_succ])
                refine wpPl_take (v := .agg #[.int .i64 z, .slice none 0 0, .slice none 0 0]) (by rfl) (fun w' hS => load41 w' _ _ _ gb (gz + mm * 3) ⟨z, .slice none 0 0, [], .slice none 0 0, []⟩ rfl (fun j u hj => (hS.cell (p := ⟨gb, gz + mm * 3 + j, none⟩) (show gb < w7.heap.size by omega)).trans ((HB7.out.cell (p := ⟨gb, gz + mm * 3 + j, none⟩) hgb).trans (HGC.out mm _ HAT2.out j u hj)))) ?_
                simp only [Act.put, List.setIfInBounds_toArray, List.set_cons_zero, List.set_cons_succ]
                iterate 3 (refine wpPl_take (v := ?_) (by rfl) (fun w' hS => ?_) ?_; rotate_left; (focus (go_simp; with_reducible rfl)); simp only [Act.put, List.setIfInBounds_toArray, List.set_cons_zero, List.set_cons_succ])
                refine wpPl_take (v := .agg #[.int .i64 z, .slice none 0 0, .slice none 0 0]) (by rfl) (fun w' hS => load41 w' _ _ _ nb (nz + jj * 3) ⟨z, .slice none 0 0, [], .slice none 0 0, []⟩ rfl (fun j u hj => (hS.cell (p := ⟨nb, nz + jj * 3 + j, none⟩) (show nb < w7.heap.size by omega)).trans ((HB7.out.cell (p := ⟨nb, nz + jj * 3 + j, none⟩) hnb).trans (HNC.out jj _ HY.out j u hj)))) ?_
                simp only [Act.put, List.setIfInBounds_toArray, List.set_cons_zero, List.set_cons_succ]
                refine wpPl_do (by rfl) (fun K hK => ?_)
                go_wp2_with (go_at_call 11; (with_reducible refine (same_y z _).mono ?_); rintro e w8 ⟨rfl, hb8⟩; have HB8 := Lib.hid (below_step HB7.out.drew hb8); have HS8 := Lib.hid (below_step (Below.refl _ w7).drew hb8); clear hb8)
                refine ⟨HS8.out, ?_⟩
                iterate 15 (refine wpPl_take (v := ?_) (by rfl) (fun w' hS => ?_) ?_; rotate_left; (focus (go_simp; with_reducible rfl)); simp only [Act.put, List.setIfInBounds_toArray, List.set_cons_zero, List.set_cons_succ])
                refine wpPl_done ?_
                have kq8 := (HA5.out.below HS6.out).c 0 _ rfl
                clear kq8

                go_wp2_with fail
                go_roundg (i - (jj + 1))
                case measure => omega
                case rel => exact ⟨jj + 1, nn + 1, mm + 1, by omega, rfl, by go_num, by go_num, by go_num, by rw [HQ.out, List.length_append, ← HNN.out]; rfl, by rw [HQ4.out, List.length_append, ← HMM.out]; rfl, HB8.out⟩
              · have HQ4 := Lib.hid (ansA_out (t := t1) (R := R) (N := N) (i := jj) (by have := HNl.out; omega))
                go_wp2_with fail
                refine wp_region_plB (fun w5 => At w5 wr.heap.size [.int .i64 k1, .int .i64 t1, .int .i64 f1, .int .i64 n1, .slice pa pl pc, .int .i64 s1, .int .i64 d1, .int .i64 g1, .int .i64 sk1, .int .i64 fd1, .bool m1, .int .i64 i1, .int .i64 y1, .int .i64 v1, .int .u64 u1] ∧ Below w4.heap.size w4 w5 ∧ wr.heap.size < w5.heap.size) ?ph20c (.take 0 <| .take 1 <| .take 2 <| .take 3 <| .take 4 <| .take 5 <| .take 6 <| .take 7 <| .take 8 <| .take 9 <| .doo 10 <| .take 11 <| .take 12 <| .done) ?plL20c (by kernel_rfl) (by kernel_rfl) (by kernel_rfl) ?plH20c (by intro c a d v w; cases d <;> exact fun h => h) ?_
                case plH20c =>
                  simp only [Pl.with, List.getElem?_toArray, List.getElem?_cons_zero, List.getElem?_cons_succ]
                  try rfl
                case ph20c => exact ⟨At.new wr _ _, HBr.out.alloc HBr.out.size _, by simp⟩
                rintro w5 ⟨ha5, hb5, hs5⟩
                have HA5 := Lib.hid ha5
                have HB5 := Lib.hid hb5
                have hz5 := hb5.size
                clear ha5 hb5
                iterate 8 (refine wpPl_take (v := ?_) (by rfl) (fun w' hS => ?_) ?_; rotate_left; (focus (go_simp; with_reducible rfl)); simp only [Act.put, List.setIfInBounds_toArray, List.set_cons_zero, List.set_cons_succ])
                refine wpPl_take (v := .agg #[.int .i64 k1, .int .i64 t1, .int .i64 f1, .int .i64 n1, .slice pa pl pc, .int .i64 s1, .int .i64 d1, .int .i64 g1, .int .i64 sk1, .int .i64 fd1, .bool m1, .int .i64 i1, .int .i64 y1, .int .i64 v1, .int .u64 u1]) (by rfl) (fun w' hS => load31 w' _ _ _ ob (oo + nn * 15) ⟨k1, t1, f1, n1, ⟨.slice pa pl pc, ol1, s1, d1, g1, sk1, fd1⟩, m1, i1, y1, v1, u1⟩ rfl (fun j u hj => (hS.cell (p := ⟨ob, oo + nn * 15 + j, none⟩) (show ob < w5.heap.size by omega)).trans ((HB5.out.cell (p := ⟨ob, oo + nn * 15 + j, none⟩) hob).trans (HOC.out nn _ HAT.out j u hj)))) ?_
                simp only [Act.put, List.setIfInBounds_toArray, List.set_cons_zero, List.set_cons_succ]
                refine wpPl_take (v := .agg #[.int .i64 k1, .int .i64 t1, .int .i64 f1, .int .i64 n1, .slice pa pl pc, .int .i64 s1, .int .i64 d1, .int .i64 g1, .int .i64 sk1, .int .i64 fd1, .bool m1, .int .i64 i1, .int .i64 y1, .int .i64 v1, .int .u64 u1]) (by rfl) (fun w' hS => load31 w' _ _ _ wr.heap.size 0 ⟨k1, t1, f1, n1, ⟨.slice pa pl pc, ol1, s1, d1, g1, sk1, fd1⟩, m1, i1, y1, v1, u1⟩ rfl (fun j u hj => by rw [Nat.zero_add]; exact (HA5.out.below hS).c j u hj)) ?_
                simp only [Act.put, List.setIfInBounds_toArray, List.set_cons_zero, List.set_cons_succ]
                refine wpPl_do (by rfl) (fun K hK => ?_)
                go_wp2_with (go_at_call 9; (with_reducible refine (HSM.out _ (HB5.out.drew)).mono ?_); rintro e w6 ⟨rfl, hb6⟩; have HB6 := Lib.hid (below_step HB5.out.drew hb6); have HS6 := Lib.hid (below_step (Below.refl _ w5).drew hb6); clear hb6)
                refine ⟨HS6.out, ?_⟩
                iterate 2 (refine wpPl_take (v := ?_) (by rfl) (fun w' hS => ?_) ?_; rotate_left; (focus (go_simp; with_reducible rfl)); simp only [Act.put, List.setIfInBounds_toArray, List.set_cons_zero, List.set_cons_succ])
                refine wpPl_done ?_
                have kq0 := (HA5.out.below HS6.out).c 0 _ rfl

                go_wp2_with fail
                go_roundg (i - (jj + 1))
                case measure => omega
                case rel => exact ⟨jj + 1, nn + 1, mm, by omega, rfl, by go_num, by go_num, by go_num, by rw [HQ.out, List.length_append, ← HNN.out]; rfl, by rw [HQ4.out]; exact HMM.out, HB6.out⟩
            · have HQ := Lib.hid (HE2.out (fun h => h.elim hk3 (fun h => htt h.1)))
              have HQ3 := Lib.hid (HE3.out (fun h => htt h.1))
              have htt' : (t1 == t) = false := by simp [htt]
              have htt2 : (t1 != t) = true := by simp [htt]
              go_wp2_with fail
              go_roundg (i - (jj + 1))
              case measure => omega
              case rel => exact ⟨jj + 1, nn, mm, by omega, rfl, by go_num, by go_num, by go_num, by rw [HQ.out]; exact HNN.out, by rw [HQ3.out]; exact HMM.out, HBr.out.alloc HBr.out.size _⟩
          · have hji : jj = i := by omega
            subst hji
            have hn : nn = OL.length := by rw [HNN.out, HF3.out]
            have hm : mm = GL.length := by rw [HMM.out, HF4.out]
            subst hn hm
            go_wp2_with (go_at_call 3; (with_reducible refine (runs_any _).mono ?_); rintro e w9 ⟨rfl, hb9⟩; have HB9 := Lib.hid hb9; clear hb9)
            go_ret
            exact ⟨rfl, below_step HB0.out (below_step HBr.out HB9.out)⟩
end Go.Proofs.Ytemmekpmoigdeaa

