/- ProjectLow: whatever others do between, and whatever stands in ticks, doesn't count; one thing turned of what is the tenant's does. -/
import Derived.Test.YtemmekpmoigdeaaLwp
set_option linter.unusedSimpArgs false
set_option linter.unusedVariables false
set_option linter.unnecessarySimpa false
namespace Go.Proofs.Ytemmekpmoigdeaa
open Go.ChangeShapes Go.WideShapes Go.RowKit

theorem lowT (t : Int) (v1 v2 : Value) (l1 l2 : List ActV) (w : World) (h1 : IsR ActV.cs 15 w v1 l1) (h2 : IsR ActV.cs 15 w v2 l2) (k1 : ∀ a ∈ l1, a.ok w) (k2 : ∀ a ∈ l2, a.ok w) (n1 : l1.length ≤ 100) (n2 : l2.length ≤ 100) (h : alikeL (ofA t l1) (ofA t l2)) :
    Calls Try.prog 10 #[.int .i64 t, v1, v2] w fun e w' => e = .returned (.bool true) ∧ Below w.heap.size w w' := by
  refine (low_any t v1 v2 l1 l2 w h1 h2 k1 k2 (by omega) (by omega)).mono ?_
  rintro e w' ⟨b, rfl, hb, hB⟩
  exact ⟨by rw [hb.2 h], hB⟩
theorem lowF (t : Int) (v1 v2 : Value) (l1 l2 : List ActV) (w : World) (h1 : IsR ActV.cs 15 w v1 l1) (h2 : IsR ActV.cs 15 w v2 l2) (k1 : ∀ a ∈ l1, a.ok w) (k2 : ∀ a ∈ l2, a.ok w) (n1 : l1.length ≤ 100) (n2 : l2.length ≤ 100) (h : ¬ alikeL (ofA t l1) (ofA t l2)) :
    Calls Try.prog 10 #[.int .i64 t, v1, v2] w fun e w' => e = .returned (.bool false) ∧ Below w.heap.size w w' := by
  refine (low_any t v1 v2 l1 l2 w h1 h2 k1 k2 (by omega) (by omega)).mono ?_
  rintro e w' ⟨b, rfl, hb, hB⟩
  cases b with
  | false => exact ⟨rfl, hB⟩
  | true => exact absurd (hb.1 rfl) h

set_option maxRecDepth 100000 in
set_option maxHeartbeats 8000000 in
theorem low_law (W : World) (a0 : Option Addr) (len0 cap0 : Nat) (h0 : Rd Try.prog W 43 [.slice a0 len0 cap0]) (a1 : Option Addr) (len1 cap1 : Nat) (h1 : Rd Try.prog W 43 [.slice a1 len1 cap1]) (tenant : Int) (wt : (Lit.int .i64 tenant).wf = true) (att : Int) (wa : (Lit.int .i64 att).wf = true) (what : Int) (ww : (Lit.int .i64 what).wf = true) :
    Calls Try.prog 4 #[.slice a0 len0 cap0, .slice a1 len1 cap1, .int .i64 tenant, .int .i64 att, .int .i64 what] W fun e w' => e = .returned (.bool true) ∧ Below W.heap.size W w' := by
  clear wt wa ww
  obtain ⟨l, hl, hil, hok⟩ := kacts_of h0
  obtain ⟨l', hl', hil', hok'⟩ := kacts_of h1
  have HA := Lib.hid (acts_any W _ l hil hok)
  have HA' := Lib.hid (fun (w : World) (hb : Below W.heap.size W w) => acts_any w _ l' (hil'.kept hb) (fun k hk => ⟨(hok' k hk).o.kept hb, (hok' k hk).n.kept hb⟩))
  clear h0 h1 hil hok hil' hok'
  have bt := within_bd tenant 0 3 (by omega)
  obtain ⟨t, ht⟩ : ∃ t, within tenant 0 3 = t := ⟨_, rfl⟩
  rw [ht] at bt
  have HT := Lib.hid ht
  have bq := within_bd what 0 3 (by omega)
  obtain ⟨q, hq⟩ : ∃ q, within what 0 3 = q := ⟨_, rfl⟩
  rw [hq] at bq
  have HQ := Lib.hid hq
  clear ht hq
  go_enter Try.func4, Try.ntmps4
  go_wp2_with (first
    | (go_at_call 12; (with_reducible refine (within_any _ _ _ _ (by omega) (by omega) (by omega)).mono ?_); rintro e w0 ⟨rfl, rfl⟩; rw [HT.out])
    | (go_at_call 14; (with_reducible refine HA.out.mono ?_); rintro e w1 ⟨v1, R, rfl, hr, hrl, hrx, hb⟩; have HR := Lib.hid (show IsR ActV.cs 15 w1 v1 R from IsR.of_ownA hr); have HRX := Lib.hid hrx; have HB1 := Lib.hid hb; have hR40 := (by omega : R.length ≤ 40); clear hr hrl hrx hb)
    | (go_at_call 14; (with_reducible refine (HA'.out _ HB1.out).mono ?_); rintro e w2 ⟨v2, M, rfl, hr, hrl, hrx, hb⟩; have HM := Lib.hid (show IsR ActV.cs 15 w2 v2 M from IsR.of_ownA hr); have HMX := Lib.hid hrx; have HB12 := Lib.hid hb; have HB2 := Lib.hid (below_step HB1.out hb); have hM40 := (by omega : M.length ≤ 40); clear hr hrl hrx hb)
    | (go_at_call 13; (with_reducible refine (woven_any w2 v1 v2 R M t (HR.out.kept HB12.out) HM.out (fun x hx => ((HRX.out x hx).2.kept HB12.out).ok) (fun x hx => (HMX.out x hx).2.ok) hR40 hM40).mono ?_); rintro e w3 ⟨xv, yv, Y, rfl, hst, hmi, hme, hY80⟩; have HST := Lib.hid hst; have HMI := Lib.hid hmi; have HME := Lib.hid hme; obtain ⟨xa, xc, rfl⟩ := hst.shapeX; obtain ⟨ya, yc, rfl⟩ := hst.shapeY; clear hst hmi hme))
  obtain ⟨n, hn⟩ : ∃ n, n = Y.length := ⟨_, rfl⟩
  have HNY := Lib.hid hn
  rw [← hn] at HST hY80
  simp only [← hn]
  clear hn
  have HOKR := Lib.hid (fun (x : ActV) (hx : x ∈ R) => (show ActBd x ∧ x.ok w2 from ⟨(HRX.out x hx).1, ((HRX.out x hx).2.kept HB12.out).ok⟩))
  have HOKY := Lib.hid (fun (x : ActV) (hx : x ∈ Y) => (show ActBd x ∧ x.ok w2 from by
    rcases HME.out x hx with h | h
    · exact HOKR.out x h
    · exact ⟨(HMX.out x h).1, (HMX.out x h).2.ok⟩))
  go_loopg [31] n (fun g v31 wr => ∃ (i : Nat) (Z : List ActV), i ≤ n ∧ g = n - i ∧ v31 = .int .i64 i ∧ Z.length = n ∧ St w2 wr (.slice xa R.length xc) (.slice ya n yc) R Z ∧ (∀ (k : Nat) (x y : ActV), Z[k]? = some x → Y[k]? = some y → Tk x y) ∧ (∀ x ∈ Z, x.ok w2))
  case atStart => exact ⟨0, Y, by omega, by omega, rfl, HNY.out.symm, HST.out, fun k x y hx hy => .inl (by rw [hx] at hy; cases hy; rfl), fun x hx => (HOKY.out x hx).2⟩
  case round =>
    obtain ⟨i, Z, hi, rfl, rfl, hZ, hst, htk, hok⟩ := hrel
    have HS := Lib.hid hst
    have HTK := Lib.hid htk
    have HOZ := Lib.hid hok
    have HZ := Lib.hid hZ
    clear hst htk hok hZ
    by_cases hlt : i < n
    · obtain ⟨g, cap, hv, hg0, hg, hcap, hcap2, hcs⟩ := own_form HS.out.oy (by rw [HZ.out]; omega)
      rw [HZ.out] at hv hcap
      simp only [Value.slice.injEq] at hv
      obtain ⟨rfl, -, rfl⟩ := hv
      obtain ⟨x, hx⟩ : ∃ x, Z[i]? = some x := ⟨Z[i]'(by have := HZ.out; omega), by simp [show i < Z.length by have := HZ.out; omega]⟩
      have c0 := hcs (i * 15) (.int .i64 x.kind) (by have := cellsA_get (j := 0) hx (u := .int .i64 x.kind) rfl; simpa using this)
      have c1 := hcs (i * 15 + 1) (.int .i64 x.tenant) (cellsA_get (j := 1) hx rfl)
      have c2 := hcs (i * 15 + 2) (.int .i64 x.frm) (cellsA_get (j := 2) hx rfl)
      have hoy := HS.out.oy
      rw [HZ.out] at hoy
      have f1 := hoy.frozenAt (i * 15 + 1)
      have f2 := hoy.frozenAt (i * 15 + 2)
      have HX := Lib.hid hx
      clear hx hcs hoy
      by_cases hk3 : x.kind = 3
      · have hk3' : (x.kind == 3) = true := by simp [hk3]
        have HK3 := Lib.hid hk3
        rw [hk3] at c0
        clear hk3 hk3'
        go_wp2_with fail
        go_roundg (n - (i + 1))
        case measure => omega
        case rel =>
          have hs1 := HS.out.store (g := g) (cap := yc) (by rw [HZ.out]) HX.out (j := 2) (by omega) (x' := { x with frm := 7 }) (v := .int .i64 7) rfl
          have hs2 := hs1.store (g := g) (cap := yc) (by simp [HZ.out]) (x := { x with frm := 7 }) (k := i) (by simp [show i < Z.length by have := HZ.out; omega]) (j := 1) (by omega) (x' := { x with frm := 7, tenant := 2 }) (v := .int .i64 2) rfl
          rw [List.set_set] at hs2
          refine ⟨i + 1, Z.set i { x with frm := 7, tenant := 2 }, by omega, rfl, by go_num, by simp [HZ.out], hs2, tk_set (by rw [HZ.out, HNY.out]) HTK.out HX.out HK3.out HK3.out, fun y hy => ?_⟩
          rcases List.mem_or_eq_of_mem_set hy with h | h
          · exact HOZ.out y h
          · subst h
            exact (HOZ.out x (List.mem_of_getElem? HX.out) : x.ok w2)
      · have hk3' : (x.kind == 3) = false := by simp [hk3]
        go_wp2_with fail
        go_roundg (n - (i + 1))
        case measure => omega
        case rel => exact ⟨i + 1, Z, by omega, rfl, by go_num, HZ.out, HS.out, HTK.out, HOZ.out⟩
    · have hin : i = n := by omega
      obtain ⟨OL, hOL⟩ : ∃ OL, ofA t R = OL := ⟨_, rfl⟩
      have HOL := Lib.hid hOL
      have HAL := Lib.hid (show alikeL (ofA t Z) OL from by
        have h1 := tk_alike t Z Y (by rw [HZ.out, HNY.out]) HTK.out
        rw [ofA_mine t Y (fun x hx => (HOKY.out x hx).1.k2), HMI.out, ← ofA_mine t R (fun x hx => (HOKR.out x hx).1.k2), hOL] at h1
        exact h1)
      have hOl : OL.length ≤ 40 := by
        have h1 : (ofA t R).length ≤ R.length := List.length_filter_le _ _
        rw [hOL] at h1
        omega
      have HOKO := Lib.hid (fun (x : ActV) (hx : x ∈ OL) => (show (x.kind = 3 ∨ x.own t) ∧ ActBd x ∧ x.ok w2 from by
        rw [← hOL] at hx
        exact ⟨ofA_mem hx, HOKR.out x (List.mem_filter.1 hx).1⟩))
      have HXR := Lib.hid (show IsR ActV.cs 15 wr (.slice xa R.length xc) R from IsR.of_ownA HS.out.ox)
      have HYR := Lib.hid (show IsR ActV.cs 15 wr (.slice ya n yc) Z from by have := HS.out.oy; have h := HZ.out; subst h; exact IsR.of_ownA this)
      have HBr := Lib.hid HS.out.bl
      have HOA := Lib.hid (show ofA t OL = OL from ofA_all (fun x hx => (HOKO.out x hx).1))
      clear hOL
      have hnl : ¬ i < n := hlt
      clear hlt hi hin
      have KX := Lib.hid (fun (w : World) (hb : Below w2.heap.size w2 w) (x : ActV) (hx : x ∈ R) => (HOKR.out x hx).2.kept hb)
      have KY := Lib.hid (fun (w : World) (hb : Below w2.heap.size w2 w) (x : ActV) (hx : x ∈ Z) => (HOZ.out x hx).kept hb)
      have KO := Lib.hid (fun (w : World) (hb : Below w2.heap.size w2 w) (x : ActV) (hx : x ∈ OL) => (HOKO.out x hx).2.2.kept hb)
      have hZ80 : Z.length ≤ 100 := by have := HZ.out; omega
      have HALR := Lib.hid (show alikeL (ofA t R) (ofA t Z) from by rw [HOL.out]; exact alikeL_symm HAL.out)
      go_upto_region 12 with (first
        | (go_at_call 10; (with_reducible refine (lowT t _ _ R Z wr HXR.out HYR.out (KX.out _ HBr.out) (KY.out _ HBr.out) (by omega) hZ80 HALR.out).mono ?_); rintro e wA ⟨rfl, hb⟩; have HA1 := Lib.hid hb; clear hb)
        | (go_at_call 10; (with_reducible refine (lowT t _ _ Z R wA (HYR.out.kept HA1.out) (HXR.out.kept HA1.out) (KY.out _ (below_step HBr.out HA1.out)) (KX.out _ (below_step HBr.out HA1.out)) hZ80 (by omega) (alikeL_symm HALR.out)).mono ?_); rintro e wB ⟨rfl, hb⟩; have HA2 := Lib.hid (below_step HA1.out hb); clear hb)
        | (go_at_call 10; (with_reducible refine (lowT t _ _ R R wB (HXR.out.kept HA2.out) (HXR.out.kept HA2.out) (KX.out _ (below_step HBr.out HA2.out)) (KX.out _ (below_step HBr.out HA2.out)) (by omega) (by omega) (alikeL_refl _)).mono ?_); rintro e wC ⟨rfl, hb⟩; have HA3 := Lib.hid (below_step HA2.out hb); clear hb)
        | (go_at_call 8; (with_reducible refine (of_any t _ R wC (HXR.out.kept HA3.out) (KX.out _ (below_step HBr.out HA3.out)) (by omega)).mono ?_); rintro e w5 ⟨r1, rfl, ho, hb⟩; have HO5 := Lib.hid (show IsR ActV.cs 15 w5 r1 OL from by rw [HOL.out] at ho; exact IsR.of_ownA ho); have HB5 := Lib.hid (below_step HA3.out hb); clear ho hb))
      obtain ⟨oa, oc, rfl, ho1, ho2, ob, oo, ho3, ho4⟩ := HO5.out
      clear ho3 ho4
      have HB25 := Lib.hid (below_step HBr.out HB5.out)
      have HX5 := Lib.hid (HXR.out.kept HB5.out)
      have HY5 := Lib.hid (HYR.out.kept HB5.out)
      by_cases h0 : OL.length = 0
      · have h0' : ((OL.length : Int) == 0) = true := by simp [h0]
        have HNIL := Lib.hid (List.eq_nil_of_length_eq_zero h0)
        have HNA := Lib.hid (show alikeL (ofA t []) (ofA t R) from by rw [HOL.out, HNIL.out]; exact alikeL_refl [])
        go_wp2_with (first
          | (go_at_call 10; (with_reducible refine (lowT t _ _ [] R w5 (IsR.nil _ _ _) HX5.out (by simp) (KX.out _ HB25.out) (by simp) (by omega) HNA.out).mono ?_); rintro e w6 ⟨rfl, hb⟩; have HB6 := Lib.hid hb; clear hb)
          | (go_at_call 3; (with_reducible refine (runs_any _).mono ?_); rintro e w7 ⟨rfl, hb⟩; have HB7 := Lib.hid (below_step HB6.out hb); clear hb))
        go_ret
        exact ⟨rfl, below_step HB2.out (below_step HB25.out HB7.out)⟩
      · have h0' : ((OL.length : Int) == 0) = false := by simp [h0]
        go_upto_region 15 with (at_builtin; refine wpList_plain rfl fun K hK' => ?_; refine wp_append_rows (.tmp 80) (.tmp 81) rfl w5.heap.size _ _ 0 [] OL rfl (World.ownsRow_made w5 #[] 0 (Nat.le_refl _) (by unfold maxLen; omega) rfl) rfl (HO5.out.kept ((Below.refl _ _).alloc (Nat.le_refl _) _)) (KO.out _ (HB25.out.alloc HB25.out.size _)) (by omega) (by simp) ?_; intro v6 w6 ho6 hg6; have HO6 := Lib.hid ho6; have HB6 := Lib.hid (((Below.refl w5.heap.size w5).alloc (Nat.le_refl _) (.cells #[] 31)).grown hg6 (by simp) (fun k hk => Nat.le_of_eq (Option.some.inj (show some w5.heap.size = some k from hk)))); clear ho6 hg6; refine hK' _ _ ?_)
        have hzo := HO6.out
        rw [List.nil_append, Nat.zero_add] at hzo
        obtain ⟨g, cap, rfl, hg0, hg, hcap, hcap2, hcs⟩ := own_form hzo (by omega)
        have HZO := Lib.hid hzo
        have HCS := Lib.hid hcs
        clear hzo hcs HO6
        have bi := within_bd att 0 ((OL.length : Int) - 1) (by omega)
        obtain ⟨ii, hii⟩ : ∃ ii : Nat, within att 0 ((OL.length : Int) - 1) = (ii : Int) := ⟨(within att 0 ((OL.length : Int) - 1)).toNat, by omega⟩
        rw [hii] at bi
        have HII := Lib.hid hii
        have hiN : ii < OL.length := by omega
        clear hii bi
        go_upto_block 2 with (first
          | (go_at_call 12; (with_reducible refine (within_any _ _ _ _ (by omega) (by omega) (by omega)).mono ?_); rintro e w7 ⟨rfl, rfl⟩; rw [HII.out])
          | (go_at_call 12; (with_reducible refine (within_any _ _ _ _ (by omega) (by omega) (by omega)).mono ?_); rintro e w7 ⟨rfl, rfl⟩; rw [HQ.out]))
        have HBW := Lib.hid (fun (w : World) (hb : Below w5.heap.size w5 w) => below_step HB25.out hb)
        go_cut [16] (fun s16 wx => ∃ (Z' : List ActV), Z'.length ≤ 50 ∧ IsR ActV.cs 15 wx s16 Z' ∧ (∀ x ∈ Z', x.ok wx) ∧ ofA t Z' = Z' ∧ ¬ alikeL Z' OL ∧ Below w5.heap.size w5 wx)
        case first =>
          obtain ⟨i0, hi3, hz0, hz1, hz2⟩ := info_parts info31
          have HI := Lib.hid (And.intro hi3 (And.intro hz0 (And.intro hz1 hz2)))
          clear hi3 hz0 hz1 hz2
          rcases (by omega : q = 0 ∨ q = 1 ∨ (¬ q = 0 ∧ ¬ q = 1)) with hq0 | hq1 | ⟨hq0, hq1⟩
          · have hq0' : (q == 0) = true := by simp [hq0]
            clear hq0
            go_wp2_with (at_builtin; refine wpList_append_own _ rfl (.tmp 117) (.tmp 119) 32 rfl w5.heap.size 31 i0 _ 15 136 Try.underlying32 HI.out.1 HI.out.2.1 HI.out.2.2.1 HI.out.2.2.2 rfl (by decide) (.slice (some ⟨g, 0, none⟩) OL.length cap) OL.length (cellsA OL) rfl (HZO.out.alloc _) ⟨w7.heap.size, 0, none⟩ 1 1 T00.cs rfl rfl (row_cells _ _ _) (by simp [T00, P00, ActV.cs, Value.oneCell']) (by unfold maxLen; omega) (by omega) (by have := HB6.out.size; simp; omega) ?_; intro v8 w8 ho8 hg8 _; have HO8 := Lib.hid ho8; have HB8 := Lib.hid ((HB6.out.alloc HB6.out.size _).grown hg8 (by have := HB6.out.size; simp; omega) (fun k hk => (HZO.out.lt k hk).1)); clear ho8 hg8)
            go_meet
            case rel =>
              have h8 : w8.ownsRow w5.heap.size 31 15 v8 (OL ++ [T00]).length (cellsA (OL ++ [T00])) := by
                have := HO8.out
                rw [← cellsA_snoc] at this
                simpa using this
              refine ⟨OL ++ [T00], by simp; omega, IsR.of_ownA h8, fun x hx => ?_, ?_, not_alike_len (by simp), HB8.out⟩
              · rcases List.mem_append.1 hx with h | h
                · exact KO.out _ (HBW.out _ HB8.out) x h
                · exact ok0 _ x (by simp at h; simp [h])
              · refine ofA_all (fun x hx => ?_)
                rcases List.mem_append.1 hx with h | h
                · exact (HOKO.out x h).1
                · rw [List.mem_singleton.1 h]; exact .inl rfl
          · have hq1' : (q == 1) = true := by simp [hq1]
            have hq0' : (q == 0) = false := by simp [hq1]
            clear hq1
            have HZI := Lib.hid (show IsR ActV.cs 15 w7 (.slice (some ⟨g, 0, none⟩) OL.length cap) OL from IsR.of_ownA HZO.out)
            have HDR := Lib.hid (HZI.out.drop (m := ii + 1) (by omega))
            have HTA := Lib.hid (HZI.out.take (m := ii) (by omega))
            obtain ⟨dv, hdv⟩ : ∃ dv, dv = Value.slice (if cap = ii + 1 then some ⟨g, 0, none⟩ else (some (⟨g, 0, none⟩ : Addr)).map (fun q => q.add ((ii + 1) * 15))) (OL.length - (ii + 1)) (cap - (ii + 1)) := ⟨_, rfl⟩
            rw [← hdv] at HDR
            have HDV := Lib.hid hdv
            have hz7 := HB6.out.size
            clear hdv
            go_wp2_with fail
            refine wp_region_pl (fun _ => True) (.take 1 <| .take 2 <| .take 3 <| .take 5 <| .take 6 <| .take 7 <| .take 8 <| .doo 0 <| .doo 4 <| .doo 9 <| .take 10 <| .done) ?plL24 (by kernel_rfl) (by kernel_rfl) (by kernel_rfl) ?plH24 (by intro c a d v w; cases d <;> exact fun h => h) trivial ?_
            case plH24 =>
              simp only [Pl.with, List.getElem?_toArray, List.getElem?_cons_zero, List.getElem?_cons_succ]
              try rfl
            iterate 2 (refine wpPl_take (v := ?_) (by rfl) (fun w' hS => ?_) ?_; rotate_left; (focus (go_simp; with_reducible rfl)); simp only [Act.put, List.setIfInBounds_toArray, List.set_cons_zero, List.set_cons_succ])
            refine wpPl_take (v := .slice (some ⟨g, 0, none⟩) ii cap) (by rfl) (fun w' hS => slice32hi w' _ _ _ _ _ _ _ ii rfl rfl (by omega)) ?_
            simp only [Act.put, List.setIfInBounds_toArray, List.set_cons_zero, List.set_cons_succ]
            iterate 2 (refine wpPl_take (v := ?_) (by rfl) (fun w' hS => ?_) ?_; rotate_left; (focus (go_simp; with_reducible rfl)); simp only [Act.put, List.setIfInBounds_toArray, List.set_cons_zero, List.set_cons_succ])
            refine wpPl_take (v := .int .i64 ((ii + 1 : Nat) : Int)) (by rfl) (fun w' hS => ?_) ?_
            rotate_left
            simp only [Act.put, List.setIfInBounds_toArray, List.set_cons_zero, List.set_cons_succ]
            refine wpPl_take (v := dv) (by rfl) (fun w' hS => by rw [HDV.out]; exact slice32lo w' _ _ _ _ _ _ _ (ii + 1) rfl rfl (by omega) (by omega)) ?_
            simp only [Act.put, List.setIfInBounds_toArray, List.set_cons_zero, List.set_cons_succ]
            refine wpPl_do (by rfl) (fun K hK => ?_)
            go_wp2_with fail
            (try refine ⟨trivial, ?_⟩)
            refine wpPl_do (by rfl) (fun K hK => ?_)
            refine wp_append_rows (.tmp 123) (.tmp 126) rfl w5.heap.size (.slice (some ⟨w7.heap.size, 0, none⟩) 0 0) (.slice (some ⟨g, 0, none⟩) ii cap) 0 [] (OL.take ii) rfl (World.ownsRow_made w7 #[] 0 hz7 (by unfold maxLen; omega) rfl).drew rfl (HTA.out.kept ((Below.refl _ _).alloc (Nat.le_refl _) _).drew) (fun x hx => KO.out _ (HBW.out _ ((HB6.out.alloc hz7 _).drew)) x (List.mem_of_mem_take hx)) (by simp; omega) (by simp; omega) ?_
            intro v8 w8 ho8 hg8
            have HO8 := Lib.hid ho8
            have HB8 := Lib.hid ((((HB6.out.alloc hz7 _).drew).grown hg8 (by simp; omega) (fun k hk => Nat.le_trans hz7 (Nat.le_of_eq (Option.some.inj (show some w7.heap.size = some k from hk))))))
            have HK8 := Lib.hid (show Below w7.heap.size w7 w8 from (((Below.refl w7.heap.size w7).alloc (Nat.le_refl _) _).drew).grown hg8 (by simp) (fun k hk => Nat.le_of_eq (Option.some.inj (show some w7.heap.size = some k from hk))))
            clear ho8 hg8
            refine hK _ _ ⟨trivial, ?_⟩
            simp only [Act.put, List.setIfInBounds_toArray, List.set_cons_zero, List.set_cons_succ]
            refine wpPl_do (by rfl) (fun K hK => ?_)
            refine wp_append_rows (.tmp 127) (.tmp 131) rfl w5.heap.size v8 dv _ _ (OL.drop (ii + 1)) rfl HO8.out rfl (HDR.out.kept HK8.out) (fun x hx => KO.out _ (HBW.out _ HB8.out) x (List.mem_of_mem_drop hx)) (by simp; omega) HB8.out.size ?_
            intro v9 w9 ho9 hg9
            have HO9 := Lib.hid ho9
            have HB9 := Lib.hid (HB8.out.grown hg9 HB8.out.size (fun k hk => (HO8.out.lt k hk).1))
            clear ho9 hg9
            refine hK _ _ ⟨trivial, ?_⟩
            simp only [Act.put, List.setIfInBounds_toArray, List.set_cons_zero, List.set_cons_succ]
            iterate 1 (refine wpPl_take (v := ?_) (by rfl) (fun w' hS => ?_) ?_; rotate_left; (focus (go_simp; with_reducible rfl)); simp only [Act.put, List.setIfInBounds_toArray, List.set_cons_zero, List.set_cons_succ])
            refine wpPl_done ?_
            go_wp2_with fail
            go_meet
            case rel =>
              have hl : (OL.take ii ++ OL.drop (ii + 1)).length = OL.length - 1 := by simp; omega
              have h9 : w9.ownsRow w5.heap.size 31 15 v9 (OL.take ii ++ OL.drop (ii + 1)).length (cellsA (OL.take ii ++ OL.drop (ii + 1))) := by
                have := HO9.out
                rw [List.nil_append] at this
                have e : 0 + (OL.take ii).length + (OL.drop (ii + 1)).length = (OL.take ii ++ OL.drop (ii + 1)).length := by simp
                rw [e] at this
                exact this
              have hmem : ∀ x ∈ OL.take ii ++ OL.drop (ii + 1), x ∈ OL := fun x hx => by
                rcases List.mem_append.1 hx with h | h
                · exact List.mem_of_mem_take h
                · exact List.mem_of_mem_drop h
              exact ⟨_, by omega, IsR.of_ownA h9, fun x hx => KO.out _ (HBW.out _ HB9.out) x (hmem x hx), ofA_all (fun x hx => (HOKO.out x (hmem x hx)).1), not_alike_len (by rw [hl]; omega), HB9.out⟩
            · go_simp
              exact IntWalk.i64_in _ (by omega)
          · have hq1' : (q == 1) = false := by simp [hq1]
            have hq0' : (q == 0) = false := by simp [hq0]
            obtain ⟨x, hx⟩ : ∃ x, OL[ii]? = some x := ⟨OL[ii], by simp [hiN]⟩
            have c0 := HCS.out (ii * 15) (.int .i64 x.kind) (by have := cellsA_get (j := 0) hx (u := .int .i64 x.kind) rfl; simpa using this)
            have c1 := HCS.out (ii * 15 + 1) (.int .i64 x.tenant) (cellsA_get (j := 1) hx rfl)
            have c3 := HCS.out (ii * 15 + 3) (.int .i64 x.n) (cellsA_get (j := 3) hx rfl)
            have f0 := HZO.out.frozenAt (ii * 15)
            have f1 := HZO.out.frozenAt (ii * 15 + 1)
            have f3 := HZO.out.frozenAt (ii * 15 + 3)
            have HX := Lib.hid hx
            have hxo := HOKO.out x (List.mem_of_getElem? hx)
            have bn1 := hxo.2.1.n1
            have bn2 := hxo.2.1.n2
            have HXO := Lib.hid hxo
            clear hx hxo
            by_cases hk3 : x.kind = 3
            · have HK3 := Lib.hid hk3
              rw [hk3] at c0
              clear hk3
              go_wp2_with fail
              go_meet
              case rel =>
                have s1 := (HZO.out.stored (ii * 15) (.int .i64 4)).1
                have e1 := cellsA_setG (j := 0) HX.out (by omega) (x' := { x with kind := 4 }) (v := .int .i64 4) rfl
                rw [Nat.add_zero] at e1
                rw [e1] at s1
                have s2 := (s1.stored (ii * 15 + 1) (.int .i64 t)).1
                rw [cellsA_setG (l := OL.set ii { x with kind := 4 }) (i := ii) (x := { x with kind := 4 }) (x' := { x with kind := 4, tenant := t }) (j := 1) (by simp [hiN]) (by omega) rfl, List.set_set] at s2
                have hne : ¬ ActV.alike { x with kind := 4, tenant := t } x := fun h => by
                  rcases h with h | h
                  · exact absurd h.1 (by simp)
                  · have := h.1; rw [HK3.out] at this; simp at this
                refine ⟨OL.set ii { x with kind := 4, tenant := t }, by simp; omega, IsR.of_ownA (base := w5.heap.size) (by simpa using s2), fun y hy => ?_, ofA_all (fun y hy => ?_), not_alike_set HX.out hne, (HB6.out.setCell hg0 _).setCell hg0 _⟩
                · have hb := HBW.out _ ((HB6.out.setCell (p := ⟨g, ii * 15, none⟩) hg0 (.int .i64 4)).setCell (p := ⟨g, ii * 15 + 1, none⟩) hg0 (.int .i64 t))
                  rcases List.mem_or_eq_of_mem_set hy with h | h
                  · exact KO.out _ hb y h
                  · subst h
                    exact (KO.out _ hb x (List.mem_of_getElem? HX.out) : x.ok _)
                · rcases List.mem_or_eq_of_mem_set hy with h | h
                  · exact (HOKO.out y h).1
                  · subst h
                    exact .inr ⟨rfl, by simp, by simp, by simp⟩
            · have hk3' : (x.kind == 3) = false := by simp [hk3]
              go_wp2_with fail
              go_meet
              case rel =>
                have s1 := (HZO.out.stored (ii * 15 + 3) (.int .i64 (x.n + 1))).1
                rw [cellsA_setG (j := 3) HX.out (by omega) (x' := { x with n := x.n + 1 }) (v := .int .i64 (x.n + 1)) rfl] at s1
                have hne : ¬ ActV.alike { x with n := x.n + 1 } x := fun h => by
                  rcases h with h | h
                  · exact hk3 h.2
                  · have := h.2.2.2.1; simp at this; omega
                refine ⟨OL.set ii { x with n := x.n + 1 }, by simp; omega, IsR.of_ownA (base := w5.heap.size) (by simpa using s1), fun y hy => ?_, ofA_all (fun y hy => ?_), not_alike_set HX.out hne, HB6.out.setCell hg0 _⟩
                · have hb := HBW.out _ (HB6.out.setCell (p := ⟨g, ii * 15 + 3, none⟩) hg0 (.int .i64 (x.n + 1)))
                  rcases List.mem_or_eq_of_mem_set hy with h | h
                  · exact KO.out _ hb y h
                  · subst h
                    exact (KO.out _ hb x (List.mem_of_getElem? HX.out) : x.ok _)
                · rcases List.mem_or_eq_of_mem_set hy with h | h
                  · exact (HOKO.out y h).1
                  · subst h
                    rcases HXO.out.1 with h | h
                    · exact .inl h
                    · exact .inr h
        case rest =>
          obtain ⟨Z', hZl, hZi, hZk, hZo, hZn, hZb⟩ := hcut
          obtain ⟨za, zc, rfl, _⟩ := id hZi
          have HZI := Lib.hid hZi
          have HZK := Lib.hid hZk
          have HZb := Lib.hid hZb
          have HN1 := Lib.hid (show ¬ alikeL (ofA t R) (ofA t Z') from by rw [HOL.out, hZo]; exact fun h => hZn (alikeL_symm h))
          have HN2 := Lib.hid (show ¬ alikeL (ofA t Z') (ofA t Z) from by rw [hZo]; exact fun h => hZn (alikeL_trans h HAL.out))
          have HN3 := Lib.hid (show alikeL (ofA t OL) (ofA t Z) from by rw [HOA.out]; exact alikeL_symm HAL.out)
          clear hZi hZk hZb hZo hZn
          go_wp2_with (first
            | (go_at_call 10; (with_reducible refine (lowF t _ _ R Z' wc (HX5.out.kept HZb.out) HZI.out (KX.out _ (HBW.out _ HZb.out)) HZK.out (by omega) (by omega) HN1.out).mono ?_); rintro e wD ⟨rfl, hb⟩; have HD := Lib.hid hb; clear hb)
            | (go_at_call 10; (with_reducible refine (lowF t _ _ Z' Z wD (HZI.out.kept HD.out) ((HY5.out.kept HZb.out).kept HD.out) (fun x hx => (HZK.out x hx).kept HD.out) (KY.out _ (below_step (HBW.out _ HZb.out) HD.out)) (by omega) hZ80 HN2.out).mono ?_); rintro e wE ⟨rfl, hb⟩; have HE := Lib.hid (below_step HD.out hb); clear hb)
            | (go_at_call 10; (with_reducible refine (lowT t _ _ OL Z wE ((HO5.out.kept HZb.out).kept HE.out) ((HY5.out.kept HZb.out).kept HE.out) (KO.out _ (below_step (HBW.out _ HZb.out) HE.out)) (KY.out _ (below_step (HBW.out _ HZb.out) HE.out)) (by omega) hZ80 HN3.out).mono ?_); rintro e wF ⟨rfl, hb⟩; have HF := Lib.hid (below_step HE.out hb); clear hb)
            | (go_at_call 3; (with_reducible refine (runs_any _).mono ?_); rintro e wG ⟨rfl, hb⟩; have HG := Lib.hid (below_step HF.out hb); clear hb))
          go_ret
          exact ⟨rfl, below_step HB2.out (below_step (HBW.out _ HZb.out) HG.out)⟩
end Go.Proofs.Ytemmekpmoigdeaa

