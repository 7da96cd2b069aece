/- What Woven makes of two lists of acts. -/
import Derived.Test.YtemmekpmoigdeaaRow
import Derived.Maps.AppendAt
set_option linter.unusedSimpArgs false
set_option linter.unusedVariables false
set_option linter.unnecessarySimpa false
namespace Go.Proofs.Ytemmekpmoigdeaa
open Go.RowKit

/-- ticks, and what is a tenant's -/
def mine (t : Int) (l : List ActV) : List ActV := l.filter fun a => decide (a.kind = 3 ∨ a.tenant = t)
theorem mine_app (t : Int) (a b : List ActV) : mine t (a ++ b) = mine t a ++ mine t b := by simp [mine]
theorem mine_yes {t : Int} {x : ActV} (h : x.kind = 3 ∨ x.tenant = t) : mine t [x] = [x] := by simp [mine, h]
theorem mine_no {t : Int} {x : ActV} (h : ¬ (x.kind = 3 ∨ x.tenant = t)) : mine t [x] = [] := by simp [mine, h]
theorem take_next {α : Type} {l : List α} {i : Nat} {x : α} (h : l[i]? = some x) : l.take (i + 1) = l.take i ++ [x] := by rw [List.take_add_one, h]; rfl
/-- two rows of the call's own, apart -/
structure St (W w : World) (xv yv : Value) (X Y : List ActV) : Prop where
  ox : w.ownsRow W.heap.size 31 15 xv X.length (cellsA X)
  oy : w.ownsRow W.heap.size 31 15 yv Y.length (cellsA Y)
  ap : ∀ k, xv.ownBlock = some k → yv.ownBlock ≠ some k
  bl : Below W.heap.size W w
theorem St.alloc {W w : World} {xv yv : Value} {X Y : List ActV} (h : St W w xv yv X Y) (o : Obj) : St W (w.alloc o) xv yv X Y := ⟨h.ox.alloc o, h.oy.alloc o, h.ap, h.bl.alloc h.bl.size o⟩
theorem St.drew {W w : World} {xv yv : Value} {X Y : List ActV} (h : St W w xv yv X Y) : St W w.drew xv yv X Y := ⟨h.ox.drew, h.oy.drew, h.ap, h.bl.drew⟩
theorem St.growX {W w w' : World} {xv yv xv' : Value} {X Y : List ActV} {a : ActV} (h : St W w xv yv X Y) (ho : w'.ownsRow W.heap.size 31 15 xv' (X.length + 1) (cellsA (X ++ [a]))) (hg : w.grownBy w' xv.ownBlock) (hat : xv'.ownBlock = xv.ownBlock ∨ xv'.ownBlock = some w.heap.size) : St W w' xv' yv (X ++ [a]) Y := by
  refine ⟨by simpa using ho, h.oy.kept hg ?_, fun k hk e => ?_, h.bl.grown hg h.bl.size (fun k hk => (h.ox.lt k hk).1)⟩
  · cases hx : xv.ownBlock with
    | none => cases hy : yv.ownBlock with
      | none => exact .inl rfl
      | some k => exact .inr (by simp)
    | some k => exact .inr (h.ap k hx)
  · rcases hat with h1 | h1
    · exact h.ap k (h1 ▸ hk) e
    · rw [h1] at hk
      cases hk
      have := (h.oy.lt _ e).2
      omega
theorem St.growY {W w w' : World} {xv yv yv' : Value} {X Y : List ActV} {a : ActV} (h : St W w xv yv X Y) (ho : w'.ownsRow W.heap.size 31 15 yv' (Y.length + 1) (cellsA (Y ++ [a]))) (hg : w.grownBy w' yv.ownBlock) (hat : yv'.ownBlock = yv.ownBlock ∨ yv'.ownBlock = some w.heap.size) : St W w' xv yv' X (Y ++ [a]) := by
  refine ⟨h.ox.kept hg ?_, by simpa using ho, fun k hk e => ?_, h.bl.grown hg h.bl.size (fun k hk => (h.oy.lt k hk).1)⟩
  · cases hx : xv.ownBlock with
    | none => exact .inl rfl
    | some k => exact .inr (fun e => h.ap k hx e.symm)
  · rcases hat with h1 | h1
    · exact h.ap k hk (h1 ▸ e)
    · rw [h1] at e
      cases e
      have := (h.ox.lt _ hk).2
      omega
theorem St.shapeX {W w : World} {xv yv : Value} {X Y : List ActV} (h : St W w xv yv X Y) : ∃ a c, xv = .slice a X.length c := by
  rcases h.ox.2 with ⟨h1, h2⟩ | ⟨g, cap, cur, h1, _⟩
  · exact ⟨none, 0, by rw [h1, h2]⟩
  · exact ⟨_, cap, h1⟩
theorem St.shapeY {W w : World} {xv yv : Value} {X Y : List ActV} (h : St W w xv yv X Y) : ∃ a c, yv = .slice a Y.length c := by
  rcases h.oy.2 with ⟨h1, h2⟩ | ⟨g, cap, cur, h1, _⟩
  · exact ⟨none, 0, by rw [h1, h2]⟩
  · exact ⟨_, cap, h1⟩
theorem St.neX {W w : World} {xv yv : Value} {X Y : List ActV} (h : St W w xv yv X Y) {b : Nat} (hb : w.heap.size ≤ b) : xv.ownBlock ≠ some b := fun e => by have := (h.ox.lt b e).2; omega
theorem St.neY {W w : World} {xv yv : Value} {X Y : List ActV} (h : St W w xv yv X Y) {b : Nat} (hb : w.heap.size ≤ b) : yv.ownBlock ≠ some b := fun e => by have := (h.oy.lt b e).2; omega
theorem act_one (x : ActV) (w : World) (h : x.ok w) : ∀ u ∈ x.cs, u.oneCell' = true := by
  have := cellsA_one [x] w (by simpa using h)
  simpa [cellsA] using this
/-- an act put behind a row of the call's own -/
theorem wp_append_act {o : Oper} {a : Act} {w : World} {K : Act → World → Prop} {Q : Exit → Act → World → Prop} (s x : Operand)
    (ho : o.op = .call { callee := .builtin .append, args := #[s, x], argTypes := #[32, 32] })
    (base : Nat) (v : Value) (n : Nat) (l : List ActV) (hs : a.eval s = v) (hown : w.ownsRow base 31 15 v n (cellsA l)) (b : Nat) (y : ActV) (hx : a.eval x = .slice (some ⟨b, 0, none⟩) 1 1) (hat : At w b y.cs) (hok : y.ok w)
    (h63 : n ≤ 1000) (hbase : base ≤ w.heap.size)
    (h : ∀ v' w', w'.ownsRow base 31 15 v' (n + 1) (cellsA (l ++ [y])) → w.grownBy w' v.ownBlock → (v'.ownBlock = v.ownBlock ∨ v'.ownBlock = some w.heap.size) → K (a.put o.dst v') w') : o.wp Try.prog a w K Q := by
  obtain ⟨i0, hi3, hz0, hz1, hz2⟩ := info_parts info31
  obtain ⟨v', w', hr, h2, h3, _, h5⟩ := run_append_own_at (P := Try.prog) w base 32 o.type 31 i0 _ 15 136 Try.underlying32 hi3 hz0 hz1 hz2 rfl (by decide) v n (cellsA l) hown ⟨b, 0, none⟩ 1 1 y.cs rfl (fun j u hj => by
    have hadd : (⟨b, 0, none⟩ : Addr).add j = ⟨b, j, none⟩ := by unfold Addr.add; split <;> simp_all
    rw [hadd]
    exact hat.c j u hj) (act_one y w hok) (by unfold maxLen; omega) (by omega) hbase
  unfold Oper.wp execOp
  simp only [ho, resolve, invoke, builtin, Sem.run_bind, Sem.run_pure, Result.andThen_ok, List.map_toArray, List.map_cons, List.map_nil, hs, hx, hr]
  exact h v' w' (by rw [cellsA_snoc]; exact h2) h3 h5

set_option maxRecDepth 100000 in
set_option maxHeartbeats 8000000 in
theorem woven_any (W : World) (va vm : Value) (R M : List ActV) (t : Int) (h1 : IsR ActV.cs 15 W va R) (h2 : IsR ActV.cs 15 W vm M) (k1 : ∀ a ∈ R, a.ok W) (k2 : ∀ a ∈ M, a.ok W) (hR : R.length ≤ 40) (hM : M.length ≤ 40) :
    Calls Try.prog 13 #[va, vm, .int .i64 t, .bool false] W fun e w' => ∃ (x y : Value) (Y : List ActV), e = .returned (.tuple #[x, y]) ∧ St W w' x y R Y ∧ mine t Y = mine t R ∧ (∀ a ∈ Y, a ∈ R ∨ a ∈ M) ∧ Y.length ≤ 80 := by
  obtain ⟨ra, rc, rfl, hr1, hr2, rb, ro, hr3, hr4⟩ := h1
  obtain ⟨ma, mc, rfl, hm1, hm2, mb, mo, hm3, hm4⟩ := h2
  unfold maxLen at hr2 hm2
  have HR3 := Lib.hid hr3
  have HR4 := Lib.hid hr4
  have HM3 := Lib.hid hm3
  have HM4 := Lib.hid hm4
  have HK1 := Lib.hid k1
  have HK2 := Lib.hid k2
  clear hr3 hr4 hm3 hm4 k1 k2
  obtain ⟨m, hm⟩ : ∃ m, m = R.length := ⟨_, rfl⟩
  have HMM := Lib.hid hm
  rw [← hm] at hr1 hR ⊢
  clear hm
  obtain ⟨i0, hi3, hz0, hz1, hz2⟩ := info_parts info31
  have HI := Lib.hid (And.intro hi3 (And.intro hz0 (And.intro hz1 hz2)))
  clear hi3 hz0 hz1 hz2
  go_enter Try.func13, Try.ntmps13
  go_wp2_with fail
  go_loopg [10, 11, 12, 17] m (fun g v10 v11 v12 v17 wr => ∃ (i j : Nat) (xa : Option Addr) (xc : Nat) (ya : Option Addr) (yc : Nat) (Y : List ActV), i ≤ m ∧ g = m - i ∧ v10 = .slice xa (R.take i).length xc ∧ v11 = .slice ya Y.length yc ∧ v12 = .int .i64 j ∧ v17 = .int .i64 i ∧ St W wr (.slice xa (R.take i).length xc) (.slice ya Y.length yc) (R.take i) Y ∧ mine t Y = mine t (R.take i) ∧ (∀ a ∈ Y, a ∈ R ∨ a ∈ M) ∧ Y.length ≤ i + j ∧ j ≤ M.length)
  case atStart => exact ⟨0, 0, none, 0, none, 0, [], by omega, by omega, rfl, rfl, rfl, rfl, ⟨World.ownsRow_nil _ _ _ _, World.ownsRow_nil _ _ _ _, fun k hk => by simp [Value.ownBlock] at hk, Below.refl _ _⟩, rfl, by simp, by simp, by omega⟩
  case round =>
    obtain ⟨i, j, xa, xc, ya, yc, Y, hi, rfl, rfl, rfl, rfl, rfl, hst, hmi, hme, hY, hj⟩ := hrel
    have HST := Lib.hid hst
    have HMI := Lib.hid hmi
    have HME := Lib.hid hme
    have hz := hst.bl.size
    have hXl : (R.take i).length ≤ 40 := by have := HMM.out; simp; omega
    clear hst hmi hme
    by_cases hlt : i < m
    · obtain ⟨rfl, hrb⟩ := HR3.out (by have := HMM.out; omega)
      obtain ⟨x, hx⟩ : ∃ x, R[i]? = some x := ⟨R[i]'(by have := HMM.out; omega), by simp [show i < R.length by have := HMM.out; omega]⟩
      have HTN := Lib.hid (take_next hx)
      have HXR := Lib.hid (List.mem_of_getElem? hx)
      have HXO := Lib.hid ((HK1.out x (List.mem_of_getElem? hx)).kept HST.out.bl)
      have HXC := Lib.hid (fun (j : Nat) (u : Value) (hj : x.cs[j]? = some u) => (HST.out.bl.cell (p := ⟨rb, ro + i * 15 + j, none⟩) hrb).trans (HR4.out i x hx j u hj))
      clear hx
      have hsl : ∃ pa pl pc, x.pipe.ops = .slice pa pl pc := by
        obtain ⟨pa, pc, hv, _⟩ := HXO.out
        exact ⟨pa, _, pc, hv⟩
      obtain ⟨pa, pl, pc, hsl⟩ := hsl
      obtain ⟨k1, t1, f1, n1, ⟨p1, ol1, s1, d1, g1, sk1, fd1⟩, m1, i1, y1, v1, u1⟩ := x
      simp only at hsl
      subst hsl
      have c0 := HXC.out 0 _ rfl
      have c1 := HXC.out 1 _ rfl
      have c2 := HXC.out 2 _ rfl
      have c3 := HXC.out 3 _ rfl
      have c4 := HXC.out 4 _ rfl
      have c5 := HXC.out 5 _ rfl
      have c6 := HXC.out 6 _ rfl
      have c7 := HXC.out 7 _ rfl
      have c8 := HXC.out 8 _ rfl
      have c9 := HXC.out 9 _ rfl
      have c10 := HXC.out 10 _ rfl
      have c11 := HXC.out 11 _ rfl
      have c12 := HXC.out 12 _ rfl
      have c13 := HXC.out 13 _ rfl
      have c14 := HXC.out 14 _ rfl
      simp only [Nat.add_zero] at c0

      clear HXC
      have hk2 : rb < wr.heap.size := by omega
      obtain ⟨XL, hXL⟩ : ∃ XL, R.take i = XL := ⟨_, rfl⟩
      rw [hXL] at HST HMI hXl HTN
      simp only [hXL]
      clear hXL
      by_cases hk3 : k1 = 3
      · have HQ := Lib.hid (mine_yes (t := t) (x := ⟨k1, t1, f1, n1, ⟨.slice pa pl pc, ol1, s1, d1, g1, sk1, fd1⟩, m1, i1, y1, v1, u1⟩) (.inl hk3))
        have HKX := Lib.hid trivial
        subst hk3
        go_upto_block 2 with fail
        obtain ⟨b, hb⟩ : ∃ b, b = wr.heap.size := ⟨_, rfl⟩
        rw [← hb]
        have HS1 := Lib.hid (HST.out.alloc (.cells #[.int .i64 3, .int .i64 t1, .int .i64 f1, .int .i64 n1, .slice pa pl pc, .int .i64 s1, .int .i64 d1, .int .i64 g1, .int .i64 sk1, .int .i64 fd1, .bool m1, .int .i64 i1, .int .i64 y1, .int .i64 v1, .int .u64 u1] 31))
        have HA1 := Lib.hid (show At (wr.alloc (.cells #[.int .i64 3, .int .i64 t1, .int .i64 f1, .int .i64 n1, .slice pa pl pc, .int .i64 s1, .int .i64 d1, .int .i64 g1, .int .i64 sk1, .int .i64 fd1, .bool m1, .int .i64 i1, .int .i64 y1, .int .i64 v1, .int .u64 u1] 31)) b [.int .i64 3, .int .i64 t1, .int .i64 f1, .int .i64 n1, .slice pa pl pc, .int .i64 s1, .int .i64 d1, .int .i64 g1, .int .i64 sk1, .int .i64 fd1, .bool m1, .int .i64 i1, .int .i64 y1, .int .i64 v1, .int .u64 u1] from hb ▸ At.new wr _ _)
        have HNX := Lib.hid (show (Value.slice xa XL.length xc).ownBlock ≠ some b from HST.out.neX (by omega))
        have HNY := Lib.hid (show (Value.slice ya Y.length yc).ownBlock ≠ some b from HST.out.neY (by omega))
        have hbW : W.heap.size ≤ b := by omega
        clear hb
        go_cut [11, 12] (fun s11 s12 wx => ∃ (jj : Nat) (ya : Option Addr) (yc : Nat) (Y : List ActV), s11 = .slice ya Y.length yc ∧ s12 = .int .i64 jj ∧ jj ≤ M.length ∧ Y.length ≤ i + jj ∧ St W wx (.slice xa XL.length xc) (.slice ya Y.length yc) XL Y ∧ mine t Y = mine t XL ∧ (∀ a ∈ Y, a ∈ R ∨ a ∈ M) ∧ At wx b [.int .i64 3, .int .i64 t1, .int .i64 f1, .int .i64 n1, .slice pa pl pc, .int .i64 s1, .int .i64 d1, .int .i64 g1, .int .i64 sk1, .int .i64 fd1, .bool m1, .int .i64 i1, .int .i64 y1, .int .i64 v1, .int .u64 u1] ∧ (Value.slice xa XL.length xc).ownBlock ≠ some b ∧ (Value.slice ya Y.length yc).ownBlock ≠ some b)
        case first =>
          go_wp2_with fail
          go_loopg [11, 12] (M.length - j) (fun g v11 v12 wx => ∃ (jj : Nat) (ya : Option Addr) (yc : Nat) (Y : List ActV), v11 = .slice ya Y.length yc ∧ v12 = .int .i64 jj ∧ jj ≤ M.length ∧ g = M.length - jj ∧ Y.length ≤ i + jj ∧ St W wx (.slice xa XL.length xc) (.slice ya Y.length yc) XL Y ∧ mine t Y = mine t XL ∧ (∀ a ∈ Y, a ∈ R ∨ a ∈ M) ∧ At wx b [.int .i64 3, .int .i64 t1, .int .i64 f1, .int .i64 n1, .slice pa pl pc, .int .i64 s1, .int .i64 d1, .int .i64 g1, .int .i64 sk1, .int .i64 fd1, .bool m1, .int .i64 i1, .int .i64 y1, .int .i64 v1, .int .u64 u1] ∧ (Value.slice xa XL.length xc).ownBlock ≠ some b ∧ (Value.slice ya Y.length yc).ownBlock ≠ some b)
          case atStart => exact ⟨j, ya, yc, Y, rfl, rfl, hj, rfl, hY, HS1.out, HMI.out, HME.out, HA1.out, HNX.out, HNY.out⟩
          case round =>
            clear HS1 HA1 HNX HNY HST
            obtain ⟨jj, ya, yc, Y, rfl, rfl, hjj, rfl, hYY, hst, hmi, hme, hat, hnx, hny⟩ := hrel
            have HS2 := Lib.hid hst
            have HMI2 := Lib.hid hmi
            have HME2 := Lib.hid hme
            have HAT2 := Lib.hid hat
            have HNX2 := Lib.hid hnx
            have HNY2 := Lib.hid hny
            have hz2 := hst.bl.size
            have hbl := hat.lt
            clear hst hmi hme hat hnx hny
            by_cases hj1 : jj < M.length
            · by_cases hj2 : jj < 2 * XL.length + 2
              · obtain ⟨rfl, hmb⟩ := HM3.out (by omega)
                obtain ⟨z, hzx⟩ : ∃ z, M[jj]? = some z := ⟨M[jj], by simp [hj1]⟩
                have HZM := Lib.hid (List.mem_of_getElem? hzx)
                have HZO := Lib.hid ((HK2.out z (List.mem_of_getElem? hzx)).kept HS2.out.bl)
                have HZC := Lib.hid (fun (j : Nat) (u : Value) (hj : z.cs[j]? = some u) => (HS2.out.bl.cell (p := ⟨mb, mo + jj * 15 + j, none⟩) hmb).trans (HM4.out jj z hzx j u hj))
                clear hzx
                have hsl : ∃ pa pl pc, z.pipe.ops = .slice pa pl pc := by
                  obtain ⟨pa, pc, hv, _⟩ := HZO.out
                  exact ⟨pa, _, pc, hv⟩
                obtain ⟨zpa, zpl, zpc, hsl⟩ := hsl
                obtain ⟨zk1, zt1, zf1, zn1, ⟨zp1, zol1, zs1, zd1, zg1, zsk1, zfd1⟩, zm1, zi1, zy1, zv1, zu1⟩ := z
                simp only at hsl
                subst hsl
                have e0 := HZC.out 0 _ rfl
                have e1 := HZC.out 1 _ rfl
                have e2 := HZC.out 2 _ rfl
                have e3 := HZC.out 3 _ rfl
                have e4 := HZC.out 4 _ rfl
                have e5 := HZC.out 5 _ rfl
                have e6 := HZC.out 6 _ rfl
                have e7 := HZC.out 7 _ rfl
                have e8 := HZC.out 8 _ rfl
                have e9 := HZC.out 9 _ rfl
                have e10 := HZC.out 10 _ rfl
                have e11 := HZC.out 11 _ rfl
                have e12 := HZC.out 12 _ rfl
                have e13 := HZC.out 13 _ rfl
                have e14 := HZC.out 14 _ rfl
                simp only [Nat.add_zero] at e0

                clear HZC
                by_cases hz3 : zk1 = 3
                · subst hz3
                  go_wp2_with fail
                  go_roundg (M.length - (jj + 1))
                  case measure => omega
                  case rel => exact ⟨jj + 1, ya, yc, Y, rfl, by go_num, by omega, rfl, by omega, HS2.out, HMI2.out, HME2.out, HAT2.out, HNX2.out, HNY2.out⟩
                · have hz3' : (zk1 == 3) = false := by simp [hz3]
                  have hz32 : (zk1 != 3) = true := by simp [hz3]
                  by_cases hzt : zt1 = t
                  · subst hzt
                    go_wp2_with fail
                    go_roundg (M.length - (jj + 1))
                    case measure => omega
                    case rel => exact ⟨jj + 1, ya, yc, Y, rfl, by go_num, by omega, rfl, by omega, HS2.out, HMI2.out, HME2.out, HAT2.out, HNX2.out, HNY2.out⟩
                  · have hzt' : (zt1 == t) = false := by simp [hzt]
                    have hzt2 : (zt1 != t) = true := by simp [hzt]
                    have HQZ := Lib.hid (mine_no (t := t) (x := ⟨zk1, zt1, zf1, zn1, ⟨.slice zpa zpl zpc, zol1, zs1, zd1, zg1, zsk1, zfd1⟩, zm1, zi1, zy1, zv1, zu1⟩) (fun h => h.elim hz3 hzt))
                    have hYl : Y.length ≤ 80 := by omega
                    go_wp2_with (at_builtin; refine wpList_append_own_at _ rfl (.tmp 71) (.tmp 76) 32 rfl W.heap.size 31 i0 _ 15 136 Try.underlying32 HI.out.1 HI.out.2.1 HI.out.2.2.1 HI.out.2.2.2 rfl (by decide) (.slice ya Y.length yc) Y.length (cellsA Y) rfl (HS2.out.alloc _).oy ⟨wr.heap.size, 0, none⟩ 1 1 [.int .i64 zk1, .int .i64 zt1, .int .i64 zf1, .int .i64 zn1, .slice zpa zpl zpc, .int .i64 zs1, .int .i64 zd1, .int .i64 zg1, .int .i64 zsk1, .int .i64 zfd1, .bool zm1, .int .i64 zi1, .int .i64 zy1, .int .i64 zv1, .int .u64 zu1] rfl rfl (row_cells _ _ _) (by simp [Value.oneCell']) (by unfold maxLen; omega) (by omega) (by simp; omega) ?_; intro v' w5 q1 q2 _ q4; have HS5 := Lib.hid ((HS2.out.alloc _).growY (a := ⟨zk1, zt1, zf1, zn1, ⟨.slice zpa zpl zpc, zol1, zs1, zd1, zg1, zsk1, zfd1⟩, zm1, zi1, zy1, zv1, zu1⟩) (by rw [cellsA_snoc]; exact q1) q2 q4); have HA5 := Lib.hid ((HAT2.out.alloc _).grown q2 (fun k hk e => HNY2.out (by rw [hk, e]))); have HN5 := Lib.hid (show v'.ownBlock ≠ some b from fun e => by rcases q4 with h | h; exact HNY2.out (h ▸ e); rw [h] at e; simp at e; omega); clear q1 q2 q4; obtain ⟨ya5, yc5, rfl⟩ := HS5.out.shapeY)
                    go_roundg (M.length - (jj + 1))
                    case measure => omega
                    case rel =>
                      refine ⟨jj + 1, ya5, yc5, Y ++ [⟨zk1, zt1, zf1, zn1, ⟨.slice zpa zpl zpc, zol1, zs1, zd1, zg1, zsk1, zfd1⟩, zm1, zi1, zy1, zv1, zu1⟩], by simp, by go_num, by omega, rfl, by simp; omega, HS5.out, by rw [mine_app, HQZ.out, List.append_nil]; exact HMI2.out, fun a ha => ?_, HA5.out, HNX2.out, HN5.out⟩
                      rcases List.mem_append.1 ha with h | h
                      · exact HME2.out a h
                      · rw [List.mem_singleton.1 h]; exact .inr HZM.out
              · go_wp2_with fail
                go_meet
                case rel => exact ⟨jj, ya, yc, Y, rfl, rfl, hjj, hYY, HS2.out, HMI2.out, HME2.out, HAT2.out, HNX2.out, HNY2.out⟩
            · go_wp2_with fail
              go_meet
              case rel => exact ⟨jj, ya, yc, Y, rfl, rfl, hjj, hYY, HS2.out, HMI2.out, HME2.out, HAT2.out, HNX2.out, HNY2.out⟩
        case rest =>
          clear HS1 HA1 HNX HNY HST
          obtain ⟨jj, ya, yc, Y, rfl, rfl, hjj, hYY, hst, hmi, hme, hat, hnx, hny⟩ := hcut
          have HS2 := Lib.hid hst
          have HMI2 := Lib.hid hmi
          have HME2 := Lib.hid hme
          have HAT2 := Lib.hid hat
          have HNX2 := Lib.hid hnx
          have HNY2 := Lib.hid hny
          have hbl := hat.lt
          have hYl : Y.length ≤ 80 := by omega
          have HOKx := Lib.hid (fun (w : World) (hb : Below W.heap.size W w) => (HK1.out _ HXR.out).kept hb)
          clear hst hmi hme hat hnx hny
          go_wp2_with fail
          refine wp_region_pl (fun x => At x b [.int .i64 3, .int .i64 t1, .int .i64 f1, .int .i64 n1, .slice pa pl pc, .int .i64 s1, .int .i64 d1, .int .i64 g1, .int .i64 sk1, .int .i64 fd1, .bool m1, .int .i64 i1, .int .i64 y1, .int .i64 v1, .int .u64 u1]) (.take 0 <| .take 1 <| .take 4 <| .take 5 <| .fork 2 (.two 3 6 <| .doo 7 <| .take 8 <| .take 9 <| .done) 6 (.doo 2 <| .doo 3 <| .doo 7 <| .take 8 <| .take 9 <| .done)) ?plL14A (by kernel_rfl) (by kernel_rfl) (by kernel_rfl) ?plH14A (by intro c a d v w; cases d <;> exact fun h => h) HAT2.out.drew ?_
          case plH14A =>
            simp only [Pl.with, List.getElem?_toArray, List.getElem?_cons_zero, List.getElem?_cons_succ]
            try rfl
          iterate 1 (refine wpPl_take (v := ?_) (by rfl) (fun w' hS => ?_) ?_; rotate_left; (focus (go_simp; with_reducible rfl)); simp only [Act.put, List.setIfInBounds_toArray, List.set_cons_zero, List.set_cons_succ])
          refine wpPl_take (v := .agg #[.int .i64 3, .int .i64 t1, .int .i64 f1, .int .i64 n1, .slice pa pl pc, .int .i64 s1, .int .i64 d1, .int .i64 g1, .int .i64 sk1, .int .i64 fd1, .bool m1, .int .i64 i1, .int .i64 y1, .int .i64 v1, .int .u64 u1]) (by rfl) (fun w' hS => load31 w' _ _ _ b 0 ⟨3, t1, f1, n1, ⟨.slice pa pl pc, ol1, s1, d1, g1, sk1, fd1⟩, m1, i1, y1, v1, u1⟩ rfl (fun j u hj => by rw [Nat.zero_add]; exact hS.c j u hj)) ?_
          simp only [Act.put, List.setIfInBounds_toArray, List.set_cons_zero, List.set_cons_succ]
          iterate 1 (refine wpPl_take (v := ?_) (by rfl) (fun w' hS => ?_) ?_; rotate_left; (focus (go_simp; with_reducible rfl)); simp only [Act.put, List.setIfInBounds_toArray, List.set_cons_zero, List.set_cons_succ])
          refine wpPl_take (v := .agg #[.int .i64 3, .int .i64 t1, .int .i64 f1, .int .i64 n1, .slice pa pl pc, .int .i64 s1, .int .i64 d1, .int .i64 g1, .int .i64 sk1, .int .i64 fd1, .bool m1, .int .i64 i1, .int .i64 y1, .int .i64 v1, .int .u64 u1]) (by rfl) (fun w' hS => load31 w' _ _ _ b 0 ⟨3, t1, f1, n1, ⟨.slice pa pl pc, ol1, s1, d1, g1, sk1, fd1⟩, m1, i1, y1, v1, u1⟩ rfl (fun j u hj => by rw [Nat.zero_add]; exact hS.c j u hj)) ?_
          simp only [Act.put, List.setIfInBounds_toArray, List.set_cons_zero, List.set_cons_succ]
          have HSd := Lib.hid HS2.out.drew
          refine wpPl_fork (by rfl) (by rfl) (fun K hK => ?_) (fun K hK => ?_)
          · go_wp2_with fail
            refine ⟨(HAT2.out.alloc _).drew, ?_⟩
            refine wpPl_two (fun u v y => St W y u (.slice ya Y.length yc) (XL ++ [⟨3, t1, f1, n1, ⟨.slice pa pl pc, ol1, s1, d1, g1, sk1, fd1⟩, m1, i1, y1, v1, u1⟩]) Y ∧ ∃ bb : Nat, v = .slice (some ⟨bb, 0, none⟩) 1 1 ∧ At y bb [.int .i64 3, .int .i64 t1, .int .i64 f1, .int .i64 n1, .slice pa pl pc, .int .i64 s1, .int .i64 d1, .int .i64 g1, .int .i64 sk1, .int .i64 fd1, .bool m1, .int .i64 i1, .int .i64 y1, .int .i64 v1, .int .u64 u1]) (by rfl) (by rfl) (by rintro d ⟨⟩; decide) (fun K hK => ?_) (fun K hK => ?_) ?_
            · refine wp_append_act (.tmp 78) (.tmp 80) rfl W.heap.size (.slice xa XL.length xc) XL.length XL rfl ((HS2.out.alloc _).drew).ox wc.heap.size ⟨3, t1, f1, n1, ⟨.slice pa pl pc, ol1, s1, d1, g1, sk1, fd1⟩, m1, i1, y1, v1, u1⟩ rfl (At.new wc _ _).drew (HOKx.out _ ((HS2.out.alloc _).drew).bl) (by omega) ((HS2.out.alloc _).drew).bl.size ?_
              intro v' w' e1 e2 e4
              have HS3 := Lib.hid (((HS2.out.alloc _).drew).growX e1 e2 e4)
              have HA3 := Lib.hid (((HAT2.out.alloc _).drew).grown e2 (fun k hk e => HNX2.out (by rw [hk, e])))
              clear e1 e2 e4
              refine hK _ _ ⟨HA3.out, _, rfl, wpOne_do (by rfl) (fun K hK => ?_)⟩
              simp only [Act.put, List.setIfInBounds_toArray, List.set_cons_zero, List.set_cons_succ]
              go_wp2_with fail
              first
                | exact ⟨HA3.out.alloc _, HS3.out.alloc _, At.new w' _ _⟩
                | exact ⟨HA3.out.alloc _, HS3.out.alloc _, w'.heap.size, rfl, At.new w' _ _⟩
                | exact ⟨HA3.out.alloc _, _, rfl, HS3.out.alloc _, w'.heap.size, rfl, At.new w' _ _⟩
            · go_wp2_with fail
              refine ⟨((HAT2.out.alloc _).alloc _).drew, wpOne_do (by rfl) (fun K hK => ?_)⟩
              refine wp_append_act (.tmp 78) (.tmp 80) rfl W.heap.size (.slice xa XL.length xc) XL.length XL rfl (((HS2.out.alloc _).alloc _).drew).ox wc.heap.size ⟨3, t1, f1, n1, ⟨.slice pa pl pc, ol1, s1, d1, g1, sk1, fd1⟩, m1, i1, y1, v1, u1⟩ rfl ((At.new wc _ _).alloc _).drew (HOKx.out _ (((HS2.out.alloc _).alloc _).drew).bl) (by omega) (((HS2.out.alloc _).alloc _).drew).bl.size ?_
              intro v' w' e1 e2 e4
              have HS3 := Lib.hid ((((HS2.out.alloc _).alloc _).drew).growX e1 e2 e4)
              have HA3 := Lib.hid ((((HAT2.out.alloc _).alloc _).drew).grown e2 (fun k hk e => HNX2.out (by rw [hk, e])))
              have HB3 := Lib.hid (((show At ((wc.alloc (.cells #[.int .i64 3, .int .i64 t1, .int .i64 f1, .int .i64 n1, .slice pa pl pc, .int .i64 s1, .int .i64 d1, .int .i64 g1, .int .i64 sk1, .int .i64 fd1, .bool m1, .int .i64 i1, .int .i64 y1, .int .i64 v1, .int .u64 u1] 31)).alloc (.cells #[.int .i64 3, .int .i64 t1, .int .i64 f1, .int .i64 n1, .slice pa pl pc, .int .i64 s1, .int .i64 d1, .int .i64 g1, .int .i64 sk1, .int .i64 fd1, .bool m1, .int .i64 i1, .int .i64 y1, .int .i64 v1, .int .u64 u1] 31)) (wc.heap.size + 1) [.int .i64 3, .int .i64 t1, .int .i64 f1, .int .i64 n1, .slice pa pl pc, .int .i64 s1, .int .i64 d1, .int .i64 g1, .int .i64 sk1, .int .i64 fd1, .bool m1, .int .i64 i1, .int .i64 y1, .int .i64 v1, .int .u64 u1] from by have := At.new (wc.alloc (.cells #[.int .i64 3, .int .i64 t1, .int .i64 f1, .int .i64 n1, .slice pa pl pc, .int .i64 s1, .int .i64 d1, .int .i64 g1, .int .i64 sk1, .int .i64 fd1, .bool m1, .int .i64 i1, .int .i64 y1, .int .i64 v1, .int .u64 u1] 31)) #[.int .i64 3, .int .i64 t1, .int .i64 f1, .int .i64 n1, .slice pa pl pc, .int .i64 s1, .int .i64 d1, .int .i64 g1, .int .i64 sk1, .int .i64 fd1, .bool m1, .int .i64 i1, .int .i64 y1, .int .i64 v1, .int .u64 u1] 31; rwa [show (wc.alloc (.cells #[.int .i64 3, .int .i64 t1, .int .i64 f1, .int .i64 n1, .slice pa pl pc, .int .i64 s1, .int .i64 d1, .int .i64 g1, .int .i64 sk1, .int .i64 fd1, .bool m1, .int .i64 i1, .int .i64 y1, .int .i64 v1, .int .u64 u1] 31)).heap.size = wc.heap.size + 1 by simp] at this).drew).grown e2 (fun k hk e => by have := (HS2.out.ox.lt k hk).2; omega))
              clear e1 e2 e4
              refine hK _ _ ?_
              first
                | exact ⟨HA3.out, _, rfl, HS3.out, HB3.out⟩
                | exact ⟨HA3.out, _, rfl, HS3.out, wc.heap.size + 1, rfl, HB3.out⟩
                | exact ⟨HA3.out, HS3.out, HB3.out⟩
                | exact ⟨HA3.out, HS3.out, wc.heap.size + 1, rfl, HB3.out⟩
            rintro u v w8 ⟨hst, bb, rfl, hbb⟩ hS8
            have HS8 := Lib.hid hst
            have HBB := Lib.hid hbb
            have HA8 := Lib.hid hS8
            clear hst hbb hS8
            simp only [Act.put, List.setIfInBounds_toArray, List.set_cons_zero, List.set_cons_succ]
            refine wpPl_do (by rfl) (fun K hK => ?_)
            refine wp_append_act (.tmp 82) (.tmp 84) rfl W.heap.size (.slice ya Y.length yc) Y.length Y rfl HS8.out.oy bb ⟨3, t1, f1, n1, ⟨.slice pa pl pc, ol1, s1, d1, g1, sk1, fd1⟩, m1, i1, y1, v1, u1⟩ rfl HBB.out (HOKx.out _ HS8.out.bl) (by omega) HS8.out.bl.size ?_
            intro v' w9 e1 e2 e4
            have HSF := Lib.hid (HS8.out.growY e1 e2 e4)
            have HAF := Lib.hid (HA8.out.grown e2 (fun k hk e => HNY2.out (by rw [hk, e])))
            clear e1 e2 e4
            obtain ⟨xa9, xc9, rfl⟩ := HSF.out.shapeX
            obtain ⟨ya9, yc9, rfl⟩ := HSF.out.shapeY
            refine hK _ _ ⟨HAF.out, ?_⟩
            simp only [Act.put, List.setIfInBounds_toArray, List.set_cons_zero, List.set_cons_succ]
            iterate 2 (refine wpPl_take (v := ?_) (by rfl) (fun w' hS => ?_) ?_; rotate_left; (focus (go_simp; with_reducible rfl)); simp only [Act.put, List.setIfInBounds_toArray, List.set_cons_zero, List.set_cons_succ])
            refine wpPl_done ?_
            go_wp2_with fail
            go_roundg (m - (i + 1))
            case measure => omega
            case rel =>
              have hs := HSF.out
              have hmi := HMI2.out
              refine ⟨i + 1, jj, xa9, xc9, ya9, yc9, Y ++ [⟨3, t1, f1, n1, ⟨.slice pa pl pc, ol1, s1, d1, g1, sk1, fd1⟩, m1, i1, y1, v1, u1⟩], by omega, rfl, ?_, ?_, rfl, by go_num, ?_, ?_, ?_, ?_, hjj⟩
              · rw [HTN.out]; simp
              · simp
              · rw [HTN.out]; exact hs
              · rw [HTN.out, mine_app, mine_app, hmi]
              · intro a ha
                rcases List.mem_append.1 ha with h | h
                · exact HME2.out a h
                · rw [List.mem_singleton.1 h]; exact .inl HXR.out
              · simp; omega
          · go_wp2_with fail
            refine ⟨(HAT2.out.alloc _).drew, ?_⟩
            refine wpPl_do (by rfl) (fun K hK => ?_)
            go_wp2_with fail
            refine ⟨((HAT2.out.alloc _).alloc _).drew, ?_⟩
            refine wpPl_do (by rfl) (fun K hK => ?_)
            refine wp_append_act (.tmp 78) (.tmp 80) rfl W.heap.size (.slice xa XL.length xc) XL.length XL rfl (((HS2.out.alloc _).alloc _).drew).ox (wc.heap.size + 1) ⟨3, t1, f1, n1, ⟨.slice pa pl pc, ol1, s1, d1, g1, sk1, fd1⟩, m1, i1, y1, v1, u1⟩ rfl (show At ((wc.alloc (.cells #[.int .i64 3, .int .i64 t1, .int .i64 f1, .int .i64 n1, .slice pa pl pc, .int .i64 s1, .int .i64 d1, .int .i64 g1, .int .i64 sk1, .int .i64 fd1, .bool m1, .int .i64 i1, .int .i64 y1, .int .i64 v1, .int .u64 u1] 31)).alloc (.cells #[.int .i64 3, .int .i64 t1, .int .i64 f1, .int .i64 n1, .slice pa pl pc, .int .i64 s1, .int .i64 d1, .int .i64 g1, .int .i64 sk1, .int .i64 fd1, .bool m1, .int .i64 i1, .int .i64 y1, .int .i64 v1, .int .u64 u1] 31)) (wc.heap.size + 1) [.int .i64 3, .int .i64 t1, .int .i64 f1, .int .i64 n1, .slice pa pl pc, .int .i64 s1, .int .i64 d1, .int .i64 g1, .int .i64 sk1, .int .i64 fd1, .bool m1, .int .i64 i1, .int .i64 y1, .int .i64 v1, .int .u64 u1] from by have := At.new (wc.alloc (.cells #[.int .i64 3, .int .i64 t1, .int .i64 f1, .int .i64 n1, .slice pa pl pc, .int .i64 s1, .int .i64 d1, .int .i64 g1, .int .i64 sk1, .int .i64 fd1, .bool m1, .int .i64 i1, .int .i64 y1, .int .i64 v1, .int .u64 u1] 31)) #[.int .i64 3, .int .i64 t1, .int .i64 f1, .int .i64 n1, .slice pa pl pc, .int .i64 s1, .int .i64 d1, .int .i64 g1, .int .i64 sk1, .int .i64 fd1, .bool m1, .int .i64 i1, .int .i64 y1, .int .i64 v1, .int .u64 u1] 31; rwa [show (wc.alloc (.cells #[.int .i64 3, .int .i64 t1, .int .i64 f1, .int .i64 n1, .slice pa pl pc, .int .i64 s1, .int .i64 d1, .int .i64 g1, .int .i64 sk1, .int .i64 fd1, .bool m1, .int .i64 i1, .int .i64 y1, .int .i64 v1, .int .u64 u1] 31)).heap.size = wc.heap.size + 1 by simp] at this).drew (HOKx.out _ (((HS2.out.alloc _).alloc _).drew).bl) (by omega) (((HS2.out.alloc _).alloc _).drew).bl.size ?_
            intro v' w8 e1 e2 e4
            have HS8 := Lib.hid ((((HS2.out.alloc _).alloc _).drew).growX e1 e2 e4)
            have HA8 := Lib.hid ((((HAT2.out.alloc _).alloc _).drew).grown e2 (fun k hk e => HNX2.out (by rw [hk, e])))
            have HBB := Lib.hid ((((At.new wc #[.int .i64 3, .int .i64 t1, .int .i64 f1, .int .i64 n1, .slice pa pl pc, .int .i64 s1, .int .i64 d1, .int .i64 g1, .int .i64 sk1, .int .i64 fd1, .bool m1, .int .i64 i1, .int .i64 y1, .int .i64 v1, .int .u64 u1] 31).alloc (.cells #[.int .i64 3, .int .i64 t1, .int .i64 f1, .int .i64 n1, .slice pa pl pc, .int .i64 s1, .int .i64 d1, .int .i64 g1, .int .i64 sk1, .int .i64 fd1, .bool m1, .int .i64 i1, .int .i64 y1, .int .i64 v1, .int .u64 u1] 31)).drew).grown e2 (fun k hk e => by have := (HS2.out.ox.lt k hk).2; omega))
            clear e1 e2 e4
            refine hK _ _ ⟨HA8.out, ?_⟩
            simp only [Act.put, List.setIfInBounds_toArray, List.set_cons_zero, List.set_cons_succ]
            refine wpPl_do (by rfl) (fun K hK => ?_)
            refine wp_append_act (.tmp 82) (.tmp 84) rfl W.heap.size (.slice ya Y.length yc) Y.length Y rfl HS8.out.oy wc.heap.size ⟨3, t1, f1, n1, ⟨.slice pa pl pc, ol1, s1, d1, g1, sk1, fd1⟩, m1, i1, y1, v1, u1⟩ rfl HBB.out (HOKx.out _ HS8.out.bl) (by omega) HS8.out.bl.size ?_
            intro v'' w9 e1 e2 e4
            have HSF := Lib.hid (HS8.out.growY e1 e2 e4)
            have HAF := Lib.hid (HA8.out.grown e2 (fun k hk e => HNY2.out (by rw [hk, e])))
            clear e1 e2 e4
            obtain ⟨xa9, xc9, rfl⟩ := HSF.out.shapeX
            obtain ⟨ya9, yc9, rfl⟩ := HSF.out.shapeY
            refine hK _ _ ⟨HAF.out, ?_⟩
            simp only [Act.put, List.setIfInBounds_toArray, List.set_cons_zero, List.set_cons_succ]
            iterate 2 (refine wpPl_take (v := ?_) (by rfl) (fun w' hS => ?_) ?_; rotate_left; (focus (go_simp; with_reducible rfl)); simp only [Act.put, List.setIfInBounds_toArray, List.set_cons_zero, List.set_cons_succ])
            refine wpPl_done ?_
            go_wp2_with fail
            go_roundg (m - (i + 1))
            case measure => omega
            case rel =>
              have hs := HSF.out
              have hmi := HMI2.out
              refine ⟨i + 1, jj, xa9, xc9, ya9, yc9, Y ++ [⟨3, t1, f1, n1, ⟨.slice pa pl pc, ol1, s1, d1, g1, sk1, fd1⟩, m1, i1, y1, v1, u1⟩], by omega, rfl, ?_, ?_, rfl, by go_num, ?_, ?_, ?_, ?_, hjj⟩
              · rw [HTN.out]; simp
              · simp
              · rw [HTN.out]; exact hs
              · rw [HTN.out, mine_app, mine_app, hmi]
              · intro a ha
                rcases List.mem_append.1 ha with h | h
                · exact HME2.out a h
                · rw [List.mem_singleton.1 h]; exact .inl HXR.out
              · simp; omega
      · have hk3' : (k1 == 3) = false := by simp [hk3]
        have hk32 : (k1 != 3) = true := by simp [hk3]
        by_cases htt : t1 = t
        · have HQ := Lib.hid (mine_yes (t := t) (x := ⟨k1, t1, f1, n1, ⟨.slice pa pl pc, ol1, s1, d1, g1, sk1, fd1⟩, m1, i1, y1, v1, u1⟩) (.inr htt))
          subst htt
          go_upto_block 2 with fail
          obtain ⟨b, hb⟩ : ∃ b, b = wr.heap.size := ⟨_, rfl⟩
          rw [← hb]
          have HS1 := Lib.hid (HST.out.alloc (.cells #[.int .i64 k1, .int .i64 t1, .int .i64 f1, .int .i64 n1, .slice pa pl pc, .int .i64 s1, .int .i64 d1, .int .i64 g1, .int .i64 sk1, .int .i64 fd1, .bool m1, .int .i64 i1, .int .i64 y1, .int .i64 v1, .int .u64 u1] 31))
          have HA1 := Lib.hid (show At (wr.alloc (.cells #[.int .i64 k1, .int .i64 t1, .int .i64 f1, .int .i64 n1, .slice pa pl pc, .int .i64 s1, .int .i64 d1, .int .i64 g1, .int .i64 sk1, .int .i64 fd1, .bool m1, .int .i64 i1, .int .i64 y1, .int .i64 v1, .int .u64 u1] 31)) b [.int .i64 k1, .int .i64 t1, .int .i64 f1, .int .i64 n1, .slice pa pl pc, .int .i64 s1, .int .i64 d1, .int .i64 g1, .int .i64 sk1, .int .i64 fd1, .bool m1, .int .i64 i1, .int .i64 y1, .int .i64 v1, .int .u64 u1] from hb ▸ At.new wr _ _)
          have HNX := Lib.hid (show (Value.slice xa XL.length xc).ownBlock ≠ some b from HST.out.neX (by omega))
          have HNY := Lib.hid (show (Value.slice ya Y.length yc).ownBlock ≠ some b from HST.out.neY (by omega))
          have hbW : W.heap.size ≤ b := by omega
          clear hb
          go_cut [11, 12] (fun s11 s12 wx => ∃ (jj : Nat) (ya : Option Addr) (yc : Nat) (Y : List ActV), s11 = .slice ya Y.length yc ∧ s12 = .int .i64 jj ∧ jj ≤ M.length ∧ Y.length ≤ i + jj ∧ St W wx (.slice xa XL.length xc) (.slice ya Y.length yc) XL Y ∧ mine t1 Y = mine t1 XL ∧ (∀ a ∈ Y, a ∈ R ∨ a ∈ M) ∧ At wx b [.int .i64 k1, .int .i64 t1, .int .i64 f1, .int .i64 n1, .slice pa pl pc, .int .i64 s1, .int .i64 d1, .int .i64 g1, .int .i64 sk1, .int .i64 fd1, .bool m1, .int .i64 i1, .int .i64 y1, .int .i64 v1, .int .u64 u1] ∧ (Value.slice xa XL.length xc).ownBlock ≠ some b ∧ (Value.slice ya Y.length yc).ownBlock ≠ some b)
          case first =>
            go_wp2_with fail
            go_loopg [11, 12] (M.length - j) (fun g v11 v12 wx => ∃ (jj : Nat) (ya : Option Addr) (yc : Nat) (Y : List ActV), v11 = .slice ya Y.length yc ∧ v12 = .int .i64 jj ∧ jj ≤ M.length ∧ g = M.length - jj ∧ Y.length ≤ i + jj ∧ St W wx (.slice xa XL.length xc) (.slice ya Y.length yc) XL Y ∧ mine t1 Y = mine t1 XL ∧ (∀ a ∈ Y, a ∈ R ∨ a ∈ M) ∧ At wx b [.int .i64 k1, .int .i64 t1, .int .i64 f1, .int .i64 n1, .slice pa pl pc, .int .i64 s1, .int .i64 d1, .int .i64 g1, .int .i64 sk1, .int .i64 fd1, .bool m1, .int .i64 i1, .int .i64 y1, .int .i64 v1, .int .u64 u1] ∧ (Value.slice xa XL.length xc).ownBlock ≠ some b ∧ (Value.slice ya Y.length yc).ownBlock ≠ some b)
            case atStart => exact ⟨j, ya, yc, Y, rfl, rfl, hj, rfl, hY, HS1.out, HMI.out, HME.out, HA1.out, HNX.out, HNY.out⟩
            case round =>
              clear HS1 HA1 HNX HNY HST
              obtain ⟨jj, ya, yc, Y, rfl, rfl, hjj, rfl, hYY, hst, hmi, hme, hat, hnx, hny⟩ := hrel
              have HS2 := Lib.hid hst
              have HMI2 := Lib.hid hmi
              have HME2 := Lib.hid hme
              have HAT2 := Lib.hid hat
              have HNX2 := Lib.hid hnx
              have HNY2 := Lib.hid hny
              have hz2 := hst.bl.size
              have hbl := hat.lt
              clear hst hmi hme hat hnx hny
              by_cases hj1 : jj < M.length
              · by_cases hj2 : jj < 2 * XL.length + 2
                · obtain ⟨rfl, hmb⟩ := HM3.out (by omega)
                  obtain ⟨z, hzx⟩ : ∃ z, M[jj]? = some z := ⟨M[jj], by simp [hj1]⟩
                  have HZM := Lib.hid (List.mem_of_getElem? hzx)
                  have HZO := Lib.hid ((HK2.out z (List.mem_of_getElem? hzx)).kept HS2.out.bl)
                  have HZC := Lib.hid (fun (j : Nat) (u : Value) (hj : z.cs[j]? = some u) => (HS2.out.bl.cell (p := ⟨mb, mo + jj * 15 + j, none⟩) hmb).trans (HM4.out jj z hzx j u hj))
                  clear hzx
                  have hsl : ∃ pa pl pc, z.pipe.ops = .slice pa pl pc := by
                    obtain ⟨pa, pc, hv, _⟩ := HZO.out
                    exact ⟨pa, _, pc, hv⟩
                  obtain ⟨zpa, zpl, zpc, hsl⟩ := hsl
                  obtain ⟨zk1, zt1, zf1, zn1, ⟨zp1, zol1, zs1, zd1, zg1, zsk1, zfd1⟩, zm1, zi1, zy1, zv1, zu1⟩ := z
                  simp only at hsl
                  subst hsl
                  have e0 := HZC.out 0 _ rfl
                  have e1 := HZC.out 1 _ rfl
                  have e2 := HZC.out 2 _ rfl
                  have e3 := HZC.out 3 _ rfl
                  have e4 := HZC.out 4 _ rfl
                  have e5 := HZC.out 5 _ rfl
                  have e6 := HZC.out 6 _ rfl
                  have e7 := HZC.out 7 _ rfl
                  have e8 := HZC.out 8 _ rfl
                  have e9 := HZC.out 9 _ rfl
                  have e10 := HZC.out 10 _ rfl
                  have e11 := HZC.out 11 _ rfl
                  have e12 := HZC.out 12 _ rfl
                  have e13 := HZC.out 13 _ rfl
                  have e14 := HZC.out 14 _ rfl
                  simp only [Nat.add_zero] at e0

                  clear HZC
                  by_cases hz3 : zk1 = 3
                  · subst hz3
                    go_wp2_with fail
                    go_roundg (M.length - (jj + 1))
                    case measure => omega
                    case rel => exact ⟨jj + 1, ya, yc, Y, rfl, by go_num, by omega, rfl, by omega, HS2.out, HMI2.out, HME2.out, HAT2.out, HNX2.out, HNY2.out⟩
                  · have hz3' : (zk1 == 3) = false := by simp [hz3]
                    have hz32 : (zk1 != 3) = true := by simp [hz3]
                    by_cases hzt : zt1 = t1
                    · subst hzt
                      go_wp2_with fail
                      go_roundg (M.length - (jj + 1))
                      case measure => omega
                      case rel => exact ⟨jj + 1, ya, yc, Y, rfl, by go_num, by omega, rfl, by omega, HS2.out, HMI2.out, HME2.out, HAT2.out, HNX2.out, HNY2.out⟩
                    · have hzt' : (zt1 == t1) = false := by simp [hzt]
                      have hzt2 : (zt1 != t1) = true := by simp [hzt]
                      have HQZ := Lib.hid (mine_no (t := t1) (x := ⟨zk1, zt1, zf1, zn1, ⟨.slice zpa zpl zpc, zol1, zs1, zd1, zg1, zsk1, zfd1⟩, zm1, zi1, zy1, zv1, zu1⟩) (fun h => h.elim hz3 hzt))
                      have hYl : Y.length ≤ 80 := by omega
                      go_wp2_with (at_builtin; refine wpList_append_own_at _ rfl (.tmp 71) (.tmp 76) 32 rfl W.heap.size 31 i0 _ 15 136 Try.underlying32 HI.out.1 HI.out.2.1 HI.out.2.2.1 HI.out.2.2.2 rfl (by decide) (.slice ya Y.length yc) Y.length (cellsA Y) rfl (HS2.out.alloc _).oy ⟨wr.heap.size, 0, none⟩ 1 1 [.int .i64 zk1, .int .i64 zt1, .int .i64 zf1, .int .i64 zn1, .slice zpa zpl zpc, .int .i64 zs1, .int .i64 zd1, .int .i64 zg1, .int .i64 zsk1, .int .i64 zfd1, .bool zm1, .int .i64 zi1, .int .i64 zy1, .int .i64 zv1, .int .u64 zu1] rfl rfl (row_cells _ _ _) (by simp [Value.oneCell']) (by unfold maxLen; omega) (by omega) (by simp; omega) ?_; intro v' w5 q1 q2 _ q4; have HS5 := Lib.hid ((HS2.out.alloc _).growY (a := ⟨zk1, zt1, zf1, zn1, ⟨.slice zpa zpl zpc, zol1, zs1, zd1, zg1, zsk1, zfd1⟩, zm1, zi1, zy1, zv1, zu1⟩) (by rw [cellsA_snoc]; exact q1) q2 q4); have HA5 := Lib.hid ((HAT2.out.alloc _).grown q2 (fun k hk e => HNY2.out (by rw [hk, e]))); have HN5 := Lib.hid (show v'.ownBlock ≠ some b from fun e => by rcases q4 with h | h; exact HNY2.out (h ▸ e); rw [h] at e; simp at e; omega); clear q1 q2 q4; obtain ⟨ya5, yc5, rfl⟩ := HS5.out.shapeY)
                      go_roundg (M.length - (jj + 1))
                      case measure => omega
                      case rel =>
                        refine ⟨jj + 1, ya5, yc5, Y ++ [⟨zk1, zt1, zf1, zn1, ⟨.slice zpa zpl zpc, zol1, zs1, zd1, zg1, zsk1, zfd1⟩, zm1, zi1, zy1, zv1, zu1⟩], by simp, by go_num, by omega, rfl, by simp; omega, HS5.out, by rw [mine_app, HQZ.out, List.append_nil]; exact HMI2.out, fun a ha => ?_, HA5.out, HNX2.out, HN5.out⟩
                        rcases List.mem_append.1 ha with h | h
                        · exact HME2.out a h
                        · rw [List.mem_singleton.1 h]; exact .inr HZM.out
                · go_wp2_with fail
                  go_meet
                  case rel => exact ⟨jj, ya, yc, Y, rfl, rfl, hjj, hYY, HS2.out, HMI2.out, HME2.out, HAT2.out, HNX2.out, HNY2.out⟩
              · go_wp2_with fail
                go_meet
                case rel => exact ⟨jj, ya, yc, Y, rfl, rfl, hjj, hYY, HS2.out, HMI2.out, HME2.out, HAT2.out, HNX2.out, HNY2.out⟩
          case rest =>
            clear HS1 HA1 HNX HNY HST
            obtain ⟨jj, ya, yc, Y, rfl, rfl, hjj, hYY, hst, hmi, hme, hat, hnx, hny⟩ := hcut
            have HS2 := Lib.hid hst
            have HMI2 := Lib.hid hmi
            have HME2 := Lib.hid hme
            have HAT2 := Lib.hid hat
            have HNX2 := Lib.hid hnx
            have HNY2 := Lib.hid hny
            have hbl := hat.lt
            have hYl : Y.length ≤ 80 := by omega
            have HOKx := Lib.hid (fun (w : World) (hb : Below W.heap.size W w) => (HK1.out _ HXR.out).kept hb)
            clear hst hmi hme hat hnx hny
            go_wp2_with fail
            refine wp_region_pl (fun x => At x b [.int .i64 k1, .int .i64 t1, .int .i64 f1, .int .i64 n1, .slice pa pl pc, .int .i64 s1, .int .i64 d1, .int .i64 g1, .int .i64 sk1, .int .i64 fd1, .bool m1, .int .i64 i1, .int .i64 y1, .int .i64 v1, .int .u64 u1]) (.take 0 <| .take 1 <| .take 4 <| .take 5 <| .fork 2 (.two 3 6 <| .doo 7 <| .take 8 <| .take 9 <| .done) 6 (.doo 2 <| .doo 3 <| .doo 7 <| .take 8 <| .take 9 <| .done)) ?plL14B (by kernel_rfl) (by kernel_rfl) (by kernel_rfl) ?plH14B (by intro c a d v w; cases d <;> exact fun h => h) HAT2.out.drew ?_
            case plH14B =>
              simp only [Pl.with, List.getElem?_toArray, List.getElem?_cons_zero, List.getElem?_cons_succ]
              try rfl
            iterate 1 (refine wpPl_take (v := ?_) (by rfl) (fun w' hS => ?_) ?_; rotate_left; (focus (go_simp; with_reducible rfl)); simp only [Act.put, List.setIfInBounds_toArray, List.set_cons_zero, List.set_cons_succ])
            refine wpPl_take (v := .agg #[.int .i64 k1, .int .i64 t1, .int .i64 f1, .int .i64 n1, .slice pa pl pc, .int .i64 s1, .int .i64 d1, .int .i64 g1, .int .i64 sk1, .int .i64 fd1, .bool m1, .int .i64 i1, .int .i64 y1, .int .i64 v1, .int .u64 u1]) (by rfl) (fun w' hS => load31 w' _ _ _ b 0 ⟨k1, t1, f1, n1, ⟨.slice pa pl pc, ol1, s1, d1, g1, sk1, fd1⟩, m1, i1, y1, v1, u1⟩ rfl (fun j u hj => by rw [Nat.zero_add]; exact hS.c j u hj)) ?_
            simp only [Act.put, List.setIfInBounds_toArray, List.set_cons_zero, List.set_cons_succ]
            iterate 1 (refine wpPl_take (v := ?_) (by rfl) (fun w' hS => ?_) ?_; rotate_left; (focus (go_simp; with_reducible rfl)); simp only [Act.put, List.setIfInBounds_toArray, List.set_cons_zero, List.set_cons_succ])
            refine wpPl_take (v := .agg #[.int .i64 k1, .int .i64 t1, .int .i64 f1, .int .i64 n1, .slice pa pl pc, .int .i64 s1, .int .i64 d1, .int .i64 g1, .int .i64 sk1, .int .i64 fd1, .bool m1, .int .i64 i1, .int .i64 y1, .int .i64 v1, .int .u64 u1]) (by rfl) (fun w' hS => load31 w' _ _ _ b 0 ⟨k1, t1, f1, n1, ⟨.slice pa pl pc, ol1, s1, d1, g1, sk1, fd1⟩, m1, i1, y1, v1, u1⟩ rfl (fun j u hj => by rw [Nat.zero_add]; exact hS.c j u hj)) ?_
            simp only [Act.put, List.setIfInBounds_toArray, List.set_cons_zero, List.set_cons_succ]
            have HSd := Lib.hid HS2.out.drew
            refine wpPl_fork (by rfl) (by rfl) (fun K hK => ?_) (fun K hK => ?_)
            · go_wp2_with fail
              refine ⟨(HAT2.out.alloc _).drew, ?_⟩
              refine wpPl_two (fun u v y => St W y u (.slice ya Y.length yc) (XL ++ [⟨k1, t1, f1, n1, ⟨.slice pa pl pc, ol1, s1, d1, g1, sk1, fd1⟩, m1, i1, y1, v1, u1⟩]) Y ∧ ∃ bb : Nat, v = .slice (some ⟨bb, 0, none⟩) 1 1 ∧ At y bb [.int .i64 k1, .int .i64 t1, .int .i64 f1, .int .i64 n1, .slice pa pl pc, .int .i64 s1, .int .i64 d1, .int .i64 g1, .int .i64 sk1, .int .i64 fd1, .bool m1, .int .i64 i1, .int .i64 y1, .int .i64 v1, .int .u64 u1]) (by rfl) (by rfl) (by rintro d ⟨⟩; decide) (fun K hK => ?_) (fun K hK => ?_) ?_
              · refine wp_append_act (.tmp 78) (.tmp 80) rfl W.heap.size (.slice xa XL.length xc) XL.length XL rfl ((HS2.out.alloc _).drew).ox wc.heap.size ⟨k1, t1, f1, n1, ⟨.slice pa pl pc, ol1, s1, d1, g1, sk1, fd1⟩, m1, i1, y1, v1, u1⟩ rfl (At.new wc _ _).drew (HOKx.out _ ((HS2.out.alloc _).drew).bl) (by omega) ((HS2.out.alloc _).drew).bl.size ?_
                intro v' w' e1 e2 e4
                have HS3 := Lib.hid (((HS2.out.alloc _).drew).growX e1 e2 e4)
                have HA3 := Lib.hid (((HAT2.out.alloc _).drew).grown e2 (fun k hk e => HNX2.out (by rw [hk, e])))
                clear e1 e2 e4
                refine hK _ _ ⟨HA3.out, _, rfl, wpOne_do (by rfl) (fun K hK => ?_)⟩
                simp only [Act.put, List.setIfInBounds_toArray, List.set_cons_zero, List.set_cons_succ]
                go_wp2_with fail
                first
                  | exact ⟨HA3.out.alloc _, HS3.out.alloc _, At.new w' _ _⟩
                  | exact ⟨HA3.out.alloc _, HS3.out.alloc _, w'.heap.size, rfl, At.new w' _ _⟩
                  | exact ⟨HA3.out.alloc _, _, rfl, HS3.out.alloc _, w'.heap.size, rfl, At.new w' _ _⟩
              · go_wp2_with fail
                refine ⟨((HAT2.out.alloc _).alloc _).drew, wpOne_do (by rfl) (fun K hK => ?_)⟩
                refine wp_append_act (.tmp 78) (.tmp 80) rfl W.heap.size (.slice xa XL.length xc) XL.length XL rfl (((HS2.out.alloc _).alloc _).drew).ox wc.heap.size ⟨k1, t1, f1, n1, ⟨.slice pa pl pc, ol1, s1, d1, g1, sk1, fd1⟩, m1, i1, y1, v1, u1⟩ rfl ((At.new wc _ _).alloc _).drew (HOKx.out _ (((HS2.out.alloc _).alloc _).drew).bl) (by omega) (((HS2.out.alloc _).alloc _).drew).bl.size ?_
                intro v' w' e1 e2 e4
                have HS3 := Lib.hid ((((HS2.out.alloc _).alloc _).drew).growX e1 e2 e4)
                have HA3 := Lib.hid ((((HAT2.out.alloc _).alloc _).drew).grown e2 (fun k hk e => HNX2.out (by rw [hk, e])))
                have HB3 := Lib.hid (((show At ((wc.alloc (.cells #[.int .i64 k1, .int .i64 t1, .int .i64 f1, .int .i64 n1, .slice pa pl pc, .int .i64 s1, .int .i64 d1, .int .i64 g1, .int .i64 sk1, .int .i64 fd1, .bool m1, .int .i64 i1, .int .i64 y1, .int .i64 v1, .int .u64 u1] 31)).alloc (.cells #[.int .i64 k1, .int .i64 t1, .int .i64 f1, .int .i64 n1, .slice pa pl pc, .int .i64 s1, .int .i64 d1, .int .i64 g1, .int .i64 sk1, .int .i64 fd1, .bool m1, .int .i64 i1, .int .i64 y1, .int .i64 v1, .int .u64 u1] 31)) (wc.heap.size + 1) [.int .i64 k1, .int .i64 t1, .int .i64 f1, .int .i64 n1, .slice pa pl pc, .int .i64 s1, .int .i64 d1, .int .i64 g1, .int .i64 sk1, .int .i64 fd1, .bool m1, .int .i64 i1, .int .i64 y1, .int .i64 v1, .int .u64 u1] from by have := At.new (wc.alloc (.cells #[.int .i64 k1, .int .i64 t1, .int .i64 f1, .int .i64 n1, .slice pa pl pc, .int .i64 s1, .int .i64 d1, .int .i64 g1, .int .i64 sk1, .int .i64 fd1, .bool m1, .int .i64 i1, .int .i64 y1, .int .i64 v1, .int .u64 u1] 31)) #[.int .i64 k1, .int .i64 t1, .int .i64 f1, .int .i64 n1, .slice pa pl pc, .int .i64 s1, .int .i64 d1, .int .i64 g1, .int .i64 sk1, .int .i64 fd1, .bool m1, .int .i64 i1, .int .i64 y1, .int .i64 v1, .int .u64 u1] 31; rwa [show (wc.alloc (.cells #[.int .i64 k1, .int .i64 t1, .int .i64 f1, .int .i64 n1, .slice pa pl pc, .int .i64 s1, .int .i64 d1, .int .i64 g1, .int .i64 sk1, .int .i64 fd1, .bool m1, .int .i64 i1, .int .i64 y1, .int .i64 v1, .int .u64 u1] 31)).heap.size = wc.heap.size + 1 by simp] at this).drew).grown e2 (fun k hk e => by have := (HS2.out.ox.lt k hk).2; omega))
                clear e1 e2 e4
                refine hK _ _ ?_
                first
                  | exact ⟨HA3.out, _, rfl, HS3.out, HB3.out⟩
                  | exact ⟨HA3.out, _, rfl, HS3.out, wc.heap.size + 1, rfl, HB3.out⟩
                  | exact ⟨HA3.out, HS3.out, HB3.out⟩
                  | exact ⟨HA3.out, HS3.out, wc.heap.size + 1, rfl, HB3.out⟩
              rintro u v w8 ⟨hst, bb, rfl, hbb⟩ hS8
              have HS8 := Lib.hid hst
              have HBB := Lib.hid hbb
              have HA8 := Lib.hid hS8
              clear hst hbb hS8
              simp only [Act.put, List.setIfInBounds_toArray, List.set_cons_zero, List.set_cons_succ]
              refine wpPl_do (by rfl) (fun K hK => ?_)
              refine wp_append_act (.tmp 82) (.tmp 84) rfl W.heap.size (.slice ya Y.length yc) Y.length Y rfl HS8.out.oy bb ⟨k1, t1, f1, n1, ⟨.slice pa pl pc, ol1, s1, d1, g1, sk1, fd1⟩, m1, i1, y1, v1, u1⟩ rfl HBB.out (HOKx.out _ HS8.out.bl) (by omega) HS8.out.bl.size ?_
              intro v' w9 e1 e2 e4
              have HSF := Lib.hid (HS8.out.growY e1 e2 e4)
              have HAF := Lib.hid (HA8.out.grown e2 (fun k hk e => HNY2.out (by rw [hk, e])))
              clear e1 e2 e4
              obtain ⟨xa9, xc9, rfl⟩ := HSF.out.shapeX
              obtain ⟨ya9, yc9, rfl⟩ := HSF.out.shapeY
              refine hK _ _ ⟨HAF.out, ?_⟩
              simp only [Act.put, List.setIfInBounds_toArray, List.set_cons_zero, List.set_cons_succ]
              iterate 2 (refine wpPl_take (v := ?_) (by rfl) (fun w' hS => ?_) ?_; rotate_left; (focus (go_simp; with_reducible rfl)); simp only [Act.put, List.setIfInBounds_toArray, List.set_cons_zero, List.set_cons_succ])
              refine wpPl_done ?_
              go_wp2_with fail
              go_roundg (m - (i + 1))
              case measure => omega
              case rel =>
                have hs := HSF.out
                have hmi := HMI2.out
                refine ⟨i + 1, jj, xa9, xc9, ya9, yc9, Y ++ [⟨k1, t1, f1, n1, ⟨.slice pa pl pc, ol1, s1, d1, g1, sk1, fd1⟩, m1, i1, y1, v1, u1⟩], by omega, rfl, ?_, ?_, rfl, by go_num, ?_, ?_, ?_, ?_, hjj⟩
                · rw [HTN.out]; simp
                · simp
                · rw [HTN.out]; exact hs
                · rw [HTN.out, mine_app, mine_app, hmi]
                · intro a ha
                  rcases List.mem_append.1 ha with h | h
                  · exact HME2.out a h
                  · rw [List.mem_singleton.1 h]; exact .inl HXR.out
                · simp; omega
            · go_wp2_with fail
              refine ⟨(HAT2.out.alloc _).drew, ?_⟩
              refine wpPl_do (by rfl) (fun K hK => ?_)
              go_wp2_with fail
              refine ⟨((HAT2.out.alloc _).alloc _).drew, ?_⟩
              refine wpPl_do (by rfl) (fun K hK => ?_)
              refine wp_append_act (.tmp 78) (.tmp 80) rfl W.heap.size (.slice xa XL.length xc) XL.length XL rfl (((HS2.out.alloc _).alloc _).drew).ox (wc.heap.size + 1) ⟨k1, t1, f1, n1, ⟨.slice pa pl pc, ol1, s1, d1, g1, sk1, fd1⟩, m1, i1, y1, v1, u1⟩ rfl (show At ((wc.alloc (.cells #[.int .i64 k1, .int .i64 t1, .int .i64 f1, .int .i64 n1, .slice pa pl pc, .int .i64 s1, .int .i64 d1, .int .i64 g1, .int .i64 sk1, .int .i64 fd1, .bool m1, .int .i64 i1, .int .i64 y1, .int .i64 v1, .int .u64 u1] 31)).alloc (.cells #[.int .i64 k1, .int .i64 t1, .int .i64 f1, .int .i64 n1, .slice pa pl pc, .int .i64 s1, .int .i64 d1, .int .i64 g1, .int .i64 sk1, .int .i64 fd1, .bool m1, .int .i64 i1, .int .i64 y1, .int .i64 v1, .int .u64 u1] 31)) (wc.heap.size + 1) [.int .i64 k1, .int .i64 t1, .int .i64 f1, .int .i64 n1, .slice pa pl pc, .int .i64 s1, .int .i64 d1, .int .i64 g1, .int .i64 sk1, .int .i64 fd1, .bool m1, .int .i64 i1, .int .i64 y1, .int .i64 v1, .int .u64 u1] from by have := At.new (wc.alloc (.cells #[.int .i64 k1, .int .i64 t1, .int .i64 f1, .int .i64 n1, .slice pa pl pc, .int .i64 s1, .int .i64 d1, .int .i64 g1, .int .i64 sk1, .int .i64 fd1, .bool m1, .int .i64 i1, .int .i64 y1, .int .i64 v1, .int .u64 u1] 31)) #[.int .i64 k1, .int .i64 t1, .int .i64 f1, .int .i64 n1, .slice pa pl pc, .int .i64 s1, .int .i64 d1, .int .i64 g1, .int .i64 sk1, .int .i64 fd1, .bool m1, .int .i64 i1, .int .i64 y1, .int .i64 v1, .int .u64 u1] 31; rwa [show (wc.alloc (.cells #[.int .i64 k1, .int .i64 t1, .int .i64 f1, .int .i64 n1, .slice pa pl pc, .int .i64 s1, .int .i64 d1, .int .i64 g1, .int .i64 sk1, .int .i64 fd1, .bool m1, .int .i64 i1, .int .i64 y1, .int .i64 v1, .int .u64 u1] 31)).heap.size = wc.heap.size + 1 by simp] at this).drew (HOKx.out _ (((HS2.out.alloc _).alloc _).drew).bl) (by omega) (((HS2.out.alloc _).alloc _).drew).bl.size ?_
              intro v' w8 e1 e2 e4
              have HS8 := Lib.hid ((((HS2.out.alloc _).alloc _).drew).growX e1 e2 e4)
              have HA8 := Lib.hid ((((HAT2.out.alloc _).alloc _).drew).grown e2 (fun k hk e => HNX2.out (by rw [hk, e])))
              have HBB := Lib.hid ((((At.new wc #[.int .i64 k1, .int .i64 t1, .int .i64 f1, .int .i64 n1, .slice pa pl pc, .int .i64 s1, .int .i64 d1, .int .i64 g1, .int .i64 sk1, .int .i64 fd1, .bool m1, .int .i64 i1, .int .i64 y1, .int .i64 v1, .int .u64 u1] 31).alloc (.cells #[.int .i64 k1, .int .i64 t1, .int .i64 f1, .int .i64 n1, .slice pa pl pc, .int .i64 s1, .int .i64 d1, .int .i64 g1, .int .i64 sk1, .int .i64 fd1, .bool m1, .int .i64 i1, .int .i64 y1, .int .i64 v1, .int .u64 u1] 31)).drew).grown e2 (fun k hk e => by have := (HS2.out.ox.lt k hk).2; omega))
              clear e1 e2 e4
              refine hK _ _ ⟨HA8.out, ?_⟩
              simp only [Act.put, List.setIfInBounds_toArray, List.set_cons_zero, List.set_cons_succ]
              refine wpPl_do (by rfl) (fun K hK => ?_)
              refine wp_append_act (.tmp 82) (.tmp 84) rfl W.heap.size (.slice ya Y.length yc) Y.length Y rfl HS8.out.oy wc.heap.size ⟨k1, t1, f1, n1, ⟨.slice pa pl pc, ol1, s1, d1, g1, sk1, fd1⟩, m1, i1, y1, v1, u1⟩ rfl HBB.out (HOKx.out _ HS8.out.bl) (by omega) HS8.out.bl.size ?_
              intro v'' w9 e1 e2 e4
              have HSF := Lib.hid (HS8.out.growY e1 e2 e4)
              have HAF := Lib.hid (HA8.out.grown e2 (fun k hk e => HNY2.out (by rw [hk, e])))
              clear e1 e2 e4
              obtain ⟨xa9, xc9, rfl⟩ := HSF.out.shapeX
              obtain ⟨ya9, yc9, rfl⟩ := HSF.out.shapeY
              refine hK _ _ ⟨HAF.out, ?_⟩
              simp only [Act.put, List.setIfInBounds_toArray, List.set_cons_zero, List.set_cons_succ]
              iterate 2 (refine wpPl_take (v := ?_) (by rfl) (fun w' hS => ?_) ?_; rotate_left; (focus (go_simp; with_reducible rfl)); simp only [Act.put, List.setIfInBounds_toArray, List.set_cons_zero, List.set_cons_succ])
              refine wpPl_done ?_
              go_wp2_with fail
              go_roundg (m - (i + 1))
              case measure => omega
              case rel =>
                have hs := HSF.out
                have hmi := HMI2.out
                refine ⟨i + 1, jj, xa9, xc9, ya9, yc9, Y ++ [⟨k1, t1, f1, n1, ⟨.slice pa pl pc, ol1, s1, d1, g1, sk1, fd1⟩, m1, i1, y1, v1, u1⟩], by omega, rfl, ?_, ?_, rfl, by go_num, ?_, ?_, ?_, ?_, hjj⟩
                · rw [HTN.out]; simp
                · simp
                · rw [HTN.out]; exact hs
                · rw [HTN.out, mine_app, mine_app, hmi]
                · intro a ha
                  rcases List.mem_append.1 ha with h | h
                  · exact HME2.out a h
                  · rw [List.mem_singleton.1 h]; exact .inl HXR.out
                · simp; omega
        · have HQ := Lib.hid (mine_no (t := t) (x := ⟨k1, t1, f1, n1, ⟨.slice pa pl pc, ol1, s1, d1, g1, sk1, fd1⟩, m1, i1, y1, v1, u1⟩) (fun h => h.elim hk3 htt))
          have htt' : (t1 == t) = false := by simp [htt]
          have htt2 : (t1 != t) = true := by simp [htt]
          go_wp2_with (at_builtin; refine wpList_append_own_at _ rfl (.tmp 30) (.tmp 32) 32 rfl W.heap.size 31 i0 _ 15 136 Try.underlying32 HI.out.1 HI.out.2.1 HI.out.2.2.1 HI.out.2.2.2 rfl (by decide) (.slice xa XL.length xc) XL.length (cellsA XL) rfl ((HST.out.alloc _).alloc _).ox ⟨wr.heap.size + 1, 0, none⟩ 1 1 [.int .i64 k1, .int .i64 t1, .int .i64 f1, .int .i64 n1, .slice pa pl pc, .int .i64 s1, .int .i64 d1, .int .i64 g1, .int .i64 sk1, .int .i64 fd1, .bool m1, .int .i64 i1, .int .i64 y1, .int .i64 v1, .int .u64 u1] rfl rfl (row_cells2 _ _ _ _) (by simp [Value.oneCell']) (by unfold maxLen; omega) (by omega) (by simp; omega) ?_; intro v' w5 e1 e2 _ e4; have HS5 := Lib.hid (((HST.out.alloc _).alloc _).growX (a := ⟨k1, t1, f1, n1, ⟨.slice pa pl pc, ol1, s1, d1, g1, sk1, fd1⟩, m1, i1, y1, v1, u1⟩) (by rw [cellsA_snoc]; exact e1) e2 e4); clear e1 e2 e4; obtain ⟨xa5, xc5, rfl⟩ := HS5.out.shapeX)
          go_roundg (m - (i + 1))
          case measure => omega
          case rel =>
            have hs := HS5.out
            exact ⟨i + 1, j, xa5, xc5, ya, yc, Y, by omega, rfl, by rw [HTN.out]; simp, rfl, rfl, by go_num, by rw [HTN.out]; exact hs, by rw [HTN.out, mine_app, HQ.out, List.append_nil]; exact HMI.out, HME.out, by omega, hj⟩
    · have him : i = m := by omega
      have hw : R.take i = R := by rw [List.take_of_length_le (by have := HMM.out; omega)]
      clear hlt hi
      go_wp2_with fail
      go_ret2
      have hs := HST.out
      have hmi := HMI.out
      rw [hw] at hmi
      refine ⟨_, _, Y, rfl, ?_, hmi, HME.out, by omega⟩
      have e : ∀ (l : List ActV), St W wr (.slice xa (R.take i).length xc) (.slice ya Y.length yc) l Y → l = R → St W wr (.slice xa (R.take i).length xc) (.slice ya Y.length yc) R Y := fun l h e => e ▸ h
      exact e _ hs hw
end Go.Proofs.Ytemmekpmoigdeaa

