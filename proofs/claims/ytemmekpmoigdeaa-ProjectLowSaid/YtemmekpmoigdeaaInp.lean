/- What Inputs makes of numbers. -/
import Derived.Test.YtemmekpmoigdeaaPipe
set_option linter.unusedSimpArgs false
set_option linter.unusedVariables false
set_option linter.unnecessarySimpa false
namespace Go.Proofs.Ytemmekpmoigdeaa
open Go.RowKit

structure InV where
  time : Int
  key : Int
  value : Int
  mark : Int
def InV.cs (x : InV) : List Value := [.int .i64 x.time, .int .i64 x.key, .int .i64 x.value, .int .i64 x.mark]
structure InpV where
  mark : Bool
  time : Int
  key : Int
  value : Int
  label : Int
def InpV.cs (x : InpV) : List Value := [.bool x.mark, .int .i64 x.time, .int .i64 x.key, .int .i64 x.value, .int .u64 x.label]
theorem inpcs_len (x : InpV) : x.cs.length = 5 := rfl
structure InpBd (x : InpV) : Prop where
  t1 : 0 ≤ x.time
  t2 : x.time ≤ 160
  t3 : x.mark = false → x.time ≤ 120
  k1 : 0 ≤ x.key
  k2 : x.key ≤ 3
  v1 : -50 ≤ x.value
  v2 : x.value ≤ 50
  l0 : x.mark = true → x.key = 0 ∧ x.value = 0 ∧ x.label = 0
  l1 : x.mark = false → ∃ k : Nat, k ≤ 7 ∧ x.label = ((2 ^ k : Nat) : Int)
theorem shl25 (W : World) (ρ : Operand → Value) (d : Option Tmp) (x : Operand) {t : TypeId} {ps : String} {af : Array Edge} {g : Option (Nat × Bool)} (n : Nat) (hn : n ≤ 7) (hx : ρ x = .int .i64 n) (h4 : ρ (.const (.int .u64 1)) = .int .u64 1) :
    (execOp ρ { dst := d, op := .binOp .shl 25 (.const (.int .u64 1)) x 3, type := t, pos := ps, after := af, guard := g }).run Try.prog W = .ok (.value (.int .u64 ((2 ^ n : Nat) : Int))) W := by
  have hc : n = 0 ∨ n = 1 ∨ n = 2 ∨ n = 3 ∨ n = 4 ∨ n = 5 ∨ n = 6 ∨ n = 7 := by omega
  rcases hc with rfl | rfl | rfl | rfl | rfl | rfl | rfl | rfl
  all_goals
    go_simp
    try rfl
theorem info29 : (Try.prog.info? 29).map (fun i => (i.zero, i.size, i.bytes)) = some (some (.agg #[.bool false, .int .i64 0, .int .i64 0, .int .i64 0, .int .u64 0]), 5, 40) := by kernel_rfl
/-- the same region, its world forgotten but for what Φ tells; S as one likes -/
theorem wp_region_plS {P : Program} {ops : Array Oper} {Q : Exit → Act → World → Prop} {id : Nat} {a : Act} {w : World} (S Φ : World → Prop) (hΦ : Φ w) (hS : ∀ w0, Φ w0 → S w0.drew) (p : Pl) (l : PlO) (hm : P.follows .mixedOrders = true) (hs : Region.noSelect ops = true)
    (hp : (okM ops 0 p && p.even && p.steps == ops.size) = true) (hl : p.with ops = l) (hQ : ∀ c a d v w, Q (.panic c) (Act.put a d v) w → Q (.panic c) a w)
    (h : ∀ w0, Φ w0 → wpPl P ops Q S l a w0.drew) : (Code.region id ops true).wp P Q a w :=
  wp_region_pl S p l hm hs hp hl hQ (hS w hΦ) (h w hΦ)
/-- what a call that makes a list of inputs leaves -/
def RetI (W : World) (n : Nat) (e : Ending) (w' : World) : Prop := ∃ (v : Value) (r : List InpV), e = .returned v ∧ w'.ownsRow W.heap.size 29 5 v r.length (r.flatMap InpV.cs) ∧ r.length = n ∧ (∀ x ∈ r, InpBd x) ∧ Below W.heap.size W w'

set_option maxRecDepth 100000 in
set_option maxHeartbeats 8000000 in
theorem inputs_any (W : World) (v : Value) (l : List InV) (h : IsR InV.cs 4 W v l) :
    Calls Try.prog 24 #[v] W (RetI W (min l.length 25)) := by
  obtain ⟨al, cl, rfl, hl1, hl2, bl, ol, hl3, hl4⟩ := h
  unfold maxLen at hl2
  have H3 := Lib.hid hl3
  have H4 := Lib.hid hl4
  clear hl3 hl4
  obtain ⟨n, hn⟩ : ∃ n, n = min l.length 25 := ⟨_, rfl⟩
  rw [← hn]
  have hn1 : n ≤ 25 := by omega
  have hn2 : n ≤ l.length := by omega
  have HN3 := Lib.hid (show n = l.length ∨ n = 25 by omega)
  clear hn
  go_enter Try.func24, Try.ntmps24
  go_wp2_with fail
  go_loopg [3, 4] n (fun g v3 v4 wr => ∃ (i : Nat) (va : Option Addr) (vc : Nat) (L : List InpV), i ≤ n ∧ g = n - i ∧ v3 = .slice va i vc ∧ v4 = .int .i64 i ∧ L.length = i ∧ (∀ o ∈ L, InpBd o) ∧ wr.ownsRow W.heap.size 29 5 (.slice va i vc) i (L.flatMap InpV.cs) ∧ Below W.heap.size W wr)
  case atStart => exact ⟨0, none, 0, [], by omega, by omega, rfl, rfl, rfl, by simp, World.ownsRow_nil _ _ _ _, Below.refl _ _⟩
  case round =>
    obtain ⟨i, va, vc, L, hi, rfl, rfl, rfl, hL, hbd, ho, hb⟩ := hrel
    have HOr := Lib.hid ho
    have HBr := Lib.hid hb
    have HBD := Lib.hid hbd
    have HLr := Lib.hid hL
    have hb2 : W.heap.size ≤ wr.heap.size := hb.size
    obtain ⟨i0, hi3, hz0, hz1, hz2⟩ := info_parts info29
    have HI := Lib.hid (And.intro hi3 (And.intro hz0 (And.intro hz1 hz2)))
    clear hi3 hz0 hz1 hz2 ho hb hbd hL
    by_cases hlt : i < n
    · have hlt1 : i < 25 := by omega
      have hlt2 : i < l.length := by omega
      obtain ⟨rfl, hbl⟩ := H3.out (by omega)
      obtain ⟨x, hx⟩ : ∃ x, l[i]? = some x := ⟨l[i], by simp [hlt2]⟩
      have HX := Lib.hid (fun (j : Nat) (u : Value) (hj : x.cs[j]? = some u) => (HBr.out.cell (p := ⟨bl, ol + i * 4 + j, none⟩) hbl).trans (H4.out i x hx j u hj))
      clear hx
      obtain ⟨T, K, V, M⟩ := x
      have c0 := HX.out 0 _ rfl
      have c1 := HX.out 1 _ rfl
      have c2 := HX.out 2 _ rfl
      have c3 := HX.out 3 _ rfl
      simp only [Nat.add_zero] at c0
      clear HX
      by_cases hm : bits BinOp.and IntKind.i64 M 3 = 3
      · have hm' : (bits BinOp.and IntKind.i64 M 3 == 3) = true := by simp [hm]
        have bt := within_bd T 0 160 (by omega)
        obtain ⟨t, ht⟩ : ∃ t, within T 0 160 = t := ⟨_, rfl⟩
        rw [ht] at bt
        have HT := Lib.hid ht
        clear ht hm
        go_wp2_with (first
          | (go_at_call 12; (with_reducible refine (within_any _ _ _ _ (by omega) (by omega) (by omega)).mono ?_); rintro e w1 ⟨rfl, rfl⟩; rw [HT.out])
          | (at_builtin; refine wpList_append_own _ rfl (.tmp 24) (.tmp 30) 71 rfl W.heap.size 29 i0 _ 5 40 Try.underlying71 HI.out.1 HI.out.2.1 HI.out.2.2.1 HI.out.2.2.2 rfl (by decide) (.slice va i vc) i (L.flatMap InpV.cs) rfl ((HOr.out.alloc _).alloc _) ⟨wr.heap.size + 1, 0, none⟩ 1 1 [.bool true, .int .i64 t, .int .i64 0, .int .i64 0, .int .u64 0] rfl rfl (row_cells2 _ _ _ _) (by simp [Value.oneCell']) (by unfold maxLen; omega) (by omega) (by simp; omega) ?_; intro v' w5 hown5 hgrow5 _; have HO5 := Lib.hid hown5; have HB5 := Lib.hid (((HBr.out.alloc hb2 _).alloc (by simp; omega) _).grown hgrow5 (by simp; omega) (fun k hk => (HOr.out.lt k hk).1)); clear hown5 hgrow5; obtain ⟨g5, cap5, rfl, _⟩ := own_form HO5.out (by omega)))
        go_roundg (n - (i + 1))
        case measure => omega
        case rel =>
          refine ⟨i + 1, _, cap5, L ++ [⟨true, t, 0, 0, 0⟩], by omega, rfl, rfl, by go_num, by simp [HLr.out], fun o ho => ?_, ?_, HB5.out⟩
          · rcases List.mem_append.1 ho with h | h
            · exact HBD.out o h
            · obtain rfl : o = ⟨true, t, 0, 0, 0⟩ := by simpa using h
              exact ⟨bt.1, bt.2, fun h => by simp at h, by simp, by simp, by simp, by simp, fun _ => ⟨rfl, rfl, rfl⟩, fun h => by simp at h⟩
          · rw [List.flatMap_append]
            exact HO5.out
      · have hm' : (bits BinOp.and IntKind.i64 M 3 == 3) = false := by simp [hm]
        clear hm
        go_wp2_with fail
        refine wp_region_plS (fun x => At x wr.heap.size [.int .i64 T, .int .i64 K, .int .i64 V, .int .i64 M]) (fun w1 => At w1 wr.heap.size [.int .i64 T, .int .i64 K, .int .i64 V, .int .i64 M] ∧ Below W.heap.size W w1 ∧ w1.ownsRow W.heap.size 29 5 (.slice va i vc) i (L.flatMap InpV.cs) ∧ wr.heap.size + 1 ≤ w1.heap.size) ?ph8 (fun w1 h => h.1.drew) (.take 0 <| .take 1 <| .take 2 <| .take 3 <| .take 4 <| .take 5 <| .take 6 <| .take 7 <| .take 8 <| .take 9 <| .take 10 <| .take 11 <| .take 12 <| .take 13 <| .take 14 <| .take 15 <| .doo 16 <| .doo 17 <| .take 18 <| .done) ?plL8 (by kernel_rfl) (by kernel_rfl) (by kernel_rfl) ?plH8 (by intro c a d v w; cases d <;> exact fun h => h) ?_
        case plH8 =>
          simp only [Pl.with, List.getElem?_toArray, List.getElem?_cons_zero, List.getElem?_cons_succ]
          try rfl
        case ph8 => exact ⟨At.new wr _ _, HBr.out.alloc hb2 _, HOr.out.alloc _, by simp⟩
        rintro w1 ⟨ha, hb1, ho1, hsz⟩
        have HA := Lib.hid ha
        have HB1 := Lib.hid hb1
        have HO1 := Lib.hid ho1
        have hsz1 : wr.heap.size < w1.heap.size := by omega
        clear ha hb1 ho1 hsz
        have q0 : ∀ x, At x wr.heap.size [.int .i64 T, .int .i64 K, .int .i64 V, .int .i64 M] → x.cell? ⟨wr.heap.size, 0, none⟩ = some (.int .i64 T) := fun x hx => hx.c 0 _ rfl
        have q1 : ∀ x, At x wr.heap.size [.int .i64 T, .int .i64 K, .int .i64 V, .int .i64 M] → x.cell? ⟨wr.heap.size, 1, none⟩ = some (.int .i64 K) := fun x hx => hx.c 1 _ rfl
        have q2 : ∀ x, At x wr.heap.size [.int .i64 T, .int .i64 K, .int .i64 V, .int .i64 M] → x.cell? ⟨wr.heap.size, 2, none⟩ = some (.int .i64 V) := fun x hx => hx.c 2 _ rfl
        have q3 : ∀ x, At x wr.heap.size [.int .i64 T, .int .i64 K, .int .i64 V, .int .i64 M] → x.cell? ⟨wr.heap.size, 3, none⟩ = some (.int .i64 M) := fun x hx => hx.c 3 _ rfl
        iterate 3 (refine wpPl_take (v := ?_) (by rfl) (fun w' hS => ?_) ?_; rotate_left; (focus (go_simp; with_reducible rfl)); simp only [Act.put, List.setIfInBounds_toArray, List.set_cons_zero, List.set_cons_succ])
        (refine wpPl_call (v := .int .i64 (within T 0 120)) (f := 12) (args := #[.int .i64 T, .int .i64 0, .int .i64 120]) (by rfl) (fun w' hS => ?_) (fun w' hS => within_any _ _ _ _ (by omega) (by omega) (by omega)) ?_; (focus (go_simp; done)); simp only [Act.put, List.setIfInBounds_toArray, List.set_cons_zero, List.set_cons_succ])
        iterate 2 (refine wpPl_take (v := ?_) (by rfl) (fun w' hS => ?_) ?_; rotate_left; (focus (go_simp; with_reducible rfl)); simp only [Act.put, List.setIfInBounds_toArray, List.set_cons_zero, List.set_cons_succ])
        (refine wpPl_call (v := .int .i64 (within K 0 3)) (f := 12) (args := #[.int .i64 K, .int .i64 0, .int .i64 3]) (by rfl) (fun w' hS => ?_) (fun w' hS => within_any _ _ _ _ (by omega) (by omega) (by omega)) ?_; (focus (go_simp; done)); simp only [Act.put, List.setIfInBounds_toArray, List.set_cons_zero, List.set_cons_succ])
        iterate 2 (refine wpPl_take (v := ?_) (by rfl) (fun w' hS => ?_) ?_; rotate_left; (focus (go_simp; with_reducible rfl)); simp only [Act.put, List.setIfInBounds_toArray, List.set_cons_zero, List.set_cons_succ])
        (refine wpPl_call (v := .int .i64 (within V (-50) 50)) (f := 12) (args := #[.int .i64 V, .int .i64 (-50), .int .i64 50]) (by rfl) (fun w' hS => ?_) (fun w' hS => within_any _ _ _ _ (by omega) (by omega) (by omega)) ?_; (focus (go_simp; done)); simp only [Act.put, List.setIfInBounds_toArray, List.set_cons_zero, List.set_cons_succ])
        iterate 2 (refine wpPl_take (v := ?_) (by rfl) (fun w' hS => ?_) ?_; rotate_left; (focus (go_simp; with_reducible rfl)); simp only [Act.put, List.setIfInBounds_toArray, List.set_cons_zero, List.set_cons_succ])
        (refine wpPl_call (v := .int .i64 (within M 0 7)) (f := 12) (args := #[.int .i64 M, .int .i64 0, .int .i64 7]) (by rfl) (fun w' hS => ?_) (fun w' hS => within_any _ _ _ _ (by omega) (by omega) (by omega)) ?_; (focus (go_simp; done)); simp only [Act.put, List.setIfInBounds_toArray, List.set_cons_zero, List.set_cons_succ])
        clear q0 q1 q2 q3
        have b0 := within_bd T 0 120 (by omega)
        have b1 := within_bd K 0 3 (by omega)
        have b2 := within_bd V (-50) 50 (by omega)
        have b3 := within_bd M 0 7 (by omega)
        obtain ⟨t, ht⟩ : ∃ t, within T 0 120 = t := ⟨_, rfl⟩
        obtain ⟨k, hk⟩ : ∃ k, within K 0 3 = k := ⟨_, rfl⟩
        obtain ⟨v, hv⟩ : ∃ v, within V (-50) 50 = v := ⟨_, rfl⟩
        obtain ⟨m, hm⟩ : ∃ m : Nat, within M 0 7 = (m : Int) := ⟨(within M 0 7).toNat, by omega⟩
        rw [ht] at b0
        rw [hk] at b1
        rw [hv] at b2
        rw [hm] at b3
        simp only [ht, hk, hv, hm]
        clear ht hk hv hm
        refine wpPl_take (v := .int .u64 ((2 ^ m : Nat) : Int)) (by rfl) (fun w' hS => shl25 w' _ _ _ m (by omega) rfl rfl) ?_
        simp only [Act.put, List.setIfInBounds_toArray, List.set_cons_zero, List.set_cons_succ]
        iterate 2 (refine wpPl_take (v := ?_) (by rfl) (fun w' hS => ?_) ?_; rotate_left; (focus (go_simp; with_reducible rfl)); simp only [Act.put, List.setIfInBounds_toArray, List.set_cons_zero, List.set_cons_succ])
        refine wpPl_do (by rfl) (fun K hK => ?_)
        go_wp2_with fail
        refine ⟨HA.out.drew.alloc _, ?_⟩
        refine wpPl_do (by rfl) (fun K hK => ?_)
        refine wp_append_own _ (.tmp 32) (.tmp 48) 71 rfl W.heap.size 29 i0 _ 5 40 Try.underlying71 HI.out.1 HI.out.2.1 HI.out.2.2.1 HI.out.2.2.2 rfl (by decide) (.slice va i vc) i (L.flatMap InpV.cs) rfl (HO1.out.drew.alloc _) ⟨w1.heap.size, 0, none⟩ 1 1 [.bool false, .int .i64 t, .int .i64 k, .int .i64 v, .int .u64 ((2 ^ m : Nat) : Int)] rfl rfl (row_cells _ _ _) (by simp [Value.oneCell']) (by unfold maxLen; omega) (by omega) (by simp; omega) ?_
        intro v' w5 hown5 hgrow5 _
        have HO5 := Lib.hid hown5
        have HB5 := Lib.hid ((HB1.out.drew.alloc (by simp; omega) _).grown hgrow5 (by simp; omega) (fun k hk => (HO1.out.lt k hk).1))
        have hS5 := (HA.out.drew.alloc _).grown hgrow5 (fun k hk => by have := (HOr.out.lt k hk).2; omega)
        clear hown5 hgrow5
        obtain ⟨g5, cap5, rfl, _⟩ := own_form HO5.out (by omega)
        refine hK _ _ ⟨hS5, ?_⟩
        simp only [Act.put, List.setIfInBounds_toArray, List.set_cons_zero, List.set_cons_succ]
        iterate 1 (refine wpPl_take (v := ?_) (by rfl) (fun w' hS => ?_) ?_; rotate_left; (focus (go_simp; with_reducible rfl)); simp only [Act.put, List.setIfInBounds_toArray, List.set_cons_zero, List.set_cons_succ])
        refine wpPl_done ?_
        go_wp2_with fail
        go_roundg (n - (i + 1))
        case measure => omega
        case rel =>
          refine ⟨i + 1, _, cap5, L ++ [⟨false, t, k, v, ((2 ^ m : Nat) : Int)⟩], by omega, rfl, rfl, by go_num, by simp [HLr.out], fun o ho => ?_, ?_, HB5.out⟩
          · rcases List.mem_append.1 ho with h | h
            · exact HBD.out o h
            · obtain rfl : o = ⟨false, t, k, v, ((2 ^ m : Nat) : Int)⟩ := by simpa using h
              exact ⟨b0.1, by simp; omega, fun _ => b0.2, b1.1, b1.2, b2.1, b2.2, fun h => by simp at h, fun _ => ⟨m, by omega, rfl⟩⟩
          · rw [List.flatMap_append]
            exact HO5.out
    · rcases (by have := HN3.out; omega : ¬ i < l.length ∨ (i < l.length ∧ ¬ i < 25)) with hx | ⟨hx, hx4⟩
      all_goals
        go_wp2_with fail
        go_ret
        have hl := HLr.out
        have hin : i = n := by omega
        refine ⟨_, L, rfl, ?_, by omega, HBD.out, HBr.out⟩
        rw [hl]
        exact HOr.out
end Go.Proofs.Ytemmekpmoigdeaa

