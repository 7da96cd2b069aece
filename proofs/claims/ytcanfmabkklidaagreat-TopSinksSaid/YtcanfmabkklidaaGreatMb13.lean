/- Open windows: an event is put into them. -/
import Derived.Test.YtcanfmabkklidaaGreatMb8
import Derived.Test.YtcanfmabkklidaaGreatMb7
import Derived.Test.YtcanfmabkklidaaGreatMb11
import Derived.Test.YtcanfmabkklidaaGreatMb12
set_option linter.unusedSimpArgs false
set_option linter.unusedVariables false
set_option linter.unnecessarySimpa false
namespace Go.Proofs.YtcanfmabkklidaaGreat
open Go.RowKit

theorem At.nomap {w : World} {b c : Nat} {x : Value} {xs : List Value} {l : PaneL} (h : At w b (x :: xs)) (hm : MapAt w c l) : b ≠ c := by
  rintro rfl
  obtain ⟨es, clock, h1, _⟩ := hm
  have := h.c 0 x rfl
  simp [World.cell?, h1] at this
theorem pGet_kind {kind : Int} {l : PaneL} (h : ∀ x ∈ l, x.2.kind = kind) {k : Int × Int} {p : PotV} (hp : pGet l k = some p) : p.kind = kind := by
  induction l with
  | nil => simp [pGet] at hp
  | cons y l ih =>
    unfold pGet at hp
    split at hp
    · obtain rfl := Option.some.inj hp
      exact h y (by simp)
    · exact ih (fun x hx => h x (by simp [hx])) hp
theorem pSet_kind {kind : Int} {l : PaneL} (h : ∀ x ∈ l, x.2.kind = kind) (k : Int × Int) {p : PotV} (hp : p.kind = kind) : ∀ x ∈ pSet l k p, x.2.kind = kind := by
  induction l with
  | nil => intro x hx; simp [pSet] at hx; rw [hx]; exact hp
  | cons y l ih =>
    unfold pSet
    split
    · intro x hx
      rcases List.mem_cons.1 hx with rfl | hx
      · exact hp
      · exact h x (by simp [hx])
    · intro x hx
      rcases List.mem_cons.1 hx with rfl | hx
      · exact h _ (by simp)
      · exact ih (fun x hx => h x (by simp [hx])) x hx
theorem put1_kind {kind : Int} {l : PaneL} (h : ∀ x ∈ l, x.2.kind = kind) (e : EvV) (s : Int) : ∀ x ∈ put1 kind e l s, x.2.kind = kind := by
  unfold put1
  refine pSet_kind h _ ?_
  show ((pGet l (s, e.key)).getD ⟨0, kind, 0, 0⟩).kind = kind
  cases hp : pGet l (s, e.key) with
  | none => rfl
  | some p => exact pGet_kind h hp
theorem puts_kind {kind : Int} (e : EvV) : ∀ (L : List Int) (l : PaneL), (∀ x ∈ l, x.2.kind = kind) → ∀ x ∈ L.foldl (put1 kind e) l, x.2.kind = kind
  | [], l, h => h
  | s :: L, l, h => puts_kind e L _ (put1_kind h e s)
theorem pot_ev {w : World} {b : Nat} {x0 x1 x2 : Value} {p : PotV} (h : At w b p.cs) (y0 y1 y2 : Value) : At (((w.setCell ⟨b, 0, none⟩ y0).setCell ⟨b, 1, none⟩ y1).setCell ⟨b, 2, none⟩ y2) b [y0, y1, y2, .int .u64 p.who] :=
  ((h.set 0 y0 (by simp [PotV.cs])).set 1 y1 (by simp [PotV.cs])).set 2 y2 (by simp [PotV.cs])
theorem run_lookupO (W : World) (ρ : Operand → Value) (d : Option Tmp) (m k : Operand) {t : TypeId} {ps : String} {af : Array Edge} {g : Option (Nat × Bool)} (b : Nat) (l : PaneL) (key : Int × Int) (h : MapAt W b l) (hm : ρ m = .map (some b)) (hk : ρ k = keyV key) :
    (execOp ρ { dst := d, op := .lookup 158 m k true, type := t, pos := ps, after := af, guard := g }).run Tryz.prog W = .ok (.value (.tuple #[((pGet l key).getD ⟨0, 0, 0, 0⟩).val, .bool (pGet l key).isSome])) W := by
  simp [execOp, hm, hk, run_lookup_ok b l key W h, Result.andThen]
theorem own_shape2 {w : World} {base : Nat} {e : TypeId} {s : Nat} {v : Value} {n : Nat} {xs : List Value} (h : w.ownsRow base e s v n xs) : ∃ pa pc, v = .slice pa n pc := by
  rcases h.2 with ⟨rfl, rfl⟩ | ⟨g, cap, cur, rfl, _⟩
  · exact ⟨_, _, rfl⟩
  · exact ⟨_, _, rfl⟩
theorem fold_snoc {α β : Type} (f : β → α → β) (b : β) (l : List α) (k : Nat) (x : α) (h : l[k]? = some x) : (l.take (k + 1)).foldl f b = f ((l.take k).foldl f b) x := by
  have hlt := (List.getElem?_eq_some_iff.1 h).1
  have e : l[k] = x := (List.getElem?_eq_some_iff.1 h).2
  rw [List.take_succ_eq_append_getElem hlt, List.foldl_append, e]
  rfl
/-- the worlds of a round of Put -/
structure PutW (bp bm A B C : Nat) (z d kind e1 e2 e3 e4 s : Int) (L : PaneL) (xs : List Value) (wr W : World) : Prop where
  a : At W bp [.int .i64 z, .int .i64 d, .int .i64 kind, .map (some bm)]
  e : At W A [.int .i64 e1, .int .i64 e2, .int .i64 e3, .int .u64 e4]
  q : At W B [.int .i64 s, .int .i64 e2]
  t : At W C xs
  m : MapAt W bm L
  md : Mod [bm] wr W
  big : wr.heap.size ≤ C ∧ A < C ∧ B < C ∧ bp < C ∧ bm < C
section
variable {bp bm A B C : Nat} {z d kind e1 e2 e3 e4 s : Int} {L : PaneL} {xs : List Value} {wr W : World}
theorem PutW.alloc (h : PutW bp bm A B C z d kind e1 e2 e3 e4 s L xs wr W) (o : Obj) : PutW bp bm A B C z d kind e1 e2 e3 e4 s L xs wr (W.alloc o) :=
  ⟨h.a.alloc o, h.e.alloc o, h.q.alloc o, h.t.alloc o, h.m.alloc o, h.md.new o, h.big⟩
theorem PutW.drew (h : PutW bp bm A B C z d kind e1 e2 e3 e4 s L xs wr W) : PutW bp bm A B C z d kind e1 e2 e3 e4 s L xs wr W.drew :=
  ⟨h.a.drew, h.e.drew, h.q.drew, h.t.drew, h.m.drew, h.md.draw, h.big⟩
theorem PutW.below (h : PutW bp bm A B C z d kind e1 e2 e3 e4 s L xs wr W) {W' : World} (hb : Below W.heap.size W W') : PutW bp bm A B C z d kind e1 e2 e3 e4 s L xs wr W' :=
  ⟨h.a.below hb, h.e.below hb, h.q.below hb, h.t.below hb, h.m.below hb, h.md.bel hb, h.big⟩
theorem PutW.set (h : PutW bp bm A B C z d kind e1 e2 e3 e4 s L xs wr W) (j : Nat) (v : Value) (hj : j < xs.length) : PutW bp bm A B C z d kind e1 e2 e3 e4 s L (xs.set j v) wr (W.setCell ⟨C, j, none⟩ v) := by
  obtain ⟨b1, b2, b3, b4, b5⟩ := h.big
  exact ⟨h.a.other _ _ (by simp; omega), h.e.other _ _ (by simp; omega), h.q.other _ _ (by simp; omega), h.t.set j v hj, h.m.set _ _ _ (by omega), h.md.set _ _ _ (.inr b1), h.big⟩
theorem PutW.mod (h : PutW bp bm A B C z d kind e1 e2 e3 e4 s L xs wr W) {W' : World} (hm : Mod [C] W W') {ys : List Value} (ht : At W' C ys) : PutW bp bm A B C z d kind e1 e2 e3 e4 s L ys wr W' := by
  obtain ⟨b1, b2, b3, b4, b5⟩ := h.big
  exact ⟨h.a.mod hm (by simp; omega), h.e.mod hm (by simp; omega), h.q.mod hm (by simp; omega), ht, h.m.mod hm (by simp; omega), h.md.trans hm (fun x hx => .inr (by simp at hx; omega)), h.big⟩
end
set_option maxRecDepth 100000 in
set_option maxHeartbeats 8000000 in
theorem put_any (bp bm g : Nat) (z d kind : Int) (l : PaneL) (e : EvV) (w : World) (h1 : At w bp [.int .i64 z, .int .i64 d, .int .i64 kind, .map (some bm)]) (h2 : MapAt w bm l) (hg : At w g e.cs)
    (hd1 : 1 ≤ d) (hd2 : d ≤ 12) (hz1 : d ≤ z) (hz2 : z ≤ 4 * d) (hk1 : 1 ≤ kind) (hk2 : kind ≤ 4) (ht1 : 0 ≤ e.time) (ht2 : e.time ≤ 1099511627776) (hk : ∀ x ∈ l, x.2.kind = kind) :
    Calls Tryz.prog 94 #[.pointer (some ⟨bp, 0, none⟩), .slice (some ⟨g, 0, none⟩) 1 1] w fun r w' => (∃ u, r = .returned u) ∧ MapAt w' bm ((startsI e.time z d (mostI z d)).foldl (put1 kind e) l) ∧ Mod [bm] w w' := by
  have hne1 := h1.nomap h2
  have hne2 : g ≠ bm := At.nomap (x := .int .i64 e.time) (xs := [.int .i64 e.key, .int .i64 e.value, .int .u64 e.label]) hg h2
  have hbm := h2.lt
  have hbp := h1.lt
  have hgl := hg.lt
  obtain ⟨e1, e2, e3, e4⟩ := e
  simp only at ht1 ht2
  have HA := Lib.hid h1
  have HM := Lib.hid h2
  have HG := Lib.hid hg
  have HK := Lib.hid hk
  obtain ⟨L, hL⟩ : ∃ L, L = startsI e1 z d (mostI z d) := ⟨_, rfl⟩
  simp only [← hL]
  have HL := Lib.hid hL
  have hLl : L.length ≤ 4 := by
    have := startsI_len e1 z d (mostI z d)
    obtain ⟨_, _, h⟩ := winR_of z d hd1 hd2 hz1 hz2
    rw [hL]
    unfold mostI at this ⊢
    omega
  have g0 := hg.c 0 _ rfl
  have g1 := hg.c 1 _ rfl
  have g2 := hg.c 2 _ rfl
  have g3 := hg.c 3 _ rfl
  clear h1 h2 hg hk hL
  go_enter Tryz.func94, Tryz.ntmps94
  go_wp2
  go_loopg [13] 1 (fun n v13 wr => (n = 1 ∧ v13 = .int .i64 0 ∧ wr = w) ∨ (n = 0 ∧ v13 = .int .i64 1 ∧ MapAt wr bm (L.foldl (put1 kind ⟨e1, e2, e3, e4⟩) l) ∧ Mod [bm] w wr))
  case atStart => exact .inl ⟨rfl, rfl, rfl⟩
  case round =>
    rcases hrel with ⟨rfl, rfl, rfl⟩ | ⟨rfl, rfl, hr1, hr2⟩
    rotate_left
    · have HR := Lib.hid (And.intro hr1 hr2)
      clear hr1 hr2
      go_wp2
      go_end0
      exact ⟨⟨_, rfl⟩, HR.out⟩
    obtain ⟨wo, rfl⟩ : ∃ wo : World, wo = wr := ⟨_, rfl⟩
    have A5 := At.new wo #[.int .i64 e1, .int .i64 e2, .int .i64 e3, .int .u64 e4] 39
    have HA5 := Lib.hid A5
    have a0 := (HA.out.alloc (.cells #[.int .i64 e1, .int .i64 e2, .int .i64 e3, .int .u64 e4] 39)).c 0 _ rfl
    have a1 := (HA.out.alloc (.cells #[.int .i64 e1, .int .i64 e2, .int .i64 e3, .int .u64 e4] 39)).c 1 _ rfl
    clear A5
    go_wp2
    refine wp_region_pl (Cl [(wo.heap.size, 0, .int .i64 e1), (bp, 0, .int .i64 z), (bp, 1, .int .i64 d)]) (.take 0 <| .take 1 <| .take 2 <| .take 3 <| .take 4 <| .take 5 <| .take 6 <| .take 7 <| .take 8 <| .take 9 <| .take 12 <| .doo 10 <| .take 11 <| .done) ?plA (by kernel_rfl) (by kernel_rfl) (by kernel_rfl) ?plB (by intro c a d v w; cases d <;> exact fun h => h) ?plC ?_
    case plB =>
      simp only [Pl.with, List.getElem?_toArray, List.getElem?_cons_zero, List.getElem?_cons_succ]
      try rfl
    case plC => exact Cl.cons (HA5.out.c 0 _ rfl) (Cl.cons a0 (Cl.cons a1 (Cl.nil _)))
    have q0 : ∀ x, Cl [(wo.heap.size, 0, .int .i64 e1), (bp, 0, .int .i64 z), (bp, 1, .int .i64 d)] x → x.cell? ⟨wo.heap.size, 0, none⟩ = some (.int .i64 e1) := fun x h => h.at _ _ _ (by simp)
    have q1 : ∀ x, Cl [(wo.heap.size, 0, .int .i64 e1), (bp, 0, .int .i64 z), (bp, 1, .int .i64 d)] x → x.cell? ⟨bp, 0, none⟩ = some (.int .i64 z) := fun x h => h.at _ _ _ (by simp)
    have q2 : ∀ x, Cl [(wo.heap.size, 0, .int .i64 e1), (bp, 0, .int .i64 z), (bp, 1, .int .i64 d)] x → x.cell? ⟨bp, 1, none⟩ = some (.int .i64 d) := fun x h => h.at _ _ _ (by simp)
    iterate 11 (refine wpPl_take (v := ?_) (by rfl) (fun w' hS => ?_) ?_; rotate_left; (focus (go_simp; with_reducible rfl)); simp only [Act.put, List.setIfInBounds_toArray, List.set_cons_zero, List.set_cons_succ])
    refine wpPl_do (by rfl) (fun K hK => ?_)
    go_wp2_with (go_at_call 114; (refine (starts_any e1 z d _ hd1 hd2 hz1 hz2 ht1 ht2).mono ?_); rintro r w1 ⟨v1, rfl, ho1, hb1⟩; rw [← HL.out] at ho1; obtain ⟨pa, pc, rfl⟩ := own_shape2 ho1; have HO1 := Lib.hid ho1; have HB1 := Lib.hid hb1; clear ho1 hb1)
    refine ⟨Cl.below (Cl.drew (Cl.cons (HA5.out.c 0 _ rfl) (Cl.cons a0 (Cl.cons a1 (Cl.nil _))))) HB1.out, ?_⟩
    iterate 1 (refine wpPl_take (v := ?_) (by rfl) (fun w' hS => ?_) ?_; rotate_left; (focus (go_simp; with_reducible rfl)); simp only [Act.put, List.setIfInBounds_toArray, List.set_cons_zero, List.set_cons_succ])
    refine wpPl_done ?_
    clear q0 q1 q2
    have A1 := Lib.hid (((HA.out.alloc (.cells #[.int .i64 e1, .int .i64 e2, .int .i64 e3, .int .u64 e4] 39)).drew).below HB1.out)
    have M1 := Lib.hid (((HM.out.alloc (.cells #[.int .i64 e1, .int .i64 e2, .int .i64 e3, .int .u64 e4] 39)).drew).below HB1.out)
    have E1 := Lib.hid ((HA5.out.drew).below HB1.out)
    have D1 := Lib.hid ((((Mod.refl [bm] wo).new (.cells #[.int .i64 e1, .int .i64 e2, .int .i64 e3, .int .u64 e4] 39)).draw).bel HB1.out)
    have hs1 : wo.heap.size < w1.heap.size := E1.out.lt
    have HS := Lib.hid (IsL.of_own HO1.out)
    have HOL := Lib.hid (own_lt HO1.out)
    have HON := Lib.hid (own_new HO1.out)
    clear a0 a1 g0 g1 g2 g3
    go_wp2
    go_loopg [29] L.length (fun n v29 wr => ∃ k : Nat, k ≤ L.length ∧ n = L.length - k ∧ v29 = .int .i64 k ∧ MapAt wr bm ((L.take k).foldl (put1 kind ⟨e1, e2, e3, e4⟩) l) ∧ Mod [bm] w1 wr)
    case atStart => exact ⟨0, by omega, by omega, rfl, M1.out, Mod.refl _ _⟩
    case round =>
      obtain ⟨k, hk, rfl, rfl, hm, hmd⟩ := hrel
      have HMr := Lib.hid hm
      have HDr := Lib.hid hmd
      have hsr := hmd.size
      by_cases hlt : k < L.length
      · obtain ⟨s, hs⟩ : ∃ s, L[k]? = some s := ⟨L[k], by simp [hlt]⟩
        have HSk := Lib.hid hs
        obtain ⟨gs, cap, hv, _, hgl2, _, _, hc⟩ := own_form HO1.out (by omega)
        simp only [Value.slice.injEq] at hv
        obtain ⟨rfl, _, rfl⟩ := hv
        have hgs : gs ≠ bm := by
          have := HON.out gs (by simp [Value.ownBlock])
          simp at this
          omega
        have cs : wr.cell? ⟨gs, k, none⟩ = some (.int .i64 s) := (hmd.cell hgl2 (by simpa using hgs)).trans (hc k _ (by simp [ints, hs]))
        have A2 := A1.out.mod hmd (by simpa using hne1)
        have E2 := E1.out.mod hmd (by simp; omega)
        have b0 := A2.c 3 _ rfl
        have b1 := A2.c 2 _ rfl
        have y0 := E2.c 0 _ rfl
        have y1 := E2.c 1 _ rfl
        have y2 := E2.c 2 _ rfl
        have y3 := E2.c 3 _ rfl
        have hl2 := E2.lt
        have hl3 := A2.lt
        have HA2 := Lib.hid A2
        have HE2 := Lib.hid E2
        have w0 : ¬ wr.heap.size = wo.heap.size := by omega
        have w1' : ¬ wr.heap.size = bp := by omega
        clear A2 E2 hm hmd hs hc hgl2
        go_wp2
        obtain ⟨Lk, hLk⟩ : ∃ Lk, Lk = (L.take k).foldl (put1 kind ⟨e1, e2, e3, e4⟩) l := ⟨_, rfl⟩
        rw [← hLk] at HMr
        have HLk := Lib.hid hLk
        have HKk := Lib.hid (show ∀ x ∈ Lk, x.2.kind = kind from by rw [hLk]; exact puts_kind _ _ _ HK.out)
        clear hLk
        cases hp : pGet Lk (s, e2) with
        | none =>
          have HP := Lib.hid hp
          clear hp
          have P0 := At.new wr #[.int .i64 s, .int .i64 e2] 189
          have k0 := P0.c 0 _ rfl
          have k1 := P0.c 1 _ rfl
          have k2 := (HA2.out.alloc (.cells #[.int .i64 s, .int .i64 e2] 189)).c 3 _ rfl
          have HCl := Lib.hid (show Cl [(bp, 3, .map (some bm)), (wr.heap.size, 0, .int .i64 s), (wr.heap.size, 1, .int .i64 e2)] (wr.alloc (.cells #[.int .i64 s, .int .i64 e2] 189)) from Cl.cons k2 (Cl.cons k0 (Cl.cons k1 (Cl.nil _))))
          have HMc := Lib.hid (HMr.out.alloc (.cells #[.int .i64 s, .int .i64 e2] 189))
          clear P0 k0 k1 k2
          refine wp_region_pt 11 (fun x => Cl [(bp, 3, .map (some bm)), (wr.heap.size, 0, .int .i64 s), (wr.heap.size, 1, .int .i64 e2)] x ∧ MapAt x bm Lk) (.take 0 <| .take 1 <| .take 2 <| .take 3 <| .take 4 <| .take 5 <| .take 6 <| .take 7 <| .take 8 <| .doo 9 <| .doo 10 <| .done) ?plAN (by kernel_rfl) (by kernel_rfl) ?plBN (by intro c a d v w; cases d <;> exact fun h => h) ?plCN ?_
          case plBN =>
            simp only [Pt.with, List.getElem?_toArray, List.getElem?_cons_zero, List.getElem?_cons_succ]
            try rfl
          case plCN => exact ⟨HCl.out.drew, HMc.out.drew⟩
          have q0 : ∀ x, ((fun x => Cl [(bp, 3, .map (some bm)), (wr.heap.size, 0, .int .i64 s), (wr.heap.size, 1, .int .i64 e2)] x ∧ MapAt x bm Lk)) x → x.cell? ⟨bp, 3, none⟩ = some (.map (some bm)) := fun x h => h.1.at _ _ _ (by simp)
          have q1 : ∀ x, ((fun x => Cl [(bp, 3, .map (some bm)), (wr.heap.size, 0, .int .i64 s), (wr.heap.size, 1, .int .i64 e2)] x ∧ MapAt x bm Lk)) x → x.cell? ⟨wr.heap.size, 0, none⟩ = some (.int .i64 s) := fun x h => h.1.at _ _ _ (by simp)
          have q2 : ∀ x, ((fun x => Cl [(bp, 3, .map (some bm)), (wr.heap.size, 0, .int .i64 s), (wr.heap.size, 1, .int .i64 e2)] x ∧ MapAt x bm Lk)) x → x.cell? ⟨wr.heap.size, 1, none⟩ = some (.int .i64 e2) := fun x h => h.1.at _ _ _ (by simp)
          iterate 5 (refine wpPt_take (v := ?_) (by rfl) (fun w' hS => ?_) ?_; rotate_left; (focus (go_simp; with_reducible rfl)); simp only [Act.put, List.setIfInBounds_toArray, List.set_cons_zero, List.set_cons_succ])
          refine wpPt_take (v := .tuple #[(⟨0, 0, 0, 0⟩ : PotV).val, .bool false]) (by rfl) (fun w' hS => ?_) ?_
          · refine (run_lookupO w' _ _ _ _ bm Lk (s, e2) hS.2 rfl rfl).trans ?_
            rw [HP.out]
            rfl
          simp only [Act.put, List.setIfInBounds_toArray, List.set_cons_zero, List.set_cons_succ]
          iterate 3 (refine wpPt_take (v := ?_) (by rfl) (fun w' hS => ?_) ?_; rotate_left; (focus (go_simp; with_reducible rfl)); simp only [Act.put, List.setIfInBounds_toArray, List.set_cons_zero, List.set_cons_succ])
          refine wpPt_do (by rfl) (fun K hK => ?_)
          go_wp2_with fail
          refine ⟨⟨Cl.alloc HCl.out _, HMc.out.alloc _⟩, ?_⟩
          refine wpPt_do (by rfl) (fun K hK => ?_)
          go_wp2_with fail
          refine ⟨⟨Cl.alloc HCl.out _, HMc.out.alloc _⟩, ?_⟩
          refine wpPt_done ?_
          clear q0 q1 q2
          have hbmr := HMr.out.lt
          have F0 : PutW bp bm wo.heap.size wr.heap.size (wr.heap.size + 1) z d kind e1 e2 e3 e4 s Lk [.int .i64 0, .int .i64 0, .int .i64 0, .int .u64 0] wr ((wr.alloc (.cells #[.int .i64 s, .int .i64 e2] 189)).alloc (.cells #[.int .i64 0, .int .i64 0, .int .i64 0, .int .u64 0] 210)) :=
            ⟨(HA2.out.alloc _).alloc _, (HE2.out.alloc _).alloc _, (At.newAt rfl _ _).alloc _, At.newAt (by simp) _ _, (HMr.out.alloc _).alloc _, ((Mod.refl _ _).new _).new _, by omega⟩
          have HF0 := Lib.hid F0
          clear F0
          have n1 : ¬ wo.heap.size = wr.heap.size + 1 := by omega
          have n2 : ¬ bp = wr.heap.size + 1 := by omega
          have hk1' := hk1
          have hk2' := hk2
          go_wp2_with ((go_at_call 46; (with_reducible refine (agg_new kind _).mono ?_); rintro r w2 ⟨rfl, hb2⟩; have F := HF0.out.drew.below hb2; have HF2 := Lib.hid F; have b0 := F.a.c 3 _ rfl; have b1 := F.a.c 2 _ rfl; have y2 := F.e.c 2 _ rfl; have y3 := F.e.c 3 _ rfl; have z0 := F.q.c 0 _ rfl; have z1 := F.q.c 1 _ rfl; have t0 := F.t.c 0 _ rfl; have t1 := F.t.c 1 _ rfl; have t2 := F.t.c 2 _ rfl; have t3 := F.t.c 3 _ rfl; have f0 := F.t.f 0; have f1 := F.t.f 1; have f2 := F.t.f 2; have f3 := F.t.f 3; have l0 := F.t.lt; have l1 := F.e.lt; have l2 := F.q.lt; have l3 := F.a.lt; clear F; clear hb2))
          refine (add1_any (wr.heap.size + 1) ⟨0, kind, 0, 0⟩ e3 _ ?haN hk1' hk2' _ _ ?hcN 1 (by omega)).mono ?_
          case haN => exact (((((HF2.out.set 0 (.int .i64 0) (by simp)).set 1 (.int .i64 kind) (by simp)).set 2 (.int .i64 0) (by simp)).alloc _)).t
          case hcN => exact cell_new _ _ _ _ 0 _ (by simp) rfl
          rintro r w3 ⟨⟨u, rfl⟩, ha3, hm3⟩
          generalize hP : PotV.add _ e3 = PP at ha3
          have HPP := Lib.hid hP
          clear hP
          obtain ⟨m1, m2, m3, m4⟩ := PP
          have F := (((((HF2.out.set 0 (.int .i64 0) (by simp)).set 1 (.int .i64 kind) (by simp)).set 2 (.int .i64 0) (by simp)).alloc _)).mod hm3 ha3
          have HF3 := Lib.hid F
          have b0 := F.a.c 3 _ rfl
          have b1 := F.a.c 2 _ rfl
          have y2 := F.e.c 2 _ rfl
          have y3 := F.e.c 3 _ rfl
          have z0 := F.q.c 0 _ rfl
          have z1 := F.q.c 1 _ rfl
          have t0 := F.t.c 0 _ rfl
          have t1 := F.t.c 1 _ rfl
          have t2 := F.t.c 2 _ rfl
          have t3 := F.t.c 3 _ rfl
          have f0 := F.t.f 0
          have f1 := F.t.f 1
          have f2 := F.t.f 2
          have f3 := F.t.f 3
          have l0 := F.t.lt
          have l1 := F.e.lt
          have l2 := F.q.lt
          have l3 := F.a.lt
          clear F
          clear ha3 hm3
          go_wp2_with (go_at_call 51; (refine (join_any m4 e4 _ _ _ ?_ ?_).mono ?_); (focus go_simp); (focus go_simp); rintro e w4 ⟨rfl, rfl⟩)
          clear b0 b1 y0 y1 y2 y3 z0 z1 t0 t1 t2 t3 f0 f1 f2 f3 l0 l1 l2 l3 cs
          refine wp_region_tl 6 (fun W => PutW bp bm wo.heap.size wr.heap.size (wr.heap.size + 1) z d kind e1 e2 e3 e4 s Lk [.int .i64 m1, .int .i64 m2, .int .i64 m3, .int .u64 (orI m4 e4)] wr W) (((HF3.out.set 3 (.int .u64 (orI m4 e4)) (by simp [PotV.cs])).alloc _).drew) (by kernel_rfl) (by kernel_rfl) ?_
          intro W F
          have HF := Lib.hid F
          have b0 := F.a.c 3 _ rfl
          have z0 := F.q.c 0 _ rfl
          have z1 := F.q.c 1 _ rfl
          have t0 := F.t.c 0 _ rfl
          have t1 := F.t.c 1 _ rfl
          have t2 := F.t.c 2 _ rfl
          have t3 := F.t.c 3 _ rfl
          clear F
          simp only [List.take_succ_cons, List.take_zero, List.drop_succ_cons, List.drop_zero]
          repeat still_step
          refine wpStill_nil ?_
          go_wp2_with (at_mapUpdate; refine wpList_update rfl _ _ _ rfl bm Lk (s, e2) ⟨m1, m2, m3, orI m4 e4⟩ HF.out.m rfl rfl rfl ?_; intro w5 hm5 hmd5; have HM5 := Lib.hid hm5; have HD5 := Lib.hid hmd5; clear hm5 hmd5)
          go_roundg (L.length - (k + 1))
          case measure => omega
          case rel =>
            refine ⟨k + 1, by omega, rfl, by go_num, ?_, ?_⟩
            · have e : (L.take (k + 1)).foldl (put1 kind ⟨e1, e2, e3, e4⟩) l = pSet Lk (s, e2) ⟨m1, m2, m3, orI m4 e4⟩ := by
                rw [fold_snoc _ _ _ _ _ HSk.out, ← HLk.out]
                have hw := congrArg PotV.who HPP.out
                simp only [PotV.add] at hw
                simp only [put1, HP.out, Option.getD_none, Option.getD_some, HPP.out]
                rw [← hw]
              rw [e]
              exact HM5.out
            · exact (HDr.out.trans HF.out.md (.refl _ _)).trans HD5.out (.refl _ _)
        | some x =>
          have HP := Lib.hid hp
          clear hp
          obtain ⟨p1, p2, p3, p4⟩ := x
          have P0 := At.new wr #[.int .i64 s, .int .i64 e2] 189
          have k0 := P0.c 0 _ rfl
          have k1 := P0.c 1 _ rfl
          have k2 := (HA2.out.alloc (.cells #[.int .i64 s, .int .i64 e2] 189)).c 3 _ rfl
          have HCl := Lib.hid (show Cl [(bp, 3, .map (some bm)), (wr.heap.size, 0, .int .i64 s), (wr.heap.size, 1, .int .i64 e2)] (wr.alloc (.cells #[.int .i64 s, .int .i64 e2] 189)) from Cl.cons k2 (Cl.cons k0 (Cl.cons k1 (Cl.nil _))))
          have HMc := Lib.hid (HMr.out.alloc (.cells #[.int .i64 s, .int .i64 e2] 189))
          clear P0 k0 k1 k2
          refine wp_region_pt 11 (fun x => Cl [(bp, 3, .map (some bm)), (wr.heap.size, 0, .int .i64 s), (wr.heap.size, 1, .int .i64 e2)] x ∧ MapAt x bm Lk) (.take 0 <| .take 1 <| .take 2 <| .take 3 <| .take 4 <| .take 5 <| .take 6 <| .take 7 <| .take 8 <| .doo 9 <| .doo 10 <| .done) ?plAS (by kernel_rfl) (by kernel_rfl) ?plBS (by intro c a d v w; cases d <;> exact fun h => h) ?plCS ?_
          case plBS =>
            simp only [Pt.with, List.getElem?_toArray, List.getElem?_cons_zero, List.getElem?_cons_succ]
            try rfl
          case plCS => exact ⟨HCl.out.drew, HMc.out.drew⟩
          have q0 : ∀ x, ((fun x => Cl [(bp, 3, .map (some bm)), (wr.heap.size, 0, .int .i64 s), (wr.heap.size, 1, .int .i64 e2)] x ∧ MapAt x bm Lk)) x → x.cell? ⟨bp, 3, none⟩ = some (.map (some bm)) := fun x h => h.1.at _ _ _ (by simp)
          have q1 : ∀ x, ((fun x => Cl [(bp, 3, .map (some bm)), (wr.heap.size, 0, .int .i64 s), (wr.heap.size, 1, .int .i64 e2)] x ∧ MapAt x bm Lk)) x → x.cell? ⟨wr.heap.size, 0, none⟩ = some (.int .i64 s) := fun x h => h.1.at _ _ _ (by simp)
          have q2 : ∀ x, ((fun x => Cl [(bp, 3, .map (some bm)), (wr.heap.size, 0, .int .i64 s), (wr.heap.size, 1, .int .i64 e2)] x ∧ MapAt x bm Lk)) x → x.cell? ⟨wr.heap.size, 1, none⟩ = some (.int .i64 e2) := fun x h => h.1.at _ _ _ (by simp)
          iterate 5 (refine wpPt_take (v := ?_) (by rfl) (fun w' hS => ?_) ?_; rotate_left; (focus (go_simp; with_reducible rfl)); simp only [Act.put, List.setIfInBounds_toArray, List.set_cons_zero, List.set_cons_succ])
          refine wpPt_take (v := .tuple #[(⟨p1, p2, p3, p4⟩ : PotV).val, .bool true]) (by rfl) (fun w' hS => ?_) ?_
          · refine (run_lookupO w' _ _ _ _ bm Lk (s, e2) hS.2 rfl rfl).trans ?_
            rw [HP.out]
            rfl
          simp only [Act.put, List.setIfInBounds_toArray, List.set_cons_zero, List.set_cons_succ]
          iterate 3 (refine wpPt_take (v := ?_) (by rfl) (fun w' hS => ?_) ?_; rotate_left; (focus (go_simp; with_reducible rfl)); simp only [Act.put, List.setIfInBounds_toArray, List.set_cons_zero, List.set_cons_succ])
          refine wpPt_do (by rfl) (fun K hK => ?_)
          go_wp2_with fail
          refine ⟨⟨Cl.alloc HCl.out _, HMc.out.alloc _⟩, ?_⟩
          refine wpPt_do (by rfl) (fun K hK => ?_)
          go_wp2_with fail
          refine ⟨⟨Cl.alloc HCl.out _, HMc.out.alloc _⟩, ?_⟩
          refine wpPt_done ?_
          clear q0 q1 q2
          have hbmr := HMr.out.lt
          have F0 : PutW bp bm wo.heap.size wr.heap.size (wr.heap.size + 1) z d kind e1 e2 e3 e4 s Lk [.int .i64 p1, .int .i64 p2, .int .i64 p3, .int .u64 p4] wr ((wr.alloc (.cells #[.int .i64 s, .int .i64 e2] 189)).alloc (.cells #[.int .i64 p1, .int .i64 p2, .int .i64 p3, .int .u64 p4] 210)) :=
            ⟨(HA2.out.alloc _).alloc _, (HE2.out.alloc _).alloc _, (At.newAt rfl _ _).alloc _, At.newAt (by simp) _ _, (HMr.out.alloc _).alloc _, ((Mod.refl _ _).new _).new _, by omega⟩
          have HF0 := Lib.hid F0
          clear F0
          have n1 : ¬ wo.heap.size = wr.heap.size + 1 := by omega
          have n2 : ¬ bp = wr.heap.size + 1 := by omega
          have hkp : p2 = kind := pGet_kind (HKk.out) HP.out
          have hk1' : 1 ≤ p2 := by omega
          have hk2' : p2 ≤ 4 := by omega
          clear hkp
          go_wp2_with fail
          refine (add1_any (wr.heap.size + 1) ⟨p1, p2, p3, p4⟩ e3 _ ?haS hk1' hk2' _ _ ?hcS 1 (by omega)).mono ?_
          case haS => exact ((HF0.out.drew.alloc _)).t
          case hcS => exact cell_new _ _ _ _ 0 _ (by simp) rfl
          rintro r w3 ⟨⟨u, rfl⟩, ha3, hm3⟩
          generalize hP : PotV.add _ e3 = PP at ha3
          have HPP := Lib.hid hP
          clear hP
          obtain ⟨m1, m2, m3, m4⟩ := PP
          have F := ((HF0.out.drew.alloc _)).mod hm3 ha3
          have HF3 := Lib.hid F
          have b0 := F.a.c 3 _ rfl
          have b1 := F.a.c 2 _ rfl
          have y2 := F.e.c 2 _ rfl
          have y3 := F.e.c 3 _ rfl
          have z0 := F.q.c 0 _ rfl
          have z1 := F.q.c 1 _ rfl
          have t0 := F.t.c 0 _ rfl
          have t1 := F.t.c 1 _ rfl
          have t2 := F.t.c 2 _ rfl
          have t3 := F.t.c 3 _ rfl
          have f0 := F.t.f 0
          have f1 := F.t.f 1
          have f2 := F.t.f 2
          have f3 := F.t.f 3
          have l0 := F.t.lt
          have l1 := F.e.lt
          have l2 := F.q.lt
          have l3 := F.a.lt
          clear F
          clear ha3 hm3
          go_wp2_with (go_at_call 51; (refine (join_any m4 e4 _ _ _ ?_ ?_).mono ?_); (focus go_simp); (focus go_simp); rintro e w4 ⟨rfl, rfl⟩)
          clear b0 b1 y0 y1 y2 y3 z0 z1 t0 t1 t2 t3 f0 f1 f2 f3 l0 l1 l2 l3 cs
          refine wp_region_tl 6 (fun W => PutW bp bm wo.heap.size wr.heap.size (wr.heap.size + 1) z d kind e1 e2 e3 e4 s Lk [.int .i64 m1, .int .i64 m2, .int .i64 m3, .int .u64 (orI m4 e4)] wr W) (((HF3.out.set 3 (.int .u64 (orI m4 e4)) (by simp [PotV.cs])).alloc _).drew) (by kernel_rfl) (by kernel_rfl) ?_
          intro W F
          have HF := Lib.hid F
          have b0 := F.a.c 3 _ rfl
          have z0 := F.q.c 0 _ rfl
          have z1 := F.q.c 1 _ rfl
          have t0 := F.t.c 0 _ rfl
          have t1 := F.t.c 1 _ rfl
          have t2 := F.t.c 2 _ rfl
          have t3 := F.t.c 3 _ rfl
          clear F
          simp only [List.take_succ_cons, List.take_zero, List.drop_succ_cons, List.drop_zero]
          repeat still_step
          refine wpStill_nil ?_
          go_wp2_with (at_mapUpdate; refine wpList_update rfl _ _ _ rfl bm Lk (s, e2) ⟨m1, m2, m3, orI m4 e4⟩ HF.out.m rfl rfl rfl ?_; intro w5 hm5 hmd5; have HM5 := Lib.hid hm5; have HD5 := Lib.hid hmd5; clear hm5 hmd5)
          go_roundg (L.length - (k + 1))
          case measure => omega
          case rel =>
            refine ⟨k + 1, by omega, rfl, by go_num, ?_, ?_⟩
            · have e : (L.take (k + 1)).foldl (put1 kind ⟨e1, e2, e3, e4⟩) l = pSet Lk (s, e2) ⟨m1, m2, m3, orI m4 e4⟩ := by
                rw [fold_snoc _ _ _ _ _ HSk.out, ← HLk.out]
                have hw := congrArg PotV.who HPP.out
                simp only [PotV.add] at hw
                simp only [put1, HP.out, Option.getD_none, Option.getD_some, HPP.out]
                rw [← hw]
              rw [e]
              exact HM5.out
            · exact (HDr.out.trans HF.out.md (.refl _ _)).trans HD5.out (.refl _ _)
      · have HX := Lib.hid (And.intro hm hmd)
        clear hm hmd
        go_wp2
        go_roundg 0
        case measure => omega
        case rel =>
          obtain ⟨hm, hmd⟩ := HX.out
          rw [List.take_of_length_le (by omega)] at hm
          exact .inr ⟨rfl, rfl, hm, D1.out.trans hmd (.refl _ _)⟩
end Go.Proofs.YtcanfmabkklidaaGreat
