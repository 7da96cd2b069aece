/- The order of places; the library's sort of them. -/
import Derived.Test.YtcanfmabkklidaaGreatMb9
import Derived.Test.YtcanfmabkklidaaGreatMb13
set_option linter.unusedSimpArgs false
set_option linter.unusedVariables false
set_option linter.unnecessarySimpa false
namespace Go.Proofs.YtcanfmabkklidaaGreat
open Go.RowKit

def cmpI (x y : Int) : Int := if x < y then -1 else if y < x then 1 else 0
theorem nan_any (x : Int) (w : World) : Calls Tryz.prog 127 #[.int .i64 x] w fun e w' => e = .returned (.bool false) ∧ w' = w := by
  have h : (x != x) = false := by simp
  go_enter Tryz.func127, Tryz.ntmps127
  go_wp2
  go_ret
  exact ⟨by first | rfl | simp, rfl⟩
theorem cmp_any (x y : Int) (w : World) : Calls Tryz.prog 119 #[.int .i64 x, .int .i64 y] w fun e w' => e = .returned (.int .i64 (cmpI x y)) ∧ w' = w := by
  rcases (by omega : x < y ∨ (y ≤ x ∧ y < x) ∨ (y ≤ x ∧ x ≤ y)) with h | ⟨h, h2⟩ | ⟨h, h2⟩
  · rw [show cmpI x y = -1 by simp [cmpI, h]]
    go_enter Tryz.func119, Tryz.ntmps119
    go_wp2_with (go_at_call 127; (with_reducible refine (nan_any _ _).mono ?_); rintro e w1 ⟨rfl, rfl⟩)
    go_ret
    exact ⟨rfl, rfl⟩
  · rw [show cmpI x y = 1 by simp [cmpI, h2]; omega]
    go_enter Tryz.func119, Tryz.ntmps119
    go_wp2_with (go_at_call 127; (with_reducible refine (nan_any _ _).mono ?_); rintro e w1 ⟨rfl, rfl⟩)
    go_ret
    exact ⟨rfl, rfl⟩
  · rw [show cmpI x y = 0 by simp [cmpI]; omega]
    go_enter Tryz.func119, Tryz.ntmps119
    go_wp2_with (go_at_call 127; (with_reducible refine (nan_any _ _).mono ?_); rintro e w1 ⟨rfl, rfl⟩)
    go_ret
    exact ⟨rfl, rfl⟩
def orC (a b : Int) : Int := if a = 0 then b else a
theorem or_any (a b : Int) (g : Nat) (w : World) (h0 : w.cell? ⟨g, 0, none⟩ = some (.int .i64 a)) (h1 : w.cell? ⟨g, 1, none⟩ = some (.int .i64 b)) :
    Calls Tryz.prog 118 #[.slice (some ⟨g, 0, none⟩) 2 2] w fun e w' => e = .returned (.int .i64 (orC a b)) ∧ w' = w := by
  by_cases ha : a = 0
  · subst ha
    by_cases hb : b = 0
    · subst hb
      go_enter Tryz.func118, Tryz.ntmps118
      go_wp2
      go_loopg [8] 2 (fun n v8 wr => wr = w ∧ ((n = 2 ∧ v8 = .int .i64 0) ∨ (n = 1 ∧ v8 = .int .i64 1) ∨ (n = 0 ∧ v8 = .int .i64 2)))
      case atStart => exact ⟨rfl, .inl ⟨rfl, rfl⟩⟩
      case round =>
        obtain ⟨rfl, hrel⟩ := hrel
        rcases hrel with ⟨rfl, rfl⟩ | ⟨rfl, rfl⟩ | ⟨rfl, rfl⟩
        · go_wp2
          go_roundg 1
          case measure => omega
          case rel => exact ⟨rfl, .inr (.inl ⟨rfl, rfl⟩)⟩
        · go_wp2
          go_roundg 0
          case measure => omega
          case rel => exact ⟨rfl, .inr (.inr ⟨rfl, rfl⟩)⟩
        · go_wp2
          go_ret
          exact ⟨rfl, rfl⟩
    · have hb' : (b == 0) = false := by simp [hb]
      have hb2 : (b != 0) = true := by simp [hb]
      clear hb
      go_enter Tryz.func118, Tryz.ntmps118
      go_wp2
      go_loopg [8] 1 (fun n v8 wr => wr = w ∧ ((n = 1 ∧ v8 = .int .i64 0) ∨ (n = 0 ∧ v8 = .int .i64 1)))
      case atStart => exact ⟨rfl, .inl ⟨rfl, rfl⟩⟩
      case round =>
        obtain ⟨rfl, hrel⟩ := hrel
        rcases hrel with ⟨rfl, rfl⟩ | ⟨rfl, rfl⟩
        · go_wp2
          go_roundg 0
          case measure => omega
          case rel => exact ⟨rfl, .inr ⟨rfl, rfl⟩⟩
        · go_wp2
          go_ret
          exact ⟨rfl, rfl⟩
  · have H := Lib.hid (show orC a b = a by simp [orC, ha])
    have ha' : (a == 0) = false := by simp [ha]
    have ha2 : (a != 0) = true := by simp [ha]
    clear ha
    go_enter Tryz.func118, Tryz.ntmps118
    go_wp2
    go_loopg [8] 0 (fun n v8 wr => wr = w ∧ v8 = .int .i64 0)
    case atStart => exact ⟨rfl, rfl⟩
    case round =>
      obtain ⟨rfl, rfl⟩ := hrel
      go_wp2
      go_ret
      exact ⟨(by rw [H.out]; rfl), rfl⟩
theorem grow3 (w : World) (a b c : Obj) : (((w.alloc a).alloc b).alloc c).drew = Go.Sort.grow (w.drewN 1) (#[a] ++ #[b] ++ #[c]) := by
  rw [Go.Sort.alloc_eq_grow, Go.Sort.alloc_eq_grow, Go.Sort.alloc_eq_grow, Go.Sort.grow_grow, Go.Sort.grow_grow]
  rfl
def cmpP (x y : Int × Int) : Int := orC (cmpI x.1 y.1) (cmpI x.2 y.2)
set_option maxRecDepth 100000 in
set_option maxHeartbeats 2000000 in
theorem cmpP_any (x y : Int × Int) (w : World) : Calls Tryz.prog 117 #[keyV x, keyV y] w fun e w' => e = .returned (.int .i64 (cmpP x y)) ∧ ∃ q os, w' = Go.Sort.grow (w.drewN q) os := by
  obtain ⟨a, b⟩ := x
  obtain ⟨c, d⟩ := y
  unfold keyV
  go_enter Tryz.func117, Tryz.ntmps117
  go_wp2
  have P1 := Lib.hid ((At.new w #[.int .i64 a, .int .i64 b] 189).alloc (.cells #[.int .i64 c, .int .i64 d] 189))
  have P2 := Lib.hid (At.newAt (w := w.alloc (.cells #[.int .i64 a, .int .i64 b] 189)) (b := w.heap.size + 1) (by simp) #[.int .i64 c, .int .i64 d] 189)
  have HC := Lib.hid (show Cl [(w.heap.size, 0, .int .i64 a), (w.heap.size, 1, .int .i64 b), (w.heap.size + 1, 0, .int .i64 c), (w.heap.size + 1, 1, .int .i64 d)] ((w.alloc (.cells #[.int .i64 a, .int .i64 b] 189)).alloc (.cells #[.int .i64 c, .int .i64 d] 189)) from
    Cl.cons (P1.out.c 0 _ rfl) (Cl.cons (P1.out.c 1 _ rfl) (Cl.cons (P2.out.c 0 _ rfl) (Cl.cons (P2.out.c 1 _ rfl) (Cl.nil _)))))
  refine wp_region_pt 12 (Cl [(w.heap.size, 0, .int .i64 a), (w.heap.size, 1, .int .i64 b), (w.heap.size + 1, 0, .int .i64 c), (w.heap.size + 1, 1, .int .i64 d)]) (.take 0 <| .take 1 <| .take 2 <| .take 3 <| .take 4 <| .take 5 <| .take 6 <| .take 7 <| .take 8 <| .take 9 <| .doo 10 <| .doo 11 <| .done) ?plA (by kernel_rfl) (by kernel_rfl) ?plB (by intro c a d v w; cases d <;> exact fun h => h) ?plC ?_
  case plB =>
    simp only [Pt.with, List.getElem?_toArray, List.getElem?_cons_zero, List.getElem?_cons_succ]
    try rfl
  case plC => exact HC.out.drew
  have q0 : ∀ x, Cl [(w.heap.size, 0, .int .i64 a), (w.heap.size, 1, .int .i64 b), (w.heap.size + 1, 0, .int .i64 c), (w.heap.size + 1, 1, .int .i64 d)] x → x.cell? ⟨w.heap.size, 0, none⟩ = some (.int .i64 a) := fun x h => h.at _ _ _ (by simp)
  have q1 : ∀ x, Cl [(w.heap.size, 0, .int .i64 a), (w.heap.size, 1, .int .i64 b), (w.heap.size + 1, 0, .int .i64 c), (w.heap.size + 1, 1, .int .i64 d)] x → x.cell? ⟨w.heap.size, 1, none⟩ = some (.int .i64 b) := fun x h => h.at _ _ _ (by simp)
  have q2 : ∀ x, Cl [(w.heap.size, 0, .int .i64 a), (w.heap.size, 1, .int .i64 b), (w.heap.size + 1, 0, .int .i64 c), (w.heap.size + 1, 1, .int .i64 d)] x → x.cell? ⟨w.heap.size + 1, 0, none⟩ = some (.int .i64 c) := fun x h => h.at _ _ _ (by simp)
  have q3 : ∀ x, Cl [(w.heap.size, 0, .int .i64 a), (w.heap.size, 1, .int .i64 b), (w.heap.size + 1, 0, .int .i64 c), (w.heap.size + 1, 1, .int .i64 d)] x → x.cell? ⟨w.heap.size + 1, 1, none⟩ = some (.int .i64 d) := fun x h => h.at _ _ _ (by simp)
  iterate 4 (refine wpPt_take (v := ?_) (by rfl) (fun w' hS => ?_) ?_; rotate_left; (focus (go_simp; with_reducible rfl)); simp only [Act.put, List.setIfInBounds_toArray, List.set_cons_zero, List.set_cons_succ])
  (refine wpPt_call (v := .int .i64 (cmpI a c)) (f := 119) (args := #[.int .i64 a, .int .i64 c]) (by rfl) (fun w' hS => ?_) (fun w' hS => cmp_any _ _ _) ?_; (focus (go_simp; done)); simp only [Act.put, List.setIfInBounds_toArray, List.set_cons_zero, List.set_cons_succ])
  iterate 4 (refine wpPt_take (v := ?_) (by rfl) (fun w' hS => ?_) ?_; rotate_left; (focus (go_simp; with_reducible rfl)); simp only [Act.put, List.setIfInBounds_toArray, List.set_cons_zero, List.set_cons_succ])
  (refine wpPt_call (v := .int .i64 (cmpI b d)) (f := 119) (args := #[.int .i64 b, .int .i64 d]) (by rfl) (fun w' hS => ?_) (fun w' hS => cmp_any _ _ _) ?_; (focus (go_simp; done)); simp only [Act.put, List.setIfInBounds_toArray, List.set_cons_zero, List.set_cons_succ])
  refine wpPt_do (by rfl) (fun K hK => ?_)
  go_wp2_with fail
  refine ⟨HC.out.alloc _, ?_⟩
  refine wpPt_do (by rfl) (fun K hK => ?_)
  go_wp2_with (go_at_call 118; (refine (or_any (cmpI a c) (cmpI b d) _ _ ?_ ?_).mono ?_); (focus go_simp); (focus go_simp); rintro e w3 ⟨rfl, rfl⟩)
  refine ⟨(HC.out.alloc _).drew, ?_⟩
  refine wpPt_done ?_
  go_wp2_with fail
  go_ret
  exact ⟨rfl, 1, _, grow3 _ _ _ _⟩
def keyCs (k : Int × Int) : List Value := [.int .i64 k.1, .int .i64 k.2]
theorem keycs_len (k : Int × Int) : (keyCs k).length = 2 := rfl
theorem leP_cmp (x y : Int × Int) : Go.Proofs.ltOf cmpP y x = false ↔ leP x y = true := by
  obtain ⟨a, b⟩ := x
  obtain ⟨c, d⟩ := y
  unfold Go.Proofs.ltOf cmpP orC cmpI leP
  simp only [decide_eq_true_eq, decide_eq_false_iff_not]
  split <;> split <;> (try split) <;> (try split) <;> omega
theorem swoP : Go.Sort.SWO (Go.Proofs.ltOf cmpP) where
  irrefl x := (leP_cmp x x).2 (by simp [leP])
  trans x y z h1 h2 := by
    have n1 : ¬ leP y x = true := fun h => by rw [(leP_cmp y x).2 h] at h1; cases h1
    have n2 : ¬ leP z y = true := fun h => by rw [(leP_cmp z y).2 h] at h2; cases h2
    have n3 : ¬ leP z x = true := by simp only [leP, decide_eq_true_eq] at n1 n2 ⊢; omega
    cases h : Go.Proofs.ltOf cmpP x z with
    | true => rfl
    | false => exact absurd ((leP_cmp z x).1 h) n3
  ntrans x y z h1 h2 := by
    have n1 := (leP_cmp y x).1 h1
    have n2 := (leP_cmp z y).1 h2
    refine (leP_cmp z x).2 ?_
    simp only [leP, decide_eq_true_eq] at n1 n2 ⊢
    omega
theorem leP_total (x y : Int × Int) : (leP x y || leP y x) = true := by
  simp only [leP, Bool.or_eq_true, decide_eq_true_eq]
  omega
theorem leP_trans (x y z : Int × Int) (h1 : leP x y = true) (h2 : leP y z = true) : leP x z = true := by
  simp only [leP, decide_eq_true_eq] at *
  omega
theorem leP_anti (x y : Int × Int) (h1 : leP x y = true) (h2 : leP y x = true) : x = y := by
  obtain ⟨a, b⟩ := x
  obtain ⟨c, d⟩ := y
  simp only [leP, decide_eq_true_eq] at *
  have : a = c ∧ b = d := by omega
  rw [this.1, this.2]
/-- a sorted list is the sort's -/
theorem sorted_eq : ∀ (l m : List (Int × Int)), l.Perm m → l.Pairwise (fun x y => leP x y = true) → m.Pairwise (fun x y => leP x y = true) → l = m
  | [], m, hp, _, _ => hp.nil_eq
  | x :: l, [], hp, _, _ => absurd hp.length_eq (by simp)
  | x :: l, y :: m, hp, h1, h2 => by
    have hxy : x = y := by
      have hx : x ∈ y :: m := hp.subset (by simp)
      have hy : y ∈ x :: l := hp.symm.subset (by simp)
      rcases List.mem_cons.1 hx with rfl | hx
      · rfl
      · rcases List.mem_cons.1 hy with rfl | hy
        · rfl
        · exact leP_anti x y ((List.pairwise_cons.1 h1).1 y hy) ((List.pairwise_cons.1 h2).1 x hx)
    subst hxy
    rw [sorted_eq l m (List.Perm.cons_inv hp) (List.pairwise_cons.1 h1).2 (List.pairwise_cons.1 h2).2]
theorem sorted_merge (l m : List (Int × Int)) (hp : l.Perm m) (h1 : l.Pairwise (fun x y => leP x y = true)) : l = m.mergeSort leP :=
  sorted_eq l _ (hp.trans (List.mergeSort_perm m leP).symm) h1 (List.pairwise_mergeSort (fun a b c => leP_trans a b c) (fun a b => leP_total a b) m)
end Go.Proofs.YtcanfmabkklidaaGreat
set_option linter.unusedSimpArgs false
set_option linter.unusedVariables false
set_option linter.unnecessarySimpa false
namespace Go.Proofs.YtcanfmabkklidaaGreat
open Go.RowKit

theorem sortW_mod (w : World) (g n : Nat) (d : Array (Int × Int)) (os : Array Obj) : Mod [g] w (Go.Proofs.sortWorldK keyCs 2 w g 0 n d os) := by
  refine ⟨rfl, rfl, rfl, ?_, fun k hk hn => ?_⟩
  · simp [Go.Proofs.sortWorldK, Go.Sort.grow, Go.Sort.putRowK, Go.Sort.putRow, Go.Sort.mapBlock, Go.Sort.ahead]
  · have hne : ¬ g = k := fun e => hn (by simp [e])
    simp [Go.Proofs.sortWorldK, Go.Sort.grow, Go.Sort.putRowK, Go.Sort.putRow, Go.Sort.mapBlock, Go.Sort.ahead, Array.getElem?_append, hk, Array.getElem?_modify, Array.getElem_modify, hne]
theorem sortW_at (w : World) (g n : Nat) (d : Array (Int × Int)) (os : Array Obj) (cur : Array Value) (e : TypeId) (h : w.heap[g]? = some (.cells cur e (0, 0))) :
    (Go.Proofs.sortWorldK keyCs 2 w g 0 n d os).heap[g]? = some (.cells (Go.Sort.putCells id 0 (Go.Sort.flatK keyCs 2 d) cur) e (0, 0)) := by
  have hk : g < w.heap.size := (Array.getElem?_eq_some_iff.1 h).1
  have hg := (Array.getElem?_eq_some_iff.1 h).2
  simp [Go.Proofs.sortWorldK, Go.Sort.grow, Go.Sort.putRowK, Go.Sort.putRow, Go.Sort.mapBlock, Go.Sort.ahead, Array.getElem?_append, hk, Array.getElem?_modify, Array.getElem_modify, hg, Go.Sort.onCells]
theorem flatK_list (d : Array (Int × Int)) (k : Nat) (hk : k < d.size * 2) : (d.toList.flatMap keyCs)[k]? = some ((Go.Sort.flatK keyCs 2 d)[k]!) := by
  rw [flat_at keycs_len (by omega), Go.Sort.get_flatK keyCs 2 d k hk]
  have h1 : k / 2 < d.size := by omega
  have h2 : k % 2 < 2 := Nat.mod_lt _ (by omega)
  simp [h1]
  have h3 : k % 2 < (keyCs d[k / 2]).length := h2
  simp [h3]
theorem holds_own {w : World} {g : Nat} {cur : Array Value} {l : List (Int × Int)} (hg : w.heap[g]? = some (.cells cur 189 (0, 0))) (ht : cur.toList.take (l.length * 2) = l.flatMap keyCs) :
    Go.Sort.HoldsK keyCs 2 w g 0 l.toArray := by
  intro j hj
  have hj' : j < l.length * 2 := by simpa using hj
  have h1 := flatK_list l.toArray j (by simpa using hj')
  have h2 : (l.flatMap keyCs)[j]? = cur[j]? := by
    rw [← ht, List.getElem?_take, if_pos hj']
    simp
  constructor
  · simp only [World.cell?, hg, Nat.zero_add]
    have h3 : cur[j]? = some ((Go.Sort.flatK keyCs 2 l.toArray)[j]!) := by rw [← h2]; simpa using h1
    simpa using h3
  · simp [World.frozen?, hg]
theorem perm_of {d d' : Array (Int × Int)} (h : Go.Sort.PermIn 0 d.size d d') : d'.toList.Perm d.toList := by
  obtain ⟨h1, _, h3⟩ := h
  have e1 : d'.extract 0 d.size = d' := by rw [← h1]; simp
  have e2 : d.extract 0 d.size = d := by simp
  rwa [e1, e2] at h3
theorem sorted_of {d : Array (Int × Int)} {n : Nat} (hn : n = d.size) (h : Go.Sort.SortedIn (Go.Proofs.ltOf cmpP) 0 n d) : d.toList.Pairwise (fun x y => leP x y = true) := by
  rw [List.pairwise_iff_getElem]
  intro i j hi hj hij
  have h1 := h i j (by omega) hij (by rw [hn]; simpa using hj)
  simp only [Array.length_toList] at hi hj
  have e1 : d[j]! = d[j] := by simp [hj]
  have e2 : d[i]! = d[i] := by simp [hi]
  rw [e1, e2] at h1
  simpa using (leP_cmp d[i] d[j]).1 h1
theorem put_take {cur : Array Value} {d : Array (Int × Int)} {n : Nat} (hn : d.size = n) (hc : n * 2 ≤ cur.size) : (Go.Sort.putCells id 0 (Go.Sort.flatK keyCs 2 d) cur).toList.take (n * 2) = d.toList.flatMap keyCs := by
  apply List.ext_getElem?
  intro k
  rw [List.getElem?_take]
  split
  · rename_i hk
    rw [flatK_list d k (by rw [hn]; exact hk)]
    have hk2 : k < cur.size := by omega
    simp [Go.Sort.putCells, hk2, hn, hk]
  · rename_i hk
    symm
    rw [List.getElem?_eq_none]
    rw [flat_len keycs_len]
    simp [hn]
    omega
set_option maxRecDepth 100000 in
theorem sort_any (base : Nat) (v : Value) (l : List (Int × Int)) (w : World) (h : w.ownsRow base 189 2 v l.length (l.flatMap keyCs)) (hl : l.length ≤ 1000000) (hp : 0 < l.length) :
    Calls Tryz.prog 125 #[v, .func (.func 117) #[] #[]] w fun e w' => (∃ u, e = .returned u) ∧ w'.ownsRow base 189 2 v l.length ((l.mergeSort leP).flatMap keyCs) ∧ Mod v.ownBlock.toList w w' := by
  rcases h.2 with ⟨_, h0⟩ | ⟨g, cap, cur, rfl, hb, hg, h1, h2, h3, h4⟩
  · omega
  have hlt : g < w.heap.size := (Array.getElem?_eq_some_iff.1 hg).1
  have eg : ∀ args w, (callFunc 117 args).run Tryz.prog w = .ok (.enter 117 args) w := enters_of Tryz.func117 (by kernel_rfl) rfl
  have hcmp : Go.Proofs.CmpLays Tryz.prog 117 #[] keyCs 2 cmpP g 0 l.toArray.size w := fun _ _ _ _ x y => cmpP_any x y _
  have hcon := Go.Proofs.AnyQ.slices_SortFunc srt_lays 2 Tryz.isAgg189 Tryz.sizeOf189 keyCs keycs_len (fun x v hv => by simp [keyCs] at hv; rcases hv with rfl | rfl <;> rfl) cmpP swoP 117 #[] g 0 cap l.toArray w eg hcmp (holds_own hg h4) hlt (by simp; omega)
  have hs : l.toArray.size = l.length := by simp
  rw [hs] at hcon
  change Calls Tryz.prog 125 _ _ _ at hcon
  refine hcon.mono fun e w' hh => ?_
  obtain ⟨he, d', n, os, hp1, hp2, rfl⟩ := hh
  have hpm := perm_of (d := l.toArray) (by rw [hs]; exact hp1)
  have hsz : d'.size = l.length := by have := hpm.length_eq; simpa using this
  have hso := sorted_of (d := d') (n := l.length) hsz.symm (by simpa using hp2)
  have heq : d'.toList = l.mergeSort leP := sorted_merge _ _ (by simpa using hpm) hso
  refine ⟨⟨_, he⟩, ⟨by rw [flat_len keycs_len, List.length_mergeSort], .inr ⟨g, cap, _, rfl, hb, sortW_at w g n d' os cur 189 hg, h1, h2, ?_, ?_⟩⟩, by simpa [Value.ownBlock] using sortW_mod w g n d' os⟩
  · simpa [Go.Sort.putCells] using h3
  · rw [← heq]
    refine put_take hsz ?_
    have := Nat.mul_le_mul_right 2 h1
    omega
theorem len0_any (w : World) : Calls Tryz.prog 131 #[.int .u64 0] w fun e w' => e = .returned (.int .i64 0) ∧ w' = w := by
  have h := Go.Proofs.Any.bits_Len (Go.Proofs.SlLaysF0.n15.bits (P := Tryz.prog) (ρ := srt_ren) { srt_lays with }) 0 w (by omega) (by omega)
  exact h
theorem ins0_any (w : World) : Calls Tryz.prog 132 #[.slice none 0 0, .int .i64 0, .int .i64 0, .func (.func 117) #[] #[]] w fun e w' => (∃ u, e = .returned u) ∧ w' = w := by
  go_enter Tryz.func132, Tryz.ntmps132
  go_wp2
  go_loopg [8] 0 (fun n v8 wr => wr = w ∧ v8 = .int .i64 1)
  case atStart => exact ⟨rfl, rfl⟩
  case round =>
    obtain ⟨rfl, rfl⟩ := hrel
    go_wp2
    go_end0
    exact ⟨⟨_, rfl⟩, rfl⟩
theorem pdq0_any (w : World) : Calls Tryz.prog 130 #[.slice none 0 0, .int .i64 0, .int .i64 0, .int .i64 0, .func (.func 117) #[] #[]] w fun e w' => (∃ u, e = .returned u) ∧ w' = w := by
  go_enter Tryz.func130, Tryz.ntmps130
  go_wp2
  refine wp_loop_rounds 1 ?_
  rw [rounds_succ]
  go_wp2_with (go_at_call 132; (with_reducible refine (ins0_any _).mono ?_); rintro e w1 ⟨⟨u, rfl⟩, rfl⟩)
  refine bodyPost_ret (results_none rfl _ _ _) rfl ?_
  exact ⟨⟨_, rfl⟩, rfl⟩
theorem sort0_any (w : World) : Calls Tryz.prog 125 #[.slice none 0 0, .func (.func 117) #[] #[]] w fun e w' => (∃ u, e = .returned u) ∧ w' = w := by
  go_enter Tryz.func125, Tryz.ntmps125
  go_wp2_with (first
    | (go_at_call 131; (with_reducible refine (len0_any _).mono ?_); rintro e w1 ⟨rfl, rfl⟩)
    | (go_at_call 130; (with_reducible refine (pdq0_any _).mono ?_); rintro e w1 ⟨⟨u, rfl⟩, rfl⟩))
  go_end0
  exact ⟨⟨_, rfl⟩, rfl⟩
end Go.Proofs.YtcanfmabkklidaaGreat
