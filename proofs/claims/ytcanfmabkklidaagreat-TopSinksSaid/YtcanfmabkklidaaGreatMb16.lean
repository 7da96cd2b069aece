/- Copies of lists. -/
import Derived.Test.YtcanfmabkklidaaGreatMb10
import Derived.Test.YtcanfmabkklidaaGreatMb11
import Derived.WalkSpells
set_option linter.unusedSimpArgs false
set_option linter.unusedVariables false
set_option linter.unnecessarySimpa false
namespace Go.Proofs.YtcanfmabkklidaaGreat
open Go.RowKit

theorem addr_add (b o j : Nat) : (⟨b, o, none⟩ : Addr).add j = ⟨b, o + j, none⟩ := by unfold Addr.add; split <;> simp_all
theorem At.news {w : World} {g : Nat} {xs : List Value} (h : At w g xs) : ∀ j u, xs[j]? = some u → w.cell? ((⟨g, 0, none⟩ : Addr).add j) = some u := fun j u hj => by
  rw [addr_add, Nat.zero_add]
  exact h.c j u hj
theorem rowcs_len (x : RowV) : x.cs.length = 5 := rfl
theorem relcs_len (x : RelV) : x.cs.length = 4 := rfl
theorem sinkcs_len' (x : SinkV) : x.cs.length = 5 := rfl
theorem info49 : (Tryz.prog.info? 49).map (fun i => (i.zero, i.size, i.bytes)) = some (some (.agg #[.int .u64 0, .int .u64 0, .int .i64 0, .int .i64 0, .int .i64 0]), 5, 40) := by kernel_rfl
theorem info64 : (Tryz.prog.info? 64).map (fun i => (i.zero, i.size, i.bytes)) = some (some (.agg #[.int .i64 0, .int .i64 0, .int .i64 0, .int .i64 0, .int .u64 0]), 5, 40) := by kernel_rfl
theorem info52 : (Tryz.prog.info? 52).map (fun i => (i.zero, i.size, i.bytes)) = some (some (.agg #[.int .i64 0, .int .i64 0, .int .i64 0, .bool false]), 4, 32) := by kernel_rfl
/-- the cells of a list that is read -/
theorem RdR.news {α : Type} {cs : α → List Value} {k : Nat} (hk : ∀ x, (cs x).length = k) (h0 : 0 < k) {w : World} {ad : Addr} {n c : Nat} {l : List α} {S : List Nat} (h : RdR cs k w (.slice (some ad) n c) l S) :
    n = l.length ∧ ∀ j u, (l.flatMap cs)[j]? = some u → w.cell? (ad.add j) = some u := by
  obtain ⟨a, c', hv, h1, h2, h3⟩ := h
  simp only [Value.slice.injEq] at hv
  obtain ⟨rfl, rfl, rfl⟩ := hv
  refine ⟨rfl, fun j u hj => ?_⟩
  rcases h3 with ⟨rfl, _⟩ | ⟨b, o, _, hab, _, h4⟩
  · simp at hj
  · simp only [Option.some.injEq] at hab
    subst hab
    rw [flat_at hk h0] at hj
    cases hx : l[j / k]? with
    | none => rw [hx] at hj; simp at hj
    | some x =>
      rw [hx] at hj
      have h5 := h4 (j / k) x hx (j % k) u hj
      have e : o + j / k * k + j % k = o + j := by
        have := Nat.div_add_mod j k
        rw [Nat.mul_comm] at this
        omega
      rw [e] at h5
      have hadd : (⟨b, o, none⟩ : Addr).add j = ⟨b, o + j, none⟩ := by unfold Addr.add; split <;> simp_all
      rw [hadd]
      exact h5
theorem own_empty (w : World) (e : TypeId) (k : Nat) : (w.alloc (.cells #[] e)).ownsRow w.heap.size e k (.slice (some ⟨w.heap.size, 0, none⟩) 0 0) 0 [] :=
  ⟨by simp, .inr ⟨w.heap.size, 0, #[], rfl, Nat.le_refl _, by rw [heap_alloc_new], by omega, by simp, by simp, by simp⟩⟩
theorem new_cell (w : World) (o : Obj) (a : Addr) (u : Value) (h : w.cell? a = some u) : (w.alloc o).cell? a = some u := by
  rw [World.cell?_of_block (Below.heap_alloc w o a.block (World.block_lt_of_cell? w _ h))]
  exact h
theorem flat_one {α : Type} {cs : α → List Value} (h : ∀ x, ∀ u ∈ cs x, u.oneCell' = true) (l : List α) : ∀ u ∈ l.flatMap cs, u.oneCell' = true := fun u hu => by
  obtain ⟨x, _, hx⟩ := List.mem_flatMap.1 hu
  exact h x u hx
theorem SinkV.one (x : SinkV) : ∀ u ∈ x.cs, u.oneCell' = true := by simp [SinkV.cs, Value.oneCell']
theorem OpV.one (x : OpV) : ∀ u ∈ x.cs, u.oneCell' = true := by simp [OpV.cs, Value.oneCell']
theorem RowV.one (x : RowV) : ∀ u ∈ x.cs, u.oneCell' = true := by simp [RowV.cs, Value.oneCell']
theorem RelV.one (x : RelV) : ∀ u ∈ x.cs, u.oneCell' = true := by simp [RelV.cs, Value.oneCell']
theorem InpV.one (x : InpV) : ∀ u ∈ x.cs, u.oneCell' = true := by simp [InpV.cs, Value.oneCell']
set_option maxRecDepth 100000 in
set_option maxHeartbeats 2000000 in
theorem clone36 (v : Value) (l : List SinkV) (S : List Nat) (w : World) (h : RdR SinkV.cs 5 w v l S) (hl : l.length ≤ 1000000) :
    Calls Tryz.prog 36 #[v] w fun e w' => ∃ v', e = .returned v' ∧ w'.ownsRow w.heap.size 49 5 v' l.length (l.flatMap SinkV.cs) ∧ Below w.heap.size w w' := by
  obtain ⟨i0, hi3, hz0, hz1, hz2⟩ := info_parts info49
  have HI := Lib.hid (And.intro hi3 (And.intro hz0 (And.intro hz1 hz2)))
  clear hi3 hz0 hz1 hz2
  have h' := h
  obtain ⟨a, c, rfl, h1, h2, h3⟩ := h'
  cases a with
  | none =>
    rcases h3 with ⟨rfl, _, hc⟩ | ⟨b, o, _, ha, _⟩
    · obtain rfl := hc rfl
      clear h h1 h2 hc
      have q22 : ∀ (w : World) (a : Option Addr) (n c n' c' : Nat), (binOp .eql 26 (.slice a n c) (.slice none n' c')).run Tryz.prog w = .ok (.bool a.isNone) w := fun w a n c n' c' => Lib.run_eql_slice_nil w _ _ a n c n' c' Tryz.underlying26
      go_enter Tryz.func36, Tryz.ntmps36
      go_wp2
      go_ret
      exact ⟨_, rfl, World.ownsRow_nil _ _ _ _, Below.refl _ _⟩
    · simp at ha
  | some ad =>
    have HN := Lib.hid (RdR.news sinkcs_len' (by omega) h).2
    have HL := Lib.hid hl
    have HF := Lib.hid (flat_len sinkcs_len' l)
    clear h h3
    have q22 : ∀ (w : World) (a : Option Addr) (n c n' c' : Nat), (binOp .eql 26 (.slice a n c) (.slice none n' c')).run Tryz.prog w = .ok (.bool a.isNone) w := fun w a n c n' c' => Lib.run_eql_slice_nil w _ _ a n c n' c' Tryz.underlying26
    go_enter Tryz.func36, Tryz.ntmps36
    go_wp2_with (at_builtin; refine wpList_append_own _ rfl (.tmp 5) (.tmp 6) 26 rfl w.heap.size 49 i0 _ 5 40 Tryz.underlying26 HI.out.1 HI.out.2.1 HI.out.2.2.1 HI.out.2.2.2 rfl (by decide) (.slice (some ⟨w.heap.size, 0, none⟩) 0 0) 0 [] rfl (own_empty w 49 5) ad l.length c (l.flatMap SinkV.cs) rfl HF.out (fun j u hj => new_cell w _ _ _ (HN.out j u hj)) (flat_one SinkV.one l) (by have := HL.out; unfold maxLen; omega) (by have := HL.out; omega) (by simp) ?_; intro v' w5 hown5 hgrow5 _; have HO5 := Lib.hid hown5; have HG5 := Lib.hid hgrow5; clear hown5 hgrow5)
    go_ret
    refine ⟨_, rfl, by simpa using HO5.out, ((Below.refl _ _).alloc (Nat.le_refl _) _).grown HG5.out (by simp) (fun k hk => by simp [Value.ownBlock] at hk; omega)⟩
set_option maxRecDepth 100000 in
set_option maxHeartbeats 2000000 in
theorem clone62 (v : Value) (l : List OpV) (S : List Nat) (w : World) (h : RdR OpV.cs 2 w v l S) (hl : l.length ≤ 1000000) :
    Calls Tryz.prog 62 #[v] w fun e w' => ∃ v', e = .returned v' ∧ w'.ownsRow w.heap.size 128 2 v' l.length (l.flatMap OpV.cs) ∧ Below w.heap.size w w' := by
  obtain ⟨i0, hi3, hz0, hz1, hz2⟩ := info_parts info76
  have HI := Lib.hid (And.intro hi3 (And.intro hz0 (And.intro hz1 hz2)))
  clear hi3 hz0 hz1 hz2
  have h' := h
  obtain ⟨a, c, rfl, h1, h2, h3⟩ := h'
  cases a with
  | none =>
    rcases h3 with ⟨rfl, _, hc⟩ | ⟨b, o, _, ha, _⟩
    · obtain rfl := hc rfl
      clear h h1 h2 hc
      have q22 : ∀ (w : World) (a : Option Addr) (n c n' c' : Nat), (binOp .eql 34 (.slice a n c) (.slice none n' c')).run Tryz.prog w = .ok (.bool a.isNone) w := fun w a n c n' c' => Lib.run_eql_slice_nil w _ _ a n c n' c' Tryz.underlying34
      go_enter Tryz.func62, Tryz.ntmps62
      go_wp2
      go_ret
      exact ⟨_, rfl, World.ownsRow_nil _ _ _ _, Below.refl _ _⟩
    · simp at ha
  | some ad =>
    have HN := Lib.hid (RdR.news opcs_len (by omega) h).2
    have HL := Lib.hid hl
    have HF := Lib.hid (flat_len opcs_len l)
    clear h h3
    have q22 : ∀ (w : World) (a : Option Addr) (n c n' c' : Nat), (binOp .eql 34 (.slice a n c) (.slice none n' c')).run Tryz.prog w = .ok (.bool a.isNone) w := fun w a n c n' c' => Lib.run_eql_slice_nil w _ _ a n c n' c' Tryz.underlying34
    go_enter Tryz.func62, Tryz.ntmps62
    go_wp2_with (at_builtin; refine wpList_append_own _ rfl (.tmp 5) (.tmp 6) 34 rfl w.heap.size 128 i0 _ 2 16 Tryz.underlying34 HI.out.1 HI.out.2.1 HI.out.2.2.1 HI.out.2.2.2 rfl (by decide) (.slice (some ⟨w.heap.size, 0, none⟩) 0 0) 0 [] rfl (own_empty w 128 2) ad l.length c (l.flatMap OpV.cs) rfl HF.out (fun j u hj => new_cell w _ _ _ (HN.out j u hj)) (flat_one OpV.one l) (by have := HL.out; unfold maxLen; omega) (by have := HL.out; omega) (by simp) ?_; intro v' w5 hown5 hgrow5 _; have HO5 := Lib.hid hown5; have HG5 := Lib.hid hgrow5; clear hown5 hgrow5)
    go_ret
    refine ⟨_, rfl, by simpa using HO5.out, ((Below.refl _ _).alloc (Nat.le_refl _) _).grown HG5.out (by simp) (fun k hk => by simp [Value.ownBlock] at hk; omega)⟩
set_option maxRecDepth 100000 in
set_option maxHeartbeats 2000000 in
theorem clone70 (v : Value) (l : List RowV) (S : List Nat) (w : World) (h : RdR RowV.cs 5 w v l S) (hl : l.length ≤ 1000000) :
    Calls Tryz.prog 70 #[v] w fun e w' => ∃ v', e = .returned v' ∧ w'.ownsRow w.heap.size 64 5 v' l.length (l.flatMap RowV.cs) ∧ Below w.heap.size w w' := by
  obtain ⟨i0, hi3, hz0, hz1, hz2⟩ := info_parts info64
  have HI := Lib.hid (And.intro hi3 (And.intro hz0 (And.intro hz1 hz2)))
  clear hi3 hz0 hz1 hz2
  have h' := h
  obtain ⟨a, c, rfl, h1, h2, h3⟩ := h'
  cases a with
  | none =>
    rcases h3 with ⟨rfl, _, hc⟩ | ⟨b, o, _, ha, _⟩
    · obtain rfl := hc rfl
      clear h h1 h2 hc
      have q22 : ∀ (w : World) (a : Option Addr) (n c n' c' : Nat), (binOp .eql 59 (.slice a n c) (.slice none n' c')).run Tryz.prog w = .ok (.bool a.isNone) w := fun w a n c n' c' => Lib.run_eql_slice_nil w _ _ a n c n' c' Tryz.underlying59
      go_enter Tryz.func70, Tryz.ntmps70
      go_wp2
      go_ret
      exact ⟨_, rfl, World.ownsRow_nil _ _ _ _, Below.refl _ _⟩
    · simp at ha
  | some ad =>
    have HN := Lib.hid (RdR.news rowcs_len (by omega) h).2
    have HL := Lib.hid hl
    have HF := Lib.hid (flat_len rowcs_len l)
    clear h h3
    have q22 : ∀ (w : World) (a : Option Addr) (n c n' c' : Nat), (binOp .eql 59 (.slice a n c) (.slice none n' c')).run Tryz.prog w = .ok (.bool a.isNone) w := fun w a n c n' c' => Lib.run_eql_slice_nil w _ _ a n c n' c' Tryz.underlying59
    go_enter Tryz.func70, Tryz.ntmps70
    go_wp2_with (at_builtin; refine wpList_append_own _ rfl (.tmp 5) (.tmp 6) 59 rfl w.heap.size 64 i0 _ 5 40 Tryz.underlying59 HI.out.1 HI.out.2.1 HI.out.2.2.1 HI.out.2.2.2 rfl (by decide) (.slice (some ⟨w.heap.size, 0, none⟩) 0 0) 0 [] rfl (own_empty w 64 5) ad l.length c (l.flatMap RowV.cs) rfl HF.out (fun j u hj => new_cell w _ _ _ (HN.out j u hj)) (flat_one RowV.one l) (by have := HL.out; unfold maxLen; omega) (by have := HL.out; omega) (by simp) ?_; intro v' w5 hown5 hgrow5 _; have HO5 := Lib.hid hown5; have HG5 := Lib.hid hgrow5; clear hown5 hgrow5)
    go_ret
    refine ⟨_, rfl, by simpa using HO5.out, ((Below.refl _ _).alloc (Nat.le_refl _) _).grown HG5.out (by simp) (fun k hk => by simp [Value.ownBlock] at hk; omega)⟩
set_option maxRecDepth 100000 in
set_option maxHeartbeats 2000000 in
theorem clone82 (v : Value) (l : List RelV) (S : List Nat) (w : World) (h : RdR RelV.cs 4 w v l S) (hl : l.length ≤ 1000000) :
    Calls Tryz.prog 82 #[v] w fun e w' => ∃ v', e = .returned v' ∧ w'.ownsRow w.heap.size 52 4 v' l.length (l.flatMap RelV.cs) ∧ Below w.heap.size w w' := by
  obtain ⟨i0, hi3, hz0, hz1, hz2⟩ := info_parts info52
  have HI := Lib.hid (And.intro hi3 (And.intro hz0 (And.intro hz1 hz2)))
  clear hi3 hz0 hz1 hz2
  have h' := h
  obtain ⟨a, c, rfl, h1, h2, h3⟩ := h'
  cases a with
  | none =>
    rcases h3 with ⟨rfl, _, hc⟩ | ⟨b, o, _, ha, _⟩
    · obtain rfl := hc rfl
      clear h h1 h2 hc
      have q22 : ∀ (w : World) (a : Option Addr) (n c n' c' : Nat), (binOp .eql 46 (.slice a n c) (.slice none n' c')).run Tryz.prog w = .ok (.bool a.isNone) w := fun w a n c n' c' => Lib.run_eql_slice_nil w _ _ a n c n' c' Tryz.underlying46
      go_enter Tryz.func82, Tryz.ntmps82
      go_wp2
      go_ret
      exact ⟨_, rfl, World.ownsRow_nil _ _ _ _, Below.refl _ _⟩
    · simp at ha
  | some ad =>
    have HN := Lib.hid (RdR.news relcs_len (by omega) h).2
    have HL := Lib.hid hl
    have HF := Lib.hid (flat_len relcs_len l)
    clear h h3
    have q22 : ∀ (w : World) (a : Option Addr) (n c n' c' : Nat), (binOp .eql 46 (.slice a n c) (.slice none n' c')).run Tryz.prog w = .ok (.bool a.isNone) w := fun w a n c n' c' => Lib.run_eql_slice_nil w _ _ a n c n' c' Tryz.underlying46
    go_enter Tryz.func82, Tryz.ntmps82
    go_wp2_with (at_builtin; refine wpList_append_own _ rfl (.tmp 5) (.tmp 6) 46 rfl w.heap.size 52 i0 _ 4 32 Tryz.underlying46 HI.out.1 HI.out.2.1 HI.out.2.2.1 HI.out.2.2.2 rfl (by decide) (.slice (some ⟨w.heap.size, 0, none⟩) 0 0) 0 [] rfl (own_empty w 52 4) ad l.length c (l.flatMap RelV.cs) rfl HF.out (fun j u hj => new_cell w _ _ _ (HN.out j u hj)) (flat_one RelV.one l) (by have := HL.out; unfold maxLen; omega) (by have := HL.out; omega) (by simp) ?_; intro v' w5 hown5 hgrow5 _; have HO5 := Lib.hid hown5; have HG5 := Lib.hid hgrow5; clear hown5 hgrow5)
    go_ret
    refine ⟨_, rfl, by simpa using HO5.out, ((Below.refl _ _).alloc (Nat.le_refl _) _).grown HG5.out (by simp) (fun k hk => by simp [Value.ownBlock] at hk; omega)⟩
set_option maxRecDepth 100000 in
set_option maxHeartbeats 2000000 in
theorem clone99 (v : Value) (l : List InpV) (S : List Nat) (w : World) (h : RdR InpV.cs 5 w v l S) (hl : l.length ≤ 1000000) :
    Calls Tryz.prog 99 #[v] w fun e w' => ∃ v', e = .returned v' ∧ w'.ownsRow w.heap.size 41 5 v' l.length (l.flatMap InpV.cs) ∧ Below w.heap.size w w' := by
  obtain ⟨i0, hi3, hz0, hz1, hz2⟩ := info_parts info29
  have HI := Lib.hid (And.intro hi3 (And.intro hz0 (And.intro hz1 hz2)))
  clear hi3 hz0 hz1 hz2
  have h' := h
  obtain ⟨a, c, rfl, h1, h2, h3⟩ := h'
  cases a with
  | none =>
    rcases h3 with ⟨rfl, _, hc⟩ | ⟨b, o, _, ha, _⟩
    · obtain rfl := hc rfl
      clear h h1 h2 hc
      have q22 : ∀ (w : World) (a : Option Addr) (n c n' c' : Nat), (binOp .eql 69 (.slice a n c) (.slice none n' c')).run Tryz.prog w = .ok (.bool a.isNone) w := fun w a n c n' c' => Lib.run_eql_slice_nil w _ _ a n c n' c' Tryz.underlying69
      go_enter Tryz.func99, Tryz.ntmps99
      go_wp2
      go_ret
      exact ⟨_, rfl, World.ownsRow_nil _ _ _ _, Below.refl _ _⟩
    · simp at ha
  | some ad =>
    have HN := Lib.hid (RdR.news inpcs_len (by omega) h).2
    have HL := Lib.hid hl
    have HF := Lib.hid (flat_len inpcs_len l)
    clear h h3
    have q22 : ∀ (w : World) (a : Option Addr) (n c n' c' : Nat), (binOp .eql 69 (.slice a n c) (.slice none n' c')).run Tryz.prog w = .ok (.bool a.isNone) w := fun w a n c n' c' => Lib.run_eql_slice_nil w _ _ a n c n' c' Tryz.underlying69
    go_enter Tryz.func99, Tryz.ntmps99
    go_wp2_with (at_builtin; refine wpList_append_own _ rfl (.tmp 5) (.tmp 6) 69 rfl w.heap.size 41 i0 _ 5 40 Tryz.underlying69 HI.out.1 HI.out.2.1 HI.out.2.2.1 HI.out.2.2.2 rfl (by decide) (.slice (some ⟨w.heap.size, 0, none⟩) 0 0) 0 [] rfl (own_empty w 41 5) ad l.length c (l.flatMap InpV.cs) rfl HF.out (fun j u hj => new_cell w _ _ _ (HN.out j u hj)) (flat_one InpV.one l) (by have := HL.out; unfold maxLen; omega) (by have := HL.out; omega) (by simp) ?_; intro v' w5 hown5 hgrow5 _; have HO5 := Lib.hid hown5; have HG5 := Lib.hid hgrow5; clear hown5 hgrow5)
    go_ret
    refine ⟨_, rfl, by simpa using HO5.out, ((Below.refl _ _).alloc (Nat.le_refl _) _).grown HG5.out (by simp) (fun k hk => by simp [Value.ownBlock] at hk; omega)⟩
end Go.Proofs.YtcanfmabkklidaaGreat
set_option linter.unusedSimpArgs false
set_option linter.unusedVariables false
set_option linter.unnecessarySimpa false
namespace Go.Proofs.YtcanfmabkklidaaGreat
open Go.RowKit

theorem push_no (b : Nat) (xs : List Value) (vq : Value) (l : List InpV) (S : List Nat) (room : Int) (g : Addr) (c2 : Nat) (w : World) (h : At w b xs) (h3 : xs[3]? = some vq) (hq : RdR InpV.cs 5 w vq l S) (hl : l.length ≤ 1000000)
    (hr : room < (l.length : Int) + 1) : Calls Tryz.prog 86 #[.pointer (some ⟨b, 3, none⟩), .int .i64 room, .slice (some g) 1 c2] w fun e w' => e = .returned (.bool false) ∧ w' = w := by
  obtain ⟨a, c, rfl, h1, h2, h4⟩ := hq
  have c3 := h.c 3 _ h3
  clear h h3 h4
  go_enter Tryz.func86, Tryz.ntmps86
  go_wp2
  go_ret
  exact ⟨rfl, rfl⟩
/-- what a push leaves -/
structure PushTo (w : World) (b : Nat) (xs : List Value) (l : List InpV) (e : Ending) (w' : World) : Prop where
  e : e = .returned (.bool true)
  q : ∃ v S, At w' b (xs.set 3 v) ∧ RdR InpV.cs 5 w' v l S ∧ ∀ x ∈ S, w.heap.size ≤ x
  mod : Mod [b] w w'
set_option maxRecDepth 100000 in
set_option maxHeartbeats 2000000 in
theorem push_any (b : Nat) (xs : List Value) (vq : Value) (l : List InpV) (S : List Nat) (room : Int) (i : InpV) (g : Nat) (c2 : Nat) (w : World) (h : At w b xs) (h3 : xs[3]? = some vq) (hq : RdR InpV.cs 5 w vq l S) (hl : l.length ≤ 1000000)
    (hr : (l.length : Int) + 1 ≤ room) (hg : At w g i.cs) : Calls Tryz.prog 86 #[.pointer (some ⟨b, 3, none⟩), .int .i64 room, .slice (some ⟨g, 0, none⟩) 1 c2] w (PushTo w b xs (l ++ [i])) := by
  have h' := hq
  obtain ⟨a, c, rfl, h1, h2, h4⟩ := h'
  obtain ⟨i0, hi3, hz0, hz1, hz2⟩ := info_parts info29
  have HI := Lib.hid (And.intro hi3 (And.intro hz0 (And.intro hz1 hz2)))
  have HQ := Lib.hid hq
  have HA := Lib.hid h
  have HG := Lib.hid hg
  have HL := Lib.hid hl
  have H3 := Lib.hid h3
  have c3 := h.c 3 _ h3
  have f3 := h.f 3
  have hb := h.lt
  clear h h3 h4 hq hg hi3 hz0 hz1 hz2
  go_enter Tryz.func86, Tryz.ntmps86
  go_wp2_with (first
    | (go_at_call 99; (with_reducible refine (clone99 _ l S _ HQ.out HL.out).mono ?_); rintro e w1 ⟨v1, rfl, ho1, hb1⟩; have HO1 := Lib.hid ho1; have HB1 := Lib.hid hb1; obtain ⟨pa, pl, pc, rfl⟩ := own_shape ho1; have d3 := (hb1.cell (p := ⟨b, 3, none⟩) hb).trans c3; have e3 := (hb1.frozen (p := ⟨b, 3, none⟩) hb).trans f3; have hs1 := hb1.size; clear ho1 hb1)
    | (at_builtin; refine wpList_append_own _ rfl (.tmp 22) (.tmp 23) 69 rfl w.heap.size 41 i0 _ 5 40 Tryz.underlying69 HI.out.1 HI.out.2.1 HI.out.2.2.1 HI.out.2.2.2 rfl (by decide) _ l.length (l.flatMap InpV.cs) rfl HO1.out ⟨g, 0, none⟩ 1 c2 i.cs rfl rfl (HG.out.below HB1.out).news (InpV.one i) (by have := HL.out; unfold maxLen; omega) (by have := HL.out; omega) hs1 ?_; intro v' w5 hown5 hgrow5 _; have HO5 := Lib.hid hown5; have HG5 := Lib.hid hgrow5; obtain ⟨qa, ql, qc, rfl⟩ := own_shape hown5; have A5 := (HA.out.below HB1.out).grown hgrow5 (fun k hk => by have := (HO1.out.lt k hk).1; omega); have HA5 := Lib.hid A5; have d5 := A5.c 3 _ H3.out; have e5 := A5.f 3; have l5 := A5.lt; clear hown5 hgrow5 A5))
  go_ret
  refine ⟨rfl, ⟨_, (Value.slice qa ql qc).ownBlock.toList, HA5.out.set 3 _ (List.getElem?_eq_some_iff.1 H3.out).1, ?_, ?_⟩, ?_⟩
  rotate_left
  · exact own_new HO5.out
  · exact (((Mod.of_below HB1.out [b]).grow HG5.out (fun x hx => .inr (HO1.out.lt x hx).1)).set b 3 _ (.inl (by simp)))
  · have h := RdR.of_own inpcs_len (l := l ++ [i]) (base := w.heap.size) (e := 41) (v := .slice qa ql qc) (w := w5) (by simpa using HO5.out)
    refine h.same fun x hx => ?_
    have := own_new HO5.out x hx
    exact Below.heap_setCell _ _ _ _ (by simp; omega)
theorem RdR.take {α : Type} {cs : α → List Value} {k : Nat} {w : World} {a : Option Addr} {n c m : Nat} {l : List α} {S : List Nat} (h : RdR cs k w (.slice a n c) l S) (hm : m ≤ n) : ∃ S', RdR cs k w (.slice a m c) (l.take m) S' := by
  obtain ⟨a', c', hv, h1, h2, h3⟩ := h
  simp only [Value.slice.injEq] at hv
  obtain ⟨rfl, rfl, rfl⟩ := hv
  have hl : (l.take m).length = m := by simp; omega
  rcases h3 with ⟨rfl, hS, ha⟩ | ⟨b, o, hS, rfl, hb, h4⟩
  · exact ⟨[], a, c, by rw [hl], by omega, h2, .inl ⟨by simp, rfl, ha⟩⟩
  · refine ⟨[b], _, c, by rw [hl], by omega, h2, .inr ⟨b, o, rfl, rfl, hb, fun i x hi j u hj => h4 i x ?_ j u hj⟩⟩
    rw [List.getElem?_take] at hi
    split at hi
    · exact hi
    · simp at hi
theorem RdR.drop {α : Type} {cs : α → List Value} {k : Nat} {w : World} {ad : Addr} {n c m : Nat} {l : List α} {S : List Nat} (h : RdR cs k w (.slice (some ad) n c) l S) (hm : m ≤ n) : ∃ S', RdR cs k w (.slice (some (ad.add (m * k))) (n - m) (c - m)) (l.drop m) S' ∧ ∀ x ∈ S', x ∈ S := by
  obtain ⟨a', c', hv, h1, h2, h3⟩ := h
  simp only [Value.slice.injEq] at hv
  obtain ⟨rfl, rfl, rfl⟩ := hv
  have hl : (l.drop m).length = l.length - m := by simp
  rcases h3 with ⟨rfl, hS, ha⟩ | ⟨b, o, hS, hab, hb, h4⟩
  · exact ⟨[], ⟨_, c - m, by rw [hl], by simp, by omega, .inl ⟨by simp, rfl, fun h => by simp at h⟩⟩, by simp⟩
  · simp only [Option.some.injEq] at hab
    subst hab
    have hadd : (⟨b, o, none⟩ : Addr).add (m * k) = ⟨b, o + m * k, none⟩ := by unfold Addr.add; split <;> simp_all
    rw [hadd]
    refine ⟨[b], ⟨_, c - m, by rw [hl], by rw [hl]; omega, by omega, .inr ⟨b, o + m * k, rfl, rfl, hb, fun i x hi j u hj => ?_⟩⟩, by rw [hS]; simp⟩
    rw [List.getElem?_drop] at hi
    have := h4 (m + i) x hi j u hj
    rw [Nat.add_mul] at this
    rw [show o + m * k + i * k + j = o + (m * k + i * k) + j by omega]
    exact this
set_option maxRecDepth 100000 in
set_option maxHeartbeats 2000000 in
theorem pop_any (b : Nat) (xs : List Value) (vq : Value) (l : List InpV) (S : List Nat) (n : Int) (w : World) (h : At w b xs) (h3 : xs[3]? = some vq) (hq : RdR InpV.cs 5 w vq l S) (hl : l.length ≤ 1000000) (hb : b ∉ S) :
    Calls Tryz.prog 122 #[.pointer (some ⟨b, 3, none⟩), .int .i64 n] w fun e w' => ∃ v v' S', e = .returned v ∧ At w' b (xs.set 3 v') ∧ RdR InpV.cs 5 w' v' (l.drop (popN n l.length)) S' ∧ (∀ x ∈ S', x ∈ S) ∧
      w'.ownsRow w.heap.size 41 5 v (popN n l.length) ((l.take (popN n l.length)).flatMap InpV.cs) ∧ Mod [b] w w' := by
  have h' := hq
  obtain ⟨a, c, rfl, h1, h2, h4⟩ := h'
  have c3 := h.c 3 _ h3
  have f3 := h.f 3
  have hbl := h.lt
  have HA := Lib.hid h
  have H3 := Lib.hid h3
  have HQ := Lib.hid hq
  have HL := Lib.hid hl
  have HNB := Lib.hid hb
  unfold maxLen at h2
  cases a with
  | none =>
    rcases h4 with ⟨rfl, hS, hc⟩ | ⟨_, _, _, ha, _⟩
    · obtain rfl := hc rfl
      have hk : popN n ([] : List InpV).length = 0 := by unfold popN; simp; omega
      rw [hk]
      clear h h3 hq hl hb hc hS h1 h2 hk
      have HN := Lib.hid (RdR.nil InpV.cs 5 w)
      rcases (by omega : n ≤ 0 ∨ 0 < n) with hn | hn
      all_goals
        go_enter Tryz.func122, Tryz.ntmps122
        go_wp2_with (go_at_call 99; (with_reducible refine (clone99 _ [] [] _ HN.out (by simp)).mono ?_); rintro e w1 ⟨v1, rfl, ho1, hb1⟩; have HO1 := Lib.hid ho1; have HB1 := Lib.hid hb1; obtain ⟨pa, pl, pc, rfl⟩ := own_shape ho1; have d3 := (hb1.cell (p := ⟨b, 3, none⟩) hbl).trans c3; have e3 := (hb1.frozen (p := ⟨b, 3, none⟩) hbl).trans f3; have hs1 := hb1.size; have hb3 : b < w1.heap.size := (by omega); clear ho1 hb1)
        go_ret
        refine ⟨_, _, [], rfl, (HA.out.below HB1.out).set 3 _ (List.getElem?_eq_some_iff.1 H3.out).1, RdR.nil _ _ _, by simp, ?_, (Mod.of_below HB1.out [b]).set b 3 _ (.inl (by simp))⟩
        exact own_of_block HO1.out (fun x hx => Below.heap_setCell _ _ _ _ (by have := own_new HO1.out x hx; simp; omega))
    · simp at ha
  | some ad =>
    obtain ⟨k, hk⟩ : ∃ k : Nat, popN n l.length = k := ⟨_, rfl⟩
    have hk2 : k ≤ l.length := by unfold popN at hk; omega
    have hkc : (n ≤ 0 ∧ k = 0) ∨ (0 < n ∧ n ≤ (l.length : Int) ∧ n = (k : Int)) ∨ (0 < n ∧ (l.length : Int) < n ∧ 0 < l.length ∧ k = l.length) ∨ (0 < n ∧ (l.length : Int) < n ∧ l.length ≤ 0 ∧ k = 0) := by unfold popN at hk; omega
    rw [hk]
    obtain ⟨S1, hT⟩ := HQ.out.take hk2
    have HT := Lib.hid hT
    obtain ⟨S2, hD, hS2⟩ := HQ.out.drop hk2
    have HD := Lib.hid (And.intro hD hS2)
    have HLT := Lib.hid (show (l.take k).length ≤ 1000000 by simp; omega)
    have HLK := Lib.hid (show (l.take k).length = k by simp; omega)
    have HC0 := Lib.hid (show k = c → RdR InpV.cs 5 w (.slice (some ad) 0 0) (l.drop k) [] from fun e => ⟨some ad, 0, by simp; omega, by simp; omega, by unfold maxLen; omega, .inl ⟨List.drop_eq_nil_of_le (by omega), rfl, fun h => by simp at h⟩⟩)
    clear h h3 h4 hq hl hb hk hT hD hS2
    rcases (by omega : c = k ∨ k < c) with hkc2 | hkc2
    · obtain rfl := hkc2
      have HC1 := Lib.hid (HC0.out rfl)
      clear HC0 HD
      rcases hkc with ⟨hn, rfl⟩ | ⟨hn, hn2, rfl⟩ | ⟨hn, hn2, hn3, rfl⟩ | ⟨hn, hn2, hn3, rfl⟩
      all_goals
        go_enter Tryz.func122, Tryz.ntmps122
        go_wp2_with (go_at_call 99; (with_reducible refine (clone99 _ _ S1 _ HT.out HLT.out).mono ?_); rintro e w1 ⟨v1, rfl, ho1, hb1⟩; have HO1 := Lib.hid ho1; have HB1 := Lib.hid hb1; obtain ⟨pa, pl, pc, rfl⟩ := own_shape ho1; have d3 := (hb1.cell (p := ⟨b, 3, none⟩) hbl).trans c3; have e3 := (hb1.frozen (p := ⟨b, 3, none⟩) hbl).trans f3; have hs1 := hb1.size; have hb3 : b < w1.heap.size := (by omega); clear ho1 hb1)
        go_ret
        have hr := HC1.out
        refine ⟨_, _, [], rfl, (HA.out.below HB1.out).set 3 _ (List.getElem?_eq_some_iff.1 H3.out).1, (hr.same fun x hx => ?_), by simp, ?_, (Mod.of_below HB1.out [b]).set b 3 _ (.inl (by simp))⟩
        · have h5 : x ≠ b := by simp at hx
          exact (Below.heap_setCell _ _ _ _ (by simpa using h5)).trans (HB1.out.block x (hr.lt x hx))
        · have ho := HO1.out
          rw [HLK.out] at ho
          exact own_of_block ho (fun x hx => Below.heap_setCell _ _ _ _ (by have := own_new ho x hx; simp; omega))
    · rcases hkc with ⟨hn, rfl⟩ | ⟨hn, hn2, rfl⟩ | ⟨hn, hn2, hn3, rfl⟩ | ⟨hn, hn2, hn3, rfl⟩
      all_goals
        go_enter Tryz.func122, Tryz.ntmps122
        go_wp2_with (go_at_call 99; (with_reducible refine (clone99 _ _ S1 _ HT.out HLT.out).mono ?_); rintro e w1 ⟨v1, rfl, ho1, hb1⟩; have HO1 := Lib.hid ho1; have HB1 := Lib.hid hb1; obtain ⟨pa, pl, pc, rfl⟩ := own_shape ho1; have d3 := (hb1.cell (p := ⟨b, 3, none⟩) hbl).trans c3; have e3 := (hb1.frozen (p := ⟨b, 3, none⟩) hbl).trans f3; have hs1 := hb1.size; have hb3 : b < w1.heap.size := (by omega); clear ho1 hb1)
        go_ret
        have hr := HD.out.1
        try simp only [Nat.sub_self] at hr
        try (have e0 : l.length = 0 := (by omega); rw [Nat.sub_zero, e0] at hr)
        refine ⟨_, _, S2, rfl, (HA.out.below HB1.out).set 3 _ (List.getElem?_eq_some_iff.1 H3.out).1, (hr.same fun x hx => ?_), HD.out.2, ?_, (Mod.of_below HB1.out [b]).set b 3 _ (.inl (by simp))⟩
        · have h5 : x ≠ b := fun e => HNB.out (e ▸ HD.out.2 x hx)
          exact (Below.heap_setCell _ _ _ _ (by simpa using h5)).trans (HB1.out.block x (hr.lt x hx))
        · have ho := HO1.out
          rw [HLK.out] at ho
          exact own_of_block ho (fun x hx => Below.heap_setCell _ _ _ _ (by have := own_new ho x hx; simp; omega))
end Go.Proofs.YtcanfmabkklidaaGreat
