/- awake says true. -/
import Derived.Test.YtcanfmabkklidaaGreatMb29
import Derived.Test.YtcanfmabkklidaaGreatMb31
set_option linter.unusedSimpArgs false
set_option linter.unusedVariables false
set_option linter.unnecessarySimpa false
namespace Go.Proofs.YtcanfmabkklidaaGreat
open Go.RowKit

theorem awk_ans : ∃ (L : List AnsM) (a0 a1 a2 a3 a4 : AnsM) (r : RowV), (((CoreV.new 4 8 50 [⟨3, 3, 2, 2, 4⟩]).acts (awkL.map ActV.m)).2 = [a0, a1, a2, a3, a4]) ∧ a4.rows = [r] ∧ r.value = 5 := by
  have h := awk_eq
  generalize ((CoreV.new 4 8 50 [⟨3, 3, 2, 2, 4⟩]).acts (awkL.map ActV.m)).2 = L at h
  have hl : L.length = 5 := by have := congrArg List.length h; simpa using this
  match L, hl with
  | [a0, a1, a2, a3, a4], _ =>
    simp only [List.map_cons, List.map_nil, List.cons.injEq, and_true] at h
    obtain ⟨_, _, _, _, h⟩ := h
    cases hr : a4.rows with
    | nil => rw [hr] at h; simp at h
    | cons r t =>
      rw [hr] at h
      simp only [List.map_cons, List.cons.injEq, List.map_eq_nil_iff] at h
      obtain ⟨h1, rfl⟩ := h
      exact ⟨[], a0, a1, a2, a3, a4, r, rfl, hr, h1⟩
theorem new_ok {B R Q : Int} {l : List SinkV} (h : SetBd B R Q l) : CoreOk (CoreV.new B R Q l) 0 := by
  refine ⟨by omega, h.len, h.sinks, by simp [CoreV.new], fun p hp => ?_, fun t x hx => by simp [CoreV.new] at hx, fun t x hx => by simp [CoreV.new] at hx, Nat.le_refl _, fun t => by simp [CoreV.new]⟩
  obtain ⟨s, hs, rfl⟩ := List.mem_map.1 hp
  have := h.sinks s hs
  exact ⟨this.a1, this.a2⟩
theorem awkL_ok (w : World) (F : List Nat) : ∀ a ∈ awkL, ActBd7 a ∧ ∃ S, RdR OpV.cs 2 w a.pipe.ops a.pipe.ol S ∧ ∀ x ∈ S, x ∉ F := by
  intro a ha
  simp only [awkL, noP, List.mem_cons, List.not_mem_nil, or_false] at ha
  rcases ha with rfl | rfl | rfl | rfl | rfl
  · exact ⟨⟨by simp, by simp, by simp, by simp, fun _ => ⟨by simp, by simp, by simp, by simp, by simp, by simp, by simp, by simp, by simp, by simp, by simp, by simp⟩⟩, [], RdR.nil _ _ _, by simp⟩
  · exact ⟨⟨by simp, by simp, by simp, by simp, fun h => by simp at h⟩, [], RdR.nil _ _ _, by simp⟩
  · exact ⟨⟨by simp, by simp, by simp, by simp, fun h => by simp at h⟩, [], RdR.nil _ _ _, by simp⟩
  · exact ⟨⟨by simp, by simp, by simp, by simp, fun h => by simp at h⟩, [], RdR.nil _ _ _, by simp⟩
  · exact ⟨⟨by simp, by simp, by simp, by simp, fun h => by simp at h⟩, [], RdR.nil _ _ _, by simp⟩
theorem DosAt.five {w : World} {b : Nat} {S : List Nat} {c : CoreV} {lm : List ActM} {e : Ending} {w' : World} (h : DosAt w b S c lm e w') {a0 a1 a2 a3 a4 : AnsM} {r : RowV} (ha : (c.acts lm).2 = [a0, a1, a2, a3, a4]) (hr : a4.rows = [r]) (h5 : r.value = 5) :
    ∃ g cap g4 rc, e = .returned (.slice (some ⟨g, 0, none⟩) 5 cap) ∧ 5 ≤ cap ∧ 1 ≤ rc ∧ w'.cell? ⟨g, 13, none⟩ = some (.slice (some ⟨g4, 0, none⟩) 1 rc) ∧ w'.cell? ⟨g4, 2, none⟩ = some (.int .i64 5) ∧ Mod S w w' := by
  obtain ⟨⟨v1, LA, S2, rfl, ho1, hm1, hao, hc1, hi1, hd1, hd2⟩, hmm⟩ := h
  rw [ha] at hm1
  have hl : LA.length = 5 := by have := congrArg List.length hm1; simpa using this
  match LA, hl with
  | [x0, x1, x2, x3, x4], _ =>
    simp only [List.map_cons, List.map_nil, List.cons.injEq, and_true] at hm1
    obtain ⟨_, _, _, _, hx⟩ := hm1
    have hoa := hao x4 (by simp)
    obtain ⟨g1, cap1, hv, hg1, hgl1, hcp1, hcm1, hcs1⟩ := own_form ho1 (by simp)
    have hrl : x4.rl = [r] := by rw [← hr, ← hx]; rfl
    have hor := hoa.r
    rw [hrl] at hor
    obtain ⟨g4, cap4, hv4, _, _, hcp4, _, hcs4⟩ := own_form hor (by simp)
    have e1 := hcs1 13 x4.rows rfl
    have e2 := hcs4 2 (.int .i64 r.value) rfl
    rw [hv4] at e1
    rw [h5] at e2
    exact ⟨g1, cap1, g4, cap4, by rw [hv]; rfl, by simpa using hcp1, by simpa using hcp4, e1, e2, hmm⟩
set_option maxHeartbeats 2000000 in
set_option maxRecDepth 100000 in
theorem awake_any (w : World) : Calls Tryz.prog 15 #[] w fun e w' => e = .returned (.bool true) ∧ Below w.heap.size w w' := by
  have hset : SetBd 4 8 50 [⟨3, 3, 2, 2, 4⟩] := ⟨by simp, by simp, by simp, by simp, by simp, by simp, by simp, fun s hs => by
    obtain rfl : s = ⟨3, 3, 2, 2, 4⟩ := by simpa using hs
    exact ⟨by simp, by simp, by simp, by simp, by simp, by simp, by simp, by simp, by simp, by simp⟩⟩
  have HSET := Lib.hid hset
  have HANS := Lib.hid awk_ans
  clear hset
  go_enter Tryz.func15, Tryz.ntmps15
  obtain ⟨_, a0, a1, a2, a3, a4, r, hans, har, ha5⟩ := HANS.out
  have H1 := Lib.hid hans
  have H2 := Lib.hid har
  have H3 := Lib.hid ha5
  clear hans har ha5
  go_wp2_with (first
    | (go_at_call 20; (with_reducible refine (duo_any _).mono ?_); rintro e w1 ⟨v, S, rfl, hr, _, hb⟩; have HR := Lib.hid hr; have HB := Lib.hid hb; clear hr hb)
    | (go_at_call 10; (with_reducible refine (cnew10 _ _ S 4 8 50 _ HR.out HSET.out).mono ?_); rintro e w2 ⟨b, F, rfl, hc, hF, hb2⟩; have HC := Lib.hid hc; have HF := Lib.hid hF; have HB2 := Lib.hid hb2; clear hc hF hb2)
    | (go_at_call 12; (refine (dos_at b F (CoreV.new 4 8 50 [⟨3, 3, 2, 2, 4⟩]) 0 _ awkL (by simp [CoreV.new]) (by simp [CoreV.new]) _ (HC.out.below (bel_alloc (bel_alloc (Below.refl _ _) _) _)) (by
          have h := acts_lit (w2.alloc (.cells #[.slice none 0 0, .int .i64 10, .int .i64 10, .int .i64 2, .int .i64 0, .int .i64 (-1)] 36)) awkL F (fun x hx => by have := HC.out.lt x hx; simp; omega) (by simp [awkL]) (by simp [awkL]) (awkL_ok _ F)
          rw [show (w2.alloc (.cells #[.slice none 0 0, .int .i64 10, .int .i64 10, .int .i64 2, .int .i64 0, .int .i64 (-1)] 36)).heap.size = w2.heap.size + 1 by simp] at h
          exact h) (new_ok HSET.out) (by simp [awkL])).mono ?_); rintro e w3 hdo; obtain ⟨g, cap, g4, rc, rfl, hcap, hrc, k13, k2, hm⟩ := hdo.five H1.out H2.out H3.out; have HM := Lib.hid hm; clear hdo hm))
  go_ret
  refine ⟨rfl, ?_⟩
  have h1 := below_step HB.out HB2.out
  exact HM.out.belowB (bel_alloc (bel_alloc h1 _) _) (by have := h1.size; simp; omega) (fun x hx => by have := HF.out x hx; have := HB.out.size; omega)
end Go.Proofs.YtcanfmabkklidaaGreat
