/-
  Numbers put together, in order. By an AI agent.
-/
import Derived.Test.YtkibkahknibgfaaP2
namespace Go.Proofs.Ytkibkahknibgfaa
open Aml Go
set_option linter.unusedVariables false
set_option linter.unusedSimpArgs false
set_option maxRecDepth 100000

set_option maxHeartbeats 1000000 in
theorem grow0 (w0 : World) (n : Int) (S : St) (h0 : 0 ≤ n) (h1 : n ≤ 1099511627776) : ACall Try.prog w0 118 [.sl 0 true [], dI n] S (fun d S' => ∃ l : FN S.acc, d = .acc l.n 0 ∧ S' = ⟨S.box, (l.n, .arr 1 []) :: S.acc⟩) := by
  refine acall_nil (K' := fun d S' => (d = .sl 0 true [] ∧ S' = S) ∨ ∃ l : FN S.acc, d = .acc l.n 0 ∧ S' = ⟨S.box, (l.n, .arr 1 []) :: S.acc⟩) ?_ 1 (by omega) ?_
  · refine fnO [] mx Try.func118 rfl rfl (by kernel_rfl) ?_; simp (maxDischargeDepth := 12) -implicitDefEqProofs only [Try.ntmps118, go_sem, Nat.reduceAdd, Nat.reduceSub, Nat.reduceMul, Nat.reduceLeDiff, Nat.reduceEqDiff, Nat.reduceGT, Nat.reduceBEq, reduceCtorEq, ↓reduceIte, Int.reduceToNat, Int.reduceLE, Int.reduceLT, Int.reduceNe, Int.reduceEq]
    have e1 : IntKind.i64.wrap (0 - 0) = 0 := w64 (by omega) (by omega)
    rw [e1, Int.sub_zero, w64 (by omega) (by omega)]
    refine ⟨fun h => by omega, fun h h2 => ⟨by omega, by omega, by omega, fun l => .inl ⟨⟨_, _, _, rfl⟩, by simp, fun l' => ⟨⟨l'.n, l'.h.2.2⟩, rfl, rfl⟩⟩⟩⟩
  · rintro d S' (⟨rfl, rfl⟩ | h)
    · exact .inr ⟨⟨0, rfl⟩, fun l hl => ⟨⟨l, hl⟩, rfl, rfl⟩⟩
    · exact .inl h

def flat (rows : List (List Int)) : List Int := rows.flatten
theorem flat_succ {rows : List (List Int)} {k : Nat} {a : List Int} (h : rows[k]? = some a) : flat (rows.take (k + 1)) = flat (rows.take k) ++ a := by
  unfold flat
  rw [List.take_add_one, h]
  simp
theorem flat_le (rows : List (List Int)) (k : Nat) : (flat (rows.take k)).length ≤ (flat rows).length := by
  have : flat rows = flat (rows.take k) ++ flat (rows.drop k) := by
    unfold flat
    rw [← List.flatten_append, List.take_append_drop]
  rw [this]; simp

set_option maxHeartbeats 1000000 in
theorem concat (w0 : World) (rows : List (List Int)) (S : St) (h0 : rows.length ≤ 1099511627776) (h1 : (flat rows).length ≤ 1099511627776) :
    ACall Try.prog w0 99 [.sl 1 false (rows.map dL)] S (fun d S' => ∃ l : FN S.acc, d = .acc l.n (flat rows).length ∧ S' = ⟨S.box, (l.n, .arr 1 ((flat rows).map dI)) :: S.acc⟩) := by
  refine fnO [] mx Try.func99 rfl rfl (by kernel_rfl) ?_; simp (maxDischargeDepth := 12) -implicitDefEqProofs only [Try.ntmps99, go_sem, Nat.reduceAdd, Nat.reduceSub, Nat.reduceMul, Nat.reduceLeDiff, Nat.reduceEqDiff, Nat.reduceGT, Nat.reduceBEq, reduceCtorEq, ↓reduceIte, Int.reduceToNat, Int.reduceLE, Int.reduceLT, Int.reduceNe, Int.reduceEq]
  refine loopN [] rows.length [0, 3, 9, 10, 11] (fun k => [(3, dI (flat (rows.take k)).length), (11, dI k)]) (fun _ => S) (fun k => True) mx (by kernel_rfl) ?_ ?_
  · simp (maxDischargeDepth := 12) -implicitDefEqProofs only [go_sem, Nat.reduceAdd, Nat.reduceSub, Nat.reduceMul, Nat.reduceLeDiff, Nat.reduceEqDiff, Nat.reduceGT, Nat.reduceBEq, reduceCtorEq, ↓reduceIte, Int.reduceToNat, Int.reduceLE, Int.reduceLT, Int.reduceNe, Int.reduceEq]
    simp [flat]
  · intro k hk _
    simp (maxDischargeDepth := 12) -implicitDefEqProofs only [go_sem, Nat.reduceAdd, Nat.reduceSub, Nat.reduceMul, Nat.reduceLeDiff, Nat.reduceEqDiff, Nat.reduceGT, Nat.reduceBEq, reduceCtorEq, ↓reduceIte, Int.reduceToNat, Int.reduceLE, Int.reduceLT, Int.reduceNe, Int.reduceEq]
    refine ⟨fun hlt => ⟨hlt, fun a ha => ?_⟩, fun hge => ?_⟩
    · have h2 := flat_succ ha
      have h3 := flat_le rows (k + 1)
      rw [h2, List.length_append] at h3
      rw [w64 (by omega) (by omega)]
      refine ⟨fun h => by omega, fun h => ⟨hlt, ?_, w64 (by omega) (by omega)⟩⟩
      rw [h2, List.length_append]; omega
    · rw [List.take_of_length_le (by omega)]
      refine useK (grow0 w0 (flat rows).length S (by omega) (by omega)) ?_
      rintro d S' ⟨l, rfl, rfl⟩
      simp (maxDischargeDepth := 12) -implicitDefEqProofs only [go_sem, Nat.reduceAdd, Nat.reduceSub, Nat.reduceMul, Nat.reduceLeDiff, Nat.reduceEqDiff, Nat.reduceGT, Nat.reduceBEq, reduceCtorEq, ↓reduceIte, Int.reduceToNat, Int.reduceLE, Int.reduceLT, Int.reduceNe, Int.reduceEq]
      refine loopN [] rows.length [6, 25, 26, 27] (fun k => [(6, .acc l.n (flat (rows.take k)).length), (27, dI k)]) (fun k => ⟨S.box, (l.n, .arr 1 ((flat (rows.take k)).map dI)) :: S.acc⟩) (fun k => True) mx (by kernel_rfl) ?_ ?_
      · simp (maxDischargeDepth := 12) -implicitDefEqProofs only [go_sem, Nat.reduceAdd, Nat.reduceSub, Nat.reduceMul, Nat.reduceLeDiff, Nat.reduceEqDiff, Nat.reduceGT, Nat.reduceBEq, reduceCtorEq, ↓reduceIte, Int.reduceToNat, Int.reduceLE, Int.reduceLT, Int.reduceNe, Int.reduceEq]
        simp [flat, Wk.refl, Sub.refl]
      · intro k hk _
        simp (maxDischargeDepth := 12) -implicitDefEqProofs only [go_sem, Nat.reduceAdd, Nat.reduceSub, Nat.reduceMul, Nat.reduceLeDiff, Nat.reduceEqDiff, Nat.reduceGT, Nat.reduceBEq, reduceCtorEq, ↓reduceIte, Int.reduceToNat, Int.reduceLE, Int.reduceLT, Int.reduceNe, Int.reduceEq]
        refine ⟨fun hlt => ⟨hlt, fun a ha => ?_⟩, fun hge => ⟨l, ?_⟩⟩
        · have h2 := flat_succ ha
          have h3 := flat_le rows (k + 1)
          rw [h2, List.length_append] at h3
          refine ⟨by omega, by unfold maxLen; omega, hlt, ⟨?_, w64 (by omega) (by omega)⟩, ?_⟩
          · rw [h2, List.length_append]; exact .refl _
          · rw [h2]; exact .refl _
        · rw [List.take_of_length_le (by omega)]; exact ⟨rfl, rfl⟩

set_option maxHeartbeats 1000000 in
theorem together (w0 : World) (rows : List (List Int)) (S : St) (h0 : rows.length ≤ 1099511627776) (h1 : (flat rows).length ≤ 1099511627776) :
    ACall Try.prog w0 79 [.sl 1 false (rows.map dL)] S (fun d S' => d = dL (srt (flat rows)) ∧ S' = S) := by
  refine fnS [] mx Try.func79 rfl rfl (by kernel_rfl) ?_; simp (maxDischargeDepth := 12) -implicitDefEqProofs only [Try.ntmps79, go_sem, Nat.reduceAdd, Nat.reduceSub, Nat.reduceMul, Nat.reduceLeDiff, Nat.reduceEqDiff, Nat.reduceGT, Nat.reduceBEq, reduceCtorEq, ↓reduceIte, Int.reduceToNat, Int.reduceLE, Int.reduceLT, Int.reduceNe, Int.reduceEq]
  refine useK (concat w0 rows S h0 h1) ?_
  rintro d S' ⟨l, rfl, rfl⟩
  simp (maxDischargeDepth := 12) -implicitDefEqProofs only [go_sem, Nat.reduceAdd, Nat.reduceSub, Nat.reduceMul, Nat.reduceLeDiff, Nat.reduceEqDiff, Nat.reduceGT, Nat.reduceBEq, reduceCtorEq, ↓reduceIte, Int.reduceToNat, Int.reduceLE, Int.reduceLT, Int.reduceNe, Int.reduceEq]
  refine .inl (useK (sort_int w0 (l := l.n) (zs := flat rows) (S := ⟨S.box, (l.n, .arr 1 ((flat rows).map dI)) :: S.acc⟩) (by simp [lk]) (by omega)) ?_)
  rintro d S' ⟨rfl, rfl⟩
  simp (maxDischargeDepth := 12) -implicitDefEqProofs only [go_sem, Nat.reduceAdd, Nat.reduceSub, Nat.reduceMul, Nat.reduceLeDiff, Nat.reduceEqDiff, Nat.reduceGT, Nat.reduceBEq, reduceCtorEq, ↓reduceIte, Int.reduceToNat, Int.reduceLE, Int.reduceLT, Int.reduceNe, Int.reduceEq]
  exact srt_length _

def pgs (l : List Wt) : List (List Int) := l.map (·.pages)
def listed (p : Pl) : List Int := srt (flat (p.free :: pgs p.wait))
theorem pgs_succ {l : List Wt} {k : Nat} {a : Wt} (h : l[k]? = some a) : pgs (l.take (k + 1)) = pgs (l.take k) ++ [a.pages] := by
  unfold pgs
  rw [List.take_add_one, h]
  simp
theorem pgs_len (l : List Wt) (k : Nat) (h : k ≤ l.length) : (pgs (l.take k)).length = k := by unfold pgs; rw [List.length_map, List.length_take]; omega
theorem flat_pgs (f : List Int) (l : List Wt) : (flat (f :: pgs l)).length = f.length + nW l := by
  unfold flat pgs nW
  simp [List.length_flatten]
  rfl

set_option maxHeartbeats 1000000 in
theorem listedW (w0 : World) (p : Pl) (S : St) (h0 : p.wait.length ≤ 1048576) (h1 : p.free.length + nW p.wait ≤ 1048576) :
    ACall Try.prog w0 51 [dP p] S (fun d S' => d = dL (listed p) ∧ S' = S) := by
  refine fnS [] mx Try.func51 rfl rfl (by kernel_rfl) ?_; simp (maxDischargeDepth := 12) -implicitDefEqProofs only [Try.ntmps51, go_sem, Nat.reduceAdd, Nat.reduceSub, Nat.reduceMul, Nat.reduceLeDiff, Nat.reduceEqDiff, Nat.reduceGT, Nat.reduceBEq, reduceCtorEq, ↓reduceIte, Int.reduceToNat, Int.reduceLE, Int.reduceLT, Int.reduceNe, Int.reduceEq]
  intro b
  refine awp_tail 3 (by omega) rfl fun l hl => ?_
  obtain ⟨l, rfl⟩ : ∃ b : FN S.acc, b.n = l := ⟨⟨l, hl⟩, rfl⟩
  clear hl
  simp (maxDischargeDepth := 12) -implicitDefEqProofs only [go_sem, Nat.reduceAdd, Nat.reduceSub, Nat.reduceMul, Nat.reduceLeDiff, Nat.reduceEqDiff, Nat.reduceGT, Nat.reduceBEq, reduceCtorEq, ↓reduceIte, Int.reduceToNat, Int.reduceLE, Int.reduceLT, Int.reduceNe, Int.reduceEq]
  refine loopN [] p.wait.length [3, 10, 11, 12] (fun k => [(3, .acc l.n (k + 1)), (12, dI k)]) (fun k => ⟨S.box, (l.n, .tl 1 ((p.free :: pgs (p.wait.take k)).map dL)) :: S.acc⟩) (fun k => True) mx (by kernel_rfl) ?_ ?_
  · simp (maxDischargeDepth := 12) -implicitDefEqProofs only [go_sem, Nat.reduceAdd, Nat.reduceSub, Nat.reduceMul, Nat.reduceLeDiff, Nat.reduceEqDiff, Nat.reduceGT, Nat.reduceBEq, reduceCtorEq, ↓reduceIte, Int.reduceToNat, Int.reduceLE, Int.reduceLT, Int.reduceNe, Int.reduceEq]
    exact .consB (.refl _)
  · intro k hk _
    have hpl := pgs_len p.wait k hk
    simp (maxDischargeDepth := 12) -implicitDefEqProofs only [go_sem, Nat.reduceAdd, Nat.reduceSub, Nat.reduceMul, Nat.reduceLeDiff, Nat.reduceEqDiff, Nat.reduceGT, Nat.reduceBEq, reduceCtorEq, ↓reduceIte, Int.reduceToNat, Int.reduceLE, Int.reduceLT, Int.reduceNe, Int.reduceEq]
    refine ⟨fun hlt => ⟨hlt, fun a ha b' => ?_⟩, fun hge => ?_⟩
    · have h2 := pgs_succ ha
      have e : List.map dL (pgs (List.take k p.wait)) ++ [DV.sl 1 false (List.map dI a.pages)] = List.map dL (pgs (List.take (k + 1) p.wait)) := by rw [h2, List.map_append]; rfl
      refine ⟨hpl, by omega, by unfold maxLen; omega, hlt, ⟨?_, w64 (by omega) (by omega)⟩, ?_⟩
      · rw [hpl]; exact .refl _
      · rw [e]; exact .consB (.refl _)
    · rw [List.take_of_length_le (by omega)]
      refine .inr ?_
      refine ⟨by unfold pgs; rw [List.length_map]; omega, ?_⟩
      refine use1 (together w0 (p.free :: pgs p.wait) _ (by unfold pgs; simp; omega) (by rw [flat_pgs]; omega)) ?_
      simp (maxDischargeDepth := 12) -implicitDefEqProofs only [go_sem, Nat.reduceAdd, Nat.reduceSub, Nat.reduceMul, Nat.reduceLeDiff, Nat.reduceEqDiff, Nat.reduceGT, Nat.reduceBEq, reduceCtorEq, ↓reduceIte, Int.reduceToNat, Int.reduceLE, Int.reduceLT, Int.reduceNe, Int.reduceEq]
      simp [listed, Wk_self]
end Go.Proofs.Ytkibkahknibgfaa
