/-
  What is listed, as the document has it; what is small; pools as the document has them; the same. By an AI agent.
-/
import Derived.Test.YtkibkahknibgfaaP4
namespace Go.Proofs.Ytkibkahknibgfaa
open Aml Go
set_option linter.unusedVariables false
set_option linter.unusedSimpArgs false
set_option maxRecDepth 100000

theorem nW_at {l : List Wt} {k : Nat} {a : Wt} (h : l[k]? = some a) : a.pages.length ≤ nW l := by
  have h1 := nW_succ h
  have h2 := nW_le l (k + 1)
  omega
set_option maxHeartbeats 1000000 in
theorem listedR (w0 : World) (p : Pl) (S : St) (h0 : p.wait.length ≤ 1048576) (h1 : p.free.length + nW p.wait ≤ 1048576) :
    ACall Try.prog w0 52 [dP p] S (fun d S' => d = dL (listed p) ∧ S' = S) := by
  refine fnS [] mx Try.func52 rfl rfl (by kernel_rfl) ?_; simp (maxDischargeDepth := 12) -implicitDefEqProofs only [Try.ntmps52, go_sem, Nat.reduceAdd, Nat.reduceSub, Nat.reduceMul, Nat.reduceLeDiff, Nat.reduceEqDiff, Nat.reduceGT, Nat.reduceBEq, reduceCtorEq, ↓reduceIte, Int.reduceToNat, Int.reduceLE, Int.reduceLT, Int.reduceNe, Int.reduceEq]
  intro b
  refine ⟨by omega, by unfold maxLen; omega, fun l => ?_⟩
  refine loopN [] p.wait.length [1, 3, 4] (fun k => [(3, .acc l.n (flat (p.free :: pgs (p.wait.take k))).length), (4, dI k)]) (fun k => ⟨(b.n, [dI p.high, dL p.free, .sl 2 false (p.wait.map dW)]) :: S.box, (l.n, .arr 1 ((flat (p.free :: pgs (p.wait.take k))).map dI)) :: S.acc⟩) (fun k => True) mx (by kernel_rfl) ?_ ?_
  · simp (maxDischargeDepth := 12) -implicitDefEqProofs only [go_sem, Nat.reduceAdd, Nat.reduceSub, Nat.reduceMul, Nat.reduceLeDiff, Nat.reduceEqDiff, Nat.reduceGT, Nat.reduceBEq, reduceCtorEq, ↓reduceIte, Int.reduceToNat, Int.reduceLE, Int.reduceLT, Int.reduceNe, Int.reduceEq]
    simp [flat, pgs, Wk_self, Sub_refl]
  · intro k hk _
    simp (maxDischargeDepth := 12) -implicitDefEqProofs only [go_sem, Nat.reduceAdd, Nat.reduceSub, Nat.reduceMul, Nat.reduceLeDiff, Nat.reduceEqDiff, Nat.reduceGT, Nat.reduceBEq, reduceCtorEq, ↓reduceIte, Int.reduceToNat, Int.reduceLE, Int.reduceLT, Int.reduceNe, Int.reduceEq]
    refine ⟨fun hlt => ⟨hlt, fun a ha => ?_⟩, fun hge => ?_⟩
    · have h2 : flat (p.free :: pgs (p.wait.take (k + 1))) = flat (p.free :: pgs (p.wait.take k)) ++ a.pages := by
        rw [pgs_succ ha]; simp [flat]
      have h3 := flat_pgs p.free (p.wait.take (k + 1))
      have h4 := nW_le p.wait (k + 1)
      rw [h2, List.length_append] at h3
      refine ⟨by omega, by unfold maxLen; omega, hlt, ⟨?_, w64 (by omega) (by omega)⟩, ?_⟩
      · rw [h2, List.length_append]; exact .refl _
      · rw [h2]; exact .refl _
    · rw [List.take_of_length_le (by omega)]
      have h3 := flat_pgs p.free p.wait
      refine .inr (use1 (sortedR w0 (flat (p.free :: pgs p.wait)) _ (by omega)) ?_)
      simp (maxDischargeDepth := 12) -implicitDefEqProofs only [go_sem, Nat.reduceAdd, Nat.reduceSub, Nat.reduceMul, Nat.reduceLeDiff, Nat.reduceEqDiff, Nat.reduceGT, Nat.reduceBEq, reduceCtorEq, ↓reduceIte, Int.reduceToNat, Int.reduceLE, Int.reduceLT, Int.reduceNe, Int.reduceEq]
      exact .refl _

/-- Is a pool small? -/
def Small (p : Pl) : Prop := p.free.length + nW p.wait ≤ 200 ∧ p.wait.length ≤ 40 ∧ p.high < 1048576 ∧ -4096 < p.high
set_option maxHeartbeats 1000000 in
theorem small (w0 : World) (p : Pl) (S : St) (h0 : p.wait.length ≤ 4611686018427387904) (h1 : p.free.length + nW p.wait ≤ 4611686018427387904) :
    ACall Try.prog w0 43 [dP p] S (fun d S' => d = dB (pB (Small p)) ∧ S' = S) := by
  refine fnS [] mx Try.func43 rfl rfl (by kernel_rfl) ?_; simp (maxDischargeDepth := 12) -implicitDefEqProofs only [Try.ntmps43, go_sem, Nat.reduceAdd, Nat.reduceSub, Nat.reduceMul, Nat.reduceLeDiff, Nat.reduceEqDiff, Nat.reduceGT, Nat.reduceBEq, reduceCtorEq, ↓reduceIte, Int.reduceToNat, Int.reduceLE, Int.reduceLT, Int.reduceNe, Int.reduceEq]
  intro b
  refine loopN [] p.wait.length [1, 3, 4] (fun k => [(3, dI (p.free.length + nW (p.wait.take k))), (4, dI k)]) (fun _ => ⟨(b.n, [dI p.high, dL p.free, .sl 2 false (p.wait.map dW)]) :: S.box, S.acc⟩) (fun k => True) mx (by kernel_rfl) ?_ ?_
  · simp (maxDischargeDepth := 12) -implicitDefEqProofs only [go_sem, Nat.reduceAdd, Nat.reduceSub, Nat.reduceMul, Nat.reduceLeDiff, Nat.reduceEqDiff, Nat.reduceGT, Nat.reduceBEq, reduceCtorEq, ↓reduceIte, Int.reduceToNat, Int.reduceLE, Int.reduceLT, Int.reduceNe, Int.reduceEq]
    simp [nW]
  · intro k hk _
    simp (maxDischargeDepth := 12) -implicitDefEqProofs only [go_sem, Nat.reduceAdd, Nat.reduceSub, Nat.reduceMul, Nat.reduceLeDiff, Nat.reduceEqDiff, Nat.reduceGT, Nat.reduceBEq, reduceCtorEq, ↓reduceIte, Int.reduceToNat, Int.reduceLE, Int.reduceLT, Int.reduceNe, Int.reduceEq]
    refine ⟨fun hlt => ⟨hlt, fun a ha => ?_⟩, fun hge => ?_⟩
    · have h1 := nW_succ ha
      have h2 := nW_le p.wait (k + 1)
      rw [w64 (by omega) (by omega), w64 (by omega) (by omega)]
      omega
    · rw [List.take_of_length_le (by omega)]
      unfold Small
      exact ⟨fun _ => ⟨fun _ => ⟨fun _ => ⟨fun _ => by omega, fun _ => by omega⟩, fun _ => by omega⟩, fun _ => by omega⟩, fun _ => by omega⟩

set_option maxHeartbeats 1000000 in
theorem plain (w0 : World) (p : Pl) (S : St) (h0 : p.wait.length ≤ 1048576) : ACall Try.prog w0 44 [dP p] S (fun d S' => d = dP p ∧ S' = S) := by
  refine fnS [] mx Try.func44 rfl rfl (by kernel_rfl) ?_; simp (maxDischargeDepth := 12) -implicitDefEqProofs only [Try.ntmps44, go_sem, Nat.reduceAdd, Nat.reduceSub, Nat.reduceMul, Nat.reduceLeDiff, Nat.reduceEqDiff, Nat.reduceGT, Nat.reduceBEq, reduceCtorEq, ↓reduceIte, Int.reduceToNat, Int.reduceLE, Int.reduceLT, Int.reduceNe, Int.reduceEq]
  intro b b1 b2
  refine awp_growB b2.n 2 2 (by omega) (q_lk_same _ _ _) rfl fun l => ?_
  simp (maxDischargeDepth := 12) -implicitDefEqProofs only [go_sem, Nat.reduceAdd, Nat.reduceSub, Nat.reduceMul, Nat.reduceLeDiff, Nat.reduceEqDiff, Nat.reduceGT, Nat.reduceBEq, reduceCtorEq, ↓reduceIte, Int.reduceToNat, Int.reduceLE, Int.reduceLT, Int.reduceNe, Int.reduceEq]
  refine loopN [] p.wait.length [1, 2, 3, 4] (fun k => [(4, dI k)]) (fun k => ⟨(b2.n, [dI p.high, dL p.free, .acc l.n k]) :: (b1.n, [dI 0, .sl 0 true [], .sl 0 true []]) :: (b.n, [dI p.high, dL p.free, .sl 2 false (p.wait.map dW)]) :: S.box, (l.n, .arr 2 ((p.wait.take k).map dW)) :: S.acc⟩) (fun k => True) mx (by kernel_rfl) ?_ ?_
  · simp (maxDischargeDepth := 12) -implicitDefEqProofs only [go_sem, Nat.reduceAdd, Nat.reduceSub, Nat.reduceMul, Nat.reduceLeDiff, Nat.reduceEqDiff, Nat.reduceGT, Nat.reduceBEq, reduceCtorEq, ↓reduceIte, Int.reduceToNat, Int.reduceLE, Int.reduceLT, Int.reduceNe, Int.reduceEq]
  · intro k hk _
    simp (maxDischargeDepth := 12) -implicitDefEqProofs only [go_sem, Nat.reduceAdd, Nat.reduceSub, Nat.reduceMul, Nat.reduceLeDiff, Nat.reduceEqDiff, Nat.reduceGT, Nat.reduceBEq, reduceCtorEq, ↓reduceIte, Int.reduceToNat, Int.reduceLE, Int.reduceLT, Int.reduceNe, Int.reduceEq]
    have hm : min k p.wait.length = k := by omega
    rw [hm]
    refine ⟨fun hlt => ⟨hlt, fun a ha => ⟨hlt, fun a2 ha2 => ?_⟩⟩, fun hge => ⟨rfl, ?_⟩⟩
    · cases getE ha ha2
      rw [take_snoc ha, List.map_append]
      exact ⟨rfl, by omega, by unfold maxLen; omega, hlt, w64 (by omega) (by omega), .refl _⟩
    · rw [List.take_of_length_le (by omega)]; exact .refl _

/-- Two pools are the same. -/
theorem pl_ext {a b : Pl} (h1 : a.high = b.high) (h2 : a.free = b.free) (h3 : a.wait = b.wait) : a = b := by
  cases a; cases b; simp at *; exact ⟨h1, h2, h3⟩
theorem wt_ext {a b : Wt} (h1 : a.txn = b.txn) (h2 : a.pages = b.pages) : a = b := by
  cases a; cases b; simp at *; exact ⟨h1, h2⟩
theorem wat {p q : Pl} (e : p = q) {k : Nat} {a c : Wt} (ha : p.wait[k]? = some a) (hc : q.wait[k]? = some c) : a = c := by subst e; exact getE ha hc
set_option maxHeartbeats 1000000 in
theorem sameR (w0 : World) (p q : Pl) (S : St) (h0 : p.wait.length ≤ 1048576) (h1 : p.free.length ≤ 1048576) (h2 : nW p.wait ≤ 1048576) : ACall Try.prog w0 56 [dP p, dP q] S (fun d S' => d = dB (pB (p = q)) ∧ S' = S) := by
  refine fnS [] mx Try.func56 rfl rfl (by kernel_rfl) ?_; simp (maxDischargeDepth := 12) -implicitDefEqProofs only [Try.ntmps56, go_sem, Nat.reduceAdd, Nat.reduceSub, Nat.reduceMul, Nat.reduceLeDiff, Nat.reduceEqDiff, Nat.reduceGT, Nat.reduceBEq, reduceCtorEq, ↓reduceIte, Int.reduceToNat, Int.reduceLE, Int.reduceLT, Int.reduceNe, Int.reduceEq]
  intro b b1
  refine ⟨fun hne e => hne (by rw [e]), fun he => ?_⟩
  refine use1 (intsR w0 p.free q.free _ (by omega)) ?_
  simp (maxDischargeDepth := 12) -implicitDefEqProofs only [go_sem, Nat.reduceAdd, Nat.reduceSub, Nat.reduceMul, Nat.reduceLeDiff, Nat.reduceEqDiff, Nat.reduceGT, Nat.reduceBEq, reduceCtorEq, ↓reduceIte, Int.reduceToNat, Int.reduceLE, Int.reduceLT, Int.reduceNe, Int.reduceEq]
  refine ⟨fun hne e => hne (by rw [e]), fun he2 => ⟨fun hne e => hne (by rw [e]), fun he3 => ?_⟩⟩
  refine loopN [] p.wait.length [2, 3, 5] (fun k => [(5, dI k)]) (fun _ => ⟨(b1.n, [dI q.high, dL q.free, .sl 2 false (q.wait.map dW)]) :: (b.n, [dI p.high, dL p.free, .sl 2 false (p.wait.map dW)]) :: S.box, S.acc⟩) (fun k => p.wait.take k = q.wait.take k) mx (by kernel_rfl) ?_ ?_
  · simp (maxDischargeDepth := 12) -implicitDefEqProofs only [go_sem, Nat.reduceAdd, Nat.reduceSub, Nat.reduceMul, Nat.reduceLeDiff, Nat.reduceEqDiff, Nat.reduceGT, Nat.reduceBEq, reduceCtorEq, ↓reduceIte, Int.reduceToNat, Int.reduceLE, Int.reduceLT, Int.reduceNe, Int.reduceEq]
  · intro k hk hup
    simp (maxDischargeDepth := 12) -implicitDefEqProofs only [go_sem, Nat.reduceAdd, Nat.reduceSub, Nat.reduceMul, Nat.reduceLeDiff, Nat.reduceEqDiff, Nat.reduceGT, Nat.reduceBEq, reduceCtorEq, ↓reduceIte, Int.reduceToNat, Int.reduceLE, Int.reduceLT, Int.reduceNe, Int.reduceEq]
    refine ⟨fun hlt => ⟨hlt, fun a ha => ⟨by omega, fun c hc => ⟨fun hne e => hne (by rw [wat e ha hc]), fun ht => ⟨hlt, fun a2 ha2 => ⟨by omega, fun c2 hc2 => ?_⟩⟩⟩⟩⟩, fun hge => ?_⟩
    · cases getE ha ha2
      cases getE hc hc2
      have := nW_at ha
      refine useQ (intsR w0 a.pages c.pages _ (by omega)) ?_
      simp (maxDischargeDepth := 12) -implicitDefEqProofs only [go_sem, Nat.reduceAdd, Nat.reduceSub, Nat.reduceMul, Nat.reduceLeDiff, Nat.reduceEqDiff, Nat.reduceGT, Nat.reduceBEq, reduceCtorEq, ↓reduceIte, Int.reduceToNat, Int.reduceLE, Int.reduceLT, Int.reduceNe, Int.reduceEq]
      exact ⟨fun hne e => hne (by rw [wat e ha hc]), fun hp => ⟨hlt, take_eq_succ hup ha hc (wt_ext (by omega) (Classical.byContradiction hp)), w64 (by omega) (by omega)⟩⟩
    · exact pl_ext (by omega) (Classical.byContradiction he2) (eq_of_take hup he3 hge)
end Go.Proofs.Ytkibkahknibgfaa
