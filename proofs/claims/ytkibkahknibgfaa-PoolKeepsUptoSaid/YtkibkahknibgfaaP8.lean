/-
  The document's example on pools is met. By an AI agent.
-/
import Derived.Test.YtkibkahknibgfaaP7
namespace Go.Proofs.Ytkibkahknibgfaa
open Aml Go
set_option linter.unusedVariables false
set_option linter.unusedSimpArgs false
set_option maxRecDepth 100000

theorem takeY (w0 : World) (p : Pl) (q m : Int) (S : St) (hm : may p q m) (h0 : p.free.length ≤ 1048576) (h1 : -1099511627776 ≤ p.high) (h2 : p.high ≤ 1048576) (h3 : -1099511627776 ≤ q) (h4 : q ≤ 1048576) :
    ACall Try.prog w0 53 [dP p, dI q, dI m] S (fun d S' => d = .tup [dP (take p m), dL (took p m), dB true] ∧ S' = S) := (takeW w0 p q m S h0 h1 h2 h3 h4).mono fun _ _ h => h.1 hm
theorem takeN (w0 : World) (p : Pl) (q m : Int) (S : St) (hm : ¬ may p q m) (h0 : p.free.length ≤ 1048576) (h1 : -1099511627776 ≤ p.high) (h2 : p.high ≤ 1048576) (h3 : -1099511627776 ≤ q) (h4 : q ≤ 1048576) :
    ACall Try.prog w0 53 [dP p, dI q, dI m] S (fun d S' => d = .tup [dP p, .sl 1 false [], dB false] ∧ S' = S) := (takeW w0 p q m S h0 h1 h2 h3 h4).mono fun _ _ h => h.2 hm

def p0 : Pl := ⟨5, [3], []⟩
def p1 : Pl := ⟨6, [], []⟩
def p2 : Pl := ⟨6, [], [⟨7, [2, 5]⟩]⟩
def p3 : Pl := ⟨6, [2, 5], []⟩
theorem s52 : srt [5, 2] = [2, 5] := (srt_eq (a := [2, 5]) (by decide) (by decide)).symm
theorem s3 : srt [3] = [3] := (srt_eq (a := [3]) (by decide) (by decide)).symm
theorem s25 : srt [2, 5] = [2, 5] := (srt_eq (a := [2, 5]) (by decide) (by decide)).symm
theorem s0 : srt [] = [] := (srt_eq (a := []) (by decide) (by decide)).symm
theorem x1 : take p0 2 = p1 ∧ took p0 2 = [3, 5] ∧ may p0 6 2 ∧ roomZ p0 6 = 2 := by
  refine ⟨?_, ?_, ?_, ?_⟩
  · unfold take oldN p0 p1; simp only [s3]; rfl
  · unfold took oldN p0; simp only [s3]; rfl
  · unfold may roomZ p0; decide
  · unfold roomZ p0; decide
theorem x2 : give p1 7 [5, 2] = p2 := by
  rw [give_new (by decide) (fun w h => by simp [p1] at h)]
  simp only [s52]; rfl
theorem x3 : release p2 6 true = p2 := by
  unfold release
  have e : goW 6 true p2.wait = [] := by decide
  rw [e]
  have e2 : srt (flat (p2.free :: pgs [])) = [] := s0
  rw [e2]; rfl
theorem x4 : release p2 7 true = p3 := by
  unfold release
  have e : goW 7 true p2.wait = p2.wait := by decide
  rw [e]
  have e2 : srt (flat (p2.free :: pgs p2.wait)) = [2, 5] := s25
  rw [e2]; rfl
theorem y3 : release ⟨6, [], [⟨7, [2, 5]⟩]⟩ 6 true = ⟨6, [], [⟨7, [2, 5]⟩]⟩ := x3
theorem y4 : release ⟨6, [], [⟨7, [2, 5]⟩]⟩ 7 true = ⟨6, [2, 5], []⟩ := x4
theorem x5 : listed p2 = [2, 5] := s25
theorem y5 : listed ⟨6, [], [⟨7, [2, 5]⟩]⟩ = [2, 5] := s25
theorem x6 : Chk p2 6 ∧ ¬ Chk p2 5 := by
  refine ⟨⟨fun i a c h0 ha hc => ?_, fun w hw => ?_, by decide, by decide, fun i a hi ha => by simp [p2] at hi, ?_⟩, fun h => absurd h.2.2.2.1 (by decide)⟩
  · have : i < 1 := (List.getElem?_eq_some_iff.1 ha).1; omega
  · simp [p2] at hw
    subst hw
    rintro (h | h)
    · cases h
    · refine h fun i a hi ha => ?_
      match i, hi with
      | 0, _ => cases ha; exact ⟨by decide, by decide, fun b h => by omega⟩
      | 1, _ => cases ha; exact ⟨by decide, by decide, fun b _ hb => by cases hb; decide⟩
  · rw [x5]
    intro i a hi ha
    match i, hi with
    | 0, _ => cases ha; exact ⟨by decide, by decide, fun b h => by omega⟩
    | 1, _ => cases ha; exact ⟨by decide, by decide, fun b _ hb => by cases hb; decide⟩
set_option maxHeartbeats 8000000 in
theorem awake (w0 : World) (S : St) : ACall Try.prog w0 42 [] S (fun d S' => d = dB true ∧ S' = S) := by
  refine fnS [] mx Try.func42 rfl rfl (by kernel_rfl) ?_; simp (maxDischargeDepth := 12) -implicitDefEqProofs only [Try.ntmps42, go_sem, Nat.reduceAdd, Nat.reduceSub, Nat.reduceMul, Nat.reduceLeDiff, Nat.reduceEqDiff, Nat.reduceGT, Nat.reduceBEq, reduceCtorEq, ↓reduceIte, Int.reduceToNat, Int.reduceLE, Int.reduceLT, Int.reduceNe, Int.reduceEq]
  intro b
  refine use1 (takeY w0 p0 6 2 _ x1.2.2.1 (by decide) (by decide) (by decide) (by decide) (by decide)) ?_ (by simp (maxDischargeDepth := 12) -implicitDefEqProofs only [go_sem, Nat.reduceAdd, Nat.reduceSub, Nat.reduceMul, Nat.reduceLeDiff, Nat.reduceEqDiff, Nat.reduceGT, Nat.reduceBEq, reduceCtorEq, ↓reduceIte, Int.reduceToNat, Int.reduceLE, Int.reduceLT, Int.reduceNe, Int.reduceEq, p0])
  simp (maxDischargeDepth := 12) -implicitDefEqProofs only [go_sem, Nat.reduceAdd, Nat.reduceSub, Nat.reduceMul, Nat.reduceLeDiff, Nat.reduceEqDiff, Nat.reduceGT, Nat.reduceBEq, reduceCtorEq, ↓reduceIte, Int.reduceToNat, Int.reduceLE, Int.reduceLT, Int.reduceNe, Int.reduceEq, x1.1, x1.2.1, p1]
  intro b1
  refine use1 (giveW w0 p1 7 [5, 2] _ (by decide) (by decide)) ?_ (by simp (maxDischargeDepth := 12) -implicitDefEqProofs only [go_sem, Nat.reduceAdd, Nat.reduceSub, Nat.reduceMul, Nat.reduceLeDiff, Nat.reduceEqDiff, Nat.reduceGT, Nat.reduceBEq, reduceCtorEq, ↓reduceIte, Int.reduceToNat, Int.reduceLE, Int.reduceLT, Int.reduceNe, Int.reduceEq, p1])
  simp (maxDischargeDepth := 12) -implicitDefEqProofs only [go_sem, Nat.reduceAdd, Nat.reduceSub, Nat.reduceMul, Nat.reduceLeDiff, Nat.reduceEqDiff, Nat.reduceGT, Nat.reduceBEq, reduceCtorEq, ↓reduceIte, Int.reduceToNat, Int.reduceLE, Int.reduceLT, Int.reduceNe, Int.reduceEq, x2, p2]
  intro b2
  refine use1 (releaseW w0 p2 6 true _ (by decide) (by decide)) ?_ (by simp (maxDischargeDepth := 12) -implicitDefEqProofs only [go_sem, Nat.reduceAdd, Nat.reduceSub, Nat.reduceMul, Nat.reduceLeDiff, Nat.reduceEqDiff, Nat.reduceGT, Nat.reduceBEq, reduceCtorEq, ↓reduceIte, Int.reduceToNat, Int.reduceLE, Int.reduceLT, Int.reduceNe, Int.reduceEq, p2])
  simp (maxDischargeDepth := 12) -implicitDefEqProofs only [go_sem, Nat.reduceAdd, Nat.reduceSub, Nat.reduceMul, Nat.reduceLeDiff, Nat.reduceEqDiff, Nat.reduceGT, Nat.reduceBEq, reduceCtorEq, ↓reduceIte, Int.reduceToNat, Int.reduceLE, Int.reduceLT, Int.reduceNe, Int.reduceEq, y3, p2]
  intro b3
  refine use1 (releaseW w0 p2 7 true _ (by decide) (by decide)) ?_ (by simp (maxDischargeDepth := 12) -implicitDefEqProofs only [go_sem, Nat.reduceAdd, Nat.reduceSub, Nat.reduceMul, Nat.reduceLeDiff, Nat.reduceEqDiff, Nat.reduceGT, Nat.reduceBEq, reduceCtorEq, ↓reduceIte, Int.reduceToNat, Int.reduceLE, Int.reduceLT, Int.reduceNe, Int.reduceEq, p2])
  simp (maxDischargeDepth := 12) -implicitDefEqProofs only [go_sem, Nat.reduceAdd, Nat.reduceSub, Nat.reduceMul, Nat.reduceLeDiff, Nat.reduceEqDiff, Nat.reduceGT, Nat.reduceBEq, reduceCtorEq, ↓reduceIte, Int.reduceToNat, Int.reduceLE, Int.reduceLT, Int.reduceNe, Int.reduceEq, y4, p2]
  intro b4
  refine use1 (ints3 w0 [3, 5] [3, 5] _ (by decide)) ?_ (by simp (maxDischargeDepth := 12) -implicitDefEqProofs only [go_sem, Nat.reduceAdd, Nat.reduceSub, Nat.reduceMul, Nat.reduceLeDiff, Nat.reduceEqDiff, Nat.reduceGT, Nat.reduceBEq, reduceCtorEq, ↓reduceIte, Int.reduceToNat, Int.reduceLE, Int.reduceLT, Int.reduceNe, Int.reduceEq])
  simp (maxDischargeDepth := 12) -implicitDefEqProofs only [go_sem, Nat.reduceAdd, Nat.reduceSub, Nat.reduceMul, Nat.reduceLeDiff, Nat.reduceEqDiff, Nat.reduceGT, Nat.reduceBEq, reduceCtorEq, ↓reduceIte, Int.reduceToNat, Int.reduceLE, Int.reduceLT, Int.reduceNe, Int.reduceEq]
  refine use1 (room w0 p0 6 _ (by decide) (by decide) (by decide) (by decide) (by decide)) ?_ (by simp (maxDischargeDepth := 12) -implicitDefEqProofs only [go_sem, Nat.reduceAdd, Nat.reduceSub, Nat.reduceMul, Nat.reduceLeDiff, Nat.reduceEqDiff, Nat.reduceGT, Nat.reduceBEq, reduceCtorEq, ↓reduceIte, Int.reduceToNat, Int.reduceLE, Int.reduceLT, Int.reduceNe, Int.reduceEq, p0])
  simp (maxDischargeDepth := 12) -implicitDefEqProofs only [go_sem, Nat.reduceAdd, Nat.reduceSub, Nat.reduceMul, Nat.reduceLeDiff, Nat.reduceEqDiff, Nat.reduceGT, Nat.reduceBEq, reduceCtorEq, ↓reduceIte, Int.reduceToNat, Int.reduceLE, Int.reduceLT, Int.reduceNe, Int.reduceEq, x1.2.2.2]
  refine use1 (waiting w0 p2 _ (by decide) (by decide)) ?_ (by simp (maxDischargeDepth := 12) -implicitDefEqProofs only [go_sem, Nat.reduceAdd, Nat.reduceSub, Nat.reduceMul, Nat.reduceLeDiff, Nat.reduceEqDiff, Nat.reduceGT, Nat.reduceBEq, reduceCtorEq, ↓reduceIte, Int.reduceToNat, Int.reduceLE, Int.reduceLT, Int.reduceNe, Int.reduceEq, p2])
  simp (maxDischargeDepth := 12) -implicitDefEqProofs only [go_sem, Nat.reduceAdd, Nat.reduceSub, Nat.reduceMul, Nat.reduceLeDiff, Nat.reduceEqDiff, Nat.reduceGT, Nat.reduceBEq, reduceCtorEq, ↓reduceIte, Int.reduceToNat, Int.reduceLE, Int.reduceLT, Int.reduceNe, Int.reduceEq, show nW p2.wait = 2 from rfl]
  refine use1 (ints3 w0 [2, 5] [2, 5] _ (by decide)) ?_ (by simp (maxDischargeDepth := 12) -implicitDefEqProofs only [go_sem, Nat.reduceAdd, Nat.reduceSub, Nat.reduceMul, Nat.reduceLeDiff, Nat.reduceEqDiff, Nat.reduceGT, Nat.reduceBEq, reduceCtorEq, ↓reduceIte, Int.reduceToNat, Int.reduceLE, Int.reduceLT, Int.reduceNe, Int.reduceEq])
  simp (maxDischargeDepth := 12) -implicitDefEqProofs only [go_sem, Nat.reduceAdd, Nat.reduceSub, Nat.reduceMul, Nat.reduceLeDiff, Nat.reduceEqDiff, Nat.reduceGT, Nat.reduceBEq, reduceCtorEq, ↓reduceIte, Int.reduceToNat, Int.reduceLE, Int.reduceLT, Int.reduceNe, Int.reduceEq]
  refine use1 (check w0 p2 6 _ (by decide) (by decide)) ?_ (by simp (maxDischargeDepth := 12) -implicitDefEqProofs only [go_sem, Nat.reduceAdd, Nat.reduceSub, Nat.reduceMul, Nat.reduceLeDiff, Nat.reduceEqDiff, Nat.reduceGT, Nat.reduceBEq, reduceCtorEq, ↓reduceIte, Int.reduceToNat, Int.reduceLE, Int.reduceLT, Int.reduceNe, Int.reduceEq, p2])
  simp (maxDischargeDepth := 12) -implicitDefEqProofs only [go_sem, Nat.reduceAdd, Nat.reduceSub, Nat.reduceMul, Nat.reduceLeDiff, Nat.reduceEqDiff, Nat.reduceGT, Nat.reduceBEq, reduceCtorEq, ↓reduceIte, Int.reduceToNat, Int.reduceLE, Int.reduceLT, Int.reduceNe, Int.reduceEq, pB_true x6.1]
  refine use1 (check w0 p2 5 _ (by decide) (by decide)) ?_ (by simp (maxDischargeDepth := 12) -implicitDefEqProofs only [go_sem, Nat.reduceAdd, Nat.reduceSub, Nat.reduceMul, Nat.reduceLeDiff, Nat.reduceEqDiff, Nat.reduceGT, Nat.reduceBEq, reduceCtorEq, ↓reduceIte, Int.reduceToNat, Int.reduceLE, Int.reduceLT, Int.reduceNe, Int.reduceEq, p2])
  simp (maxDischargeDepth := 12) -implicitDefEqProofs only [go_sem, Nat.reduceAdd, Nat.reduceSub, Nat.reduceMul, Nat.reduceLeDiff, Nat.reduceEqDiff, Nat.reduceGT, Nat.reduceBEq, reduceCtorEq, ↓reduceIte, Int.reduceToNat, Int.reduceLE, Int.reduceLT, Int.reduceNe, Int.reduceEq, pB_false x6.2]
  refine use1 (listedW w0 p2 _ (by decide) (by decide)) ?_ (by simp (maxDischargeDepth := 12) -implicitDefEqProofs only [go_sem, Nat.reduceAdd, Nat.reduceSub, Nat.reduceMul, Nat.reduceLeDiff, Nat.reduceEqDiff, Nat.reduceGT, Nat.reduceBEq, reduceCtorEq, ↓reduceIte, Int.reduceToNat, Int.reduceLE, Int.reduceLT, Int.reduceNe, Int.reduceEq, p2])
  simp (maxDischargeDepth := 12) -implicitDefEqProofs only [go_sem, Nat.reduceAdd, Nat.reduceSub, Nat.reduceMul, Nat.reduceLeDiff, Nat.reduceEqDiff, Nat.reduceGT, Nat.reduceBEq, reduceCtorEq, ↓reduceIte, Int.reduceToNat, Int.reduceLE, Int.reduceLT, Int.reduceNe, Int.reduceEq, y5, p2]
  refine use1 (ints3 w0 [2, 5] [2, 5] _ (by decide)) ?_ (by simp (maxDischargeDepth := 12) -implicitDefEqProofs only [go_sem, Nat.reduceAdd, Nat.reduceSub, Nat.reduceMul, Nat.reduceLeDiff, Nat.reduceEqDiff, Nat.reduceGT, Nat.reduceBEq, reduceCtorEq, ↓reduceIte, Int.reduceToNat, Int.reduceLE, Int.reduceLT, Int.reduceNe, Int.reduceEq])
  simp (maxDischargeDepth := 12) -implicitDefEqProofs only [go_sem, Nat.reduceAdd, Nat.reduceSub, Nat.reduceMul, Nat.reduceLeDiff, Nat.reduceEqDiff, Nat.reduceGT, Nat.reduceBEq, reduceCtorEq, ↓reduceIte, Int.reduceToNat, Int.reduceLE, Int.reduceLT, Int.reduceNe, Int.reduceEq]
end Go.Proofs.Ytkibkahknibgfaa
