/-
  FreshTells is true wherever it is called. By an AI agent.
-/
import Derived.Test.YtkibkahknibgfaaMT5
namespace Go.Proofs.Ytkibkahknibgfaa
open Aml Go
set_option linter.unusedVariables false
set_option linter.unusedSimpArgs false
set_option maxRecDepth 100000

/-- A step. -/
structure Stp where
  key : ByteArray
  size : Int
  laid : Bool
@[go_sem] def dSt (s : Stp) : DV := .agg [dS s.key, dI s.size, dB s.laid]
def badP (L : Nat) (s : Stp) : Bool := eqS s.key ByteArray.empty || decide (16 < s.key.size) || decide (400 < s.size) || decide (120 < L)
def zeroS (z : Nat) : ByteArray := strOfNums (List.replicate z 0)
def emptyN : N := .mk 0 true []
/-- What a step does. -/
def stepN (q : N × N) (s : Stp) : N × N :=
  let q := if s.laid then ((markN q.1 2).1, (markN q.1 2).1) else q
  (if s.size < 0 then Del s.key q.1 else Put s.key (zeroS s.size.toNat) q.1, q.2)
def runN (l : List Stp) : N × N := l.foldl stepN (emptyN, emptyN)
/-- Some node. -/
@[go_sem] def anyN : DV := .agg [.any, .any, .any]
def resN (l : List Stp) : DV := if l.all (fun s => !badP l.length s) then .tup [eN (runN l).1, eN (runN l).2, dB true] else .tup [anyN, anyN, dB false]
theorem zeroS_size (z : Nat) : (zeroS z).size = z := by
  unfold zeroS
  rw [strOfNums_size, List.length_replicate]
set_option maxHeartbeats 4000000 in
theorem emptyR (w0 : W0) (S : St) : ACall Try.prog w0 59 [] S (fun e S' => e = eN emptyN ∧ S' = S) := by
  refine fnS [] mx Try.func59 rfl rfl (by kernel_rfl) ?_; simp (maxDischargeDepth := 12) (maxSteps := 1000000) -implicitDefEqProofs only [Try.ntmps59, go_sem, Nat.reduceAdd, Nat.reduceSub, Nat.reduceMul, Nat.reduceLeDiff, Nat.reduceEqDiff, Nat.reduceGT, Nat.reduceBEq, reduceCtorEq, ↓reduceIte, Int.reduceToNat, Int.reduceLE, Int.reduceLT, Int.reduceNe, Int.reduceEq]
  intro b
  exact .agg (.cons (.refl _) (.cons (.refl _) (.cons (.nil _ _ _) .nil)))
set_option maxHeartbeats 4000000 in
theorem emptyP (w0 : W0) (S : St) : ACall Try.prog w0 41 [] S (fun e S' => e = eT emptyN ∧ S' = S) := by
  refine fnS [] mx Try.func41 rfl rfl (by kernel_rfl) ?_; simp (maxDischargeDepth := 12) (maxSteps := 1000000) -implicitDefEqProofs only [Try.ntmps41, go_sem, Nat.reduceAdd, Nat.reduceSub, Nat.reduceMul, Nat.reduceLeDiff, Nat.reduceEqDiff, Nat.reduceGT, Nat.reduceBEq, reduceCtorEq, ↓reduceIte, Int.reduceToNat, Int.reduceLE, Int.reduceLT, Int.reduceNe, Int.reduceEq]
  intro b
  exact .agg (.cons (.refl _) (.cons (.refl _) (.cons (.nil _ _ _) (.cons (.nil _ _ _) (.cons (.nil _ _ _) .nil)))))
theorem runN_succ {l : List Stp} {k : Nat} {c : Stp} (h : l[k]? = some c) : runN (l.take (k + 1)) = stepN (runN (l.take k)) c := by
  unfold runN
  rw [List.take_add_one, h, Option.toList_some, List.foldl_append]; rfl
/-- A tree that steps may come to. -/
def StOk (k : Nat) (n : N) : Prop := ∃ d, d ≤ k ∧ Nd d n ∧ totN n ≤ 125 * k
theorem StOk.mono {k m : Nat} {n : N} (h : StOk k n) (hm : k ≤ m) : StOk m n := by
  obtain ⟨d, h1, h2, h3⟩ := h
  exact ⟨d, by omega, h2, by omega⟩
theorem StOk.mark {k : Nat} {n : N} (h : StOk k n) (f : Int) : StOk k (markN n f).1 := by
  obtain ⟨d, h1, h2, h3⟩ := h
  exact ⟨d, h1, nd_mark f h2, by rw [tot_mark f h2]; exact h3⟩
theorem ok_empty : StOk 0 emptyN := ⟨0, Nat.le_refl _, ⟨rfl, fun c hc => by cases hc⟩, Nat.le_refl _⟩
theorem bad_no {L : Nat} {s : Stp} (h : (!badP L s) = true) : eqS s.key ByteArray.empty = false ∧ s.key.size ≤ 16 ∧ s.size ≤ 400 ∧ L ≤ 120 := by
  unfold badP at h
  simp only [Bool.not_eq_true', Bool.or_eq_false_iff, decide_eq_false_iff_not] at h
  exact ⟨h.1.1.1, by omega, by omega, by omega⟩
theorem ok_step {k : Nat} {q : N × N} {s : Stp} (hk : k ≤ 120) (h1 : StOk k q.1) (h2 : StOk k q.2) (hs : s.key.size ≤ 16) (hz : s.size ≤ 400) : StOk (k + 1) (stepN q s).1 ∧ StOk (k + 1) (stepN q s).2 := by
  have hq : StOk k (if s.laid then ((markN q.1 2).1, (markN q.1 2).1) else q).1 ∧ StOk k (if s.laid then ((markN q.1 2).1, (markN q.1 2).1) else q).2 := by
    split
    · exact ⟨h1.mark 2, h1.mark 2⟩
    · exact ⟨h1, h2⟩
  unfold stepN
  generalize (if s.laid then ((markN q.1 2).1, (markN q.1 2).1) else q) = p at hq
  refine ⟨?_, hq.2.mono (by omega)⟩
  obtain ⟨d, a1, a2, a3⟩ := hq.1
  simp only
  split
  · obtain ⟨d', b1, b2, b3⟩ := nd_Del (key := s.key) a2
    exact ⟨d', by omega, b2, by omega⟩
  · obtain ⟨d', b1, b2, b3⟩ := nd_Put (key := s.key) (val := zeroS s.size.toNat) hs (by rw [zeroS_size]; omega) a2
    exact ⟨d', by omega, b2, by omega⟩
theorem run_ok {L : Nat} {l : List Stp} (hL : l.length ≤ 120) : ∀ k, k ≤ l.length → (l.take k).all (fun s => !badP L s) = true → StOk k (runN (l.take k)).1 ∧ StOk k (runN (l.take k)).2
  | 0, _, _ => by rw [List.take_zero]; exact ⟨ok_empty, ok_empty⟩
  | k + 1, hk, ha => by
    have hx : l[k]? = some l[k] := List.getElem?_eq_getElem (by omega)
    rw [List.take_add_one, hx, Option.toList_some, List.all_append, Bool.and_eq_true] at ha
    obtain ⟨h1, h2⟩ := run_ok hL k (by omega) ha.1
    have hb := bad_no (L := L) (s := l[k]) (by simpa using ha.2)
    rw [runN_succ hx]
    exact ok_step (by omega) h1 h2 hb.2.1 hb.2.2.1
theorem res_bad {l : List Stp} {k : Nat} {c : Stp} (hc : l[k]? = some c) (hb : badP l.length c = true) : resN l = .tup [anyN, anyN, dB false] := by
  unfold resN
  rw [if_neg]
  intro h
  have := List.all_eq_true.1 h c (List.mem_of_getElem? hc)
  rw [hb] at this; cases this
set_option maxHeartbeats 16000000 in
theorem builtW (w0 : W0) (l : List Stp) (S : St) (h0 : l.length ≤ 1048576) : ACall Try.prog w0 28 [.sl 3 false (l.map dSt)] S (fun e S' => e = resN l ∧ S' = S) := by
  refine fnS [7, 12, 14, 15] mx Try.func28 rfl rfl (by kernel_rfl) ?_; simp (maxDischargeDepth := 12) (maxSteps := 1000000) -implicitDefEqProofs only [Try.ntmps28, go_sem, Nat.reduceAdd, Nat.reduceSub, Nat.reduceMul, Nat.reduceLeDiff, Nat.reduceEqDiff, Nat.reduceGT, Nat.reduceBEq, reduceCtorEq, ↓reduceIte, Int.reduceToNat, Int.reduceLE, Int.reduceLT, Int.reduceNe, Int.reduceEq]
  intro b b1
  refine use1 (emptyR w0 _) ?_
  simp (maxDischargeDepth := 12) (maxSteps := 1000000) -implicitDefEqProofs only [go_sem, Nat.reduceAdd, Nat.reduceSub, Nat.reduceMul, Nat.reduceLeDiff, Nat.reduceEqDiff, Nat.reduceGT, Nat.reduceBEq, reduceCtorEq, ↓reduceIte, Int.reduceToNat, Int.reduceLE, Int.reduceLT, Int.reduceNe, Int.reduceEq]
  intro b2 b3
  refine loopK [7, 12, 14, 15] [0, 2, 3, 5, 6, 7] (fun s : Nat × N × N => [(7, dI s.1)]) (fun s => ⟨(b3.n, [dI s.2.2.page, dB s.2.2.leaf, .sl 4 false (s.2.2.l.map dC)]) :: (b2.n, [dI s.2.1.page, dB s.2.1.leaf, .sl 4 false (s.2.1.l.map dC)]) :: (b1.n, [dI 0, dB false, .sl 0 true []]) :: (b.n, [dI 0, dB false, .sl 0 true []]) :: S.box, S.acc⟩) (fun s => s.1 ≤ l.length ∧ (l.take s.1).all (fun s => !badP l.length s) = true ∧ s.2 = runN (l.take s.1)) (fun s => l.length - s.1) (0, emptyN, emptyN) mx (by kernel_rfl) ?_ ?_
  · simp (maxDischargeDepth := 12) (maxSteps := 1000000) -implicitDefEqProofs only [go_sem, Nat.reduceAdd, Nat.reduceSub, Nat.reduceMul, Nat.reduceLeDiff, Nat.reduceEqDiff, Nat.reduceGT, Nat.reduceBEq, reduceCtorEq, ↓reduceIte, Int.reduceToNat, Int.reduceLE, Int.reduceLT, Int.reduceNe, Int.reduceEq]
    exact ⟨Nat.zero_le _, rfl⟩
  · rintro ⟨k, n, old⟩ ⟨h1, h2, h3⟩
    simp only at h1 h2 h3
    have he0 : (⟨#[]⟩ : ByteArray) = ByteArray.empty := rfl
    rcases Nat.lt_or_ge k l.length with hlt | hge
    · obtain ⟨c, hc⟩ : ∃ c, l[k]? = some c := ⟨_, List.getElem?_eq_getElem hlt⟩
      have hk1 : IntKind.i64.wrap ((k : Int) + 1) = ((k + 1 : Nat) : Int) := by rw [w64 (by omega) (by omega)]; omega
      simp (maxDischargeDepth := 12) (maxSteps := 1000000) -implicitDefEqProofs only [go_sem, Nat.reduceAdd, Nat.reduceSub, Nat.reduceMul, Nat.reduceLeDiff, Nat.reduceEqDiff, Nat.reduceGT, Nat.reduceBEq, reduceCtorEq, ↓reduceIte, Int.reduceToNat, Int.reduceLE, Int.reduceLT, Int.reduceNe, Int.reduceEq, hc, hlt, he0]
      have hbad : badP l.length c = true → resN l = .tup [anyN, anyN, dB false] := res_bad hc
      refine ⟨fun e1 => ?_, fun e1 => ⟨fun e2 => ?_, fun e2 => ⟨fun e3 => ?_, fun e3 => ⟨fun e4 => ?_, fun e4 => ?_⟩⟩⟩⟩
      iterate 4
        · rw [hbad (by unfold badP; first | (simp [e1]; done) | (simp only [Bool.or_eq_true, decide_eq_true_eq]; omega))]
          refine allK (.both (.both (.head (.head (.head .leaf))) (.head (.head (.head .leaf)))) (.head (.head (.head (.head .leaf))))) mx (by kernel_rfl) ?_
          simp (maxDischargeDepth := 12) (maxSteps := 1000000) -implicitDefEqProofs only [go_sem, Nat.reduceAdd, Nat.reduceSub, Nat.reduceMul, Nat.reduceLeDiff, Nat.reduceEqDiff, Nat.reduceGT, Nat.reduceBEq, reduceCtorEq, ↓reduceIte, Int.reduceToNat, Int.reduceLE, Int.reduceLT, Int.reduceNe, Int.reduceEq]
      have hst := run_ok (L := l.length) (by omega) k h1 h2
      rw [← h3] at hst
      obtain ⟨⟨d, d1, d2, d3⟩, hold⟩ := hst
      simp only at d2 d3
      have hall : (l.take (k + 1)).all (fun s => !badP l.length s) = true := by
        rw [List.take_add_one, hc, Option.toList_some, List.all_append, h2]
        simp only [List.all_cons, List.all_nil, Bool.and_true, Bool.true_and]
        unfold badP
        simp only [e1, Bool.false_or, Bool.not_eq_true', Bool.or_eq_false_iff, decide_eq_false_iff_not]
        omega
      have hrun := runN_succ hc
      rw [← h3] at hrun
      refine ⟨fun e5 => ?_, fun e5 => ?_⟩
      · refine use1 (markedW w0 d n 2 _ d2 (by omega) (by omega) (by omega)) ?_
        simp (maxDischargeDepth := 12) (maxSteps := 1000000) -implicitDefEqProofs only [go_sem, Nat.reduceAdd, Nat.reduceSub, Nat.reduceMul, Nat.reduceLeDiff, Nat.reduceEqDiff, Nat.reduceGT, Nat.reduceBEq, reduceCtorEq, ↓reduceIte, Int.reduceToNat, Int.reduceLE, Int.reduceLT, Int.reduceNe, Int.reduceEq, hc, hlt]
        have hstep : stepN (n, old) c = (if c.size < 0 then Del c.key (markN n 2).1 else Put c.key (zeroS c.size.toNat) (markN n 2).1, (markN n 2).1) := by unfold stepN; rw [e5]; rfl
        have d2 := nd_mark 2 d2
        have d3 : totN (markN n 2).1 ≤ 125 * k := by rw [tot_mark 2 (by assumption)]; exact d3
        generalize (markN n 2).1 = n1 at *
        refine ⟨fun e6 => ?_, fun e6 => ?_⟩
        · refine lexK mx (by kernel_rfl) ?_
          simp (maxDischargeDepth := 12) (maxSteps := 1000000) -implicitDefEqProofs only [go_sem, Nat.reduceAdd, Nat.reduceSub, Nat.reduceMul, Nat.reduceLeDiff, Nat.reduceEqDiff, Nat.reduceGT, Nat.reduceBEq, reduceCtorEq, ↓reduceIte, Int.reduceToNat, Int.reduceLE, Int.reduceLT, Int.reduceNe, Int.reduceEq, hc, hlt]
          refine useX (fun B hB => DelW w0 c.key d n1 _ d2 (by omega)) ?_
          simp (maxDischargeDepth := 12) (maxSteps := 1000000) -implicitDefEqProofs only [go_sem, Nat.reduceAdd, Nat.reduceSub, Nat.reduceMul, Nat.reduceLeDiff, Nat.reduceEqDiff, Nat.reduceGT, Nat.reduceBEq, reduceCtorEq, ↓reduceIte, Int.reduceToNat, Int.reduceLE, Int.reduceLT, Int.reduceNe, Int.reduceEq]
          intro b4
          refine ⟨(k + 1, Del c.key n1, n1), ⟨hlt, hall, ?_⟩, by simp only; omega, hk1, .consB (.refl _)⟩
          simp only
          rw [hrun, hstep, if_pos e6]
        · refine makeK mx (by kernel_rfl) ?_
          simp (maxDischargeDepth := 12) (maxSteps := 1000000) -implicitDefEqProofs only [go_sem, Nat.reduceAdd, Nat.reduceSub, Nat.reduceMul, Nat.reduceLeDiff, Nat.reduceEqDiff, Nat.reduceGT, Nat.reduceBEq, reduceCtorEq, ↓reduceIte, Int.reduceToNat, Int.reduceLE, Int.reduceLT, Int.reduceNe, Int.reduceEq, hc, hlt]
          refine ⟨by omega, by omega, by omega, useQ (PutW w0 c.key (zeroS c.size.toNat) (bad_no (L := l.length) (List.all_eq_true.1 hall c (by rw [List.take_add_one, hc]; simp))).2.1 (by rw [zeroS_size]; omega) d n1 _ d2 (by omega)) ?_⟩
          simp (maxDischargeDepth := 12) (maxSteps := 1000000) -implicitDefEqProofs only [go_sem, Nat.reduceAdd, Nat.reduceSub, Nat.reduceMul, Nat.reduceLeDiff, Nat.reduceEqDiff, Nat.reduceGT, Nat.reduceBEq, reduceCtorEq, ↓reduceIte, Int.reduceToNat, Int.reduceLE, Int.reduceLT, Int.reduceNe, Int.reduceEq]
          refine ⟨(k + 1, Put c.key (zeroS c.size.toNat) n1, n1), ⟨hlt, hall, ?_⟩, by simp only; omega, hk1, .refl _⟩
          simp only
          rw [hrun, hstep, if_neg e6]
      · have hstep : stepN (n, old) c = (if c.size < 0 then Del c.key n else Put c.key (zeroS c.size.toNat) n, old) := by unfold stepN; rw [e5]; rfl
        generalize n = n1 at *
        refine ⟨fun e6 => ?_, fun e6 => ?_⟩
        · refine lexK mx (by kernel_rfl) ?_
          simp (maxDischargeDepth := 12) (maxSteps := 1000000) -implicitDefEqProofs only [go_sem, Nat.reduceAdd, Nat.reduceSub, Nat.reduceMul, Nat.reduceLeDiff, Nat.reduceEqDiff, Nat.reduceGT, Nat.reduceBEq, reduceCtorEq, ↓reduceIte, Int.reduceToNat, Int.reduceLE, Int.reduceLT, Int.reduceNe, Int.reduceEq, hc, hlt]
          refine useX (fun B hB => DelW w0 c.key d n1 _ d2 (by omega)) ?_
          simp (maxDischargeDepth := 12) (maxSteps := 1000000) -implicitDefEqProofs only [go_sem, Nat.reduceAdd, Nat.reduceSub, Nat.reduceMul, Nat.reduceLeDiff, Nat.reduceEqDiff, Nat.reduceGT, Nat.reduceBEq, reduceCtorEq, ↓reduceIte, Int.reduceToNat, Int.reduceLE, Int.reduceLT, Int.reduceNe, Int.reduceEq]
          intro b4
          refine ⟨(k + 1, Del c.key n1, old), ⟨hlt, hall, ?_⟩, by simp only; omega, hk1, .consB (.refl _)⟩
          simp only
          rw [hrun, hstep, if_pos e6]
        · refine makeK mx (by kernel_rfl) ?_
          simp (maxDischargeDepth := 12) (maxSteps := 1000000) -implicitDefEqProofs only [go_sem, Nat.reduceAdd, Nat.reduceSub, Nat.reduceMul, Nat.reduceLeDiff, Nat.reduceEqDiff, Nat.reduceGT, Nat.reduceBEq, reduceCtorEq, ↓reduceIte, Int.reduceToNat, Int.reduceLE, Int.reduceLT, Int.reduceNe, Int.reduceEq, hc, hlt]
          refine ⟨by omega, by omega, by omega, useQ (PutW w0 c.key (zeroS c.size.toNat) (bad_no (L := l.length) (List.all_eq_true.1 hall c (by rw [List.take_add_one, hc]; simp))).2.1 (by rw [zeroS_size]; omega) d n1 _ d2 (by omega)) ?_⟩
          simp (maxDischargeDepth := 12) (maxSteps := 1000000) -implicitDefEqProofs only [go_sem, Nat.reduceAdd, Nat.reduceSub, Nat.reduceMul, Nat.reduceLeDiff, Nat.reduceEqDiff, Nat.reduceGT, Nat.reduceBEq, reduceCtorEq, ↓reduceIte, Int.reduceToNat, Int.reduceLE, Int.reduceLT, Int.reduceNe, Int.reduceEq]
          refine ⟨(k + 1, Put c.key (zeroS c.size.toNat) n1, old), ⟨hlt, hall, ?_⟩, by simp only; omega, hk1, .refl _⟩
          simp only
          rw [hrun, hstep, if_neg e6]
    · have hnl : ¬ k < l.length := by omega
      have hkl : k = l.length := by omega
      simp (maxDischargeDepth := 12) (maxSteps := 1000000) -implicitDefEqProofs only [go_sem, Nat.reduceAdd, Nat.reduceSub, Nat.reduceMul, Nat.reduceLeDiff, Nat.reduceEqDiff, Nat.reduceGT, Nat.reduceBEq, reduceCtorEq, ↓reduceIte, Int.reduceToNat, Int.reduceLE, Int.reduceLT, Int.reduceNe, Int.reduceEq, hnl]
      refine allK (.both (.both (.head (.head (.head .leaf))) (.head (.head (.head .leaf)))) (.head (.head (.head (.head .leaf))))) mx (by kernel_rfl) ?_
      simp (maxDischargeDepth := 12) (maxSteps := 1000000) -implicitDefEqProofs only [go_sem, Nat.reduceAdd, Nat.reduceSub, Nat.reduceMul, Nat.reduceLeDiff, Nat.reduceEqDiff, Nat.reduceGT, Nat.reduceBEq, reduceCtorEq, ↓reduceIte, Int.reduceToNat, Int.reduceLE, Int.reduceLT, Int.reduceNe, Int.reduceEq]
      rw [hkl, List.take_length] at h2 h3
      have hres : resN l = .tup [eN n, eN old, dB true] := by
        unfold resN
        rw [if_pos h2, ← h3]
      rw [hres]
      exact .refl _
end Go.Proofs.Ytkibkahknibgfaa

namespace Aml.Z
open Go Go.RowKit
set_option linter.unusedVariables false
set_option linter.unusedSimpArgs false

/-- 0: looks at no store; 1: reads; 2: makes a box; 3: else. -/
def kX : Op → Nat
  | .load .. => 1
  | .alloc _ => 2
  | .call c => match c.callee with
    | .value _ => 1
    | .builtin .len => 0
    | .builtin .cap => 0
    | .builtin .min => 0
    | .builtin .max => 0
    | _ => 3
  | .move _ => 0
  | .assign _ => 0
  | .pick .. => 0
  | .fieldAddr .. => 0
  | .indexAddr .. => 0
  | .index .. => 0
  | .field .. => 0
  | .extract .. => 0
  | .nilCheck _ => 0
  | .binOp .. => 0
  | .unOp .. => 0
  | .convert .. => 0
  | .makeInterface .. => 0
  | .makeFunc .. => 0
  | .slice .. => 0
  | .build .. => 0
  | .buildSlice .. => 0
  | .makeSlice .. => 0
  | _ => 3
def Fr (S : St) (B : List (Nat × List DV)) : Prop := ∀ x, x ∈ B → nin S.box x.1
def bodyX (P : Program) (w0 : W0) (o : Oper) (fr : List DV) (S : St) (K : List DV → St → Prop) : Prop :=
  (kX o.op = 0 ∧ ∃ d, (∀ S', QY P w0 S' o fr d) ∧ K (pt fr o.dst d) S) ∨
  (kX o.op = 1 ∧ ∃ d, (∀ B, Fr S B → QY P w0 ⟨B ++ S.box, S.acc⟩ o fr d) ∧ K (pt fr o.dst d) S) ∨
  (kX o.op = 2 ∧ ∃ t, o.op = .alloc t ∧ okE (zD P t) = true ∧ ∀ b, nin S.box b → K (pt fr o.dst (.v (.pointer (some ⟨b, 0, none⟩)))) ⟨(b, cd (zD P t)) :: S.box, S.acc⟩) ∨
  (kX o.op = 3 ∧ YieldsE P w0 o (ev fr) S fun d S' => K (pt fr o.dst d) S')
def tauX (P : Program) (w0 : W0) (ops : Array Oper) (o : Oper) (fr : List DV) (S : St) (K : List DV → St → Prop) : Prop :=
  (wantB ops fr o.guard = some true ∧ bodyX P w0 o fr S K) ∨ (wantB ops fr o.guard = some false ∧ K (pt fr o.dst ud) S)
/-- May two that have no order change places? -/
def okP (a b : Nat) : Bool := a == 0 || (a == 1 && decide (b < 3))

section
variable {P : Program} {w0 : W0} {ops : Array Oper} {md : Region.Mode}
theorem bodyX_mono {o : Oper} {fr : List DV} {S : St} {K K' : List DV → St → Prop} (h : ∀ fr S, K fr S → K' fr S) (b : bodyX P w0 o fr S K) : bodyX P w0 o fr S K' := by
  rcases b with ⟨c, d, q, k⟩ | ⟨c, d, q, k⟩ | ⟨c, t, ht, hz, k⟩ | ⟨c, q⟩
  · exact .inl ⟨c, d, q, h _ _ k⟩
  · exact .inr (.inl ⟨c, d, q, h _ _ k⟩)
  · exact .inr (.inr (.inl ⟨c, t, ht, hz, fun b hb => h _ _ (k b hb)⟩))
  · exact .inr (.inr (.inr ⟨c, yields_mono (fun d S hk => h _ _ hk) q⟩))
theorem tauX_mono {o : Oper} {fr : List DV} {S : St} {K K' : List DV → St → Prop} (h : ∀ fr S, K fr S → K' fr S) (b : tauX P w0 ops o fr S K) : tauX P w0 ops o fr S K' :=
  b.imp (fun ⟨a, b⟩ => ⟨a, bodyX_mono h b⟩) fun ⟨a, b⟩ => ⟨a, h _ _ b⟩
/-- What another one puts elsewhere is not seen. -/
theorem bodyX_put {o : Oper} {fr : List DV} {S : St} {K : List DV → St → Prop} {dst : Option Tmp} {e : DV} (h1 : ∀ t, dst = some t → t ∉ o.looksAt ops) (h2 : ∀ t, dst = some t → o.dst ≠ some t) :
    bodyX P w0 o (pt fr dst e) S K ↔ bodyX P w0 o fr S fun fr' S' => K (pt fr' dst e) S' := by
  have hq : ∀ S d, QY P w0 S o (pt fr dst e) d ↔ QY P w0 S o fr d := fun S d =>
    ⟨yields_congr (fun x hx => ev_put (ops := ops) h1 x hx), yields_congr (fun x hx => (ev_put (ops := ops) h1 x hx).symm)⟩
  have hc : ∀ d, pt (pt fr dst e) o.dst d = pt (pt fr o.dst d) dst e := fun d => pt_comm fr e d h2
  have hy : ∀ K, YieldsE P w0 o (ev (pt fr dst e)) S K ↔ YieldsE P w0 o (ev fr) S K := fun K =>
    ⟨yields_congr (fun x hx => ev_put (ops := ops) h1 x hx), yields_congr (fun x hx => (ev_put (ops := ops) h1 x hx).symm)⟩
  unfold bodyX
  simp only [hq, hc, hy]
theorem tauX_put {o : Oper} {fr : List DV} {S : St} {K : List DV → St → Prop} {dst : Option Tmp} {e : DV} (h1 : ∀ t, dst = some t → t ∉ o.looksAt ops) (h2 : ∀ t, dst = some t → o.dst ≠ some t) :
    tauX P w0 ops o (pt fr dst e) S K ↔ tauX P w0 ops o fr S fun fr' S' => K (pt fr' dst e) S' := by
  unfold tauX
  rw [want_put h1, bodyX_put h1 h2, pt_comm fr e ud h2]
theorem bodyX_monoP {o : Oper} {fr : List DV} {S : St} {K K' : List DV → St → Prop} (h : ∀ e S, K (pt fr o.dst e) S → K' (pt fr o.dst e) S) (b : bodyX P w0 o fr S K) : bodyX P w0 o fr S K' := by
  rcases b with ⟨c, d, q, k⟩ | ⟨c, d, q, k⟩ | ⟨c, t, ht, hz, k⟩ | ⟨c, q⟩
  · exact .inl ⟨c, d, q, h _ _ k⟩
  · exact .inr (.inl ⟨c, d, q, h _ _ k⟩)
  · exact .inr (.inr (.inl ⟨c, t, ht, hz, fun b hb => h _ _ (k b hb)⟩))
  · exact .inr (.inr (.inr ⟨c, yields_mono (fun d S hk => h _ _ hk) q⟩))
theorem tauX_monoP {o : Oper} {fr : List DV} {S : St} {K K' : List DV → St → Prop} (h : ∀ e S, K (pt fr o.dst e) S → K' (pt fr o.dst e) S) (b : tauX P w0 ops o fr S K) : tauX P w0 ops o fr S K' :=
  b.imp (fun ⟨a, b⟩ => ⟨a, bodyX_monoP h b⟩) fun ⟨a, b⟩ => ⟨a, h _ _ b⟩
/-- Two that are apart change places. -/
theorem tauX_comm {x y : Oper} (hap : x.apart ops y = true) (hk : okP (kX x.op) (kX y.op) = true) {fr : List DV} {S : St} {K : List DV → St → Prop} (h : tauX P w0 ops x fr S fun fr S => tauX P w0 ops y fr S K) :
    tauX P w0 ops y fr S fun fr S => tauX P w0 ops x fr S K := by
  obtain ⟨b1, b2, b3⟩ := Oper.apart_spec hap
  have hw : ∀ e, wantB ops (pt fr y.dst e) x.guard = wantB ops fr x.guard := fun e => want_put b3
  have hq : ∀ {S d e}, QY P w0 S x fr d → QY P w0 S x (pt fr y.dst e) d := fun {S d e} q => yields_congr (fun z hz => (ev_put (ops := ops) b3 z hz).symm) q
  rcases h with ⟨hg, hb⟩ | ⟨hg, hb⟩
  · rcases hb with ⟨c, d, q, k⟩ | ⟨c, d, q, k⟩ | ⟨c, -⟩ | ⟨c, -⟩
    · rw [tauX_put b1 b2] at k
      exact tauX_monoP (fun e S' hk => .inl ⟨by rw [hw]; exact hg, .inl ⟨c, d, fun S'' => hq (q S''), hk⟩⟩) k
    · rw [tauX_put b1 b2] at k
      rcases k with ⟨g2, k⟩ | ⟨g2, k⟩
      · rcases k with ⟨c2, d2, q2, k⟩ | ⟨c2, d2, q2, k⟩ | ⟨c2, t, ht, hz, k⟩ | ⟨c2, -⟩
        · exact .inl ⟨g2, .inl ⟨c2, d2, q2, .inl ⟨by rw [hw]; exact hg, .inr (.inl ⟨c, d, fun B hB => hq (q B hB), k⟩)⟩⟩⟩
        · exact .inl ⟨g2, .inr (.inl ⟨c2, d2, q2, .inl ⟨by rw [hw]; exact hg, .inr (.inl ⟨c, d, fun B hB => hq (q B hB), k⟩)⟩⟩)⟩
        · refine .inl ⟨g2, .inr (.inr (.inl ⟨c2, t, ht, hz, fun b hb => .inl ⟨by rw [hw]; exact hg, .inr (.inl ⟨c, d, fun B hB => hq ?_, k b hb⟩)⟩⟩))⟩
          have := q (B ++ [(b, cd (zD P t))]) fun z hz' => by
            rcases List.mem_append.1 hz' with h | h
            · exact (hB z h).2.2
            · simp only [List.mem_singleton] at h; subst h; exact hb
          rw [List.append_assoc] at this
          exact this
        · rw [c, c2] at hk; exact absurd hk (by decide)
      · exact .inr ⟨g2, .inl ⟨by rw [hw]; exact hg, .inr (.inl ⟨c, d, fun B hB => hq (q B hB), k⟩)⟩⟩
    · rw [c] at hk; simp [okP] at hk
    · rw [c] at hk; simp [okP] at hk
  · rw [tauX_put b1 b2] at hb
    exact tauX_monoP (fun e S' hk => .inr ⟨by rw [hw]; exact hg, hk⟩) hb

def tauI (P : Program) (w0 : W0) (ops : Array Oper) (i : Nat) (fr : List DV) (S : St) (K : List DV → St → Prop) : Prop := match ops[i]? with
  | none => K fr S
  | some o => tauX P w0 ops o fr S K
def wpX (P : Program) (w0 : W0) (md : Region.Mode) (ops : Array Oper) (K : List DV → St → Prop) : Nat → Array Bool → List DV → St → Prop
  | 0, listed, fr, S => Region.ready md ops listed = [] ∧ K fr S
  | fuel + 1, listed, fr, S => (Region.ready md ops listed = [] → K fr S) ∧ ∀ i ∈ Region.ready md ops listed, tauI P w0 ops i fr S (wpX P w0 md ops K fuel (listed.setIfInBounds i true))
theorem tauI_mono {i : Nat} {fr : List DV} {S : St} {K K' : List DV → St → Prop} (h : ∀ fr S, K fr S → K' fr S) (b : tauI P w0 ops i fr S K) : tauI P w0 ops i fr S K' := by
  unfold tauI at *
  split
  · rename_i ho; simp only [ho] at b; exact h _ _ b
  · rename_i o ho; simp only [ho] at b; exact tauX_mono h b
theorem wpX_first {K : List DV → St → Prop} {i : Nat} {oi : Oper} (hi : ops[i]? = some oi) :
    ∀ (fuel : Nat) (listed : Array Bool) (fr : List DV) (S : St),
      (∀ j oj, ops[j]? = some oj → j ≠ i → listed.getD j true = false → (∀ e ∈ oj.after, Region.binds md e = true → e.on ≠ i) → oi.apart ops oj = true ∧ okP (kX oi.op) (kX oj.op) = true) →
      (∀ l : List Nat, l.Nodup → (∀ k, k ∈ l → listed.getD k true = false) → l.length ≤ fuel + 1) →
      i ∈ Region.ready md ops listed → tauX P w0 ops oi fr S (wpX P w0 md ops K fuel (listed.setIfInBounds i true)) → wpX P w0 md ops K (fuel + 1) listed fr S := by
  intro fuel
  induction fuel with
  | zero =>
    intro listed fr S _ hcnt hr H
    refine ⟨fun h => (by rw [h] at hr; cases hr), fun j hj => ?_⟩
    by_cases hji : j = i
    · subst hji; unfold tauI; simp only [hi]; exact H
    · exfalso
      have := hcnt [i, j] (by simp [Ne.symm hji]) fun k hk => by
        simp only [List.mem_cons, List.not_mem_nil, or_false] at hk
        rcases hk with rfl | rfl
        · exact (mem_ready.1 hr).1
        · exact (mem_ready.1 hj).1
      simp at this
  | succ fuel ih =>
    intro listed fr S hfree hcnt hr H
    refine ⟨fun h => (by rw [h] at hr; cases hr), fun j hj => ?_⟩
    by_cases hji : j = i
    · subst hji; unfold tauI; simp only [hi]; exact H
    · obtain ⟨hjun, oj, hoj, hall⟩ := mem_ready.1 hj
      have hnot : ∀ e ∈ oj.after, Region.binds md e = true → e.on ≠ i := fun e he hb heq => by
        have h1 := hall e he hb
        have h0 := (mem_ready.1 hr).1
        rw [heq] at h1
        rcases Nat.lt_or_ge i listed.size with h' | h'
        · simp [h'] at h0 h1; rw [h0] at h1; cases h1
        · simp [Array.getElem?_eq_none h'] at h1
      have h1 : tauX P w0 ops oi fr S fun fr S => tauX P w0 ops oj fr S (wpX P w0 md ops K fuel ((listed.setIfInBounds i true).setIfInBounds j true)) :=
        tauX_mono (fun fr S h => by
          have := h.2 j (ready_mono hj hji)
          unfold tauI at this; simp only [hoj] at this; exact this) H
      have hc := hfree j oj hoj hji hjun hnot
      have h2 := tauX_comm hc.1 hc.2 h1
      have hfree' : ∀ k ok, ops[k]? = some ok → k ≠ i → (listed.setIfInBounds j true).getD k true = false →
          (∀ e ∈ ok.after, Region.binds md e = true → e.on ≠ i) → oi.apart ops ok = true ∧ okP (kX oi.op) (kX ok.op) = true := fun k ok hk hki hun hno => by
        refine hfree k ok hk hki ?_ hno
        by_cases hjk : j = k
        · subst hjk; exact hjun
        · rw [getD_set_ne true hjk] at hun; exact hun
      unfold tauI
      simp only [hoj]
      have hcnt' : ∀ l : List Nat, l.Nodup → (∀ k, k ∈ l → (listed.setIfInBounds j true).getD k true = false) → l.length ≤ fuel + 1 := by
        intro l hn hl
        have hjs : j < listed.size := by
          rcases Nat.lt_or_ge j listed.size with h | h
          · exact h
          · rw [Array.getD_eq_getD_getElem?, Array.getElem?_eq_none h] at hjun; cases hjun
        have hjl : j ∉ l := fun hj => by
          have := hl j hj
          rw [Array.getD_eq_getD_getElem?, Array.getElem?_setIfInBounds] at this
          simp [hjs] at this
        have := hcnt (j :: l) (List.nodup_cons.2 ⟨hjl, hn⟩) fun k hk => by
          rcases List.mem_cons.1 hk with rfl | hk
          · exact hjun
          · have := hl k hk
            rw [getD_set_ne true (show j ≠ k from fun e => hjl (e ▸ hk))] at this
            exact this
        simp at this; omega
      refine tauX_mono (fun fr S h => ih (listed.setIfInBounds j true) fr S hfree' hcnt' (ready_mono hr (Ne.symm hji)) ?_) h2
      rw [Array.setIfInBounds_comm _ _ hji]
      exact h
/-- Is an operation free to come first? -/
def freeX (md : Region.Mode) (ops : Array Oper) (listed : Array Bool) (i : Nat) : Bool := (List.range ops.size).all fun j => match ops[i]?, ops[j]? with
  | some oi, some oj => j == i || listed.getD j true || oj.after.any (fun e => Region.binds md e && e.on == i) || (oi.apart ops oj && okP (kX oi.op) (kX oj.op))
  | _, _ => false
def lexX (md : Region.Mode) (ops : Array Oper) : Nat → Nat → Array Bool → Bool
  | 0, _, listed => (Region.ready md ops listed).isEmpty
  | n + 1, k, listed => (Region.ready md ops listed).contains k && freeX md ops listed k && lexX md ops n (k + 1) (listed.setIfInBounds k true)
theorem freeX_spec {listed : Array Bool} {i : Nat} {oi : Oper} (hi : ops[i]? = some oi) (h : freeX md ops listed i = true) : ∀ j oj, ops[j]? = some oj → j ≠ i → listed.getD j true = false → (∀ e ∈ oj.after, Region.binds md e = true → e.on ≠ i) → oi.apart ops oj = true ∧ okP (kX oi.op) (kX oj.op) = true := by
  intro j oj hj hji hun hno
  have hlt : j < ops.size := (Array.getElem?_eq_some_iff.1 hj).1
  have := List.all_eq_true.1 h j (List.mem_range.2 hlt)
  simp only [hi, hj, hun, Bool.or_false, Bool.or_eq_true, beq_iff_eq, Bool.and_eq_true] at this
  rcases this with (h | h) | h
  · exact absurd h hji
  · exfalso
    obtain ⟨e, he, h⟩ := Array.any_eq_true'.1 h
    simp only [Bool.and_eq_true, beq_iff_eq] at h
    exact hno e he h.1 h.2
  · exact h
/-- In the text's order. -/
def LX (P : Program) (w0 : W0) (ops : Array Oper) (K : List DV → St → Prop) : List Oper → List DV → St → Prop
  | [], fr, S => K fr S
  | o :: rest, fr, S => tauX P w0 ops o fr S (LX P w0 ops K rest)
theorem wpX_lex {K : List DV → St → Prop} : ∀ (l : List Oper) (k : Nat) (listed : Array Bool) (fr : List DV) (S : St), (∀ j, l[j]? = ops[k + j]?) →
    (∀ l' : List Nat, l'.Nodup → (∀ k, k ∈ l' → listed.getD k true = false) → l'.length ≤ l.length) →
    lexX md ops l.length k listed = true → LX P w0 ops K l fr S → wpX P w0 md ops K l.length listed fr S
  | [], _, _, _, _, _, _, hB, h => ⟨by simpa [lexX] using hB, h⟩
  | o :: l, k, listed, fr, S, hl, hcnt, hB, h => by
    have h0 : ops[k]? = some o := by simpa using (hl 0).symm
    simp only [List.length_cons, lexX, Bool.and_eq_true] at hB
    obtain ⟨⟨hr, hf⟩, hB'⟩ := hB
    have hr' : k ∈ Region.ready md ops listed := by simpa using hr
    have hun := (mem_ready.1 hr').1
    refine wpX_first h0 l.length listed fr S (freeX_spec h0 hf) (by simpa using hcnt) hr' ?_
    refine tauX_mono (fun fr S h => wpX_lex l (k + 1) _ fr S (fun j => by have := hl (j + 1); simpa [Nat.add_assoc, Nat.add_comm 1 j] using this) ?_ hB' h) h
    intro l' hn hl'
    have hks : k < listed.size := by
      rcases Nat.lt_or_ge k listed.size with h | h
      · exact h
      · rw [Array.getD_eq_getD_getElem?, Array.getElem?_eq_none h] at hun; cases hun
    have hkl : k ∉ l' := fun hk => by
      have := hl' k hk
      rw [Array.getD_eq_getD_getElem?, Array.getElem?_setIfInBounds] at this
      simp [hks] at this
    have := hcnt (k :: l') (List.nodup_cons.2 ⟨hkl, hn⟩) fun m hm => by
      rcases List.mem_cons.1 hm with rfl | hm
      · exact hun
      · have := hl' m hm
        rw [getD_set_ne true (show k ≠ m from fun e => hkl (e ▸ hm))] at this
        exact this
    simp at this; omega
theorem bodyX_yields {o : Oper} {fr : List DV} {S : St} {K : List DV → St → Prop} (h : bodyX P w0 o fr S K) : YieldsE P w0 o (ev fr) S fun d S' => K (pt fr o.dst d) S' := by
  rcases h with ⟨c, d, q, k⟩ | ⟨c, d, q, k⟩ | ⟨c, t, ht, hz, k⟩ | ⟨c, q⟩
  · exact yields_mono (fun d' S' h => by rw [h.1, h.2]; exact k) (q S)
  · have := q [] (fun x hx => by cases hx)
    exact yields_mono (fun d' S' h => by rw [h.1, h.2]; exact k) this
  · exact y_alloc ht ⟨hz, k⟩
  · exact q
theorem wpAny_of_X {ro : Option Nat} {g0 : Gh} {Q : Exit → List DV → St → Prop} : ∀ (fuel : Nat) (listed : Array Bool) (fr : List DV) (S : St) (g : Gh) (a : Act) (w : World), g0.le g → Rel w0 g S w → RepL g fr a.tmps.toList → Dk w0 g.obj a w →
    wpX P w0 md ops (fun fr S => Q .normal fr S) fuel listed fr S → wpAnyIn (fz ro) 0 P md ops (Good w0 g0 Q) fuel listed a w
  | 0, listed, fr, S, g, a, w, k, h1, h2, h3, h => ⟨h.1, k.kd h3, g, fr, S, k, h1, h2, h.2⟩
  | fuel + 1, listed, fr, S, g, a, w, k, h1, h2, h3, h => by
    refine ⟨fun h0 => ⟨k.kd h3, g, fr, S, k, h1, h2, h.1 h0⟩, fun i hi => ?_⟩
    have hq := h.2 i hi
    unfold tauI at hq
    unfold wpOpIn
    split
    · rename_i ho; simp only [ho] at hq; exact wpAny_of_X fuel _ fr S g a w k h1 h2 h3 hq
    · rename_i o ho
      simp only [ho] at hq
      rcases hq with ⟨hw, hb⟩ | ⟨hw, hk⟩
      · have hw' := wantB_sound (o := o) h2 hw
        rw [if_pos hw']
        refine wpIn_of_yields (bodyX_yields hb) h1 (fun x _ => rep_ev h2 x) h3 fun g' d' u S' w' k1 k2 k3 k4 k5 => ?_
        exact wpAny_of_X fuel _ _ _ g' _ _ (k.trans k1) k2 (repL_put (h2.mono k1) _ k3) (k1.dk k5) k4
      · have hw' := wantB_sound (o := o) h2 hw
        rw [if_neg (by simp [hw'])]
        exact ⟨fun _ _ => trivial, wpAny_of_X fuel _ _ _ g _ _ k h1 (repL_put h2 _ (rep_ud g)) (h3.keep (put_defers _ _ _) fun _ _ h _ => h) hk⟩
/-- A region that draws its order, where the text's order serves. -/
theorem awp_drawL {id : Nat} {l : List Oper} {fr : List DV} {S : St} {Q : Exit → List DV → St → Prop} (hm : P.follows .mixedOrders = true) (hB : lexX .any l.toArray l.length 0 (Array.replicate l.length false) = true) (h : LX P w0 l.toArray (fun fr S => Q .normal fr S) l fr S) : AWp P w0 (.region id l.toArray true) fr S Q := by
  intro g a w h1 h2 h3
  refine wpA_region_any hm fun ro => ?_
  have hR : Rel w0 g S { w with drawn := w.drawn + 1 } := h1.grow (below_drew w)
  have hcnt : ∀ l' : List Nat, l'.Nodup → (∀ k, k ∈ l' → (Array.replicate l.length false).getD k true = false) → l'.length ≤ l.length := by
    intro l' hn hl
    have hsub : ∀ k, k ∈ l' → k ∈ List.range l.length := fun k hk => by
      have := hl k hk
      rw [List.mem_range]
      rcases Nat.lt_or_ge k l.length with h | h
      · exact h
      · rw [Array.getD_eq_getD_getElem?, Array.getElem?_eq_none (by simpa using h)] at this; cases this
    have := hn.length_le_of_subset (l₂ := List.range l.length) hsub
    simpa using this
  have := wpX_lex (P := P) (w0 := w0) (md := .any) (ops := l.toArray) l 0 (Array.replicate l.length false) fr S (by simp) hcnt hB h
  have := wpAny_of_X (ro := ro) (g0 := g) (Q := Q) _ _ fr S g a _ (.refl g) hR h2 (h3.keep rfl fun _ _ h _ => h) this
  simpa using this

/-- What looks at no store: one value, at every store. -/
theorem pure_det {op : Op} (hk : kX op = 0) {fr : List DV} {S : St} {K : DV → Prop} (h : vcOpQ P w0 op fr S K) : ∃ d, (∀ S', vcOpQ P w0 op fr S' (· = d)) ∧ K d := by
  cases op with
  | move x => exact ⟨_, fun _ => rfl, h⟩
  | assign x => exact ⟨_, fun _ => rfl, h⟩
  | pick c a b => obtain ⟨d, q1, q2⟩ := det_pick h; exact ⟨d, fun _ => q1, q2⟩
  | fieldAddr t x f => obtain ⟨d, q1, q2⟩ := det_field h; exact ⟨d, fun _ => q1, q2⟩
  | indexAddr t x i => obtain ⟨d, q1, q2⟩ := det_indexAddr h; exact ⟨d, fun _ => q1, q2⟩
  | index t x i => obtain ⟨d, q1, q2⟩ := det_index h; exact ⟨d, fun _ => q1, q2⟩
  | field t x f => obtain ⟨d, q1, q2⟩ := det_fieldV h; exact ⟨d, fun _ => q1, q2⟩
  | extract x i => obtain ⟨d, q1, q2⟩ := det_extract h; exact ⟨d, fun _ => q1, q2⟩
  | nilCheck x => exact ⟨_, fun _ => ⟨h.1, rfl⟩, h.2⟩
  | binOp b t x y t' => obtain ⟨d, q1, q2⟩ := det_bin h.2; exact ⟨d, fun _ => ⟨h.1, q1⟩, q2⟩
  | unOp b t x => obtain ⟨d, q1, q2⟩ := det_un h; exact ⟨d, fun _ => q1, q2⟩
  | convert s d x => obtain ⟨d, q1, q2⟩ := det_conv h; exact ⟨d, fun _ => q1, q2⟩
  | makeInterface t x => exact ⟨_, fun _ => ⟨h.1, h.2.1, rfl⟩, h.2.2⟩
  | makeFunc fn a b => obtain ⟨d, q1, q2⟩ := det_func h; exact ⟨d, fun _ => q1, q2⟩
  | slice t x lo hi mx => obtain ⟨d, q1, q2⟩ := det_slice h.2.2; exact ⟨d, fun _ => ⟨h.1, h.2.1, q1⟩, q2⟩
  | build t parts => obtain ⟨d, q1, q2⟩ := det_build h.2; exact ⟨d, fun _ => ⟨h.1, q1⟩, q2⟩
  | buildSlice t len parts => obtain ⟨d, q1, q2⟩ := det_buildSlice h.2; exact ⟨d, fun _ => ⟨h.1, q1⟩, q2⟩
  | call c =>
    obtain ⟨callee, args, ts⟩ := c
    simp only [vcOpQ] at h ⊢
    split at h
    · split at h
      · obtain ⟨d, q1, q2⟩ := det_len h
        exact ⟨d, fun _ => by simpa using q1, q2⟩
      · exact h.elim
    · split at h
      · obtain ⟨d, q1, q2⟩ := det_cap h
        exact ⟨d, fun _ => by simpa using q1, q2⟩
      · exact h.elim
    · split at h
      · obtain ⟨d, q1, q2⟩ := det_min h
        exact ⟨d, fun _ => by simpa using q1, q2⟩
      · exact h.elim
    · split at h
      · obtain ⟨d, q1, q2⟩ := det_max h
        exact ⟨d, fun _ => by simpa using q1, q2⟩
      · exact h.elim
    · cases hk
    · exact h.elim
  | _ => first | exact h.elim | cases hk
theorem pure_detZ {op : Op} (hk : kX op = 0) {fr : List DV} {S : St} {K : DV → Prop} (h : opZ P w0 op fr S K) : ∃ d, (∀ S', opZ P w0 op fr S' (· = d)) ∧ K d := by
  cases op with
  | makeSlice t x y =>
    simp only [opZ, vMakeQ] at h ⊢
    split at h
    · obtain ⟨q1, q2, q3, q4, q5, q6⟩ := h
      exact ⟨_, fun _ => ⟨q1, q2, q3, q4, q5, rfl⟩, q6⟩
    · exact h.elim
  | convert s d x =>
    simp only [opZ] at h ⊢
    unfold vConvZ at h ⊢
    split at h
    · obtain ⟨q1, q2, q3, q4⟩ := h
      exact ⟨_, fun _ => ⟨q1, q2, q3, rfl⟩, q4⟩
    · obtain ⟨dd, p1, p2⟩ := pure_det (P := P) (w0 := w0) (op := .convert s d x) (fr := fr) (S := S) (K := K) rfl h
      exact ⟨dd, p1, p2⟩
  | _ => exact pure_det (P := P) (w0 := w0) (S := S) (fr := fr) hk h
theorem lk_ext {S : St} {B : List (Nat × List DV)} (hB : Fr S B) {b : Nat} {ds : List DV} (h : lk S.box b = some ds) : lk (B ++ S.box) b = some ds := by
  induction B with
  | nil => exact h
  | cons x B ih =>
    have h1 := hB x List.mem_cons_self
    have hne : ¬ x.1 = b := fun e => by rw [e] at h1; rw [nin_lk h1] at h; cases h
    obtain ⟨k, y⟩ := x
    show lk ((k, y) :: (B ++ S.box)) b = _
    rw [q_lk_ne hne]
    exact ih fun z hz => hB z (List.mem_cons_of_mem _ hz)
theorem load_ext {k : TK} {S : St} {x : DV} {K : DV → Prop} {B : List (Nat × List DV)} (hB : Fr S B) (h : vLoad k S x K) : vLoad k ⟨B ++ S.box, S.acc⟩ x K := by
  unfold vLoad at *
  split at h
  · split at h
    · rename_i ds hb
      simp only [lk_ext hB hb]
      exact h
    · exact h.elim
  · exact h
  · exact h
  · exact h.elim
end
/-- A call that hands back one value, whatever boxes were made beside it. -/
def QX (P : Program) (w0 : W0) (f : FuncId) (ds : List DV) (S : St) [K : Cn (DV → Prop)] : Prop := ∃ d, (∀ B, Fr S B → ACall P w0 f ds ⟨B ++ S.box, S.acc⟩ fun d' S' => d' = d ∧ S' = ⟨B ++ S.box, S.acc⟩) ∧ K.k d
def vCallX (P : Program) (w0 : W0) (cal : DV) (ds : List DV) (S : St) (K : DV → Prop) : Prop := match cal with
  | .v (.func (.func f) a cap) => a.size = 0 ∧ okF P f = true ∧ cap.toList.all (fun u => u.oneCell') = true ∧ ds.all naccA = true ∧ @QX P w0 f (ds ++ cap.toList.map .v) S ⟨K⟩
  | _ => False
def opX (P : Program) (w0 : W0) (op : Op) (fr : List DV) (S : St) (K : DV → St → Prop) : Prop := match op with
  | .load t x => vLoad (tk P t) S (ev fr x) (K · S)
  | .alloc t => okE (zD P t) = true ∧ bxK S (zD P t) K
  | .call ⟨.value cal, args, _⟩ => vCallX P w0 (ev fr cal) (args.toList.map (ev fr)) S (K · S)
  | op => selK (kX op == 0) (opZ P w0 op fr S (K · S)) (vcOp P w0 op fr S K)
def vcLX (P : Program) (w0 : W0) (ops : Array Oper) (K : List DV → St → Prop) : List Oper → List DV → St → Prop
  | [], fr, S => K fr S
  | o :: rest, fr, S => guardK ops fr o.guard (fun fr => opX P w0 o.op fr S fun d S' => vcLX P w0 ops K rest (pt fr o.dst d) S') (fun fr => vcLX P w0 ops K rest (pt fr o.dst ud) S)
section
variable {P : Program} {w0 : W0} {ops : Array Oper} {md : Region.Mode}
theorem opX_sound {o : Oper} {fr : List DV} {S : St} {K : List DV → St → Prop} (hs : okSl o.op = true) (h : opX P w0 o.op fr S fun d S' => K (pt fr o.dst d) S') : bodyX P w0 o fr S K := by
  have gen : ∀ (h : selK (kX o.op == 0) (opZ P w0 o.op fr S fun d => K (pt fr o.dst d) S) (vcOp P w0 o.op fr S fun d S' => K (pt fr o.dst d) S')), kX o.op = 0 ∨ kX o.op = 3 → bodyX P w0 o fr S K := by
    intro h hk
    rcases hk with hk | hk
    · rw [hk] at h
      obtain ⟨d, q1, q2⟩ := pure_detZ hk (show opZ P w0 o.op fr S fun d => K (pt fr o.dst d) S from h)
      exact .inl ⟨hk, d, fun S' => by
        obtain ⟨d', k1, k2⟩ := opZ_sound hs (q1 S')
        subst k2; exact k1, q2⟩
    · rw [hk] at h
      exact .inr (.inr (.inr ⟨hk, vcOp_sound hs h⟩))
  cases hop : o.op with
  | load t x =>
    rw [hop] at h hs
    obtain ⟨d, q1, q2⟩ := det_load (show vLoad (tk P t) S (ev fr x) (fun d => K (pt fr o.dst d) S) from h)
    refine .inr (.inl ⟨by rw [hop]; rfl, d, fun B hB => ?_, q2⟩)
    exact vcOp_sound (by rw [hop]; exact hs) (by rw [hop]; simpa [vcOp] using load_ext hB q1)
  | alloc t =>
    rw [hop] at h
    exact .inr (.inr (.inl ⟨by rw [hop]; rfl, t, hop, h.1, h.2⟩))
  | call c =>
    obtain ⟨callee, args, ts⟩ := c
    cases callee with
    | value cal =>
      rw [hop] at h hs
      simp only [opX, vCallX] at h
      split at h
      · rename_i f a cap hcal
        obtain ⟨h1, h2, h3, h4, d, h5, h6⟩ := h
        refine .inr (.inl ⟨by rw [hop]; rfl, d, fun B hB => ?_, h6⟩)
        exact vcOp_sound (by rw [hop]; exact hs) (by rw [hop]; simp only [vcOp, vCall, hcal]; exact ⟨h1, h2, h3, callK_id h4 (h5 B hB)⟩)
      · exact h.elim
    | builtin b =>
      refine gen (by rw [hop] at h ⊢; exact h) ?_
      rw [hop]
      cases b <;> first | exact .inl rfl | exact .inr rfl
    | invoke r m =>
      refine gen (by rw [hop] at h ⊢; exact h) ?_
      rw [hop]; exact .inr rfl
  | _ => refine gen (by rw [hop] at h ⊢; exact h) ?_; rw [hop]; first | exact .inl rfl | exact .inr rfl
theorem vcLX_sound {K : List DV → St → Prop} : ∀ (l : List Oper) {fr : List DV} {S : St}, l.all (fun o => okSl o.op) = true → vcLX P w0 ops K l fr S → LX P w0 ops K l fr S
  | [], fr, S, _, h => h
  | o :: rest, fr, S, hs, h => by
    simp only [List.all_cons, Bool.and_eq_true] at hs
    rcases guardK_want h with ⟨hw, ha⟩ | ⟨hw, hb⟩
    · exact .inl ⟨hw, bodyX_mono (fun fr S h => vcLX_sound rest hs.2 h) (opX_sound hs.1 ha)⟩
    · exact .inr ⟨hw, vcLX_sound rest hs.2 hb⟩
/-- What such a region asks. -/
def okL (l : List Oper) : Bool := l.all (fun o => okSl o.op) && lexX .any l.toArray l.length 0 (Array.replicate l.length false)
theorem lexK {id : Nat} {l : List Oper} {fr : List DV} {S : St} {Q : Exit → List DV → St → Prop} (hm : P.follows .mixedOrders = true) (hB : okL l = true) (h : vcLX P w0 l.toArray (fun fr S => normF fr fun fr => Q .normal fr S) l fr S) : AWp P w0 (.region id l.toArray true) fr S Q := by
  simp only [okL, Bool.and_eq_true] at hB
  exact awp_drawL hm hB.2 (vcLX_sound l hB.1 h)
theorem useX {f : FuncId} {args args' : List DV} {S : St} {K : DV → Prop} {r : DV} (h : ∀ B, Fr S B → ACall P w0 f args' ⟨B ++ S.box, S.acc⟩ (fun d S' => d = r ∧ S' = ⟨B ++ S.box, S.acc⟩)) (hk : K r) (ha : WkL args args' := by exact WkL.refl _) : @QX P w0 f args S ⟨K⟩ :=
  ⟨r, fun B hB => acall_one (h B hB) ha ⟨rfl, rfl⟩, hk⟩
end
end Aml.Z

namespace Aml.Z
open Go Go.RowKit
set_option linter.unusedVariables false
set_option linter.unusedSimpArgs false
section
variable {P : Program} {w0 : W0} {ops : Array Oper} {fr : List DV} {S : St} {rest : List Oper} {dst : Option Tmp} {op : Op} {ty : TypeId} {pos : String} {aft : Array Edge}
section
variable {K : List DV → St → Prop}
theorem x_nil : vcLX P w0 ops K [] fr S = K fr S := rfl
theorem x_none : vcLX P w0 ops K (⟨dst, op, ty, pos, aft, none⟩ :: rest) fr S = opX P w0 op fr S fun d S' => vcLX P w0 ops K rest (pt fr dst d) S' := rfl
theorem x_some (j : Nat) (want : Bool) : vcLX P w0 ops K (⟨dst, op, ty, pos, aft, some (j, want)⟩ :: rest) fr S = gK ((ops[j]?).bind (·.dst)) fr want (fun fr => opX P w0 op fr S fun d S' => vcLX P w0 ops K rest (pt fr dst d) S') (fun fr => vcLX P w0 ops K rest (pt fr dst ud) S) := q_guard _ _ _ _ _ _
end
variable {K : DV → St → Prop}
theorem x_load (t : TypeId) (x : Operand) : opX P w0 (.load t x) fr S K = vLoad (tk P t) S (ev fr x) (K · S) := rfl
theorem x_alloc (t : TypeId) : opX P w0 (.alloc t) fr S K = (okE (zD P t) = true ∧ bxK S (zD P t) K) := rfl
theorem x_call (cal : Operand) (a : List Operand) (ts : Array TypeId) : opX P w0 (.call ⟨.value cal, a.toArray, ts⟩) fr S K = vCallX P w0 (ev fr cal) (a.map (ev fr)) S (K · S) := rfl
theorem x_callF (f : FuncId) (a cap : Array Value) (ds : List DV) (K : DV → Prop) : vCallX P w0 (.v (.func (.func f) a cap)) ds S K = (a.size = 0 ∧ okF P f = true ∧ cap.toList.all (fun u => u.oneCell') = true ∧ ds.all naccA = true ∧ @QX P w0 f (ds ++ cap.toList.map .v) S ⟨K⟩) := rfl
@[congr] theorem c_vCallX {cal cal' : DV} {ds ds' : List DV} {S' : St} {K : DV → Prop} (h1 : cal = cal') (h2 : ds = ds') (h3 : S = S') : vCallX P w0 cal ds S K = vCallX P w0 cal' ds' S' K := by cases h1; cases h2; cases h3; rfl
theorem x_move (x : Operand) : opX P w0 (.move x) fr S K = vcOpQ P w0 (.move x) fr S (K · S) := rfl
theorem x_assign (x : Operand) : opX P w0 (.assign x) fr S K = vcOpQ P w0 (.assign x) fr S (K · S) := rfl
theorem x_pick (c a b : Operand) : opX P w0 (.pick c a b) fr S K = vcOpQ P w0 (.pick c a b) fr S (K · S) := rfl
theorem x_fieldAddr (t : TypeId) (x : Operand) (f : Nat) : opX P w0 (.fieldAddr t x f) fr S K = vcOpQ P w0 (.fieldAddr t x f) fr S (K · S) := rfl
theorem x_indexAddr (t : TypeId) (x i : Operand) : opX P w0 (.indexAddr t x i) fr S K = vcOpQ P w0 (.indexAddr t x i) fr S (K · S) := rfl
theorem x_index (t : TypeId) (x i : Operand) : opX P w0 (.index t x i) fr S K = vcOpQ P w0 (.index t x i) fr S (K · S) := rfl
theorem x_field (t : TypeId) (x : Operand) (f : Nat) : opX P w0 (.field t x f) fr S K = vcOpQ P w0 (.field t x f) fr S (K · S) := rfl
theorem x_extract (x : Operand) (i : Nat) : opX P w0 (.extract x i) fr S K = vcOpQ P w0 (.extract x i) fr S (K · S) := rfl
theorem x_nilCheck (x : Operand) : opX P w0 (.nilCheck x) fr S K = vcOpQ P w0 (.nilCheck x) fr S (K · S) := rfl
theorem x_binOp (b : BinOp) (t : TypeId) (x y : Operand) (t' : TypeId) : opX P w0 (.binOp b t x y t') fr S K = vcOpQ P w0 (.binOp b t x y t') fr S (K · S) := rfl
theorem x_unOp (b : UnOp) (t : TypeId) (x : Operand) : opX P w0 (.unOp b t x) fr S K = vcOpQ P w0 (.unOp b t x) fr S (K · S) := rfl
theorem x_convert (s d : TypeId) (x : Operand) : opX P w0 (.convert s d x) fr S K = opZ P w0 (.convert s d x) fr S (K · S) := rfl
theorem x_makeInterface (t : TypeId) (x : Operand) : opX P w0 (.makeInterface t x) fr S K = vcOpQ P w0 (.makeInterface t x) fr S (K · S) := rfl
theorem x_makeFunc (fn : Fn) (a b : Array Operand) : opX P w0 (.makeFunc fn a b) fr S K = vcOpQ P w0 (.makeFunc fn a b) fr S (K · S) := rfl
theorem x_slice (t : TypeId) (x : Operand) (lo hi mx : Option Operand) : opX P w0 (.slice t x lo hi mx) fr S K = vcOpQ P w0 (.slice t x lo hi mx) fr S (K · S) := rfl
theorem x_build (t : TypeId) (parts : Array (Nat × Operand)) : opX P w0 (.build t parts) fr S K = vcOpQ P w0 (.build t parts) fr S (K · S) := rfl
theorem x_buildSlice (t : TypeId) (len : Nat) (parts : Array (Nat × Operand)) : opX P w0 (.buildSlice t len parts) fr S K = vcOpQ P w0 (.buildSlice t len parts) fr S (K · S) := rfl
theorem x_typeAssert (x : Operand) (xt t : TypeId) (ok : Bool) : opX P w0 (.typeAssert x xt t ok) fr S K = vcOp P w0 (.typeAssert x xt t ok) fr S K := rfl
theorem x_box (t : TypeId) (x : Operand) : opX P w0 (.box t x) fr S K = vcOp P w0 (.box t x) fr S K := rfl
theorem x_store (t : TypeId) (x y : Operand) : opX P w0 (.store t x y) fr S K = vcOp P w0 (.store t x y) fr S K := rfl
theorem x_makeSlice (t : TypeId) (x y : Operand) : opX P w0 (.makeSlice t x y) fr S K = opZ P w0 (.makeSlice t x y) fr S (K · S) := rfl
theorem x_b_len (a : Array Operand) (ts : Array TypeId) : opX P w0 (.call ⟨.builtin .len, a, ts⟩) fr S K = vcOpQ P w0 (.call ⟨.builtin .len, a, ts⟩) fr S (K · S) := rfl
theorem x_b_cap (a : Array Operand) (ts : Array TypeId) : opX P w0 (.call ⟨.builtin .cap, a, ts⟩) fr S K = vcOpQ P w0 (.call ⟨.builtin .cap, a, ts⟩) fr S (K · S) := rfl
theorem x_b_min (a : Array Operand) (ts : Array TypeId) : opX P w0 (.call ⟨.builtin .min, a, ts⟩) fr S K = vcOpQ P w0 (.call ⟨.builtin .min, a, ts⟩) fr S (K · S) := rfl
theorem x_b_max (a : Array Operand) (ts : Array TypeId) : opX P w0 (.call ⟨.builtin .max, a, ts⟩) fr S K = vcOpQ P w0 (.call ⟨.builtin .max, a, ts⟩) fr S (K · S) := rfl
theorem x_b_append (a : Array Operand) (ts : Array TypeId) : opX P w0 (.call ⟨.builtin .append, a, ts⟩) fr S K = vcOp P w0 (.call ⟨.builtin .append, a, ts⟩) fr S K := rfl
end
attribute [go_sem ↓] x_nil x_none x_some x_load x_alloc x_call x_callF x_move x_assign x_pick x_fieldAddr x_indexAddr x_index x_field x_extract x_nilCheck x_binOp x_unOp x_convert x_makeInterface x_makeFunc x_slice x_build x_buildSlice x_typeAssert x_box x_store x_makeSlice x_b_len x_b_cap x_b_min x_b_max x_b_append
theorem n_beq_t (b : Bool) : (true == b) = b := by cases b <;> rfl
theorem n_beq_f (b : Bool) : (false == b) = !b := by cases b <;> rfl
theorem n_t_beq (b : Bool) : (b == true) = b := by cases b <;> rfl
theorem n_f_beq (b : Bool) : (b == false) = !b := by cases b <;> rfl
attribute [go_sem] n_beq_t n_beq_f n_t_beq n_f_beq
end Aml.Z

namespace Aml
open Go Go.RowKit
theorem acall_q {P : Program} {w0 : W0} {f : FuncId} {args : List DV} {S : St} {r : DV} (h1 : ACall P w0 f args S (fun d S' => shrT S' d fun d S'' => Wk d r ∧ Sub S S'')) : ACall P w0 f args S (fun d S' => d = r ∧ S' = S) := by
  intro g vs w k1 k2
  refine (h1 g vs w k1 k2).mono ?_
  rintro e w' ⟨v, g', d, S', q1, q2, q3, q4, q5⟩
  obtain ⟨g2, d', S2, p1, p2, p3, p4, p5⟩ := shrT_ok q3 q4 q5
  exact ⟨v, g2, r, S, q1, q2.trans p1, p2.forget p5.box p5.acc, p4 _ _ p3, rfl, rfl⟩
end Aml
namespace Go.Proofs.Ytkibkahknibgfaa
open Aml Go
set_option linter.unusedVariables false
set_option linter.unusedSimpArgs false
set_option maxRecDepth 100000

/-- Whatever is asked of a tree that steps come to. -/
def Fine (n : N) : Prop := ∃ d, Nd d n ∧ totN n ≤ 131072
theorem pagesQ (w0 : W0) (n : N) (S : St) (h : Fine n) : ACall Try.prog w0 33 [eT n] S (fun d S' => d = dL (pgsT n) ∧ S' = S) := by
  obtain ⟨d, hn, ht⟩ := h
  have h1 := vis_len noB hn
  have h2 := pgS_le noB hn
  refine acall_q ((pagesP w0 n S (by omega) (by omega) (fun x hx => Nat.le_trans (vis_l noB hn x hx) (by omega))).mono ?_)
  rintro d S' ⟨m, rfl, rfl⟩
  simp (maxDischargeDepth := 12) (maxSteps := 1000000) -implicitDefEqProofs only [go_sem, Nat.reduceAdd, Nat.reduceSub, Nat.reduceMul, Nat.reduceLeDiff, Nat.reduceEqDiff, Nat.reduceGT, Nat.reduceBEq, reduceCtorEq, ↓reduceIte, Int.reduceToNat, Int.reduceLE, Int.reduceLT, Int.reduceNe, Int.reduceEq, pgsT, srt_length]
theorem freshQ (w0 : W0) (n : N) (S : St) (h : Fine n) : ACall Try.prog w0 30 [eT n] S (fun d S' => d = dI (frT n) ∧ S' = S) := by
  obtain ⟨d, hn, ht⟩ := h
  have h1 := vis_len laidB hn
  have h2 := frT_le hn
  exact freshP w0 n S (by omega) (by unfold frT at h2; omega) (fun x hx => Nat.le_trans (vis_l laidB hn x hx) (by omega))
theorem lostQ (w0 : W0) (a b : N) (S : St) (ha : Fine a) (hb : Fine b) : ACall Try.prog w0 35 [eT a, eT b] S (fun d S' => d = dL (fltI (pgsT b) (pgsT a)) ∧ S' = S) := by
  obtain ⟨d, hn, ht⟩ := ha
  obtain ⟨e, hm, hu⟩ := hb
  have h1 := vis_len noB hn
  have h2 := pgS_le noB hn
  have h3 := vis_len noB hm
  have h4 := pgS_le noB hm
  exact lostP w0 a b S (by omega) (by omega) (fun x hx => Nat.le_trans (vis_l noB hn x hx) (by omega)) (by omega) (by omega) (fun x hx => Nat.le_trans (vis_l noB hm x hx) (by omega))
theorem nodeQ (w0 : W0) (n : N) (S : St) (h : Fine n) : ACall Try.prog w0 29 [eN n] S (fun e S' => e = eT n ∧ S' = S) := by
  obtain ⟨d, hn, ht⟩ := h
  exact nodeW w0 d n S hn ht
theorem markedQ (w0 : W0) (n : N) (f : Int) (S : St) (h : Fine n) (h0 : 0 ≤ f) (h1 : f ≤ 1000000) : ACall Try.prog w0 37 [eN n, dI f] S (fun e S' => e = .tup [eN (markN n f).1, dI (markN n f).2] ∧ S' = S) := by
  obtain ⟨d, hn, ht⟩ := h
  exact markedW w0 d n f S hn ht h0 (by omega)
theorem Fine.mark {n : N} (h : Fine n) (f : Int) : Fine (markN n f).1 := by
  obtain ⟨d, hn, ht⟩ := h
  exact ⟨d, nd_mark f hn, by rw [tot_mark f hn]; exact ht⟩
theorem fine_empty : Fine emptyN := ⟨0, ⟨rfl, fun c hc => by cases hc⟩, by decide⟩
/-- The example's tree. -/
def keyK : ByteArray := ⟨#[107]⟩
def exN : N := Put keyK (zeroS 200) emptyN
theorem fine_ex : Fine exN := by
  obtain ⟨d, h1, h2, h3⟩ := nd_Put (key := keyK) (val := zeroS 200) (by decide) (by rw [zeroS_size]; omega) (d := 0) (n := emptyN) ⟨rfl, fun c hc => by cases hc⟩
  have : totN emptyN = 0 := by decide
  exact ⟨d, h2, by unfold exN; omega⟩
theorem ex_eq : exN = .mk 0 true [.mk keyK (zeroS 200) [] []] := by
  unfold exN Put
  rw [putN_leaf _ _ emptyN rfl]
  have h1 : leafPut emptyN.l keyK (zeroS 200) = [.mk keyK (zeroS 200) [] []] := by simp [leafPut, emptyN, N.l, idxN]
  rw [h1, topN_else _ (.inl rfl)]
  have hz : sizesN (.mk 0 true [.mk keyK (zeroS 200) [] []]) = [8] := by
    simp only [sizesN, N.l, N.leaf, List.map_cons, List.map_nil, sizeC, C.data, C.key, zeroS_size, if_true]
    decide
  rw [hz, if_pos (by decide)]
def exM : N := .mk 4 true [.mk keyK (zeroS 200) [2, 3] []]
theorem mark_ex : markN exN 2 = (exM, 5) := by
  rw [ex_eq, markN_eq]
  simp only [N.l, N.leaf, markCs, markC_leaf, C.data, C.key, C.kid, zeroS_size]
  rw [if_neg (by simp)]
  rfl
theorem ex_nd : Nd 0 exN := by rw [ex_eq]; exact ⟨rfl, fun c hc => by simp only [N.l, List.mem_singleton] at hc; subst hc; exact ⟨⟨by decide, by show (zeroS 200).size ≤ 400; rw [zeroS_size]; omega, by decide⟩, rfl⟩⟩
theorem exM_nd : Nd 0 exM := by have := nd_mark 2 ex_nd; rw [mark_ex] at this; exact this
theorem empty_nd : Nd 0 emptyN := ⟨rfl, fun c hc => by cases hc⟩
theorem fr_ex : frT exN = 3 := by
  rw [frT_eq ex_nd, ex_eq]
  simp only [N.page, N.leaf, N.l, rfS, rfC, fc1, C.pages, C.data, zeroS_size, List.map_cons, List.map_nil]
  decide
theorem fr_exM : frT exM = 0 := by rw [frT_eq exM_nd]; decide
theorem fr_empty : frT emptyN = 0 := by rw [frT_eq empty_nd]; decide
theorem pgs_al {d : Nat} {n : N} (h : Nd d n) : pgsT n = srt (alN n) := (srt_congr (al_perm d n h)).symm
theorem pgs_exM : pgsT exM = [2, 3, 4] := by
  rw [pgs_al exM_nd]
  exact (srt_eq (by decide) (by decide)).symm
theorem pgs_ex : pgsT exN = [] := by rw [pgs_al ex_nd, ex_eq]; exact (srt_eq (by decide) (by decide)).symm
theorem pgs_empty : pgsT emptyN = [] := by rw [pgs_al empty_nd]; exact (srt_eq (by decide) (by decide)).symm
set_option maxHeartbeats 8000000 in
theorem awakeW (w0 : W0) (S : St) : ACall Try.prog w0 27 [] S (fun e S' => e = dB true ∧ S' = S) := by
  refine fnS [1] mx Try.func27 rfl rfl (by kernel_rfl) ?_; simp (maxDischargeDepth := 12) (maxSteps := 1000000) -implicitDefEqProofs only [Try.ntmps27, go_sem, Nat.reduceAdd, Nat.reduceSub, Nat.reduceMul, Nat.reduceLeDiff, Nat.reduceEqDiff, Nat.reduceGT, Nat.reduceBEq, reduceCtorEq, ↓reduceIte, Int.reduceToNat, Int.reduceLE, Int.reduceLT, Int.reduceNe, Int.reduceEq]
  refine Z.lexK mx (by kernel_rfl) ?_
  simp (maxDischargeDepth := 12) (maxSteps := 1000000) -implicitDefEqProofs only [go_sem, Nat.reduceAdd, Nat.reduceSub, Nat.reduceMul, Nat.reduceLeDiff, Nat.reduceEqDiff, Nat.reduceGT, Nat.reduceBEq, reduceCtorEq, ↓reduceIte, Int.reduceToNat, Int.reduceLE, Int.reduceLT, Int.reduceNe, Int.reduceEq]
  refine Z.useX (fun B hB => emptyR w0 _) ?_
  simp (maxDischargeDepth := 12) (maxSteps := 1000000) -implicitDefEqProofs only [go_sem, Nat.reduceAdd, Nat.reduceSub, Nat.reduceMul, Nat.reduceLeDiff, Nat.reduceEqDiff, Nat.reduceGT, Nat.reduceBEq, reduceCtorEq, ↓reduceIte, Int.reduceToNat, Int.reduceLE, Int.reduceLT, Int.reduceNe, Int.reduceEq]
  refine ⟨by omega, rfl, Z.useX (fun B hB => PutW w0 keyK (zeroS 200) (by decide) (by rw [zeroS_size]; omega) 0 emptyN _ empty_nd (by decide)) ?_ (.cons (.refl _) (.cons (.refl _) (.cons (.eq rfl) .nil)))⟩
  rw [show Put keyK (zeroS 200) emptyN = exN from rfl]
  simp (maxDischargeDepth := 12) (maxSteps := 1000000) -implicitDefEqProofs only [go_sem, Nat.reduceAdd, Nat.reduceSub, Nat.reduceMul, Nat.reduceLeDiff, Nat.reduceEqDiff, Nat.reduceGT, Nat.reduceBEq, reduceCtorEq, ↓reduceIte, Int.reduceToNat, Int.reduceLE, Int.reduceLT, Int.reduceNe, Int.reduceEq]
  intro b
  refine use1 (markedQ w0 exN 2 _ fine_ex (by omega) (by omega)) ?_
  rw [mark_ex]
  simp (maxDischargeDepth := 12) (maxSteps := 1000000) -implicitDefEqProofs only [go_sem, Nat.reduceAdd, Nat.reduceSub, Nat.reduceMul, Nat.reduceLeDiff, Nat.reduceEqDiff, Nat.reduceGT, Nat.reduceBEq, reduceCtorEq, ↓reduceIte, Int.reduceToNat, Int.reduceLE, Int.reduceLT, Int.reduceNe, Int.reduceEq]
  intro b2
  have fM : Fine exM := by have := fine_ex.mark 2; rwa [mark_ex] at this
  refine use1 (nodeQ w0 exN _ fine_ex) ?_
  simp (maxDischargeDepth := 12) (maxSteps := 1000000) -implicitDefEqProofs only [go_sem, Nat.reduceAdd, Nat.reduceSub, Nat.reduceMul, Nat.reduceLeDiff, Nat.reduceEqDiff, Nat.reduceGT, Nat.reduceBEq, reduceCtorEq, ↓reduceIte, Int.reduceToNat, Int.reduceLE, Int.reduceLT, Int.reduceNe, Int.reduceEq]
  refine use1 (freshQ w0 exN _ fine_ex) ?_
  simp (maxDischargeDepth := 12) (maxSteps := 1000000) -implicitDefEqProofs only [go_sem, Nat.reduceAdd, Nat.reduceSub, Nat.reduceMul, Nat.reduceLeDiff, Nat.reduceEqDiff, Nat.reduceGT, Nat.reduceBEq, reduceCtorEq, ↓reduceIte, Int.reduceToNat, Int.reduceLE, Int.reduceLT, Int.reduceNe, Int.reduceEq, fr_ex]
  refine use1 (nodeQ w0 exM _ fM) ?_
  simp (maxDischargeDepth := 12) (maxSteps := 1000000) -implicitDefEqProofs only [go_sem, Nat.reduceAdd, Nat.reduceSub, Nat.reduceMul, Nat.reduceLeDiff, Nat.reduceEqDiff, Nat.reduceGT, Nat.reduceBEq, reduceCtorEq, ↓reduceIte, Int.reduceToNat, Int.reduceLE, Int.reduceLT, Int.reduceNe, Int.reduceEq]
  refine use1 (freshQ w0 exM _ fM) ?_
  simp (maxDischargeDepth := 12) (maxSteps := 1000000) -implicitDefEqProofs only [go_sem, Nat.reduceAdd, Nat.reduceSub, Nat.reduceMul, Nat.reduceLeDiff, Nat.reduceEqDiff, Nat.reduceGT, Nat.reduceBEq, reduceCtorEq, ↓reduceIte, Int.reduceToNat, Int.reduceLE, Int.reduceLT, Int.reduceNe, Int.reduceEq, fr_exM]
  refine use1 (emptyP w0 _) ?_
  simp (maxDischargeDepth := 12) (maxSteps := 1000000) -implicitDefEqProofs only [go_sem, Nat.reduceAdd, Nat.reduceSub, Nat.reduceMul, Nat.reduceLeDiff, Nat.reduceEqDiff, Nat.reduceGT, Nat.reduceBEq, reduceCtorEq, ↓reduceIte, Int.reduceToNat, Int.reduceLE, Int.reduceLT, Int.reduceNe, Int.reduceEq]
  refine use1 (freshQ w0 emptyN _ fine_empty) ?_
  simp (maxDischargeDepth := 12) (maxSteps := 1000000) -implicitDefEqProofs only [go_sem, Nat.reduceAdd, Nat.reduceSub, Nat.reduceMul, Nat.reduceLeDiff, Nat.reduceEqDiff, Nat.reduceGT, Nat.reduceBEq, reduceCtorEq, ↓reduceIte, Int.reduceToNat, Int.reduceLE, Int.reduceLT, Int.reduceNe, Int.reduceEq, fr_empty]
  refine use1 (nodeQ w0 exM _ fM) ?_
  simp (maxDischargeDepth := 12) (maxSteps := 1000000) -implicitDefEqProofs only [go_sem, Nat.reduceAdd, Nat.reduceSub, Nat.reduceMul, Nat.reduceLeDiff, Nat.reduceEqDiff, Nat.reduceGT, Nat.reduceBEq, reduceCtorEq, ↓reduceIte, Int.reduceToNat, Int.reduceLE, Int.reduceLT, Int.reduceNe, Int.reduceEq]
  refine use1 (pagesQ w0 exM _ fM) ?_
  simp (maxDischargeDepth := 12) (maxSteps := 1000000) -implicitDefEqProofs only [go_sem, Nat.reduceAdd, Nat.reduceSub, Nat.reduceMul, Nat.reduceLeDiff, Nat.reduceEqDiff, Nat.reduceGT, Nat.reduceBEq, reduceCtorEq, ↓reduceIte, Int.reduceToNat, Int.reduceLE, Int.reduceLT, Int.reduceNe, Int.reduceEq, pgs_exM]
  refine use1 (ints3 w0 [2, 3, 4] [2, 3, 4] _ (by decide)) ?_ (.cons (.full _ _ _) (.cons (.full _ _ _) .nil))
  simp (maxDischargeDepth := 12) (maxSteps := 1000000) -implicitDefEqProofs only [go_sem, Nat.reduceAdd, Nat.reduceSub, Nat.reduceMul, Nat.reduceLeDiff, Nat.reduceEqDiff, Nat.reduceGT, Nat.reduceBEq, reduceCtorEq, ↓reduceIte, Int.reduceToNat, Int.reduceLE, Int.reduceLT, Int.reduceNe, Int.reduceEq]
  refine use1 (nodeQ w0 exM _ fM) ?_
  simp (maxDischargeDepth := 12) (maxSteps := 1000000) -implicitDefEqProofs only [go_sem, Nat.reduceAdd, Nat.reduceSub, Nat.reduceMul, Nat.reduceLeDiff, Nat.reduceEqDiff, Nat.reduceGT, Nat.reduceBEq, reduceCtorEq, ↓reduceIte, Int.reduceToNat, Int.reduceLE, Int.reduceLT, Int.reduceNe, Int.reduceEq]
  refine use1 (emptyP w0 _) ?_
  simp (maxDischargeDepth := 12) (maxSteps := 1000000) -implicitDefEqProofs only [go_sem, Nat.reduceAdd, Nat.reduceSub, Nat.reduceMul, Nat.reduceLeDiff, Nat.reduceEqDiff, Nat.reduceGT, Nat.reduceBEq, reduceCtorEq, ↓reduceIte, Int.reduceToNat, Int.reduceLE, Int.reduceLT, Int.reduceNe, Int.reduceEq]
  refine use1 (lostQ w0 exM emptyN _ fM fine_empty) ?_
  simp (maxDischargeDepth := 12) (maxSteps := 1000000) -implicitDefEqProofs only [go_sem, Nat.reduceAdd, Nat.reduceSub, Nat.reduceMul, Nat.reduceLeDiff, Nat.reduceEqDiff, Nat.reduceGT, Nat.reduceBEq, reduceCtorEq, ↓reduceIte, Int.reduceToNat, Int.reduceLE, Int.reduceLT, Int.reduceNe, Int.reduceEq, pgs_exM, pgs_empty]
  refine use1 (ints3 w0 [2, 3, 4] [2, 3, 4] _ (by decide)) ?_ (.cons (.eq rfl) (.cons (.full _ _ _) .nil))
  simp (maxDischargeDepth := 12) (maxSteps := 1000000) -implicitDefEqProofs only [go_sem, Nat.reduceAdd, Nat.reduceSub, Nat.reduceMul, Nat.reduceLeDiff, Nat.reduceEqDiff, Nat.reduceGT, Nat.reduceBEq, reduceCtorEq, ↓reduceIte, Int.reduceToNat, Int.reduceLE, Int.reduceLT, Int.reduceNe, Int.reduceEq]
  refine use1 (nodeQ w0 exN _ fine_ex) ?_
  simp (maxDischargeDepth := 12) (maxSteps := 1000000) -implicitDefEqProofs only [go_sem, Nat.reduceAdd, Nat.reduceSub, Nat.reduceMul, Nat.reduceLeDiff, Nat.reduceEqDiff, Nat.reduceGT, Nat.reduceBEq, reduceCtorEq, ↓reduceIte, Int.reduceToNat, Int.reduceLE, Int.reduceLT, Int.reduceNe, Int.reduceEq]
  refine use1 (pagesQ w0 exN _ fine_ex) ?_
  simp (maxDischargeDepth := 12) (maxSteps := 1000000) -implicitDefEqProofs only [go_sem, Nat.reduceAdd, Nat.reduceSub, Nat.reduceMul, Nat.reduceLeDiff, Nat.reduceEqDiff, Nat.reduceGT, Nat.reduceBEq, reduceCtorEq, ↓reduceIte, Int.reduceToNat, Int.reduceLE, Int.reduceLT, Int.reduceNe, Int.reduceEq, pgs_ex]
end Go.Proofs.Ytkibkahknibgfaa

namespace Go.Proofs.Ytkibkahknibgfaa
open Aml Go Go.RowKit Go.ChangeShapes Go.WideShapes Go.ChangeAt
set_option linter.unusedVariables false
set_option linter.unusedSimpArgs false
set_option maxRecDepth 100000

theorem run_st {l : List Stp} (h : (l.all fun s => !badP l.length s) = true) : l.length ≤ 120 ∧ StOk l.length (runN l).1 ∧ StOk l.length (runN l).2 := by
  have hL : l.length ≤ 120 := by
    cases l with
    | nil => simp
    | cons a l => exact (bad_no (List.all_eq_true.1 h a List.mem_cons_self)).2.2.2
  have := run_ok (L := l.length) hL l.length (Nat.le_refl _) (by rw [List.take_length]; exact h)
  rw [List.take_length] at this
  exact ⟨hL, this⟩
theorem StOk.fine {k : Nat} {n : N} (h : StOk k n) (hk : k ≤ 120) : Fine n := by
  obtain ⟨d, h1, h2, h3⟩ := h
  exact ⟨d, h2, by omega⟩
theorem run_fine {l : List Stp} (h : (l.all fun s => !badP l.length s) = true) : Fine (runN l).1 ∧ Fine (runN l).2 := by
  obtain ⟨h1, h2, h3⟩ := run_st h
  exact ⟨h2.fine h1, h3.fine h1⟩
theorem Fine.pgs {n : N} (h : Fine n) : (pgsT n).length ≤ 1048576 := by
  obtain ⟨d, hn, ht⟩ := h
  have := pgS_le noB hn
  unfold pgsT; rw [srt_length]; omega
theorem flt_len (a b : List Int) : (fltI a b).length ≤ b.length := List.length_filter_le _ _
theorem freshRQ (w0 : W0) (n : N) (S : St) (h : Fine n) : ACall Try.prog w0 31 [eN n] S (fun e S' => e = dI (frT n) ∧ S' = S) := by
  obtain ⟨d, hn, ht⟩ := h; exact freshR w0 d n S hn ht
theorem pagesRQ (w0 : W0) (n : N) (S : St) (h : Fine n) : ACall Try.prog w0 34 [eN n] S (fun e S' => e = dL (pgsT n) ∧ S' = S) := by
  obtain ⟨d, hn, ht⟩ := h; exact refPagesW w0 d n S hn ht
theorem lostRQ (w0 : W0) (a b : N) (S : St) (h : Fine a) (k : Fine b) : ACall Try.prog w0 36 [eN a, eN b] S (fun e S' => e = dL (fltI (pgsT b) (pgsT a)) ∧ S' = S) := by
  obtain ⟨d, hn, ht⟩ := h; obtain ⟨e, hm, hu⟩ := k; exact refLostW w0 d e a b S hn ht hm hu
theorem sum_one1 {α : Type} (l : List α) : (l.map fun _ => 1).sum = l.length := by
  induction l with
  | nil => rfl
  | cons a l ih => simp only [List.map_cons, List.sum_cons, List.length_cons, ih]; omega
theorem rdStp {W : World} : Rd Try.prog W 115 (fun s : Stp => [dS s.key, dI s.size, dB s.laid]) (fun s => 1) (fun s => True) := by
  have h := rd_struct (W := W) Try.underlying115 (total := 3) (by kernel_rfl) rfl (rdF_cons (k := 1) (rd_str Try.underlying9) rfl (by kernel_rfl) (rdF_cons (k := 1) (rd_i64 Try.underlying3) rfl (by kernel_rfl) (rdF_cons (k := 1) (rd_bool Try.underlying4) rfl (by kernel_rfl) rdF_nil)))
  exact h.conv (fun a => ⟨a.1, a.2.1, a.2.2.1⟩) (fun _ => rfl) (fun a => by omega) fun _ _ => trivial
theorem rdSteps {W : World} : Rd Try.prog W 44 (fun l : List Stp => [.sl 3 false (l.map dSt)]) (fun l => l.length) (fun l => True) :=
  (rd_sliceA rdStp Try.underlying44 (k := 3) (by kernel_rfl) (by omega)).conv id (fun _ => rfl) (fun l => by simp only [id, sum_one1]; omega) fun _ _ => trivial
end Go.Proofs.Ytkibkahknibgfaa

namespace Go.Proofs.Ytkibkahknibgfaa
open Aml Go Go.RowKit Go.ChangeShapes Go.WideShapes Go.ChangeAt
set_option linter.unusedVariables false
set_option linter.unusedSimpArgs false
set_option maxRecDepth 100000

set_option maxHeartbeats 8000000 in
theorem tellsF (w0 : W0) (l : List Stp) (S : St) (h0 : l.length ≤ 1048576) : ACall Try.prog w0 6 [.sl 3 false (l.map dSt)] S (fun e S' => e = dB true ∧ S' = S) := by
  refine fnS [] mx Try.func6 rfl rfl (by kernel_rfl) ?_; simp (maxDischargeDepth := 12) (maxSteps := 1000000) -implicitDefEqProofs only [Try.ntmps6, go_sem, Nat.reduceAdd, Nat.reduceSub, Nat.reduceMul, Nat.reduceLeDiff, Nat.reduceEqDiff, Nat.reduceGT, Nat.reduceBEq, reduceCtorEq, ↓reduceIte, Int.reduceToNat, Int.reduceLE, Int.reduceLT, Int.reduceNe, Int.reduceEq]
  refine use1 (awakeW w0 _) ?_
  simp (maxDischargeDepth := 12) (maxSteps := 1000000) -implicitDefEqProofs only [go_sem, Nat.reduceAdd, Nat.reduceSub, Nat.reduceMul, Nat.reduceLeDiff, Nat.reduceEqDiff, Nat.reduceGT, Nat.reduceBEq, reduceCtorEq, ↓reduceIte, Int.reduceToNat, Int.reduceLE, Int.reduceLT, Int.reduceNe, Int.reduceEq]
  refine use1 (builtW w0 l _ h0) ?_
  unfold resN
  split
  · rename_i hall
    obtain ⟨f1, f2⟩ := run_fine hall
    simp (maxDischargeDepth := 12) (maxSteps := 1000000) -implicitDefEqProofs only [go_sem, Nat.reduceAdd, Nat.reduceSub, Nat.reduceMul, Nat.reduceLeDiff, Nat.reduceEqDiff, Nat.reduceGT, Nat.reduceBEq, reduceCtorEq, ↓reduceIte, Int.reduceToNat, Int.reduceLE, Int.reduceLT, Int.reduceNe, Int.reduceEq]
    generalize (runN l).1 = n at *
    generalize (runN l).2 = o at *
    have hl1 := flt_len (pgsT n) (pgsT o)
    have hl2 := flt_len (pgsT o) (pgsT n)
    have hp1 := f1.pgs
    have hp2 := f2.pgs
    intro b b1
    refine use1 (nodeQ w0 n _ f1) ?_
    simp (maxDischargeDepth := 12) (maxSteps := 1000000) -implicitDefEqProofs only [go_sem, Nat.reduceAdd, Nat.reduceSub, Nat.reduceMul, Nat.reduceLeDiff, Nat.reduceEqDiff, Nat.reduceGT, Nat.reduceBEq, reduceCtorEq, ↓reduceIte, Int.reduceToNat, Int.reduceLE, Int.reduceLT, Int.reduceNe, Int.reduceEq]
    intro b2
    refine use1 (nodeQ w0 o _ f2) ?_
    simp (maxDischargeDepth := 12) (maxSteps := 1000000) -implicitDefEqProofs only [go_sem, Nat.reduceAdd, Nat.reduceSub, Nat.reduceMul, Nat.reduceLeDiff, Nat.reduceEqDiff, Nat.reduceGT, Nat.reduceBEq, reduceCtorEq, ↓reduceIte, Int.reduceToNat, Int.reduceLE, Int.reduceLT, Int.reduceNe, Int.reduceEq]
    intro b3
    refine useQ (freshQ w0 n _ f1) ?_
    simp (maxDischargeDepth := 12) (maxSteps := 1000000) -implicitDefEqProofs only [go_sem, Nat.reduceAdd, Nat.reduceSub, Nat.reduceMul, Nat.reduceLeDiff, Nat.reduceEqDiff, Nat.reduceGT, Nat.reduceBEq, reduceCtorEq, ↓reduceIte, Int.reduceToNat, Int.reduceLE, Int.reduceLT, Int.reduceNe, Int.reduceEq]
    refine useQ (freshRQ w0 n _ f1) ?_
    simp (maxDischargeDepth := 12) (maxSteps := 1000000) -implicitDefEqProofs only [go_sem, Nat.reduceAdd, Nat.reduceSub, Nat.reduceMul, Nat.reduceLeDiff, Nat.reduceEqDiff, Nat.reduceGT, Nat.reduceBEq, reduceCtorEq, ↓reduceIte, Int.reduceToNat, Int.reduceLE, Int.reduceLT, Int.reduceNe, Int.reduceEq]
    refine useQ (pagesQ w0 n _ f1) ?_
    simp (maxDischargeDepth := 12) (maxSteps := 1000000) -implicitDefEqProofs only [go_sem, Nat.reduceAdd, Nat.reduceSub, Nat.reduceMul, Nat.reduceLeDiff, Nat.reduceEqDiff, Nat.reduceGT, Nat.reduceBEq, reduceCtorEq, ↓reduceIte, Int.reduceToNat, Int.reduceLE, Int.reduceLT, Int.reduceNe, Int.reduceEq]
    refine useQ (pagesRQ w0 n _ f1) ?_
    simp (maxDischargeDepth := 12) (maxSteps := 1000000) -implicitDefEqProofs only [go_sem, Nat.reduceAdd, Nat.reduceSub, Nat.reduceMul, Nat.reduceLeDiff, Nat.reduceEqDiff, Nat.reduceGT, Nat.reduceBEq, reduceCtorEq, ↓reduceIte, Int.reduceToNat, Int.reduceLE, Int.reduceLT, Int.reduceNe, Int.reduceEq]
    refine useQ (ints3 w0 (pgsT n) (pgsT n) _ (by omega)) ?_
    simp (maxDischargeDepth := 12) (maxSteps := 1000000) -implicitDefEqProofs only [go_sem, Nat.reduceAdd, Nat.reduceSub, Nat.reduceMul, Nat.reduceLeDiff, Nat.reduceEqDiff, Nat.reduceGT, Nat.reduceBEq, reduceCtorEq, ↓reduceIte, Int.reduceToNat, Int.reduceLE, Int.reduceLT, Int.reduceNe, Int.reduceEq]
    refine useQ (lostQ w0 o n _ f2 f1) ?_
    simp (maxDischargeDepth := 12) (maxSteps := 1000000) -implicitDefEqProofs only [go_sem, Nat.reduceAdd, Nat.reduceSub, Nat.reduceMul, Nat.reduceLeDiff, Nat.reduceEqDiff, Nat.reduceGT, Nat.reduceBEq, reduceCtorEq, ↓reduceIte, Int.reduceToNat, Int.reduceLE, Int.reduceLT, Int.reduceNe, Int.reduceEq]
    refine useQ (lostRQ w0 o n _ f2 f1) ?_
    simp (maxDischargeDepth := 12) (maxSteps := 1000000) -implicitDefEqProofs only [go_sem, Nat.reduceAdd, Nat.reduceSub, Nat.reduceMul, Nat.reduceLeDiff, Nat.reduceEqDiff, Nat.reduceGT, Nat.reduceBEq, reduceCtorEq, ↓reduceIte, Int.reduceToNat, Int.reduceLE, Int.reduceLT, Int.reduceNe, Int.reduceEq]
    refine useQ (ints3 w0 (fltI (pgsT n) (pgsT o)) (fltI (pgsT n) (pgsT o)) _ (by omega)) ?_
    simp (maxDischargeDepth := 12) (maxSteps := 1000000) -implicitDefEqProofs only [go_sem, Nat.reduceAdd, Nat.reduceSub, Nat.reduceMul, Nat.reduceLeDiff, Nat.reduceEqDiff, Nat.reduceGT, Nat.reduceBEq, reduceCtorEq, ↓reduceIte, Int.reduceToNat, Int.reduceLE, Int.reduceLT, Int.reduceNe, Int.reduceEq]
    refine useQ (lostQ w0 n o _ f1 f2) ?_
    simp (maxDischargeDepth := 12) (maxSteps := 1000000) -implicitDefEqProofs only [go_sem, Nat.reduceAdd, Nat.reduceSub, Nat.reduceMul, Nat.reduceLeDiff, Nat.reduceEqDiff, Nat.reduceGT, Nat.reduceBEq, reduceCtorEq, ↓reduceIte, Int.reduceToNat, Int.reduceLE, Int.reduceLT, Int.reduceNe, Int.reduceEq]
    refine useQ (lostRQ w0 n o _ f1 f2) ?_
    simp (maxDischargeDepth := 12) (maxSteps := 1000000) -implicitDefEqProofs only [go_sem, Nat.reduceAdd, Nat.reduceSub, Nat.reduceMul, Nat.reduceLeDiff, Nat.reduceEqDiff, Nat.reduceGT, Nat.reduceBEq, reduceCtorEq, ↓reduceIte, Int.reduceToNat, Int.reduceLE, Int.reduceLT, Int.reduceNe, Int.reduceEq]
    refine useQ (ints3 w0 (fltI (pgsT o) (pgsT n)) (fltI (pgsT o) (pgsT n)) _ (by omega)) ?_
    simp (maxDischargeDepth := 12) (maxSteps := 1000000) -implicitDefEqProofs only [go_sem, Nat.reduceAdd, Nat.reduceSub, Nat.reduceMul, Nat.reduceLeDiff, Nat.reduceEqDiff, Nat.reduceGT, Nat.reduceBEq, reduceCtorEq, ↓reduceIte, Int.reduceToNat, Int.reduceLE, Int.reduceLT, Int.reduceNe, Int.reduceEq]
  · simp (maxDischargeDepth := 12) (maxSteps := 1000000) -implicitDefEqProofs only [go_sem, Nat.reduceAdd, Nat.reduceSub, Nat.reduceMul, Nat.reduceLeDiff, Nat.reduceEqDiff, Nat.reduceGT, Nat.reduceBEq, reduceCtorEq, ↓reduceIte, Int.reduceToNat, Int.reduceLE, Int.reduceLT, Int.reduceNe, Int.reduceEq]
theorem freshTells_own : ownKnob Try.prog.godebug = none := by kernel_rfl
set_option maxHeartbeats 1000000 in
theorem freshTells_contract (H : Type) (enc : TypeId × Value → H) (W : World) (base : Nat) (args : Array Value) (ds gs : List (DataW H)) (before : List MemPlace)
    (hval : ∀ (j : Nat) t v, Try.f6.params[j]? = some t → args[j]? = some v → Value.okWide Try.prog W .any base t v)
    (hW : DataW.Whole enc Try.prog Try.f6.params.toList Rows.freshTellsSpec.vars false W args.toList ds gs before) (hk : Rows.uptoBulkAll (ds ++ gs) ≤ 1048576) :
    Calls Try.prog 6 args W fun e W' => ∃ v, e = .returned v ∧ Rows.freshTellsSpec.post enc Try.prog Try.f6 false true false false W args v W' :=
  law_contract enc (ts := [44]) (tb := 4) (rdA_one rdSteps (by kernel_rfl) rdA_nil) Try.params6 rfl Try.underlying4 rfl (by kernel_rfl) (by intro t ht; revert t; decide +kernel) (fun ds hd => by
    first
    | (match ds, hd with | [_], _ => rfl)
    | (match ds, hd with | [_, _], _ => rfl)
    | (match ds, hd with | [_, _, _], _ => rfl)
    | (match ds, hd with | [_, _, _, _], _ => rfl)) (fun a ha hs => (tellsF W a.1 ⟨[], []⟩ (by omega)).mono fun d S' h => h.1) base args ds gs before hval hW hk
set_option maxRecDepth 100000 in
theorem freshTells_lifted (os : Os) (started : os.Started) (H : Type) (enc : TypeId × Value → H) (F : Stop.Interp) :
    ReturnsInHanded {} Try.checked os 6 .any ((Rows.OpenSpec.upto Rows.freshTellsSpec).pre6 enc Try.prog Try.f6 Rows.freshTellsUptoRow.domain false) (((Rows.OpenSpec.upto Rows.freshTellsSpec).at F).post enc Try.prog Try.f6 false true false false) := by
  refine returnsInHanded_of_cond (C := Try.checked) (s := Rows.OpenSpec.upto Rows.freshTellsSpec) (k := Rows.uptoSmall) rfl freshTells_own started (by kernel_rfl) Try.func6
    (OpenSpec.witness (enc := enc) (C := Try.checked) (s := Rows.OpenSpec.upto Rows.freshTellsSpec) (k := Rows.uptoSmall) rfl false ⟨#[], #[.slice none 0 0], []⟩ 8 (by kernel_rfl) (by kernel_rfl) (by kernel_rfl)
      (x := ([.nil], [], [])) (by kernel_rfl) rfl (by kernel_rfl)) ?_
  intro W base args ds gs before hval hW _ hk _
  exact freshTells_contract H enc W base args ds gs before hval hW (of_decide_eq_true hk)
/-- THE STATEMENT. -/
theorem freshTells_holds : Rows.FreshTellsUptoSaid :=
  OpenClaim.holds_of_cond 6 Try.f6 rfl rfl rfl rfl rfl rfl rfl ⟨rfl, rfl, rfl, rfl, rfl⟩ rfl rfl rfl rfl rfl (by kernel_rfl) Try.func6 (by kernel_rfl)
    (of_decide_eq_true (by kernel_rfl)) (by unfold Func.isWrapper; first | (rw [if_pos (by decide +kernel)]; kernel_rfl) | (rw [if_neg (by decide +kernel)]; exact ⟨rfl, rfl⟩))
    (fun os started H enc _ F => freshTells_lifted os started H enc F)

end Go.Proofs.Ytkibkahknibgfaa
