/-
  HandlesRun is true wherever it is called: for arguments of bulk at most 1048576. By an AI agent.
-/
import Derived.Test.YtodndiioekjjoaaMH6
import Derived.Test.YtodndiioekjjoaaMH5
namespace Go.Proofs.Ytodndiioekjjoaa
open Aml Go Go.RowKit Go.ChangeShapes Go.WideShapes Go.ChangeAt
set_option linter.unusedVariables false
set_option linter.unusedSimpArgs false
set_option maxRecDepth 100000
structure RuH where
  k : Nat
  w : List RH
  θ : TbG
  T : St
structure SwH where
  w : List RH
  a : Int
  is : Bool
  θ : TbG
  T : St
theorem fn_dec (w : List RH) (lv n : Int) : decide (0 ≤ fnH w lv n) = decide (ixH w lv n < w.length) := by
  have := ixH_lt (l := w) (lv := lv) (n := n)
  by_cases h : ixH w lv n < w.length
  · rw [decide_eq_true h, decide_eq_true]; omega
  · rw [decide_eq_false h, decide_eq_false]; omega
theorem ss_len {S : St} {θ : TbG} {w : List RH} {k : Int} (h : TI S θ w) (hk : LaB w k) (h0 : 0 ≤ k) (lv n : Int) : ((ssH w lv n).length : Int) ≤ k := by
  unfold ssH
  split
  · rename_i s hs
    exact sn_len h hk (List.mem_of_getElem? hs)
  · simpa using h0
set_option maxHeartbeats 16000000 in
theorem runsH (w0 : W0) (l : List StH) (h0 : l.length ≤ 1048576) : ACall Try.prog w0 3 [.sl 4 false (l.map dStH)] ⟨[], []⟩ (fun d S' => d = dB true ∧ S' = ⟨[], []⟩) := by
  refine fnS [1002] mx Try.func3 rfl rfl (by kernel_rfl) ?_; simp (maxDischargeDepth := 12) (maxSteps := 1000000) -implicitDefEqProofs only [Try.ntmps3, go_sem, Nat.reduceAdd, Nat.reduceSub, Nat.reduceMul, Nat.reduceLeDiff, Nat.reduceEqDiff, Nat.reduceGT, Nat.reduceBEq, reduceCtorEq, ↓reduceIte, Int.reduceToNat, Int.reduceLE, Int.reduceLT, Int.reduceNe, Int.reduceEq]
  refine use1 (awakeH w0) ?_
  simp (maxDischargeDepth := 12) (maxSteps := 1000000) -implicitDefEqProofs only [go_sem, Nat.reduceAdd, Nat.reduceSub, Nat.reduceMul, Nat.reduceLeDiff, Nat.reduceEqDiff, Nat.reduceGT, Nat.reduceBEq, reduceCtorEq, ↓reduceIte, Int.reduceToNat, Int.reduceLE, Int.reduceLT, Int.reduceNe, Int.reduceEq]
  intro hl
  refine useK (newT w0 _) ?_
  rintro _ T0 ⟨θ0, rfl, hT0, -⟩
  simp (maxDischargeDepth := 12) (maxSteps := 1000000) -implicitDefEqProofs only [go_sem, Nat.reduceAdd, Nat.reduceSub, Nat.reduceMul, Nat.reduceLeDiff, Nat.reduceEqDiff, Nat.reduceGT, Nat.reduceBEq, reduceCtorEq, ↓reduceIte, Int.reduceToNat, Int.reduceLE, Int.reduceLT, Int.reduceNe, Int.reduceEq]
  refine loopK [1002] [0, 4, 5, 6] (fun s : RuH => [(5, .sl 5 false (s.w.map dRH)), (6, dI s.k)]) (fun s => s.T) (fun s => s.k ≤ l.length ∧ s.w.length ≤ s.k ∧ LaB s.w s.k ∧ TI s.T s.θ s.w ∧ s.θ.t = θ0.t) (fun s => l.length - s.k) ⟨0, [], θ0, T0⟩ mx (by kernel_rfl) ?_ ?_
  · refine ⟨⟨by simp, by simp, n1H 0, hT0, rfl⟩, ?_, ?_⟩
    · simp (maxDischargeDepth := 12) (maxSteps := 1000000) -implicitDefEqProofs only [go_sem, Nat.reduceAdd, Nat.reduceSub, Nat.reduceMul, Nat.reduceLeDiff, Nat.reduceEqDiff, Nat.reduceGT, Nat.reduceBEq, reduceCtorEq, ↓reduceIte, Int.reduceToNat, Int.reduceLE, Int.reduceLT, Int.reduceNe, Int.reduceEq]
    · exact .refl _
  · rintro ⟨k, w, θ, T⟩ ⟨hk, hw, hla, hT, et⟩
    simp only at hk hw hla hT et
    have e1 : IntKind.i64.wrap ((k : Int) + 1) = ((k + 1 : Nat) : Int) := i_oneH k (by omega)
    simp (maxDischargeDepth := 12) (maxSteps := 1000000) -implicitDefEqProofs only [go_sem, Nat.reduceAdd, Nat.reduceSub, Nat.reduceMul, Nat.reduceLeDiff, Nat.reduceEqDiff, Nat.reduceGT, Nat.reduceBEq, reduceCtorEq, ↓reduceIte, Int.reduceToNat, Int.reduceLE, Int.reduceLT, Int.reduceNe, Int.reduceEq]
    refine ⟨fun hlt => ⟨hlt, fun a ha c c2 => ?_⟩, fun hge => ?_⟩
    · have hX := (hT.consB (fn_lk c) [dI a.kind, dI a.lv, dI a.n, dI a.sn]).consB (fn_lk c2) [dI a.lv, dI a.n]
      have nc := loc_nin hT (fn_lk c)
      have nc2 := loc_nin (hT.consB (fn_lk c) [dI a.kind, dI a.lv, dI a.n, dI a.sn]) (fn_lk c2)
      have hcc : ¬ c2.n = c.n := by simp (maxDischargeDepth := 12) (maxSteps := 1000000) -implicitDefEqProofs only [go_sem, Nat.reduceAdd, Nat.reduceSub, Nat.reduceMul, Nat.reduceLeDiff, Nat.reduceEqDiff, Nat.reduceGT, Nat.reduceBEq, reduceCtorEq, ↓reduceIte, Int.reduceToNat, Int.reduceLE, Int.reduceLT, Int.reduceNe, Int.reduceEq]
      have b1 : lk ((c2.n, [dI a.lv, dI a.n]) :: (c.n, [dI a.kind, dI a.lv, dI a.n, dI a.sn]) :: T.box) c.n = some [dI a.kind, dI a.lv, dI a.n, dI a.sn] := by simp (maxDischargeDepth := 12) (maxSteps := 1000000) -implicitDefEqProofs only [go_sem, Nat.reduceAdd, Nat.reduceSub, Nat.reduceMul, Nat.reduceLeDiff, Nat.reduceEqDiff, Nat.reduceGT, Nat.reduceBEq, reduceCtorEq, ↓reduceIte, Int.reduceToNat, Int.reduceLE, Int.reduceLT, Int.reduceNe, Int.reduceEq]
      have b2 : lk ((c2.n, [dI a.lv, dI a.n]) :: (c.n, [dI a.kind, dI a.lv, dI a.n, dI a.sn]) :: T.box) c2.n = some [dI a.lv, dI a.n] := by simp (maxDischargeDepth := 12) (maxSteps := 1000000) -implicitDefEqProofs only [go_sem, Nat.reduceAdd, Nat.reduceSub, Nat.reduceMul, Nat.reduceLeDiff, Nat.reduceEqDiff, Nat.reduceGT, Nat.reduceBEq, reduceCtorEq, ↓reduceIte, Int.reduceToNat, Int.reduceLE, Int.reduceLT, Int.reduceNe, Int.reduceEq]
      refine cutK (σ := SwH) [] [0, 4, 5, 6, 7, 8, 9, 10, 11, 12] (fun s => [(5, .sl 5 false (s.w.map dRH)), (9, dI s.a), (10, dI s.a), (11, dB s.is), (12, dB s.is)]) (fun s => s.T) (fun s => s.w.length ≤ k + 1 ∧ LaB s.w ((k + 1 : Nat) : Int) ∧ TI s.T s.θ s.w ∧ s.θ.t = θ0.t ∧ lk s.T.box c.n = some [dI a.kind, dI a.lv, dI a.n, dI a.sn] ∧ lk s.T.box c2.n = some [dI a.lv, dI a.n]) mx (by kernel_rfl) ?_ ?_
      · have kk : ((k : Int) + 1) = ((k + 1 : Nat) : Int) := by omega
        simp (maxDischargeDepth := 12) (maxSteps := 1000000) -implicitDefEqProofs only [go_sem, Nat.reduceAdd, Nat.reduceSub, Nat.reduceMul, Nat.reduceLeDiff, Nat.reduceEqDiff, Nat.reduceGT, Nat.reduceBEq, reduceCtorEq, ↓reduceIte, Int.reduceToNat, Int.reduceLE, Int.reduceLT, Int.reduceNe, Int.reduceEq, b1]
        refine ⟨fun z => ?_, fun z => ⟨fun z1 => ?_, fun z1 => ⟨fun z2 => ?_, fun z2 => ⟨fun z3 => ?_, fun z3 => ⟨fun z4 => ?_, fun z4 => ?_⟩⟩⟩⟩⟩
        · refine use1 (rOpenH w0 w a.lv _ (by omega)) ?_
          simp (maxDischargeDepth := 12) (maxSteps := 1000000) -implicitDefEqProofs only [go_sem, Nat.reduceAdd, Nat.reduceSub, Nat.reduceMul, Nat.reduceLeDiff, Nat.reduceEqDiff, Nat.reduceGT, Nat.reduceBEq, reduceCtorEq, ↓reduceIte, Int.reduceToNat, Int.reduceLE, Int.reduceLT, Int.reduceNe, Int.reduceEq, b1]
          refine useK (openU w0 hX et (by omega) a.lv) ?_
          rintro _ T1 ⟨rfl, θ1, h1, f1, q1⟩
          simp (maxDischargeDepth := 12) (maxSteps := 1000000) -implicitDefEqProofs only [go_sem, Nat.reduceAdd, Nat.reduceSub, Nat.reduceMul, Nat.reduceLeDiff, Nat.reduceEqDiff, Nat.reduceGT, Nat.reduceBEq, reduceCtorEq, ↓reduceIte, Int.reduceToNat, Int.reduceLE, Int.reduceLT, Int.reduceNe, Int.reduceEq]
          exact ⟨⟨(opH w a.lv).1, (opH w a.lv).2, false, θ1, T1⟩, ⟨by rw [opH_len]; omega, kk ▸ hla.op (by omega) a.lv, h1, q1, f1.box _ _ nc b1, f1.box _ _ nc2 b2⟩, ⟨.refl _, rfl, rfl, rfl⟩, .refl _⟩
        · refine use1 (rCloseH w0 w a.lv a.n _ (by omega)) ?_
          simp (maxDischargeDepth := 12) (maxSteps := 1000000) -implicitDefEqProofs only [go_sem, Nat.reduceAdd, Nat.reduceSub, Nat.reduceMul, Nat.reduceLeDiff, Nat.reduceEqDiff, Nat.reduceGT, Nat.reduceBEq, reduceCtorEq, ↓reduceIte, Int.reduceToNat, Int.reduceLE, Int.reduceLT, Int.reduceNe, Int.reduceEq, b1, b2]
          refine useK (closeU w0 hX et a.lv a.n) ?_
          rintro _ T1 ⟨rfl, h1, f1⟩
          simp (maxDischargeDepth := 12) (maxSteps := 1000000) -implicitDefEqProofs only [go_sem, Nat.reduceAdd, Nat.reduceSub, Nat.reduceMul, Nat.reduceLeDiff, Nat.reduceEqDiff, Nat.reduceGT, Nat.reduceBEq, reduceCtorEq, ↓reduceIte, Int.reduceToNat, Int.reduceLE, Int.reduceLT, Int.reduceNe, Int.reduceEq]
          exact ⟨⟨(clH w a.lv a.n).1, 0, (clH w a.lv a.n).2, θ, T1⟩, ⟨by rw [clH_len]; omega, kk ▸ hla.cl (by omega) a.lv a.n, h1, et, f1.box _ _ nc b1, f1.box _ _ nc2 b2⟩, ⟨.refl _, rfl, rfl, rfl⟩, .refl _⟩
        · refine use1 (rSnapH w0 w a.lv a.n _ (by omega) fun s hs => ⟨?_, hX.ok.la s hs, by have := hla s hs; omega⟩) ?_
          · have := sn_len hX hla hs; omega
          simp (maxDischargeDepth := 12) (maxSteps := 1000000) -implicitDefEqProofs only [go_sem, Nat.reduceAdd, Nat.reduceSub, Nat.reduceMul, Nat.reduceLeDiff, Nat.reduceEqDiff, Nat.reduceGT, Nat.reduceBEq, reduceCtorEq, ↓reduceIte, Int.reduceToNat, Int.reduceLE, Int.reduceLT, Int.reduceNe, Int.reduceEq, b1, b2]
          refine useK (snapU w0 hX et hla (by omega) a.lv a.n) ?_
          rintro _ T1 ⟨rfl, h1, f1⟩
          simp (maxDischargeDepth := 12) (maxSteps := 1000000) -implicitDefEqProofs only [go_sem, Nat.reduceAdd, Nat.reduceSub, Nat.reduceMul, Nat.reduceLeDiff, Nat.reduceEqDiff, Nat.reduceGT, Nat.reduceBEq, reduceCtorEq, ↓reduceIte, Int.reduceToNat, Int.reduceLE, Int.reduceLT, Int.reduceNe, Int.reduceEq]
          exact ⟨⟨(snH w a.lv a.n).1, (snH w a.lv a.n).2, false, θ, T1⟩, ⟨by rw [snH_len]; omega, kk ▸ hla.sn a.lv a.n, h1, et, f1.box _ _ nc b1, f1.box _ _ nc2 b2⟩, ⟨.refl _, rfl, rfl, rfl⟩, .refl _⟩
        · refine use1 (rUnsnapH w0 w a.lv a.n a.sn _ (by omega) fun s hs => ?_) ?_
          · have := sn_len hX hla hs; omega
          simp (maxDischargeDepth := 12) (maxSteps := 1000000) -implicitDefEqProofs only [go_sem, Nat.reduceAdd, Nat.reduceSub, Nat.reduceMul, Nat.reduceLeDiff, Nat.reduceEqDiff, Nat.reduceGT, Nat.reduceBEq, reduceCtorEq, ↓reduceIte, Int.reduceToNat, Int.reduceLE, Int.reduceLT, Int.reduceNe, Int.reduceEq, b1, b2]
          refine useK (unsnapU w0 hX et a.lv a.n a.sn) ?_
          rintro _ T1 ⟨rfl, h1, f1⟩
          simp (maxDischargeDepth := 12) (maxSteps := 1000000) -implicitDefEqProofs only [go_sem, Nat.reduceAdd, Nat.reduceSub, Nat.reduceMul, Nat.reduceLeDiff, Nat.reduceEqDiff, Nat.reduceGT, Nat.reduceBEq, reduceCtorEq, ↓reduceIte, Int.reduceToNat, Int.reduceLE, Int.reduceLT, Int.reduceNe, Int.reduceEq]
          exact ⟨⟨(unH w a.lv a.n a.sn).1, 0, (unH w a.lv a.n a.sn).2, θ, T1⟩, ⟨by rw [unH_len]; omega, kk ▸ hla.un a.lv a.n a.sn, h1, et, f1.box _ _ nc b1, f1.box _ _ nc2 b2⟩, ⟨.refl _, rfl, rfl, rfl⟩, .refl _⟩
        · refine useK (resetU w0 hX et) ?_
          rintro _ T1 ⟨θ1, h1, f1, q1⟩
          simp (maxDischargeDepth := 12) (maxSteps := 1000000) -implicitDefEqProofs only [go_sem, Nat.reduceAdd, Nat.reduceSub, Nat.reduceMul, Nat.reduceLeDiff, Nat.reduceEqDiff, Nat.reduceGT, Nat.reduceBEq, reduceCtorEq, ↓reduceIte, Int.reduceToNat, Int.reduceLE, Int.reduceLT, Int.reduceNe, Int.reduceEq]
          exact ⟨⟨[], 0, false, θ1, T1⟩, ⟨by simp, n1H _, h1, q1, f1.box _ _ nc b1, f1.box _ _ nc2 b2⟩, ⟨.nil _ _ _, rfl, rfl, rfl⟩, .refl _⟩
        · exact ⟨⟨w, 0, false, θ, _⟩, ⟨by show w.length ≤ k + 1; omega, kk ▸ hla.up, hX, et, b1, b2⟩, ⟨.refl _, rfl, rfl, rfl⟩, .refl _⟩
      · rintro ⟨w1, ab, is, θ1, T1⟩ ⟨g1, g2, g3, g4, g5, g6⟩
        simp only at g1 g2 g3 g4 g5 g6
        simp (maxDischargeDepth := 12) (maxSteps := 1000000) -implicitDefEqProofs only [go_sem, Nat.reduceAdd, Nat.reduceSub, Nat.reduceMul, Nat.reduceLeDiff, Nat.reduceEqDiff, Nat.reduceGT, Nat.reduceBEq, reduceCtorEq, ↓reduceIte, Int.reduceToNat, Int.reduceLE, Int.reduceLT, Int.reduceNe, Int.reduceEq]
        refine use1 (allU w0 g3 g4 (by omega)) ?_
        simp (maxDischargeDepth := 12) (maxSteps := 1000000) -implicitDefEqProofs only [go_sem, Nat.reduceAdd, Nat.reduceSub, Nat.reduceMul, Nat.reduceLeDiff, Nat.reduceEqDiff, Nat.reduceGT, Nat.reduceBEq, reduceCtorEq, ↓reduceIte, Int.reduceToNat, Int.reduceLE, Int.reduceLT, Int.reduceNe, Int.reduceEq]
        refine use1 (rAllH w0 w1 _ (by omega)) ?_
        simp (maxDischargeDepth := 12) (maxSteps := 1000000) -implicitDefEqProofs only [go_sem, Nat.reduceAdd, Nat.reduceSub, Nat.reduceMul, Nat.reduceLeDiff, Nat.reduceEqDiff, Nat.reduceGT, Nat.reduceBEq, reduceCtorEq, ↓reduceIte, Int.reduceToNat, Int.reduceLE, Int.reduceLT, Int.reduceNe, Int.reduceEq, g5, g6]
        have hf := fn_dec w1 a.lv a.n
        have hlen : (hdA w1).length = (allH w1).length := by unfold hdA; rw [List.length_map]
        refine useQ (hasU w0 g3 g4 a.lv a.n) ?_
        simp (maxDischargeDepth := 12) (maxSteps := 1000000) -implicitDefEqProofs only [go_sem, Nat.reduceAdd, Nat.reduceSub, Nat.reduceMul, Nat.reduceLeDiff, Nat.reduceEqDiff, Nat.reduceGT, Nat.reduceBEq, reduceCtorEq, ↓reduceIte, Int.reduceToNat, Int.reduceLE, Int.reduceLT, Int.reduceNe, Int.reduceEq, g5, g6]
        refine useQ (findH w0 w1 a.lv a.n _ (by omega)) ?_
        simp (maxDischargeDepth := 12) (maxSteps := 1000000) -implicitDefEqProofs only [go_sem, Nat.reduceAdd, Nat.reduceSub, Nat.reduceMul, Nat.reduceLeDiff, Nat.reduceEqDiff, Nat.reduceGT, Nat.reduceBEq, reduceCtorEq, ↓reduceIte, Int.reduceToNat, Int.reduceLE, Int.reduceLT, Int.reduceNe, Int.reduceEq, g5, g6, hf]
        refine useQ (snapsU w0 g3 g4 g2 (by omega) a.lv a.n) ?_
        simp (maxDischargeDepth := 12) (maxSteps := 1000000) -implicitDefEqProofs only [go_sem, Nat.reduceAdd, Nat.reduceSub, Nat.reduceMul, Nat.reduceLeDiff, Nat.reduceEqDiff, Nat.reduceGT, Nat.reduceBEq, reduceCtorEq, ↓reduceIte, Int.reduceToNat, Int.reduceLE, Int.reduceLT, Int.reduceNe, Int.reduceEq, g5, g6]
        refine useQ (rSnapsH w0 w1 a.lv a.n _ (by omega)) ?_
        simp (maxDischargeDepth := 12) (maxSteps := 1000000) -implicitDefEqProofs only [go_sem, Nat.reduceAdd, Nat.reduceSub, Nat.reduceMul, Nat.reduceLeDiff, Nat.reduceEqDiff, Nat.reduceGT, Nat.reduceBEq, reduceCtorEq, ↓reduceIte, Int.reduceToNat, Int.reduceLE, Int.reduceLT, Int.reduceNe, Int.reduceEq]
        have hsl := ss_len g3 g2 (by omega) a.lv a.n
        refine useQ (ints3 w0 (ssH w1 a.lv a.n) (ssH w1 a.lv a.n) _ (by omega)) ?_
        simp (maxDischargeDepth := 12) (maxSteps := 1000000) -implicitDefEqProofs only [go_sem, Nat.reduceAdd, Nat.reduceSub, Nat.reduceMul, Nat.reduceLeDiff, Nat.reduceEqDiff, Nat.reduceGT, Nat.reduceBEq, reduceCtorEq, ↓reduceIte, Int.reduceToNat, Int.reduceLE, Int.reduceLT, Int.reduceNe, Int.reduceEq, hlen]
        have hdl := hdA_le w1
        refine loopN [] (hdA w1).length [0, 4, 5, 6, 13, 14, 15] (fun k2 => [(15, dI k2)]) (fun _ => T1) (fun _ => True) mx (by kernel_rfl) ?_ ?_
        · simp (maxDischargeDepth := 12) (maxSteps := 1000000) -implicitDefEqProofs only [go_sem, Nat.reduceAdd, Nat.reduceSub, Nat.reduceMul, Nat.reduceLeDiff, Nat.reduceEqDiff, Nat.reduceGT, Nat.reduceBEq, reduceCtorEq, ↓reduceIte, Int.reduceToNat, Int.reduceLE, Int.reduceLT, Int.reduceNe, Int.reduceEq]
        · intro k2 hk2 _
          have e2 : IntKind.i64.wrap ((k2 : Int) + 1) = ((k2 + 1 : Nat) : Int) := i_oneH k2 (by omega)
          simp (maxDischargeDepth := 12) (maxSteps := 1000000) -implicitDefEqProofs only [go_sem, Nat.reduceAdd, Nat.reduceSub, Nat.reduceMul, Nat.reduceLeDiff, Nat.reduceEqDiff, Nat.reduceGT, Nat.reduceBEq, reduceCtorEq, ↓reduceIte, Int.reduceToNat, Int.reduceLE, Int.reduceLT, Int.reduceNe, Int.reduceEq]
          refine ⟨fun hlt2 => ⟨hlt2, fun x hx => ⟨by omega, fun y hy => ?_⟩⟩, fun hge2 => ?_⟩
          · have hxy : x = hdR y := by
              unfold hdA at hx
              rw [List.getElem?_map, hy] at hx
              cases hx; rfl
            subst hxy
            refine ⟨fun q => q rfl, fun _ => ⟨hlt2, fun x2 hx2 => ⟨by omega, fun y2 hy2 => ?_⟩⟩⟩
            cases getE hx hx2
            cases getE hy hy2
            exact ⟨fun q => q rfl, fun _ => ⟨hlt2, e2⟩⟩
          · exact ⟨⟨k + 1, w1, θ1, T1⟩, ⟨hlt, g1, g2, g3, g4⟩, by show l.length - (k + 1) < l.length - k; omega, ⟨.refl _, e1⟩, .refl _⟩
    · refine use1 (nilReset w0 _) ?_
      simp (maxDischargeDepth := 12) (maxSteps := 1000000) -implicitDefEqProofs only [go_sem, Nat.reduceAdd, Nat.reduceSub, Nat.reduceMul, Nat.reduceLeDiff, Nat.reduceEqDiff, Nat.reduceGT, Nat.reduceBEq, reduceCtorEq, ↓reduceIte, Int.reduceToNat, Int.reduceLE, Int.reduceLT, Int.reduceNe, Int.reduceEq]
      intro c3
      refine use1 (nilOpen w0 1 _) ?_
      simp (maxDischargeDepth := 12) (maxSteps := 1000000) -implicitDefEqProofs only [go_sem, Nat.reduceAdd, Nat.reduceSub, Nat.reduceMul, Nat.reduceLeDiff, Nat.reduceEqDiff, Nat.reduceGT, Nat.reduceBEq, reduceCtorEq, ↓reduceIte, Int.reduceToNat, Int.reduceLE, Int.reduceLT, Int.reduceNe, Int.reduceEq]
      refine use1 (nilClose w0 0 0 _) ?_
      simp (maxDischargeDepth := 12) (maxSteps := 1000000) -implicitDefEqProofs only [go_sem, Nat.reduceAdd, Nat.reduceSub, Nat.reduceMul, Nat.reduceLeDiff, Nat.reduceEqDiff, Nat.reduceGT, Nat.reduceBEq, reduceCtorEq, ↓reduceIte, Int.reduceToNat, Int.reduceLE, Int.reduceLT, Int.reduceNe, Int.reduceEq]
      refine use1 (nilHas w0 0 0 _) ?_
      simp (maxDischargeDepth := 12) (maxSteps := 1000000) -implicitDefEqProofs only [go_sem, Nat.reduceAdd, Nat.reduceSub, Nat.reduceMul, Nat.reduceLeDiff, Nat.reduceEqDiff, Nat.reduceGT, Nat.reduceBEq, reduceCtorEq, ↓reduceIte, Int.reduceToNat, Int.reduceLE, Int.reduceLT, Int.reduceNe, Int.reduceEq]
      refine use1 (nilSnap w0 0 0 _) ?_
      simp (maxDischargeDepth := 12) (maxSteps := 1000000) -implicitDefEqProofs only [go_sem, Nat.reduceAdd, Nat.reduceSub, Nat.reduceMul, Nat.reduceLeDiff, Nat.reduceEqDiff, Nat.reduceGT, Nat.reduceBEq, reduceCtorEq, ↓reduceIte, Int.reduceToNat, Int.reduceLE, Int.reduceLT, Int.reduceNe, Int.reduceEq]
      refine use1 (nilUnsnap w0 0 0 1 _) ?_
      simp (maxDischargeDepth := 12) (maxSteps := 1000000) -implicitDefEqProofs only [go_sem, Nat.reduceAdd, Nat.reduceSub, Nat.reduceMul, Nat.reduceLeDiff, Nat.reduceEqDiff, Nat.reduceGT, Nat.reduceBEq, reduceCtorEq, ↓reduceIte, Int.reduceToNat, Int.reduceLE, Int.reduceLT, Int.reduceNe, Int.reduceEq]
      refine use1 (nilSnaps w0 0 0 _) ?_
      simp (maxDischargeDepth := 12) (maxSteps := 1000000) -implicitDefEqProofs only [go_sem, Nat.reduceAdd, Nat.reduceSub, Nat.reduceMul, Nat.reduceLeDiff, Nat.reduceEqDiff, Nat.reduceGT, Nat.reduceBEq, reduceCtorEq, ↓reduceIte, Int.reduceToNat, Int.reduceLE, Int.reduceLT, Int.reduceNe, Int.reduceEq]
      refine use1 (nilAll w0 _) ?_
      simp (maxDischargeDepth := 12) (maxSteps := 1000000) -implicitDefEqProofs only [go_sem, Nat.reduceAdd, Nat.reduceSub, Nat.reduceMul, Nat.reduceLeDiff, Nat.reduceEqDiff, Nat.reduceGT, Nat.reduceBEq, reduceCtorEq, ↓reduceIte, Int.reduceToNat, Int.reduceLE, Int.reduceLT, Int.reduceNe, Int.reduceEq]
      exact ⟨by decide, sub0 _⟩
theorem handlesRun_own : ownKnob Try.prog.godebug = none := by kernel_rfl
set_option maxHeartbeats 1000000 in
theorem handlesRun_contract (H : Type) (enc : TypeId × Value → H) (W : World) (base : Nat) (args : Array Value) (ds gs : List (DataW H)) (before : List MemPlace)
    (hval : ∀ (j : Nat) t v, Try.f3.params[j]? = some t → args[j]? = some v → Value.okWide Try.prog W .any base t v)
    (hW : DataW.Whole enc Try.prog Try.f3.params.toList Rows.handlesRunSpec.vars false W args.toList ds gs before) (hk : Rows.uptoBulkAll (ds ++ gs) ≤ 1048576) :
    Calls Try.prog 3 args W fun e W' => ∃ v, e = .returned v ∧ Rows.handlesRunSpec.post enc Try.prog Try.f3 false true false false W args v W' :=
  law_contract enc (ts := [22]) (tb := 4) (rdA_one rdStHs (by kernel_rfl) rdA_nil) Try.params3 rfl Try.underlying4 rfl (by kernel_rfl) (by intro t ht; revert t; decide +kernel) (fun ds hd => by
    first
    | (match ds, hd with | [_], _ => rfl)
    | (match ds, hd with | [_, _], _ => rfl)
    | (match ds, hd with | [_, _, _], _ => rfl)
    | (match ds, hd with | [_, _, _, _], _ => rfl)) (fun a ha hs => (runsH W a.1 (by omega)).mono fun d S' h => h.1) base args ds gs before hval hW hk
set_option maxRecDepth 100000 in
theorem handlesRun_lifted (os : Os) (started : os.Started) (H : Type) (enc : TypeId × Value → H) (F : Stop.Interp) :
    ReturnsInHanded {} Try.checked os 3 .any ((Rows.OpenSpec.upto Rows.handlesRunSpec).pre6 enc Try.prog Try.f3 Rows.handlesRunUptoRow.domain false) (((Rows.OpenSpec.upto Rows.handlesRunSpec).at F).post enc Try.prog Try.f3 false true false false) := by
  refine returnsInHanded_of_cond (C := Try.checked) (s := Rows.OpenSpec.upto Rows.handlesRunSpec) (k := Rows.uptoSmall) rfl handlesRun_own started (by kernel_rfl) Try.func3
    (OpenSpec.witness (enc := enc) (C := Try.checked) (s := Rows.OpenSpec.upto Rows.handlesRunSpec) (k := Rows.uptoSmall) rfl false ⟨#[], #[.slice none 0 0], []⟩ 8 (by kernel_rfl) (by kernel_rfl) (by kernel_rfl)
      (x := ([.nil], [], [])) (by kernel_rfl) rfl (by kernel_rfl)) ?_
  intro W base args ds gs before hval hW _ hk _
  exact handlesRun_contract H enc W base args ds gs before hval hW (of_decide_eq_true hk)
/-- THE STATEMENT. -/
theorem handlesRun_holds : Rows.HandlesRunUptoSaid :=
  OpenClaim.holds_of_cond 3 Try.f3 rfl rfl rfl rfl rfl rfl rfl ⟨rfl, rfl, rfl, rfl, rfl⟩ rfl rfl rfl rfl rfl (by kernel_rfl) Try.func3 (by kernel_rfl)
    (of_decide_eq_true (by kernel_rfl)) (by unfold Func.isWrapper; first | (rw [if_pos (by decide +kernel)]; kernel_rfl) | (rw [if_neg (by decide +kernel)]; exact ⟨rfl, rfl⟩))
    (fun os started H enc _ F => handlesRun_lifted os started H enc F)

end Go.Proofs.Ytodndiioekjjoaa
