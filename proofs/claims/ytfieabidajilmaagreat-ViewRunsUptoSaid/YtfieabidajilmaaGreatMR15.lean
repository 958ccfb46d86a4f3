/-
  ViewRuns: what the program computes. By an AI agent.
-/
import Derived.Test.YtfieabidajilmaaGreatMR14
import Derived.Test.YtfieabidajilmaaGreatMR11
namespace Go.Proofs.YtfieabidajilmaaGreat
open Aml Go Go.RowKit Go.ChangeShapes
set_option linter.unusedVariables false
set_option linter.unusedSimpArgs false
set_option maxRecDepth 100000
set_option maxHeartbeats 4000000 in
theorem pairsW (w0 : W0) (l : List C) (S : St) (hl : l.length ≤ 1048576) : ACall Tryz.prog w0 24 [.sl 2 false (l.map dKV), .sl 4 false ((l.map bareC).map dC)] S (fun d S' => d = dB true ∧ S' = S) := by
  refine fnS [] mx Tryz.func24 rfl rfl (by kernel_rfl) ?_; simp (maxDischargeDepth := 12) (maxSteps := 1000000) -implicitDefEqProofs only [Tryz.ntmps24, go_sem, Nat.reduceAdd, Nat.reduceSub, Nat.reduceMul, Nat.reduceLeDiff, Nat.reduceEqDiff, Nat.reduceGT, Nat.reduceBEq, reduceCtorEq, ↓reduceIte, Int.reduceToNat, Int.reduceLE, Int.reduceLT, Int.reduceNe, Int.reduceEq]
  refine loopN [] l.length [0, 1, 5] (fun k => [(5, dI k)]) (fun _ => S) (fun _ => True) mx (by kernel_rfl) ?_ ?_
  · simp (maxDischargeDepth := 12) (maxSteps := 1000000) -implicitDefEqProofs only [go_sem, Nat.reduceAdd, Nat.reduceSub, Nat.reduceMul, Nat.reduceLeDiff, Nat.reduceEqDiff, Nat.reduceGT, Nat.reduceBEq, reduceCtorEq, ↓reduceIte, Int.reduceToNat, Int.reduceLE, Int.reduceLT, Int.reduceNe, Int.reduceEq]
  · intro k hk _
    simp (maxDischargeDepth := 12) (maxSteps := 1000000) -implicitDefEqProofs only [go_sem, Nat.reduceAdd, Nat.reduceSub, Nat.reduceMul, Nat.reduceLeDiff, Nat.reduceEqDiff, Nat.reduceGT, Nat.reduceBEq, reduceCtorEq, ↓reduceIte, Int.reduceToNat, Int.reduceLE, Int.reduceLT, Int.reduceNe, Int.reduceEq]
    refine fun hlt => ⟨hlt, fun a ha => ⟨hlt, fun a2 ha2 => ?_⟩⟩
    cases getE ha ha2
    refine ⟨fun h => (by rw [show (bareC a).key = a.key from rfl, eqS_self] at h; cases h), fun _ => ⟨hlt, fun a3 ha3 => ⟨hlt, fun a4 ha4 => ?_⟩⟩⟩
    cases getE ha ha3
    cases getE ha ha4
    exact ⟨fun _ => ⟨hlt, i_oneV k (by omega)⟩, fun h => by rw [show (bareC a).data = a.data from rfl, eqS_self] at h; cases h⟩
@[go_sem] def rV (q : N × List C) : List DV := [dI q.1.page, dB q.1.leaf, .sl 4 false (q.1.l.map dC), .sl 4 false (q.2.map dBl)]
set_option maxHeartbeats 8000000 in
theorem runsW (w0 : W0) (l : List Sv) (S : St) (hl : l.length ≤ 1048576) : ACall Tryz.prog w0 3 [.sl 5 false (l.map dSv)] S (fun d S' => d = dB true ∧ S' = S) := by
  have hsm := fun S => smallW w0 l S hl
  refine fnS [23,24,43] mx Tryz.func3 rfl rfl (by kernel_rfl) ?_; simp (maxDischargeDepth := 12) (maxSteps := 1000000) -implicitDefEqProofs only [Tryz.ntmps3, go_sem, Nat.reduceAdd, Nat.reduceSub, Nat.reduceMul, Nat.reduceLeDiff, Nat.reduceEqDiff, Nat.reduceGT, Nat.reduceBEq, reduceCtorEq, ↓reduceIte, Int.reduceToNat, Int.reduceLE, Int.reduceLT, Int.reduceNe, Int.reduceEq]
  refine use1 (awakeW w0 _) ?_
  simp (maxDischargeDepth := 12) (maxSteps := 1000000) -implicitDefEqProofs only [go_sem, Nat.reduceAdd, Nat.reduceSub, Nat.reduceMul, Nat.reduceLeDiff, Nat.reduceEqDiff, Nat.reduceGT, Nat.reduceBEq, reduceCtorEq, ↓reduceIte, Int.reduceToNat, Int.reduceLE, Int.reduceLT, Int.reduceNe, Int.reduceEq]
  refine use1 (hsm _) ?_
  cases hs : smallL l with
  | false => simp (maxDischargeDepth := 12) (maxSteps := 1000000) -implicitDefEqProofs only [go_sem, Nat.reduceAdd, Nat.reduceSub, Nat.reduceMul, Nat.reduceLeDiff, Nat.reduceEqDiff, Nat.reduceGT, Nat.reduceBEq, reduceCtorEq, ↓reduceIte, Int.reduceToNat, Int.reduceLE, Int.reduceLT, Int.reduceNe, Int.reduceEq]
  | true =>
    have hs2 := hs
    unfold smallL at hs2
    rw [Bool.and_eq_true, decide_eq_true_eq] at hs2
    obtain ⟨hall, hl100⟩ := hs2
    simp (maxDischargeDepth := 12) (maxSteps := 1000000) -implicitDefEqProofs only [go_sem, Nat.reduceAdd, Nat.reduceSub, Nat.reduceMul, Nat.reduceLeDiff, Nat.reduceEqDiff, Nat.reduceGT, Nat.reduceBEq, reduceCtorEq, ↓reduceIte, Int.reduceToNat, Int.reduceLE, Int.reduceLT, Int.reduceNe, Int.reduceEq]
    refine use1 (emptyV w0 _) ?_
    simp (maxDischargeDepth := 12) (maxSteps := 1000000) -implicitDefEqProofs only [go_sem, Nat.reduceAdd, Nat.reduceSub, Nat.reduceMul, Nat.reduceLeDiff, Nat.reduceEqDiff, Nat.reduceGT, Nat.reduceBEq, reduceCtorEq, ↓reduceIte, Int.reduceToNat, Int.reduceLE, Int.reduceLT, Int.reduceNe, Int.reduceEq]
    intro bv
    refine use1 (rEmV w0 _) ?_
    simp (maxDischargeDepth := 12) (maxSteps := 1000000) -implicitDefEqProofs only [go_sem, Nat.reduceAdd, Nat.reduceSub, Nat.reduceMul, Nat.reduceLeDiff, Nat.reduceEqDiff, Nat.reduceGT, Nat.reduceBEq, reduceCtorEq, ↓reduceIte, Int.reduceToNat, Int.reduceLE, Int.reduceLT, Int.reduceNe, Int.reduceEq]
    intro bw
    refine loopK [23, 24, 43, 1002] [0, 5, 6, 7] (fun s : Nat × (N × List C) => [(7, dI s.1)]) (fun s => ⟨(bw.n, rV s.2) :: (bv.n, cV s.2) :: S.box, S.acc⟩) (fun s => s.1 ≤ l.length ∧ VI s.1 s.2.1 s.2.2) (fun s => l.length - s.1) (0, (emN, [])) mx (by kernel_rfl) ?_ ?_
    · simp (maxDischargeDepth := 12) (maxSteps := 1000000) -implicitDefEqProofs only [go_sem, Nat.reduceAdd, Nat.reduceSub, Nat.reduceMul, Nat.reduceLeDiff, Nat.reduceEqDiff, Nat.reduceGT, Nat.reduceBEq, reduceCtorEq, ↓reduceIte, Int.reduceToNat, Int.reduceLE, Int.reduceLT, Int.reduceNe, Int.reduceEq]
      exact ⟨Nat.zero_le _, vi_em 0⟩
    · rintro ⟨k, q⟩ ⟨h1, h2⟩
      simp only at h1 h2
      simp (maxDischargeDepth := 12) (maxSteps := 1000000) -implicitDefEqProofs only [go_sem, Nat.reduceAdd, Nat.reduceSub, Nat.reduceMul, Nat.reduceLeDiff, Nat.reduceEqDiff, Nat.reduceGT, Nat.reduceBEq, reduceCtorEq, ↓reduceIte, Int.reduceToNat, Int.reduceLE, Int.reduceLT, Int.reduceNe, Int.reduceEq]
      intro hlt
      refine ⟨hlt, fun a ha b8 => ?_⟩
      have hok : okS a = true := List.all_eq_true.1 hall a (List.mem_of_getElem? ha)
      unfold okS at hok
      rw [Bool.and_eq_true, Bool.and_eq_true, decide_eq_true_eq, decide_eq_true_eq, decide_eq_true_eq] at hok
      have g1 := vi_st h2 (by omega) a
      have wq0 := fun (e : a.op = 0) S => makeV w0 k a.name q.1 q.2 S h2 (by omega)
      have wq1 := fun (e : a.op = 1) S => dropV w0 k a.name q.1 q.2 S h2 (by omega)
      have wq2 := fun (e : a.op = 2) S => putV w0 k a.name a.key (vaS a) q.1 q.2 S h2 (by omega)
      have wq3 := fun (e : a.op = 3) S => deleteV w0 k a.name a.key q.1 q.2 S h2 (by omega)
      have wr0 := fun (e : a.op = 0) S => rMake w0 k a.name q.1 q.2 S h2 (by omega)
      have wr1 := fun (e : a.op = 1) S => rDrop w0 k a.name q.1 q.2 S h2 (by omega)
      have wr2 := fun (e : a.op = 2) S => rPut w0 k a.name a.key (vaS a) q.1 q.2 S h2 (by omega)
      have wr3 := fun (e : a.op = 3) S => rDel w0 k a.name a.key q.1 q.2 S h2 (by omega)
      simp +contextual only [st0, st1, st2, st3] at wq0 wq1 wq2 wq3 wr0 wr1 wr2 wr3
      have sq4 := fun a0 a1 a2 a3 => st4 (s := a) (q := q) a0 a1 a2 a3
      have wva := fun S => valueW w0 a S (by omega)
      have wgq := fun S => getV w0 k a.name a.key q.1 q.2 S h2 (by omega)
      have wgr := fun S => rGet w0 k a.name a.key q.1 q.2 S h2 (by omega)
      have wsq := fun S => scanA w0 k a.name a.key a.size q.1 q.2 S h2 (by omega) (by omega)
      have wsr := fun S => rScan w0 k a.name a.key a.size q.1 q.2 S h2 (by omega) (by omega)
      have hT : (scV a.name a.key a.size q.2).1.length ≤ 1048576 := by
        rw [sc_at h2.rise]
        cases atV a.name q.2 with
        | none => exact Nat.zero_le _
        | some t => simp only [List.length_take]; omega
      have wpa := fun S => pairsW w0 (scV a.name a.key a.size q.2).1 S hT
      generalize stV a q = Q at *
      generalize geV a.name a.key q.2 = G at *
      generalize scV a.name a.key a.size q.2 = T at *
      refine cutK (σ := Int) [23, 24, 43] [0, 5, 6, 7, 8, 9, 10] (fun e => [(9, dI e), (10, dI e)]) (fun _ => ⟨(b8.n, [dI a.op, dS a.name, dS a.key, .v (.int .u8 a.byte), dI a.size]) :: (bw.n, rV Q.1) :: (bv.n, cV Q.1) :: S.box, S.acc⟩) (fun _ => True) mx (by kernel_rfl) ?_ ?_
      · simp (maxDischargeDepth := 12) (maxSteps := 1000000) -implicitDefEqProofs only [go_sem, Nat.reduceAdd, Nat.reduceSub, Nat.reduceMul, Nat.reduceLeDiff, Nat.reduceEqDiff, Nat.reduceGT, Nat.reduceBEq, reduceCtorEq, ↓reduceIte, Int.reduceToNat, Int.reduceLE, Int.reduceLT, Int.reduceNe, Int.reduceEq]
        refine ⟨fun o0 => ?_, fun o0 => ⟨fun o1 => ?_, fun o1 => ⟨fun o2 => ?_, fun o2 => ⟨fun o3 => ?_, fun o3 => ?_⟩⟩⟩⟩
        · refine use1 (wq0 o0 _) ?_
          simp (maxDischargeDepth := 12) (maxSteps := 1000000) -implicitDefEqProofs only [go_sem, Nat.reduceAdd, Nat.reduceSub, Nat.reduceMul, Nat.reduceLeDiff, Nat.reduceEqDiff, Nat.reduceGT, Nat.reduceBEq, reduceCtorEq, ↓reduceIte, Int.reduceToNat, Int.reduceLE, Int.reduceLT, Int.reduceNe, Int.reduceEq]
          refine use1 (wr0 o0 _) ?_
          simp (maxDischargeDepth := 12) (maxSteps := 1000000) -implicitDefEqProofs only [go_sem, Nat.reduceAdd, Nat.reduceSub, Nat.reduceMul, Nat.reduceLeDiff, Nat.reduceEqDiff, Nat.reduceGT, Nat.reduceBEq, reduceCtorEq, ↓reduceIte, Int.reduceToNat, Int.reduceLE, Int.reduceLT, Int.reduceNe, Int.reduceEq]
          exact ⟨Q.2, rfl⟩
        · refine use1 (wq1 o1 _) ?_
          simp (maxDischargeDepth := 12) (maxSteps := 1000000) -implicitDefEqProofs only [go_sem, Nat.reduceAdd, Nat.reduceSub, Nat.reduceMul, Nat.reduceLeDiff, Nat.reduceEqDiff, Nat.reduceGT, Nat.reduceBEq, reduceCtorEq, ↓reduceIte, Int.reduceToNat, Int.reduceLE, Int.reduceLT, Int.reduceNe, Int.reduceEq]
          refine use1 (wr1 o1 _) ?_
          simp (maxDischargeDepth := 12) (maxSteps := 1000000) -implicitDefEqProofs only [go_sem, Nat.reduceAdd, Nat.reduceSub, Nat.reduceMul, Nat.reduceLeDiff, Nat.reduceEqDiff, Nat.reduceGT, Nat.reduceBEq, reduceCtorEq, ↓reduceIte, Int.reduceToNat, Int.reduceLE, Int.reduceLT, Int.reduceNe, Int.reduceEq]
          exact ⟨Q.2, rfl⟩
        · refine lexK mx (by kernel_rfl) ?_
          simp (maxDischargeDepth := 12) (maxSteps := 1000000) -implicitDefEqProofs only [go_sem, Nat.reduceAdd, Nat.reduceSub, Nat.reduceMul, Nat.reduceLeDiff, Nat.reduceEqDiff, Nat.reduceGT, Nat.reduceBEq, reduceCtorEq, ↓reduceIte, Int.reduceToNat, Int.reduceLE, Int.reduceLT, Int.reduceNe, Int.reduceEq]
          refine useX (fun B hB => wva _) ?_
          simp (maxDischargeDepth := 12) (maxSteps := 1000000) -implicitDefEqProofs only [go_sem, Nat.reduceAdd, Nat.reduceSub, Nat.reduceMul, Nat.reduceLeDiff, Nat.reduceEqDiff, Nat.reduceGT, Nat.reduceBEq, reduceCtorEq, ↓reduceIte, Int.reduceToNat, Int.reduceLE, Int.reduceLT, Int.reduceNe, Int.reduceEq]
          refine useX (fun B hB => wq2 o2 _) ?_
          simp (maxDischargeDepth := 12) (maxSteps := 1000000) -implicitDefEqProofs only [go_sem, Nat.reduceAdd, Nat.reduceSub, Nat.reduceMul, Nat.reduceLeDiff, Nat.reduceEqDiff, Nat.reduceGT, Nat.reduceBEq, reduceCtorEq, ↓reduceIte, Int.reduceToNat, Int.reduceLE, Int.reduceLT, Int.reduceNe, Int.reduceEq]
          refine lexK mx (by kernel_rfl) ?_
          simp (maxDischargeDepth := 12) (maxSteps := 1000000) -implicitDefEqProofs only [go_sem, Nat.reduceAdd, Nat.reduceSub, Nat.reduceMul, Nat.reduceLeDiff, Nat.reduceEqDiff, Nat.reduceGT, Nat.reduceBEq, reduceCtorEq, ↓reduceIte, Int.reduceToNat, Int.reduceLE, Int.reduceLT, Int.reduceNe, Int.reduceEq]
          refine useX (fun B hB => wva _) ?_
          simp (maxDischargeDepth := 12) (maxSteps := 1000000) -implicitDefEqProofs only [go_sem, Nat.reduceAdd, Nat.reduceSub, Nat.reduceMul, Nat.reduceLeDiff, Nat.reduceEqDiff, Nat.reduceGT, Nat.reduceBEq, reduceCtorEq, ↓reduceIte, Int.reduceToNat, Int.reduceLE, Int.reduceLT, Int.reduceNe, Int.reduceEq]
          refine useX (fun B hB => wr2 o2 _) ?_
          simp (maxDischargeDepth := 12) (maxSteps := 1000000) -implicitDefEqProofs only [go_sem, Nat.reduceAdd, Nat.reduceSub, Nat.reduceMul, Nat.reduceLeDiff, Nat.reduceEqDiff, Nat.reduceGT, Nat.reduceBEq, reduceCtorEq, ↓reduceIte, Int.reduceToNat, Int.reduceLE, Int.reduceLT, Int.reduceNe, Int.reduceEq]
          exact ⟨Q.2, rfl⟩
        · refine use1 (wq3 o3 _) ?_
          simp (maxDischargeDepth := 12) (maxSteps := 1000000) -implicitDefEqProofs only [go_sem, Nat.reduceAdd, Nat.reduceSub, Nat.reduceMul, Nat.reduceLeDiff, Nat.reduceEqDiff, Nat.reduceGT, Nat.reduceBEq, reduceCtorEq, ↓reduceIte, Int.reduceToNat, Int.reduceLE, Int.reduceLT, Int.reduceNe, Int.reduceEq]
          refine use1 (wr3 o3 _) ?_
          simp (maxDischargeDepth := 12) (maxSteps := 1000000) -implicitDefEqProofs only [go_sem, Nat.reduceAdd, Nat.reduceSub, Nat.reduceMul, Nat.reduceLeDiff, Nat.reduceEqDiff, Nat.reduceGT, Nat.reduceBEq, reduceCtorEq, ↓reduceIte, Int.reduceToNat, Int.reduceLE, Int.reduceLT, Int.reduceNe, Int.reduceEq]
          exact ⟨Q.2, rfl⟩
        · rw [sq4 o0 o1 o2 o3]
          refine ⟨fun o4 => use1 (wgq _) ?_, fun o4 => ⟨fun o5 => use1 (wsq _) ?_, fun o5 => ⟨0, rfl, .refl _⟩⟩⟩
          · simp (maxDischargeDepth := 12) (maxSteps := 1000000) -implicitDefEqProofs only [go_sem, Nat.reduceAdd, Nat.reduceSub, Nat.reduceMul, Nat.reduceLeDiff, Nat.reduceEqDiff, Nat.reduceGT, Nat.reduceBEq, reduceCtorEq, ↓reduceIte, Int.reduceToNat, Int.reduceLE, Int.reduceLT, Int.reduceNe, Int.reduceEq]
            refine use1 (wgr _) ?_
            simp (maxDischargeDepth := 12) (maxSteps := 1000000) -implicitDefEqProofs only [go_sem, Nat.reduceAdd, Nat.reduceSub, Nat.reduceMul, Nat.reduceLeDiff, Nat.reduceEqDiff, Nat.reduceGT, Nat.reduceBEq, reduceCtorEq, ↓reduceIte, Int.reduceToNat, Int.reduceLE, Int.reduceLT, Int.reduceNe, Int.reduceEq]
            refine ⟨fun _ => ⟨G.2, rfl⟩, fun h => by rw [eqS_self] at h; cases h⟩
          · simp (maxDischargeDepth := 12) (maxSteps := 1000000) -implicitDefEqProofs only [go_sem, Nat.reduceAdd, Nat.reduceSub, Nat.reduceMul, Nat.reduceLeDiff, Nat.reduceEqDiff, Nat.reduceGT, Nat.reduceBEq, reduceCtorEq, ↓reduceIte, Int.reduceToNat, Int.reduceLE, Int.reduceLT, Int.reduceNe, Int.reduceEq]
            refine use1 (wsr _) ?_
            simp (maxDischargeDepth := 12) (maxSteps := 1000000) -implicitDefEqProofs only [go_sem, Nat.reduceAdd, Nat.reduceSub, Nat.reduceMul, Nat.reduceLeDiff, Nat.reduceEqDiff, Nat.reduceGT, Nat.reduceBEq, reduceCtorEq, ↓reduceIte, Int.reduceToNat, Int.reduceLE, Int.reduceLT, Int.reduceNe, Int.reduceEq]
            refine use1 (wpa _) ?_
            simp (maxDischargeDepth := 12) (maxSteps := 1000000) -implicitDefEqProofs only [go_sem, Nat.reduceAdd, Nat.reduceSub, Nat.reduceMul, Nat.reduceLeDiff, Nat.reduceEqDiff, Nat.reduceGT, Nat.reduceBEq, reduceCtorEq, ↓reduceIte, Int.reduceToNat, Int.reduceLE, Int.reduceLT, Int.reduceNe, Int.reduceEq]
            exact ⟨T.2, rfl⟩
      · intro e _
        have wpl := fun S => plainV w0 (k + 1) Q.1.1 Q.1.2 S g1 (by omega)
        have wsm := fun S => sameL w0 (k + 1) Q.1.1 Q.1.2 S g1 (by omega)
        clear wq0 wq1 wq2 wq3 wr0 wr1 wr2 wr3 wgq wgr wsq wsr wpa sq4
        refine lexK mx (by kernel_rfl) ?_
        simp (maxDischargeDepth := 12) (maxSteps := 1000000) -implicitDefEqProofs only [go_sem, Nat.reduceAdd, Nat.reduceSub, Nat.reduceMul, Nat.reduceLeDiff, Nat.reduceEqDiff, Nat.reduceGT, Nat.reduceBEq, reduceCtorEq, ↓reduceIte, Int.reduceToNat, Int.reduceLE, Int.reduceLT, Int.reduceNe, Int.reduceEq]
        refine useX (fun B hB => wpl _) ?_
        simp (maxDischargeDepth := 12) (maxSteps := 1000000) -implicitDefEqProofs only [go_sem, Nat.reduceAdd, Nat.reduceSub, Nat.reduceMul, Nat.reduceLeDiff, Nat.reduceEqDiff, Nat.reduceGT, Nat.reduceBEq, reduceCtorEq, ↓reduceIte, Int.reduceToNat, Int.reduceLE, Int.reduceLT, Int.reduceNe, Int.reduceEq]
        refine useX (fun B hB => wsm _) ?_
        simp (maxDischargeDepth := 12) (maxSteps := 1000000) -implicitDefEqProofs only [go_sem, Nat.reduceAdd, Nat.reduceSub, Nat.reduceMul, Nat.reduceLeDiff, Nat.reduceEqDiff, Nat.reduceGT, Nat.reduceBEq, reduceCtorEq, ↓reduceIte, Int.reduceToNat, Int.reduceLE, Int.reduceLT, Int.reduceNe, Int.reduceEq]
        exact ⟨(k + 1, Q.1), ⟨by simp only; omega, g1⟩, by simp only; omega, i_oneV k (by omega), ⟨List.sublist_cons_self _ _, List.Sublist.refl _⟩⟩
theorem viewRuns_own : ownKnob Tryz.prog.godebug = none := by kernel_rfl
set_option maxHeartbeats 1000000 in
theorem viewRuns_contract (H : Type) (enc : TypeId × Value → H) (W : World) (base : Nat) (args : Array Value) (ds gs : List (DataW H)) (before : List MemPlace)
    (hval : ∀ (j : Nat) t v, Tryz.f3.params[j]? = some t → args[j]? = some v → Value.okWide Tryz.prog W .any base t v)
    (hW : DataW.Whole enc Tryz.prog Tryz.f3.params.toList Rows.viewRunsSpec.vars false W args.toList ds gs before) (hk : Rows.uptoBulkAll (ds ++ gs) ≤ 1048576) :
    Calls Tryz.prog 3 args W fun e W' => ∃ v, e = .returned v ∧ Rows.viewRunsSpec.post enc Tryz.prog Tryz.f3 false true false false W args v W' :=
  law_contract enc (ts := [22]) (tb := 4) (rdA_one rdSvs (by kernel_rfl) rdA_nil) Tryz.params3 rfl Tryz.underlying4 rfl (by kernel_rfl) (by intro t ht; revert t; decide +kernel) (fun ds hd => by
    first
    | (match ds, hd with | [_], _ => rfl)
    | (match ds, hd with | [_, _], _ => rfl)
    | (match ds, hd with | [_, _, _], _ => rfl)
    | (match ds, hd with | [_, _, _, _], _ => rfl)) (fun a ha hs => (runsW W a.1 ⟨[], []⟩ (by omega)).mono fun d S' h => h.1) base args ds gs before hval hW hk
set_option maxRecDepth 100000 in
theorem viewRuns_lifted (os : Os) (started : os.Started) (H : Type) (enc : TypeId × Value → H) (F : Stop.Interp) :
    ReturnsInHanded {} Tryz.checked os 3 .any ((Rows.OpenSpec.upto Rows.viewRunsSpec).pre6 enc Tryz.prog Tryz.f3 Rows.viewRunsUptoRow.domain false) (((Rows.OpenSpec.upto Rows.viewRunsSpec).at F).post enc Tryz.prog Tryz.f3 false true false false) := by
  refine returnsInHanded_of_cond (C := Tryz.checked) (s := Rows.OpenSpec.upto Rows.viewRunsSpec) (k := Rows.uptoSmall) rfl viewRuns_own started (by kernel_rfl) Tryz.func3
    (OpenSpec.witness (enc := enc) (C := Tryz.checked) (s := Rows.OpenSpec.upto Rows.viewRunsSpec) (k := Rows.uptoSmall) rfl false ⟨#[], #[.slice none 0 0], []⟩ 8 (by kernel_rfl) (by kernel_rfl) (by kernel_rfl)
      (x := ([.nil], [], [])) (by kernel_rfl) rfl (by kernel_rfl)) ?_
  intro W base args ds gs before hval hW _ hk _
  exact viewRuns_contract H enc W base args ds gs before hval hW (of_decide_eq_true hk)
/-- THE STATEMENT. -/
theorem viewRuns_holds : Rows.ViewRunsUptoSaid :=
  OpenClaim.holds_of_cond 3 Tryz.f3 rfl rfl rfl rfl rfl rfl rfl ⟨rfl, rfl, rfl, rfl, rfl⟩ rfl rfl rfl rfl rfl (by kernel_rfl) Tryz.func3 (by kernel_rfl)
    (of_decide_eq_true (by kernel_rfl)) (by unfold Func.isWrapper; first | (rw [if_pos (by decide +kernel)]; kernel_rfl) | (rw [if_neg (by decide +kernel)]; exact ⟨rfl, rfl⟩))
    (fun os started H enc _ F => viewRuns_lifted os started H enc F)

end Go.Proofs.YtfieabidajilmaaGreat
