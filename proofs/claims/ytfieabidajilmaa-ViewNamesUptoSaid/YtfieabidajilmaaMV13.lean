/-
  ViewNames. By an AI agent.
-/
import Derived.Test.YtfieabidajilmaaMV12
import Derived.Test.YtfieabidajilmaaMV11
namespace Go.Proofs.Ytfieabidajilmaa
open Aml Go
set_option linter.unusedVariables false
set_option linter.unusedSimpArgs false
set_option maxRecDepth 100000
theorem tbCheck (w0 : W0) {k : Nat} {n : N} (h : TB k n) (hz : PZ n) (hk : k ≤ 200) (S : St) : ACall Try.prog w0 23 [eT n] S (fun e S' => e = dB true ∧ S' = S) := by
  obtain ⟨hr, d, hg, hd, ht⟩ := h
  refine checkW w0 n S hr hz fun e he => ?_
  have := nd_inj he (good_nd hg)
  omega
theorem tbEntries (w0 : W0) {k : Nat} {n : N} (h : TB k n) (hk : k ≤ 200) (S : St) : ACall Try.prog w0 21 [eN n] S (fun e S' => e = .sl 4 false ((entsN n).map dC) ∧ S' = S) := by
  obtain ⟨hr, d, hg, hd, ht⟩ := h
  exact entriesW w0 d n S (good_nd hg) (by omega)
set_option maxHeartbeats 8000000 in
theorem namesW (w0 : W0) (l : List Sv) (S : St) (hl : l.length ≤ 1048576) : ACall Try.prog w0 5 [.sl 5 false (l.map dSv)] S (fun d S' => d = dB true ∧ S' = S) := by
  have hsm := fun S => smallW w0 l S hl
  refine fnS [19] mx Try.func5 rfl rfl (by kernel_rfl) ?_; simp (maxDischargeDepth := 12) (maxSteps := 1000000) -implicitDefEqProofs only [Try.ntmps5, go_sem, Nat.reduceAdd, Nat.reduceSub, Nat.reduceMul, Nat.reduceLeDiff, Nat.reduceEqDiff, Nat.reduceGT, Nat.reduceBEq, reduceCtorEq, ↓reduceIte, Int.reduceToNat, Int.reduceLE, Int.reduceLT, Int.reduceNe, Int.reduceEq]
  refine use1 (awakeW w0 _) ?_
  simp (maxDischargeDepth := 12) (maxSteps := 1000000) -implicitDefEqProofs only [go_sem, Nat.reduceAdd, Nat.reduceSub, Nat.reduceMul, Nat.reduceLeDiff, Nat.reduceEqDiff, Nat.reduceGT, Nat.reduceBEq, reduceCtorEq, ↓reduceIte, Int.reduceToNat, Int.reduceLE, Int.reduceLT, Int.reduceNe, Int.reduceEq]
  refine use1 (hsm _) ?_
  cases hs : smallL l with
  | false => simp (maxDischargeDepth := 12) (maxSteps := 1000000) -implicitDefEqProofs only [go_sem, Nat.reduceAdd, Nat.reduceSub, Nat.reduceMul, Nat.reduceLeDiff, Nat.reduceEqDiff, Nat.reduceGT, Nat.reduceBEq, reduceCtorEq, ↓reduceIte, Int.reduceToNat, Int.reduceLE, Int.reduceLT, Int.reduceNe, Int.reduceEq]
  | true =>
    have hs2 := hs
    unfold smallL at hs2
    rw [Bool.and_eq_true, decide_eq_true_eq] at hs2
    obtain ⟨hall, hl100⟩ := hs2
    simp (maxDischargeDepth := 12) (maxSteps := 1000000) -implicitDefEqProofs only [go_sem, Nat.reduceAdd, Nat.reduceSub, Nat.reduceMul, Nat.reduceLeDiff, Nat.reduceEqDiff, Nat.reduceGT, Nat.reduceBEq, reduceCtorEq, ↓reduceIte, Int.reduceToNat, Int.reduceLE, Int.reduceLT, Int.reduceNe, Int.reduceEq]
    refine use1 (emptyV w0 _) ?_
    simp (maxDischargeDepth := 12) (maxSteps := 1000000) -implicitDefEqProofs only [go_sem, Nat.reduceAdd, Nat.reduceSub, Nat.reduceMul, Nat.reduceLeDiff, Nat.reduceEqDiff, Nat.reduceGT, Nat.reduceBEq, reduceCtorEq, ↓reduceIte, Int.reduceToNat, Int.reduceLE, Int.reduceLT, Int.reduceNe, Int.reduceEq]
    intro bv
    refine loopK [19, 1002] [0, 5, 6] (fun s : Nat × (N × List C) => [(6, dI s.1)]) (fun s => ⟨(bv.n, cV s.2) :: S.box, S.acc⟩) (fun s => s.1 ≤ l.length ∧ VI s.1 s.2.1 s.2.2 ∧ PZV s.2) (fun s => l.length - s.1) (0, (emN, [])) mx (by kernel_rfl) ?_ ?_
    · simp (maxDischargeDepth := 12) (maxSteps := 1000000) -implicitDefEqProofs only [go_sem, Nat.reduceAdd, Nat.reduceSub, Nat.reduceMul, Nat.reduceLeDiff, Nat.reduceEqDiff, Nat.reduceGT, Nat.reduceBEq, reduceCtorEq, ↓reduceIte, Int.reduceToNat, Int.reduceLE, Int.reduceLT, Int.reduceNe, Int.reduceEq]
      exact ⟨Nat.zero_le _, vi_em 0, pz_emV⟩
    · rintro ⟨k, q⟩ ⟨h1, h2, h3⟩
      simp only at h1 h2 h3
      simp (maxDischargeDepth := 12) (maxSteps := 1000000) -implicitDefEqProofs only [go_sem, Nat.reduceAdd, Nat.reduceSub, Nat.reduceMul, Nat.reduceLeDiff, Nat.reduceEqDiff, Nat.reduceGT, Nat.reduceBEq, reduceCtorEq, ↓reduceIte, Int.reduceToNat, Int.reduceLE, Int.reduceLT, Int.reduceNe, Int.reduceEq]
      intro hlt
      refine ⟨hlt, fun a ha b7 => ?_⟩
      have hok : okS a = true := List.all_eq_true.1 hall a (List.mem_of_getElem? ha)
      unfold okS at hok
      rw [Bool.and_eq_true, Bool.and_eq_true, decide_eq_true_eq, decide_eq_true_eq, decide_eq_true_eq] at hok
      have g1 := vi_st h2 (by omega) a
      have g3 := pz_st h2 h3 a
      have wq0 := fun (e : a.op = 0) S => makeV w0 k a.name q.1 q.2 S h2 (by omega)
      have wq1 := fun (e : a.op = 1) S => dropV w0 k a.name q.1 q.2 S h2 (by omega)
      have wq2 := fun (e : a.op = 2) S => putV w0 k a.name a.key (vaS a) q.1 q.2 S h2 (by omega)
      have wq3 := fun (e : a.op = 3) S => deleteV w0 k a.name a.key q.1 q.2 S h2 (by omega)
      have t1 := fun (e : a.op = 1) => got_drop (key := a.key) (name := a.name) (n := q.1) (l := q.2) h2 (by omega)
      have t2 := fun (e : a.op = 2) => got_put (name := a.name) (key := a.key) (val := vaS a) (n := q.1) (l := q.2) h2 (by omega)
      have t3 := fun (e : a.op = 3) => got_del (name := a.name) (key := a.key) (n := q.1) (l := q.2) h2 (by omega)
      simp +contextual only [st0, st1, st2, st3] at wq0 wq1 wq2 wq3 t1 t2 t3
      have sq4 := fun a0 a1 a2 a3 => st4 (s := a) (q := q) a0 a1 a2 a3
      have wva := fun S => valueW w0 a S (by omega)
      generalize stV a q = Q at *
      have e33 : ¬ a.op = 2 → (if a.op = 2 then Q.2 else 33) = 33 := fun h => if_neg h
      have e34 : a.op = 2 → (if a.op = 2 then Q.2 else 33) = Q.2 := fun h => if_pos h
      refine cutK (σ := Unit) [19] [0, 5, 6, 7, 8] (fun _ => [(8, dI (if a.op = 2 then Q.2 else 33))]) (fun _ => ⟨(b7.n, [dI a.op, dS a.name, dS a.key, .v (.int .u8 a.byte), dI a.size]) :: (bv.n, cV Q.1) :: S.box, S.acc⟩) (fun _ => True) mx (by kernel_rfl) ?_ ?_
      · simp (maxDischargeDepth := 12) (maxSteps := 1000000) -implicitDefEqProofs only [go_sem, Nat.reduceAdd, Nat.reduceSub, Nat.reduceMul, Nat.reduceLeDiff, Nat.reduceEqDiff, Nat.reduceGT, Nat.reduceBEq, reduceCtorEq, ↓reduceIte, Int.reduceToNat, Int.reduceLE, Int.reduceLT, Int.reduceNe, Int.reduceEq]
        refine ⟨fun o0 => ?_, fun o0 => ⟨fun o1 => ?_, fun o1 => ⟨fun o2 => ?_, fun o2 => ⟨fun o3 => ?_, fun o3 => ?_⟩⟩⟩⟩
        · refine use1 (wq0 o0 _) ?_
          rw [e33 (by omega)]
          simp (maxDischargeDepth := 12) (maxSteps := 1000000) -implicitDefEqProofs only [go_sem, Nat.reduceAdd, Nat.reduceSub, Nat.reduceMul, Nat.reduceLeDiff, Nat.reduceEqDiff, Nat.reduceGT, Nat.reduceBEq, reduceCtorEq, ↓reduceIte, Int.reduceToNat, Int.reduceLE, Int.reduceLT, Int.reduceNe, Int.reduceEq]
          exact ⟨(), trivial⟩
        · refine use1 (wq1 o1 _) ?_
          rw [e33 (by omega)]
          simp (maxDischargeDepth := 12) (maxSteps := 1000000) -implicitDefEqProofs only [go_sem, Nat.reduceAdd, Nat.reduceSub, Nat.reduceMul, Nat.reduceLeDiff, Nat.reduceEqDiff, Nat.reduceGT, Nat.reduceBEq, reduceCtorEq, ↓reduceIte, Int.reduceToNat, Int.reduceLE, Int.reduceLT, Int.reduceNe, Int.reduceEq]
          exact ⟨(), trivial⟩
        · refine lexK mx (by kernel_rfl) ?_
          simp (maxDischargeDepth := 12) (maxSteps := 1000000) -implicitDefEqProofs only [go_sem, Nat.reduceAdd, Nat.reduceSub, Nat.reduceMul, Nat.reduceLeDiff, Nat.reduceEqDiff, Nat.reduceGT, Nat.reduceBEq, reduceCtorEq, ↓reduceIte, Int.reduceToNat, Int.reduceLE, Int.reduceLT, Int.reduceNe, Int.reduceEq]
          refine useX (fun B hB => wva _) ?_
          simp (maxDischargeDepth := 12) (maxSteps := 1000000) -implicitDefEqProofs only [go_sem, Nat.reduceAdd, Nat.reduceSub, Nat.reduceMul, Nat.reduceLeDiff, Nat.reduceEqDiff, Nat.reduceGT, Nat.reduceBEq, reduceCtorEq, ↓reduceIte, Int.reduceToNat, Int.reduceLE, Int.reduceLT, Int.reduceNe, Int.reduceEq]
          refine useX (fun B hB => wq2 o2 _) ?_
          rw [e34 o2]
          simp (maxDischargeDepth := 12) (maxSteps := 1000000) -implicitDefEqProofs only [go_sem, Nat.reduceAdd, Nat.reduceSub, Nat.reduceMul, Nat.reduceLeDiff, Nat.reduceEqDiff, Nat.reduceGT, Nat.reduceBEq, reduceCtorEq, ↓reduceIte, Int.reduceToNat, Int.reduceLE, Int.reduceLT, Int.reduceNe, Int.reduceEq]
          exact ⟨(), trivial⟩
        · refine use1 (wq3 o3 _) ?_
          rw [e33 (by omega)]
          simp (maxDischargeDepth := 12) (maxSteps := 1000000) -implicitDefEqProofs only [go_sem, Nat.reduceAdd, Nat.reduceSub, Nat.reduceMul, Nat.reduceLeDiff, Nat.reduceEqDiff, Nat.reduceGT, Nat.reduceBEq, reduceCtorEq, ↓reduceIte, Int.reduceToNat, Int.reduceLE, Int.reduceLT, Int.reduceNe, Int.reduceEq]
          exact ⟨(), trivial⟩
        · rw [e33 o2, sq4 o0 o1 o2 o3]
          simp (maxDischargeDepth := 12) (maxSteps := 1000000) -implicitDefEqProofs only [go_sem, Nat.reduceAdd, Nat.reduceSub, Nat.reduceMul, Nat.reduceLeDiff, Nat.reduceEqDiff, Nat.reduceGT, Nat.reduceBEq, reduceCtorEq, ↓reduceIte, Int.reduceToNat, Int.reduceLE, Int.reduceLT, Int.reduceNe, Int.reduceEq]
          exact ⟨(), trivial⟩
      · intro _ _
        have wg := fun S => getV w0 (k + 1) a.name a.key Q.1.1 Q.1.2 S g1 (by omega)
        have wn := fun S => tbNode w0 g1.dir (by omega) S
        have we := fun S => tbEntries w0 g1.dir (by omega) S
        rw [ents_dir g1] at we
        have wc := fun S => tbCheck w0 g1.dir g3.1 (by omega) S
        have wk := fun c (hc : c ∈ Q.1.2) S => tbCheck w0 (g1.cell c hc).2.1 (g3.2 c hc) (by omega) S
        have hrise := g1.rise
        have hln := g1.len
        clear wq0 wq1 wq2 wq3 sq4 e33 e34
        generalize geV a.name a.key Q.1.2 = G at *
        simp (maxDischargeDepth := 12) (maxSteps := 1000000) -implicitDefEqProofs only [go_sem, Nat.reduceAdd, Nat.reduceSub, Nat.reduceMul, Nat.reduceLeDiff, Nat.reduceEqDiff, Nat.reduceGT, Nat.reduceBEq, reduceCtorEq, ↓reduceIte, Int.reduceToNat, Int.reduceLE, Int.reduceLT, Int.reduceNe, Int.reduceEq]
        by_cases c2 : (if a.op = 2 then Q.2 else 33) = 0
        · have o2 : a.op = 2 := Decidable.byContradiction fun h => by rw [if_neg h] at c2; cases c2
          have hq0 : Q.2 = 0 := by rw [if_pos o2] at c2; exact c2
          have hG := t2 o2 hq0
          have hc2 := eq_true c2
          have ho3 : (a.op = 3) = False := eq_false (by omega)
          have ho1 : (a.op = 1) = False := eq_false (by omega)
          have hes := eqS_self (vaS a)
          rw [hG] at wg
          refine use1 (wg _) ?_
          simp (maxDischargeDepth := 12) (maxSteps := 1000000) -implicitDefEqProofs only [go_sem, Nat.reduceAdd, Nat.reduceSub, Nat.reduceMul, Nat.reduceLeDiff, Nat.reduceEqDiff, Nat.reduceGT, Nat.reduceBEq, reduceCtorEq, ↓reduceIte, Int.reduceToNat, Int.reduceLE, Int.reduceLT, Int.reduceNe, Int.reduceEq, hc2]
          refine use1 (wva _) ?_
          simp (maxDischargeDepth := 12) (maxSteps := 1000000) -implicitDefEqProofs only [go_sem, Nat.reduceAdd, Nat.reduceSub, Nat.reduceMul, Nat.reduceLeDiff, Nat.reduceEqDiff, Nat.reduceGT, Nat.reduceBEq, reduceCtorEq, ↓reduceIte, Int.reduceToNat, Int.reduceLE, Int.reduceLT, Int.reduceNe, Int.reduceEq, hes, ho3, ho1]
          refine use1 (wn _) ?_
          simp (maxDischargeDepth := 12) (maxSteps := 1000000) -implicitDefEqProofs only [go_sem, Nat.reduceAdd, Nat.reduceSub, Nat.reduceMul, Nat.reduceLeDiff, Nat.reduceEqDiff, Nat.reduceGT, Nat.reduceBEq, reduceCtorEq, ↓reduceIte, Int.reduceToNat, Int.reduceLE, Int.reduceLT, Int.reduceNe, Int.reduceEq]
          refine use1 (we _) ?_
          simp (maxDischargeDepth := 12) (maxSteps := 1000000) -implicitDefEqProofs only [go_sem, Nat.reduceAdd, Nat.reduceSub, Nat.reduceMul, Nat.reduceLeDiff, Nat.reduceEqDiff, Nat.reduceGT, Nat.reduceBEq, reduceCtorEq, ↓reduceIte, Int.reduceToNat, Int.reduceLE, Int.reduceLT, Int.reduceNe, Int.reduceEq]
          refine use1 (wc _) ?_
          simp (maxDischargeDepth := 12) (maxSteps := 1000000) -implicitDefEqProofs only [go_sem, Nat.reduceAdd, Nat.reduceSub, Nat.reduceMul, Nat.reduceLeDiff, Nat.reduceEqDiff, Nat.reduceGT, Nat.reduceBEq, reduceCtorEq, ↓reduceIte, Int.reduceToNat, Int.reduceLE, Int.reduceLT, Int.reduceNe, Int.reduceEq]
          refine loopN [] Q.1.2.length [0, 5, 6, 11, 12] (fun j => [(12, dI j)]) (fun _ => ⟨(b7.n, [dI a.op, dS a.name, dS a.key, .v (.int .u8 a.byte), dI a.size]) :: (bv.n, cV Q.1) :: S.box, S.acc⟩) (fun _ => True) mx (by kernel_rfl) ?_ ?_
          · simp (maxDischargeDepth := 12) (maxSteps := 1000000) -implicitDefEqProofs only [go_sem, Nat.reduceAdd, Nat.reduceSub, Nat.reduceMul, Nat.reduceLeDiff, Nat.reduceEqDiff, Nat.reduceGT, Nat.reduceBEq, reduceCtorEq, ↓reduceIte, Int.reduceToNat, Int.reduceLE, Int.reduceLT, Int.reduceNe, Int.reduceEq]
          · intro j hj _
            simp (maxDischargeDepth := 12) (maxSteps := 1000000) -implicitDefEqProofs only [go_sem, Nat.reduceAdd, Nat.reduceSub, Nat.reduceMul, Nat.reduceLeDiff, Nat.reduceEqDiff, Nat.reduceGT, Nat.reduceBEq, reduceCtorEq, ↓reduceIte, Int.reduceToNat, Int.reduceLE, Int.reduceLT, Int.reduceNe, Int.reduceEq]
            refine ⟨fun hj2 => ⟨hj2, fun c hc => ⟨hj2, fun c' hc' => ?_⟩⟩, fun hj2 => ⟨(k + 1, Q.1), ⟨by simp only; omega, g1, g3⟩, by simp only; omega, i_oneV k (by omega), ⟨List.sublist_cons_self _ _, List.Sublist.refl _⟩⟩⟩
            cases getE hc hc'
            refine ⟨fun h => (by rw [show (dirC c).key = c.key from rfl, eqS_self] at h; cases h), fun _ => ⟨hj2, fun c2 hc2 => ?_⟩⟩
            cases getE hc hc2
            have fin := wk c (List.mem_of_getElem? hc)
            refine ⟨fun h => h rfl, fun _ => ⟨fun hp => ⟨hj2, fun c3 hc3 => ?_⟩, fun hp => ⟨hj2, fun c5 hc5 => ?_⟩⟩⟩
            · cases getE hc hc3
              have ej : IntKind.i64.wrap ((j : Int) - 1) = ((j - 1 : Nat) : Int) := by rw [w64 (by omega) (by omega)]; omega
              rw [ej]
              refine ⟨by omega, by omega, fun c4 hc4 => ⟨fun h => ?_, fun _ => ⟨hj2, fun c5 hc5 => ?_⟩⟩⟩
              · have := leS_no.2 (rise_at hrise (i := j - 1) (j := j) (by omega) hc4 hc)
                rw [show (dirC c).key = c.key from rfl, show (dirC c4).key = c4.key from rfl, this] at h; cases h
              · cases getE hc hc5
                refine useQ (fin _) ?_
                simp (maxDischargeDepth := 12) (maxSteps := 1000000) -implicitDefEqProofs only [go_sem, Nat.reduceAdd, Nat.reduceSub, Nat.reduceMul, Nat.reduceLeDiff, Nat.reduceEqDiff, Nat.reduceGT, Nat.reduceBEq, reduceCtorEq, ↓reduceIte, Int.reduceToNat, Int.reduceLE, Int.reduceLT, Int.reduceNe, Int.reduceEq]
                exact ⟨hj2, i_oneV j (by omega)⟩
            · cases getE hc hc5
              refine useQ (fin _) ?_
              simp (maxDischargeDepth := 12) (maxSteps := 1000000) -implicitDefEqProofs only [go_sem, Nat.reduceAdd, Nat.reduceSub, Nat.reduceMul, Nat.reduceLeDiff, Nat.reduceEqDiff, Nat.reduceGT, Nat.reduceBEq, reduceCtorEq, ↓reduceIte, Int.reduceToNat, Int.reduceLE, Int.reduceLT, Int.reduceNe, Int.reduceEq]
              exact ⟨hj2, i_oneV j (by omega)⟩
        by_cases o3 : a.op = 3
        · have hG := eq_false (t3 o3)
          have hc2 := eq_false c2
          have ho3 := eq_true o3
          have ho1 : (a.op = 1) = False := eq_false (by omega)
          refine use1 (wg _) ?_
          simp (maxDischargeDepth := 12) (maxSteps := 1000000) -implicitDefEqProofs only [go_sem, Nat.reduceAdd, Nat.reduceSub, Nat.reduceMul, Nat.reduceLeDiff, Nat.reduceEqDiff, Nat.reduceGT, Nat.reduceBEq, reduceCtorEq, ↓reduceIte, Int.reduceToNat, Int.reduceLE, Int.reduceLT, Int.reduceNe, Int.reduceEq, hc2, ho3, ho1, hG]
          refine use1 (wn _) ?_
          simp (maxDischargeDepth := 12) (maxSteps := 1000000) -implicitDefEqProofs only [go_sem, Nat.reduceAdd, Nat.reduceSub, Nat.reduceMul, Nat.reduceLeDiff, Nat.reduceEqDiff, Nat.reduceGT, Nat.reduceBEq, reduceCtorEq, ↓reduceIte, Int.reduceToNat, Int.reduceLE, Int.reduceLT, Int.reduceNe, Int.reduceEq]
          refine use1 (we _) ?_
          simp (maxDischargeDepth := 12) (maxSteps := 1000000) -implicitDefEqProofs only [go_sem, Nat.reduceAdd, Nat.reduceSub, Nat.reduceMul, Nat.reduceLeDiff, Nat.reduceEqDiff, Nat.reduceGT, Nat.reduceBEq, reduceCtorEq, ↓reduceIte, Int.reduceToNat, Int.reduceLE, Int.reduceLT, Int.reduceNe, Int.reduceEq]
          refine use1 (wc _) ?_
          simp (maxDischargeDepth := 12) (maxSteps := 1000000) -implicitDefEqProofs only [go_sem, Nat.reduceAdd, Nat.reduceSub, Nat.reduceMul, Nat.reduceLeDiff, Nat.reduceEqDiff, Nat.reduceGT, Nat.reduceBEq, reduceCtorEq, ↓reduceIte, Int.reduceToNat, Int.reduceLE, Int.reduceLT, Int.reduceNe, Int.reduceEq]
          refine loopN [] Q.1.2.length [0, 5, 6, 11, 12] (fun j => [(12, dI j)]) (fun _ => ⟨(b7.n, [dI a.op, dS a.name, dS a.key, .v (.int .u8 a.byte), dI a.size]) :: (bv.n, cV Q.1) :: S.box, S.acc⟩) (fun _ => True) mx (by kernel_rfl) ?_ ?_
          · simp (maxDischargeDepth := 12) (maxSteps := 1000000) -implicitDefEqProofs only [go_sem, Nat.reduceAdd, Nat.reduceSub, Nat.reduceMul, Nat.reduceLeDiff, Nat.reduceEqDiff, Nat.reduceGT, Nat.reduceBEq, reduceCtorEq, ↓reduceIte, Int.reduceToNat, Int.reduceLE, Int.reduceLT, Int.reduceNe, Int.reduceEq]
          · intro j hj _
            simp (maxDischargeDepth := 12) (maxSteps := 1000000) -implicitDefEqProofs only [go_sem, Nat.reduceAdd, Nat.reduceSub, Nat.reduceMul, Nat.reduceLeDiff, Nat.reduceEqDiff, Nat.reduceGT, Nat.reduceBEq, reduceCtorEq, ↓reduceIte, Int.reduceToNat, Int.reduceLE, Int.reduceLT, Int.reduceNe, Int.reduceEq]
            refine ⟨fun hj2 => ⟨hj2, fun c hc => ⟨hj2, fun c' hc' => ?_⟩⟩, fun hj2 => ⟨(k + 1, Q.1), ⟨by simp only; omega, g1, g3⟩, by simp only; omega, i_oneV k (by omega), ⟨List.sublist_cons_self _ _, List.Sublist.refl _⟩⟩⟩
            cases getE hc hc'
            refine ⟨fun h => (by rw [show (dirC c).key = c.key from rfl, eqS_self] at h; cases h), fun _ => ⟨hj2, fun c2 hc2 => ?_⟩⟩
            cases getE hc hc2
            have fin := wk c (List.mem_of_getElem? hc)
            refine ⟨fun h => h rfl, fun _ => ⟨fun hp => ⟨hj2, fun c3 hc3 => ?_⟩, fun hp => ⟨hj2, fun c5 hc5 => ?_⟩⟩⟩
            · cases getE hc hc3
              have ej : IntKind.i64.wrap ((j : Int) - 1) = ((j - 1 : Nat) : Int) := by rw [w64 (by omega) (by omega)]; omega
              rw [ej]
              refine ⟨by omega, by omega, fun c4 hc4 => ⟨fun h => ?_, fun _ => ⟨hj2, fun c5 hc5 => ?_⟩⟩⟩
              · have := leS_no.2 (rise_at hrise (i := j - 1) (j := j) (by omega) hc4 hc)
                rw [show (dirC c).key = c.key from rfl, show (dirC c4).key = c4.key from rfl, this] at h; cases h
              · cases getE hc hc5
                refine useQ (fin _) ?_
                simp (maxDischargeDepth := 12) (maxSteps := 1000000) -implicitDefEqProofs only [go_sem, Nat.reduceAdd, Nat.reduceSub, Nat.reduceMul, Nat.reduceLeDiff, Nat.reduceEqDiff, Nat.reduceGT, Nat.reduceBEq, reduceCtorEq, ↓reduceIte, Int.reduceToNat, Int.reduceLE, Int.reduceLT, Int.reduceNe, Int.reduceEq]
                exact ⟨hj2, i_oneV j (by omega)⟩
            · cases getE hc hc5
              refine useQ (fin _) ?_
              simp (maxDischargeDepth := 12) (maxSteps := 1000000) -implicitDefEqProofs only [go_sem, Nat.reduceAdd, Nat.reduceSub, Nat.reduceMul, Nat.reduceLeDiff, Nat.reduceEqDiff, Nat.reduceGT, Nat.reduceBEq, reduceCtorEq, ↓reduceIte, Int.reduceToNat, Int.reduceLE, Int.reduceLT, Int.reduceNe, Int.reduceEq]
              exact ⟨hj2, i_oneV j (by omega)⟩
        by_cases o1 : a.op = 1
        · have hG := t1 o1
          have hc2 := eq_false c2
          have ho3 := eq_false o3
          have ho1 := eq_true o1
          refine use1 (wg _) ?_
          simp (maxDischargeDepth := 12) (maxSteps := 1000000) -implicitDefEqProofs only [go_sem, Nat.reduceAdd, Nat.reduceSub, Nat.reduceMul, Nat.reduceLeDiff, Nat.reduceEqDiff, Nat.reduceGT, Nat.reduceBEq, reduceCtorEq, ↓reduceIte, Int.reduceToNat, Int.reduceLE, Int.reduceLT, Int.reduceNe, Int.reduceEq, hc2, ho3, ho1, hG]
          refine use1 (wn _) ?_
          simp (maxDischargeDepth := 12) (maxSteps := 1000000) -implicitDefEqProofs only [go_sem, Nat.reduceAdd, Nat.reduceSub, Nat.reduceMul, Nat.reduceLeDiff, Nat.reduceEqDiff, Nat.reduceGT, Nat.reduceBEq, reduceCtorEq, ↓reduceIte, Int.reduceToNat, Int.reduceLE, Int.reduceLT, Int.reduceNe, Int.reduceEq]
          refine use1 (we _) ?_
          simp (maxDischargeDepth := 12) (maxSteps := 1000000) -implicitDefEqProofs only [go_sem, Nat.reduceAdd, Nat.reduceSub, Nat.reduceMul, Nat.reduceLeDiff, Nat.reduceEqDiff, Nat.reduceGT, Nat.reduceBEq, reduceCtorEq, ↓reduceIte, Int.reduceToNat, Int.reduceLE, Int.reduceLT, Int.reduceNe, Int.reduceEq]
          refine use1 (wc _) ?_
          simp (maxDischargeDepth := 12) (maxSteps := 1000000) -implicitDefEqProofs only [go_sem, Nat.reduceAdd, Nat.reduceSub, Nat.reduceMul, Nat.reduceLeDiff, Nat.reduceEqDiff, Nat.reduceGT, Nat.reduceBEq, reduceCtorEq, ↓reduceIte, Int.reduceToNat, Int.reduceLE, Int.reduceLT, Int.reduceNe, Int.reduceEq]
          refine loopN [] Q.1.2.length [0, 5, 6, 11, 12] (fun j => [(12, dI j)]) (fun _ => ⟨(b7.n, [dI a.op, dS a.name, dS a.key, .v (.int .u8 a.byte), dI a.size]) :: (bv.n, cV Q.1) :: S.box, S.acc⟩) (fun _ => True) mx (by kernel_rfl) ?_ ?_
          · simp (maxDischargeDepth := 12) (maxSteps := 1000000) -implicitDefEqProofs only [go_sem, Nat.reduceAdd, Nat.reduceSub, Nat.reduceMul, Nat.reduceLeDiff, Nat.reduceEqDiff, Nat.reduceGT, Nat.reduceBEq, reduceCtorEq, ↓reduceIte, Int.reduceToNat, Int.reduceLE, Int.reduceLT, Int.reduceNe, Int.reduceEq]
          · intro j hj _
            simp (maxDischargeDepth := 12) (maxSteps := 1000000) -implicitDefEqProofs only [go_sem, Nat.reduceAdd, Nat.reduceSub, Nat.reduceMul, Nat.reduceLeDiff, Nat.reduceEqDiff, Nat.reduceGT, Nat.reduceBEq, reduceCtorEq, ↓reduceIte, Int.reduceToNat, Int.reduceLE, Int.reduceLT, Int.reduceNe, Int.reduceEq]
            refine ⟨fun hj2 => ⟨hj2, fun c hc => ⟨hj2, fun c' hc' => ?_⟩⟩, fun hj2 => ⟨(k + 1, Q.1), ⟨by simp only; omega, g1, g3⟩, by simp only; omega, i_oneV k (by omega), ⟨List.sublist_cons_self _ _, List.Sublist.refl _⟩⟩⟩
            cases getE hc hc'
            refine ⟨fun h => (by rw [show (dirC c).key = c.key from rfl, eqS_self] at h; cases h), fun _ => ⟨hj2, fun c2 hc2 => ?_⟩⟩
            cases getE hc hc2
            have fin := wk c (List.mem_of_getElem? hc)
            refine ⟨fun h => h rfl, fun _ => ⟨fun hp => ⟨hj2, fun c3 hc3 => ?_⟩, fun hp => ⟨hj2, fun c5 hc5 => ?_⟩⟩⟩
            · cases getE hc hc3
              have ej : IntKind.i64.wrap ((j : Int) - 1) = ((j - 1 : Nat) : Int) := by rw [w64 (by omega) (by omega)]; omega
              rw [ej]
              refine ⟨by omega, by omega, fun c4 hc4 => ⟨fun h => ?_, fun _ => ⟨hj2, fun c5 hc5 => ?_⟩⟩⟩
              · have := leS_no.2 (rise_at hrise (i := j - 1) (j := j) (by omega) hc4 hc)
                rw [show (dirC c).key = c.key from rfl, show (dirC c4).key = c4.key from rfl, this] at h; cases h
              · cases getE hc hc5
                refine useQ (fin _) ?_
                simp (maxDischargeDepth := 12) (maxSteps := 1000000) -implicitDefEqProofs only [go_sem, Nat.reduceAdd, Nat.reduceSub, Nat.reduceMul, Nat.reduceLeDiff, Nat.reduceEqDiff, Nat.reduceGT, Nat.reduceBEq, reduceCtorEq, ↓reduceIte, Int.reduceToNat, Int.reduceLE, Int.reduceLT, Int.reduceNe, Int.reduceEq]
                exact ⟨hj2, i_oneV j (by omega)⟩
            · cases getE hc hc5
              refine useQ (fin _) ?_
              simp (maxDischargeDepth := 12) (maxSteps := 1000000) -implicitDefEqProofs only [go_sem, Nat.reduceAdd, Nat.reduceSub, Nat.reduceMul, Nat.reduceLeDiff, Nat.reduceEqDiff, Nat.reduceGT, Nat.reduceBEq, reduceCtorEq, ↓reduceIte, Int.reduceToNat, Int.reduceLE, Int.reduceLT, Int.reduceNe, Int.reduceEq]
              exact ⟨hj2, i_oneV j (by omega)⟩
        · have hc2 := eq_false c2
          have ho3 := eq_false o3
          have ho1 := eq_false o1
          refine use1 (wg _) ?_
          simp (maxDischargeDepth := 12) (maxSteps := 1000000) -implicitDefEqProofs only [go_sem, Nat.reduceAdd, Nat.reduceSub, Nat.reduceMul, Nat.reduceLeDiff, Nat.reduceEqDiff, Nat.reduceGT, Nat.reduceBEq, reduceCtorEq, ↓reduceIte, Int.reduceToNat, Int.reduceLE, Int.reduceLT, Int.reduceNe, Int.reduceEq, hc2, ho3, ho1]
          refine use1 (wn _) ?_
          simp (maxDischargeDepth := 12) (maxSteps := 1000000) -implicitDefEqProofs only [go_sem, Nat.reduceAdd, Nat.reduceSub, Nat.reduceMul, Nat.reduceLeDiff, Nat.reduceEqDiff, Nat.reduceGT, Nat.reduceBEq, reduceCtorEq, ↓reduceIte, Int.reduceToNat, Int.reduceLE, Int.reduceLT, Int.reduceNe, Int.reduceEq]
          refine use1 (we _) ?_
          simp (maxDischargeDepth := 12) (maxSteps := 1000000) -implicitDefEqProofs only [go_sem, Nat.reduceAdd, Nat.reduceSub, Nat.reduceMul, Nat.reduceLeDiff, Nat.reduceEqDiff, Nat.reduceGT, Nat.reduceBEq, reduceCtorEq, ↓reduceIte, Int.reduceToNat, Int.reduceLE, Int.reduceLT, Int.reduceNe, Int.reduceEq]
          refine use1 (wc _) ?_
          simp (maxDischargeDepth := 12) (maxSteps := 1000000) -implicitDefEqProofs only [go_sem, Nat.reduceAdd, Nat.reduceSub, Nat.reduceMul, Nat.reduceLeDiff, Nat.reduceEqDiff, Nat.reduceGT, Nat.reduceBEq, reduceCtorEq, ↓reduceIte, Int.reduceToNat, Int.reduceLE, Int.reduceLT, Int.reduceNe, Int.reduceEq]
          refine loopN [] Q.1.2.length [0, 5, 6, 11, 12] (fun j => [(12, dI j)]) (fun _ => ⟨(b7.n, [dI a.op, dS a.name, dS a.key, .v (.int .u8 a.byte), dI a.size]) :: (bv.n, cV Q.1) :: S.box, S.acc⟩) (fun _ => True) mx (by kernel_rfl) ?_ ?_
          · simp (maxDischargeDepth := 12) (maxSteps := 1000000) -implicitDefEqProofs only [go_sem, Nat.reduceAdd, Nat.reduceSub, Nat.reduceMul, Nat.reduceLeDiff, Nat.reduceEqDiff, Nat.reduceGT, Nat.reduceBEq, reduceCtorEq, ↓reduceIte, Int.reduceToNat, Int.reduceLE, Int.reduceLT, Int.reduceNe, Int.reduceEq]
          · intro j hj _
            simp (maxDischargeDepth := 12) (maxSteps := 1000000) -implicitDefEqProofs only [go_sem, Nat.reduceAdd, Nat.reduceSub, Nat.reduceMul, Nat.reduceLeDiff, Nat.reduceEqDiff, Nat.reduceGT, Nat.reduceBEq, reduceCtorEq, ↓reduceIte, Int.reduceToNat, Int.reduceLE, Int.reduceLT, Int.reduceNe, Int.reduceEq]
            refine ⟨fun hj2 => ⟨hj2, fun c hc => ⟨hj2, fun c' hc' => ?_⟩⟩, fun hj2 => ⟨(k + 1, Q.1), ⟨by simp only; omega, g1, g3⟩, by simp only; omega, i_oneV k (by omega), ⟨List.sublist_cons_self _ _, List.Sublist.refl _⟩⟩⟩
            cases getE hc hc'
            refine ⟨fun h => (by rw [show (dirC c).key = c.key from rfl, eqS_self] at h; cases h), fun _ => ⟨hj2, fun c2 hc2 => ?_⟩⟩
            cases getE hc hc2
            have fin := wk c (List.mem_of_getElem? hc)
            refine ⟨fun h => h rfl, fun _ => ⟨fun hp => ⟨hj2, fun c3 hc3 => ?_⟩, fun hp => ⟨hj2, fun c5 hc5 => ?_⟩⟩⟩
            · cases getE hc hc3
              have ej : IntKind.i64.wrap ((j : Int) - 1) = ((j - 1 : Nat) : Int) := by rw [w64 (by omega) (by omega)]; omega
              rw [ej]
              refine ⟨by omega, by omega, fun c4 hc4 => ⟨fun h => ?_, fun _ => ⟨hj2, fun c5 hc5 => ?_⟩⟩⟩
              · have := leS_no.2 (rise_at hrise (i := j - 1) (j := j) (by omega) hc4 hc)
                rw [show (dirC c).key = c.key from rfl, show (dirC c4).key = c4.key from rfl, this] at h; cases h
              · cases getE hc hc5
                refine useQ (fin _) ?_
                simp (maxDischargeDepth := 12) (maxSteps := 1000000) -implicitDefEqProofs only [go_sem, Nat.reduceAdd, Nat.reduceSub, Nat.reduceMul, Nat.reduceLeDiff, Nat.reduceEqDiff, Nat.reduceGT, Nat.reduceBEq, reduceCtorEq, ↓reduceIte, Int.reduceToNat, Int.reduceLE, Int.reduceLT, Int.reduceNe, Int.reduceEq]
                exact ⟨hj2, i_oneV j (by omega)⟩
            · cases getE hc hc5
              refine useQ (fin _) ?_
              simp (maxDischargeDepth := 12) (maxSteps := 1000000) -implicitDefEqProofs only [go_sem, Nat.reduceAdd, Nat.reduceSub, Nat.reduceMul, Nat.reduceLeDiff, Nat.reduceEqDiff, Nat.reduceGT, Nat.reduceBEq, reduceCtorEq, ↓reduceIte, Int.reduceToNat, Int.reduceLE, Int.reduceLT, Int.reduceNe, Int.reduceEq]
              exact ⟨hj2, i_oneV j (by omega)⟩
end Go.Proofs.Ytfieabidajilmaa

namespace Go.Proofs.Ytfieabidajilmaa
open Aml Go Go.RowKit Go.ChangeShapes
set_option linter.unusedVariables false
set_option linter.unusedSimpArgs false
set_option maxRecDepth 100000
theorem viewNames_own : ownKnob Try.prog.godebug = none := by kernel_rfl
set_option maxHeartbeats 1000000 in
theorem viewNames_contract (H : Type) (enc : TypeId × Value → H) (W : World) (base : Nat) (args : Array Value) (ds gs : List (DataW H)) (before : List MemPlace)
    (hval : ∀ (j : Nat) t v, Try.f5.params[j]? = some t → args[j]? = some v → Value.okWide Try.prog W .any base t v)
    (hW : DataW.Whole enc Try.prog Try.f5.params.toList Rows.viewNamesSpec.vars false W args.toList ds gs before) (hk : Rows.uptoBulkAll (ds ++ gs) ≤ 1048576) :
    Calls Try.prog 5 args W fun e W' => ∃ v, e = .returned v ∧ Rows.viewNamesSpec.post enc Try.prog Try.f5 false true false false W args v W' :=
  law_contract enc (ts := [22]) (tb := 4) (rdA_one rdSvs (by kernel_rfl) rdA_nil) Try.params5 rfl Try.underlying4 rfl (by kernel_rfl) (by intro t ht; revert t; decide +kernel) (fun ds hd => by
    first
    | (match ds, hd with | [_], _ => rfl)
    | (match ds, hd with | [_, _], _ => rfl)
    | (match ds, hd with | [_, _, _], _ => rfl)
    | (match ds, hd with | [_, _, _, _], _ => rfl)) (fun a ha hs => (namesW W a.1 ⟨[], []⟩ (by omega)).mono fun d S' h => h.1) base args ds gs before hval hW hk
set_option maxRecDepth 100000 in
theorem viewNames_lifted (os : Os) (started : os.Started) (H : Type) (enc : TypeId × Value → H) (F : Stop.Interp) :
    ReturnsInHanded {} Try.checked os 5 .any ((Rows.OpenSpec.upto Rows.viewNamesSpec).pre6 enc Try.prog Try.f5 Rows.viewNamesUptoRow.domain false) (((Rows.OpenSpec.upto Rows.viewNamesSpec).at F).post enc Try.prog Try.f5 false true false false) := by
  refine returnsInHanded_of_cond (C := Try.checked) (s := Rows.OpenSpec.upto Rows.viewNamesSpec) (k := Rows.uptoSmall) rfl viewNames_own started (by kernel_rfl) Try.func5
    (OpenSpec.witness (enc := enc) (C := Try.checked) (s := Rows.OpenSpec.upto Rows.viewNamesSpec) (k := Rows.uptoSmall) rfl false ⟨#[], #[.slice none 0 0], []⟩ 8 (by kernel_rfl) (by kernel_rfl) (by kernel_rfl)
      (x := ([.nil], [], [])) (by kernel_rfl) rfl (by kernel_rfl)) ?_
  intro W base args ds gs before hval hW _ hk _
  exact viewNames_contract H enc W base args ds gs before hval hW (of_decide_eq_true hk)
/-- THE STATEMENT. -/
theorem viewNames_holds : Rows.ViewNamesUptoSaid :=
  OpenClaim.holds_of_cond 5 Try.f5 rfl rfl rfl rfl rfl rfl rfl ⟨rfl, rfl, rfl, rfl, rfl⟩ rfl rfl rfl rfl rfl (by kernel_rfl) Try.func5 (by kernel_rfl)
    (of_decide_eq_true (by kernel_rfl)) (by unfold Func.isWrapper; first | (rw [if_pos (by decide +kernel)]; kernel_rfl) | (rw [if_neg (by decide +kernel)]; exact ⟨rfl, rfl⟩))
    (fun os started H enc _ F => viewNames_lifted os started H enc F)

end Go.Proofs.Ytfieabidajilmaa
