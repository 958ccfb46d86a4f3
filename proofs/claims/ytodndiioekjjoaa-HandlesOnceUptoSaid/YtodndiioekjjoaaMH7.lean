/-
  HandlesOnce is true wherever it is called: for arguments of bulk at most 1048576. By an AI agent.
-/
import Derived.Test.YtodndiioekjjoaaMH6
import Derived.Test.YtodndiioekjjoaaMH5
namespace Go.Proofs.Ytodndiioekjjoaa
open Aml Go Go.RowKit Go.ChangeShapes Go.WideShapes Go.ChangeAt
set_option linter.unusedVariables false
set_option linter.unusedSimpArgs false
set_option maxRecDepth 100000
theorem op_num (w : List RH) (lv : Int) : (opH w lv).2 = (cnH w lv : Int) + 1 := rfl
theorem op_in {w : List RH} (hw : WOk w) (lv : Int) : ixH (opH w lv).1 lv (opH w lv).2 < (opH w lv).1.length := by
  rw [op_num, ix_op hw, opH_len, if_neg (by rw [ix_new hw]; omega), if_pos ⟨rfl, rfl⟩]; omega
theorem op_out {w : List RH} (hw : WOk w) (lv : Int) : ¬ ixH (opH w lv).1 lv ((opH w lv).2 + 1) < (opH w lv).1.length := by
  intro h
  obtain ⟨s, hs, _⟩ := ix_get h
  obtain ⟨e1, e2, _⟩ := ix_some hs
  have := ((hw.op lv).le hs).2
  rw [e2, e1, cn_op, if_pos rfl, op_num] at this
  omega
theorem op_ss {w : List RH} (hw : WOk w) (lv : Int) : ssH (opH w lv).1 lv (opH w lv).2 = [] := by
  have : ixH (opH w lv).1 lv (opH w lv).2 = w.length := by
    rw [op_num, ix_op hw, if_neg (by rw [ix_new hw]; omega), if_pos ⟨rfl, rfl⟩]
  unfold ssH
  rw [this]
  unfold opH
  simp
theorem cl_out {w : List RH} (hw : WOk w) (lv n : Int) : ¬ ixH (clH w lv n).1 lv n < (clH w lv n).1.length := by
  by_cases h : ixH w lv n < w.length
  · rw [ix_cl hw h, if_pos ⟨rfl, rfl⟩, clH_len]; omega
  · unfold clH; rw [if_neg h]; exact h
theorem countP_less {α : Type} {p : α → Bool} : ∀ {l : List α} {i : Nat} {a b : α}, l[i]? = some a → p a = true → p b = false → l.countP p = (l.set i b).countP p + 1
  | [], i, a, b, h, _, _ => by simp at h
  | x :: l, 0, a, b, h, e, e2 => by
    cases h
    rw [List.set_cons_zero, List.countP_cons, List.countP_cons, e, e2]; simp
  | x :: l, i + 1, a, b, h, e, e2 => by
    rw [List.set_cons_succ, List.countP_cons, List.countP_cons, countP_less (l := l) (by simpa using h) e e2]; omega
theorem cl_len (w : List RH) (lv n : Int) : (clH w lv n).2 = decide (((hdA (clH w lv n).1).length : Int) = (hdA w).length - 1) := by
  by_cases h : ixH w lv n < w.length
  · obtain ⟨s, hs, _⟩ := ix_get h
    obtain ⟨_, _, e3⟩ := ix_some hs
    unfold clH
    rw [if_pos h]
    simp only
    rw [hdA_length, hdA_length, countP_less (p := fun s : RH => !s.gone) (b := ⟨lv, n, [], 0, true⟩) hs (by rw [e3]; rfl) rfl, decide_eq_true]
    omega
  · unfold clH
    rw [if_neg h]
    simp only
    rw [decide_eq_false]; omega
theorem sn_none {w : List RH} {lv n : Int} (h : ¬ ixH w lv n < w.length) : snH w lv n = (w, 0) := by
  unfold snH
  rw [List.getElem?_eq_none (by omega)]
theorem sn_some {w : List RH} (hw : WOk w) {lv n : Int} (h : ixH w lv n < w.length) : ∃ r, (snH w lv n).2 = r ∧ 0 < r ∧ ssH (snH w lv n).1 lv n = ssH w lv n ++ [r] ∧ (∀ x, x ∈ ssH w lv n → x < r) ∧ ixH (snH w lv n).1 lv n < (snH w lv n).1.length := by
  obtain ⟨s, hs, _⟩ := ix_get h
  have hm := List.mem_of_getElem? hs
  have e1 : snH w lv n = (w.set (ixH w lv n) (snS s), s.last + 1) := by unfold snH; rw [hs]
  have e2 : ixH (w.set (ixH w lv n) (snS s)) lv n = ixH w lv n := ix_same (r := snS s) hs rfl rfl rfl lv n
  have e3 : ssH w lv n = s.sn := by unfold ssH; rw [hs]
  rw [e1, e3]
  have := hw.la s hm
  refine ⟨_, rfl, by show 0 < s.last + 1; omega, ?_, fun x hx => ?_, ?_⟩
  · unfold ssH
    simp only
    rw [e2, List.getElem?_set_self h]; rfl
  · have := (hw.inn s hm x hx).2
    show x < s.last + 1; omega
  · simp only
    rw [e2, List.length_set]; exact h
theorem un_none {w : List RH} {lv n x : Int} (h : ¬ ixH w lv n < w.length) : unH w lv n x = (w, false) := by
  unfold unH
  rw [List.getElem?_eq_none (by omega)]
theorem un_spec {w : List RH} (hw : WOk w) (lv n x : Int) : ((unH w lv n x).2 = true → ((ssH (unH w lv n x).1 lv n).length : Int) = (ssH w lv n).length - 1) ∧ unH (unH w lv n x).1 lv n x = ((unH w lv n x).1, false) := by
  by_cases h : ixH w lv n < w.length
  · obtain ⟨s, hs, _⟩ := ix_get h
    have hm := List.mem_of_getElem? hs
    have e3 : ssH w lv n = s.sn := by unfold ssH; rw [hs]
    by_cases hx : x ∈ s.sn
    · have e1 : unH w lv n x = (w.set (ixH w lv n) ⟨s.lv, s.n, lfL x s.sn, s.last, s.gone⟩, true) := by
        unfold unH; rw [hs]; simp only; rw [if_neg (fun e => lfL_same.1 e hx)]
      have e2 : ixH (w.set (ixH w lv n) ⟨s.lv, s.n, lfL x s.sn, s.last, s.gone⟩) lv n = ixH w lv n := ix_same (r := ⟨s.lv, s.n, lfL x s.sn, s.last, s.gone⟩) hs rfl rfl rfl lv n
      rw [e1, e3]
      simp only
      refine ⟨fun _ => ?_, ?_⟩
      · unfold ssH
        rw [e2, List.getElem?_set_self h]
        simp only
        have hnd : s.sn.Nodup := (hw.up s hm).imp fun h => by omega
        have : lfL x s.sn = s.sn.erase x := by
          unfold lfL
          rw [hnd.erase_eq_filter]
          refine List.filter_congr fun y _ => ?_
          by_cases q : y = x <;> simp [q]
        rw [this, List.length_erase_of_mem hx]
        have := List.length_pos_of_mem hx
        omega
      · unfold unH
        rw [e2, List.getElem?_set_self h]
        simp only
        rw [if_pos]
        refine lfL_same.2 fun q => ?_
        unfold lfL at q
        have := (List.mem_filter.1 q).2
        simp at this
    · have e1 : unH w lv n x = (w, false) := by
        unfold unH; rw [hs]; simp only; rw [if_pos (lfL_same.2 hx)]
      rw [e1]
      exact ⟨fun q => (by cases q), e1⟩
  · rw [un_none h]
    exact ⟨fun q => (by cases q), un_none h⟩
theorem ss_len {S : St} {θ : TbG} {w : List RH} {k : Int} (h : TI S θ w) (hk : LaB w k) (h0 : 0 ≤ k) (lv n : Int) : ((ssH w lv n).length : Int) ≤ k := by
  unfold ssH
  split
  · rename_i s hs
    exact sn_len h hk (List.mem_of_getElem? hs)
  · simpa using h0
structure RvH where
  k : Nat
  w : List RH
  θ : TbG
  T : St
set_option maxHeartbeats 16000000 in
theorem onceH (w0 : W0) (l : List StH) (h0 : l.length ≤ 1048576) : ACall Try.prog w0 5 [.sl 4 false (l.map dStH)] ⟨[], []⟩ (fun d S' => d = dB true ∧ S' = ⟨[], []⟩) := by
  refine fnS [1002] mx Try.func5 rfl rfl (by kernel_rfl) ?_; simp (maxDischargeDepth := 12) (maxSteps := 1000000) -implicitDefEqProofs only [Try.ntmps5, go_sem, Nat.reduceAdd, Nat.reduceSub, Nat.reduceMul, Nat.reduceLeDiff, Nat.reduceEqDiff, Nat.reduceGT, Nat.reduceBEq, reduceCtorEq, ↓reduceIte, Int.reduceToNat, Int.reduceLE, Int.reduceLT, Int.reduceNe, Int.reduceEq]
  refine use1 (awakeH w0) ?_
  simp (maxDischargeDepth := 12) (maxSteps := 1000000) -implicitDefEqProofs only [go_sem, Nat.reduceAdd, Nat.reduceSub, Nat.reduceMul, Nat.reduceLeDiff, Nat.reduceEqDiff, Nat.reduceGT, Nat.reduceBEq, reduceCtorEq, ↓reduceIte, Int.reduceToNat, Int.reduceLE, Int.reduceLT, Int.reduceNe, Int.reduceEq]
  intro hl
  refine useK (newT w0 _) ?_
  rintro _ T0 ⟨θ0, rfl, hT0, -⟩
  simp (maxDischargeDepth := 12) (maxSteps := 1000000) -implicitDefEqProofs only [go_sem, Nat.reduceAdd, Nat.reduceSub, Nat.reduceMul, Nat.reduceLeDiff, Nat.reduceEqDiff, Nat.reduceGT, Nat.reduceBEq, reduceCtorEq, ↓reduceIte, Int.reduceToNat, Int.reduceLE, Int.reduceLT, Int.reduceNe, Int.reduceEq]
  refine loopK [1002] [0, 4, 5] (fun s : RvH => [(5, dI s.k)]) (fun s => s.T) (fun s => s.k ≤ l.length ∧ s.w.length ≤ s.k ∧ LaB s.w s.k ∧ TI s.T s.θ s.w ∧ s.θ.t = θ0.t) (fun s => l.length - s.k) ⟨0, [], θ0, T0⟩ mx (by kernel_rfl) ?_ ?_
  · refine ⟨⟨by simp, by simp, n1H 0, hT0, rfl⟩, ?_, ?_⟩
    · simp (maxDischargeDepth := 12) (maxSteps := 1000000) -implicitDefEqProofs only [go_sem, Nat.reduceAdd, Nat.reduceSub, Nat.reduceMul, Nat.reduceLeDiff, Nat.reduceEqDiff, Nat.reduceGT, Nat.reduceBEq, reduceCtorEq, ↓reduceIte, Int.reduceToNat, Int.reduceLE, Int.reduceLT, Int.reduceNe, Int.reduceEq]
    · exact .refl _
  · rintro ⟨k, w, θ, T⟩ ⟨hk, hw, hla, hT, et⟩
    simp only at hk hw hla hT et
    have e1 : IntKind.i64.wrap ((k : Int) + 1) = ((k + 1 : Nat) : Int) := i_oneH k (by omega)
    simp (maxDischargeDepth := 12) (maxSteps := 1000000) -implicitDefEqProofs only [go_sem, Nat.reduceAdd, Nat.reduceSub, Nat.reduceMul, Nat.reduceLeDiff, Nat.reduceEqDiff, Nat.reduceGT, Nat.reduceBEq, reduceCtorEq, ↓reduceIte, Int.reduceToNat, Int.reduceLE, Int.reduceLT, Int.reduceNe, Int.reduceEq]
    refine ⟨fun hlt => ⟨hlt, fun a ha c c2 => ?_⟩, fun hge => ?_⟩
    · have hX := (hT.consB (fn_lk c) [dI a.kind, dI a.lv, dI a.n, dI a.sn]).consB (fn_lk c2) [dI a.lv, dI a.n]
      have nc := loc_nin hT (fn_lk c)
      have nc2 := loc_nin (hT.consB (fn_lk c) [dI a.kind, dI a.lv, dI a.n, dI a.sn]) (fn_lk c2)
      have hcc : ¬ c2.n = c.n := by simp (maxDischargeDepth := 12) (maxSteps := 1000000) -implicitDefEqProofs only [go_sem, Nat.reduceAdd, Nat.reduceSub, Nat.reduceMul, Nat.reduceLeDiff, Nat.reduceEqDiff, Nat.reduceGT, Nat.reduceBEq, reduceCtorEq, ↓reduceIte, Int.reduceToNat, Int.reduceLE, Int.reduceLT, Int.reduceNe, Int.reduceEq]
      have b1 : lk ((c2.n, [dI a.lv, dI a.n]) :: (c.n, [dI a.kind, dI a.lv, dI a.n, dI a.sn]) :: T.box) c.n = some [dI a.kind, dI a.lv, dI a.n, dI a.sn] := by simp (maxDischargeDepth := 12) (maxSteps := 1000000) -implicitDefEqProofs only [go_sem, Nat.reduceAdd, Nat.reduceSub, Nat.reduceMul, Nat.reduceLeDiff, Nat.reduceEqDiff, Nat.reduceGT, Nat.reduceBEq, reduceCtorEq, ↓reduceIte, Int.reduceToNat, Int.reduceLE, Int.reduceLT, Int.reduceNe, Int.reduceEq]
      have b2 : lk ((c2.n, [dI a.lv, dI a.n]) :: (c.n, [dI a.kind, dI a.lv, dI a.n, dI a.sn]) :: T.box) c2.n = some [dI a.lv, dI a.n] := by simp (maxDischargeDepth := 12) (maxSteps := 1000000) -implicitDefEqProofs only [go_sem, Nat.reduceAdd, Nat.reduceSub, Nat.reduceMul, Nat.reduceLeDiff, Nat.reduceEqDiff, Nat.reduceGT, Nat.reduceBEq, reduceCtorEq, ↓reduceIte, Int.reduceToNat, Int.reduceLE, Int.reduceLT, Int.reduceNe, Int.reduceEq]
      have hwo := hX.ok
      refine cutK (σ := RvH) [] [0, 4, 5] (fun s => []) (fun s => s.T) (fun s => s.w.length ≤ k + 1 ∧ LaB s.w ((k + 1 : Nat) : Int) ∧ TI s.T s.θ s.w ∧ s.θ.t = θ0.t) mx (by kernel_rfl) ?_ ?_
      · have kk : ((k : Int) + 1) = ((k + 1 : Nat) : Int) := by omega
        have hA := hdA_le w
        simp (maxDischargeDepth := 12) (maxSteps := 1000000) -implicitDefEqProofs only [go_sem, Nat.reduceAdd, Nat.reduceSub, Nat.reduceMul, Nat.reduceLeDiff, Nat.reduceEqDiff, Nat.reduceGT, Nat.reduceBEq, reduceCtorEq, ↓reduceIte, Int.reduceToNat, Int.reduceLE, Int.reduceLT, Int.reduceNe, Int.reduceEq, b1]
        refine ⟨fun z => ?_, fun z => ⟨fun z1 => ?_, fun z1 => ⟨fun z2 => ?_, fun z2 => ⟨fun z3 => ?_, fun z3 => ?_⟩⟩⟩⟩
        · have p1 := op_in hwo a.lv
          have p2 := op_out hwo a.lv
          have p3 := op_ss hwo a.lv
          have p4 : IntKind.i64.wrap ((opH w a.lv).2 + 1) = (opH w a.lv).2 + 1 := by
            have := cnH_le w a.lv
            rw [op_num]
            exact w64 (by omega) (by omega)
          refine useK (openU w0 hX et (by omega) a.lv) ?_
          rintro _ T1 ⟨rfl, θ1, h1, f1, q1⟩
          have d1 := f1.box _ _ nc b1
          have d2 := f1.box _ _ nc2 b2
          have hl1 : LaB (opH w a.lv).1 ((k + 1 : Nat) : Int) := kk ▸ hla.op (by omega) a.lv
          have hl2 : (opH w a.lv).1.length ≤ k + 1 := by rw [opH_len]; omega
          generalize (opH w a.lv).1 = w1 at *
          generalize (opH w a.lv).2 = r1 at *
          simp (maxDischargeDepth := 12) (maxSteps := 1000000) -implicitDefEqProofs only [go_sem, Nat.reduceAdd, Nat.reduceSub, Nat.reduceMul, Nat.reduceLeDiff, Nat.reduceEqDiff, Nat.reduceGT, Nat.reduceBEq, reduceCtorEq, ↓reduceIte, Int.reduceToNat, Int.reduceLE, Int.reduceLT, Int.reduceNe, Int.reduceEq, d1]
          refine use1 (hasU w0 h1 q1 a.lv r1) ?_
          simp (maxDischargeDepth := 12) (maxSteps := 1000000) -implicitDefEqProofs only [go_sem, Nat.reduceAdd, Nat.reduceSub, Nat.reduceMul, Nat.reduceLeDiff, Nat.reduceEqDiff, Nat.reduceGT, Nat.reduceBEq, reduceCtorEq, ↓reduceIte, Int.reduceToNat, Int.reduceLE, Int.reduceLT, Int.reduceNe, Int.reduceEq, d1, p1, p4]
          refine use1 (hasU w0 h1 q1 a.lv (r1 + 1)) ?_
          simp (maxDischargeDepth := 12) (maxSteps := 1000000) -implicitDefEqProofs only [go_sem, Nat.reduceAdd, Nat.reduceSub, Nat.reduceMul, Nat.reduceLeDiff, Nat.reduceEqDiff, Nat.reduceGT, Nat.reduceBEq, reduceCtorEq, ↓reduceIte, Int.reduceToNat, Int.reduceLE, Int.reduceLT, Int.reduceNe, Int.reduceEq, d1, p2]
          refine use1 (snapsU w0 h1 q1 hl1 (by omega) a.lv r1) ?_
          simp (maxDischargeDepth := 12) (maxSteps := 1000000) -implicitDefEqProofs only [go_sem, Nat.reduceAdd, Nat.reduceSub, Nat.reduceMul, Nat.reduceLeDiff, Nat.reduceEqDiff, Nat.reduceGT, Nat.reduceBEq, reduceCtorEq, ↓reduceIte, Int.reduceToNat, Int.reduceLE, Int.reduceLT, Int.reduceNe, Int.reduceEq, p3]
          exact ⟨fun q => absurd q (by decide), fun _ => ⟨⟨k, w1, θ1, T1⟩, ⟨hl2, hl1, h1, q1⟩, .refl _⟩⟩
        · have p1 := cl_len w a.lv a.n
          have p2 := cl_out hwo a.lv a.n
          have p3 := sn_none p2
          have hA1 := hdA_le (clH w a.lv a.n).1
          have p4 : IntKind.i64.wrap (((hdA w).length : Int) - 1) = ((hdA w).length : Int) - 1 := w64 (by omega) (by omega)
          refine use1 (allU w0 hX et (by omega)) ?_
          simp (maxDischargeDepth := 12) (maxSteps := 1000000) -implicitDefEqProofs only [go_sem, Nat.reduceAdd, Nat.reduceSub, Nat.reduceMul, Nat.reduceLeDiff, Nat.reduceEqDiff, Nat.reduceGT, Nat.reduceBEq, reduceCtorEq, ↓reduceIte, Int.reduceToNat, Int.reduceLE, Int.reduceLT, Int.reduceNe, Int.reduceEq, b1, b2]
          refine useK (closeU w0 hX et a.lv a.n) ?_
          rintro _ T1 ⟨rfl, h1, f1⟩
          have d1 := f1.box _ _ nc b1
          have d2 := f1.box _ _ nc2 b2
          have hl1 : LaB (clH w a.lv a.n).1 ((k + 1 : Nat) : Int) := kk ▸ hla.cl (by omega) a.lv a.n
          have hl2 : (clH w a.lv a.n).1.length ≤ k + 1 := by rw [clH_len]; omega
          generalize (clH w a.lv a.n).1 = w1 at *
          generalize (clH w a.lv a.n).2 = r1 at *
          subst p1
          simp (maxDischargeDepth := 12) (maxSteps := 1000000) -implicitDefEqProofs only [go_sem, Nat.reduceAdd, Nat.reduceSub, Nat.reduceMul, Nat.reduceLeDiff, Nat.reduceEqDiff, Nat.reduceGT, Nat.reduceBEq, reduceCtorEq, ↓reduceIte, Int.reduceToNat, Int.reduceLE, Int.reduceLT, Int.reduceNe, Int.reduceEq, d1]
          refine use1 (allU w0 h1 et (by omega)) ?_
          simp (maxDischargeDepth := 12) (maxSteps := 1000000) -implicitDefEqProofs only [go_sem, Nat.reduceAdd, Nat.reduceSub, Nat.reduceMul, Nat.reduceLeDiff, Nat.reduceEqDiff, Nat.reduceGT, Nat.reduceBEq, reduceCtorEq, ↓reduceIte, Int.reduceToNat, Int.reduceLE, Int.reduceLT, Int.reduceNe, Int.reduceEq, d1, d2, p4]
          refine use1 (hasU w0 h1 et a.lv a.n) ?_
          simp (maxDischargeDepth := 12) (maxSteps := 1000000) -implicitDefEqProofs only [go_sem, Nat.reduceAdd, Nat.reduceSub, Nat.reduceMul, Nat.reduceLeDiff, Nat.reduceEqDiff, Nat.reduceGT, Nat.reduceBEq, reduceCtorEq, ↓reduceIte, Int.reduceToNat, Int.reduceLE, Int.reduceLT, Int.reduceNe, Int.reduceEq, d2, p2]
          refine useK (snapU w0 h1 et hl1 (by omega) a.lv a.n) ?_
          rw [p3]
          rintro _ T2 ⟨rfl, h2, f2⟩
          simp (maxDischargeDepth := 12) (maxSteps := 1000000) -implicitDefEqProofs only [go_sem, Nat.reduceAdd, Nat.reduceSub, Nat.reduceMul, Nat.reduceLeDiff, Nat.reduceEqDiff, Nat.reduceGT, Nat.reduceBEq, reduceCtorEq, ↓reduceIte, Int.reduceToNat, Int.reduceLE, Int.reduceLT, Int.reduceNe, Int.reduceEq]
          exact ⟨⟨k, w1, θ, T2⟩, ⟨hl2, hl1, h2, et⟩, .refl _⟩
        · refine use1 (snapsU w0 hX et hla (by omega) a.lv a.n) ?_
          simp (maxDischargeDepth := 12) (maxSteps := 1000000) -implicitDefEqProofs only [go_sem, Nat.reduceAdd, Nat.reduceSub, Nat.reduceMul, Nat.reduceLeDiff, Nat.reduceEqDiff, Nat.reduceGT, Nat.reduceBEq, reduceCtorEq, ↓reduceIte, Int.reduceToNat, Int.reduceLE, Int.reduceLT, Int.reduceNe, Int.reduceEq, b1, b2]
          have hs0 := ss_len hX hla (by omega) a.lv a.n
          by_cases hix : ixH w a.lv a.n < w.length
          · obtain ⟨r, p1, p2, p3, p4, p5⟩ := sn_some hwo hix
            refine useK (snapU w0 hX et hla (by omega) a.lv a.n) ?_
            rintro _ T1 ⟨rfl, h1, f1⟩
            have d1 := f1.box _ _ nc b1
            have d2 := f1.box _ _ nc2 b2
            have hl1 : LaB (snH w a.lv a.n).1 ((k + 1 : Nat) : Int) := kk ▸ hla.sn a.lv a.n
            have hl2 : (snH w a.lv a.n).1.length ≤ k + 1 := by rw [snH_len]; omega
            rw [p1]
            generalize (snH w a.lv a.n).1 = w1 at *
            simp (maxDischargeDepth := 12) (maxSteps := 1000000) -implicitDefEqProofs only [go_sem, Nat.reduceAdd, Nat.reduceSub, Nat.reduceMul, Nat.reduceLeDiff, Nat.reduceEqDiff, Nat.reduceGT, Nat.reduceBEq, reduceCtorEq, ↓reduceIte, Int.reduceToNat, Int.reduceLE, Int.reduceLT, Int.reduceNe, Int.reduceEq, d2]
            refine use1 (snapsU w0 h1 et hl1 (by omega) a.lv a.n) ?_
            rw [p3]
            simp (maxDischargeDepth := 12) (maxSteps := 1000000) -implicitDefEqProofs only [go_sem, Nat.reduceAdd, Nat.reduceSub, Nat.reduceMul, Nat.reduceLeDiff, Nat.reduceEqDiff, Nat.reduceGT, Nat.reduceBEq, reduceCtorEq, ↓reduceIte, Int.reduceToNat, Int.reduceLE, Int.reduceLT, Int.reduceNe, Int.reduceEq, d2]
            refine use1 (hasU w0 h1 et a.lv a.n) ?_
            simp (maxDischargeDepth := 12) (maxSteps := 1000000) -implicitDefEqProofs only [go_sem, Nat.reduceAdd, Nat.reduceSub, Nat.reduceMul, Nat.reduceLeDiff, Nat.reduceEqDiff, Nat.reduceGT, Nat.reduceBEq, reduceCtorEq, ↓reduceIte, Int.reduceToNat, Int.reduceLE, Int.reduceLT, Int.reduceNe, Int.reduceEq, p5]
            have i1 : IntKind.i64.wrap (((ssH w a.lv a.n).length : Int) + 1) = (((ssH w a.lv a.n).length + 1 : Nat) : Int) := by rw [w64 (by omega) (by omega)]; omega
            have i2 : IntKind.i64.wrap ((((ssH w a.lv a.n).length + 1 : Nat) : Int) - 1) = (ssH w a.lv a.n).length := by rw [w64 (by omega) (by omega)]; omega
            have i3 : IntKind.i64.wrap (((ssH w a.lv a.n).length : Int) - 1) = ((ssH w a.lv a.n).length : Int) - 1 := w64 (by omega) (by omega)
            have i4 : ∀ x, (ssH w a.lv a.n ++ [r])[((ssH w a.lv a.n).length : Int).toNat]? = some x → x = r := fun x hx => by
              rw [Int.toNat_natCast, List.getElem?_append_right (Nat.le_refl _), Nat.sub_self] at hx
              cases hx; rfl
            have fin : ∃ s : RvH, (s.w.length ≤ k + 1 ∧ LaB s.w ((k + 1 : Nat) : Int) ∧ TI s.T s.θ s.w ∧ s.θ.t = θ0.t) ∧ Aml.Sub s.T T1 := ⟨⟨k, w1, θ, T1⟩, ⟨hl2, hl1, h1, et⟩, .refl _⟩
            rw [i1, i2, i3]
            refine ⟨fun q => q p2, fun _ => ⟨fun _ => ⟨fun q => q rfl, fun _ => ⟨by omega, by omega, fun x hx => ⟨fun q => q (i4 x hx), fun _ => ⟨fun hp => ⟨by omega, by omega, fun y hy => ⟨fun q => ?_, fun _ => fin⟩⟩, fun _ => fin⟩⟩⟩⟩, fun _ => fin⟩⟩
            have := p4 y (List.mem_of_getElem? hy)
            omega
          · have p1 := sn_none hix
            refine useK (snapU w0 hX et hla (by omega) a.lv a.n) ?_
            rw [p1]
            rintro _ T1 ⟨rfl, h1, f1⟩
            have d1 := f1.box _ _ nc b1
            have d2 := f1.box _ _ nc2 b2
            simp (maxDischargeDepth := 12) (maxSteps := 1000000) -implicitDefEqProofs only [go_sem, Nat.reduceAdd, Nat.reduceSub, Nat.reduceMul, Nat.reduceLeDiff, Nat.reduceEqDiff, Nat.reduceGT, Nat.reduceBEq, reduceCtorEq, ↓reduceIte, Int.reduceToNat, Int.reduceLE, Int.reduceLT, Int.reduceNe, Int.reduceEq, d2]
            refine use1 (snapsU w0 h1 et hla (by omega) a.lv a.n) ?_
            simp (maxDischargeDepth := 12) (maxSteps := 1000000) -implicitDefEqProofs only [go_sem, Nat.reduceAdd, Nat.reduceSub, Nat.reduceMul, Nat.reduceLeDiff, Nat.reduceEqDiff, Nat.reduceGT, Nat.reduceBEq, reduceCtorEq, ↓reduceIte, Int.reduceToNat, Int.reduceLE, Int.reduceLT, Int.reduceNe, Int.reduceEq, d2]
            refine use1 (hasU w0 h1 et a.lv a.n) ?_
            simp (maxDischargeDepth := 12) (maxSteps := 1000000) -implicitDefEqProofs only [go_sem, Nat.reduceAdd, Nat.reduceSub, Nat.reduceMul, Nat.reduceLeDiff, Nat.reduceEqDiff, Nat.reduceGT, Nat.reduceBEq, reduceCtorEq, ↓reduceIte, Int.reduceToNat, Int.reduceLE, Int.reduceLT, Int.reduceNe, Int.reduceEq, hix]
            exact ⟨fun q => q (by decide), fun _ => ⟨fun q => absurd q (by decide), fun _ => ⟨⟨k, w, θ, T1⟩, ⟨by show w.length ≤ k + 1; omega, kk ▸ hla.up, h1, et⟩, .refl _⟩⟩⟩
        · obtain ⟨p1, p2⟩ := un_spec hwo a.lv a.n a.sn
          have hs0 := ss_len hX hla (by omega) a.lv a.n
          have p4 : IntKind.i64.wrap (((ssH w a.lv a.n).length : Int) - 1) = ((ssH w a.lv a.n).length : Int) - 1 := w64 (by omega) (by omega)
          refine use1 (snapsU w0 hX et hla (by omega) a.lv a.n) ?_
          simp (maxDischargeDepth := 12) (maxSteps := 1000000) -implicitDefEqProofs only [go_sem, Nat.reduceAdd, Nat.reduceSub, Nat.reduceMul, Nat.reduceLeDiff, Nat.reduceEqDiff, Nat.reduceGT, Nat.reduceBEq, reduceCtorEq, ↓reduceIte, Int.reduceToNat, Int.reduceLE, Int.reduceLT, Int.reduceNe, Int.reduceEq, b1, b2]
          refine useK (unsnapU w0 hX et a.lv a.n a.sn) ?_
          rintro _ T1 ⟨rfl, h1, f1⟩
          have d1 := f1.box _ _ nc b1
          have d2 := f1.box _ _ nc2 b2
          have hl1 : LaB (unH w a.lv a.n a.sn).1 ((k + 1 : Nat) : Int) := kk ▸ hla.un a.lv a.n a.sn
          have hl2 : (unH w a.lv a.n a.sn).1.length ≤ k + 1 := by rw [unH_len]; omega
          generalize (unH w a.lv a.n a.sn).1 = w1 at *
          generalize (unH w a.lv a.n a.sn).2 = r1 at *
          cases r1 with
          | true =>
            have p5 := p1 rfl
            simp (maxDischargeDepth := 12) (maxSteps := 1000000) -implicitDefEqProofs only [go_sem, Nat.reduceAdd, Nat.reduceSub, Nat.reduceMul, Nat.reduceLeDiff, Nat.reduceEqDiff, Nat.reduceGT, Nat.reduceBEq, reduceCtorEq, ↓reduceIte, Int.reduceToNat, Int.reduceLE, Int.reduceLT, Int.reduceNe, Int.reduceEq, d1, d2]
            refine use1 (snapsU w0 h1 et hl1 (by omega) a.lv a.n) ?_
            simp (maxDischargeDepth := 12) (maxSteps := 1000000) -implicitDefEqProofs only [go_sem, Nat.reduceAdd, Nat.reduceSub, Nat.reduceMul, Nat.reduceLeDiff, Nat.reduceEqDiff, Nat.reduceGT, Nat.reduceBEq, reduceCtorEq, ↓reduceIte, Int.reduceToNat, Int.reduceLE, Int.reduceLT, Int.reduceNe, Int.reduceEq, d1, d2, p4, p5]
            refine useK (unsnapU w0 h1 et a.lv a.n a.sn) ?_
            rw [p2]
            rintro _ T2 ⟨rfl, h2, f2⟩
            simp (maxDischargeDepth := 12) (maxSteps := 1000000) -implicitDefEqProofs only [go_sem, Nat.reduceAdd, Nat.reduceSub, Nat.reduceMul, Nat.reduceLeDiff, Nat.reduceEqDiff, Nat.reduceGT, Nat.reduceBEq, reduceCtorEq, ↓reduceIte, Int.reduceToNat, Int.reduceLE, Int.reduceLT, Int.reduceNe, Int.reduceEq]
            exact ⟨⟨k, w1, θ, T2⟩, ⟨hl2, hl1, h2, et⟩, .refl _⟩
          | false =>
            simp (maxDischargeDepth := 12) (maxSteps := 1000000) -implicitDefEqProofs only [go_sem, Nat.reduceAdd, Nat.reduceSub, Nat.reduceMul, Nat.reduceLeDiff, Nat.reduceEqDiff, Nat.reduceGT, Nat.reduceBEq, reduceCtorEq, ↓reduceIte, Int.reduceToNat, Int.reduceLE, Int.reduceLT, Int.reduceNe, Int.reduceEq, d1, d2]
            refine useK (unsnapU w0 h1 et a.lv a.n a.sn) ?_
            rw [p2]
            rintro _ T2 ⟨rfl, h2, f2⟩
            simp (maxDischargeDepth := 12) (maxSteps := 1000000) -implicitDefEqProofs only [go_sem, Nat.reduceAdd, Nat.reduceSub, Nat.reduceMul, Nat.reduceLeDiff, Nat.reduceEqDiff, Nat.reduceGT, Nat.reduceBEq, reduceCtorEq, ↓reduceIte, Int.reduceToNat, Int.reduceLE, Int.reduceLT, Int.reduceNe, Int.reduceEq]
            exact ⟨⟨k, w1, θ, T2⟩, ⟨hl2, hl1, h2, et⟩, .refl _⟩
        · exact ⟨⟨k, w, θ, _⟩, ⟨by show w.length ≤ k + 1; omega, kk ▸ hla.up, hX, et⟩, .refl _⟩
      · rintro ⟨k1, w1, θ1, T1⟩ ⟨g1, g2, g3, g4⟩
        simp only at g1 g2 g3 g4
        simp (maxDischargeDepth := 12) (maxSteps := 1000000) -implicitDefEqProofs only [go_sem, Nat.reduceAdd, Nat.reduceSub, Nat.reduceMul, Nat.reduceLeDiff, Nat.reduceEqDiff, Nat.reduceGT, Nat.reduceBEq, reduceCtorEq, ↓reduceIte, Int.reduceToNat, Int.reduceLE, Int.reduceLT, Int.reduceNe, Int.reduceEq]
        exact ⟨⟨k + 1, w1, θ1, T1⟩, ⟨hlt, g1, g2, g3, g4⟩, by show l.length - (k + 1) < l.length - k; omega, e1, .refl _⟩
    · refine useK (resetU w0 hT et) ?_
      rintro _ T1 ⟨θ1, h1, f1, q1⟩
      simp (maxDischargeDepth := 12) (maxSteps := 1000000) -implicitDefEqProofs only [go_sem, Nat.reduceAdd, Nat.reduceSub, Nat.reduceMul, Nat.reduceLeDiff, Nat.reduceEqDiff, Nat.reduceGT, Nat.reduceBEq, reduceCtorEq, ↓reduceIte, Int.reduceToNat, Int.reduceLE, Int.reduceLT, Int.reduceNe, Int.reduceEq]
      refine use1 (allU w0 h1 q1 (by decide)) ?_
      have v1 : (hdA []).length = 0 := rfl
      have v2 : (opH [] 1).2 = 1 := rfl
      simp (maxDischargeDepth := 12) (maxSteps := 1000000) -implicitDefEqProofs only [go_sem, Nat.reduceAdd, Nat.reduceSub, Nat.reduceMul, Nat.reduceLeDiff, Nat.reduceEqDiff, Nat.reduceGT, Nat.reduceBEq, reduceCtorEq, ↓reduceIte, Int.reduceToNat, Int.reduceLE, Int.reduceLT, Int.reduceNe, Int.reduceEq, v1]
      refine useK (openU w0 h1 q1 (by decide) 1) ?_
      rw [v2]
      rintro _ T2 ⟨rfl, θ2, h2, f2, q2⟩
      simp (maxDischargeDepth := 12) (maxSteps := 1000000) -implicitDefEqProofs only [go_sem, Nat.reduceAdd, Nat.reduceSub, Nat.reduceMul, Nat.reduceLeDiff, Nat.reduceEqDiff, Nat.reduceGT, Nat.reduceBEq, reduceCtorEq, ↓reduceIte, Int.reduceToNat, Int.reduceLE, Int.reduceLT, Int.reduceNe, Int.reduceEq]
      exact sub0 _
theorem handlesOnce_own : ownKnob Try.prog.godebug = none := by kernel_rfl
set_option maxHeartbeats 1000000 in
theorem handlesOnce_contract (H : Type) (enc : TypeId × Value → H) (W : World) (base : Nat) (args : Array Value) (ds gs : List (DataW H)) (before : List MemPlace)
    (hval : ∀ (j : Nat) t v, Try.f5.params[j]? = some t → args[j]? = some v → Value.okWide Try.prog W .any base t v)
    (hW : DataW.Whole enc Try.prog Try.f5.params.toList Rows.handlesOnceSpec.vars false W args.toList ds gs before) (hk : Rows.uptoBulkAll (ds ++ gs) ≤ 1048576) :
    Calls Try.prog 5 args W fun e W' => ∃ v, e = .returned v ∧ Rows.handlesOnceSpec.post enc Try.prog Try.f5 false true false false W args v W' :=
  law_contract enc (ts := [22]) (tb := 4) (rdA_one rdStHs (by kernel_rfl) rdA_nil) Try.params5 rfl Try.underlying4 rfl (by kernel_rfl) (by intro t ht; revert t; decide +kernel) (fun ds hd => by
    first
    | (match ds, hd with | [_], _ => rfl)
    | (match ds, hd with | [_, _], _ => rfl)
    | (match ds, hd with | [_, _, _], _ => rfl)
    | (match ds, hd with | [_, _, _, _], _ => rfl)) (fun a ha hs => (onceH W a.1 (by omega)).mono fun d S' h => h.1) base args ds gs before hval hW hk
set_option maxRecDepth 100000 in
theorem handlesOnce_lifted (os : Os) (started : os.Started) (H : Type) (enc : TypeId × Value → H) (F : Stop.Interp) :
    ReturnsInHanded {} Try.checked os 5 .any ((Rows.OpenSpec.upto Rows.handlesOnceSpec).pre6 enc Try.prog Try.f5 Rows.handlesOnceUptoRow.domain false) (((Rows.OpenSpec.upto Rows.handlesOnceSpec).at F).post enc Try.prog Try.f5 false true false false) := by
  refine returnsInHanded_of_cond (C := Try.checked) (s := Rows.OpenSpec.upto Rows.handlesOnceSpec) (k := Rows.uptoSmall) rfl handlesOnce_own started (by kernel_rfl) Try.func5
    (OpenSpec.witness (enc := enc) (C := Try.checked) (s := Rows.OpenSpec.upto Rows.handlesOnceSpec) (k := Rows.uptoSmall) rfl false ⟨#[], #[.slice none 0 0], []⟩ 8 (by kernel_rfl) (by kernel_rfl) (by kernel_rfl)
      (x := ([.nil], [], [])) (by kernel_rfl) rfl (by kernel_rfl)) ?_
  intro W base args ds gs before hval hW _ hk _
  exact handlesOnce_contract H enc W base args ds gs before hval hW (of_decide_eq_true hk)
/-- THE STATEMENT. -/
theorem handlesOnce_holds : Rows.HandlesOnceUptoSaid :=
  OpenClaim.holds_of_cond 5 Try.f5 rfl rfl rfl rfl rfl rfl rfl ⟨rfl, rfl, rfl, rfl, rfl⟩ rfl rfl rfl rfl rfl (by kernel_rfl) Try.func5 (by kernel_rfl)
    (of_decide_eq_true (by kernel_rfl)) (by unfold Func.isWrapper; first | (rw [if_pos (by decide +kernel)]; kernel_rfl) | (rw [if_neg (by decide +kernel)]; exact ⟨rfl, rfl⟩))
    (fun os started H enc _ F => handlesOnce_lifted os started H enc F)

end Go.Proofs.Ytodndiioekjjoaa
