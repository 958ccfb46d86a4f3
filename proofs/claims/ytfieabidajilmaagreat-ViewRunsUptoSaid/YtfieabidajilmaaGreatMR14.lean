/-
  The reference's views, changed and looked at: what it computes. By an AI agent.
-/
import Derived.Test.YtfieabidajilmaaGreatMR13
namespace Go.Proofs.YtfieabidajilmaaGreat
open Aml Go
set_option linter.unusedVariables false
set_option linter.unusedSimpArgs false
set_option maxRecDepth 100000
set_option maxHeartbeats 8000000 in
theorem rDrop (w0 : W0) (k : Nat) (name : ByteArray) (n : N) (l : List C) (S : St) (h : VI k n l) (hk : k ≤ 200) : ACall Tryz.prog w0 14 [eL n l, dS name] S (fun d S' => d = .tup [eL (drV name n l).1.1 (drV name n l).1.2, dI (drV name n l).2] ∧ S' = S) := by
  have hln := h.len
  have hdir := h.dir
  have hrise := h.rise
  clear h
  have hlt := has_lt (l := l) (name := name)
  have hdel := fun S => tbDelR w0 (key := name) hdir hk S
  have q1 : hasN l name = false → drV name n l = ((n, l), 32) := fun e => by unfold drV; rw [e]; rfl
  have q2 : hasN l name = true → drV name n l = ((Del name n, l.take (idxN l name) ++ l.drop (idxN l name + 1)), 0) := fun e => by unfold drV; rw [e]; rfl
  have g1 := fi_yes (l := l) (name := name)
  have g2 := fi_no (l := l) (name := name)
  have hfi := rFind w0 n l name
  generalize Del name n = D at *
  generalize (findN name n).isSome = sm at *
  generalize drV name n l = R at *
  generalize fiV l name = F at *
  generalize hI : idxN l name = i at *
  refine fnS [] mx Tryz.func14 rfl rfl (by kernel_rfl) ?_; simp (maxDischargeDepth := 12) (maxSteps := 1000000) -implicitDefEqProofs only [Tryz.ntmps14, go_sem, Nat.reduceAdd, Nat.reduceSub, Nat.reduceMul, Nat.reduceLeDiff, Nat.reduceEqDiff, Nat.reduceGT, Nat.reduceBEq, reduceCtorEq, ↓reduceIte, Int.reduceToNat, Int.reduceLE, Int.reduceLT, Int.reduceNe, Int.reduceEq]
  intro b b1
  refine use1 (hfi _ hrise (by omega)) ?_
  simp (maxDischargeDepth := 12) (maxSteps := 1000000) -implicitDefEqProofs only [go_sem, Nat.reduceAdd, Nat.reduceSub, Nat.reduceMul, Nat.reduceLeDiff, Nat.reduceEqDiff, Nat.reduceGT, Nat.reduceBEq, reduceCtorEq, ↓reduceIte, Int.reduceToNat, Int.reduceLE, Int.reduceLT, Int.reduceNe, Int.reduceEq]
  cases hh : hasN l name with
  | false =>
    have := g2 hh
    rw [q1 hh]
    exact ⟨fun _ => .refl _, fun hn => absurd (by omega) hn⟩
  | true =>
    have e1 := g1 hh
    have hil := hlt hh
    have e2 := i_oneV i (by omega)
    rw [q2 hh]
    subst e1
    have hm8 : maxLen = 9223372036854775807 := rfl
    rw [e2, Int.toNat_natCast, Int.toNat_natCast]
    refine ⟨fun hn => absurd hn (by omega), fun _ => ⟨by omega, by omega, by omega, by omega, fun b2 => ⟨by omega, by omega, by omega, by omega, use1 (hdel _) ?_⟩⟩⟩
    simp (maxDischargeDepth := 12) (maxSteps := 1000000) -implicitDefEqProofs only [go_sem, Nat.reduceAdd, Nat.reduceSub, Nat.reduceMul, Nat.reduceLeDiff, Nat.reduceEqDiff, Nat.reduceGT, Nat.reduceBEq, reduceCtorEq, ↓reduceIte, Int.reduceToNat, Int.reduceLE, Int.reduceLT, Int.reduceNe, Int.reduceEq]
set_option maxHeartbeats 8000000 in
theorem rWith (w0 : W0) (k : Nat) (n t : N) (l : List C) (i : Nat) (c : C) (S : St) (h : VI k n l) (hk : k ≤ 200) (hc : l[i]? = some c) : ACall Tryz.prog w0 54 [eL n l, dI i, eN t] S (fun d S' => d = eL (Put c.key nwS n) (l.set i (cellN c.key t)) ∧ S' = S) := by
  have hln := h.len
  have hcell := h.cell c (List.mem_of_getElem? hc)
  have hput := fun S => tbPutR w0 (key := c.key) (val := nwS) h.dir hk (okKey_ne hcell.2.2).2 (by decide) S
  have hil := (List.getElem?_eq_some_iff.1 hc).1
  generalize Put c.key nwS n = D at *
  have em : (List.map dBl l).set i (.agg [.v (.string c.key), .v (.int .i64 t.page), .v (.bool t.leaf), .sl 4 false (List.map dC t.l)]) = (l.set i (cellN c.key t)).map dBl := by rw [List.map_set]; rfl
  have hg : (l.set i (cellN c.key t))[i]? = some (cellN c.key t) := by rw [List.getElem?_set_self hil]
  generalize l.set i (cellN c.key t) = M at *
  refine fnS [4] mx Tryz.func54 rfl rfl (by kernel_rfl) ?_; simp (maxDischargeDepth := 12) (maxSteps := 1000000) -implicitDefEqProofs only [Tryz.ntmps54, go_sem, Nat.reduceAdd, Nat.reduceSub, Nat.reduceMul, Nat.reduceLeDiff, Nat.reduceEqDiff, Nat.reduceGT, Nat.reduceBEq, reduceCtorEq, ↓reduceIte, Int.reduceToNat, Int.reduceLE, Int.reduceLT, Int.reduceNe, Int.reduceEq]
  intro b b1 b2
  have hm8 : maxLen = 9223372036854775807 := rfl
  refine ⟨by omega, by omega, fun b3 => ⟨hil, hil, fun a ha => ?_⟩⟩
  cases getE hc ha
  rw [em]
  refine shrK [] [7] mx (by kernel_rfl) ?_
  simp (maxDischargeDepth := 12) (maxSteps := 1000000) -implicitDefEqProofs only [go_sem, Nat.reduceAdd, Nat.reduceSub, Nat.reduceMul, Nat.reduceLeDiff, Nat.reduceEqDiff, Nat.reduceGT, Nat.reduceBEq, reduceCtorEq, ↓reduceIte, Int.reduceToNat, Int.reduceLE, Int.reduceLT, Int.reduceNe, Int.reduceEq, hg]
  have hML : M.length = l.length := by have := congrArg List.length em; rw [List.length_set, List.length_map, List.length_map] at this; exact this.symm
  exact ⟨hML, (List.getElem?_eq_some_iff.1 hg).1, useQ (hput _) (by simp (maxDischargeDepth := 12) (maxSteps := 1000000) -implicitDefEqProofs only [go_sem, Nat.reduceAdd, Nat.reduceSub, Nat.reduceMul, Nat.reduceLeDiff, Nat.reduceEqDiff, Nat.reduceGT, Nat.reduceBEq, reduceCtorEq, ↓reduceIte, Int.reduceToNat, Int.reduceLE, Int.reduceLT, Int.reduceNe, Int.reduceEq])⟩
theorem ch_yes {name : ByteArray} {f : N → N × Int} {n : N} {l : List C} {c : C} (hc : l[idxN l name]? = some c) (hh : hasN l name = true) (h0 : (f (kid0 c)).2 = 0) : chV name f n l = ((Put name nwS n, l.set (idxN l name) (cellN c.key (f (kid0 c)).1)), 0) := by unfold chV; rw [hh, hc]; simp only [if_true]; rw [if_pos h0]
theorem ch_bad {name : ByteArray} {f : N → N × Int} {n : N} {l : List C} {c : C} (hc : l[idxN l name]? = some c) (hh : hasN l name = true) (h0 : (f (kid0 c)).2 ≠ 0) : chV name f n l = ((n, l), (f (kid0 c)).2) := by unfold chV; rw [hh, hc]; simp only [if_true]; rw [if_neg h0]
theorem ch_no {name : ByteArray} {f : N → N × Int} {n : N} {l : List C} (hh : hasN l name = false) : chV name f n l = ((n, l), 32) := by unfold chV; rw [hh]; rfl
set_option maxHeartbeats 8000000 in
theorem rPut (w0 : W0) (k : Nat) (name key val : ByteArray) (n : N) (l : List C) (S : St) (h : VI k n l) (hk : k ≤ 116) : ACall Tryz.prog w0 17 [eL n l, dS name, dS key, dS val] S (fun d S' => d = .tup [eL (puV name key val n l).1.1 (puV name key val n l).1.2, dI (puV name key val n l).2] ∧ S' = S) := by
  have hln := h.len
  have hrise := h.rise
  have q1 : okKey key = false → puV name key val n l = ((n, l), 34) := fun e => by unfold puV; rw [e]; rfl
  have q2 : ¬ val.size ≤ 400 → puV name key val n l = ((n, l), 34) := fun e => by unfold puV; rw [decide_eq_false e, Bool.and_false]; rfl
  have q3 : okKey key = true → val.size ≤ 400 → puV name key val n l = chV name (fun t => (Put key val t, 0)) n l := fun e f => by unfold puV; rw [e, decide_eq_true f]; rfl
  have g1 := fi_yes (l := l) (name := name)
  have g2 := fi_no (l := l) (name := name)
  have hfi := rFind w0 n l name
  generalize puV name key val n l = R at *
  generalize fiV l name = F at *
  refine fnS [7] mx Tryz.func17 rfl rfl (by kernel_rfl) ?_; simp (maxDischargeDepth := 12) (maxSteps := 1000000) -implicitDefEqProofs only [Tryz.ntmps17, go_sem, Nat.reduceAdd, Nat.reduceSub, Nat.reduceMul, Nat.reduceLeDiff, Nat.reduceEqDiff, Nat.reduceGT, Nat.reduceBEq, reduceCtorEq, ↓reduceIte, Int.reduceToNat, Int.reduceLE, Int.reduceLT, Int.reduceNe, Int.reduceEq]
  intro b b1
  refine use1 (rKey w0 key _) ?_
  simp (maxDischargeDepth := 12) (maxSteps := 1000000) -implicitDefEqProofs only [go_sem, Nat.reduceAdd, Nat.reduceSub, Nat.reduceMul, Nat.reduceLeDiff, Nat.reduceEqDiff, Nat.reduceGT, Nat.reduceBEq, reduceCtorEq, ↓reduceIte, Int.reduceToNat, Int.reduceLE, Int.reduceLT, Int.reduceNe, Int.reduceEq]
  cases hok : okKey key with
  | false => rw [q1 hok]; simp (maxDischargeDepth := 12) (maxSteps := 1000000) -implicitDefEqProofs only [go_sem, Nat.reduceAdd, Nat.reduceSub, Nat.reduceMul, Nat.reduceLeDiff, Nat.reduceEqDiff, Nat.reduceGT, Nat.reduceBEq, reduceCtorEq, ↓reduceIte, Int.reduceToNat, Int.reduceLE, Int.reduceLT, Int.reduceNe, Int.reduceEq]
  | true =>
    simp (maxDischargeDepth := 12) (maxSteps := 1000000) -implicitDefEqProofs only [go_sem, Nat.reduceAdd, Nat.reduceSub, Nat.reduceMul, Nat.reduceLeDiff, Nat.reduceEqDiff, Nat.reduceGT, Nat.reduceBEq, reduceCtorEq, ↓reduceIte, Int.reduceToNat, Int.reduceLE, Int.reduceLT, Int.reduceNe, Int.reduceEq]
    refine ⟨fun h400 => by rw [q2 (by omega)]; simp (maxDischargeDepth := 12) (maxSteps := 1000000) -implicitDefEqProofs only [go_sem, Nat.reduceAdd, Nat.reduceSub, Nat.reduceMul, Nat.reduceLeDiff, Nat.reduceEqDiff, Nat.reduceGT, Nat.reduceBEq, reduceCtorEq, ↓reduceIte, Int.reduceToNat, Int.reduceLE, Int.reduceLT, Int.reduceNe, Int.reduceEq], fun h400 => use1 (hfi _ hrise (by omega)) ?_⟩
    rw [q3 hok (by omega)]
    simp (maxDischargeDepth := 12) (maxSteps := 1000000) -implicitDefEqProofs only [go_sem, Nat.reduceAdd, Nat.reduceSub, Nat.reduceMul, Nat.reduceLeDiff, Nat.reduceEqDiff, Nat.reduceGT, Nat.reduceBEq, reduceCtorEq, ↓reduceIte, Int.reduceToNat, Int.reduceLE, Int.reduceLT, Int.reduceNe, Int.reduceEq]
    cases hh : hasN l name with
    | false =>
      have := g2 hh
      rw [ch_no hh]
      exact ⟨fun _ => .refl _, fun hn => absurd (by omega) hn⟩
    | true =>
      obtain ⟨c, hc, hck⟩ := has_at hh
      have e1 := g1 hh
      have hil := has_lt hh
      rw [ch_yes hc hh rfl, hck]
      have hcell := h.cell c (List.mem_of_getElem? hc)
      have hw := fun S => rWith w0 k n (Put key val (kid0 c)) l (idxN l name) c S h (by omega) hc
      rw [hck] at hw
      have hp := fun S => tbPutR w0 (key := key) (val := val) hcell.2.1 (by omega) (okKey_ne hok).2 (by omega) S
      generalize Put key val (kid0 c) = T at *
      generalize Put name nwS n = D at *
      subst e1
      refine ⟨fun hn => absurd hn (by omega), fun _ => ?_⟩
      refine lexK mx (by kernel_rfl) ?_
      simp (maxDischargeDepth := 12) (maxSteps := 1000000) -implicitDefEqProofs only [go_sem, Nat.reduceAdd, Nat.reduceSub, Nat.reduceMul, Nat.reduceLeDiff, Nat.reduceEqDiff, Nat.reduceGT, Nat.reduceBEq, reduceCtorEq, ↓reduceIte, Int.reduceToNat, Int.reduceLE, Int.reduceLT, Int.reduceNe, Int.reduceEq]
      refine ⟨hil, fun a ha => ?_⟩
      cases getE hc ha
      refine useX (fun B hB => hp _) ?_
      simp (maxDischargeDepth := 12) (maxSteps := 1000000) -implicitDefEqProofs only [go_sem, Nat.reduceAdd, Nat.reduceSub, Nat.reduceMul, Nat.reduceLeDiff, Nat.reduceEqDiff, Nat.reduceGT, Nat.reduceBEq, reduceCtorEq, ↓reduceIte, Int.reduceToNat, Int.reduceLE, Int.reduceLT, Int.reduceNe, Int.reduceEq]
      refine useX (fun B hB => hw _) ?_
      simp (maxDischargeDepth := 12) (maxSteps := 1000000) -implicitDefEqProofs only [go_sem, Nat.reduceAdd, Nat.reduceSub, Nat.reduceMul, Nat.reduceLeDiff, Nat.reduceEqDiff, Nat.reduceGT, Nat.reduceBEq, reduceCtorEq, ↓reduceIte, Int.reduceToNat, Int.reduceLE, Int.reduceLT, Int.reduceNe, Int.reduceEq]
set_option maxHeartbeats 8000000 in
theorem rDel (w0 : W0) (k : Nat) (name key : ByteArray) (n : N) (l : List C) (S : St) (h : VI k n l) (hk : k ≤ 116) : ACall Tryz.prog w0 19 [eL n l, dS name, dS key] S (fun d S' => d = .tup [eL (deV name key n l).1.1 (deV name key n l).1.2, dI (deV name key n l).2] ∧ S' = S) := by
  have hln := h.len
  have hrise := h.rise
  have g1 := fi_yes (l := l) (name := name)
  have g2 := fi_no (l := l) (name := name)
  have hfi := rFind w0 n l name
  unfold deV
  cases hh : hasN l name with
  | false =>
    have := g2 hh
    rw [ch_no hh]
    generalize fiV l name = F at *
    refine fnS [] mx Tryz.func19 rfl rfl (by kernel_rfl) ?_; simp (maxDischargeDepth := 12) (maxSteps := 1000000) -implicitDefEqProofs only [Tryz.ntmps19, go_sem, Nat.reduceAdd, Nat.reduceSub, Nat.reduceMul, Nat.reduceLeDiff, Nat.reduceEqDiff, Nat.reduceGT, Nat.reduceBEq, reduceCtorEq, ↓reduceIte, Int.reduceToNat, Int.reduceLE, Int.reduceLT, Int.reduceNe, Int.reduceEq]
    intro b b1
    refine use1 (hfi _ hrise (by omega)) ?_
    simp (maxDischargeDepth := 12) (maxSteps := 1000000) -implicitDefEqProofs only [go_sem, Nat.reduceAdd, Nat.reduceSub, Nat.reduceMul, Nat.reduceLeDiff, Nat.reduceEqDiff, Nat.reduceGT, Nat.reduceBEq, reduceCtorEq, ↓reduceIte, Int.reduceToNat, Int.reduceLE, Int.reduceLT, Int.reduceNe, Int.reduceEq]
    exact fun hn => absurd (by omega) hn
  | true =>
    obtain ⟨c, hc, hck⟩ := has_at hh
    have e1 := g1 hh
    have hil := has_lt hh
    have hcell := h.cell c (List.mem_of_getElem? hc)
    have hw := fun S => rWith w0 k n (Del key (kid0 c)) l (idxN l name) c S h (by omega) hc
    rw [hck] at hw
    have hp := fun S => tbDelR w0 (key := key) hcell.2.1 (by omega) S
    have q1 : (findN key (kid0 c)).isSome = true → chV name (fun t => if (findN key t).isSome then (Del key t, 0) else (t, 33)) n l = ((Put name nwS n, l.set (idxN l name) (cellN name (Del key (kid0 c)))), 0) := fun e => by
      rw [ch_yes hc hh (by simp only [e, if_true]), hck]; simp only [e, if_true]
    have q2 : (findN key (kid0 c)).isSome = false → chV name (fun t => if (findN key t).isSome then (Del key t, 0) else (t, 33)) n l = ((n, l), 33) := fun e => by
      rw [ch_bad hc hh (by simp only [e, Bool.false_eq_true, if_false]; decide)]; simp only [e, Bool.false_eq_true, if_false]
    generalize chV name (fun t => if (findN key t).isSome then (Del key t, 0) else (t, 33)) n l = R at *
    generalize (findN key (kid0 c)).isSome = sm at *
    generalize Del key (kid0 c) = T at *
    generalize Put name nwS n = D at *
    generalize fiV l name = F at *
    subst e1
    refine fnS [] mx Tryz.func19 rfl rfl (by kernel_rfl) ?_; simp (maxDischargeDepth := 12) (maxSteps := 1000000) -implicitDefEqProofs only [Tryz.ntmps19, go_sem, Nat.reduceAdd, Nat.reduceSub, Nat.reduceMul, Nat.reduceLeDiff, Nat.reduceEqDiff, Nat.reduceGT, Nat.reduceBEq, reduceCtorEq, ↓reduceIte, Int.reduceToNat, Int.reduceLE, Int.reduceLT, Int.reduceNe, Int.reduceEq]
    intro b b1
    refine use1 (hfi _ hrise (by omega)) ?_
    simp (maxDischargeDepth := 12) (maxSteps := 1000000) -implicitDefEqProofs only [go_sem, Nat.reduceAdd, Nat.reduceSub, Nat.reduceMul, Nat.reduceLeDiff, Nat.reduceEqDiff, Nat.reduceGT, Nat.reduceBEq, reduceCtorEq, ↓reduceIte, Int.reduceToNat, Int.reduceLE, Int.reduceLT, Int.reduceNe, Int.reduceEq]
    refine ⟨fun hn => absurd hn (by omega), fun _ => ⟨by omega, fun a ha => ?_⟩⟩
    cases getE hc ha
    refine use1 (hp _) ?_
    simp (maxDischargeDepth := 12) (maxSteps := 1000000) -implicitDefEqProofs only [go_sem, Nat.reduceAdd, Nat.reduceSub, Nat.reduceMul, Nat.reduceLeDiff, Nat.reduceEqDiff, Nat.reduceGT, Nat.reduceBEq, reduceCtorEq, ↓reduceIte, Int.reduceToNat, Int.reduceLE, Int.reduceLT, Int.reduceNe, Int.reduceEq]
    intro b2
    refine ⟨fun hs => use1 (hw _) ?_, fun hs => by rw [q2 hs]; exact .refl _⟩
    rw [q1 hs]
    simp (maxDischargeDepth := 12) (maxSteps := 1000000) -implicitDefEqProofs only [go_sem, Nat.reduceAdd, Nat.reduceSub, Nat.reduceMul, Nat.reduceLeDiff, Nat.reduceEqDiff, Nat.reduceGT, Nat.reduceBEq, reduceCtorEq, ↓reduceIte, Int.reduceToNat, Int.reduceLE, Int.reduceLT, Int.reduceNe, Int.reduceEq]
set_option maxHeartbeats 8000000 in
theorem rGet (w0 : W0) (k : Nat) (name key : ByteArray) (n : N) (l : List C) (S : St) (h : VI k n l) (hk : k ≤ 116) : ACall Tryz.prog w0 21 [eL n l, dS name, dS key] S (fun d S' => d = .tup [dS (geV name key l).1, dI (geV name key l).2] ∧ S' = S) := by
  have hln := h.len
  have hrise := h.rise
  have g1 := fi_yes (l := l) (name := name)
  have g2 := fi_no (l := l) (name := name)
  have hfi := rFind w0 n l name
  cases hh : hasN l name with
  | false =>
    have := g2 hh
    have q1 : geV name key l = (noS, 32) := by unfold geV; rw [hh]; split <;> rfl
    rw [q1]
    generalize fiV l name = F at *
    refine fnS [] mx Tryz.func21 rfl rfl (by kernel_rfl) ?_; simp (maxDischargeDepth := 12) (maxSteps := 1000000) -implicitDefEqProofs only [Tryz.ntmps21, go_sem, Nat.reduceAdd, Nat.reduceSub, Nat.reduceMul, Nat.reduceLeDiff, Nat.reduceEqDiff, Nat.reduceGT, Nat.reduceBEq, reduceCtorEq, ↓reduceIte, Int.reduceToNat, Int.reduceLE, Int.reduceLT, Int.reduceNe, Int.reduceEq]
    intro b
    refine use1 (hfi _ hrise (by omega)) ?_
    simp (maxDischargeDepth := 12) (maxSteps := 1000000) -implicitDefEqProofs only [go_sem, Nat.reduceAdd, Nat.reduceSub, Nat.reduceMul, Nat.reduceLeDiff, Nat.reduceEqDiff, Nat.reduceGT, Nat.reduceBEq, reduceCtorEq, ↓reduceIte, Int.reduceToNat, Int.reduceLE, Int.reduceLT, Int.reduceNe, Int.reduceEq]
    exact ⟨fun _ => .refl _, fun hn => absurd (by omega) hn⟩
  | true =>
    obtain ⟨c, hc, hck⟩ := has_at hh
    have e1 := g1 hh
    have hil := has_lt hh
    have hcell := h.cell c (List.mem_of_getElem? hc)
    have hp := fun S => tbFindR w0 (key := key) hcell.2.1 (by omega) S
    have q1 : geV name key l = (match findN key (kid0 c) with
      | some x => (x, 0)
      | none => (noS, 33)) := by unfold geV; rw [hc, hh]; rfl
    rw [q1]
    generalize findN key (kid0 c) = fo at *
    generalize fiV l name = F at *
    refine fnS [] mx Tryz.func21 rfl rfl (by kernel_rfl) ?_; simp (maxDischargeDepth := 12) (maxSteps := 1000000) -implicitDefEqProofs only [Tryz.ntmps21, go_sem, Nat.reduceAdd, Nat.reduceSub, Nat.reduceMul, Nat.reduceLeDiff, Nat.reduceEqDiff, Nat.reduceGT, Nat.reduceBEq, reduceCtorEq, ↓reduceIte, Int.reduceToNat, Int.reduceLE, Int.reduceLT, Int.reduceNe, Int.reduceEq]
    intro b
    refine use1 (hfi _ hrise (by omega)) ?_
    simp (maxDischargeDepth := 12) (maxSteps := 1000000) -implicitDefEqProofs only [go_sem, Nat.reduceAdd, Nat.reduceSub, Nat.reduceMul, Nat.reduceLeDiff, Nat.reduceEqDiff, Nat.reduceGT, Nat.reduceBEq, reduceCtorEq, ↓reduceIte, Int.reduceToNat, Int.reduceLE, Int.reduceLT, Int.reduceNe, Int.reduceEq]
    refine ⟨fun hn => absurd hn (by omega), fun _ => ⟨by omega, by omega, fun a ha => ?_⟩⟩
    rw [e1, Int.toNat_natCast] at ha
    cases getE hc ha
    refine use1 (hp _) ?_
    cases fo with
    | none =>
      simp (maxDischargeDepth := 12) (maxSteps := 1000000) -implicitDefEqProofs only [go_sem, Nat.reduceAdd, Nat.reduceSub, Nat.reduceMul, Nat.reduceLeDiff, Nat.reduceEqDiff, Nat.reduceGT, Nat.reduceBEq, reduceCtorEq, ↓reduceIte, Int.reduceToNat, Int.reduceLE, Int.reduceLT, Int.reduceNe, Int.reduceEq, Option.isSome_none, Option.getD_none]
      exact .refl _
    | some x => simp (maxDischargeDepth := 12) (maxSteps := 1000000) -implicitDefEqProofs only [go_sem, Nat.reduceAdd, Nat.reduceSub, Nat.reduceMul, Nat.reduceLeDiff, Nat.reduceEqDiff, Nat.reduceGT, Nat.reduceBEq, reduceCtorEq, ↓reduceIte, Int.reduceToNat, Int.reduceLE, Int.reduceLT, Int.reduceNe, Int.reduceEq, Option.isSome_some, Option.getD_some]
/-- Entries from a key on, of a row that rises. -/
theorem ge_drop {l : List C} (h : Rise l) (key : ByteArray) : geK key l = l.drop (idxN l key) := by
  obtain ⟨A, B, hl, h1, h2⟩ := cut_at key h
  rw [hl, idx_app h1 h2, List.drop_left]
  unfold geK
  rw [List.filter_append, flt_no (fun a ha => by rw [h1 a ha]; rfl), flt_all (fun b hb => by rw [h2 b hb]; rfl), List.nil_append]
theorem rise_bare {l : List C} (h : Rise l) : Rise (l.map bareC) := by
  unfold Rise at *
  rw [List.pairwise_map]
  exact h
theorem ge_bare (key : ByteArray) (l : List C) : geK key (l.map bareC) = (geK key l).map bareC := by
  unfold geK
  rw [List.filter_map]; rfl
set_option maxHeartbeats 8000000 in
theorem rFrom (w0 : W0) {k : Nat} {n : N} (key : ByteArray) (h : TB k n) (hk : k ≤ 200) (S : St) : ACall Tryz.prog w0 60 [eN n, dS key] S (fun d S' => d = .sl 4 false ((geK key (entsN n)).map dC) ∧ S' = S) := by
  have hent : ∀ S, ACall Tryz.prog w0 102 [eN n] S (fun e S' => e = .sl 4 false ((entsN n).map dC) ∧ S' = S) := fun S => by
    obtain ⟨hr, d, hg, hd, ht⟩ := h
    exact entriesW w0 d n S (good_nd hg) (by omega)
  have hlen : (entsN n).length ≤ 131072 := by
    obtain ⟨hr, d, hg, hd, ht⟩ := h
    have := en_le (good_nd hg)
    unfold entsN; rw [List.length_map]; omega
  have hr : Rise (entsN n) := by
    obtain ⟨hr, d, hg, hd, ht⟩ := h
    exact rise_bare (good_rise hg)
  rw [ge_drop hr]
  generalize entsN n = l at *
  have hil := idx_le l key
  refine fnS [] mx Tryz.func60 rfl rfl (by kernel_rfl) ?_; simp (maxDischargeDepth := 12) (maxSteps := 1000000) -implicitDefEqProofs only [Tryz.ntmps60, go_sem, Nat.reduceAdd, Nat.reduceSub, Nat.reduceMul, Nat.reduceLeDiff, Nat.reduceEqDiff, Nat.reduceGT, Nat.reduceBEq, reduceCtorEq, ↓reduceIte, Int.reduceToNat, Int.reduceLE, Int.reduceLT, Int.reduceNe, Int.reduceEq]
  intro b
  refine use1 (hent _) ?_
  simp (maxDischargeDepth := 12) (maxSteps := 1000000) -implicitDefEqProofs only [go_sem, Nat.reduceAdd, Nat.reduceSub, Nat.reduceMul, Nat.reduceLeDiff, Nat.reduceEqDiff, Nat.reduceGT, Nat.reduceBEq, reduceCtorEq, ↓reduceIte, Int.reduceToNat, Int.reduceLE, Int.reduceLT, Int.reduceNe, Int.reduceEq]
  refine loopN [] (idxN l key) [1, 5, 6] (fun k => [(6, dI k)]) (fun _ => ⟨(b.n, [dI n.page, dB n.leaf, .sl 4 false (n.l.map dC)]) :: S.box, S.acc⟩) (fun _ => True) mx (by kernel_rfl) ?_ ?_
  · simp (maxDischargeDepth := 12) (maxSteps := 1000000) -implicitDefEqProofs only [go_sem, Nat.reduceAdd, Nat.reduceSub, Nat.reduceMul, Nat.reduceLeDiff, Nat.reduceEqDiff, Nat.reduceGT, Nat.reduceBEq, reduceCtorEq, ↓reduceIte, Int.reduceToNat, Int.reduceLE, Int.reduceLT, Int.reduceNe, Int.reduceEq]
  · intro j hj _
    simp (maxDischargeDepth := 12) (maxSteps := 1000000) -implicitDefEqProofs only [go_sem, Nat.reduceAdd, Nat.reduceSub, Nat.reduceMul, Nat.reduceLeDiff, Nat.reduceEqDiff, Nat.reduceGT, Nat.reduceBEq, reduceCtorEq, ↓reduceIte, Int.reduceToNat, Int.reduceLE, Int.reduceLT, Int.reduceNe, Int.reduceEq]
    refine ⟨fun hlt => ⟨hlt, fun a ha => ⟨fun hl => ⟨?_, i_oneV j (by omega)⟩, fun hge => ?_⟩⟩, fun hge => ?_⟩
    · refine Nat.lt_of_le_of_ne hj fun e => ?_
      subst e
      rw [idx_stop ha] at hl; cases hl
    · have hj2 : j = idxN l key := Nat.le_antisymm hj (Nat.le_of_not_lt fun h => by rw [idx_lt h ha] at hge; cases hge)
      rw [← hj2]; exact ⟨by omega, .refl _⟩
    · rw [List.drop_eq_nil_of_le (by omega)]
      exact .nil _ _ _
set_option maxHeartbeats 8000000 in
theorem rScan (w0 : W0) (k : Nat) (name fr : ByteArray) (most : Int) (n : N) (l : List C) (S : St) (h : VI k n l) (hk : k ≤ 116) (hm : most ≤ 1000000) : ACall Tryz.prog w0 23 [eL n l, dS name, dS fr, dI most] S (fun d S' => d = .tup [.sl 4 false (((scV name fr most l).1.map bareC).map dC), dI (scV name fr most l).2] ∧ S' = S) := by
  have hln := h.len
  have hrise := h.rise
  have g1 := fi_yes (l := l) (name := name)
  have g2 := fi_no (l := l) (name := name)
  have hfi := rFind w0 n l name
  cases hh : hasN l name with
  | false =>
    have := g2 hh
    have q1 : scV name fr most l = ([], 32) := by unfold scV; rw [hh]; split <;> rfl
    rw [q1]
    generalize fiV l name = F at *
    refine fnS [] mx Tryz.func23 rfl rfl (by kernel_rfl) ?_; simp (maxDischargeDepth := 12) (maxSteps := 1000000) -implicitDefEqProofs only [Tryz.ntmps23, go_sem, Nat.reduceAdd, Nat.reduceSub, Nat.reduceMul, Nat.reduceLeDiff, Nat.reduceEqDiff, Nat.reduceGT, Nat.reduceBEq, reduceCtorEq, ↓reduceIte, Int.reduceToNat, Int.reduceLE, Int.reduceLT, Int.reduceNe, Int.reduceEq]
    intro b
    refine use1 (hfi _ hrise (by omega)) ?_
    simp (maxDischargeDepth := 12) (maxSteps := 1000000) -implicitDefEqProofs only [go_sem, Nat.reduceAdd, Nat.reduceSub, Nat.reduceMul, Nat.reduceLeDiff, Nat.reduceEqDiff, Nat.reduceGT, Nat.reduceBEq, reduceCtorEq, ↓reduceIte, Int.reduceToNat, Int.reduceLE, Int.reduceLT, Int.reduceNe, Int.reduceEq]
    exact fun hn => absurd (by omega) hn
  | true =>
    obtain ⟨c, hc, hck⟩ := has_at hh
    have e1 := g1 hh
    have hil := has_lt hh
    have hcell := h.cell c (List.mem_of_getElem? hc)
    have hp := fun S => rFrom w0 fr hcell.2.1 (by omega) S
    have q1 : scV name fr most l = ((geK fr (enN (kid0 c))).take most.toNat, 0) := by unfold scV; rw [hc, hh]; rfl
    rw [q1]
    have hge : geK fr (entsN (kid0 c)) = (geK fr (enN (kid0 c))).map bareC := ge_bare _ _
    rw [hge] at hp
    generalize geK fr (enN (kid0 c)) = G at *
    rw [List.map_take]
    generalize hGB : G.map bareC = GB at *
    generalize fiV l name = F at *
    refine fnS [] mx Tryz.func23 rfl rfl (by kernel_rfl) ?_; simp (maxDischargeDepth := 12) (maxSteps := 1000000) -implicitDefEqProofs only [Tryz.ntmps23, go_sem, Nat.reduceAdd, Nat.reduceSub, Nat.reduceMul, Nat.reduceLeDiff, Nat.reduceEqDiff, Nat.reduceGT, Nat.reduceBEq, reduceCtorEq, ↓reduceIte, Int.reduceToNat, Int.reduceLE, Int.reduceLT, Int.reduceNe, Int.reduceEq]
    intro b
    refine use1 (hfi _ hrise (by omega)) ?_
    simp (maxDischargeDepth := 12) (maxSteps := 1000000) -implicitDefEqProofs only [go_sem, Nat.reduceAdd, Nat.reduceSub, Nat.reduceMul, Nat.reduceLeDiff, Nat.reduceEqDiff, Nat.reduceGT, Nat.reduceBEq, reduceCtorEq, ↓reduceIte, Int.reduceToNat, Int.reduceLE, Int.reduceLT, Int.reduceNe, Int.reduceEq]
    refine ⟨fun hn => absurd hn (by omega), fun _ => ⟨by omega, by omega, fun a ha => ?_⟩⟩
    rw [e1, Int.toNat_natCast] at ha
    cases getE hc ha
    refine use1 (hp _) ?_
    simp (maxDischargeDepth := 12) (maxSteps := 1000000) -implicitDefEqProofs only [go_sem, Nat.reduceAdd, Nat.reduceSub, Nat.reduceMul, Nat.reduceLeDiff, Nat.reduceEqDiff, Nat.reduceGT, Nat.reduceBEq, reduceCtorEq, ↓reduceIte, Int.reduceToNat, Int.reduceLE, Int.reduceLT, Int.reduceNe, Int.reduceEq]
    refine ⟨fun hm0 => ⟨fun _ => ?_, fun hl => ?_⟩, fun hm0 => ⟨fun hl => by omega, fun hl => ?_⟩⟩
    · rw [show most.toNat = 0 by omega]; exact .refl _
    · rw [List.length_eq_zero_iff.1 (show GB.length = 0 by omega), List.take_nil]; exact .refl _
    · rw [List.take_of_length_le (by omega)]; exact .refl _
end Go.Proofs.YtfieabidajilmaaGreat
