/-
  The reference's views: what it computes. By an AI agent.
-/
import Derived.Test.YtfieabidajilmaaGreatMR12
namespace Go.Proofs.YtfieabidajilmaaGreat
open Aml Go
set_option linter.unusedVariables false
set_option linter.unusedSimpArgs false
set_option maxRecDepth 100000
theorem idx_lt {key : ByteArray} : ∀ {l : List C} {j : Nat} {a : C}, j < idxN l key → l[j]? = some a → ltS a.key key = true
  | [], j, a, h, _ => by simp [idxN] at h
  | c :: l, j, a, h, ha => by
    unfold idxN at h
    rw [List.takeWhile_cons] at h
    split at h
    · rename_i hc
      cases j with
      | zero => cases ha; exact hc
      | succ j => exact idx_lt (l := l) (j := j) (by unfold idxN; simpa using h) ha
    · simp at h
theorem idx_stop {key : ByteArray} : ∀ {l : List C} {a : C}, l[idxN l key]? = some a → ltS a.key key = false
  | [], a, h => by simp at h
  | c :: l, a, h => by
    unfold idxN at h
    rw [List.takeWhile_cons] at h
    split at h
    · exact idx_stop (l := l) h
    · rename_i hc
      cases h; simpa using hc
/-- Where a name stands among a view's trees, as the reference tells it. -/
def fiV (l : List C) (name : ByteArray) : Int := if hasN l name then (idxN l name : Int) else -1
theorem fi_yes {l : List C} {name : ByteArray} (h : hasN l name = true) : fiV l name = (idxN l name : Int) := by unfold fiV; rw [if_pos h]
theorem fi_no {l : List C} {name : ByteArray} (h : hasN l name = false) : fiV l name = -1 := by unfold fiV; rw [if_neg (by rw [h]; simp)]
theorem fi_at {l : List C} {name : ByteArray} (hr : Rise l) {k : Nat} {a : C} (ha : l[k]? = some a) (he : eqS a.key name = true) : fiV l name = (k : Int) := by
  have hk := eqS_iff.1 he
  obtain ⟨hk2, hak⟩ := List.getElem?_eq_some_iff.1 ha
  have hi : idxN l name = k := takeW_len (by omega) (fun i c hi hc => by
    have := List.pairwise_iff_getElem.1 hr i k (List.getElem?_eq_some_iff.1 hc).1 hk2 hi
    rw [(List.getElem?_eq_some_iff.1 hc).2, hak, hk] at this; exact this) (fun c hc => by rw [ha] at hc; cases hc; rw [hk]; exact ltS_irrefl _)
  have : hasN l name = true := by unfold hasN; rw [hi, ha]; exact he
  rw [fi_yes this, hi]
theorem fi_none {l : List C} {name : ByteArray} (h : ∀ (j : Nat) a, l[j]? = some a → eqS a.key name = false) : fiV l name = -1 := by
  refine fi_no (Bool.eq_false_iff.2 fun hh => ?_)
  obtain ⟨c, hc, hk⟩ := has_at hh
  have := h _ c hc
  rw [hk, eqS_self] at this; cases this
set_option maxHeartbeats 4000000 in
theorem rFind (w0 : W0) (n : N) (l : List C) (name : ByteArray) (S : St) (hr : Rise l) (hl : l.length ≤ 1048576) : ACall Tryz.prog w0 47 [eL n l, dS name] S (fun d S' => d = dI (fiV l name) ∧ S' = S) := by
  have f1 := fun k a => fi_at (name := name) hr (k := k) (a := a)
  have f2 := fi_none (l := l) (name := name)
  generalize fiV l name = R at *
  refine fnS [] mx Tryz.func47 rfl rfl (by kernel_rfl) ?_; simp (maxDischargeDepth := 12) (maxSteps := 1000000) -implicitDefEqProofs only [Tryz.ntmps47, go_sem, Nat.reduceAdd, Nat.reduceSub, Nat.reduceMul, Nat.reduceLeDiff, Nat.reduceEqDiff, Nat.reduceGT, Nat.reduceBEq, reduceCtorEq, ↓reduceIte, Int.reduceToNat, Int.reduceLE, Int.reduceLT, Int.reduceNe, Int.reduceEq]
  intro b
  refine loopN [] l.length [1, 2, 5] (fun k => [(5, dI k)]) (fun _ => ⟨(b.n, [dI n.page, dB n.leaf, .sl 4 false (n.l.map dC), .sl 4 false (l.map dBl)]) :: S.box, S.acc⟩) (fun k => ∀ (j : Nat) a, j < k → l[j]? = some a → eqS a.key name = false) mx (by kernel_rfl) ?_ ?_
  · simp (maxDischargeDepth := 12) (maxSteps := 1000000) -implicitDefEqProofs only [go_sem, Nat.reduceAdd, Nat.reduceSub, Nat.reduceMul, Nat.reduceLeDiff, Nat.reduceEqDiff, Nat.reduceGT, Nat.reduceBEq, reduceCtorEq, ↓reduceIte, Int.reduceToNat, Int.reduceLE, Int.reduceLT, Int.reduceNe, Int.reduceEq]
    exact fun j a h => absurd h (by omega)
  · intro k hk hinv
    simp (maxDischargeDepth := 12) (maxSteps := 1000000) -implicitDefEqProofs only [go_sem, Nat.reduceAdd, Nat.reduceSub, Nat.reduceMul, Nat.reduceLeDiff, Nat.reduceEqDiff, Nat.reduceGT, Nat.reduceBEq, reduceCtorEq, ↓reduceIte, Int.reduceToNat, Int.reduceLE, Int.reduceLT, Int.reduceNe, Int.reduceEq]
    refine ⟨fun hlt => ⟨hlt, fun a ha => ⟨fun he => (f1 k a ha he).symm, fun he => ⟨hlt, fun j c hj hc => ?_, i_oneV k (by omega)⟩⟩⟩, fun hge => ?_⟩
    · rcases Nat.lt_succ_iff_lt_or_eq.1 hj with h | h
      · exact hinv j c h hc
      · subst h; cases getE ha hc; exact he
    · rw [f2 fun j a ha => hinv j a (by have := (List.getElem?_eq_some_iff.1 ha).1; omega) ha]
theorem rKey (w0 : W0) (s : ByteArray) (S : St) : ACall Tryz.prog w0 46 [dS s] S (fun d S' => d = dB (okKey s) ∧ S' = S) := by
  refine fnS [] mx Tryz.func46 rfl rfl (by kernel_rfl) ?_; simp (maxDischargeDepth := 12) (maxSteps := 1000000) -implicitDefEqProofs only [Tryz.ntmps46, go_sem, Nat.reduceAdd, Nat.reduceSub, Nat.reduceMul, Nat.reduceLeDiff, Nat.reduceEqDiff, Nat.reduceGT, Nat.reduceBEq, reduceCtorEq, ↓reduceIte, Int.reduceToNat, Int.reduceLE, Int.reduceLT, Int.reduceNe, Int.reduceEq]
  have e : eqS s { data := #[] } = !decide (0 < s.size) := by
    have h1 : eqS s { data := #[] } = decide (s.data.toList = []) := rfl
    have h2 : s.size = s.data.toList.length := rfl
    rw [h1, h2]
    cases s.data.toList <;> simp
  rw [e]
  unfold okKey
  cases h0 : decide (0 < s.size) <;> simp; omega
theorem tbPutR (w0 : W0) {k : Nat} {n : N} {key val : ByteArray} (h : TB k n) (hk : k ≤ 200) (h1 : key.size ≤ 16) (h2 : val.size ≤ 400) (S : St) : ACall Tryz.prog w0 48 [eN n, dS key, dS val] S (fun e S' => e = eN (Put key val n) ∧ S' = S) := by
  obtain ⟨hr, d, hg, hd, ht⟩ := h
  exact PutW w0 key val h1 h2 d n S (good_nd hg) (by omega)
theorem tbDelR (w0 : W0) {k : Nat} {n : N} {key : ByteArray} (h : TB k n) (hk : k ≤ 200) (S : St) : ACall Tryz.prog w0 51 [eN n, dS key] S (fun e S' => e = .tup [eN (Del key n), dB (findN key n).isSome] ∧ S' = S) := by
  obtain ⟨hr, d, hg, hd, ht⟩ := h
  exact DelW w0 key d n S (good_nd hg) (by omega)
theorem tbFindR (w0 : W0) {k : Nat} {n : N} {key : ByteArray} (h : TB k n) (hk : k ≤ 200) (S : St) : ACall Tryz.prog w0 57 [eN n, dS key] S (fun e S' => e = .tup [dS ((findN key n).getD noS), dB (findN key n).isSome] ∧ S' = S) := by
  obtain ⟨hr, d, hg, hd, ht⟩ := h
  exact findW w0 key d n S (good_nd hg) (by omega)
theorem rEm (w0 : W0) (S : St) : ACall Tryz.prog w0 39 [] S (fun e S' => e = eN emN ∧ S' = S) := by
  refine fnS [] mx Tryz.func39 rfl rfl (by kernel_rfl) ?_; simp (maxDischargeDepth := 12) (maxSteps := 1000000) -implicitDefEqProofs only [Tryz.ntmps39, go_sem, Nat.reduceAdd, Nat.reduceSub, Nat.reduceMul, Nat.reduceLeDiff, Nat.reduceEqDiff, Nat.reduceGT, Nat.reduceBEq, reduceCtorEq, ↓reduceIte, Int.reduceToNat, Int.reduceLE, Int.reduceLT, Int.reduceNe, Int.reduceEq]
  intro b
  exact .agg (.cons (.refl _) (.cons (.refl _) (.cons (.nil _ _ _) .nil)))
theorem rEmV (w0 : W0) (S : St) : ACall Tryz.prog w0 10 [] S (fun e S' => e = eL emN [] ∧ S' = S) := by
  refine fnS [] mx Tryz.func10 rfl rfl (by kernel_rfl) ?_; simp (maxDischargeDepth := 12) (maxSteps := 1000000) -implicitDefEqProofs only [Tryz.ntmps10, go_sem, Nat.reduceAdd, Nat.reduceSub, Nat.reduceMul, Nat.reduceLeDiff, Nat.reduceEqDiff, Nat.reduceGT, Nat.reduceBEq, reduceCtorEq, ↓reduceIte, Int.reduceToNat, Int.reduceLE, Int.reduceLT, Int.reduceNe, Int.reduceEq]
  intro b
  refine use1 (rEm w0 _) ?_
  simp (maxDischargeDepth := 12) (maxSteps := 1000000) -implicitDefEqProofs only [go_sem, Nat.reduceAdd, Nat.reduceSub, Nat.reduceMul, Nat.reduceLeDiff, Nat.reduceEqDiff, Nat.reduceGT, Nat.reduceBEq, reduceCtorEq, ↓reduceIte, Int.reduceToNat, Int.reduceLE, Int.reduceLT, Int.reduceNe, Int.reduceEq]
set_option maxHeartbeats 8000000 in
theorem rMake (w0 : W0) (k : Nat) (name : ByteArray) (n : N) (l : List C) (S : St) (h : VI k n l) (hk : k ≤ 200) : ACall Tryz.prog w0 12 [eL n l, dS name] S (fun d S' => d = .tup [eL (mkV name n l).1.1 (mkV name n l).1.2, dI (mkV name n l).2] ∧ S' = S) := by
  have hln := h.len
  have hdir := h.dir
  have hrise := h.rise
  clear h
  have hil := idx_le l name
  have hput := fun (a : name.size ≤ 16) S => tbPutR w0 (key := name) (val := nwS) hdir hk a (by decide) S
  have q1 : okKey name = false → mkV name n l = ((n, l), 34) := fun e => by unfold mkV; rw [e]; rfl
  have q2 : okKey name = true → hasN l name = true → mkV name n l = ((n, l), 38) := fun e f => by unfold mkV; rw [e, f]; rfl
  have q3 : okKey name = true → hasN l name = false → mkV name n l = ((Put name nwS n, l.take (idxN l name) ++ [cellN name emN] ++ l.drop (idxN l name)), 0) := fun e f => by unfold mkV; rw [e, f]; rfl
  have g1 := fi_yes (l := l) (name := name)
  have g2 := fi_no (l := l) (name := name)
  have hfi := rFind w0 n l name
  generalize Put name nwS n = D at *
  generalize mkV name n l = R at *
  generalize fiV l name = F at *
  refine fnS [] mx Tryz.func12 rfl rfl (by kernel_rfl) ?_; simp (maxDischargeDepth := 12) (maxSteps := 1000000) -implicitDefEqProofs only [Tryz.ntmps12, go_sem, Nat.reduceAdd, Nat.reduceSub, Nat.reduceMul, Nat.reduceLeDiff, Nat.reduceEqDiff, Nat.reduceGT, Nat.reduceBEq, reduceCtorEq, ↓reduceIte, Int.reduceToNat, Int.reduceLE, Int.reduceLT, Int.reduceNe, Int.reduceEq]
  intro b b1
  refine use1 (rKey w0 name _) ?_
  simp (maxDischargeDepth := 12) (maxSteps := 1000000) -implicitDefEqProofs only [go_sem, Nat.reduceAdd, Nat.reduceSub, Nat.reduceMul, Nat.reduceLeDiff, Nat.reduceEqDiff, Nat.reduceGT, Nat.reduceBEq, reduceCtorEq, ↓reduceIte, Int.reduceToNat, Int.reduceLE, Int.reduceLT, Int.reduceNe, Int.reduceEq]
  cases hok : okKey name with
  | false =>
    rw [q1 hok]
    simp (maxDischargeDepth := 12) (maxSteps := 1000000) -implicitDefEqProofs only [go_sem, Nat.reduceAdd, Nat.reduceSub, Nat.reduceMul, Nat.reduceLeDiff, Nat.reduceEqDiff, Nat.reduceGT, Nat.reduceBEq, reduceCtorEq, ↓reduceIte, Int.reduceToNat, Int.reduceLE, Int.reduceLT, Int.reduceNe, Int.reduceEq]
  | true =>
    simp (maxDischargeDepth := 12) (maxSteps := 1000000) -implicitDefEqProofs only [go_sem, Nat.reduceAdd, Nat.reduceSub, Nat.reduceMul, Nat.reduceLeDiff, Nat.reduceEqDiff, Nat.reduceGT, Nat.reduceBEq, reduceCtorEq, ↓reduceIte, Int.reduceToNat, Int.reduceLE, Int.reduceLT, Int.reduceNe, Int.reduceEq]
    refine use1 (hfi _ hrise (by omega)) ?_
    simp (maxDischargeDepth := 12) (maxSteps := 1000000) -implicitDefEqProofs only [go_sem, Nat.reduceAdd, Nat.reduceSub, Nat.reduceMul, Nat.reduceLeDiff, Nat.reduceEqDiff, Nat.reduceGT, Nat.reduceBEq, reduceCtorEq, ↓reduceIte, Int.reduceToNat, Int.reduceLE, Int.reduceLT, Int.reduceNe, Int.reduceEq]
    cases hh : hasN l name with
    | true =>
      have := g1 hh
      rw [q2 hok hh]
      exact ⟨fun _ => .refl _, fun hn => absurd (by omega) hn⟩
    | false =>
      have := g2 hh
      rw [q3 hok hh]
      refine ⟨fun hn => absurd hn (by omega), fun _ => ?_⟩
      refine loopN [] (idxN l name) [1, 2, 4, 7] (fun k => [(7, dI k)]) (fun _ => ⟨(b1.n, [.v (.int .i64 0), .v (.bool false), .sl 0 true [], .sl 0 true []]) :: (b.n, [dI n.page, dB n.leaf, .sl 4 false (n.l.map dC), .sl 4 false (l.map dBl)]) :: S.box, S.acc⟩) (fun _ => True) mx (by kernel_rfl) ?_ ?_
      · simp (maxDischargeDepth := 12) (maxSteps := 1000000) -implicitDefEqProofs only [go_sem, Nat.reduceAdd, Nat.reduceSub, Nat.reduceMul, Nat.reduceLeDiff, Nat.reduceEqDiff, Nat.reduceGT, Nat.reduceBEq, reduceCtorEq, ↓reduceIte, Int.reduceToNat, Int.reduceLE, Int.reduceLT, Int.reduceNe, Int.reduceEq]
      · intro j hj _
        simp (maxDischargeDepth := 12) (maxSteps := 1000000) -implicitDefEqProofs only [go_sem, Nat.reduceAdd, Nat.reduceSub, Nat.reduceMul, Nat.reduceLeDiff, Nat.reduceEqDiff, Nat.reduceGT, Nat.reduceBEq, reduceCtorEq, ↓reduceIte, Int.reduceToNat, Int.reduceLE, Int.reduceLT, Int.reduceNe, Int.reduceEq]
        have hmul : min j l.length * 56 ≤ 140737488355328 := by omega
        have hmx : min j l.length ≤ maxLen := by unfold maxLen; omega
        refine ⟨fun hlt => ⟨hlt, fun a ha => ⟨fun hl => ⟨?_, i_oneV j (by omega)⟩, fun hl => ⟨by omega, hmul, hmx, fun b2 => ?_⟩⟩⟩, fun hge => ⟨by omega, hmul, hmx, fun b2 => ?_⟩⟩
        · refine Nat.lt_of_le_of_ne hj fun e => ?_
          subst e
          rw [idx_stop ha] at hl; cases hl
        · have hj2 : j = idxN l name := Nat.le_antisymm hj (Nat.le_of_not_lt fun h => by rw [idx_lt h ha] at hl; cases hl)
          have hm8 : maxLen = 9223372036854775807 := rfl
          refine use1 (rEm w0 _) ?_
          simp (maxDischargeDepth := 12) (maxSteps := 1000000) -implicitDefEqProofs only [go_sem, Nat.reduceAdd, Nat.reduceSub, Nat.reduceMul, Nat.reduceLeDiff, Nat.reduceEqDiff, Nat.reduceGT, Nat.reduceBEq, reduceCtorEq, ↓reduceIte, Int.reduceToNat, Int.reduceLE, Int.reduceLT, Int.reduceNe, Int.reduceEq]
          refine ⟨by omega, by omega, by omega, by omega, by omega, use1 (hput (okKey_ne hok).2 _) ?_⟩
          simp (maxDischargeDepth := 12) (maxSteps := 1000000) -implicitDefEqProofs only [go_sem, Nat.reduceAdd, Nat.reduceSub, Nat.reduceMul, Nat.reduceLeDiff, Nat.reduceEqDiff, Nat.reduceGT, Nat.reduceBEq, reduceCtorEq, ↓reduceIte, Int.reduceToNat, Int.reduceLE, Int.reduceLT, Int.reduceNe, Int.reduceEq]
          rw [← hj2, List.map_append, List.map_append]
          exact .refl _
        · have hj2 : j = idxN l name := by omega
          have hm8 : maxLen = 9223372036854775807 := rfl
          refine use1 (rEm w0 _) ?_
          simp (maxDischargeDepth := 12) (maxSteps := 1000000) -implicitDefEqProofs only [go_sem, Nat.reduceAdd, Nat.reduceSub, Nat.reduceMul, Nat.reduceLeDiff, Nat.reduceEqDiff, Nat.reduceGT, Nat.reduceBEq, reduceCtorEq, ↓reduceIte, Int.reduceToNat, Int.reduceLE, Int.reduceLT, Int.reduceNe, Int.reduceEq]
          refine ⟨by omega, by omega, by omega, by omega, by omega, use1 (hput (okKey_ne hok).2 _) ?_⟩
          simp (maxDischargeDepth := 12) (maxSteps := 1000000) -implicitDefEqProofs only [go_sem, Nat.reduceAdd, Nat.reduceSub, Nat.reduceMul, Nat.reduceLeDiff, Nat.reduceEqDiff, Nat.reduceGT, Nat.reduceBEq, reduceCtorEq, ↓reduceIte, Int.reduceToNat, Int.reduceLE, Int.reduceLT, Int.reduceNe, Int.reduceEq]
          rw [← hj2, List.map_append, List.map_append]
          exact .refl _
end Go.Proofs.YtfieabidajilmaaGreat
