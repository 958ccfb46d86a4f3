/-
  HandlesApart is true wherever it is called: for arguments of bulk at most 1048576. By an AI agent.
-/
import Derived.Test.YtodndiioekjjoaaMH6
import Derived.Test.YtodndiioekjjoaaMH5
namespace Go.Proofs.Ytodndiioekjjoaa
open Aml Go Go.RowKit Go.ChangeShapes Go.WideShapes Go.ChangeAt
set_option linter.unusedVariables false
set_option linter.unusedSimpArgs false
set_option maxRecDepth 100000
/-- The sessions of one level. -/
def atL (L : Int) (w : List RH) : List RH := w.filter fun s => decide (s.lv = L)
theorem atL_len (L : Int) (w : List RH) : (atL L w).length ≤ w.length := List.length_filter_le _ _
theorem cn_at (L : Int) (w : List RH) : cnH (atL L w) L = cnH w L := by
  unfold cnH atL
  rw [List.countP_filter]
  congr 1
  funext s
  simp
theorem op_at (L : Int) (w : List RH) : atL L (opH w L).1 = (opH (atL L w) L).1 ∧ (opH w L).2 = (opH (atL L w) L).2 := by
  unfold opH
  rw [cn_at]
  refine ⟨?_, rfl⟩
  simp only
  unfold atL
  rw [List.filter_append]
  simp
theorem op_not {L lv : Int} (h : ¬ lv = L) (w : List RH) : atL L (opH w lv).1 = atL L w := by
  unfold opH atL
  simp only
  rw [List.filter_append]
  simp [h]
/-- Setting a session anew, seen at its level. -/
theorem set_at {L : Int} : ∀ {w : List RH} {i : Nat} {s r : RH}, w[i]? = some s → s.lv = L → r.lv = L → ∃ j, (atL L w)[j]? = some s ∧ atL L (w.set i r) = (atL L w).set j r ∧ ∀ p : RH → Bool, (∀ a, p a = true → a.lv = L) → w.findIdx p = i → (atL L w).findIdx p = j
  | [], i, s, r, h, _, _ => by simp at h
  | x :: w, 0, s, r, h, e1, e2 => by
    cases h
    refine ⟨0, by unfold atL; rw [List.filter_cons, if_pos (by simpa using e1)]; rfl, ?_, fun p hp hi => ?_⟩
    · unfold atL
      rw [List.set_cons_zero, List.filter_cons, List.filter_cons, if_pos (by simpa using e2), if_pos (by simpa using e1), List.set_cons_zero]
    · unfold atL
      rw [List.filter_cons, if_pos (by simpa using e1), List.findIdx_cons]
      rw [List.findIdx_cons] at hi
      cases q : p x with
      | true => rfl
      | false => rw [q] at hi; simp at hi
  | x :: w, i + 1, s, r, h, e1, e2 => by
    obtain ⟨j, h1, h2, h3⟩ := set_at (w := w) (i := i) (r := r) (by simpa using h) e1 e2
    by_cases q : x.lv = L
    · refine ⟨j + 1, by unfold atL at h1 ⊢; rw [List.filter_cons, if_pos (by simpa using q)]; simpa using h1, ?_, fun p hp hi => ?_⟩
      · unfold atL at h2 ⊢
        rw [List.set_cons_succ, List.filter_cons, List.filter_cons, if_pos (by simpa using q), if_pos (by simpa using q), h2, List.set_cons_succ]
      · have hi2 : w.findIdx p = i ∧ p x = false := by
          rw [List.findIdx_cons] at hi
          cases q2 : p x with
          | true => rw [q2] at hi; simp at hi
          | false => rw [q2] at hi; simp at hi; exact ⟨hi, rfl⟩
        have := h3 p hp hi2.1
        unfold atL at this ⊢
        rw [List.filter_cons, if_pos (by simpa using q), List.findIdx_cons, hi2.2, this]; rfl
    · refine ⟨j, by unfold atL at h1 ⊢; rw [List.filter_cons, if_neg (by simpa using q)]; exact h1, ?_, fun p hp hi => ?_⟩
      · unfold atL at h2 ⊢
        rw [List.set_cons_succ, List.filter_cons, List.filter_cons, if_neg (by simpa using q), if_neg (by simpa using q), h2]
      · have hi2 : w.findIdx p = i := by
          rw [List.findIdx_cons] at hi
          cases q2 : p x with
          | true => exact absurd (hp x q2) q
          | false => rw [q2] at hi; simpa using hi
        have := h3 p hp hi2
        unfold atL at this ⊢
        rw [List.filter_cons, if_neg (by simpa using q)]; exact this
theorem set_not {L : Int} : ∀ {w : List RH} {i : Nat} {s r : RH}, w[i]? = some s → ¬ s.lv = L → ¬ r.lv = L → atL L (w.set i r) = atL L w
  | [], i, s, r, h, _, _ => by simp at h
  | x :: w, 0, s, r, h, e1, e2 => by
    cases h
    unfold atL
    rw [List.set_cons_zero, List.filter_cons, List.filter_cons, if_neg (by simpa using e2), if_neg (by simpa using e1)]
  | x :: w, i + 1, s, r, h, e1, e2 => by
    have := set_not (w := w) (i := i) (r := r) (by simpa using h) e1 e2
    unfold atL at this ⊢
    rw [List.set_cons_succ, List.filter_cons, List.filter_cons, this]
theorem ixh_lv {L n : Int} (a : RH) (h : isH L n a = true) : a.lv = L := (isH_iff.1 h).1
theorem ix_atN {L n : Int} {w : List RH} : (ixH (atL L w) L n < (atL L w).length) ↔ ixH w L n < w.length := by
  unfold ixH
  rw [List.findIdx_lt_length, List.findIdx_lt_length]
  unfold atL
  constructor
  · rintro ⟨a, ha, h⟩
    exact ⟨a, (List.mem_filter.1 ha).1, h⟩
  · rintro ⟨a, ha, h⟩
    exact ⟨a, List.mem_filter.2 ⟨ha, by simpa using ixh_lv a h⟩, h⟩
/-- Where a session stands, in all and at its level. -/
theorem at_get {L n : Int} {w : List RH} (h : ixH w L n < w.length) (r : RH) (hr : r.lv = L) : ∃ s, w[ixH w L n]? = some s ∧ (atL L w)[ixH (atL L w) L n]? = some s ∧ s.lv = L ∧ atL L (w.set (ixH w L n) r) = (atL L w).set (ixH (atL L w) L n) r := by
  obtain ⟨s, hs, _⟩ := ix_get h
  obtain ⟨e1, e2, e3⟩ := ix_some hs
  obtain ⟨j, h1, h2, h3⟩ := set_at (r := r) hs e1 hr
  have : ixH (atL L w) L n = j := h3 (isH L n) (fun a => ixh_lv a) rfl
  exact ⟨s, hs, by rw [this]; exact h1, e1, by rw [this]; exact h2⟩
theorem cl_at (L n : Int) (w : List RH) : atL L (clH w L n).1 = (clH (atL L w) L n).1 ∧ (clH w L n).2 = (clH (atL L w) L n).2 := by
  unfold clH
  by_cases h : ixH w L n < w.length
  · obtain ⟨s, h1, h2, h3, h4⟩ := at_get h ⟨L, n, [], 0, true⟩ rfl
    rw [if_pos h, if_pos (ix_atN.2 h)]
    exact ⟨h4, rfl⟩
  · rw [if_neg h, if_neg (fun q => h (ix_atN.1 q))]
    exact ⟨rfl, rfl⟩
theorem cl_not {L lv n : Int} (h : ¬ lv = L) (w : List RH) : atL L (clH w lv n).1 = atL L w := by
  unfold clH
  split
  · rename_i q
    obtain ⟨s, hs, _⟩ := ix_get q
    obtain ⟨e1, _, _⟩ := ix_some hs
    exact set_not hs (by rw [e1]; exact h) h
  · rfl
theorem sn_at (L n : Int) (w : List RH) : atL L (snH w L n).1 = (snH (atL L w) L n).1 ∧ (snH w L n).2 = (snH (atL L w) L n).2 := by
  unfold snH
  by_cases h : ixH w L n < w.length
  · obtain ⟨s0, hs0, _⟩ := ix_get h
    obtain ⟨e1, _, _⟩ := ix_some hs0
    obtain ⟨s, h1, h2, h3, h4⟩ := at_get h (snS s0) e1
    rw [h1] at hs0
    cases hs0
    rw [h1, h2]
    exact ⟨h4, rfl⟩
  · rw [List.getElem?_eq_none (by omega), List.getElem?_eq_none (Nat.le_of_not_lt fun q => h (ix_atN.1 q))]
    exact ⟨rfl, rfl⟩
theorem sn_not {L lv n : Int} (h : ¬ lv = L) (w : List RH) : atL L (snH w lv n).1 = atL L w := by
  unfold snH
  split
  · rename_i s hs
    obtain ⟨e1, _, _⟩ := ix_some hs
    exact set_not hs (by rw [e1]; exact h) (by show ¬ s.lv = L; rw [e1]; exact h)
  · rfl
theorem un_at (L n x : Int) (w : List RH) : atL L (unH w L n x).1 = (unH (atL L w) L n x).1 ∧ (unH w L n x).2 = (unH (atL L w) L n x).2 := by
  unfold unH
  by_cases h : ixH w L n < w.length
  · obtain ⟨s0, hs0, _⟩ := ix_get h
    obtain ⟨e1, _, _⟩ := ix_some hs0
    obtain ⟨s, h1, h2, h3, h4⟩ := at_get h ⟨s0.lv, s0.n, lfL x s0.sn, s0.last, s0.gone⟩ e1
    rw [h1] at hs0
    cases hs0
    rw [h1, h2]
    simp only
    split
    · exact ⟨rfl, rfl⟩
    · exact ⟨h4, rfl⟩
  · rw [List.getElem?_eq_none (by omega), List.getElem?_eq_none (Nat.le_of_not_lt fun q => h (ix_atN.1 q))]
    exact ⟨rfl, rfl⟩
theorem un_not {L lv n x : Int} (h : ¬ lv = L) (w : List RH) : atL L (unH w lv n x).1 = atL L w := by
  unfold unH
  split
  · rename_i s hs
    obtain ⟨e1, _, _⟩ := ix_some hs
    split
    · rfl
    · exact set_not hs (by rw [e1]; exact h) (by show ¬ s.lv = L; rw [e1]; exact h)
  · rfl
theorem ss_at (L n : Int) (w : List RH) : ssH w L n = ssH (atL L w) L n := by
  unfold ssH
  by_cases h : ixH w L n < w.length
  · obtain ⟨s, h1, h2, h3, h4⟩ := at_get h ⟨L, n, [], 0, true⟩ rfl
    rw [h1, h2]
  · rw [List.getElem?_eq_none (by omega), List.getElem?_eq_none (Nat.le_of_not_lt fun q => h (ix_atN.1 q))]
theorem LaB.at {w : List RH} {k : Int} (h : LaB w k) (L : Int) : LaB (atL L w) k := fun s hs => h s (List.mem_filter.1 hs).1
/-- What is open at a level is what is open, of that level. -/
theorem hdA_at {w : List RH} (hw : WOk w) (L : Int) (hv : WOk (atL L w)) : hdA (atL L w) = (hdA w).filter fun a => decide (a.1 = L) := by
  refine rise_uniqH (hdA_rise hv) ((hdA_rise hw).sublist List.filter_sublist) fun x => ?_
  obtain ⟨lv, n⟩ := x
  rw [mem_hdA hv, List.mem_filter, mem_hdA hw]
  simp only [decide_eq_true_eq]
  constructor
  · intro h
    obtain ⟨s, hs, _⟩ := ix_get h
    have e1 := (ix_some hs).1
    have e2 : s.lv = L := by
      have := (List.mem_filter.1 (List.mem_of_getElem? hs)).2
      simpa using this
    have e : lv = L := e1.symm.trans e2
    subst e
    exact ⟨ix_atN.1 h, rfl⟩
  · rintro ⟨h, rfl⟩
    exact ix_atN.2 h
end Go.Proofs.Ytodndiioekjjoaa

namespace Go.Proofs.Ytodndiioekjjoaa
open Aml Go Go.RowKit Go.ChangeShapes Go.WideShapes Go.ChangeAt
set_option linter.unusedVariables false
set_option linter.unusedSimpArgs false
set_option maxRecDepth 100000
/-- Two tables, apart. -/
structure Tw (S : St) (t u : Nat) (θ φ : TbG) (w v : List RH) : Prop where
  a : TI S θ w
  b : TI S φ v
  d : Dj θ φ
  et : θ.t = t
  eu : φ.t = u
theorem Tw.stepL {S S' : St} {t u : Nat} {θ θ' φ : TbG} {w w' v : List RH} (h : Tw S t u θ φ w v) (h1 : TI S' θ' w') (f : FrT S S' θ θ') : Tw S' t u θ' φ w' v := ⟨h1, h.b.other h.d f, h.d.step f h.b, f.t.trans h.et, h.eu⟩
theorem Tw.stepR {S S' : St} {t u : Nat} {θ φ φ' : TbG} {w v v' : List RH} (h : Tw S t u θ φ w v) (h1 : TI S' φ' v') (f : FrT S S' φ φ') : Tw S' t u θ φ' w v' := ⟨h.a.other h.d.symm f, h1, (h.d.symm.step f h.a).symm, h.et, f.t.trans h.eu⟩
theorem Tw.consB {B : List (Nat × List DV)} {A : List (Nat × Ob)} {t u : Nat} {θ φ : TbG} {w v : List RH} (h : Tw ⟨B, A⟩ t u θ φ w v) {b : Nat} (hb : lk B b = none) (ds : List DV) : Tw ⟨(b, ds) :: B, A⟩ t u θ φ w v := ⟨h.a.consB hb ds, h.b.consB hb ds, h.d, h.et, h.eu⟩
theorem op_atE {L lv : Int} (h : lv = L) (w : List RH) : atL L (opH w lv).1 = (opH (atL L w) lv).1 ∧ (opH w lv).2 = (opH (atL L w) lv).2 := by subst h; exact op_at _ _
theorem cl_atE {L lv : Int} (h : lv = L) (n : Int) (w : List RH) : atL L (clH w lv n).1 = (clH (atL L w) lv n).1 ∧ (clH w lv n).2 = (clH (atL L w) lv n).2 := by subst h; exact cl_at _ _ _
theorem sn_atE {L lv : Int} (h : lv = L) (n : Int) (w : List RH) : atL L (snH w lv n).1 = (snH (atL L w) lv n).1 ∧ (snH w lv n).2 = (snH (atL L w) lv n).2 := by subst h; exact sn_at _ _ _
theorem un_atE {L lv : Int} (h : lv = L) (n x : Int) (w : List RH) : atL L (unH w lv n x).1 = (unH (atL L w) lv n x).1 ∧ (unH w lv n x).2 = (unH (atL L w) lv n x).2 := by subst h; exact un_at _ _ _ _
structure RwH where
  k : Nat
  w : List RH
  θ : TbG
  φ : TbG
  T : St
structure SxH where
  w : List RH
  a : Int
  b : Int
  is : Bool
  was : Bool
  θ : TbG
  φ : TbG
  T : St
def cfL (L : Int) (x : List (Int × Int)) : List (Int × Int) := x.filter fun a => decide (a.1 = L)
theorem cfL_no {L : Int} {x : List (Int × Int)} {i : Nat} {a : Int × Int} (h : x[i]? = some a) (hn : ¬ a.1 = L) : cfL L (x.take (i + 1)) = cfL L (x.take i) := by
  unfold cfL
  rw [List.take_add_one, h, Option.toList_some, List.filter_append]
  simp [hn]
theorem cfL_is {L : Int} {x : List (Int × Int)} {i : Nat} {a : Int × Int} (h : x[i]? = some a) (hn : a.1 = L) : cfL L (x.take (i + 1)) = cfL L (x.take i) ++ [a] := by
  unfold cfL
  rw [List.take_add_one, h, Option.toList_some, List.filter_append]
  simp [hn]
theorem cfL_le (L : Int) (x : List (Int × Int)) (i : Nat) : (cfL L (x.take i)).length ≤ i := by
  have := List.length_filter_le (fun a : Int × Int => decide (a.1 = L)) (x.take i)
  rw [List.length_take] at this
  unfold cfL; omega
theorem cfL_at {L : Int} {x : List (Int × Int)} {i : Nat} {a : Int × Int} (h : x[i]? = some a) (hn : a.1 = L) : (cfL L x)[(cfL L (x.take i)).length]? = some a := by
  have e : cfL L x = cfL L (x.take (i + 1)) ++ cfL L (x.drop (i + 1)) := by
    unfold cfL
    rw [← List.filter_append, List.take_append_drop]
  rw [e, cfL_is h hn, List.append_assoc, List.getElem?_append_right (Nat.le_refl _), Nat.sub_self]
  rfl
set_option maxHeartbeats 16000000 in
theorem apartH (w0 : W0) (l : List StH) (L : Int) (h0 : l.length ≤ 1048576) : ACall Try.prog w0 4 [.sl 4 false (l.map dStH), dI L] ⟨[], []⟩ (fun d S' => d = dB true ∧ S' = ⟨[], []⟩) := by
  refine fnS [1002] mx Try.func4 rfl rfl (by kernel_rfl) ?_; simp (maxDischargeDepth := 12) (maxSteps := 1000000) -implicitDefEqProofs only [Try.ntmps4, go_sem, Nat.reduceAdd, Nat.reduceSub, Nat.reduceMul, Nat.reduceLeDiff, Nat.reduceEqDiff, Nat.reduceGT, Nat.reduceBEq, reduceCtorEq, ↓reduceIte, Int.reduceToNat, Int.reduceLE, Int.reduceLT, Int.reduceNe, Int.reduceEq]
  refine use1 (awakeH w0) ?_
  simp (maxDischargeDepth := 12) (maxSteps := 1000000) -implicitDefEqProofs only [go_sem, Nat.reduceAdd, Nat.reduceSub, Nat.reduceMul, Nat.reduceLeDiff, Nat.reduceEqDiff, Nat.reduceGT, Nat.reduceBEq, reduceCtorEq, ↓reduceIte, Int.reduceToNat, Int.reduceLE, Int.reduceLT, Int.reduceNe, Int.reduceEq]
  intro hl
  refine useK (newT w0 _) ?_
  rintro _ T0 ⟨θ0, rfl, hT0, -⟩
  simp (maxDischargeDepth := 12) (maxSteps := 1000000) -implicitDefEqProofs only [go_sem, Nat.reduceAdd, Nat.reduceSub, Nat.reduceMul, Nat.reduceLeDiff, Nat.reduceEqDiff, Nat.reduceGT, Nat.reduceBEq, reduceCtorEq, ↓reduceIte, Int.reduceToNat, Int.reduceLE, Int.reduceLT, Int.reduceNe, Int.reduceEq]
  refine useK (newT w0 _) ?_
  rintro _ T1 ⟨φ0, rfl, hT1, k1, k2, k3, k4⟩
  simp (maxDischargeDepth := 12) (maxSteps := 1000000) -implicitDefEqProofs only [go_sem, Nat.reduceAdd, Nat.reduceSub, Nat.reduceMul, Nat.reduceLeDiff, Nat.reduceEqDiff, Nat.reduceGT, Nat.reduceBEq, reduceCtorEq, ↓reduceIte, Int.reduceToNat, Int.reduceLE, Int.reduceLT, Int.reduceNe, Int.reduceEq]
  have tw0 : Tw T1 θ0.t φ0.t θ0 φ0 [] [] := ⟨hT0.mono (fun c x _ hc => k1 c x hc) (fun c x _ hc => k2 c x hc), hT1, ⟨fun c h1 h2 => hT0.inb c h1 (k3 c h2), fun c h1 h2 => hT0.ina c h1 (k4 c h2)⟩, rfl, rfl⟩
  refine loopK [1002] [0, 1, 6, 7, 8] (fun s : RwH => [(8, dI s.k)]) (fun s => s.T) (fun s => s.k ≤ l.length ∧ s.w.length ≤ s.k ∧ LaB s.w s.k ∧ Tw s.T θ0.t φ0.t s.θ s.φ s.w (atL L s.w)) (fun s => l.length - s.k) ⟨0, [], θ0, φ0, T1⟩ mx (by kernel_rfl) ?_ ?_
  · refine ⟨⟨by simp, by simp, n1H 0, tw0⟩, ?_, ?_⟩
    · simp (maxDischargeDepth := 12) (maxSteps := 1000000) -implicitDefEqProofs only [go_sem, Nat.reduceAdd, Nat.reduceSub, Nat.reduceMul, Nat.reduceLeDiff, Nat.reduceEqDiff, Nat.reduceGT, Nat.reduceBEq, reduceCtorEq, ↓reduceIte, Int.reduceToNat, Int.reduceLE, Int.reduceLT, Int.reduceNe, Int.reduceEq]
    · exact .refl _
  · rintro ⟨k, w, θ, φ, T⟩ ⟨hk, hw, hla, hT⟩
    simp only at hk hw hla hT
    have e1 : IntKind.i64.wrap ((k : Int) + 1) = ((k + 1 : Nat) : Int) := i_oneH k (by omega)
    have hvl := atL_len L w
    simp (maxDischargeDepth := 12) (maxSteps := 1000000) -implicitDefEqProofs only [go_sem, Nat.reduceAdd, Nat.reduceSub, Nat.reduceMul, Nat.reduceLeDiff, Nat.reduceEqDiff, Nat.reduceGT, Nat.reduceBEq, reduceCtorEq, ↓reduceIte, Int.reduceToNat, Int.reduceLE, Int.reduceLT, Int.reduceNe, Int.reduceEq]
    refine ⟨fun hlt => ⟨hlt, fun a ha c c2 => ?_⟩, fun hge => ?_⟩
    · have hX := (hT.consB (fn_lk c) [dI a.kind, dI a.lv, dI a.n, dI a.sn]).consB (fn_lk c2) [dI a.lv, dI a.n]
      have nc := loc_nin hT.a (fn_lk c)
      have mc := loc_nin hT.b (fn_lk c)
      have nc2 := loc_nin (hT.a.consB (fn_lk c) [dI a.kind, dI a.lv, dI a.n, dI a.sn]) (fn_lk c2)
      have mc2 := loc_nin (hT.b.consB (fn_lk c) [dI a.kind, dI a.lv, dI a.n, dI a.sn]) (fn_lk c2)
      have hcc : ¬ c2.n = c.n := by simp (maxDischargeDepth := 12) (maxSteps := 1000000) -implicitDefEqProofs only [go_sem, Nat.reduceAdd, Nat.reduceSub, Nat.reduceMul, Nat.reduceLeDiff, Nat.reduceEqDiff, Nat.reduceGT, Nat.reduceBEq, reduceCtorEq, ↓reduceIte, Int.reduceToNat, Int.reduceLE, Int.reduceLT, Int.reduceNe, Int.reduceEq]
      have b1 : lk ((c2.n, [dI a.lv, dI a.n]) :: (c.n, [dI a.kind, dI a.lv, dI a.n, dI a.sn]) :: T.box) c.n = some [dI a.kind, dI a.lv, dI a.n, dI a.sn] := by simp (maxDischargeDepth := 12) (maxSteps := 1000000) -implicitDefEqProofs only [go_sem, Nat.reduceAdd, Nat.reduceSub, Nat.reduceMul, Nat.reduceLeDiff, Nat.reduceEqDiff, Nat.reduceGT, Nat.reduceBEq, reduceCtorEq, ↓reduceIte, Int.reduceToNat, Int.reduceLE, Int.reduceLT, Int.reduceNe, Int.reduceEq]
      have b2 : lk ((c2.n, [dI a.lv, dI a.n]) :: (c.n, [dI a.kind, dI a.lv, dI a.n, dI a.sn]) :: T.box) c2.n = some [dI a.lv, dI a.n] := by simp (maxDischargeDepth := 12) (maxSteps := 1000000) -implicitDefEqProofs only [go_sem, Nat.reduceAdd, Nat.reduceSub, Nat.reduceMul, Nat.reduceLeDiff, Nat.reduceEqDiff, Nat.reduceGT, Nat.reduceBEq, reduceCtorEq, ↓reduceIte, Int.reduceToNat, Int.reduceLE, Int.reduceLT, Int.reduceNe, Int.reduceEq]
      refine cutK (σ := SxH) [] [0, 1, 6, 7, 8, 9, 10, 11, 12, 13, 14, 15] (fun s => [(12, dI s.a), (13, dI s.b), (14, dB s.is), (15, dB s.was)]) (fun s => s.T) (fun s => s.w.length ≤ k + 1 ∧ LaB s.w ((k + 1 : Nat) : Int) ∧ Tw s.T θ0.t φ0.t s.θ s.φ s.w (atL L s.w) ∧ (a.lv = L → s.a = s.b ∧ s.is = s.was) ∧ lk s.T.box c.n = some [dI a.kind, dI a.lv, dI a.n, dI a.sn] ∧ lk s.T.box c2.n = some [dI a.lv, dI a.n]) mx (by kernel_rfl) ?_ ?_
      · have kk : ((k : Int) + 1) = ((k + 1 : Nat) : Int) := by omega
        have hlv := hla.at L
        simp (maxDischargeDepth := 12) (maxSteps := 1000000) -implicitDefEqProofs only [go_sem, Nat.reduceAdd, Nat.reduceSub, Nat.reduceMul, Nat.reduceLeDiff, Nat.reduceEqDiff, Nat.reduceGT, Nat.reduceBEq, reduceCtorEq, ↓reduceIte, Int.reduceToNat, Int.reduceLE, Int.reduceLT, Int.reduceNe, Int.reduceEq, b1]
        refine ⟨fun z => ?_, fun z => ⟨fun z1 => ?_, fun z1 => ⟨fun z2 => ?_, fun z2 => ⟨fun z3 => ?_, fun z3 => ⟨fun z4 => ?_, fun z4 => ?_⟩⟩⟩⟩⟩
        · refine useK (openU w0 hX.a hX.et (by omega) a.lv) ?_
          rintro _ T1 ⟨rfl, θ1, h1, f1, q1⟩
          have d1 := f1.box _ _ nc b1
          have d2 := f1.box _ _ nc2 b2
          have tw := hX.stepL h1 f1
          have l1 : (opH w a.lv).1.length ≤ k + 1 := by rw [opH_len]; omega
          have l2 : LaB (opH w a.lv).1 ((k + 1 : Nat) : Int) := kk ▸ hla.op (by omega) a.lv
          simp (maxDischargeDepth := 12) (maxSteps := 1000000) -implicitDefEqProofs only [go_sem, Nat.reduceAdd, Nat.reduceSub, Nat.reduceMul, Nat.reduceLeDiff, Nat.reduceEqDiff, Nat.reduceGT, Nat.reduceBEq, reduceCtorEq, ↓reduceIte, Int.reduceToNat, Int.reduceLE, Int.reduceLT, Int.reduceNe, Int.reduceEq, d1]
          refine ⟨fun hL => ?_, fun hL => ?_⟩
          · have p := op_atE hL w
            refine useK (openU w0 tw.b tw.eu (by omega) a.lv) ?_
            rintro _ T2 ⟨rfl, φ1, h2, f2, q2⟩
            simp (maxDischargeDepth := 12) (maxSteps := 1000000) -implicitDefEqProofs only [go_sem, Nat.reduceAdd, Nat.reduceSub, Nat.reduceMul, Nat.reduceLeDiff, Nat.reduceEqDiff, Nat.reduceGT, Nat.reduceBEq, reduceCtorEq, ↓reduceIte, Int.reduceToNat, Int.reduceLE, Int.reduceLT, Int.reduceNe, Int.reduceEq]
            exact ⟨⟨(opH w a.lv).1, (opH w a.lv).2, (opH w a.lv).2, false, false, θ1, φ1, T2⟩, ⟨l1, l2, p.1 ▸ tw.stepR h2 f2, fun _ => ⟨rfl, rfl⟩, f2.box _ _ mc d1, f2.box _ _ mc2 d2⟩, ⟨rfl, p.2.symm, rfl, rfl⟩, .refl _⟩
          · exact ⟨⟨(opH w a.lv).1, (opH w a.lv).2, 0, false, false, θ1, φ, T1⟩, ⟨l1, l2, (op_not hL w).symm ▸ tw, fun q => absurd q hL, d1, d2⟩, ⟨rfl, rfl, rfl, rfl⟩, .refl _⟩
        · refine useK (closeU w0 hX.a hX.et a.lv a.n) ?_
          rintro _ T1 ⟨rfl, h1, f1⟩
          have d1 := f1.box _ _ nc b1
          have d2 := f1.box _ _ nc2 b2
          have tw := hX.stepL h1 f1
          have l1 : (clH w a.lv a.n).1.length ≤ k + 1 := by rw [clH_len]; omega
          have l2 : LaB (clH w a.lv a.n).1 ((k + 1 : Nat) : Int) := kk ▸ hla.cl (by omega) a.lv a.n
          simp (maxDischargeDepth := 12) (maxSteps := 1000000) -implicitDefEqProofs only [go_sem, Nat.reduceAdd, Nat.reduceSub, Nat.reduceMul, Nat.reduceLeDiff, Nat.reduceEqDiff, Nat.reduceGT, Nat.reduceBEq, reduceCtorEq, ↓reduceIte, Int.reduceToNat, Int.reduceLE, Int.reduceLT, Int.reduceNe, Int.reduceEq, d1, d2]
          refine ⟨fun hL => ?_, fun hL => ?_⟩
          · have p := cl_atE hL a.n w
            refine useK (closeU w0 tw.b tw.eu a.lv a.n) ?_
            rintro _ T2 ⟨rfl, h2, f2⟩
            simp (maxDischargeDepth := 12) (maxSteps := 1000000) -implicitDefEqProofs only [go_sem, Nat.reduceAdd, Nat.reduceSub, Nat.reduceMul, Nat.reduceLeDiff, Nat.reduceEqDiff, Nat.reduceGT, Nat.reduceBEq, reduceCtorEq, ↓reduceIte, Int.reduceToNat, Int.reduceLE, Int.reduceLT, Int.reduceNe, Int.reduceEq]
            exact ⟨⟨(clH w a.lv a.n).1, 0, 0, (clH w a.lv a.n).2, (clH w a.lv a.n).2, θ, φ, T2⟩, ⟨l1, l2, p.1 ▸ tw.stepR h2 f2, fun _ => ⟨rfl, rfl⟩, f2.box _ _ mc d1, f2.box _ _ mc2 d2⟩, ⟨rfl, rfl, rfl, p.2.symm⟩, .refl _⟩
          · exact ⟨⟨(clH w a.lv a.n).1, 0, 0, (clH w a.lv a.n).2, false, θ, φ, T1⟩, ⟨l1, l2, (cl_not hL w).symm ▸ tw, fun q => absurd q hL, d1, d2⟩, ⟨rfl, rfl, rfl, rfl⟩, .refl _⟩
        · refine useK (snapU w0 hX.a hX.et hla (by omega) a.lv a.n) ?_
          rintro _ T1 ⟨rfl, h1, f1⟩
          have d1 := f1.box _ _ nc b1
          have d2 := f1.box _ _ nc2 b2
          have tw := hX.stepL h1 f1
          have l1 : (snH w a.lv a.n).1.length ≤ k + 1 := by rw [snH_len]; omega
          have l2 : LaB (snH w a.lv a.n).1 ((k + 1 : Nat) : Int) := kk ▸ hla.sn a.lv a.n
          simp (maxDischargeDepth := 12) (maxSteps := 1000000) -implicitDefEqProofs only [go_sem, Nat.reduceAdd, Nat.reduceSub, Nat.reduceMul, Nat.reduceLeDiff, Nat.reduceEqDiff, Nat.reduceGT, Nat.reduceBEq, reduceCtorEq, ↓reduceIte, Int.reduceToNat, Int.reduceLE, Int.reduceLT, Int.reduceNe, Int.reduceEq, d1, d2]
          refine ⟨fun hL => ?_, fun hL => ?_⟩
          · have p := sn_atE hL a.n w
            refine useK (snapU w0 tw.b tw.eu hlv (by omega) a.lv a.n) ?_
            rintro _ T2 ⟨rfl, h2, f2⟩
            simp (maxDischargeDepth := 12) (maxSteps := 1000000) -implicitDefEqProofs only [go_sem, Nat.reduceAdd, Nat.reduceSub, Nat.reduceMul, Nat.reduceLeDiff, Nat.reduceEqDiff, Nat.reduceGT, Nat.reduceBEq, reduceCtorEq, ↓reduceIte, Int.reduceToNat, Int.reduceLE, Int.reduceLT, Int.reduceNe, Int.reduceEq]
            exact ⟨⟨(snH w a.lv a.n).1, (snH w a.lv a.n).2, (snH w a.lv a.n).2, false, false, θ, φ, T2⟩, ⟨l1, l2, p.1 ▸ tw.stepR h2 f2, fun _ => ⟨rfl, rfl⟩, f2.box _ _ mc d1, f2.box _ _ mc2 d2⟩, ⟨rfl, p.2.symm, rfl, rfl⟩, .refl _⟩
          · exact ⟨⟨(snH w a.lv a.n).1, (snH w a.lv a.n).2, 0, false, false, θ, φ, T1⟩, ⟨l1, l2, (sn_not hL w).symm ▸ tw, fun q => absurd q hL, d1, d2⟩, ⟨rfl, rfl, rfl, rfl⟩, .refl _⟩
        · refine useK (unsnapU w0 hX.a hX.et a.lv a.n a.sn) ?_
          rintro _ T1 ⟨rfl, h1, f1⟩
          have d1 := f1.box _ _ nc b1
          have d2 := f1.box _ _ nc2 b2
          have tw := hX.stepL h1 f1
          have l1 : (unH w a.lv a.n a.sn).1.length ≤ k + 1 := by rw [unH_len]; omega
          have l2 : LaB (unH w a.lv a.n a.sn).1 ((k + 1 : Nat) : Int) := kk ▸ hla.un a.lv a.n a.sn
          simp (maxDischargeDepth := 12) (maxSteps := 1000000) -implicitDefEqProofs only [go_sem, Nat.reduceAdd, Nat.reduceSub, Nat.reduceMul, Nat.reduceLeDiff, Nat.reduceEqDiff, Nat.reduceGT, Nat.reduceBEq, reduceCtorEq, ↓reduceIte, Int.reduceToNat, Int.reduceLE, Int.reduceLT, Int.reduceNe, Int.reduceEq, d1, d2]
          refine ⟨fun hL => ?_, fun hL => ?_⟩
          · have p := un_atE hL a.n a.sn w
            refine useK (unsnapU w0 tw.b tw.eu a.lv a.n a.sn) ?_
            rintro _ T2 ⟨rfl, h2, f2⟩
            simp (maxDischargeDepth := 12) (maxSteps := 1000000) -implicitDefEqProofs only [go_sem, Nat.reduceAdd, Nat.reduceSub, Nat.reduceMul, Nat.reduceLeDiff, Nat.reduceEqDiff, Nat.reduceGT, Nat.reduceBEq, reduceCtorEq, ↓reduceIte, Int.reduceToNat, Int.reduceLE, Int.reduceLT, Int.reduceNe, Int.reduceEq]
            exact ⟨⟨(unH w a.lv a.n a.sn).1, 0, 0, (unH w a.lv a.n a.sn).2, (unH w a.lv a.n a.sn).2, θ, φ, T2⟩, ⟨l1, l2, p.1 ▸ tw.stepR h2 f2, fun _ => ⟨rfl, rfl⟩, f2.box _ _ mc d1, f2.box _ _ mc2 d2⟩, ⟨rfl, rfl, rfl, p.2.symm⟩, .refl _⟩
          · exact ⟨⟨(unH w a.lv a.n a.sn).1, 0, 0, (unH w a.lv a.n a.sn).2, false, θ, φ, T1⟩, ⟨l1, l2, (un_not hL w).symm ▸ tw, fun q => absurd q hL, d1, d2⟩, ⟨rfl, rfl, rfl, rfl⟩, .refl _⟩
        · refine useK (resetU w0 hX.a hX.et) ?_
          rintro _ T1 ⟨θ1, h1, f1, q1⟩
          have d1 := f1.box _ _ nc b1
          have d2 := f1.box _ _ nc2 b2
          have tw := hX.stepL h1 f1
          simp (maxDischargeDepth := 12) (maxSteps := 1000000) -implicitDefEqProofs only [go_sem, Nat.reduceAdd, Nat.reduceSub, Nat.reduceMul, Nat.reduceLeDiff, Nat.reduceEqDiff, Nat.reduceGT, Nat.reduceBEq, reduceCtorEq, ↓reduceIte, Int.reduceToNat, Int.reduceLE, Int.reduceLT, Int.reduceNe, Int.reduceEq]
          refine useK (resetU w0 tw.b tw.eu) ?_
          rintro _ T2 ⟨φ1, h2, f2, q2⟩
          simp (maxDischargeDepth := 12) (maxSteps := 1000000) -implicitDefEqProofs only [go_sem, Nat.reduceAdd, Nat.reduceSub, Nat.reduceMul, Nat.reduceLeDiff, Nat.reduceEqDiff, Nat.reduceGT, Nat.reduceBEq, reduceCtorEq, ↓reduceIte, Int.reduceToNat, Int.reduceLE, Int.reduceLT, Int.reduceNe, Int.reduceEq]
          exact ⟨⟨[], 0, 0, false, false, θ1, φ1, T2⟩, ⟨by simp, n1H _, tw.stepR h2 f2, fun _ => ⟨rfl, rfl⟩, f2.box _ _ mc d1, f2.box _ _ mc2 d2⟩, ⟨rfl, rfl, rfl, rfl⟩, .refl _⟩
        · exact ⟨⟨w, 0, 0, false, false, θ, φ, _⟩, ⟨by show w.length ≤ k + 1; omega, kk ▸ hla.up, hX, fun _ => ⟨rfl, rfl⟩, b1, b2⟩, ⟨rfl, rfl, rfl, rfl⟩, .refl _⟩
      · rintro ⟨w1, r1, r2, is, was, θ1, φ1, T1⟩ ⟨g1, g2, g3, g4, g5, g6⟩
        simp only at g1 g2 g3 g4 g5 g6
        have fin : ∃ s : RwH, (s.k ≤ l.length ∧ s.w.length ≤ s.k ∧ LaB s.w s.k ∧ Tw s.T θ0.t φ0.t s.θ s.φ s.w (atL L s.w)) ∧ l.length - s.k < l.length - k ∧ IntKind.i64.wrap ((k : Int) + 1) = s.k ∧ Aml.Sub s.T T1 := ⟨⟨k + 1, w1, θ1, φ1, T1⟩, ⟨hlt, g1, g2, g3⟩, by show l.length - (k + 1) < l.length - k; omega, e1, .refl _⟩
        have hl2 := g2.at L
        simp (maxDischargeDepth := 12) (maxSteps := 1000000) -implicitDefEqProofs only [go_sem, Nat.reduceAdd, Nat.reduceSub, Nat.reduceMul, Nat.reduceLeDiff, Nat.reduceEqDiff, Nat.reduceGT, Nat.reduceBEq, reduceCtorEq, ↓reduceIte, Int.reduceToNat, Int.reduceLE, Int.reduceLT, Int.reduceNe, Int.reduceEq, g5, g6]
        refine ⟨fun hL => ?_, fun _ => fin⟩
        have q := g4 hL
        have hix : decide (ixH (atL L w1) a.lv a.n < (atL L w1).length) = decide (ixH w1 a.lv a.n < w1.length) := by
          rw [hL]; exact decide_eq_decide.2 ix_atN
        have hss : ssH (atL L w1) a.lv a.n = ssH w1 a.lv a.n := by
          rw [hL]; exact (ss_at L a.n w1).symm
        have v2 := hasU w0 g3.b g3.eu a.lv a.n
        rw [hix] at v2
        have v4 := snapsU w0 g3.b g3.eu hl2 (by omega) a.lv a.n
        rw [hss] at v4
        refine ⟨fun q5 => q5 q.1, fun _ => ⟨fun q5 => ?_, fun _ => ?_⟩⟩
        · rw [q.2] at q5
          simp at q5
        · refine useQ (hasU w0 g3.a g3.et a.lv a.n) ?_
          simp (maxDischargeDepth := 12) (maxSteps := 1000000) -implicitDefEqProofs only [go_sem, Nat.reduceAdd, Nat.reduceSub, Nat.reduceMul, Nat.reduceLeDiff, Nat.reduceEqDiff, Nat.reduceGT, Nat.reduceBEq, reduceCtorEq, ↓reduceIte, Int.reduceToNat, Int.reduceLE, Int.reduceLT, Int.reduceNe, Int.reduceEq, g5, g6]
          refine useQ v2 ?_
          simp (maxDischargeDepth := 12) (maxSteps := 1000000) -implicitDefEqProofs only [go_sem, Nat.reduceAdd, Nat.reduceSub, Nat.reduceMul, Nat.reduceLeDiff, Nat.reduceEqDiff, Nat.reduceGT, Nat.reduceBEq, reduceCtorEq, ↓reduceIte, Int.reduceToNat, Int.reduceLE, Int.reduceLT, Int.reduceNe, Int.reduceEq, g5, g6]
          refine useQ (snapsU w0 g3.a g3.et g2 (by omega) a.lv a.n) ?_
          simp (maxDischargeDepth := 12) (maxSteps := 1000000) -implicitDefEqProofs only [go_sem, Nat.reduceAdd, Nat.reduceSub, Nat.reduceMul, Nat.reduceLeDiff, Nat.reduceEqDiff, Nat.reduceGT, Nat.reduceBEq, reduceCtorEq, ↓reduceIte, Int.reduceToNat, Int.reduceLE, Int.reduceLT, Int.reduceNe, Int.reduceEq, g5, g6]
          refine useQ v4 ?_
          simp (maxDischargeDepth := 12) (maxSteps := 1000000) -implicitDefEqProofs only [go_sem, Nat.reduceAdd, Nat.reduceSub, Nat.reduceMul, Nat.reduceLeDiff, Nat.reduceEqDiff, Nat.reduceGT, Nat.reduceBEq, reduceCtorEq, ↓reduceIte, Int.reduceToNat, Int.reduceLE, Int.reduceLT, Int.reduceNe, Int.reduceEq]
          have hsl : (ssH w1 a.lv a.n).length ≤ 4611686018427387904 := by
            unfold ssH
            split
            · rename_i s hs
              have := sn_len g3.a g2 (List.mem_of_getElem? hs)
              omega
            · simp
          refine useQ (ints3 w0 (ssH w1 a.lv a.n) (ssH w1 a.lv a.n) _ hsl) ?_
          simp (maxDischargeDepth := 12) (maxSteps := 1000000) -implicitDefEqProofs only [go_sem, Nat.reduceAdd, Nat.reduceSub, Nat.reduceMul, Nat.reduceLeDiff, Nat.reduceEqDiff, Nat.reduceGT, Nat.reduceBEq, reduceCtorEq, ↓reduceIte, Int.reduceToNat, Int.reduceLE, Int.reduceLT, Int.reduceNe, Int.reduceEq]
          exact fin
    · have hy := hdA_at hT.a.ok L hT.b.ok
      have hx := hdA_le w
      refine use1 (allU w0 hT.a hT.et (by omega)) ?_
      simp (maxDischargeDepth := 12) (maxSteps := 1000000) -implicitDefEqProofs only [go_sem, Nat.reduceAdd, Nat.reduceSub, Nat.reduceMul, Nat.reduceLeDiff, Nat.reduceEqDiff, Nat.reduceGT, Nat.reduceBEq, reduceCtorEq, ↓reduceIte, Int.reduceToNat, Int.reduceLE, Int.reduceLT, Int.reduceNe, Int.reduceEq]
      refine use1 (allU w0 hT.b hT.eu (by omega)) ?_
      have hy : hdA (atL L w) = cfL L (hdA w) := hy
      rw [hy]
      simp (maxDischargeDepth := 12) (maxSteps := 1000000) -implicitDefEqProofs only [go_sem, Nat.reduceAdd, Nat.reduceSub, Nat.reduceMul, Nat.reduceLeDiff, Nat.reduceEqDiff, Nat.reduceGT, Nat.reduceBEq, reduceCtorEq, ↓reduceIte, Int.reduceToNat, Int.reduceLE, Int.reduceLT, Int.reduceNe, Int.reduceEq]
      refine loopN [] (hdA w).length [1, 16, 17, 18, 19] (fun i => [(18, dI (cfL L ((hdA w).take i)).length), (19, dI i)]) (fun _ => T) (fun _ => True) mx (by kernel_rfl) ?_ ?_
      · simp (maxDischargeDepth := 12) (maxSteps := 1000000) -implicitDefEqProofs only [go_sem, Nat.reduceAdd, Nat.reduceSub, Nat.reduceMul, Nat.reduceLeDiff, Nat.reduceEqDiff, Nat.reduceGT, Nat.reduceBEq, reduceCtorEq, ↓reduceIte, Int.reduceToNat, Int.reduceLE, Int.reduceLT, Int.reduceNe, Int.reduceEq]
        rfl
      · intro i hi _
        have hc := cfL_le L (hdA w) i
        have e2 : IntKind.i64.wrap ((i : Int) + 1) = ((i + 1 : Nat) : Int) := i_oneH i (by omega)
        have e3 : IntKind.i64.wrap (((cfL L ((hdA w).take i)).length : Int) + 1) = (((cfL L ((hdA w).take i)).length + 1 : Nat) : Int) := i_oneH _ (by omega)
        simp (maxDischargeDepth := 12) (maxSteps := 1000000) -implicitDefEqProofs only [go_sem, Nat.reduceAdd, Nat.reduceSub, Nat.reduceMul, Nat.reduceLeDiff, Nat.reduceEqDiff, Nat.reduceGT, Nat.reduceBEq, reduceCtorEq, ↓reduceIte, Int.reduceToNat, Int.reduceLE, Int.reduceLT, Int.reduceNe, Int.reduceEq]
        refine ⟨fun hlt => ⟨hlt, fun x hx => ?_⟩, fun hge => ?_⟩
        · refine ⟨fun hn => ⟨hlt, by rw [cfL_no hx hn], e2⟩, fun hn => ?_⟩
          have hL : x.1 = L := Decidable.not_not.1 hn
          have hat := cfL_at hx hL
          have hlen := (List.getElem?_eq_some_iff.1 hat).1
          refine ⟨fun h => by omega, fun _ => ⟨hlen, fun y hy2 => ⟨hlt, fun z hz => ⟨fun _ => ⟨hlt, ?_, e2⟩, fun h => ?_⟩⟩⟩⟩
          · rw [e3, cfL_is hx hL, List.length_append]; rfl
          · cases getE hat hy2
            cases getE hx hz
            simp at h
        · exact ⟨by rw [List.take_of_length_le (by omega)], sub0 _⟩
theorem handlesApart_own : ownKnob Try.prog.godebug = none := by kernel_rfl
set_option maxHeartbeats 1000000 in
theorem handlesApart_contract (H : Type) (enc : TypeId × Value → H) (W : World) (base : Nat) (args : Array Value) (ds gs : List (DataW H)) (before : List MemPlace)
    (hval : ∀ (j : Nat) t v, Try.f4.params[j]? = some t → args[j]? = some v → Value.okWide Try.prog W .any base t v)
    (hW : DataW.Whole enc Try.prog Try.f4.params.toList Rows.handlesApartSpec.vars false W args.toList ds gs before) (hk : Rows.uptoBulkAll (ds ++ gs) ≤ 1048576) :
    Calls Try.prog 4 args W fun e W' => ∃ v, e = .returned v ∧ Rows.handlesApartSpec.post enc Try.prog Try.f4 false true false false W args v W' :=
  law_contract enc (ts := [22, 3]) (tb := 4) (rdA_one rdStHs (by kernel_rfl) (rdA_one (rd_i64 Try.underlying3) (by kernel_rfl) rdA_nil)) Try.params4 rfl Try.underlying4 rfl (by kernel_rfl) (by intro t ht; revert t; decide +kernel) (fun ds hd => by
    first
    | (match ds, hd with | [_], _ => rfl)
    | (match ds, hd with | [_, _], _ => rfl)
    | (match ds, hd with | [_, _, _], _ => rfl)
    | (match ds, hd with | [_, _, _, _], _ => rfl)) (fun a ha hs => (apartH W a.1 a.2.1 (by omega)).mono fun d S' h => h.1) base args ds gs before hval hW hk
set_option maxRecDepth 100000 in
theorem handlesApart_lifted (os : Os) (started : os.Started) (H : Type) (enc : TypeId × Value → H) (F : Stop.Interp) :
    ReturnsInHanded {} Try.checked os 4 .any ((Rows.OpenSpec.upto Rows.handlesApartSpec).pre6 enc Try.prog Try.f4 Rows.handlesApartUptoRow.domain false) (((Rows.OpenSpec.upto Rows.handlesApartSpec).at F).post enc Try.prog Try.f4 false true false false) := by
  refine returnsInHanded_of_cond (C := Try.checked) (s := Rows.OpenSpec.upto Rows.handlesApartSpec) (k := Rows.uptoSmall) rfl handlesApart_own started (by kernel_rfl) Try.func4
    (OpenSpec.witness (enc := enc) (C := Try.checked) (s := Rows.OpenSpec.upto Rows.handlesApartSpec) (k := Rows.uptoSmall) rfl false ⟨#[], #[.slice none 0 0, .int .i64 0], []⟩ 8 (by kernel_rfl) (by kernel_rfl) (by kernel_rfl)
      (x := ([.nil, .lit (.int .i64 0)], [], [])) (by kernel_rfl) rfl (by kernel_rfl)) ?_
  intro W base args ds gs before hval hW _ hk _
  exact handlesApart_contract H enc W base args ds gs before hval hW (of_decide_eq_true hk)
/-- THE STATEMENT. -/
theorem handlesApart_holds : Rows.HandlesApartUptoSaid :=
  OpenClaim.holds_of_cond 4 Try.f4 rfl rfl rfl rfl rfl rfl rfl ⟨rfl, rfl, rfl, rfl, rfl⟩ rfl rfl rfl rfl rfl (by kernel_rfl) Try.func4 (by kernel_rfl)
    (of_decide_eq_true (by kernel_rfl)) (by unfold Func.isWrapper; first | (rw [if_pos (by decide +kernel)]; kernel_rfl) | (rw [if_neg (by decide +kernel)]; exact ⟨rfl, rfl⟩))
    (fun os started H enc _ F => handlesApart_lifted os started H enc F)

end Go.Proofs.Ytodndiioekjjoaa
