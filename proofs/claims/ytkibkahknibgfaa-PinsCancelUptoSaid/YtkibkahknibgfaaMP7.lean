/-
  PinsCancel is true wherever it is called: for arguments of bulk at most 1048576. By an AI agent.
-/
import Derived.Test.YtkibkahknibgfaaMP6
namespace Go.Proofs.Ytkibkahknibgfaa
open Aml Go Go.RowKit Go.ChangeShapes Go.WideShapes Go.ChangeAt
set_option linter.unusedVariables false
set_option linter.unusedSimpArgs false
set_option maxRecDepth 100000
theorem pinP_perm (w : List Int) (v : Int) : (pinP w v).Perm (v :: w) := by
  have h := List.perm_middle (a := v) (l₁ := w.take (atP w v)) (l₂ := w.drop (atP w v))
  rw [List.take_append_drop] at h
  unfold pinP
  simpa using h
theorem up_perm {a b : List Int} (ha : a.Pairwise (· ≤ ·)) (hb : b.Pairwise (· ≤ ·)) (h : a.Perm b) : a = b :=
  List.Perm.eq_of_pairwise (fun x y _ _ h1 h2 => Int.le_antisymm h1 h2) ha hb h
theorem sum_zero' (d : List Int) : (d.map fun _ => 0).sum = 0 := by
  induction d with
  | nil => rfl
  | cons y d ih => simp only [List.map_cons, List.sum_cons, ih]
theorem count_sum : ∀ (w d : List Int), d.Nodup → (∀ x, x ∈ w → x ∈ d) → (d.map fun x => w.count x).sum = w.length
  | [], d, _, _ => sum_zero' d
  | a :: t, d, hd, h => by
    have ih := count_sum t d hd fun x hx => h x (List.mem_cons_of_mem _ hx)
    have h1 : ∀ d : List Int, (d.map fun x => (a :: t).count x).sum = (d.map fun x => t.count x).sum + d.count a := by
      intro d
      induction d with
      | nil => rfl
      | cons y d ih =>
        have e1 : (a :: t).count y = t.count y + if a = y then 1 else 0 := by rw [List.count_cons]; simp
        have e2 : (y :: d).count a = d.count a + if a = y then 1 else 0 := by
          rw [List.count_cons]
          by_cases e : a = y
          · subst e; simp
          · have e' : ¬ y = a := fun q => e q.symm
            simp [e, e']
        rw [List.map_cons, List.map_cons, List.sum_cons, List.sum_cons, ih, e1, e2]
        omega
    rw [h1, ih, List.length_cons]
    have h2 : d.count a = 1 := by
      have := List.nodup_iff_count.1 hd a
      have := List.count_pos_iff.2 (h a List.mem_cons_self)
      omega
    omega
/-- Two pins. -/
def St2 (S : St) (b1 b2 m1 m2 : Nat) (o1 o2 : Ob) : St := ⟨(b2, [.mp m2]) :: (b1, [.mp m1]) :: S.box, (m2, o2) :: (m1, o1) :: S.acc⟩
theorem pin1 (w0 : W0) {S : St} {b1 b2 m1 m2 : Nat} {o1 o2 : Ob} {w w' : List Int} (hm : ¬ m2 = m1) (h : PP (St2 S b1 b2 m1 m2 o1 o2) b1 m1 w) (k : PP (St2 S b1 b2 m1 m2 o1 o2) b2 m2 w') (hf : w.length < 1048576) (v : Int) : ACall Try.prog w0 16 [pt0 b1, dU v] (St2 S b1 b2 m1 m2 o1 o2) (fun d S' => d = .tup [] ∧ ∃ o', S' = St2 S b1 b2 m1 m2 o' o2 ∧ PP S' b1 m1 (pinP w v) ∧ PP S' b2 m2 w') := by
  refine ACall.mono (pinX w0 h hf v) ?_
  rintro d S' ⟨rfl, o', rfl, h'⟩
  have e : up ((m2, o2) :: (m1, o1) :: S.acc) m1 o' = (m2, o2) :: (m1, o') :: S.acc := by simp [up, hm]
  have k' := PP_other k (m' := m1) (fun e => hm e.symm) o'
  unfold St2 at h' k' ⊢
  rw [e] at h' k'
  exact ⟨rfl, o', by rw [e], by rw [e]; exact h', by rw [e]; exact k'⟩
theorem pin2 (w0 : W0) {S : St} {b1 b2 m1 m2 : Nat} {o1 o2 : Ob} {w w' : List Int} (hm : ¬ m2 = m1) (h : PP (St2 S b1 b2 m1 m2 o1 o2) b1 m1 w) (k : PP (St2 S b1 b2 m1 m2 o1 o2) b2 m2 w') (hf : w'.length < 1048576) (v : Int) : ACall Try.prog w0 16 [pt0 b2, dU v] (St2 S b1 b2 m1 m2 o1 o2) (fun d S' => d = .tup [] ∧ ∃ o', S' = St2 S b1 b2 m1 m2 o1 o' ∧ PP S' b1 m1 w ∧ PP S' b2 m2 (pinP w' v)) := by
  refine ACall.mono (pinX w0 k hf v) ?_
  rintro d S' ⟨rfl, o', rfl, k'⟩
  have e : up ((m2, o2) :: (m1, o1) :: S.acc) m2 o' = (m2, o') :: (m1, o1) :: S.acc := by simp [up]
  have h' := PP_other h (m' := m2) hm o'
  unfold St2 at h' k' ⊢
  rw [e] at h' k'
  exact ⟨rfl, o', by rw [e], by rw [e]; exact h', by rw [e]; exact k'⟩
theorem unpin1 (w0 : W0) {S : St} {b1 b2 m1 m2 : Nat} {o1 o2 : Ob} {w w' : List Int} (hm : ¬ m2 = m1) (h : PP (St2 S b1 b2 m1 m2 o1 o2) b1 m1 w) (k : PP (St2 S b1 b2 m1 m2 o1 o2) b2 m2 w') (v : Int) (hv : v ∈ w) : ACall Try.prog w0 19 [pt0 b1, dU v] (St2 S b1 b2 m1 m2 o1 o2) (fun d S' => d = dB true ∧ ∃ o', S' = St2 S b1 b2 m1 m2 o' o2 ∧ PP S' b1 m1 (w.erase v) ∧ PP S' b2 m2 w') := by
  refine ACall.mono (unpinX w0 h v) ?_
  rw [unP_spec, if_pos hv]
  rintro d S' ⟨rfl, o', rfl, h'⟩
  have e : up ((m2, o2) :: (m1, o1) :: S.acc) m1 o' = (m2, o2) :: (m1, o') :: S.acc := by simp [up, hm]
  have k' := PP_other k (m' := m1) (fun e => hm e.symm) o'
  unfold St2 at h' k' ⊢
  rw [e] at h' k'
  exact ⟨rfl, o', by rw [e], by rw [e]; exact h', by rw [e]; exact k'⟩
structure Cu where
  k : Nat
  w : List Int
  w' : List Int
  o : Ob
  o' : Ob
theorem take_perm {l w : List Int} {k : Nat} {v : Int} (h : w.Perm (l.take k)) (hv : l[k]? = some v) : (pinP w v).Perm (l.take (k + 1)) := by
  rw [List.take_add_one, hv, Option.toList_some]
  exact (pinP_perm w v).trans ((h.cons v).trans (List.perm_append_singleton v _).symm)
set_option maxHeartbeats 16000000 in
theorem cancels (w0 : W0) (l more : List Int) (S : St) (h0 : l.length ≤ 1048576) (h1 : more.length ≤ 1048576) : ACall Try.prog w0 4 [uL l, uL more] S (fun d S' => d = dB true ∧ S' = S) := by
  refine fnS [] mx Try.func4 rfl rfl (by kernel_rfl) ?_; simp (maxDischargeDepth := 12) (maxSteps := 1000000) -implicitDefEqProofs only [Try.ntmps4, go_sem, Nat.reduceAdd, Nat.reduceSub, Nat.reduceMul, Nat.reduceLeDiff, Nat.reduceEqDiff, Nat.reduceGT, Nat.reduceBEq, reduceCtorEq, ↓reduceIte, Int.reduceToNat, Int.reduceLE, Int.reduceLT, Int.reduceNe, Int.reduceEq]
  refine use1 (awakeP w0 _) ?_
  simp (maxDischargeDepth := 12) (maxSteps := 1000000) -implicitDefEqProofs only [go_sem, Nat.reduceAdd, Nat.reduceSub, Nat.reduceMul, Nat.reduceLeDiff, Nat.reduceEqDiff, Nat.reduceGT, Nat.reduceBEq, reduceCtorEq, ↓reduceIte, Int.reduceToNat, Int.reduceLE, Int.reduceLT, Int.reduceNe, Int.reduceEq]
  intro hl hl2
  refine useK (newX w0 _) ?_
  rintro _ _ ⟨m1, b1, rfl, rfl⟩
  have hA := PP.new (S := S) (l := m1.n) (b := b1.n)
  simp (maxDischargeDepth := 12) (maxSteps := 1000000) -implicitDefEqProofs only [go_sem, Nat.reduceAdd, Nat.reduceSub, Nat.reduceMul, Nat.reduceLeDiff, Nat.reduceEqDiff, Nat.reduceGT, Nat.reduceBEq, reduceCtorEq, ↓reduceIte, Int.reduceToNat, Int.reduceLE, Int.reduceLT, Int.reduceNe, Int.reduceEq]
  refine useK (newX w0 _) ?_
  rintro _ _ ⟨m2, b2, rfl, rfl⟩
  have hB := PP.new (S := ⟨(b1.n, [.mp m1.n]) :: S.box, (m1.n, .xo (.mp (.int .u64) [] 0)) :: S.acc⟩) (l := m2.n) (b := b2.n)
  have hm : ¬ m2.n = m1.n := by simp (maxDischargeDepth := 12) (maxSteps := 1000000) -implicitDefEqProofs only [go_sem, Nat.reduceAdd, Nat.reduceSub, Nat.reduceMul, Nat.reduceLeDiff, Nat.reduceEqDiff, Nat.reduceGT, Nat.reduceBEq, reduceCtorEq, ↓reduceIte, Int.reduceToNat, Int.reduceLE, Int.reduceLT, Int.reduceNe, Int.reduceEq]
  have hb : ¬ b2.n = b1.n := by simp (maxDischargeDepth := 12) (maxSteps := 1000000) -implicitDefEqProofs only [go_sem, Nat.reduceAdd, Nat.reduceSub, Nat.reduceMul, Nat.reduceLeDiff, Nat.reduceEqDiff, Nat.reduceGT, Nat.reduceBEq, reduceCtorEq, ↓reduceIte, Int.reduceToNat, Int.reduceLE, Int.reduceLT, Int.reduceNe, Int.reduceEq]
  have hA' : PP (St2 S b1.n b2.n m1.n m2.n (.xo (.mp (.int .u64) [] 0)) (.xo (.mp (.int .u64) [] 0))) b1.n m1.n [] := ⟨by unfold St2; simp (maxDischargeDepth := 12) (maxSteps := 1000000) -implicitDefEqProofs only [go_sem, Nat.reduceAdd, Nat.reduceSub, Nat.reduceMul, Nat.reduceLeDiff, Nat.reduceEqDiff, Nat.reduceGT, Nat.reduceBEq, reduceCtorEq, ↓reduceIte, Int.reduceToNat, Int.reduceLE, Int.reduceLT, Int.reduceNe, Int.reduceEq], hA.up, hA.few, by
    obtain ⟨es, clk, h1, h2⟩ := hA.mp
    refine ⟨es, clk, ?_, h2⟩
    unfold St2
    rw [← h1]
    simp (maxDischargeDepth := 12) (maxSteps := 1000000) -implicitDefEqProofs only [go_sem, Nat.reduceAdd, Nat.reduceSub, Nat.reduceMul, Nat.reduceLeDiff, Nat.reduceEqDiff, Nat.reduceGT, Nat.reduceBEq, reduceCtorEq, ↓reduceIte, Int.reduceToNat, Int.reduceLE, Int.reduceLT, Int.reduceNe, Int.reduceEq]⟩
  simp (maxDischargeDepth := 12) (maxSteps := 1000000) -implicitDefEqProofs only [go_sem, Nat.reduceAdd, Nat.reduceSub, Nat.reduceMul, Nat.reduceLeDiff, Nat.reduceEqDiff, Nat.reduceGT, Nat.reduceBEq, reduceCtorEq, ↓reduceIte, Int.reduceToNat, Int.reduceLE, Int.reduceLT, Int.reduceNe, Int.reduceEq]
  refine loopK [] [0, 1, 6, 7, 8] (fun s : Cu => [(8, dI s.k)]) (fun s => St2 S b1.n b2.n m1.n m2.n s.o s.o') (fun s => s.k ≤ l.length ∧ s.w.Perm (l.take s.k) ∧ s.w'.Perm (l.reverse.take s.k) ∧ PP (St2 S b1.n b2.n m1.n m2.n s.o s.o') b1.n m1.n s.w ∧ PP (St2 S b1.n b2.n m1.n m2.n s.o s.o') b2.n m2.n s.w') (fun s => l.length - s.k) ⟨0, [], [], .xo (.mp (.int .u64) [] 0), .xo (.mp (.int .u64) [] 0)⟩ mx (by kernel_rfl) ?_ ?_
  · refine ⟨⟨by simp, by simp, by simp, hA', hB⟩, ?_, ?_⟩
    · simp (maxDischargeDepth := 12) (maxSteps := 1000000) -implicitDefEqProofs only [go_sem, Nat.reduceAdd, Nat.reduceSub, Nat.reduceMul, Nat.reduceLeDiff, Nat.reduceEqDiff, Nat.reduceGT, Nat.reduceBEq, reduceCtorEq, ↓reduceIte, Int.reduceToNat, Int.reduceLE, Int.reduceLT, Int.reduceNe, Int.reduceEq]
    · exact .refl _
  · rintro ⟨k, w, w', o, o'⟩ ⟨hk, hw, hw', hP, hQ⟩
    simp only at hk hw hw' hP hQ
    have e1 : IntKind.i64.wrap ((k : Int) + 1) = ((k + 1 : Nat) : Int) := i_one k (by omega)
    simp (maxDischargeDepth := 12) (maxSteps := 1000000) -implicitDefEqProofs only [go_sem, Nat.reduceAdd, Nat.reduceSub, Nat.reduceMul, Nat.reduceLeDiff, Nat.reduceEqDiff, Nat.reduceGT, Nat.reduceBEq, reduceCtorEq, ↓reduceIte, Int.reduceToNat, Int.reduceLE, Int.reduceLT, Int.reduceNe, Int.reduceEq]
    refine ⟨fun hlt => ⟨hlt, fun a ha => ?_⟩, fun hge => ?_⟩
    · have hwl := hw.length_eq
      have hwl' := hw'.length_eq
      rw [List.length_take] at hwl hwl'
      rw [List.length_reverse] at hwl'
      have e3 : IntKind.i64.wrap ((l.length : Int) - 1) = ((l.length - 1 : Nat) : Int) := by rw [w64 (by omega) (by omega)]; omega
      have e4 : IntKind.i64.wrap (((l.length - 1 : Nat) : Int) - k) = ((l.length - 1 - k : Nat) : Int) := by rw [w64 (by omega) (by omega)]; omega
      refine useK (pin1 w0 hm hP hQ (by omega) a) ?_
      rintro _ _ ⟨rfl, o1, rfl, hP1, hQ1⟩
      simp (maxDischargeDepth := 12) (maxSteps := 1000000) -implicitDefEqProofs only [go_sem, Nat.reduceAdd, Nat.reduceSub, Nat.reduceMul, Nat.reduceLeDiff, Nat.reduceEqDiff, Nat.reduceGT, Nat.reduceBEq, reduceCtorEq, ↓reduceIte, Int.reduceToNat, Int.reduceLE, Int.reduceLT, Int.reduceNe, Int.reduceEq, e3, e4]
      refine ⟨by omega, fun a' ha' => ?_⟩
      refine useK (pin2 w0 hm hP1 hQ1 (by omega) a') ?_
      rintro _ _ ⟨rfl, o2, rfl, hP2, hQ2⟩
      simp (maxDischargeDepth := 12) (maxSteps := 1000000) -implicitDefEqProofs only [go_sem, Nat.reduceAdd, Nat.reduceSub, Nat.reduceMul, Nat.reduceLeDiff, Nat.reduceEqDiff, Nat.reduceGT, Nat.reduceBEq, reduceCtorEq, ↓reduceIte, Int.reduceToNat, Int.reduceLE, Int.reduceLT, Int.reduceNe, Int.reduceEq]
      have hr : l.reverse[k]? = some a' := by rw [List.getElem?_reverse hlt]; exact ha'
      exact ⟨⟨k + 1, pinP w a, pinP w' a', o1, o2⟩, ⟨hlt, take_perm hw ha, take_perm hw' hr, hP2, hQ2⟩, by show l.length - (k + 1) < l.length - k; omega, e1, .refl _⟩
    · have hkl : k = l.length := by omega
      subst hkl
      rw [List.take_length] at hw
      rw [List.take_of_length_le (by simp)] at hw'
      have hwq : w'.Perm l := hw'.trans (List.reverse_perm l)
      clear hw'
      refine loopK [] [0, 1, 6, 7, 9] (fun s : Cu => [(9, dI s.k)]) (fun s => St2 S b1.n b2.n m1.n m2.n s.o o') (fun s => s.k ≤ more.length ∧ s.w.Perm (more.take s.k ++ l) ∧ PP (St2 S b1.n b2.n m1.n m2.n s.o o') b1.n m1.n s.w ∧ PP (St2 S b1.n b2.n m1.n m2.n s.o o') b2.n m2.n w') (fun s => more.length - s.k) ⟨0, w, [], o, .xo (.mp (.int .u64) [] 0)⟩ mx (by kernel_rfl) ?_ ?_
      · refine ⟨⟨by simp, by simpa using hw, hP, hQ⟩, ?_, ?_⟩
        · simp (maxDischargeDepth := 12) (maxSteps := 1000000) -implicitDefEqProofs only [go_sem, Nat.reduceAdd, Nat.reduceSub, Nat.reduceMul, Nat.reduceLeDiff, Nat.reduceEqDiff, Nat.reduceGT, Nat.reduceBEq, reduceCtorEq, ↓reduceIte, Int.reduceToNat, Int.reduceLE, Int.reduceLT, Int.reduceNe, Int.reduceEq]
        · exact .refl _
      · rintro ⟨k, w, u1, o, u2⟩ ⟨hk, hw, hP, hQ⟩
        simp only at hk hw hP hQ
        have e1 : IntKind.i64.wrap ((k : Int) + 1) = ((k + 1 : Nat) : Int) := i_one k (by omega)
        simp (maxDischargeDepth := 12) (maxSteps := 1000000) -implicitDefEqProofs only [go_sem, Nat.reduceAdd, Nat.reduceSub, Nat.reduceMul, Nat.reduceLeDiff, Nat.reduceEqDiff, Nat.reduceGT, Nat.reduceBEq, reduceCtorEq, ↓reduceIte, Int.reduceToNat, Int.reduceLE, Int.reduceLT, Int.reduceNe, Int.reduceEq]
        refine ⟨fun hlt => ⟨hlt, fun a ha => ?_⟩, fun hge => ?_⟩
        · have hwl := hw.length_eq
          rw [List.length_append, List.length_take] at hwl
          refine useK (pin1 w0 hm hP hQ (by omega) a) ?_
          rintro _ _ ⟨rfl, o1, rfl, hP1, hQ1⟩
          simp (maxDischargeDepth := 12) (maxSteps := 1000000) -implicitDefEqProofs only [go_sem, Nat.reduceAdd, Nat.reduceSub, Nat.reduceMul, Nat.reduceLeDiff, Nat.reduceEqDiff, Nat.reduceGT, Nat.reduceBEq, reduceCtorEq, ↓reduceIte, Int.reduceToNat, Int.reduceLE, Int.reduceLT, Int.reduceNe, Int.reduceEq]
          refine ⟨⟨k + 1, pinP w a, [], o1, o1⟩, ⟨hlt, ?_, hP1, hQ1⟩, by show more.length - (k + 1) < more.length - k; omega, e1, .refl _⟩
          show (pinP w a).Perm (more.take (k + 1) ++ l)
          rw [List.take_add_one, ha, Option.toList_some, List.append_assoc]
          exact (pinP_perm w a).trans ((hw.cons a).trans List.perm_middle.symm)
        · have hkl : k = more.length := by omega
          subst hkl
          rw [List.take_length] at hw
          refine loopK [] [0, 1, 6, 7, 10] (fun s : Cu => [(10, dI s.k)]) (fun s => St2 S b1.n b2.n m1.n m2.n s.o o') (fun s => s.k ≤ more.length ∧ s.w.Perm (more.drop s.k ++ l) ∧ PP (St2 S b1.n b2.n m1.n m2.n s.o o') b1.n m1.n s.w ∧ PP (St2 S b1.n b2.n m1.n m2.n s.o o') b2.n m2.n w') (fun s => more.length - s.k) ⟨0, w, [], o, .xo (.mp (.int .u64) [] 0)⟩ mx (by kernel_rfl) ?_ ?_
          · refine ⟨⟨by simp, by simpa using hw, hP, hQ⟩, ?_, ?_⟩
            · simp (maxDischargeDepth := 12) (maxSteps := 1000000) -implicitDefEqProofs only [go_sem, Nat.reduceAdd, Nat.reduceSub, Nat.reduceMul, Nat.reduceLeDiff, Nat.reduceEqDiff, Nat.reduceGT, Nat.reduceBEq, reduceCtorEq, ↓reduceIte, Int.reduceToNat, Int.reduceLE, Int.reduceLT, Int.reduceNe, Int.reduceEq]
            · exact .refl _
          · rintro ⟨k, w, u1, o, u2⟩ ⟨hk, hw, hP, hQ⟩
            simp only at hk hw hP hQ
            have e1 : IntKind.i64.wrap ((k : Int) + 1) = ((k + 1 : Nat) : Int) := i_one k (by omega)
            simp (maxDischargeDepth := 12) (maxSteps := 1000000) -implicitDefEqProofs only [go_sem, Nat.reduceAdd, Nat.reduceSub, Nat.reduceMul, Nat.reduceLeDiff, Nat.reduceEqDiff, Nat.reduceGT, Nat.reduceBEq, reduceCtorEq, ↓reduceIte, Int.reduceToNat, Int.reduceLE, Int.reduceLT, Int.reduceNe, Int.reduceEq]
            refine ⟨fun hlt => ⟨hlt, fun a ha => ?_⟩, fun hge => ?_⟩
            · have hd : more.drop k = a :: more.drop (k + 1) := by
                obtain ⟨h1, rfl⟩ := List.getElem?_eq_some_iff.1 ha
                exact List.drop_eq_getElem_cons h1
              rw [hd, List.cons_append] at hw
              have hv : a ∈ w := hw.mem_iff.2 List.mem_cons_self
              refine useK (unpin1 w0 hm hP hQ a hv) ?_
              rintro _ _ ⟨rfl, o1, rfl, hP1, hQ1⟩
              simp (maxDischargeDepth := 12) (maxSteps := 1000000) -implicitDefEqProofs only [go_sem, Nat.reduceAdd, Nat.reduceSub, Nat.reduceMul, Nat.reduceLeDiff, Nat.reduceEqDiff, Nat.reduceGT, Nat.reduceBEq, reduceCtorEq, ↓reduceIte, Int.reduceToNat, Int.reduceLE, Int.reduceLT, Int.reduceNe, Int.reduceEq]
              refine ⟨⟨k + 1, w.erase a, [], o1, o1⟩, ⟨hlt, ?_, hP1, hQ1⟩, by show more.length - (k + 1) < more.length - k; omega, e1, .refl _⟩
              show (w.erase a).Perm (more.drop (k + 1) ++ l)
              have := hw.erase a
              rwa [List.erase_cons_head] at this
            · have hkl : k = more.length := by omega
              subst hkl
              rw [List.drop_length, List.nil_append] at hw
              have e : w' = w := up_perm hQ.up hP.up (hwq.trans hw.symm)
              subst e
              have hlen := hw.length_eq
              have hne : decide (w' ≠ []) = decide ((l.length : Int) > 0) := by
                cases w' with
                | nil => simp at hlen; simp [← hlen]
                | cons x t => simp at hlen; simp; omega
              refine use1 (oldestX w0 hP) ?_
              simp (maxDischargeDepth := 12) (maxSteps := 1000000) -implicitDefEqProofs only [go_sem, Nat.reduceAdd, Nat.reduceSub, Nat.reduceMul, Nat.reduceLeDiff, Nat.reduceEqDiff, Nat.reduceGT, Nat.reduceBEq, reduceCtorEq, ↓reduceIte, Int.reduceToNat, Int.reduceLE, Int.reduceLT, Int.reduceNe, Int.reduceEq]
              refine use1 (oldestX w0 hQ) ?_
              simp (maxDischargeDepth := 12) (maxSteps := 1000000) -implicitDefEqProofs only [go_sem, Nat.reduceAdd, Nat.reduceSub, Nat.reduceMul, Nat.reduceLeDiff, Nat.reduceEqDiff, Nat.reduceGT, Nat.reduceBEq, reduceCtorEq, ↓reduceIte, Int.reduceToNat, Int.reduceLE, Int.reduceLT, Int.reduceNe, Int.reduceEq]
              refine use1 (allS w0 hP) ?_
              simp (maxDischargeDepth := 12) (maxSteps := 1000000) -implicitDefEqProofs only [go_sem, Nat.reduceAdd, Nat.reduceSub, Nat.reduceMul, Nat.reduceLeDiff, Nat.reduceEqDiff, Nat.reduceGT, Nat.reduceBEq, reduceCtorEq, ↓reduceIte, Int.reduceToNat, Int.reduceLE, Int.reduceLT, Int.reduceNe, Int.reduceEq, hne]
              refine use1 (allS w0 hQ) ?_
              simp (maxDischargeDepth := 12) (maxSteps := 1000000) -implicitDefEqProofs only [go_sem, Nat.reduceAdd, Nat.reduceSub, Nat.reduceMul, Nat.reduceLeDiff, Nat.reduceEqDiff, Nat.reduceGT, Nat.reduceBEq, reduceCtorEq, ↓reduceIte, Int.reduceToNat, Int.reduceLE, Int.reduceLT, Int.reduceNe, Int.reduceEq]
              have hdl := ddK_len w' w'.length
              refine use1 (refSameW w0 (ddK w' w'.length) (ddK w' w'.length) _ (by omega)) ?_
              simp (maxDischargeDepth := 12) (maxSteps := 1000000) -implicitDefEqProofs only [go_sem, Nat.reduceAdd, Nat.reduceSub, Nat.reduceMul, Nat.reduceLeDiff, Nat.reduceEqDiff, Nat.reduceGT, Nat.reduceBEq, reduceCtorEq, ↓reduceIte, Int.reduceToNat, Int.reduceLE, Int.reduceLT, Int.reduceNe, Int.reduceEq]
              obtain ⟨d1, d2⟩ := ddK_spec hP.up w'.length (Nat.le_refl _)
              rw [List.take_length] at d2
              generalize hD : ddK w' w'.length = D at d1 d2 hdl ⊢
              have dn : D.Nodup := d1.imp fun h => by omega
              have hall := count_sum w' D dn fun x hx => (d2 x).2 hx
              have hcs : ∀ k, ((D.take k).map fun x => w'.count x).sum ≤ l.length := fun k => by
                have h := congrArg (fun z => (z.map fun x => w'.count x).sum) (List.take_append_drop k D)
                simp only [List.map_append, List.sum_append] at h
                omega
              refine loopN [] D.length [0, 6, 11, 15, 16, 17] (fun k => [(16, dI (((D.take k).map fun x => w'.count x).sum : Nat)), (17, dI k)]) (fun _ => St2 S b1.n b2.n m1.n m2.n o o') (fun _ => True) mx (by kernel_rfl) ?_ ?_
              · simp (maxDischargeDepth := 12) (maxSteps := 1000000) -implicitDefEqProofs only [go_sem, Nat.reduceAdd, Nat.reduceSub, Nat.reduceMul, Nat.reduceLeDiff, Nat.reduceEqDiff, Nat.reduceGT, Nat.reduceBEq, reduceCtorEq, ↓reduceIte, Int.reduceToNat, Int.reduceLE, Int.reduceLT, Int.reduceNe, Int.reduceEq]
                rfl
              · intro k hk _
                have e1 : IntKind.i64.wrap ((k : Int) + 1) = ((k + 1 : Nat) : Int) := i_one k (by omega)
                have hsu : ∀ a, D[k]? = some a → ((D.take (k + 1)).map fun x => w'.count x).sum = ((D.take k).map fun x => w'.count x).sum + w'.count a := fun a ha => by
                  rw [List.take_add_one, ha]; simp
                have hpos : ∀ a, D[k]? = some a → ¬ ((w'.count a : Int) < 1) := fun a ha => by
                  have := List.count_pos_iff.2 ((d2 a).1 (List.mem_of_getElem? ha))
                  omega
                have hhd : ∀ a, D[k]? = some a → ¬ a < w'.headD 0 := fun a ha => by
                  have hm := (d2 a).1 (List.mem_of_getElem? ha)
                  cases hwe : w' with
                  | nil => rw [hwe] at hm; cases hm
                  | cons x t =>
                    rw [hwe] at hm
                    have hs := hP.up
                    rw [hwe, List.pairwise_cons] at hs
                    rcases List.mem_cons.1 hm with rfl | q
                    · simp
                    · have := hs.1 a q; simp; omega
                simp (maxDischargeDepth := 12) (maxSteps := 1000000) -implicitDefEqProofs only [go_sem, Nat.reduceAdd, Nat.reduceSub, Nat.reduceMul, Nat.reduceLeDiff, Nat.reduceEqDiff, Nat.reduceGT, Nat.reduceBEq, reduceCtorEq, ↓reduceIte, Int.reduceToNat, Int.reduceLE, Int.reduceLT, Int.reduceNe, Int.reduceEq, e1]
                refine ⟨fun hlt => ⟨fun hk0 => ⟨hlt, fun a ha => ?_⟩, fun hk0 => ⟨hlt, fun a ha => ⟨fun hx => hhd a ha hx, fun _ => ⟨hlt, fun a3 h3 => ?_⟩⟩⟩⟩, fun hge => ⟨?_, ?_⟩⟩
                · have ep : IntKind.i64.wrap ((k : Int) - 1) = ((k - 1 : Nat) : Int) := by rw [w64 (by omega) (by omega)]; omega
                  rw [ep]
                  refine ⟨by omega, by omega, fun a' ha' => ⟨fun hle => ?_, fun _ => ⟨hlt, fun a5 h5 => ⟨fun hx => hhd a5 h5 hx, fun _ => ⟨hlt, fun a3 h3 => ?_⟩⟩⟩⟩⟩
                  · rw [Int.toNat_natCast] at ha'
                    obtain ⟨q1, rfl⟩ := List.getElem?_eq_some_iff.1 ha
                    obtain ⟨q2, rfl⟩ := List.getElem?_eq_some_iff.1 ha'
                    have := List.pairwise_iff_getElem.1 d1 (k - 1) k q2 q1 (by omega)
                    omega
                  · refine useQ (heldX w0 hP a3) ?_
                    simp (maxDischargeDepth := 12) (maxSteps := 1000000) -implicitDefEqProofs only [go_sem, Nat.reduceAdd, Nat.reduceSub, Nat.reduceMul, Nat.reduceLeDiff, Nat.reduceEqDiff, Nat.reduceGT, Nat.reduceBEq, reduceCtorEq, ↓reduceIte, Int.reduceToNat, Int.reduceLE, Int.reduceLT, Int.reduceNe, Int.reduceEq]
                    refine ⟨hpos a3 h3, fun _ => ⟨hlt, fun a4 h4 => ?_⟩⟩
                    refine use1 (heldX w0 hP a4) ?_
                    have hs := hsu a4 h4
                    have hc := hcs (k + 1)
                    rw [hs] at hc
                    have ew : IntKind.i64.wrap ((((D.take k).map fun x => w'.count x).sum : Int) + (w'.count a4 : Int)) = ((((D.take (k + 1)).map fun x => w'.count x).sum : Nat) : Int) := by
                      rw [hs, w64 (by omega) (by omega)]; omega
                    simp (maxDischargeDepth := 12) (maxSteps := 1000000) -implicitDefEqProofs only [go_sem, Nat.reduceAdd, Nat.reduceSub, Nat.reduceMul, Nat.reduceLeDiff, Nat.reduceEqDiff, Nat.reduceGT, Nat.reduceBEq, reduceCtorEq, ↓reduceIte, Int.reduceToNat, Int.reduceLE, Int.reduceLT, Int.reduceNe, Int.reduceEq, ew, e1]
                    exact hlt
                · refine useQ (heldX w0 hP a3) ?_
                  simp (maxDischargeDepth := 12) (maxSteps := 1000000) -implicitDefEqProofs only [go_sem, Nat.reduceAdd, Nat.reduceSub, Nat.reduceMul, Nat.reduceLeDiff, Nat.reduceEqDiff, Nat.reduceGT, Nat.reduceBEq, reduceCtorEq, ↓reduceIte, Int.reduceToNat, Int.reduceLE, Int.reduceLT, Int.reduceNe, Int.reduceEq]
                  refine ⟨hpos a3 h3, fun _ => ⟨hlt, fun a4 h4 => ?_⟩⟩
                  refine use1 (heldX w0 hP a4) ?_
                  have hs := hsu a4 h4
                  have hc := hcs (k + 1)
                  rw [hs] at hc
                  have ew : IntKind.i64.wrap ((((D.take k).map fun x => w'.count x).sum : Int) + (w'.count a4 : Int)) = ((((D.take (k + 1)).map fun x => w'.count x).sum : Nat) : Int) := by
                    rw [hs, w64 (by omega) (by omega)]; omega
                  simp (maxDischargeDepth := 12) (maxSteps := 1000000) -implicitDefEqProofs only [go_sem, Nat.reduceAdd, Nat.reduceSub, Nat.reduceMul, Nat.reduceLeDiff, Nat.reduceEqDiff, Nat.reduceGT, Nat.reduceBEq, reduceCtorEq, ↓reduceIte, Int.reduceToNat, Int.reduceLE, Int.reduceLT, Int.reduceNe, Int.reduceEq, ew, e1]
                  exact hlt
                · rw [List.take_of_length_le (by omega)]; omega
                · exact ((((Aml.Sub.refl S).consB).consB).consA).consA
theorem rdU64s {W : World} : Rd Try.prog W 26 (fun l : List Int => [.sl 1 false (l.map dU)]) (fun l => l.length) (fun _ => True) :=
  (rd_slice1 (rd_u64 Try.underlying27) Try.underlying26 (by kernel_rfl)).conv id (fun _ => rfl) (fun l => by simp only [id, sum_one']; omega) fun _ _ => trivial
theorem pinsCancel_own : ownKnob Try.prog.godebug = none := by kernel_rfl
set_option maxHeartbeats 1000000 in
theorem pinsCancel_contract (H : Type) (enc : TypeId × Value → H) (W : World) (base : Nat) (args : Array Value) (ds gs : List (DataW H)) (before : List MemPlace)
    (hval : ∀ (j : Nat) t v, Try.f4.params[j]? = some t → args[j]? = some v → Value.okWide Try.prog W .any base t v)
    (hW : DataW.Whole enc Try.prog Try.f4.params.toList Rows.pinsCancelSpec.vars false W args.toList ds gs before) (hk : Rows.uptoBulkAll (ds ++ gs) ≤ 1048576) :
    Calls Try.prog 4 args W fun e W' => ∃ v, e = .returned v ∧ Rows.pinsCancelSpec.post enc Try.prog Try.f4 false true false false W args v W' :=
  law_contract enc (ts := [26, 26]) (tb := 4) (rdA_one rdU64s (by kernel_rfl) (rdA_one rdU64s (by kernel_rfl) rdA_nil)) Try.params4 rfl Try.underlying4 rfl (by kernel_rfl) (by intro t ht; revert t; decide +kernel) (fun ds hd => by
    first
    | (match ds, hd with | [_], _ => rfl)
    | (match ds, hd with | [_, _], _ => rfl)
    | (match ds, hd with | [_, _, _], _ => rfl)
    | (match ds, hd with | [_, _, _, _], _ => rfl)) (fun a ha hs => (cancels W a.1 a.2.1 ⟨[], []⟩ (by omega) (by omega)).mono fun d S' h => h.1) base args ds gs before hval hW hk
set_option maxRecDepth 100000 in
theorem pinsCancel_lifted (os : Os) (started : os.Started) (H : Type) (enc : TypeId × Value → H) (F : Stop.Interp) :
    ReturnsInHanded {} Try.checked os 4 .any ((Rows.OpenSpec.upto Rows.pinsCancelSpec).pre6 enc Try.prog Try.f4 Rows.pinsCancelUptoRow.domain false) (((Rows.OpenSpec.upto Rows.pinsCancelSpec).at F).post enc Try.prog Try.f4 false true false false) := by
  refine returnsInHanded_of_cond (C := Try.checked) (s := Rows.OpenSpec.upto Rows.pinsCancelSpec) (k := Rows.uptoSmall) rfl pinsCancel_own started (by kernel_rfl) Try.func4
    (OpenSpec.witness (enc := enc) (C := Try.checked) (s := Rows.OpenSpec.upto Rows.pinsCancelSpec) (k := Rows.uptoSmall) rfl false ⟨#[], #[.slice none 0 0, .slice none 0 0], []⟩ 8 (by kernel_rfl) (by kernel_rfl) (by kernel_rfl)
      (x := ([.nil, .nil], [], [])) (by kernel_rfl) rfl (by kernel_rfl)) ?_
  intro W base args ds gs before hval hW _ hk _
  exact pinsCancel_contract H enc W base args ds gs before hval hW (of_decide_eq_true hk)
/-- THE STATEMENT. -/
theorem pinsCancel_holds : Rows.PinsCancelUptoSaid :=
  OpenClaim.holds_of_cond 4 Try.f4 rfl rfl rfl rfl rfl rfl rfl ⟨rfl, rfl, rfl, rfl, rfl⟩ rfl rfl rfl rfl rfl (by kernel_rfl) Try.func4 (by kernel_rfl)
    (of_decide_eq_true (by kernel_rfl)) (by unfold Func.isWrapper; first | (rw [if_pos (by decide +kernel)]; kernel_rfl) | (rw [if_neg (by decide +kernel)]; exact ⟨rfl, rfl⟩))
    (fun os started H enc _ F => pinsCancel_lifted os started H enc F)

end Go.Proofs.Ytkibkahknibgfaa
