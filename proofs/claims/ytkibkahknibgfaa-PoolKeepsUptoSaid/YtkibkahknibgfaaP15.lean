/-
  PoolKeeps is true wherever it is called: for arguments of bulk at most 1048576. By an AI agent.
-/
import Derived.Test.YtkibkahknibgfaaP8
import Derived.Test.YtkibkahknibgfaaP9r
import Derived.Test.YtkibkahknibgfaaP14
import Derived.Test.YtkibkahknibgfaaA28
namespace Go.Proofs.Ytkibkahknibgfaa
open Aml Go Go.RowKit Go.ChangeShapes Go.WideShapes Go.ChangeAt
set_option linter.unusedVariables false
set_option linter.unusedSimpArgs false
set_option maxRecDepth 100000

structure Stp where
  kind : Int
  n : Int
  txn : Int
@[go_sem] def dT (s : Stp) : DV := .agg [dI s.kind, dI s.n, dU s.txn]
structure Sk where
  k : Nat
  p : Pl
  h : Nat → Bool
  t : Int
def hasL (top : Nat) (h : Nat → Bool) : List DV := (List.range top).map fun j => dB (h j)
theorem hasL_set (top : Nat) (h : Nat → Bool) (i : Nat) (b : Bool) : (hasL top h).set i (.v (.bool b)) = hasL top (upd h i b) := by
  unfold hasL
  refine List.ext_getElem (by simp) fun j h1 h2 => ?_
  simp only [List.getElem_set, List.getElem_map, List.getElem_range, upd]
  by_cases e : i = j
  · subst e; simp [dB]
  · rw [if_neg e, if_neg fun h => e h.symm]
theorem hasL_len (top : Nat) (h : Nat → Bool) : (hasL top h).length = top := by simp [hasL]
theorem hasL_ex (top : Nat) (h : Nat → Bool) (i : Nat) (F : DV → Prop) : exK (hasL top h) i F = (i < top ∧ F (.v (.bool (h i)))) := by
  unfold hasL
  rw [q_ex_map]
  refine propext ⟨fun ⟨h1, h2⟩ => ?_, fun ⟨h1, h2⟩ => ⟨by simpa using h1, fun a ha => ?_⟩⟩
  · rw [List.length_range] at h1
    exact ⟨h1, (h2 i (by rw [List.getElem?_range h1])).2⟩
  · rw [List.getElem?_range h1] at ha; cases ha
    exact ⟨rfl, h2⟩
theorem hasL_new (top : Nat) : List.replicate top (DV.v (.bool false)) = hasL top fun _ => false := by
  unfold hasL
  refine List.ext_getElem (by simp) fun j h1 h2 => by simp [dB]
theorem wait_le {p : Pl} {q : Int} (hc : Chk p q) : p.wait.length ≤ nW p.wait := by
  have : ∀ l : List Wt, (∀ w, w ∈ l → w.pages ≠ []) → l.length ≤ nW l := by
    intro l
    induction l with
    | nil => intro _; exact Nat.zero_le _
    | cons a l ih =>
      intro h
      have h1 := ih fun w hw => h w (List.mem_cons_of_mem _ hw)
      have h2 : 0 < a.pages.length := List.length_pos_iff.2 (h a List.mem_cons_self)
      simp only [nW, List.map_cons, List.sum_cons, List.length_cons] at *
      omega
  exact this _ fun w hw e => hc.2.1 w hw (.inl e)
theorem keep_size {top : Nat} {p : Pl} {h : Nat → Bool} {t : Int} (k : Keep top p h t) : p.free.length + nW p.wait ≤ top ∧ p.wait.length ≤ top ∧ 2 ≤ p.high ∧ p.high ≤ top := by
  have h1 := keep_count k
  have h2 := wait_le k.chk
  rw [listed_len] at h1
  have := k.chk.2.2.1
  have := k.chk.2.2.2.1
  omega

theorem marks_succ (h : Nat → Bool) (l : List Int) {x : Int} (hx : 0 ≤ x) : upd (marks h l) x.toNat true = marks h (l ++ [x]) := by
  funext i
  unfold upd marks
  by_cases e : i = x.toNat
  · subst e
    rw [if_pos rfl]
    have : ((x.toNat : Nat) : Int) ∈ l ++ [x] := by rw [Int.toNat_of_nonneg hx]; simp
    rw [decide_eq_true this, Bool.or_true]
  · rw [if_neg e]
    have : ((i : Int) ∈ l ++ [x]) ↔ (i : Int) ∈ l := by
      rw [List.mem_append, List.mem_singleton]
      exact ⟨fun h => h.resolve_right fun e2 => e (by omega), .inl⟩
    simp only [this]
theorem fresh_at {l : List Int} (hn : l.Nodup) {j : Nat} {x : Int} (hx : l[j]? = some x) : x ∉ l.take j := by
  have h2 := hn.sublist (List.take_sublist (j + 1) l)
  rw [take_snoc hx, List.nodup_append] at h2
  exact fun hm => h2.2.2 x hm x (by simp) rfl
/-- Those that are given back: every N-th one, from the top on. -/
def gsel (h : Nat → Bool) (N : Int) (i : Nat) : Bool := h i && (decide (0 < N) && decide ((i : Int).tmod N = 0))
def back (top : Nat) (h : Nat → Bool) (N : Int) : Nat → List Int
  | 0 => []
  | n + 1 => back top h N n ++ if gsel h N (top - 1 - n) then [((top - 1 - n : Nat) : Int)] else []
theorem back_mem {top : Nat} {h : Nat → Bool} {N : Int} {x : Int} : ∀ {n : Nat}, n ≤ top → x ∈ back top h N n → 0 ≤ x ∧ (top : Int) - n ≤ x ∧ h x.toNat = true
  | 0, _, hx => by cases hx
  | n + 1, hn, hx => by
    simp only [back, List.mem_append] at hx
    rcases hx with hx | hx
    · have := back_mem (by omega) hx; exact ⟨this.1, by omega, this.2.2⟩
    · split at hx
      · rename_i hs
        simp only [List.mem_singleton] at hx
        unfold gsel at hs
        rw [Bool.and_eq_true] at hs
        subst hx
        exact ⟨by omega, by omega, by simpa using hs.1⟩
      · cases hx
theorem back_nodup {top : Nat} {h : Nat → Bool} {N : Int} : ∀ {n : Nat}, n ≤ top → (back top h N n).Nodup
  | 0, _ => .nil
  | n + 1, hn => by
    simp only [back]
    rw [List.nodup_append]
    refine ⟨back_nodup (by omega), by split <;> simp, fun a ha b hb e => ?_⟩
    split at hb
    · simp only [List.mem_singleton] at hb
      have := back_mem (by omega) ha
      omega
    · cases hb
theorem back_len {top : Nat} {h : Nat → Bool} {N : Int} : ∀ n : Nat, (back top h N n).length ≤ n
  | 0 => Nat.le_refl _
  | n + 1 => by
    simp only [back, List.length_append]
    have := back_len (top := top) (h := h) (N := N) n
    split <;> simp <;> omega
def clr (h : Nat → Bool) (l : List Int) : Nat → Bool := fun i => h i && !decide ((i : Int) ∈ l)
theorem clr_succ (h : Nat → Bool) (l : List Int) (i : Nat) : upd (clr h l) i false = clr h (l ++ [(i : Int)]) := by
  funext j
  unfold upd clr
  by_cases e : j = i
  · subst e
    have : ((j : Nat) : Int) ∈ l ++ [(j : Int)] := by simp
    rw [if_pos rfl, decide_eq_true this]; simp
  · rw [if_neg e]
    have : ((j : Int) ∈ l ++ [(i : Int)]) ↔ (j : Int) ∈ l := by
      rw [List.mem_append, List.mem_singleton]
      exact ⟨fun h => h.resolve_right fun e2 => e (by omega), .inl⟩
    simp only [this]
theorem back_yes {top : Nat} {h : Nat → Bool} {N : Int} {n : Nat} (hs : gsel h N (top - 1 - n) = true) : back top h N (n + 1) = back top h N n ++ [((top - 1 - n : Nat) : Int)] := by
  simp only [back, if_pos hs]
theorem back_no {top : Nat} {h : Nat → Bool} {N : Int} {n : Nat} (hs : gsel h N (top - 1 - n) = false) : back top h N (n + 1) = back top h N n := by
  simp only [back, hs, Bool.false_eq_true, if_false, List.append_nil]
def cnt (h : Nat → Bool) (k : Nat) : Nat := ((List.range k).filter h).length
theorem cnt_yes {h : Nat → Bool} {k : Nat} (hh : h k = true) : cnt h (k + 1) = cnt h k + 1 := by
  unfold cnt; rw [List.range_succ, List.filter_append]; simp [List.filter_cons, hh]
theorem cnt_no {h : Nat → Bool} {k : Nat} (hh : h k = false) : cnt h (k + 1) = cnt h k := by
  unfold cnt; rw [List.range_succ, List.filter_append]; simp [List.filter_cons, hh]
theorem cnt_le (h : Nat → Bool) (k : Nat) : cnt h k ≤ k := by
  have := List.length_filter_le h (List.range k); rwa [List.length_range] at this
theorem cnt_had (h : Nat → Bool) (k : Nat) : (had k h).length = cnt h k := by unfold had cnt; rw [List.length_map]
set_option maxHeartbeats 16000000 in
theorem keeps (w0 : World) (q : Int) (l : List Stp) (S : St) (q0 : 0 ≤ q) (q1 : q ≤ 255) (h0 : l.length ≤ 1048576) : ACall Try.prog w0 11 [dY q, .sl 3 false (l.map dT)] S (fun d S' => d = dB true ∧ S' = S) := by
  refine fnS [] mx Try.func11 rfl rfl (by kernel_rfl) ?_; simp (maxDischargeDepth := 12) -implicitDefEqProofs only [Try.ntmps11, go_sem, Nat.reduceAdd, Nat.reduceSub, Nat.reduceMul, Nat.reduceLeDiff, Nat.reduceEqDiff, Nat.reduceGT, Nat.reduceBEq, reduceCtorEq, ↓reduceIte, Int.reduceToNat, Int.reduceLE, Int.reduceLT, Int.reduceNe, Int.reduceEq]
  refine use1 (awake w0 _) ?_
  simp (maxDischargeDepth := 12) -implicitDefEqProofs only [go_sem, Nat.reduceAdd, Nat.reduceSub, Nat.reduceMul, Nat.reduceLeDiff, Nat.reduceEqDiff, Nat.reduceGT, Nat.reduceBEq, reduceCtorEq, ↓reduceIte, Int.reduceToNat, Int.reduceLE, Int.reduceLT, Int.reduceNe, Int.reduceEq]
  intro hl
  have e1 : IntKind.i64.wrap q = q := w64 (by omega) (by omega)
  obtain ⟨top, et, t0, t1⟩ : ∃ top : Nat, IntKind.i64.wrap (IntKind.i64.wrap q + 2) = (top : Int) ∧ 2 ≤ top ∧ top ≤ 257 := ⟨(q + 2).toNat, by rw [e1, w64 (by omega) (by omega)]; omega, by omega, by omega⟩
  simp only [et]
  intro b
  refine ⟨by omega, by omega, by omega, fun c => ?_⟩
  rw [Int.toNat_natCast, hasL_new]
  refine wkBoxK b.n [dI 2, .sl 1 false [], .sl 2 false []] (q_lk_same _ _ _) (by simp (maxDischargeDepth := 12) -implicitDefEqProofs only [go_sem, Nat.reduceAdd, Nat.reduceSub, Nat.reduceMul, Nat.reduceLeDiff, Nat.reduceEqDiff, Nat.reduceGT, Nat.reduceBEq, reduceCtorEq, ↓reduceIte, Int.reduceToNat, Int.reduceLE, Int.reduceLT, Int.reduceNe, Int.reduceEq]) ?_
  simp (maxDischargeDepth := 12) -implicitDefEqProofs only [go_sem, Nat.reduceAdd, Nat.reduceSub, Nat.reduceMul, Nat.reduceLeDiff, Nat.reduceEqDiff, Nat.reduceGT, Nat.reduceBEq, reduceCtorEq, ↓reduceIte, Int.reduceToNat, Int.reduceLE, Int.reduceLT, Int.reduceNe, Int.reduceEq]
  refine loopK [1002, 15] [1, 6, 7, 8, 9, 10] (fun s : Sk => [(9, dU s.t), (10, dI s.k)]) (fun s => ⟨(b.n, [dI s.p.high, dL s.p.free, .sl 2 false (s.p.wait.map dW)]) :: S.box, (c.n, .arr 1 (hasL top s.h)) :: S.acc⟩) (fun s => s.k ≤ l.length ∧ Keep top s.p s.h s.t ∧ 1 ≤ s.t ∧ s.t ≤ s.k + 1) (fun s => l.length - s.k) ⟨0, ⟨2, [], []⟩, fun _ => false, 1⟩ mx (by kernel_rfl) ?_ ?_
  · refine ⟨⟨by simp, keep_start top t0, by simp, by simp⟩, ?_, ?_⟩
    · simp (maxDischargeDepth := 12) -implicitDefEqProofs only [go_sem, Nat.reduceAdd, Nat.reduceSub, Nat.reduceMul, Nat.reduceLeDiff, Nat.reduceEqDiff, Nat.reduceGT, Nat.reduceBEq, reduceCtorEq, ↓reduceIte, Int.reduceToNat, Int.reduceLE, Int.reduceLT, Int.reduceNe, Int.reduceEq]
    · simp (maxDischargeDepth := 12) -implicitDefEqProofs only [go_sem, Nat.reduceAdd, Nat.reduceSub, Nat.reduceMul, Nat.reduceLeDiff, Nat.reduceEqDiff, Nat.reduceGT, Nat.reduceBEq, reduceCtorEq, ↓reduceIte, Int.reduceToNat, Int.reduceLE, Int.reduceLT, Int.reduceNe, Int.reduceEq]
  · intro s hs
    have hk := hs.1
    have hK := hs.2.1
    have ht1 := hs.2.2.1
    have ht2 := hs.2.2.2
    clear hs
    obtain ⟨z1, z2, z3, z4⟩ := keep_size hK
    simp (maxDischargeDepth := 12) -implicitDefEqProofs only [go_sem, Nat.reduceAdd, Nat.reduceSub, Nat.reduceMul, Nat.reduceLeDiff, Nat.reduceEqDiff, Nat.reduceGT, Nat.reduceBEq, reduceCtorEq, ↓reduceIte, Int.reduceToNat, Int.reduceLE, Int.reduceLT, Int.reduceNe, Int.reduceEq]
    refine fun hlt => ⟨hlt, fun st hst => ?_⟩
    refine cutK [15] [1, 6, 7, 8, 9, 10] (fun s' : Sk => [(9, dU s'.t)]) (fun s' => ⟨(b.n, [dI s'.p.high, dL s'.p.free, .sl 2 false (s'.p.wait.map dW)]) :: S.box, (c.n, .arr 1 (hasL top s'.h)) :: S.acc⟩) (fun s' => Keep top s'.p s'.h s'.t ∧ 1 ≤ s'.t ∧ s'.t ≤ s.k + 2) mx (by kernel_rfl) ?_ ?_
    · simp (maxDischargeDepth := 12) -implicitDefEqProofs only [go_sem, Nat.reduceAdd, Nat.reduceSub, Nat.reduceMul, Nat.reduceLeDiff, Nat.reduceEqDiff, Nat.reduceGT, Nat.reduceBEq, reduceCtorEq, ↓reduceIte, Int.reduceToNat, Int.reduceLE, Int.reduceLT, Int.reduceNe, Int.reduceEq]
      refine ⟨fun hz => ?_, fun hz => ⟨fun h1 => ?_, fun h1 => ?_⟩⟩
      · refine lexK mx (by kernel_rfl) ?_
        simp (maxDischargeDepth := 12) -implicitDefEqProofs only [go_sem, Nat.reduceAdd, Nat.reduceSub, Nat.reduceMul, Nat.reduceLeDiff, Nat.reduceEqDiff, Nat.reduceGT, Nat.reduceBEq, reduceCtorEq, ↓reduceIte, Int.reduceToNat, Int.reduceLE, Int.reduceLT, Int.reduceNe, Int.reduceEq]
        refine ⟨hlt, fun a ha => ?_⟩
        cases getE hst ha
        by_cases hm : may s.p top st.n
        · refine useX (fun B hB => takeY w0 s.p top st.n _ hm (by omega) (by omega) (by omega) (by omega) (by omega)) ?_
          simp (maxDischargeDepth := 12) -implicitDefEqProofs only [go_sem, Nat.reduceAdd, Nat.reduceSub, Nat.reduceMul, Nat.reduceLeDiff, Nat.reduceEqDiff, Nat.reduceGT, Nat.reduceBEq, reduceCtorEq, ↓reduceIte, Int.reduceToNat, Int.reduceLE, Int.reduceLT, Int.reduceNe, Int.reduceEq]
          intro c1
          refine ⟨hlt, fun a ha => ?_⟩
          cases getE hst ha
          refine ⟨fun _ => ⟨hlt, fun a ha => ?_⟩, fun h => absurd hm.1 h⟩
          cases getE hst ha
          refine useQ (room w0 s.p top _ (by omega) (by omega) (by omega) (by omega) (by omega)) ?_
          simp (maxDischargeDepth := 12) -implicitDefEqProofs only [go_sem, Nat.reduceAdd, Nat.reduceSub, Nat.reduceMul, Nat.reduceLeDiff, Nat.reduceEqDiff, Nat.reduceGT, Nat.reduceBEq, reduceCtorEq, ↓reduceIte, Int.reduceToNat, Int.reduceLE, Int.reduceLT, Int.reduceNe, Int.reduceEq]
          refine ⟨fun h => absurd hm.2 h, fun _ => ⟨hlt, fun a ha => ?_⟩⟩
          cases getE hst ha
          have hm0 := hm.1
          have tl := took_len s.p st.n
          refine ⟨fun h => absurd (by omega) h, fun _ => ?_⟩
          obtain ⟨k1, k2, k3⟩ := keep_took hK hm
          have hrm : roomZ s.p top ≤ 1000 := by unfold roomZ; split <;> omega
          have hm1 := hm.2
          refine loopN [] (took s.p st.n).length [1, 6, 7, 8, 9, 10, 11, 12, 14] (fun j => [(14, dI j)]) (fun j => ⟨(c1.n, [dI (take s.p st.n).high, dL (take s.p st.n).free, .sl 2 false ((take s.p st.n).wait.map dW)]) :: (b.n, [dI s.p.high, dL s.p.free, .sl 2 false (s.p.wait.map dW)]) :: S.box, (c.n, .arr 1 (hasL top (marks s.h ((took s.p st.n).take j)))) :: S.acc⟩) (fun _ => True) mx (by kernel_rfl) ?_ ?_
          · simp (maxDischargeDepth := 12) -implicitDefEqProofs only [go_sem, Nat.reduceAdd, Nat.reduceSub, Nat.reduceMul, Nat.reduceLeDiff, Nat.reduceEqDiff, Nat.reduceGT, Nat.reduceBEq, reduceCtorEq, ↓reduceIte, Int.reduceToNat, Int.reduceLE, Int.reduceLT, Int.reduceNe, Int.reduceEq]
            have e : marks s.h [] = s.h := by funext i; simp [marks]
            rw [e]; exact .refl _
          · intro j hj _
            simp (maxDischargeDepth := 12) -implicitDefEqProofs only [go_sem, Nat.reduceAdd, Nat.reduceSub, Nat.reduceMul, Nat.reduceLeDiff, Nat.reduceEqDiff, Nat.reduceGT, Nat.reduceBEq, reduceCtorEq, ↓reduceIte, Int.reduceToNat, Int.reduceLE, Int.reduceLT, Int.reduceNe, Int.reduceEq, hasL_ex, hasL_len, hasL_set]
            refine ⟨fun hjl => ⟨hjl, fun x hx => ?_⟩, fun hge => ?_⟩
            · have hk := k1 x (List.mem_of_getElem? hx)
              have hf := fresh_at k2 hx
              have hmk : marks s.h ((took s.p st.n).take j) x.toNat = false := by
                unfold marks
                rw [hk.2.2, Int.toNat_of_nonneg (by omega), Bool.false_or, decide_eq_false hf]
              refine ⟨fun h => by omega, fun _ => ⟨hjl, fun y hy => ?_⟩⟩
              cases getE hx hy
              refine ⟨fun h => by omega, fun _ => ⟨hjl, fun y hy => ?_⟩⟩
              cases getE hx hy
              refine ⟨by omega, by omega, by omega, fun h => by rw [hmk] at h; (cases h), fun _ => ⟨hjl, fun y hy => ?_⟩⟩
              cases getE hx hy
              rw [marks_succ _ _ (by omega), ← take_snoc hx]
              exact ⟨by omega, by omega, by omega, hjl, w64 (by omega) (by omega), .refl _⟩
            · rw [List.take_of_length_le (by omega)]
              exact ⟨⟨s.k, take s.p st.n, marks s.h (took s.p st.n), s.t⟩, ⟨k3, ht1, by show s.t ≤ _; omega⟩, rfl, .consB (.refl _)⟩
        · refine useX (fun B hB => takeN w0 s.p top st.n _ hm (by omega) (by omega) (by omega) (by omega) (by omega)) ?_
          simp (maxDischargeDepth := 12) -implicitDefEqProofs only [go_sem, Nat.reduceAdd, Nat.reduceSub, Nat.reduceMul, Nat.reduceLeDiff, Nat.reduceEqDiff, Nat.reduceGT, Nat.reduceBEq, reduceCtorEq, ↓reduceIte, Int.reduceToNat, Int.reduceLE, Int.reduceLT, Int.reduceNe, Int.reduceEq]
          intro c1
          refine ⟨hlt, fun a ha => ?_⟩
          cases getE hst ha
          refine ⟨fun hn => ⟨hlt, fun a ha => ?_⟩, fun hn => ?_⟩
          · cases getE hst ha
            refine useQ (room w0 s.p top _ (by omega) (by omega) (by omega) (by omega) (by omega)) ?_
            simp (maxDischargeDepth := 12) -implicitDefEqProofs only [go_sem, Nat.reduceAdd, Nat.reduceSub, Nat.reduceMul, Nat.reduceLeDiff, Nat.reduceEqDiff, Nat.reduceGT, Nat.reduceBEq, reduceCtorEq, ↓reduceIte, Int.reduceToNat, Int.reduceLE, Int.reduceLT, Int.reduceNe, Int.reduceEq]
            refine ⟨fun h => absurd ⟨hn, Classical.byContradiction h⟩ hm, fun h => ?_⟩
            refine loopN [] 0 [1, 6, 7, 8, 9, 10, 11, 12, 14] (fun j => [(14, dI j)]) (fun j => ⟨(c1.n, [dI s.p.high, dL s.p.free, .sl 2 false (s.p.wait.map dW)]) :: (b.n, [dI s.p.high, dL s.p.free, .sl 2 false (s.p.wait.map dW)]) :: S.box, (c.n, .arr 1 (hasL top s.h)) :: S.acc⟩) (fun _ => True) mx (by kernel_rfl) ?_ ?_
            · simp (maxDischargeDepth := 12) -implicitDefEqProofs only [go_sem, Nat.reduceAdd, Nat.reduceSub, Nat.reduceMul, Nat.reduceLeDiff, Nat.reduceEqDiff, Nat.reduceGT, Nat.reduceBEq, reduceCtorEq, ↓reduceIte, Int.reduceToNat, Int.reduceLE, Int.reduceLT, Int.reduceNe, Int.reduceEq]
            · intro j hj _
              obtain rfl : j = 0 := by omega
              simp (maxDischargeDepth := 12) -implicitDefEqProofs only [go_sem, Nat.reduceAdd, Nat.reduceSub, Nat.reduceMul, Nat.reduceLeDiff, Nat.reduceEqDiff, Nat.reduceGT, Nat.reduceBEq, reduceCtorEq, ↓reduceIte, Int.reduceToNat, Int.reduceLE, Int.reduceLT, Int.reduceNe, Int.reduceEq]
              exact ⟨⟨s.k, s.p, s.h, s.t⟩, ⟨hK, ht1, by show s.t ≤ _; omega⟩, rfl, .consB (.refl _)⟩
          · refine loopN [] 0 [1, 6, 7, 8, 9, 10, 11, 12, 14] (fun j => [(14, dI j)]) (fun j => ⟨(c1.n, [dI s.p.high, dL s.p.free, .sl 2 false (s.p.wait.map dW)]) :: (b.n, [dI s.p.high, dL s.p.free, .sl 2 false (s.p.wait.map dW)]) :: S.box, (c.n, .arr 1 (hasL top s.h)) :: S.acc⟩) (fun _ => True) mx (by kernel_rfl) ?_ ?_
            · simp (maxDischargeDepth := 12) -implicitDefEqProofs only [go_sem, Nat.reduceAdd, Nat.reduceSub, Nat.reduceMul, Nat.reduceLeDiff, Nat.reduceEqDiff, Nat.reduceGT, Nat.reduceBEq, reduceCtorEq, ↓reduceIte, Int.reduceToNat, Int.reduceLE, Int.reduceLT, Int.reduceNe, Int.reduceEq]
            · intro j hj _
              obtain rfl : j = 0 := by omega
              simp (maxDischargeDepth := 12) -implicitDefEqProofs only [go_sem, Nat.reduceAdd, Nat.reduceSub, Nat.reduceMul, Nat.reduceLeDiff, Nat.reduceEqDiff, Nat.reduceGT, Nat.reduceBEq, reduceCtorEq, ↓reduceIte, Int.reduceToNat, Int.reduceLE, Int.reduceLT, Int.reduceNe, Int.reduceEq]
              exact ⟨⟨s.k, s.p, s.h, s.t⟩, ⟨hK, ht1, by show s.t ≤ _; omega⟩, rfl, .consB (.refl _)⟩
      · refine growK 15 1 rfl (by omega) fun lb => ?_
        simp (maxDischargeDepth := 12) -implicitDefEqProofs only [go_sem, Nat.reduceAdd, Nat.reduceSub, Nat.reduceMul, Nat.reduceLeDiff, Nat.reduceEqDiff, Nat.reduceGT, Nat.reduceBEq, reduceCtorEq, ↓reduceIte, Int.reduceToNat, Int.reduceLE, Int.reduceLT, Int.reduceNe, Int.reduceEq]
        have ew : IntKind.i64.wrap ((top : Int) - 1) = (top : Int) - 1 := w64 (by omega) (by omega)
        refine loopN [] (top - 2) [1, 6, 7, 8, 9, 10, 15, 16] (fun n => [(15, .acc lb.n (back top s.h st.n n).length), (16, dI ((top : Int) - 1 - n))]) (fun n => ⟨(b.n, [dI s.p.high, dL s.p.free, .sl 2 false (s.p.wait.map dW)]) :: S.box, (lb.n, .arr 1 ((back top s.h st.n n).map dI)) :: (c.n, .arr 1 (hasL top (clr s.h (back top s.h st.n n)))) :: S.acc⟩) (fun _ => True) mx (by kernel_rfl) ?_ ?_
        · simp (maxDischargeDepth := 12) -implicitDefEqProofs only [go_sem, Nat.reduceAdd, Nat.reduceSub, Nat.reduceMul, Nat.reduceLeDiff, Nat.reduceEqDiff, Nat.reduceGT, Nat.reduceBEq, reduceCtorEq, ↓reduceIte, Int.reduceToNat, Int.reduceLE, Int.reduceLT, Int.reduceNe, Int.reduceEq, ew]
          have e0 : clr s.h (back top s.h st.n 0) = s.h := by funext i; simp [clr, back]
          rw [e0]
          exact ⟨⟨.refl _, by omega⟩, .refl _⟩
        · intro n hn _
          simp (maxDischargeDepth := 12) -implicitDefEqProofs only [go_sem, Nat.reduceAdd, Nat.reduceSub, Nat.reduceMul, Nat.reduceLeDiff, Nat.reduceEqDiff, Nat.reduceGT, Nat.reduceBEq, reduceCtorEq, ↓reduceIte, Int.reduceToNat, Int.reduceLE, Int.reduceLT, Int.reduceNe, Int.reduceEq, hasL_ex, hasL_len, hasL_set]
          have hlen := back_len (top := top) (h := s.h) (N := st.n) n
          have hcast : ((top : Int) - 1 - n).toNat = top - 1 - n := by omega
          have hint : (top : Int) - 1 - n = ((top - 1 - n : Nat) : Int) ∨ ¬ (top : Int) - 1 - n ≥ 2 := by omega
          have hnext : (top : Int) - 1 - n ≥ 2 → IntKind.i64.wrap ((top : Int) - 1 - n - 1) = (top : Int) - 1 - ((n + 1 : Nat) : Int) := fun _ => by rw [w64 (by omega) (by omega)]; omega
          refine ⟨fun hge => ?_, fun hlt2 => .inr ?_⟩
          · have hint := hint.resolve_right fun h => h hge
            have hnm : ((top - 1 - n : Nat) : Int) ∉ back top s.h st.n n := fun hm => by have := back_mem (by omega) hm; omega
            have hcl : clr s.h (back top s.h st.n n) (top - 1 - n) = s.h (top - 1 - n) := by unfold clr; rw [decide_eq_false hnm]; simp
            refine ⟨by omega, by omega, by omega, fun hh => ⟨hlt, fun a ha => ?_⟩, fun hh => ?_⟩
            · cases getE hst ha
              rw [hcast, hcl] at hh
              refine ⟨fun hp => ⟨hlt, fun a ha => ?_⟩, fun hp => ?_⟩
              · cases getE hst ha
                refine ⟨by omega, fun hmod => ?_, fun hmod => ?_⟩
                · have hsel : gsel s.h st.n (top - 1 - n) = true := by unfold gsel; rw [hh, decide_eq_true (by omega : 0 < st.n), decide_eq_true (hint ▸ hmod)]; rfl
                  rw [back_yes hsel, hcast, clr_succ, List.map_append, List.length_append, hint]
                  refine ⟨by omega, by unfold maxLen; omega, by omega, by omega, by omega, by omega, ⟨.refl _, ?_⟩, .refl _⟩
                  rw [← hint]; exact hnext hge
                · have hsel : gsel s.h st.n (top - 1 - n) = false := by unfold gsel; rw [decide_eq_false (fun e => hmod (hint ▸ e) : ¬ ((top - 1 - n : Nat) : Int).tmod st.n = 0)]; simp
                  rw [back_no hsel]
                  exact ⟨by omega, ⟨.refl _, hnext hge⟩, .refl _⟩
              · have hsel : gsel s.h st.n (top - 1 - n) = false := by unfold gsel; rw [decide_eq_false (by omega : ¬ 0 < st.n)]; simp
                rw [back_no hsel]
                exact ⟨by omega, ⟨.refl _, hnext hge⟩, .refl _⟩
            · rw [hcast, hcl] at hh
              have hsel : gsel s.h st.n (top - 1 - n) = false := by unfold gsel; rw [hh]; rfl
              rw [back_no hsel]
              exact ⟨by omega, ⟨.refl _, hnext hge⟩, .refl _⟩
          · refine use1 (giveW w0 s.p s.t (back top s.h st.n n) _ (by omega) (by omega)) ?_
            simp (maxDischargeDepth := 12) -implicitDefEqProofs only [go_sem, Nat.reduceAdd, Nat.reduceSub, Nat.reduceMul, Nat.reduceLeDiff, Nat.reduceEqDiff, Nat.reduceGT, Nat.reduceBEq, reduceCtorEq, ↓reduceIte, Int.reduceToNat, Int.reduceLE, Int.reduceLT, Int.reduceNe, Int.reduceEq]
            have hkg := keep_give hK (l := back top s.h st.n n) (fun x hx => ⟨(back_mem (by omega) hx).1, (back_mem (by omega) hx).2.2⟩) (back_nodup (by omega))
            refine ⟨⟨s.k, give s.p s.t (back top s.h st.n n), clr s.h (back top s.h st.n n), s.t + 1⟩, ⟨hkg, by show 1 ≤ s.t + 1; omega, by show s.t + 1 ≤ _; omega⟩, wu64 (by omega) (by omega), .consA (.refl _)⟩
      · refine ⟨fun h2 => ⟨fun _ => ⟨hlt, fun a ha => ⟨hlt, fun a2 ha2 => ?_⟩⟩, fun h => absurd h2 h⟩, fun h2 => ⟨fun h3 => ⟨hlt, fun a ha => ⟨hlt, fun a2 ha2 => ?_⟩⟩, fun h3 => ⟨s, ⟨hK, ht1, by omega⟩, rfl, .refl _⟩⟩⟩
        · cases getE hst ha
          cases getE hst ha2
          refine useQ (releaseW w0 s.p st.txn (decide (st.kind = 2)) _ (by omega) (by omega)) ?_
          simp (maxDischargeDepth := 12) -implicitDefEqProofs only [go_sem, Nat.reduceAdd, Nat.reduceSub, Nat.reduceMul, Nat.reduceLeDiff, Nat.reduceEqDiff, Nat.reduceGT, Nat.reduceBEq, reduceCtorEq, ↓reduceIte, Int.reduceToNat, Int.reduceLE, Int.reduceLT, Int.reduceNe, Int.reduceEq]
          exact ⟨⟨s.k, release s.p st.txn (decide (st.kind = 2)), s.h, s.t⟩, ⟨keep_release hK _ _, ht1, by show s.t ≤ _; omega⟩, rfl, .refl _⟩
        · cases getE hst ha
          cases getE hst ha2
          refine useQ (releaseW w0 s.p st.txn (decide (st.kind = 2)) _ (by omega) (by omega)) ?_
          simp (maxDischargeDepth := 12) -implicitDefEqProofs only [go_sem, Nat.reduceAdd, Nat.reduceSub, Nat.reduceMul, Nat.reduceLeDiff, Nat.reduceEqDiff, Nat.reduceGT, Nat.reduceBEq, reduceCtorEq, ↓reduceIte, Int.reduceToNat, Int.reduceLE, Int.reduceLT, Int.reduceNe, Int.reduceEq]
          exact ⟨⟨s.k, release s.p st.txn (decide (st.kind = 2)), s.h, s.t⟩, ⟨keep_release hK _ _, ht1, by show s.t ≤ _; omega⟩, rfl, .refl _⟩
    · intro s' hs'
      have hK' := hs'.1
      have ht1' := hs'.2.1
      have ht2' := hs'.2.2
      clear hs'
      obtain ⟨y1, y2, y3, y4⟩ := keep_size hK'
      have hcount := keep_count hK'
      rw [cnt_had] at hcount
      have hll := listed_len s'.p
      have hcl := cnt_le s'.h top
      simp (maxDischargeDepth := 12) -implicitDefEqProofs only [go_sem, Nat.reduceAdd, Nat.reduceSub, Nat.reduceMul, Nat.reduceLeDiff, Nat.reduceEqDiff, Nat.reduceGT, Nat.reduceBEq, reduceCtorEq, ↓reduceIte, Int.reduceToNat, Int.reduceLE, Int.reduceLT, Int.reduceNe, Int.reduceEq]
      refine use1 (listedW w0 s'.p _ (by omega) (by omega)) ?_
      simp (maxDischargeDepth := 12) -implicitDefEqProofs only [go_sem, Nat.reduceAdd, Nat.reduceSub, Nat.reduceMul, Nat.reduceLeDiff, Nat.reduceEqDiff, Nat.reduceGT, Nat.reduceBEq, reduceCtorEq, ↓reduceIte, Int.reduceToNat, Int.reduceLE, Int.reduceLT, Int.reduceNe, Int.reduceEq]
      refine loopN [] top [1, 6, 7, 8, 9, 10, 17, 18] (fun k => [(17, dI ((listed s'.p).length + cnt s'.h k)), (18, dI k)]) (fun _ => ⟨(b.n, [dI s'.p.high, dL s'.p.free, .sl 2 false (s'.p.wait.map dW)]) :: S.box, (c.n, .arr 1 (hasL top s'.h)) :: S.acc⟩) (fun _ => True) mx (by kernel_rfl) ?_ ?_
      · simp (maxDischargeDepth := 12) -implicitDefEqProofs only [go_sem, Nat.reduceAdd, Nat.reduceSub, Nat.reduceMul, Nat.reduceLeDiff, Nat.reduceEqDiff, Nat.reduceGT, Nat.reduceBEq, reduceCtorEq, ↓reduceIte, Int.reduceToNat, Int.reduceLE, Int.reduceLT, Int.reduceNe, Int.reduceEq]
        simp [cnt]
      · intro k hkt _
        have hck := cnt_le s'.h k
        simp (maxDischargeDepth := 12) -implicitDefEqProofs only [go_sem, Nat.reduceAdd, Nat.reduceSub, Nat.reduceMul, Nat.reduceLeDiff, Nat.reduceEqDiff, Nat.reduceGT, Nat.reduceBEq, reduceCtorEq, ↓reduceIte, Int.reduceToNat, Int.reduceLE, Int.reduceLT, Int.reduceNe, Int.reduceEq, hasL_ex, hasL_len, hasL_set]
        refine ⟨fun hlk => ⟨hlk, hlk, fun hh => ⟨hlk, ?_, ?_⟩, fun hh => ⟨hlk, ?_, ?_⟩⟩, fun hge => ?_⟩
        · rw [w64 (by omega) (by omega), cnt_yes hh]; omega
        · rw [w64 (by omega) (by omega)]; omega
        · rw [cnt_no hh]
        · rw [w64 (by omega) (by omega)]; omega
        · obtain rfl : k = top := by omega
          refine useQ (check w0 s'.p k _ (by omega) (by omega)) ?_
          simp (maxDischargeDepth := 12) -implicitDefEqProofs only [go_sem, Nat.reduceAdd, Nat.reduceSub, Nat.reduceMul, Nat.reduceLeDiff, Nat.reduceEqDiff, Nat.reduceGT, Nat.reduceBEq, reduceCtorEq, ↓reduceIte, Int.reduceToNat, Int.reduceLE, Int.reduceLT, Int.reduceNe, Int.reduceEq]
          have hchk : Chk s'.p k := hK'.chk
          have ewh : IntKind.i64.wrap (s'.p.high - 2) = s'.p.high - 2 := w64 (by omega) (by omega)
          refine ⟨fun h => h hchk, fun _ => ⟨fun h => h (by rw [ewh]; exact hcount), fun _ => ?_⟩⟩
          refine useQ (waiting w0 s'.p _ (by omega) (by omega)) ?_
          simp (maxDischargeDepth := 12) -implicitDefEqProofs only [go_sem, Nat.reduceAdd, Nat.reduceSub, Nat.reduceMul, Nat.reduceLeDiff, Nat.reduceEqDiff, Nat.reduceGT, Nat.reduceBEq, reduceCtorEq, ↓reduceIte, Int.reduceToNat, Int.reduceLE, Int.reduceLT, Int.reduceNe, Int.reduceEq]
          refine useQ (listedW w0 s'.p _ (by omega) (by omega)) ?_
          simp (maxDischargeDepth := 12) -implicitDefEqProofs only [go_sem, Nat.reduceAdd, Nat.reduceSub, Nat.reduceMul, Nat.reduceLeDiff, Nat.reduceEqDiff, Nat.reduceGT, Nat.reduceBEq, reduceCtorEq, ↓reduceIte, Int.reduceToNat, Int.reduceLE, Int.reduceLT, Int.reduceNe, Int.reduceEq]
          refine ⟨fun h => h (by rw [w64 (by omega) (by omega)]; omega), fun _ => ⟨⟨s.k + 1, s'.p, s'.h, s'.t⟩, ⟨hlt, hK', ht1', by show s'.t ≤ ((s.k + 1 : Nat) : Int) + 1; omega⟩, by show l.length - (s.k + 1) < _; omega, ⟨rfl, by show _ = ((s.k + 1 : Nat) : Int); rw [w64 (by omega) (by omega)]; omega⟩, .refl _⟩⟩
theorem rdStp {W : World} : Rd Try.prog W 96 (fun s : Stp => [dI s.kind, dI s.n, dU s.txn]) (fun _ => 1) (fun _ => True) := by
  have h := rd_struct (W := W) Try.underlying96 (total := 3) (by kernel_rfl) rfl (rdF_cons (k := 1) (rd_i64 Try.underlying3) rfl (by kernel_rfl) (rdF_cons (k := 1) (rd_i64 Try.underlying3) rfl (by kernel_rfl) (rdF_cons (k := 1) (rd_u64 Try.underlying27) rfl (by kernel_rfl) rdF_nil)))
  exact h.conv (fun x => ⟨x.1, x.2.1, x.2.2.1⟩) (fun _ => rfl) (fun x => by omega) fun _ h => trivial
theorem rdStps {W : World} : Rd Try.prog W 93 (fun l : List Stp => [.sl 3 false (l.map dT)]) (fun l => l.length) (fun _ => True) :=
  (rd_sliceA rdStp Try.underlying93 (k := 3) (by kernel_rfl) (by omega)).conv id (fun _ => rfl) (fun l => by simp only [id, sum_one]; omega) fun _ _ => trivial

theorem poolKeeps_own : ownKnob Try.prog.godebug = none := by kernel_rfl
set_option maxHeartbeats 1000000 in
theorem poolKeeps_contract (H : Type) (enc : TypeId × Value → H) (W : World) (base : Nat) (args : Array Value) (ds gs : List (DataW H)) (before : List MemPlace)
    (hval : ∀ (j : Nat) t v, Try.f11.params[j]? = some t → args[j]? = some v → Value.okWide Try.prog W .any base t v)
    (hW : DataW.Whole enc Try.prog Try.f11.params.toList Rows.poolKeepsSpec.vars false W args.toList ds gs before) (hk : Rows.uptoBulkAll (ds ++ gs) ≤ 1048576) :
    Calls Try.prog 11 args W fun e W' => ∃ v, e = .returned v ∧ Rows.poolKeepsSpec.post enc Try.prog Try.f11 false true false false W args v W' :=
  law_contract enc (ts := [5, 93]) (tb := 4) (rdA_one (rd_u8 Try.underlying5) (by kernel_rfl) (rdA_one rdStps (by kernel_rfl) rdA_nil)) Try.params11 rfl Try.underlying4 rfl (by kernel_rfl) (by intro t ht; revert t; decide +kernel) (fun ds hd => by
    first
    | (match ds, hd with | [_], _ => rfl)
    | (match ds, hd with | [_, _], _ => rfl)
    | (match ds, hd with | [_, _, _], _ => rfl)
    | (match ds, hd with | [_, _, _, _], _ => rfl)) (fun a ha hs => (keeps W a.1 a.2.1 ⟨[], []⟩ ha.1.1 ha.1.2 (by omega)).mono fun d S' h => h.1) base args ds gs before hval hW hk
set_option maxRecDepth 100000 in
theorem poolKeeps_lifted (os : Os) (started : os.Started) (H : Type) (enc : TypeId × Value → H) (F : Stop.Interp) :
    ReturnsInHanded {} Try.checked os 11 .any ((Rows.OpenSpec.upto Rows.poolKeepsSpec).pre6 enc Try.prog Try.f11 Rows.poolKeepsUptoRow.domain false) (((Rows.OpenSpec.upto Rows.poolKeepsSpec).at F).post enc Try.prog Try.f11 false true false false) := by
  refine returnsInHanded_of_cond (C := Try.checked) (s := Rows.OpenSpec.upto Rows.poolKeepsSpec) (k := Rows.uptoSmall) rfl poolKeeps_own started (by kernel_rfl) Try.func11
    (OpenSpec.witness (enc := enc) (C := Try.checked) (s := Rows.OpenSpec.upto Rows.poolKeepsSpec) (k := Rows.uptoSmall) rfl false ⟨#[], #[.int .u8 0, .slice none 0 0], []⟩ 8 (by kernel_rfl) (by kernel_rfl) (by kernel_rfl)
      (x := ([.lit (.int .u8 0), .nil], [], [])) (by kernel_rfl) rfl (by kernel_rfl)) ?_
  intro W base args ds gs before hval hW _ hk _
  exact poolKeeps_contract H enc W base args ds gs before hval hW (of_decide_eq_true hk)
/-- THE STATEMENT. -/
theorem poolKeeps_holds : Rows.PoolKeepsUptoSaid :=
  OpenClaim.holds_of_cond 11 Try.f11 rfl rfl rfl rfl rfl rfl rfl ⟨rfl, rfl, rfl, rfl, rfl⟩ rfl rfl rfl rfl rfl (by kernel_rfl) Try.func11 (by kernel_rfl)
    (of_decide_eq_true (by kernel_rfl)) (by unfold Func.isWrapper; first | (rw [if_pos (by decide +kernel)]; kernel_rfl) | (rw [if_neg (by decide +kernel)]; exact ⟨rfl, rfl⟩))
    (fun os started H enc _ F => poolKeeps_lifted os started H enc F)

end Go.Proofs.Ytkibkahknibgfaa
