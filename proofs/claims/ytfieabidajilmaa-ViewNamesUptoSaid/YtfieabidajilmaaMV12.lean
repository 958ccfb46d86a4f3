/-
  A view's trees as the law has them: what the program computes; A tree's entries: what the reference computes (in a view's words); What a view's names are; what was put is got: plain laws; Whether a tree may be: what the program computes; How far a tree's leaves are; whether it may be: what the program computes. By an AI agent.
-/
import Derived.Test.YtfieabidajilmaaMV11
namespace Go.Proofs.Ytfieabidajilmaa
open Aml Go
set_option linter.unusedVariables false
set_option linter.unusedSimpArgs false
set_option maxRecDepth 100000
set_option maxHeartbeats 8000000 in
theorem nodeV (w0 : W0) : ∀ (d : Nat) (n : N) (S : St), Good d n → totN n ≤ 131072 → ACall Try.prog w0 22 [eT n] S (fun e S' => e = eN n ∧ S' = S) := by
  intro d
  induction d with
  | zero =>
    intro n S hg ht
    have hn := good_nd hg
    have hlf := hn.1
    have hlen := tot_len n
    rw [eT_leaf hlf]
    refine fnS [1000] mx Try.func22 rfl rfl (by kernel_rfl) ?_; simp (maxDischargeDepth := 12) (maxSteps := 1000000) -implicitDefEqProofs only [Try.ntmps22, go_sem, Nat.reduceAdd, Nat.reduceSub, Nat.reduceMul, Nat.reduceLeDiff, Nat.reduceEqDiff, Nat.reduceGT, Nat.reduceBEq, reduceCtorEq, ↓reduceIte, Int.reduceToNat, Int.reduceLE, Int.reduceLT, Int.reduceNe, Int.reduceEq,  hlf]
    intro b b2 b3
    refine awp_growB b3.n 2 4 (by omega) (q_lk_same _ _ _) rfl fun lk => ?_
    refine shrK [10] [] mx (by kernel_rfl) ?_
    simp (maxDischargeDepth := 12) (maxSteps := 1000000) -implicitDefEqProofs only [go_sem, Nat.reduceAdd, Nat.reduceSub, Nat.reduceMul, Nat.reduceLeDiff, Nat.reduceEqDiff, Nat.reduceGT, Nat.reduceBEq, reduceCtorEq, ↓reduceIte, Int.reduceToNat, Int.reduceLE, Int.reduceLT, Int.reduceNe, Int.reduceEq]
    refine loopN [10] n.l.length [1, 2, 3, 4] (fun k => [(4, dI k)]) (fun k => ⟨(b3.n, [dI n.page, dB true, .acc lk.n k]) :: (b2.n, [dI 0, dB false, .sl 0 true []]) :: (b.n, [dI n.page, dB true, .sl 1 false (n.l.map fun c => dS c.key), .sl 2 false (n.l.map dV2), .sl 5 false []]) :: S.box, (lk.n, .arr 4 ((n.l.take k).map dC)) :: S.acc⟩) (fun _ => True) mx (by kernel_rfl) ?_ ?_
    · simp (maxDischargeDepth := 12) (maxSteps := 1000000) -implicitDefEqProofs only [go_sem, Nat.reduceAdd, Nat.reduceSub, Nat.reduceMul, Nat.reduceLeDiff, Nat.reduceEqDiff, Nat.reduceGT, Nat.reduceBEq, reduceCtorEq, ↓reduceIte, Int.reduceToNat, Int.reduceLE, Int.reduceLT, Int.reduceNe, Int.reduceEq]
    · intro k hk _
      have hml : (n.l.take k).length = k := by rw [List.length_take]; omega
      simp (maxDischargeDepth := 12) (maxSteps := 1000000) -implicitDefEqProofs only [go_sem, Nat.reduceAdd, Nat.reduceSub, Nat.reduceMul, Nat.reduceLeDiff, Nat.reduceEqDiff, Nat.reduceGT, Nat.reduceBEq, reduceCtorEq, ↓reduceIte, Int.reduceToNat, Int.reduceLE, Int.reduceLT, Int.reduceNe, Int.reduceEq, hml]
      refine ⟨fun hlt => ⟨hlt, fun c hc b4 => ⟨fun _ => ⟨hlt, fun c2 hc2 => ?_⟩, fun h => absurd hlt h⟩⟩, fun hge => ?_⟩
      · cases getE hc hc2
        refine ⟨hlt, fun c3 hc3 _ => ?_⟩
        cases getE hc hc3
        refine wkBoxK b4.n [dS c.key, dS c.data, .sl 1 false (c.pages.map dI), .sl 3 false []] (q_lk_same _ _ _) ⟨.refl _, .refl _, .refl _, .nil _ _ _, trivial⟩ ?_
        refine shrK [] [] mx (by kernel_rfl) ?_
        have hkid : c.kid = [] := (hn.2 c (List.mem_of_getElem? hc)).2
        have ht1 : n.l.take (k + 1) = n.l.take k ++ [c] := by rw [List.take_add_one, hc]; rfl
        rw [ht1]
        simp (maxDischargeDepth := 12) (maxSteps := 1000000) -implicitDefEqProofs only [go_sem, Nat.reduceAdd, Nat.reduceSub, Nat.reduceMul, Nat.reduceLeDiff, Nat.reduceEqDiff, Nat.reduceGT, Nat.reduceBEq, reduceCtorEq, ↓reduceIte, Int.reduceToNat, Int.reduceLE, Int.reduceLT, Int.reduceNe, Int.reduceEq, hml, List.map_append, List.map_cons, List.map_nil, hkid]
        exact ⟨by omega, by unfold maxLen; omega, hlt, i_oneV k (by omega)⟩
      · rw [List.take_of_length_le (by omega), hlf]
        exact .refl _
  | succ d ih =>
    intro n S hg ht
    have hn := good_nd hg
    have hlf := hn.1
    have hlen := tot_len n
    have hkn := kids_nd hn
    have hres : eT n = .agg [dI n.page, dB false, .sl 1 false (n.l.map fun c => dS c.key), .sl 2 false [], .sl 5 false ((n.l.map kid0).map dT)] := by
      show DV.agg _ = _
      rw [hkn, hlf]; rfl
    rw [hres]
    refine fnS [1000] mx Try.func22 rfl rfl (by kernel_rfl) ?_; simp (maxDischargeDepth := 12) (maxSteps := 1000000) -implicitDefEqProofs only [Try.ntmps22, go_sem, Nat.reduceAdd, Nat.reduceSub, Nat.reduceMul, Nat.reduceLeDiff, Nat.reduceEqDiff, Nat.reduceGT, Nat.reduceBEq, reduceCtorEq, ↓reduceIte, Int.reduceToNat, Int.reduceLE, Int.reduceLT, Int.reduceNe, Int.reduceEq,  hlf]
    intro b b2 b3
    refine awp_growB b3.n 2 4 (by omega) (q_lk_same _ _ _) rfl fun lk => ?_
    refine shrK [10] [] mx (by kernel_rfl) ?_
    simp (maxDischargeDepth := 12) (maxSteps := 1000000) -implicitDefEqProofs only [go_sem, Nat.reduceAdd, Nat.reduceSub, Nat.reduceMul, Nat.reduceLeDiff, Nat.reduceEqDiff, Nat.reduceGT, Nat.reduceBEq, reduceCtorEq, ↓reduceIte, Int.reduceToNat, Int.reduceLE, Int.reduceLT, Int.reduceNe, Int.reduceEq]
    refine loopN [10] n.l.length [1, 2, 3, 4] (fun k => [(4, dI k)]) (fun k => ⟨(b3.n, [dI n.page, dB false, .acc lk.n k]) :: (b2.n, [dI 0, dB false, .sl 0 true []]) :: (b.n, [dI n.page, dB false, .sl 1 false (n.l.map fun c => dS c.key), .sl 2 false [], .sl 5 false ((n.l.map kid0).map dT)]) :: S.box, (lk.n, .arr 4 ((n.l.take k).map dC)) :: S.acc⟩) (fun _ => True) mx (by kernel_rfl) ?_ ?_
    · simp (maxDischargeDepth := 12) (maxSteps := 1000000) -implicitDefEqProofs only [go_sem, Nat.reduceAdd, Nat.reduceSub, Nat.reduceMul, Nat.reduceLeDiff, Nat.reduceEqDiff, Nat.reduceGT, Nat.reduceBEq, reduceCtorEq, ↓reduceIte, Int.reduceToNat, Int.reduceLE, Int.reduceLT, Int.reduceNe, Int.reduceEq]
    · intro k hk _
      have hml : (n.l.take k).length = k := by rw [List.length_take]; omega
      simp (maxDischargeDepth := 12) (maxSteps := 1000000) -implicitDefEqProofs only [go_sem, Nat.reduceAdd, Nat.reduceSub, Nat.reduceMul, Nat.reduceLeDiff, Nat.reduceEqDiff, Nat.reduceGT, Nat.reduceBEq, reduceCtorEq, ↓reduceIte, Int.reduceToNat, Int.reduceLE, Int.reduceLT, Int.reduceNe, Int.reduceEq, hml]
      refine ⟨fun hlt => ⟨hlt, fun c hc b4 _ => ⟨fun _ => ⟨hlt, fun c2 hc2 => ?_⟩, fun h => absurd hlt h⟩⟩, fun hge => ?_⟩
      · cases getE hc hc2
        obtain ⟨⟨s1, s2, s3⟩, -, kd, hkid, hkg, -⟩ := hg.2.2.cell c (List.mem_of_getElem? hc)
        have hk0 := kid0_eq hkid
        have hkt := tot_kid (List.mem_of_getElem? hc) hkid
        rw [hk0]
        refine use1 (ih kd _ hkg (by omega)) ?_
        simp (maxDischargeDepth := 12) (maxSteps := 1000000) -implicitDefEqProofs only [go_sem, Nat.reduceAdd, Nat.reduceSub, Nat.reduceMul, Nat.reduceLeDiff, Nat.reduceEqDiff, Nat.reduceGT, Nat.reduceBEq, reduceCtorEq, ↓reduceIte, Int.reduceToNat, Int.reduceLE, Int.reduceLT, Int.reduceNe, Int.reduceEq, hml]
        refine wkBoxK b4.n [dS c.key, dS noS, .sl 1 false [], .sl 3 false [eN kd]] (q_lk_same _ _ _) ⟨.refl _, .refl _, .nil _ _ _, .full _ _ _, trivial⟩ ?_
        refine shrK [] [] mx (by kernel_rfl) ?_
        have ht1 : n.l.take (k + 1) = n.l.take k ++ [c] := by rw [List.take_add_one, hc]; rfl
        rw [ht1]
        simp (maxDischargeDepth := 12) (maxSteps := 1000000) -implicitDefEqProofs only [go_sem, Nat.reduceAdd, Nat.reduceSub, Nat.reduceMul, Nat.reduceLeDiff, Nat.reduceEqDiff, Nat.reduceGT, Nat.reduceBEq, reduceCtorEq, ↓reduceIte, Int.reduceToNat, Int.reduceLE, Int.reduceLT, Int.reduceNe, Int.reduceEq, hml, List.map_append, List.map_cons, List.map_nil, hkid, s2, s3]
        exact ⟨by omega, by unfold maxLen; omega, hlt, i_oneV k (by omega)⟩
      · rw [List.take_of_length_le (by omega), hlf]
        exact .refl _
/-- A view, as the law has it. -/
@[go_sem] def dBl (c : C) : DV := .agg [dS c.key, dI (kid0 c).page, dB (kid0 c).leaf, .sl 4 false ((kid0 c).l.map dC)]
@[go_sem] def eL (n : N) (l : List C) : DV := .agg [dI n.page, dB n.leaf, .sl 4 false (n.l.map dC), .sl 4 false (l.map dBl)]
theorem tbNode (w0 : W0) {k : Nat} {n : N} (h : TB k n) (hk : k ≤ 116) (S : St) : ACall Try.prog w0 22 [eT n] S (fun e S' => e = eN n ∧ S' = S) := by
  obtain ⟨hr, d, hg, hd, ht⟩ := h
  exact nodeV w0 d n S hg (by omega)
set_option maxHeartbeats 8000000 in
theorem plainV (w0 : W0) (k : Nat) (n : N) (l : List C) (S : St) (h : VI k n l) (hk : k ≤ 116) : ACall Try.prog w0 18 [eV n l] S (fun d S' => d = eL n l ∧ S' = S) := by
  have hln := h.len
  have hdn := fun S => tbNode w0 h.dir hk S
  have hcn := fun c (hc : c ∈ l) S => tbNode w0 (h.cell c hc).2.1 hk S
  refine fnS [] mx Try.func18 rfl rfl (by kernel_rfl) ?_; simp (maxDischargeDepth := 12) (maxSteps := 1000000) -implicitDefEqProofs only [Try.ntmps18, go_sem, Nat.reduceAdd, Nat.reduceSub, Nat.reduceMul, Nat.reduceLeDiff, Nat.reduceEqDiff, Nat.reduceGT, Nat.reduceBEq, reduceCtorEq, ↓reduceIte, Int.reduceToNat, Int.reduceLE, Int.reduceLT, Int.reduceNe, Int.reduceEq]
  intro b b2
  refine use1 (hdn _) ?_
  simp (maxDischargeDepth := 12) (maxSteps := 1000000) -implicitDefEqProofs only [go_sem, Nat.reduceAdd, Nat.reduceSub, Nat.reduceMul, Nat.reduceLeDiff, Nat.reduceEqDiff, Nat.reduceGT, Nat.reduceBEq, reduceCtorEq, ↓reduceIte, Int.reduceToNat, Int.reduceLE, Int.reduceLT, Int.reduceNe, Int.reduceEq]
  intro b3
  refine awp_growB b3.n 3 4 (by omega) (q_lk_same _ _ _) rfl fun lk => ?_
  simp (maxDischargeDepth := 12) (maxSteps := 1000000) -implicitDefEqProofs only [go_sem, Nat.reduceAdd, Nat.reduceSub, Nat.reduceMul, Nat.reduceLeDiff, Nat.reduceEqDiff, Nat.reduceGT, Nat.reduceBEq, reduceCtorEq, ↓reduceIte, Int.reduceToNat, Int.reduceLE, Int.reduceLT, Int.reduceNe, Int.reduceEq]
  refine loopN [] l.length [1, 2, 3, 4] (fun k => [(4, dI k)]) (fun k => ⟨(b3.n, [dI n.page, dB n.leaf, .sl 4 false (n.l.map dC), .acc lk.n k]) :: (b2.n, [dI 0, dB false, .sl 0 true [], .sl 0 true []]) :: (b.n, [dI n.page, dB n.leaf, .sl 1 false (n.l.map fun c => dS c.key), .sl 2 false ((if n.leaf then n.l else []).map dV2), .sl 5 false ((kidsOf n).map dT), .sl 6 false (l.map dBk)]) :: S.box, (lk.n, .arr 4 ((l.take k).map dBl)) :: S.acc⟩) (fun _ => True) mx (by kernel_rfl) ?_ ?_
  · simp (maxDischargeDepth := 12) (maxSteps := 1000000) -implicitDefEqProofs only [go_sem, Nat.reduceAdd, Nat.reduceSub, Nat.reduceMul, Nat.reduceLeDiff, Nat.reduceEqDiff, Nat.reduceGT, Nat.reduceBEq, reduceCtorEq, ↓reduceIte, Int.reduceToNat, Int.reduceLE, Int.reduceLT, Int.reduceNe, Int.reduceEq]
  · intro j hj _
    have hml : (l.take j).length = j := by rw [List.length_take]; omega
    simp (maxDischargeDepth := 12) (maxSteps := 1000000) -implicitDefEqProofs only [go_sem, Nat.reduceAdd, Nat.reduceSub, Nat.reduceMul, Nat.reduceLeDiff, Nat.reduceEqDiff, Nat.reduceGT, Nat.reduceBEq, reduceCtorEq, ↓reduceIte, Int.reduceToNat, Int.reduceLE, Int.reduceLT, Int.reduceNe, Int.reduceEq, hml]
    refine ⟨fun hlt => ⟨hlt, fun c hc => ⟨hlt, fun c2 hc2 => ?_⟩⟩, fun hge => ?_⟩
    · cases getE hc hc2
      refine useQ (hcn c (List.mem_of_getElem? hc) _) ?_
      have ht1 : l.take (j + 1) = l.take j ++ [c] := by rw [List.take_add_one, hc]; rfl
      rw [ht1]
      simp (maxDischargeDepth := 12) (maxSteps := 1000000) -implicitDefEqProofs only [go_sem, Nat.reduceAdd, Nat.reduceSub, Nat.reduceMul, Nat.reduceLeDiff, Nat.reduceEqDiff, Nat.reduceGT, Nat.reduceBEq, reduceCtorEq, ↓reduceIte, Int.reduceToNat, Int.reduceLE, Int.reduceLT, Int.reduceNe, Int.reduceEq, hml, List.map_append, List.map_cons, List.map_nil]
      exact ⟨by omega, by unfold maxLen; omega, hlt, i_oneV j (by omega)⟩
    · rw [List.take_of_length_le (by omega)]
      exact .refl _
end Go.Proofs.Ytfieabidajilmaa

namespace Go.Proofs.Ytfieabidajilmaa
open Aml Go Go.RowKit Go.ChangeShapes
set_option linter.unusedVariables false
set_option linter.unusedSimpArgs false
set_option maxRecDepth 100000
/-- An entry, without its pages. -/
def bareC (c : C) : C := .mk c.key c.data [] []
def entsN (n : N) : List C := (enN n).map bareC
def entC (b : Bool) (c : C) : List C := (enC b c).map bareC
theorem entsN_eq (n : N) : entsN n = n.l.flatMap (entC n.leaf) := by unfold entsN; rw [enN_eq, List.map_flatMap]; rfl
theorem entC_leaf (c : C) : entC true c = [bareC c] := by unfold entC; rw [enC_leaf]; rfl
theorem entC_br {c : C} {k : N} (h : c.kid = [k]) : entC false c = entsN k := by unfold entC; rw [enC_br h]; rfl
theorem en_le : ∀ {d : Nat} {n : N}, Nd d n → (enN n).length ≤ totN n
  | 0, n, h => by rw [en_leaf h.1]; exact tot_len n
  | d + 1, n, h => by
    rw [enN_eq, h.1, totN_tot]
    have : ∀ l : List C, (∀ c, c ∈ l → c ∈ n.l) → (l.flatMap (enC false)).length ≤ tot l := by
      intro l
      induction l with
      | nil => intro _; exact Nat.zero_le _
      | cons c l ih =>
        intro hl
        obtain ⟨_, k, hk, hnd⟩ := h.2.2 c (hl c List.mem_cons_self)
        have h1 := ih fun c hc => hl c (List.mem_cons_of_mem _ hc)
        have h2 := en_le hnd
        rw [List.flatMap_cons, List.length_append, tot_cons, totC_kid hk, enC_br hk]; omega
    exact this n.l fun _ h => h
theorem entT_le (b : Bool) (l : List C) (k : Nat) : ((l.take k).flatMap (entC b)).length ≤ (l.flatMap (entC b)).length := by
  have := congrArg (List.flatMap (entC b)) (List.take_append_drop k l)
  have := congrArg List.length this
  simp only [List.flatMap_append, List.length_append] at this
  omega
theorem entT_succ {b : Bool} {l : List C} {k : Nat} {c : C} (h : l[k]? = some c) : (l.take (k + 1)).flatMap (entC b) = (l.take k).flatMap (entC b) ++ entC b c := by
  rw [List.take_add_one, h]; simp
/-- An entry as it is made. -/
@[go_sem] def nilC (c : C) : DV := .agg [dS c.key, dS c.data, .sl 0 true [], .sl 0 true []]
theorem wk_nilC (c : C) : Wk (nilC c) (dC (bareC c)) := by
  rw [dC_eq]
  exact .agg (.cons (.refl _) (.cons (.refl _) (.cons (.nil _ _ _) (.cons (.nil _ _ _) .nil))))
set_option maxHeartbeats 4000000 in
theorem entriesW (w0 : W0) : ∀ (d : Nat) (n : N) (S : St), Nd d n → totN n ≤ 131072 → ACall Try.prog w0 21 [eN n] S (fun e S' => e = .sl 4 false ((entsN n).map dC) ∧ S' = S) := by
  intro d
  induction d with
  | zero =>
    intro n S hn ht
    have hlf := hn.1
    have hl := tot_len n
    have hm8 : maxLen = 9223372036854775807 := rfl
    refine fnS [2] mx Try.func21 rfl rfl (by kernel_rfl) ?_; simp (maxDischargeDepth := 12) (maxSteps := 1000000) -implicitDefEqProofs only [Try.ntmps21, go_sem, Nat.reduceAdd, Nat.reduceSub, Nat.reduceMul, Nat.reduceLeDiff, Nat.reduceEqDiff, Nat.reduceGT, Nat.reduceBEq, reduceCtorEq, ↓reduceIte, Int.reduceToNat, Int.reduceLE, Int.reduceLT, Int.reduceNe, Int.reduceEq,  hlf]
    intro b
    refine growK 3 4 rfl (by omega) fun lp => ?_
    refine shrK [] [] mx (by kernel_rfl) ?_
    simp (maxDischargeDepth := 12) (maxSteps := 1000000) -implicitDefEqProofs only [go_sem, Nat.reduceAdd, Nat.reduceSub, Nat.reduceMul, Nat.reduceLeDiff, Nat.reduceEqDiff, Nat.reduceGT, Nat.reduceBEq, reduceCtorEq, ↓reduceIte, Int.reduceToNat, Int.reduceLE, Int.reduceLT, Int.reduceNe, Int.reduceEq]
    refine loopN [] n.l.length [1, 3, 4] (fun k => [(3, .acc lp.n k), (4, dI k)]) (fun k => ⟨(b.n, [dI n.page, dB true, .sl 4 false (n.l.map dC)]) :: S.box, (lp.n, .arr 4 ((n.l.take k).map nilC)) :: S.acc⟩) (fun _ => True) mx (by kernel_rfl) ?_ ?_
    · simp (maxDischargeDepth := 12) (maxSteps := 1000000) -implicitDefEqProofs only [go_sem, Nat.reduceAdd, Nat.reduceSub, Nat.reduceMul, Nat.reduceLeDiff, Nat.reduceEqDiff, Nat.reduceGT, Nat.reduceBEq, reduceCtorEq, ↓reduceIte, Int.reduceToNat, Int.reduceLE, Int.reduceLT, Int.reduceNe, Int.reduceEq]
    · intro k hk _
      have hml : (n.l.take k).length = k := by rw [List.length_take]; omega
      simp (maxDischargeDepth := 12) (maxSteps := 1000000) -implicitDefEqProofs only [go_sem, Nat.reduceAdd, Nat.reduceSub, Nat.reduceMul, Nat.reduceLeDiff, Nat.reduceEqDiff, Nat.reduceGT, Nat.reduceBEq, reduceCtorEq, ↓reduceIte, Int.reduceToNat, Int.reduceLE, Int.reduceLT, Int.reduceNe, Int.reduceEq, hml]
      refine ⟨fun hlt => ⟨hlt, fun c hc => ⟨hlt, fun c2 hc2 => ?_⟩⟩, fun hge => ?_⟩
      · rw [hc] at hc2
        cases hc2
        have ht1 : n.l.take (k + 1) = n.l.take k ++ [c] := by rw [List.take_add_one, hc]; rfl
        refine ⟨by omega, by omega, hlt, by rw [w64 (by omega) (by omega)]; omega, ?_⟩
        rw [ht1, List.map_append]; exact .refl _
      · rw [List.take_of_length_le (by omega)]
        have he : (entsN n).map dC = n.l.map fun c => dC (bareC c) := by unfold entsN; rw [en_leaf hlf, List.map_map]; rfl
        rw [he]
        exact (Wk.sl (WkL.map wk_nilC n.l))
  | succ d ih =>
    intro n S hn ht
    have hlf := hn.1
    have hl := tot_len n
    have hq := entsN_eq n
    have hle := en_le hn
    have hel : (entsN n).length = (enN n).length := by unfold entsN; rw [List.length_map]
    rw [hlf] at hq
    have hm8 : maxLen = 9223372036854775807 := rfl
    refine fnS [2] mx Try.func21 rfl rfl (by kernel_rfl) ?_; simp (maxDischargeDepth := 12) (maxSteps := 1000000) -implicitDefEqProofs only [Try.ntmps21, go_sem, Nat.reduceAdd, Nat.reduceSub, Nat.reduceMul, Nat.reduceLeDiff, Nat.reduceEqDiff, Nat.reduceGT, Nat.reduceBEq, reduceCtorEq, ↓reduceIte, Int.reduceToNat, Int.reduceLE, Int.reduceLT, Int.reduceNe, Int.reduceEq,  hlf]
    intro b
    refine growK 3 4 rfl (by omega) fun lp => ?_
    refine shrK [] [] mx (by kernel_rfl) ?_
    simp (maxDischargeDepth := 12) (maxSteps := 1000000) -implicitDefEqProofs only [go_sem, Nat.reduceAdd, Nat.reduceSub, Nat.reduceMul, Nat.reduceLeDiff, Nat.reduceEqDiff, Nat.reduceGT, Nat.reduceBEq, reduceCtorEq, ↓reduceIte, Int.reduceToNat, Int.reduceLE, Int.reduceLT, Int.reduceNe, Int.reduceEq]
    refine loopN [] n.l.length [1, 3, 4] (fun k => [(3, .acc lp.n ((n.l.take k).flatMap (entC false)).length), (4, dI k)]) (fun k => ⟨(b.n, [dI n.page, dB false, .sl 4 false (n.l.map dC)]) :: S.box, (lp.n, .arr 4 (((n.l.take k).flatMap (entC false)).map dC)) :: S.acc⟩) (fun _ => True) mx (by kernel_rfl) ?_ ?_
    · simp (maxDischargeDepth := 12) (maxSteps := 1000000) -implicitDefEqProofs only [go_sem, Nat.reduceAdd, Nat.reduceSub, Nat.reduceMul, Nat.reduceLeDiff, Nat.reduceEqDiff, Nat.reduceGT, Nat.reduceBEq, reduceCtorEq, ↓reduceIte, Int.reduceToNat, Int.reduceLE, Int.reduceLT, Int.reduceNe, Int.reduceEq]
      exact ⟨.refl _, .refl _⟩
    · intro k hk _
      have h1 := entT_le false n.l k
      have h2 := entT_le false n.l (k + 1)
      rw [← hq] at h1 h2
      simp (maxDischargeDepth := 12) (maxSteps := 1000000) -implicitDefEqProofs only [go_sem, Nat.reduceAdd, Nat.reduceSub, Nat.reduceMul, Nat.reduceLeDiff, Nat.reduceEqDiff, Nat.reduceGT, Nat.reduceBEq, reduceCtorEq, ↓reduceIte, Int.reduceToNat, Int.reduceLE, Int.reduceLT, Int.reduceNe, Int.reduceEq]
      refine ⟨fun hlt => ⟨hlt, fun c hc => ?_⟩, fun hge => ?_⟩
      · obtain ⟨hs, kid, hkid, hnd⟩ := hn.2.2 c (List.mem_of_getElem? hc)
        have htk := tot_kid (List.mem_of_getElem? hc) hkid
        have hkl : ((n.l.take (k + 1)).flatMap (entC false)) = (n.l.take k).flatMap (entC false) ++ entsN kid := by rw [entT_succ hc, entC_br hkid]
        have hkn := congrArg List.length hkl
        rw [List.length_append] at hkn
        rw [hkid]
        refine ⟨by simp, fun kid2 hkid2 => ?_⟩
        cases hkid2
        refine use1 (ih kid _ hnd (by omega)) ?_
        simp (maxDischargeDepth := 12) (maxSteps := 1000000) -implicitDefEqProofs only [go_sem, Nat.reduceAdd, Nat.reduceSub, Nat.reduceMul, Nat.reduceLeDiff, Nat.reduceEqDiff, Nat.reduceGT, Nat.reduceBEq, reduceCtorEq, ↓reduceIte, Int.reduceToNat, Int.reduceLE, Int.reduceLT, Int.reduceNe, Int.reduceEq]
        refine ⟨by omega, by omega, hlt, ⟨.eq (by rw [hkn]), by rw [w64 (by omega) (by omega)]; omega⟩, ?_⟩
        rw [hkl, List.map_append]
        exact .refl _
      · rw [List.take_of_length_le (by omega), hq]
        exact .refl _
end Go.Proofs.Ytfieabidajilmaa

namespace Go.Proofs.Ytfieabidajilmaa
open Aml Go
set_option linter.unusedVariables false
set_option linter.unusedSimpArgs false
set_option maxRecDepth 100000
/-- A tree without cells has no page. -/
def PZ (n : N) : Prop := n.l = [] → n.page = 0
def PZV (q : N × List C) : Prop := PZ q.1 ∧ ∀ c, c ∈ q.2 → PZ (kid0 c)
theorem pz_em : PZ emN := fun _ => rfl
theorem pz_put {key val : ByteArray} {n : N} (h : RootG n) (h0 : key ≠ noS) (h1 : key.size ≤ 16) (h2 : val.size ≤ 400) : PZ (Put key val n) := fun e => by
  have := (root_put (val := val) h0 h1 h2 h).2
  rw [enN_eq, e, List.flatMap_nil] at this
  have := congrArg List.length this
  unfold insE at this
  simp at this
theorem pz_del {key : ByteArray} {n : N} (h : RootG n) (hz : PZ n) : PZ (Del key n) := fun e => by
  cases hf : (findN key n).isSome with
  | true => rw [del_empty h hf e]; rfl
  | false =>
    have : Del key n = n := by unfold Del; rw [if_neg (by rw [hf]; simp)]
    rw [this] at e ⊢
    exact hz e
theorem pz_ch {k : Nat} {name : ByteArray} {f : N → N × Int} {n : N} {l : List C} (h : VI k n l) (hz : PZV (n, l)) (hf : ∀ t, TB k t → PZ t → PZ (f t).1) : PZV (chV name f n l).1 := by
  unfold chV
  split
  · rename_i hh
    split
    · rename_i c hc
      split
      · obtain ⟨c2, hc2, hck⟩ := has_at hh
        rw [hc] at hc2; cases hc2
        have hcm := List.mem_of_getElem? hc
        have hcell := h.cell c hcm
        obtain ⟨hne, hsz⟩ := okKey_ne hcell.2.2
        rw [hck] at hne hsz
        refine ⟨pz_put h.dir.1 hne hsz (by decide), fun x hx => ?_⟩
        rcases List.mem_or_eq_of_mem_set hx with hx | rfl
        · exact hz.2 x hx
        · exact hf _ hcell.2.1 (hz.2 c hcm)
      · exact hz
    · exact hz
  · exact hz
theorem pz_st {k : Nat} {q : N × List C} (h : VI k q.1 q.2) (hz : PZV q) (s : Sv) : PZV (stV s q).1 := by
  unfold stV
  split
  · unfold mkV
    split
    · rename_i hok
      obtain ⟨hne, hsz⟩ := okKey_ne hok
      split
      · exact hz
      · refine ⟨pz_put h.dir.1 hne hsz (by decide), fun x hx => ?_⟩
        rcases List.mem_append.1 hx with hx | hx
        · rcases List.mem_append.1 hx with hx | hx
          · exact hz.2 x (List.mem_of_mem_take hx)
          · rw [List.mem_singleton] at hx; subst hx; exact pz_em
        · exact hz.2 x (List.mem_of_mem_drop hx)
    · exact hz
  · split
    · unfold drV
      split
      · refine ⟨pz_del h.dir.1 hz.1, fun x hx => ?_⟩
        rcases List.mem_append.1 hx with hx | hx
        · exact hz.2 x (List.mem_of_mem_take hx)
        · exact hz.2 x (List.mem_of_mem_drop hx)
      · exact hz
    · split
      · unfold puV
        split
        · rename_i hc
          rw [Bool.and_eq_true, decide_eq_true_eq] at hc
          obtain ⟨hne, hsz⟩ := okKey_ne hc.1
          exact pz_ch h hz fun t ht _ => pz_put ht.1 hne hsz hc.2
        · exact hz
      · split
        · refine pz_ch h hz fun t ht hp => ?_
          split
          · exact pz_del ht.1 hp
          · exact hp
        · exact hz
theorem pz_emV : PZV (emN, []) := ⟨pz_em, fun c hc => by cases hc⟩
/-- What is got behind a step. -/
theorem find_ins (key val : ByteArray) (l : List C) : (insE key val l).find? (fun c => eqS c.key key) = some (.mk key val [] []) := by
  unfold insE
  rw [List.find?_append, find_lt (A := l.filter _) fun a ha => by simpa using (List.mem_filter.1 ha).2, Option.none_or, List.find?_cons, C.key_mk, eqS_self]
theorem find_del (key : ByteArray) (l : List C) : (delE key l).find? (fun c => eqS c.key key) = none := by
  refine List.find?_eq_none.2 fun a ha => ?_
  have := (List.mem_filter.1 ha).2
  simpa using this
theorem at_root {k : Nat} {name : ByteArray} {n : N} {l : List C} (h : VI k n l) {t : N} (ht : atV name l = some t) : TB k t ∧ okKey name = true := by
  cases hh : hasN l name with
  | false => rw [at_no h.rise hh] at ht; cases ht
  | true =>
    obtain ⟨c, hc, hk, e⟩ := at_yes h.rise hh
    rw [e] at ht; cases ht
    have hcell := h.cell c (List.mem_of_getElem? hc)
    rw [hk] at hcell
    exact hcell.2
theorem got_put {k : Nat} {name key val : ByteArray} {n : N} {l : List C} (h : VI k n l) (hk : k ≤ 116) (h0 : (puV name key val n l).2 = 0) : geV name key (puV name key val n l).1.2 = (val, 0) := by
  have hv := vi_pu h hk name key val
  unfold puV at *
  split at h0
  · rename_i hc
    rw [if_pos hc] at hv ⊢
    rw [Bool.and_eq_true, decide_eq_true_eq] at hc
    obtain ⟨hne, hsz⟩ := okKey_ne hc.1
    have ha := ch_at (name := name) (f := fun t => (Put key val t, 0)) (n := n) h.rise
    rw [ge_at hv.rise]
    have h1 := congrArg Prod.fst ha
    have h2 := congrArg Prod.snd ha
    simp only at h1 h2
    rw [h0] at h2
    rw [h1]
    cases ht : atV name l with
    | none => rw [ht] at h2; exact absurd (show (0 : Int) = 32 from h2) (by decide)
    | some t =>
      have hr := root_put (val := val) hne hsz hc.2 (at_root h ht).1.1
      have : findN key (Put key val t) = some val := by rw [find_at hr.1, hr.2, find_ins]; rfl
      simp only [gCh, if_true, this]
  · exact absurd (show (34 : Int) = 0 from h0) (by decide)
theorem got_del {k : Nat} {name key : ByteArray} {n : N} {l : List C} (h : VI k n l) (hk : k ≤ 116) : (geV name key (deV name key n l).1.2).2 ≠ 0 := by
  have hv := vi_de h hk name key
  have ha := ch_at (name := name) (f := fun t => if (findN key t).isSome then (Del key t, 0) else (t, 33)) (n := n) h.rise
  rw [ge_at hv.rise]
  have h1 : atV name (deV name key n l).1.2 = _ := congrArg Prod.fst ha
  rw [h1]
  cases ht : atV name l with
  | none => exact (by decide : (32 : Int) ≠ 0)
  | some t =>
    have hr := root_del key (at_root h ht).1.1
    have : findN key (Del key t) = none := by rw [find_at hr.1, hr.2, find_del]; rfl
    simp only [gCh]
    cases hf : findN key t with
    | none =>
      simp only [Option.isSome_none, Bool.false_eq_true, if_false, hf]
      rw [if_neg (by decide)]
      simp only [hf]; decide
    | some x =>
      simp only [Option.isSome_some, if_true, this]; decide
theorem got_drop {k : Nat} {name key : ByteArray} {n : N} {l : List C} (h : VI k n l) (hk : k ≤ 116) : (geV name key (drV name n l).1.2).2 = 32 := by
  have hv := vi_dr h hk name
  have ha := dr_at (name := name) (n := n) h.rise
  rw [ge_at hv.rise]
  have h1 := congrArg Prod.fst ha
  simp only at h1
  rw [h1]
  cases ht : atV name l <;> rfl
/-- A view's names, as the reference tells them. -/
theorem ents_dir {k : Nat} {n : N} {l : List C} (h : VI k n l) : entsN n = l.map dirC := by
  unfold entsN
  rw [h.en, List.map_map]; rfl
theorem rise_at {l : List C} (h : Rise l) {i j : Nat} {a b : C} (hij : i < j) (ha : l[i]? = some a) (hb : l[j]? = some b) : ltS a.key b.key = true := by
  obtain ⟨h1, rfl⟩ := List.getElem?_eq_some_iff.1 ha
  obtain ⟨h2, rfl⟩ := List.getElem?_eq_some_iff.1 hb
  exact List.pairwise_iff_getElem.1 h i j h1 h2 hij
end Go.Proofs.Ytfieabidajilmaa

namespace Go.Proofs.Ytfieabidajilmaa
open Aml Go
set_option linter.unusedVariables false
set_option linter.unusedSimpArgs false
set_option maxRecDepth 100000
/-- A value that may be. -/
def okV (c : C) : Prop := c.data.size ≤ 400 ∧ (c.pages ≠ [] → 16 < c.data.size)
set_option maxHeartbeats 4000000 in
theorem badV (w0 : W0) (c : C) (S : St) (h : okV c) : ACall Try.prog w0 112 [dV2 c] S (fun d S' => d = dB false ∧ S' = S) := by
  obtain ⟨h1, h2⟩ := h
  refine fnS [] mx Try.func112 rfl rfl (by kernel_rfl) ?_; simp (maxDischargeDepth := 12) (maxSteps := 1000000) -implicitDefEqProofs only [Try.ntmps112, go_sem, Nat.reduceAdd, Nat.reduceSub, Nat.reduceMul, Nat.reduceLeDiff, Nat.reduceEqDiff, Nat.reduceGT, Nat.reduceBEq, reduceCtorEq, ↓reduceIte, Int.reduceToNat, Int.reduceLE, Int.reduceLT, Int.reduceNe, Int.reduceEq]
  intro b
  refine ⟨fun h3 => absurd h3 (by omega), fun _ h3 => use1 (needP w0 _ _) ?_⟩
  · simp (maxDischargeDepth := 12) (maxSteps := 1000000) -implicitDefEqProofs only [go_sem, Nat.reduceAdd, Nat.reduceSub, Nat.reduceMul, Nat.reduceLeDiff, Nat.reduceEqDiff, Nat.reduceGT, Nat.reduceBEq, reduceCtorEq, ↓reduceIte, Int.reduceToNat, Int.reduceLE, Int.reduceLT, Int.reduceNe, Int.reduceEq]
    have : c.pages ≠ [] := fun e => by rw [e] at h3; simp at h3
    have := h2 this
    unfold need
    rw [if_pos (by omega)]
    omega
set_option maxHeartbeats 4000000 in
theorem idxV (w0 : W0) (l : List C) (S : St) (h : ∀ c, c ∈ l → okV c) (hl : l.length ≤ 1048576) : ACall Try.prog w0 127 [.sl 2 false (l.map dV2), .v (.func (.func 112) #[] #[])] S (fun d S' => d = dI (-1) ∧ S' = S) := by
  refine fnS [] mx Try.func127 rfl rfl (by kernel_rfl) ?_; simp (maxDischargeDepth := 12) (maxSteps := 1000000) -implicitDefEqProofs only [Try.ntmps127, go_sem, Nat.reduceAdd, Nat.reduceSub, Nat.reduceMul, Nat.reduceLeDiff, Nat.reduceEqDiff, Nat.reduceGT, Nat.reduceBEq, reduceCtorEq, ↓reduceIte, Int.reduceToNat, Int.reduceLE, Int.reduceLT, Int.reduceNe, Int.reduceEq]
  refine loopN [] l.length [0, 1, 7, 8] (fun k => [(8, dI k)]) (fun _ => S) (fun _ => True) mx (by kernel_rfl) ?_ ?_
  · simp (maxDischargeDepth := 12) (maxSteps := 1000000) -implicitDefEqProofs only [go_sem, Nat.reduceAdd, Nat.reduceSub, Nat.reduceMul, Nat.reduceLeDiff, Nat.reduceEqDiff, Nat.reduceGT, Nat.reduceBEq, reduceCtorEq, ↓reduceIte, Int.reduceToNat, Int.reduceLE, Int.reduceLT, Int.reduceNe, Int.reduceEq]
  · intro k hk _
    simp (maxDischargeDepth := 12) (maxSteps := 1000000) -implicitDefEqProofs only [go_sem, Nat.reduceAdd, Nat.reduceSub, Nat.reduceMul, Nat.reduceLeDiff, Nat.reduceEqDiff, Nat.reduceGT, Nat.reduceBEq, reduceCtorEq, ↓reduceIte, Int.reduceToNat, Int.reduceLE, Int.reduceLT, Int.reduceNe, Int.reduceEq]
    refine fun hlt => ⟨hlt, fun c hc => use1 (badV w0 c _ (h c (List.mem_of_getElem? hc))) ?_⟩
    simp (maxDischargeDepth := 12) (maxSteps := 1000000) -implicitDefEqProofs only [go_sem, Nat.reduceAdd, Nat.reduceSub, Nat.reduceMul, Nat.reduceLeDiff, Nat.reduceEqDiff, Nat.reduceGT, Nat.reduceBEq, reduceCtorEq, ↓reduceIte, Int.reduceToNat, Int.reduceLE, Int.reduceLT, Int.reduceNe, Int.reduceEq]
    exact ⟨hlt, i_oneV k (by omega)⟩
set_option maxHeartbeats 4000000 in
theorem anyV (w0 : W0) (l : List C) (S : St) (h : ∀ c, c ∈ l → okV c) (hl : l.length ≤ 1048576) : ACall Try.prog w0 111 [.sl 2 false (l.map dV2), .v (.func (.func 112) #[] #[])] S (fun d S' => d = dB false ∧ S' = S) := by
  refine fnS [] mx Try.func111 rfl rfl (by kernel_rfl) ?_; simp (maxDischargeDepth := 12) (maxSteps := 1000000) -implicitDefEqProofs only [Try.ntmps111, go_sem, Nat.reduceAdd, Nat.reduceSub, Nat.reduceMul, Nat.reduceLeDiff, Nat.reduceEqDiff, Nat.reduceGT, Nat.reduceBEq, reduceCtorEq, ↓reduceIte, Int.reduceToNat, Int.reduceLE, Int.reduceLT, Int.reduceNe, Int.reduceEq]
  refine use1 (idxV w0 l _ h hl) ?_
  simp (maxDischargeDepth := 12) (maxSteps := 1000000) -implicitDefEqProofs only [go_sem, Nat.reduceAdd, Nat.reduceSub, Nat.reduceMul, Nat.reduceLeDiff, Nat.reduceEqDiff, Nat.reduceGT, Nat.reduceBEq, reduceCtorEq, ↓reduceIte, Int.reduceToNat, Int.reduceLE, Int.reduceLT, Int.reduceNe, Int.reduceEq]
  omega
/-- Keys that may stand in a node, from one on, and below another one. -/
structure FitK (b : Bool) (l : List C) (lo hi : ByteArray) : Prop where
  rise : Rise l
  size : ∀ c, c ∈ l → c.key.size ≤ 16
  first : ∀ (i : Nat) c, l[i]? = some c → (c.key = noS ↔ i = 0 ∧ b = false)
  low : ∀ (i : Nat) c, l[i]? = some c → ¬ (i = 0 ∧ b = false) → leS lo c.key = true
  high : hi ≠ noS → ∀ c, c ∈ l → ltS c.key hi = true
theorem noS_ge {a : ByteArray} (h : ltS a noS = true) : False := by
  have := leS_iff.1 (noS_le a)
  rw [h] at this; cases this
theorem fitK_good : ∀ {d : Nat} {n : N} {lo hi : ByteArray}, Good d n → (∀ x, x ∈ enN n → leS lo x.key = true) → (hi ≠ noS → ∀ x, x ∈ enN n → ltS x.key hi = true) → FitK n.leaf n.l lo hi
  | 0, n, lo, hi, h, h1, h2 => by
    rw [h.1]
    rw [en_leaf h.1] at h1 h2
    exact ⟨h.2.1, fun c hc => (h.2.2 c hc).2.1, fun i c hc => ⟨fun e => absurd e (h.2.2 c (List.mem_of_getElem? hc)).1, fun e => by cases e.2⟩, fun i c hc _ => h1 c (List.mem_of_getElem? hc), fun e c hc => h2 e c hc⟩
  | d + 1, n, lo, hi, h, h1, h2 => by
    obtain ⟨hl, hne, hB⟩ := h
    rw [hl]
    have hr : Rise n.l := hB.pw.imp fun h => h.1
    have hin : ∀ c, c ∈ n.l → ∀ x, x ∈ enC false c → x ∈ enN n := fun c hc x hx => by rw [enN_eq, hl]; exact List.mem_flatMap.2 ⟨c, hc, hx⟩
    have hlt : ∀ (i : Nat) c, n.l[i]? = some c → 0 < i → ∃ x, x ∈ enN n ∧ ltS x.key c.key = true := fun i c hc hi => by
      obtain ⟨j, rfl⟩ : ∃ j, i = j + 1 := ⟨i - 1, by omega⟩
      obtain ⟨hi2, rfl⟩ := List.getElem?_eq_some_iff.1 hc
      have hj : n.l[j]? = some n.l[j] := List.getElem?_eq_getElem (by omega)
      obtain ⟨x, hx⟩ := cell_ne (hB.cell _ (List.mem_of_getElem? hj))
      exact ⟨x, hin _ (List.mem_of_getElem? hj) x hx, (List.pairwise_iff_getElem.1 hB.pw j (j + 1) (by omega) hi2 (by omega)).2 x hx⟩
    refine ⟨hr, fun c hc => (hB.cell c hc).1.1, fun i c hc => ⟨fun e => ⟨?_, rfl⟩, fun e => ?_⟩, fun i c hc hi => ?_, fun e c hc => ?_⟩
    · refine Nat.eq_zero_of_not_pos fun hp => ?_
      obtain ⟨x, _, hx⟩ := hlt i c hc hp
      rw [e] at hx
      exact noS_ge hx
    · have := hB.k0
      rw [e.1] at hc
      cases hx : n.l with
      | nil => rw [hx] at hc; cases hc
      | cons a l => rw [hx] at hc this; cases hc; exact this
    · obtain ⟨x, hx, hxc⟩ := hlt i c hc (Nat.pos_of_ne_zero fun e => hi ⟨e, rfl⟩)
      exact ltS_le (leS_lt (h1 x hx) hxc)
    · have hcG := hB.cell c hc
      obtain ⟨x, hx⟩ := cell_ne hcG
      exact leS_lt (hcG.2.1 x hx) (h2 e x (hin c hc x hx))
theorem okV_good {n : N} (h : Good 0 n) : ∀ c, c ∈ n.l → okV c := fun c hc => by
  obtain ⟨_, _, h3, h4, _⟩ := h.2.2 c hc
  exact ⟨h3, h4⟩
set_option maxHeartbeats 8000000 in
theorem fitsL (w0 : W0) (n : N) (lo hi : ByteArray) (S : St) (hlf : n.leaf = true) (hk : FitK true n.l lo hi) (hv : ∀ c, c ∈ n.l → okV c) (hl : n.l.length ≤ 1048576) : ACall Try.prog w0 88 [eT n, .agg [dS lo, dS hi]] S (fun d S' => d = dB true ∧ S' = S) := by
  have hany := fun S => anyV w0 n.l S hv hl
  rw [eT_leaf hlf]
  refine fnS [6] mx Try.func88 rfl rfl (by kernel_rfl) ?_; simp (maxDischargeDepth := 12) (maxSteps := 1000000) -implicitDefEqProofs only [Try.ntmps88, go_sem, Nat.reduceAdd, Nat.reduceSub, Nat.reduceMul, Nat.reduceLeDiff, Nat.reduceEqDiff, Nat.reduceGT, Nat.reduceBEq, reduceCtorEq, ↓reduceIte, Int.reduceToNat, Int.reduceLE, Int.reduceLT, Int.reduceNe, Int.reduceEq]
  intro b b1
  refine ⟨fun h => absurd h (by omega), fun _ => ?_⟩
  refine loopN [6] n.l.length [2, 3, 46, 47, 48] (fun k => [(48, dI k)]) (fun k => ⟨(b1.n, [dS lo, dS hi]) :: (b.n, [dI n.page, dB true, .sl 1 false (n.l.map fun c => dS c.key), .sl 2 false (n.l.map dV2), .sl 5 false []]) :: S.box, S.acc⟩) (fun _ => True) mx (by kernel_rfl) ?_ ?_
  · simp (maxDischargeDepth := 12) (maxSteps := 1000000) -implicitDefEqProofs only [go_sem, Nat.reduceAdd, Nat.reduceSub, Nat.reduceMul, Nat.reduceLeDiff, Nat.reduceEqDiff, Nat.reduceGT, Nat.reduceBEq, reduceCtorEq, ↓reduceIte, Int.reduceToNat, Int.reduceLE, Int.reduceLT, Int.reduceNe, Int.reduceEq]
  · intro k hk' _
    simp (maxDischargeDepth := 12) (maxSteps := 1000000) -implicitDefEqProofs only [go_sem, Nat.reduceAdd, Nat.reduceSub, Nat.reduceMul, Nat.reduceLeDiff, Nat.reduceEqDiff, Nat.reduceGT, Nat.reduceBEq, reduceCtorEq, ↓reduceIte, Int.reduceToNat, Int.reduceLE, Int.reduceLT, Int.reduceNe, Int.reduceEq]
    refine ⟨fun hlt => ⟨hlt, fun a ha => ?_⟩, fun _ => use1 (hany _) ?_⟩
    · have hm := List.mem_of_getElem? ha
      have f1 : eqS a.key { data := #[] } = false := eqS_no.2 fun e => (by have := ((hk.first k a ha).1 e).2; cases this)
      have f3 : ltS a.key lo = false := leS_iff.1 (hk.low k a ha fun e => by cases e.2)
      have f2 : ((a.key.size : Int) > 16) = False := eq_false (by have := hk.size a hm; omega)
      have f4 : eqS hi { data := #[] } = false → ltS a.key hi = true := fun e => hk.high (eqS_no.1 e) a hm
      have f5 := i_oneV k (by omega)
      have f4' : eqS hi { data := #[] } = false → ltS a.key hi = false → False := fun e h => by rw [f4 e] at h; cases h
      rcases Nat.eq_zero_or_pos k with h0 | h0
      · have z1 : ((k : Int) = 0) = True := eq_true (by omega)
        have z2 : ((k : Int) > 0) = False := eq_false (by omega)
        refine rawK [] mx (by kernel_rfl) ?_
        simp (maxDischargeDepth := 12) (maxSteps := 1000000) -implicitDefEqProofs only [go_sem, Nat.reduceAdd, Nat.reduceSub, Nat.reduceMul, Nat.reduceLeDiff, Nat.reduceEqDiff, Nat.reduceGT, Nat.reduceBEq, reduceCtorEq, ↓reduceIte, Int.reduceToNat, Int.reduceLE, Int.reduceLT, Int.reduceNe, Int.reduceEq, f1, f2, f3, f5, z1, z2, hlt]
        exact f4'
      · skip
        have z1 : ((k : Int) = 0) = False := eq_false (by omega)
        have z2 : ((k : Int) > 0) = True := eq_true (by omega)
        have z3 : IntKind.i64.wrap ((k : Int) - 1) = ((k - 1 : Nat) : Int) := by rw [w64 (by omega) (by omega)]; omega
        have z4 : ∀ c, n.l[k - 1]? = some c → leS a.key c.key = false := fun c hc => leS_no.2 (rise_at hk.rise (i := k - 1) (j := k) (by omega) hc ha)
        have z5 : ∀ c, n.l[k - 1]? = some c → leS a.key c.key = true → False := fun c hc h => by rw [z4 c hc] at h; cases h
        refine rawK [] mx (by kernel_rfl) ?_
        simp (maxDischargeDepth := 12) (maxSteps := 1000000) -implicitDefEqProofs only [go_sem, Nat.reduceAdd, Nat.reduceSub, Nat.reduceMul, Nat.reduceLeDiff, Nat.reduceEqDiff, Nat.reduceGT, Nat.reduceBEq, reduceCtorEq, ↓reduceIte, Int.reduceToNat, Int.reduceLE, Int.reduceLT, Int.reduceNe, Int.reduceEq, f1, f2, f3, f5, z1, z2, z3, hlt]
        exact ⟨by omega, fun c hc => ⟨z5 c hc, fun _ => f4'⟩⟩
    · simp (maxDischargeDepth := 12) (maxSteps := 1000000) -implicitDefEqProofs only [go_sem, Nat.reduceAdd, Nat.reduceSub, Nat.reduceMul, Nat.reduceLeDiff, Nat.reduceEqDiff, Nat.reduceGT, Nat.reduceBEq, reduceCtorEq, ↓reduceIte, Int.reduceToNat, Int.reduceLE, Int.reduceLT, Int.reduceNe, Int.reduceEq]
set_option maxHeartbeats 8000000 in
theorem fitsB (w0 : W0) (n : N) (lo hi : ByteArray) (S : St) (hlf : n.leaf = false) (hk : FitK false n.l lo hi) (hone : ∀ c, c ∈ n.l → ∃ k, c.kid = [k]) (hl : n.l.length ≤ 1048576) : ACall Try.prog w0 88 [eT n, .agg [dS lo, dS hi]] S (fun d S' => d = dB true ∧ S' = S) := by
  have hany := fun S => anyV w0 [] S (fun c hc => by cases hc) (by simp)
  rw [eT_br hlf hone]
  unfold brT
  have hdk := dK_len n.l
  generalize dK n.l = K at *
  refine fnS [6] mx Try.func88 rfl rfl (by kernel_rfl) ?_; simp (maxDischargeDepth := 12) (maxSteps := 1000000) -implicitDefEqProofs only [Try.ntmps88, go_sem, Nat.reduceAdd, Nat.reduceSub, Nat.reduceMul, Nat.reduceLeDiff, Nat.reduceEqDiff, Nat.reduceGT, Nat.reduceBEq, reduceCtorEq, ↓reduceIte, Int.reduceToNat, Int.reduceLE, Int.reduceLT, Int.reduceNe, Int.reduceEq,  hdk]
  intro b b1
  refine ⟨fun h => absurd h (by omega), fun _ => ?_⟩
  refine loopN [6] n.l.length [2, 3, 46, 47, 48] (fun k => [(48, dI k)]) (fun k => ⟨(b1.n, [dS lo, dS hi]) :: (b.n, [dI n.page, dB false, .sl 1 false (n.l.map fun c => dS c.key), .sl 2 false [], .sl 5 false K]) :: S.box, S.acc⟩) (fun _ => True) mx (by kernel_rfl) ?_ ?_
  · simp (maxDischargeDepth := 12) (maxSteps := 1000000) -implicitDefEqProofs only [go_sem, Nat.reduceAdd, Nat.reduceSub, Nat.reduceMul, Nat.reduceLeDiff, Nat.reduceEqDiff, Nat.reduceGT, Nat.reduceBEq, reduceCtorEq, ↓reduceIte, Int.reduceToNat, Int.reduceLE, Int.reduceLT, Int.reduceNe, Int.reduceEq]
  · intro k hk' _
    simp (maxDischargeDepth := 12) (maxSteps := 1000000) -implicitDefEqProofs only [go_sem, Nat.reduceAdd, Nat.reduceSub, Nat.reduceMul, Nat.reduceLeDiff, Nat.reduceEqDiff, Nat.reduceGT, Nat.reduceBEq, reduceCtorEq, ↓reduceIte, Int.reduceToNat, Int.reduceLE, Int.reduceLT, Int.reduceNe, Int.reduceEq]
    refine ⟨fun hlt => ⟨hlt, fun a ha => ?_⟩, fun _ => use1 (hany _) ?_⟩
    · have hm := List.mem_of_getElem? ha
      have f2 : ((a.key.size : Int) > 16) = False := eq_false (by have := hk.size a hm; omega)
      have f4 : eqS hi { data := #[] } = false → ltS a.key hi = true := fun e => hk.high (eqS_no.1 e) a hm
      have f5 := i_oneV k (by omega)
      have f4' : eqS hi { data := #[] } = false → ltS a.key hi = false → False := fun e h => by rw [f4 e] at h; cases h
      rcases Nat.eq_zero_or_pos k with h0 | h0
      · have z1 : ((k : Int) = 0) = True := eq_true (by omega)
        have z2 : ((k : Int) > 0) = False := eq_false (by omega)
        have f1 : eqS a.key { data := #[] } = true := eqS_iff.2 ((hk.first k a ha).2 ⟨h0, rfl⟩)
        refine rawK [] mx (by kernel_rfl) ?_
        simp (maxDischargeDepth := 12) (maxSteps := 1000000) -implicitDefEqProofs only [go_sem, Nat.reduceAdd, Nat.reduceSub, Nat.reduceMul, Nat.reduceLeDiff, Nat.reduceEqDiff, Nat.reduceGT, Nat.reduceBEq, reduceCtorEq, ↓reduceIte, Int.reduceToNat, Int.reduceLE, Int.reduceLT, Int.reduceNe, Int.reduceEq, f1, f2, f5, z1, z2, hlt]
        exact f4'
      · have f1 : eqS a.key { data := #[] } = false := eqS_no.2 fun e => absurd ((hk.first k a ha).1 e).1 (by omega)
        have f3 : ltS a.key lo = false := leS_iff.1 (hk.low k a ha fun e => absurd e.1 (by omega))
        have z1 : ((k : Int) = 0) = False := eq_false (by omega)
        have z2 : ((k : Int) > 0) = True := eq_true (by omega)
        have z3 : IntKind.i64.wrap ((k : Int) - 1) = ((k - 1 : Nat) : Int) := by rw [w64 (by omega) (by omega)]; omega
        have z4 : ∀ c, n.l[k - 1]? = some c → leS a.key c.key = false := fun c hc => leS_no.2 (rise_at hk.rise (i := k - 1) (j := k) (by omega) hc ha)
        have z5 : ∀ c, n.l[k - 1]? = some c → leS a.key c.key = true → False := fun c hc h => by rw [z4 c hc] at h; cases h
        refine rawK [] mx (by kernel_rfl) ?_
        simp (maxDischargeDepth := 12) (maxSteps := 1000000) -implicitDefEqProofs only [go_sem, Nat.reduceAdd, Nat.reduceSub, Nat.reduceMul, Nat.reduceLeDiff, Nat.reduceEqDiff, Nat.reduceGT, Nat.reduceBEq, reduceCtorEq, ↓reduceIte, Int.reduceToNat, Int.reduceLE, Int.reduceLT, Int.reduceNe, Int.reduceEq, f1, f2, f3, f5, z1, z2, z3, hlt]
        exact ⟨by omega, fun c hc => ⟨z5 c hc, fun _ => f4'⟩⟩
    · simp (maxDischargeDepth := 12) (maxSteps := 1000000) -implicitDefEqProofs only [go_sem, Nat.reduceAdd, Nat.reduceSub, Nat.reduceMul, Nat.reduceLeDiff, Nat.reduceEqDiff, Nat.reduceGT, Nat.reduceBEq, reduceCtorEq, ↓reduceIte, Int.reduceToNat, Int.reduceLE, Int.reduceLT, Int.reduceNe, Int.reduceEq]
end Go.Proofs.Ytfieabidajilmaa

namespace Go.Proofs.Ytfieabidajilmaa
open Aml Go
set_option linter.unusedVariables false
set_option linter.unusedSimpArgs false
set_option maxRecDepth 100000
set_option maxHeartbeats 8000000 in
theorem depthW (w0 : W0) : ∀ (d : Nat) (n : N) (lo hi : ByteArray) (r : Bool) (S : St), Good d n → totN n ≤ 131072 → d ≤ 100000 → (sizesN n).sum ≤ 122 → (r = true ∨ 30 ≤ (sizesN n).sum) → n.l ≠ [] → (n.leaf = true ∨ 2 ≤ n.l.length) → (∀ x, x ∈ enN n → leS lo x.key = true) → (hi ≠ noS → ∀ x, x ∈ enN n → ltS x.key hi = true) →
    ACall Try.prog w0 58 [eT n, .agg [dS lo, dS hi], dB r] S (fun e S' => e = dI d ∧ S' = S) := by
  intro d
  induction d with
  | zero =>
    intro n lo hi r S hg ht hd hsum hr hne h2 hlo hhi
    have hn := good_nd hg
    have hlen := tot_len n
    have hlf := hg.1
    have hsm := nd_sm hn
    have hfk := fitK_good hg hlo hhi
    rw [hlf] at hfk
    have hfit := fun S => fitsL w0 n lo hi S hlf hfk (okV_good hg) (by omega)
    have hsz := fun S => sizesP w0 n S hsm (by omega)
    have hbd := sizes_bd n hsm (by omega)
    have hpos := List.length_pos_iff.2 hne
    rw [eT_leaf hlf] at *
    refine fnS [] mx Try.func58 rfl rfl (by kernel_rfl) ?_; simp (maxDischargeDepth := 12) (maxSteps := 1000000) -implicitDefEqProofs only [Try.ntmps58, go_sem, Nat.reduceAdd, Nat.reduceSub, Nat.reduceMul, Nat.reduceLeDiff, Nat.reduceEqDiff, Nat.reduceGT, Nat.reduceBEq, reduceCtorEq, ↓reduceIte, Int.reduceToNat, Int.reduceLE, Int.reduceLT, Int.reduceNe, Int.reduceEq]
    intro b b1
    refine use1 (hfit _) ?_
    simp (maxDischargeDepth := 12) (maxSteps := 1000000) -implicitDefEqProofs only [go_sem, Nat.reduceAdd, Nat.reduceSub, Nat.reduceMul, Nat.reduceLeDiff, Nat.reduceEqDiff, Nat.reduceGT, Nat.reduceBEq, reduceCtorEq, ↓reduceIte, Int.reduceToNat, Int.reduceLE, Int.reduceLT, Int.reduceNe, Int.reduceEq]
    refine ⟨fun h => absurd h (by omega), fun _ => use1 (hsz _) ?_⟩
    simp (maxDischargeDepth := 12) (maxSteps := 1000000) -implicitDefEqProofs only [go_sem, Nat.reduceAdd, Nat.reduceSub, Nat.reduceMul, Nat.reduceLeDiff, Nat.reduceEqDiff, Nat.reduceGT, Nat.reduceBEq, reduceCtorEq, ↓reduceIte, Int.reduceToNat, Int.reduceLE, Int.reduceLT, Int.reduceNe, Int.reduceEq]
    refine use1 (sumP w0 _ _ hbd) ?_
    simp (maxDischargeDepth := 12) (maxSteps := 1000000) -implicitDefEqProofs only [go_sem, Nat.reduceAdd, Nat.reduceSub, Nat.reduceMul, Nat.reduceLeDiff, Nat.reduceEqDiff, Nat.reduceGT, Nat.reduceBEq, reduceCtorEq, ↓reduceIte, Int.reduceToNat, Int.reduceLE, Int.reduceLT, Int.reduceNe, Int.reduceEq]
    have hlow : r = false → lowR (sizesN n) = false := fun e => decide_eq_false (by rcases hr with h | h; · rw [e] at h; cases h
                                                                                    · omega)
    refine ⟨fun h => absurd h (by omega), fun _ => ⟨fun hrf => use1 (hsz _) ?_, fun hrt => ?_⟩⟩
    · simp (maxDischargeDepth := 12) (maxSteps := 1000000) -implicitDefEqProofs only [go_sem, Nat.reduceAdd, Nat.reduceSub, Nat.reduceMul, Nat.reduceLeDiff, Nat.reduceEqDiff, Nat.reduceGT, Nat.reduceBEq, reduceCtorEq, ↓reduceIte, Int.reduceToNat, Int.reduceLE, Int.reduceLT, Int.reduceNe, Int.reduceEq]
      refine use1 (lowP w0 _ _ hbd) ?_
      rw [hlow hrf]
      simp (maxDischargeDepth := 12) (maxSteps := 1000000) -implicitDefEqProofs only [go_sem, Nat.reduceAdd, Nat.reduceSub, Nat.reduceMul, Nat.reduceLeDiff, Nat.reduceEqDiff, Nat.reduceGT, Nat.reduceBEq, reduceCtorEq, ↓reduceIte, Int.reduceToNat, Int.reduceLE, Int.reduceLT, Int.reduceNe, Int.reduceEq]
      refine loopN [] 0 [3, 4, 8, 42, 43, 44] (fun k => [(8, dI 0), (44, dI k)]) (fun k => ⟨(b1.n, [dS lo, dS hi]) :: (b.n, [dI n.page, dB true, .sl 1 false (n.l.map fun c => dS c.key), .sl 2 false (n.l.map dV2), .sl 5 false []]) :: S.box, S.acc⟩) (fun _ => True) mx (by kernel_rfl) ?_ ?_
      · simp (maxDischargeDepth := 12) (maxSteps := 1000000) -implicitDefEqProofs only [go_sem, Nat.reduceAdd, Nat.reduceSub, Nat.reduceMul, Nat.reduceLeDiff, Nat.reduceEqDiff, Nat.reduceGT, Nat.reduceBEq, reduceCtorEq, ↓reduceIte, Int.reduceToNat, Int.reduceLE, Int.reduceLT, Int.reduceNe, Int.reduceEq]
      · intro k hk' _
        simp (maxDischargeDepth := 12) (maxSteps := 1000000) -implicitDefEqProofs only [go_sem, Nat.reduceAdd, Nat.reduceSub, Nat.reduceMul, Nat.reduceLeDiff, Nat.reduceEqDiff, Nat.reduceGT, Nat.reduceBEq, reduceCtorEq, ↓reduceIte, Int.reduceToNat, Int.reduceLE, Int.reduceLT, Int.reduceNe, Int.reduceEq]
    · refine loopN [] 0 [3, 4, 8, 42, 43, 44] (fun k => [(8, dI 0), (44, dI k)]) (fun k => ⟨(b1.n, [dS lo, dS hi]) :: (b.n, [dI n.page, dB true, .sl 1 false (n.l.map fun c => dS c.key), .sl 2 false (n.l.map dV2), .sl 5 false []]) :: S.box, S.acc⟩) (fun _ => True) mx (by kernel_rfl) ?_ ?_
      · simp (maxDischargeDepth := 12) (maxSteps := 1000000) -implicitDefEqProofs only [go_sem, Nat.reduceAdd, Nat.reduceSub, Nat.reduceMul, Nat.reduceLeDiff, Nat.reduceEqDiff, Nat.reduceGT, Nat.reduceBEq, reduceCtorEq, ↓reduceIte, Int.reduceToNat, Int.reduceLE, Int.reduceLT, Int.reduceNe, Int.reduceEq]
      · intro k hk' _
        simp (maxDischargeDepth := 12) (maxSteps := 1000000) -implicitDefEqProofs only [go_sem, Nat.reduceAdd, Nat.reduceSub, Nat.reduceMul, Nat.reduceLeDiff, Nat.reduceEqDiff, Nat.reduceGT, Nat.reduceBEq, reduceCtorEq, ↓reduceIte, Int.reduceToNat, Int.reduceLE, Int.reduceLT, Int.reduceNe, Int.reduceEq]
  | succ d ih =>
    intro n lo hi r S hg ht hd hsum hr hne h2 hlo hhi
    have hn := good_nd hg
    have hlen := tot_len n
    have hlf := hg.1
    have hsm := nd_sm hn
    have hfk := fitK_good hg hlo hhi
    have hone := nd_one hn hlf
    rw [hlf] at hfk
    have hfit := fun S => fitsB w0 n lo hi S hlf hfk hone (by omega)
    have hsz := fun S => sizesP w0 n S hsm (by omega)
    have hbd := sizes_bd n hsm (by omega)
    have hpos := h2.resolve_left (by rw [hlf]; simp)
    have hkn := kids_nd hn
    have hres : eT n = .agg [dI n.page, dB false, .sl 1 false (n.l.map fun c => dS c.key), .sl 2 false [], .sl 5 false ((n.l.map kid0).map dT)] := by
      show DV.agg _ = _
      rw [hkn, hlf]; rfl
    rw [hres] at hfit hsz ⊢
    clear hres
    have hlow : r = false → lowR (sizesN n) = false := fun e => decide_eq_false (by rcases hr with h | h; · rw [e] at h; cases h
                                                                                    · omega)
    have hB := hg.2.2
    have hkid : ∀ (k : Nat) c, n.l[k]? = some c → ∀ lo' hi', (if k = 0 then lo' = lo else lo' = c.key) → (match n.l[k + 1]? with
        | some c' => hi' = c'.key
        | none => hi' = hi) → ∀ T, ACall Try.prog w0 58 [eT (kid0 c), .agg [dS lo', dS hi'], dB false] T (fun e S' => e = dI d ∧ S' = T) := by
      intro k c hc lo' hi' hl' hh' T
      have hcm := List.mem_of_getElem? hc
      obtain ⟨s1, s2, kd, hkid, hkg, hkf⟩ := hB.cell c hcm
      rw [kid0_eq hkid]
      have htk := tot_kid hcm hkid
      have hin : ∀ x, x ∈ enN kd → x ∈ enN n := fun x hx => by rw [enN_eq, hlf]; exact List.mem_flatMap.2 ⟨c, hcm, by rw [enC_br hkid]; exact hx⟩
      refine ih kd lo' hi' false T hkg (by omega) (by omega) hkf.2 (.inr hkf.1) (fits_ne hkf) (fits_two hkg hkf) (fun x hx => ?_) fun hne' x hx => ?_
      · split at hl'
        · rw [hl']; exact hlo x (hin x hx)
        · rw [hl']; exact s2 x (by rw [enC_br hkid]; exact hx)
      · split at hh'
        · rename_i c' hc'
          obtain ⟨q1, rfl⟩ := List.getElem?_eq_some_iff.1 hc
          obtain ⟨q2, rfl⟩ := List.getElem?_eq_some_iff.1 hc'
          rw [hh']
          exact (List.pairwise_iff_getElem.1 hB.pw k (k + 1) q1 q2 (by omega)).2 x (by rw [enC_br hkid]; exact hx)
        · rw [hh'] at hne' ⊢; exact hhi hne' x (hin x hx)
    refine fnS [] mx Try.func58 rfl rfl (by kernel_rfl) ?_; simp (maxDischargeDepth := 12) (maxSteps := 1000000) -implicitDefEqProofs only [Try.ntmps58, go_sem, Nat.reduceAdd, Nat.reduceSub, Nat.reduceMul, Nat.reduceLeDiff, Nat.reduceEqDiff, Nat.reduceGT, Nat.reduceBEq, reduceCtorEq, ↓reduceIte, Int.reduceToNat, Int.reduceLE, Int.reduceLT, Int.reduceNe, Int.reduceEq]
    intro b b1
    refine use1 (hfit _) ?_
    simp (maxDischargeDepth := 12) (maxSteps := 1000000) -implicitDefEqProofs only [go_sem, Nat.reduceAdd, Nat.reduceSub, Nat.reduceMul, Nat.reduceLeDiff, Nat.reduceEqDiff, Nat.reduceGT, Nat.reduceBEq, reduceCtorEq, ↓reduceIte, Int.reduceToNat, Int.reduceLE, Int.reduceLT, Int.reduceNe, Int.reduceEq]
    refine ⟨fun h => absurd h (by omega), fun _ => use1 (hsz _) ?_⟩
    simp (maxDischargeDepth := 12) (maxSteps := 1000000) -implicitDefEqProofs only [go_sem, Nat.reduceAdd, Nat.reduceSub, Nat.reduceMul, Nat.reduceLeDiff, Nat.reduceEqDiff, Nat.reduceGT, Nat.reduceBEq, reduceCtorEq, ↓reduceIte, Int.reduceToNat, Int.reduceLE, Int.reduceLT, Int.reduceNe, Int.reduceEq]
    refine use1 (sumP w0 _ _ hbd) ?_
    simp (maxDischargeDepth := 12) (maxSteps := 1000000) -implicitDefEqProofs only [go_sem, Nat.reduceAdd, Nat.reduceSub, Nat.reduceMul, Nat.reduceLeDiff, Nat.reduceEqDiff, Nat.reduceGT, Nat.reduceBEq, reduceCtorEq, ↓reduceIte, Int.reduceToNat, Int.reduceLE, Int.reduceLT, Int.reduceNe, Int.reduceEq]
    refine ⟨fun h => absurd h (by omega), fun _ => ⟨fun hrf => use1 (hsz _) ?_, fun hrt => ?_⟩⟩
    · simp (maxDischargeDepth := 12) (maxSteps := 1000000) -implicitDefEqProofs only [go_sem, Nat.reduceAdd, Nat.reduceSub, Nat.reduceMul, Nat.reduceLeDiff, Nat.reduceEqDiff, Nat.reduceGT, Nat.reduceBEq, reduceCtorEq, ↓reduceIte, Int.reduceToNat, Int.reduceLE, Int.reduceLT, Int.reduceNe, Int.reduceEq]
      refine use1 (lowP w0 _ _ hbd) ?_
      rw [hlow hrf]
      simp (maxDischargeDepth := 12) (maxSteps := 1000000) -implicitDefEqProofs only [go_sem, Nat.reduceAdd, Nat.reduceSub, Nat.reduceMul, Nat.reduceLeDiff, Nat.reduceEqDiff, Nat.reduceGT, Nat.reduceBEq, reduceCtorEq, ↓reduceIte, Int.reduceToNat, Int.reduceLE, Int.reduceLT, Int.reduceNe, Int.reduceEq]
      refine loopN [] n.l.length [3, 4, 8, 42, 43, 44] (fun k => [(8, dI (if k = 0 then 0 else (d + 1 : Nat))), (44, dI k)]) (fun k => ⟨(b1.n, [dS lo, dS hi]) :: (b.n, [dI n.page, dB false, .sl 1 false (n.l.map fun c => dS c.key), .sl 2 false [], .sl 5 false ((n.l.map kid0).map dT)]) :: S.box, S.acc⟩) (fun _ => True) mx (by kernel_rfl) ?_ ?_
      · simp (maxDischargeDepth := 12) (maxSteps := 1000000) -implicitDefEqProofs only [go_sem, Nat.reduceAdd, Nat.reduceSub, Nat.reduceMul, Nat.reduceLeDiff, Nat.reduceEqDiff, Nat.reduceGT, Nat.reduceBEq, reduceCtorEq, ↓reduceIte, Int.reduceToNat, Int.reduceLE, Int.reduceLT, Int.reduceNe, Int.reduceEq]
      · intro k hk' _
        simp (maxDischargeDepth := 12) (maxSteps := 1000000) -implicitDefEqProofs only [go_sem, Nat.reduceAdd, Nat.reduceSub, Nat.reduceMul, Nat.reduceLeDiff, Nat.reduceEqDiff, Nat.reduceGT, Nat.reduceBEq, reduceCtorEq, ↓reduceIte, Int.reduceToNat, Int.reduceLE, Int.reduceLT, Int.reduceNe, Int.reduceEq]
        refine ⟨fun hlt => ⟨hlt, fun c hc b2 b3 => ?_⟩, fun hge => ?_⟩
        · have e1 : IntKind.i64.wrap ((d : Int) + 1) = ((d + 1 : Nat) : Int) := by rw [w64 (by omega) (by omega)]; omega
          have e2 : IntKind.i64.wrap ((k : Int) + 1) = ((k + 1 : Nat) : Int) := i_oneV k (by omega)
          have hk2 : ∀ lo', (if k = 0 then lo' = lo else lo' = c.key) → ¬ ((k + 1 : Nat) : Int) < n.l.length → ∀ T, ACall Try.prog w0 58 [eT (kid0 c), .agg [dS lo', dS hi], dB false] T (fun e S' => e = dI d ∧ S' = T) := fun lo' h1 h2 T => hkid k c hc lo' hi h1 (by rw [List.getElem?_eq_none (by omega)]) T
          have hk1 : ∀ lo' a, (if k = 0 then lo' = lo else lo' = c.key) → n.l[k + 1]? = some a → ∀ T, ACall Try.prog w0 58 [eT (kid0 c), .agg [dS lo', dS a.key], dB false] T (fun e S' => e = dI d ∧ S' = T) := fun lo' a h1 h2 T => hkid k c hc lo' a.key h1 (by rw [h2]) T
          rw [e2]
          refine ⟨fun hp => ⟨hlt, fun a ha => ?_⟩, fun hz => ?_⟩
          · cases getE hc ha
            have hl0 : (if k = 0 then c.key = lo else c.key = c.key) := by rw [if_neg (by omega)]
            have hf : (if k = 0 then (0 : Int) else ((d + 1 : Nat) : Int)) = ((d + 1 : Nat) : Int) := if_neg (by omega)
            have hf2 : (if k + 1 = 0 then (0 : Int) else ((d + 1 : Nat) : Int)) = ((d + 1 : Nat) : Int) := if_neg (by omega)
            have z2 : ((k : Int) > 0) = True := eq_true hp
            refine ⟨fun h1 => ⟨by omega, h1, fun a ha => use1 (hk1 c.key a hl0 ha _) ?_⟩, fun h1 => use1 (hk2 c.key hl0 h1 _) ?_⟩
            · simp (maxDischargeDepth := 12) (maxSteps := 1000000) -implicitDefEqProofs only [go_sem, Nat.reduceAdd, Nat.reduceSub, Nat.reduceMul, Nat.reduceLeDiff, Nat.reduceEqDiff, Nat.reduceGT, Nat.reduceBEq, reduceCtorEq, ↓reduceIte, Int.reduceToNat, Int.reduceLE, Int.reduceLT, Int.reduceNe, Int.reduceEq, e1, e2, z2, hf, hf2, hlt]
              exact fun h => absurd h (by omega)
            · simp (maxDischargeDepth := 12) (maxSteps := 1000000) -implicitDefEqProofs only [go_sem, Nat.reduceAdd, Nat.reduceSub, Nat.reduceMul, Nat.reduceLeDiff, Nat.reduceEqDiff, Nat.reduceGT, Nat.reduceBEq, reduceCtorEq, ↓reduceIte, Int.reduceToNat, Int.reduceLE, Int.reduceLT, Int.reduceNe, Int.reduceEq, e1, e2, z2, hf, hf2, hlt]
              exact fun h => absurd h (by omega)
          · have hl0 : (if k = 0 then lo = lo else lo = c.key) := by rw [if_pos (by omega)]
            have z2 : ((k : Int) > 0) = False := eq_false hz
            have hf2 : (if k + 1 = 0 then (0 : Int) else ((d + 1 : Nat) : Int)) = ((d + 1 : Nat) : Int) := if_neg (by omega)
            refine ⟨fun h1 => ⟨by omega, h1, fun a ha => use1 (hk1 lo a hl0 ha _) ?_⟩, fun h1 => use1 (hk2 lo hl0 h1 _) ?_⟩
            · simp (maxDischargeDepth := 12) (maxSteps := 1000000) -implicitDefEqProofs only [go_sem, Nat.reduceAdd, Nat.reduceSub, Nat.reduceMul, Nat.reduceLeDiff, Nat.reduceEqDiff, Nat.reduceGT, Nat.reduceBEq, reduceCtorEq, ↓reduceIte, Int.reduceToNat, Int.reduceLE, Int.reduceLT, Int.reduceNe, Int.reduceEq, e1, e2, z2, hf2, hlt]
              exact fun h => absurd h (by omega)
            · simp (maxDischargeDepth := 12) (maxSteps := 1000000) -implicitDefEqProofs only [go_sem, Nat.reduceAdd, Nat.reduceSub, Nat.reduceMul, Nat.reduceLeDiff, Nat.reduceEqDiff, Nat.reduceGT, Nat.reduceBEq, reduceCtorEq, ↓reduceIte, Int.reduceToNat, Int.reduceLE, Int.reduceLT, Int.reduceNe, Int.reduceEq, e1, e2, z2, hf2, hlt]
              exact fun h => absurd h (by omega)
        · exact if_neg (by omega)
    · refine loopN [] n.l.length [3, 4, 8, 42, 43, 44] (fun k => [(8, dI (if k = 0 then 0 else (d + 1 : Nat))), (44, dI k)]) (fun k => ⟨(b1.n, [dS lo, dS hi]) :: (b.n, [dI n.page, dB false, .sl 1 false (n.l.map fun c => dS c.key), .sl 2 false [], .sl 5 false ((n.l.map kid0).map dT)]) :: S.box, S.acc⟩) (fun _ => True) mx (by kernel_rfl) ?_ ?_
      · simp (maxDischargeDepth := 12) (maxSteps := 1000000) -implicitDefEqProofs only [go_sem, Nat.reduceAdd, Nat.reduceSub, Nat.reduceMul, Nat.reduceLeDiff, Nat.reduceEqDiff, Nat.reduceGT, Nat.reduceBEq, reduceCtorEq, ↓reduceIte, Int.reduceToNat, Int.reduceLE, Int.reduceLT, Int.reduceNe, Int.reduceEq]
      · intro k hk' _
        simp (maxDischargeDepth := 12) (maxSteps := 1000000) -implicitDefEqProofs only [go_sem, Nat.reduceAdd, Nat.reduceSub, Nat.reduceMul, Nat.reduceLeDiff, Nat.reduceEqDiff, Nat.reduceGT, Nat.reduceBEq, reduceCtorEq, ↓reduceIte, Int.reduceToNat, Int.reduceLE, Int.reduceLT, Int.reduceNe, Int.reduceEq]
        refine ⟨fun hlt => ⟨hlt, fun c hc b2 b3 => ?_⟩, fun hge => ?_⟩
        · have e1 : IntKind.i64.wrap ((d : Int) + 1) = ((d + 1 : Nat) : Int) := by rw [w64 (by omega) (by omega)]; omega
          have e2 : IntKind.i64.wrap ((k : Int) + 1) = ((k + 1 : Nat) : Int) := i_oneV k (by omega)
          have hk2 : ∀ lo', (if k = 0 then lo' = lo else lo' = c.key) → ¬ ((k + 1 : Nat) : Int) < n.l.length → ∀ T, ACall Try.prog w0 58 [eT (kid0 c), .agg [dS lo', dS hi], dB false] T (fun e S' => e = dI d ∧ S' = T) := fun lo' h1 h2 T => hkid k c hc lo' hi h1 (by rw [List.getElem?_eq_none (by omega)]) T
          have hk1 : ∀ lo' a, (if k = 0 then lo' = lo else lo' = c.key) → n.l[k + 1]? = some a → ∀ T, ACall Try.prog w0 58 [eT (kid0 c), .agg [dS lo', dS a.key], dB false] T (fun e S' => e = dI d ∧ S' = T) := fun lo' a h1 h2 T => hkid k c hc lo' a.key h1 (by rw [h2]) T
          rw [e2]
          refine ⟨fun hp => ⟨hlt, fun a ha => ?_⟩, fun hz => ?_⟩
          · cases getE hc ha
            have hl0 : (if k = 0 then c.key = lo else c.key = c.key) := by rw [if_neg (by omega)]
            have hf : (if k = 0 then (0 : Int) else ((d + 1 : Nat) : Int)) = ((d + 1 : Nat) : Int) := if_neg (by omega)
            have hf2 : (if k + 1 = 0 then (0 : Int) else ((d + 1 : Nat) : Int)) = ((d + 1 : Nat) : Int) := if_neg (by omega)
            have z2 : ((k : Int) > 0) = True := eq_true hp
            refine ⟨fun h1 => ⟨by omega, h1, fun a ha => use1 (hk1 c.key a hl0 ha _) ?_⟩, fun h1 => use1 (hk2 c.key hl0 h1 _) ?_⟩
            · simp (maxDischargeDepth := 12) (maxSteps := 1000000) -implicitDefEqProofs only [go_sem, Nat.reduceAdd, Nat.reduceSub, Nat.reduceMul, Nat.reduceLeDiff, Nat.reduceEqDiff, Nat.reduceGT, Nat.reduceBEq, reduceCtorEq, ↓reduceIte, Int.reduceToNat, Int.reduceLE, Int.reduceLT, Int.reduceNe, Int.reduceEq, e1, e2, z2, hf, hf2, hlt]
              exact fun h => absurd h (by omega)
            · simp (maxDischargeDepth := 12) (maxSteps := 1000000) -implicitDefEqProofs only [go_sem, Nat.reduceAdd, Nat.reduceSub, Nat.reduceMul, Nat.reduceLeDiff, Nat.reduceEqDiff, Nat.reduceGT, Nat.reduceBEq, reduceCtorEq, ↓reduceIte, Int.reduceToNat, Int.reduceLE, Int.reduceLT, Int.reduceNe, Int.reduceEq, e1, e2, z2, hf, hf2, hlt]
              exact fun h => absurd h (by omega)
          · have hl0 : (if k = 0 then lo = lo else lo = c.key) := by rw [if_pos (by omega)]
            have z2 : ((k : Int) > 0) = False := eq_false hz
            have hf2 : (if k + 1 = 0 then (0 : Int) else ((d + 1 : Nat) : Int)) = ((d + 1 : Nat) : Int) := if_neg (by omega)
            refine ⟨fun h1 => ⟨by omega, h1, fun a ha => use1 (hk1 lo a hl0 ha _) ?_⟩, fun h1 => use1 (hk2 lo hl0 h1 _) ?_⟩
            · simp (maxDischargeDepth := 12) (maxSteps := 1000000) -implicitDefEqProofs only [go_sem, Nat.reduceAdd, Nat.reduceSub, Nat.reduceMul, Nat.reduceLeDiff, Nat.reduceEqDiff, Nat.reduceGT, Nat.reduceBEq, reduceCtorEq, ↓reduceIte, Int.reduceToNat, Int.reduceLE, Int.reduceLT, Int.reduceNe, Int.reduceEq, e1, e2, z2, hf2, hlt]
              exact fun h => absurd h (by omega)
            · simp (maxDischargeDepth := 12) (maxSteps := 1000000) -implicitDefEqProofs only [go_sem, Nat.reduceAdd, Nat.reduceSub, Nat.reduceMul, Nat.reduceLeDiff, Nat.reduceEqDiff, Nat.reduceGT, Nat.reduceBEq, reduceCtorEq, ↓reduceIte, Int.reduceToNat, Int.reduceLE, Int.reduceLT, Int.reduceNe, Int.reduceEq, e1, e2, z2, hf2, hlt]
              exact fun h => absurd h (by omega)
        · exact if_neg (by omega)
set_option maxHeartbeats 4000000 in
theorem checkW (w0 : W0) (n : N) (S : St) (h : RootG n) (hz : PZ n) (ht : ∀ d, Nd d n → totN n ≤ 131072 ∧ d ≤ 100000) : ACall Try.prog w0 23 [eT n] S (fun e S' => e = dB true ∧ S' = S) := by
  obtain ⟨d, hg, hsum, h2⟩ := h
  have hn := good_nd hg
  obtain ⟨ht1, ht2⟩ := ht d hn
  have hdep := fun (hne : n.l ≠ []) S => depthW w0 d n noS noS true S hg ht1 ht2 hsum (.inl rfl) hne h2 (fun x _ => noS_le _) (fun e => absurd rfl e)
  have hlen := tot_len n
  have hkl : n.leaf = false → n.l ≠ [] := fun e he => by
    have := h2.resolve_left (by rw [e]; simp)
    rw [he] at this; simp at this
  cases hlf : n.leaf with
  | true =>
    rw [eT_leaf hlf] at *
    refine fnS [] mx Try.func23 rfl rfl (by kernel_rfl) ?_; simp (maxDischargeDepth := 12) (maxSteps := 1000000) -implicitDefEqProofs only [Try.ntmps23, go_sem, Nat.reduceAdd, Nat.reduceSub, Nat.reduceMul, Nat.reduceLeDiff, Nat.reduceEqDiff, Nat.reduceGT, Nat.reduceBEq, reduceCtorEq, ↓reduceIte, Int.reduceToNat, Int.reduceLE, Int.reduceLT, Int.reduceNe, Int.reduceEq]
    intro b
    have hfin : (n.page = 0 → ¬ n.l = []) → n.l ≠ [] := fun h e => h (hz e) e
    refine ⟨fun hp hw => ?_, fun hp => ?_⟩
    · have hne : n.l ≠ [] := fun e => hw (by rw [e]; rfl)
      refine use1 (hdep hne _) ?_
      simp (maxDischargeDepth := 12) (maxSteps := 1000000) -implicitDefEqProofs only [go_sem, Nat.reduceAdd, Nat.reduceSub, Nat.reduceMul, Nat.reduceLeDiff, Nat.reduceEqDiff, Nat.reduceGT, Nat.reduceBEq, reduceCtorEq, ↓reduceIte, Int.reduceToNat, Int.reduceLE, Int.reduceLT, Int.reduceNe, Int.reduceEq]
    · refine use1 (hdep (fun e => hp (hz e)) _) ?_
      simp (maxDischargeDepth := 12) (maxSteps := 1000000) -implicitDefEqProofs only [go_sem, Nat.reduceAdd, Nat.reduceSub, Nat.reduceMul, Nat.reduceLeDiff, Nat.reduceEqDiff, Nat.reduceGT, Nat.reduceBEq, reduceCtorEq, ↓reduceIte, Int.reduceToNat, Int.reduceLE, Int.reduceLT, Int.reduceNe, Int.reduceEq]
  | false =>
    refine fnS [] mx Try.func23 rfl rfl (by kernel_rfl) ?_; simp (maxDischargeDepth := 12) (maxSteps := 1000000) -implicitDefEqProofs only [Try.ntmps23, go_sem, Nat.reduceAdd, Nat.reduceSub, Nat.reduceMul, Nat.reduceLeDiff, Nat.reduceEqDiff, Nat.reduceGT, Nat.reduceBEq, reduceCtorEq, ↓reduceIte, Int.reduceToNat, Int.reduceLE, Int.reduceLT, Int.reduceNe, Int.reduceEq,  hlf]
    intro b
    refine use1 (hdep (hkl hlf) _) ?_ ⟨?_, .refl _, .refl _, trivial⟩
    · simp (maxDischargeDepth := 12) (maxSteps := 1000000) -implicitDefEqProofs only [go_sem, Nat.reduceAdd, Nat.reduceSub, Nat.reduceMul, Nat.reduceLeDiff, Nat.reduceEqDiff, Nat.reduceGT, Nat.reduceBEq, reduceCtorEq, ↓reduceIte, Int.reduceToNat, Int.reduceLE, Int.reduceLT, Int.reduceNe, Int.reduceEq]
    · simp (maxDischargeDepth := 12) (maxSteps := 1000000) -implicitDefEqProofs only [go_sem, Nat.reduceAdd, Nat.reduceSub, Nat.reduceMul, Nat.reduceLeDiff, Nat.reduceEqDiff, Nat.reduceGT, Nat.reduceBEq, reduceCtorEq, ↓reduceIte, Int.reduceToNat, Int.reduceLE, Int.reduceLT, Int.reduceNe, Int.reduceEq, hlf]
end Go.Proofs.Ytfieabidajilmaa
