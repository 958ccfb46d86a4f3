/-
  A view's trees as the law has them: what the program computes; A tree's entries: what the reference computes (in a view's words); What is the same is the same: what the program computes. By an AI agent.
-/
import Derived.Test.YtfieabidajilmaaGreatMR11
namespace Go.Proofs.YtfieabidajilmaaGreat
open Aml Go
set_option linter.unusedVariables false
set_option linter.unusedSimpArgs false
set_option maxRecDepth 100000
set_option maxHeartbeats 8000000 in
theorem nodeV (w0 : W0) : ∀ (d : Nat) (n : N) (S : St), Good d n → totN n ≤ 131072 → ACall Tryz.prog w0 62 [eT n] S (fun e S' => e = eN n ∧ S' = S) := by
  intro d
  induction d with
  | zero =>
    intro n S hg ht
    have hn := good_nd hg
    have hlf := hn.1
    have hlen := tot_len n
    rw [eT_leaf hlf]
    refine fnS [1000] mx Tryz.func62 rfl rfl (by kernel_rfl) ?_; simp (maxDischargeDepth := 12) (maxSteps := 1000000) -implicitDefEqProofs only [Tryz.ntmps62, go_sem, Nat.reduceAdd, Nat.reduceSub, Nat.reduceMul, Nat.reduceLeDiff, Nat.reduceEqDiff, Nat.reduceGT, Nat.reduceBEq, reduceCtorEq, ↓reduceIte, Int.reduceToNat, Int.reduceLE, Int.reduceLT, Int.reduceNe, Int.reduceEq,  hlf]
    intro b b2 b3
    refine awp_growB b3.n 2 4 (by omega) (q_lk_same _ _ _) rfl fun lk => ?_
    refine shrK [10] [] mx (by kernel_rfl) ?_
    simp (maxDischargeDepth := 12) (maxSteps := 1000000) -implicitDefEqProofs only [go_sem, Nat.reduceAdd, Nat.reduceSub, Nat.reduceMul, Nat.reduceLeDiff, Nat.reduceEqDiff, Nat.reduceGT, Nat.reduceBEq, reduceCtorEq, ↓reduceIte, Int.reduceToNat, Int.reduceLE, Int.reduceLT, Int.reduceNe, Int.reduceEq]
    refine loopN [10] n.l.length [1, 2, 3, 4] (fun k => [(4, dI k)]) (fun k => ⟨(b3.n, [dI n.page, dB true, .acc lk.n k]) :: (b2.n, [dI 0, dB false, .sl 0 true []]) :: (b.n, [dI n.page, dB true, .sl 1 false (n.l.map fun c => dS c.key), .sl 2 false (n.l.map dV2), .sl 5 false []]) :: S.box, (lk.n, .arr 4 ((n.l.take k).map dC)) :: S.acc⟩) (fun _ => True) mx (by kernel_rfl) ?_ ?_
    · simp (maxDischargeDepth := 12) (maxSteps := 1000000) -implicitDefEqProofs only [go_sem, Nat.reduceAdd, Nat.reduceSub, Nat.reduceMul, Nat.reduceLeDiff, Nat.reduceEqDiff, Nat.reduceGT, Nat.reduceBEq, reduceCtorEq, ↓reduceIte, Int.reduceToNat, Int.reduceLE, Int.reduceLT, Int.reduceNe, Int.reduceEq]
    · intro k hk _
      have hml : (n.l.take k).length = k := by rw [List.length_take]; omega
      simp (maxDischargeDepth := 12) (maxSteps := 1000000) -implicitDefEqProofs only [go_sem, Nat.reduceAdd, Nat.reduceSub, Nat.reduceMul, Nat.reduceLeDiff, Nat.reduceEqDiff, Nat.reduceGT, Nat.reduceBEq, reduceCtorEq, ↓reduceIte, Int.reduceToNat, Int.reduceLE, Int.reduceLT, Int.reduceNe, Int.reduceEq, hml]
      refine ⟨fun hlt => ⟨hlt, fun c hc b4 => ⟨fun _ => ⟨hlt, fun c2 hc2 => ?_⟩, fun h => absurd hlt h⟩⟩, fun hge => ?_⟩
      · cases getE hc hc2
        refine ⟨hlt, fun c3 hc3 _ => ?_⟩
        cases getE hc hc3
        refine wkBoxK b4.n [dS c.key, dS c.data, .sl 1 false (c.pages.map dI), .sl 3 false []] (q_lk_same _ _ _) ⟨.refl _, .refl _, .refl _, .nil _ _ _, trivial⟩ ?_
        refine shrK [] [] mx (by kernel_rfl) ?_
        have hkid : c.kid = [] := (hn.2 c (List.mem_of_getElem? hc)).2
        have ht1 : n.l.take (k + 1) = n.l.take k ++ [c] := by rw [List.take_add_one, hc]; rfl
        rw [ht1]
        simp (maxDischargeDepth := 12) (maxSteps := 1000000) -implicitDefEqProofs only [go_sem, Nat.reduceAdd, Nat.reduceSub, Nat.reduceMul, Nat.reduceLeDiff, Nat.reduceEqDiff, Nat.reduceGT, Nat.reduceBEq, reduceCtorEq, ↓reduceIte, Int.reduceToNat, Int.reduceLE, Int.reduceLT, Int.reduceNe, Int.reduceEq, hml, List.map_append, List.map_cons, List.map_nil, hkid]
        exact ⟨by omega, by unfold maxLen; omega, hlt, i_oneV k (by omega)⟩
      · rw [List.take_of_length_le (by omega), hlf]
        exact .refl _
  | succ d ih =>
    intro n S hg ht
    have hn := good_nd hg
    have hlf := hn.1
    have hlen := tot_len n
    have hkn := kids_nd hn
    have hres : eT n = .agg [dI n.page, dB false, .sl 1 false (n.l.map fun c => dS c.key), .sl 2 false [], .sl 5 false ((n.l.map kid0).map dT)] := by
      show DV.agg _ = _
      rw [hkn, hlf]; rfl
    rw [hres]
    refine fnS [1000] mx Tryz.func62 rfl rfl (by kernel_rfl) ?_; simp (maxDischargeDepth := 12) (maxSteps := 1000000) -implicitDefEqProofs only [Tryz.ntmps62, go_sem, Nat.reduceAdd, Nat.reduceSub, Nat.reduceMul, Nat.reduceLeDiff, Nat.reduceEqDiff, Nat.reduceGT, Nat.reduceBEq, reduceCtorEq, ↓reduceIte, Int.reduceToNat, Int.reduceLE, Int.reduceLT, Int.reduceNe, Int.reduceEq,  hlf]
    intro b b2 b3
    refine awp_growB b3.n 2 4 (by omega) (q_lk_same _ _ _) rfl fun lk => ?_
    refine shrK [10] [] mx (by kernel_rfl) ?_
    simp (maxDischargeDepth := 12) (maxSteps := 1000000) -implicitDefEqProofs only [go_sem, Nat.reduceAdd, Nat.reduceSub, Nat.reduceMul, Nat.reduceLeDiff, Nat.reduceEqDiff, Nat.reduceGT, Nat.reduceBEq, reduceCtorEq, ↓reduceIte, Int.reduceToNat, Int.reduceLE, Int.reduceLT, Int.reduceNe, Int.reduceEq]
    refine loopN [10] n.l.length [1, 2, 3, 4] (fun k => [(4, dI k)]) (fun k => ⟨(b3.n, [dI n.page, dB false, .acc lk.n k]) :: (b2.n, [dI 0, dB false, .sl 0 true []]) :: (b.n, [dI n.page, dB false, .sl 1 false (n.l.map fun c => dS c.key), .sl 2 false [], .sl 5 false ((n.l.map kid0).map dT)]) :: S.box, (lk.n, .arr 4 ((n.l.take k).map dC)) :: S.acc⟩) (fun _ => True) mx (by kernel_rfl) ?_ ?_
    · simp (maxDischargeDepth := 12) (maxSteps := 1000000) -implicitDefEqProofs only [go_sem, Nat.reduceAdd, Nat.reduceSub, Nat.reduceMul, Nat.reduceLeDiff, Nat.reduceEqDiff, Nat.reduceGT, Nat.reduceBEq, reduceCtorEq, ↓reduceIte, Int.reduceToNat, Int.reduceLE, Int.reduceLT, Int.reduceNe, Int.reduceEq]
    · intro k hk _
      have hml : (n.l.take k).length = k := by rw [List.length_take]; omega
      simp (maxDischargeDepth := 12) (maxSteps := 1000000) -implicitDefEqProofs only [go_sem, Nat.reduceAdd, Nat.reduceSub, Nat.reduceMul, Nat.reduceLeDiff, Nat.reduceEqDiff, Nat.reduceGT, Nat.reduceBEq, reduceCtorEq, ↓reduceIte, Int.reduceToNat, Int.reduceLE, Int.reduceLT, Int.reduceNe, Int.reduceEq, hml]
      refine ⟨fun hlt => ⟨hlt, fun c hc b4 _ => ⟨fun _ => ⟨hlt, fun c2 hc2 => ?_⟩, fun h => absurd hlt h⟩⟩, fun hge => ?_⟩
      · cases getE hc hc2
        obtain ⟨⟨s1, s2, s3⟩, -, kd, hkid, hkg, -⟩ := hg.2.2.cell c (List.mem_of_getElem? hc)
        have hk0 := kid0_eq hkid
        have hkt := tot_kid (List.mem_of_getElem? hc) hkid
        rw [hk0]
        refine use1 (ih kd _ hkg (by omega)) ?_
        simp (maxDischargeDepth := 12) (maxSteps := 1000000) -implicitDefEqProofs only [go_sem, Nat.reduceAdd, Nat.reduceSub, Nat.reduceMul, Nat.reduceLeDiff, Nat.reduceEqDiff, Nat.reduceGT, Nat.reduceBEq, reduceCtorEq, ↓reduceIte, Int.reduceToNat, Int.reduceLE, Int.reduceLT, Int.reduceNe, Int.reduceEq, hml]
        refine wkBoxK b4.n [dS c.key, dS noS, .sl 1 false [], .sl 3 false [eN kd]] (q_lk_same _ _ _) ⟨.refl _, .refl _, .nil _ _ _, .full _ _ _, trivial⟩ ?_
        refine shrK [] [] mx (by kernel_rfl) ?_
        have ht1 : n.l.take (k + 1) = n.l.take k ++ [c] := by rw [List.take_add_one, hc]; rfl
        rw [ht1]
        simp (maxDischargeDepth := 12) (maxSteps := 1000000) -implicitDefEqProofs only [go_sem, Nat.reduceAdd, Nat.reduceSub, Nat.reduceMul, Nat.reduceLeDiff, Nat.reduceEqDiff, Nat.reduceGT, Nat.reduceBEq, reduceCtorEq, ↓reduceIte, Int.reduceToNat, Int.reduceLE, Int.reduceLT, Int.reduceNe, Int.reduceEq, hml, List.map_append, List.map_cons, List.map_nil, hkid, s2, s3]
        exact ⟨by omega, by unfold maxLen; omega, hlt, i_oneV k (by omega)⟩
      · rw [List.take_of_length_le (by omega), hlf]
        exact .refl _
/-- A view, as the law has it. -/
@[go_sem] def dBl (c : C) : DV := .agg [dS c.key, dI (kid0 c).page, dB (kid0 c).leaf, .sl 4 false ((kid0 c).l.map dC)]
@[go_sem] def eL (n : N) (l : List C) : DV := .agg [dI n.page, dB n.leaf, .sl 4 false (n.l.map dC), .sl 4 false (l.map dBl)]
theorem tbNode (w0 : W0) {k : Nat} {n : N} (h : TB k n) (hk : k ≤ 116) (S : St) : ACall Tryz.prog w0 62 [eT n] S (fun e S' => e = eN n ∧ S' = S) := by
  obtain ⟨hr, d, hg, hd, ht⟩ := h
  exact nodeV w0 d n S hg (by omega)
set_option maxHeartbeats 8000000 in
theorem plainV (w0 : W0) (k : Nat) (n : N) (l : List C) (S : St) (h : VI k n l) (hk : k ≤ 116) : ACall Tryz.prog w0 26 [eV n l] S (fun d S' => d = eL n l ∧ S' = S) := by
  have hln := h.len
  have hdn := fun S => tbNode w0 h.dir hk S
  have hcn := fun c (hc : c ∈ l) S => tbNode w0 (h.cell c hc).2.1 hk S
  refine fnS [] mx Tryz.func26 rfl rfl (by kernel_rfl) ?_; simp (maxDischargeDepth := 12) (maxSteps := 1000000) -implicitDefEqProofs only [Tryz.ntmps26, go_sem, Nat.reduceAdd, Nat.reduceSub, Nat.reduceMul, Nat.reduceLeDiff, Nat.reduceEqDiff, Nat.reduceGT, Nat.reduceBEq, reduceCtorEq, ↓reduceIte, Int.reduceToNat, Int.reduceLE, Int.reduceLT, Int.reduceNe, Int.reduceEq]
  intro b b2
  refine use1 (hdn _) ?_
  simp (maxDischargeDepth := 12) (maxSteps := 1000000) -implicitDefEqProofs only [go_sem, Nat.reduceAdd, Nat.reduceSub, Nat.reduceMul, Nat.reduceLeDiff, Nat.reduceEqDiff, Nat.reduceGT, Nat.reduceBEq, reduceCtorEq, ↓reduceIte, Int.reduceToNat, Int.reduceLE, Int.reduceLT, Int.reduceNe, Int.reduceEq]
  intro b3
  refine awp_growB b3.n 3 4 (by omega) (q_lk_same _ _ _) rfl fun lk => ?_
  simp (maxDischargeDepth := 12) (maxSteps := 1000000) -implicitDefEqProofs only [go_sem, Nat.reduceAdd, Nat.reduceSub, Nat.reduceMul, Nat.reduceLeDiff, Nat.reduceEqDiff, Nat.reduceGT, Nat.reduceBEq, reduceCtorEq, ↓reduceIte, Int.reduceToNat, Int.reduceLE, Int.reduceLT, Int.reduceNe, Int.reduceEq]
  refine loopN [] l.length [1, 2, 3, 4] (fun k => [(4, dI k)]) (fun k => ⟨(b3.n, [dI n.page, dB n.leaf, .sl 4 false (n.l.map dC), .acc lk.n k]) :: (b2.n, [dI 0, dB false, .sl 0 true [], .sl 0 true []]) :: (b.n, [dI n.page, dB n.leaf, .sl 1 false (n.l.map fun c => dS c.key), .sl 2 false ((if n.leaf then n.l else []).map dV2), .sl 5 false ((kidsOf n).map dT), .sl 6 false (l.map dBk)]) :: S.box, (lk.n, .arr 4 ((l.take k).map dBl)) :: S.acc⟩) (fun _ => True) mx (by kernel_rfl) ?_ ?_
  · simp (maxDischargeDepth := 12) (maxSteps := 1000000) -implicitDefEqProofs only [go_sem, Nat.reduceAdd, Nat.reduceSub, Nat.reduceMul, Nat.reduceLeDiff, Nat.reduceEqDiff, Nat.reduceGT, Nat.reduceBEq, reduceCtorEq, ↓reduceIte, Int.reduceToNat, Int.reduceLE, Int.reduceLT, Int.reduceNe, Int.reduceEq]
  · intro j hj _
    have hml : (l.take j).length = j := by rw [List.length_take]; omega
    simp (maxDischargeDepth := 12) (maxSteps := 1000000) -implicitDefEqProofs only [go_sem, Nat.reduceAdd, Nat.reduceSub, Nat.reduceMul, Nat.reduceLeDiff, Nat.reduceEqDiff, Nat.reduceGT, Nat.reduceBEq, reduceCtorEq, ↓reduceIte, Int.reduceToNat, Int.reduceLE, Int.reduceLT, Int.reduceNe, Int.reduceEq, hml]
    refine ⟨fun hlt => ⟨hlt, fun c hc => ⟨hlt, fun c2 hc2 => ?_⟩⟩, fun hge => ?_⟩
    · cases getE hc hc2
      refine useQ (hcn c (List.mem_of_getElem? hc) _) ?_
      have ht1 : l.take (j + 1) = l.take j ++ [c] := by rw [List.take_add_one, hc]; rfl
      rw [ht1]
      simp (maxDischargeDepth := 12) (maxSteps := 1000000) -implicitDefEqProofs only [go_sem, Nat.reduceAdd, Nat.reduceSub, Nat.reduceMul, Nat.reduceLeDiff, Nat.reduceEqDiff, Nat.reduceGT, Nat.reduceBEq, reduceCtorEq, ↓reduceIte, Int.reduceToNat, Int.reduceLE, Int.reduceLT, Int.reduceNe, Int.reduceEq, hml, List.map_append, List.map_cons, List.map_nil]
      exact ⟨by omega, by unfold maxLen; omega, hlt, i_oneV j (by omega)⟩
    · rw [List.take_of_length_le (by omega)]
      exact .refl _
end Go.Proofs.YtfieabidajilmaaGreat

namespace Go.Proofs.YtfieabidajilmaaGreat
open Aml Go Go.RowKit Go.ChangeShapes
set_option linter.unusedVariables false
set_option linter.unusedSimpArgs false
set_option maxRecDepth 100000
/-- An entry, without its pages. -/
def bareC (c : C) : C := .mk c.key c.data [] []
def entsN (n : N) : List C := (enN n).map bareC
def entC (b : Bool) (c : C) : List C := (enC b c).map bareC
theorem entsN_eq (n : N) : entsN n = n.l.flatMap (entC n.leaf) := by unfold entsN; rw [enN_eq, List.map_flatMap]; rfl
theorem entC_br {c : C} {k : N} (h : c.kid = [k]) : entC false c = entsN k := by unfold entC; rw [enC_br h]; rfl
theorem en_le : ∀ {d : Nat} {n : N}, Nd d n → (enN n).length ≤ totN n
  | 0, n, h => by rw [en_leaf h.1]; exact tot_len n
  | d + 1, n, h => by
    rw [enN_eq, h.1, totN_tot]
    have : ∀ l : List C, (∀ c, c ∈ l → c ∈ n.l) → (l.flatMap (enC false)).length ≤ tot l := by
      intro l
      induction l with
      | nil => intro _; exact Nat.zero_le _
      | cons c l ih =>
        intro hl
        obtain ⟨_, k, hk, hnd⟩ := h.2.2 c (hl c List.mem_cons_self)
        have h1 := ih fun c hc => hl c (List.mem_cons_of_mem _ hc)
        have h2 := en_le hnd
        rw [List.flatMap_cons, List.length_append, tot_cons, totC_kid hk, enC_br hk]; omega
    exact this n.l fun _ h => h
theorem entT_le (b : Bool) (l : List C) (k : Nat) : ((l.take k).flatMap (entC b)).length ≤ (l.flatMap (entC b)).length := by
  have := congrArg (List.flatMap (entC b)) (List.take_append_drop k l)
  have := congrArg List.length this
  simp only [List.flatMap_append, List.length_append] at this
  omega
theorem entT_succ {b : Bool} {l : List C} {k : Nat} {c : C} (h : l[k]? = some c) : (l.take (k + 1)).flatMap (entC b) = (l.take k).flatMap (entC b) ++ entC b c := by
  rw [List.take_add_one, h]; simp
/-- An entry as it is made. -/
@[go_sem] def nilC (c : C) : DV := .agg [dS c.key, dS c.data, .sl 0 true [], .sl 0 true []]
theorem wk_nilC (c : C) : Wk (nilC c) (dC (bareC c)) := by
  rw [dC_eq]
  exact .agg (.cons (.refl _) (.cons (.refl _) (.cons (.nil _ _ _) (.cons (.nil _ _ _) .nil))))
set_option maxHeartbeats 4000000 in
theorem entriesW (w0 : W0) : ∀ (d : Nat) (n : N) (S : St), Nd d n → totN n ≤ 131072 → ACall Tryz.prog w0 102 [eN n] S (fun e S' => e = .sl 4 false ((entsN n).map dC) ∧ S' = S) := by
  intro d
  induction d with
  | zero =>
    intro n S hn ht
    have hlf := hn.1
    have hl := tot_len n
    have hm8 : maxLen = 9223372036854775807 := rfl
    refine fnS [2] mx Tryz.func102 rfl rfl (by kernel_rfl) ?_; simp (maxDischargeDepth := 12) (maxSteps := 1000000) -implicitDefEqProofs only [Tryz.ntmps102, go_sem, Nat.reduceAdd, Nat.reduceSub, Nat.reduceMul, Nat.reduceLeDiff, Nat.reduceEqDiff, Nat.reduceGT, Nat.reduceBEq, reduceCtorEq, ↓reduceIte, Int.reduceToNat, Int.reduceLE, Int.reduceLT, Int.reduceNe, Int.reduceEq,  hlf]
    intro b
    refine growK 3 4 rfl (by omega) fun lp => ?_
    refine shrK [] [] mx (by kernel_rfl) ?_
    simp (maxDischargeDepth := 12) (maxSteps := 1000000) -implicitDefEqProofs only [go_sem, Nat.reduceAdd, Nat.reduceSub, Nat.reduceMul, Nat.reduceLeDiff, Nat.reduceEqDiff, Nat.reduceGT, Nat.reduceBEq, reduceCtorEq, ↓reduceIte, Int.reduceToNat, Int.reduceLE, Int.reduceLT, Int.reduceNe, Int.reduceEq]
    refine loopN [] n.l.length [1, 3, 4] (fun k => [(3, .acc lp.n k), (4, dI k)]) (fun k => ⟨(b.n, [dI n.page, dB true, .sl 4 false (n.l.map dC)]) :: S.box, (lp.n, .arr 4 ((n.l.take k).map nilC)) :: S.acc⟩) (fun _ => True) mx (by kernel_rfl) ?_ ?_
    · simp (maxDischargeDepth := 12) (maxSteps := 1000000) -implicitDefEqProofs only [go_sem, Nat.reduceAdd, Nat.reduceSub, Nat.reduceMul, Nat.reduceLeDiff, Nat.reduceEqDiff, Nat.reduceGT, Nat.reduceBEq, reduceCtorEq, ↓reduceIte, Int.reduceToNat, Int.reduceLE, Int.reduceLT, Int.reduceNe, Int.reduceEq]
    · intro k hk _
      have hml : (n.l.take k).length = k := by rw [List.length_take]; omega
      simp (maxDischargeDepth := 12) (maxSteps := 1000000) -implicitDefEqProofs only [go_sem, Nat.reduceAdd, Nat.reduceSub, Nat.reduceMul, Nat.reduceLeDiff, Nat.reduceEqDiff, Nat.reduceGT, Nat.reduceBEq, reduceCtorEq, ↓reduceIte, Int.reduceToNat, Int.reduceLE, Int.reduceLT, Int.reduceNe, Int.reduceEq, hml]
      refine ⟨fun hlt => ⟨hlt, fun c hc => ⟨hlt, fun c2 hc2 => ?_⟩⟩, fun hge => ?_⟩
      · rw [hc] at hc2
        cases hc2
        have ht1 : n.l.take (k + 1) = n.l.take k ++ [c] := by rw [List.take_add_one, hc]; rfl
        refine ⟨by omega, by omega, hlt, by rw [w64 (by omega) (by omega)]; omega, ?_⟩
        rw [ht1, List.map_append]; exact .refl _
      · rw [List.take_of_length_le (by omega)]
        have he : (entsN n).map dC = n.l.map fun c => dC (bareC c) := by unfold entsN; rw [en_leaf hlf, List.map_map]; rfl
        rw [he]
        exact (Wk.sl (WkL.map wk_nilC n.l))
  | succ d ih =>
    intro n S hn ht
    have hlf := hn.1
    have hl := tot_len n
    have hq := entsN_eq n
    have hle := en_le hn
    have hel : (entsN n).length = (enN n).length := by unfold entsN; rw [List.length_map]
    rw [hlf] at hq
    have hm8 : maxLen = 9223372036854775807 := rfl
    refine fnS [2] mx Tryz.func102 rfl rfl (by kernel_rfl) ?_; simp (maxDischargeDepth := 12) (maxSteps := 1000000) -implicitDefEqProofs only [Tryz.ntmps102, go_sem, Nat.reduceAdd, Nat.reduceSub, Nat.reduceMul, Nat.reduceLeDiff, Nat.reduceEqDiff, Nat.reduceGT, Nat.reduceBEq, reduceCtorEq, ↓reduceIte, Int.reduceToNat, Int.reduceLE, Int.reduceLT, Int.reduceNe, Int.reduceEq,  hlf]
    intro b
    refine growK 3 4 rfl (by omega) fun lp => ?_
    refine shrK [] [] mx (by kernel_rfl) ?_
    simp (maxDischargeDepth := 12) (maxSteps := 1000000) -implicitDefEqProofs only [go_sem, Nat.reduceAdd, Nat.reduceSub, Nat.reduceMul, Nat.reduceLeDiff, Nat.reduceEqDiff, Nat.reduceGT, Nat.reduceBEq, reduceCtorEq, ↓reduceIte, Int.reduceToNat, Int.reduceLE, Int.reduceLT, Int.reduceNe, Int.reduceEq]
    refine loopN [] n.l.length [1, 3, 4] (fun k => [(3, .acc lp.n ((n.l.take k).flatMap (entC false)).length), (4, dI k)]) (fun k => ⟨(b.n, [dI n.page, dB false, .sl 4 false (n.l.map dC)]) :: S.box, (lp.n, .arr 4 (((n.l.take k).flatMap (entC false)).map dC)) :: S.acc⟩) (fun _ => True) mx (by kernel_rfl) ?_ ?_
    · simp (maxDischargeDepth := 12) (maxSteps := 1000000) -implicitDefEqProofs only [go_sem, Nat.reduceAdd, Nat.reduceSub, Nat.reduceMul, Nat.reduceLeDiff, Nat.reduceEqDiff, Nat.reduceGT, Nat.reduceBEq, reduceCtorEq, ↓reduceIte, Int.reduceToNat, Int.reduceLE, Int.reduceLT, Int.reduceNe, Int.reduceEq]
      exact ⟨.refl _, .refl _⟩
    · intro k hk _
      have h1 := entT_le false n.l k
      have h2 := entT_le false n.l (k + 1)
      rw [← hq] at h1 h2
      simp (maxDischargeDepth := 12) (maxSteps := 1000000) -implicitDefEqProofs only [go_sem, Nat.reduceAdd, Nat.reduceSub, Nat.reduceMul, Nat.reduceLeDiff, Nat.reduceEqDiff, Nat.reduceGT, Nat.reduceBEq, reduceCtorEq, ↓reduceIte, Int.reduceToNat, Int.reduceLE, Int.reduceLT, Int.reduceNe, Int.reduceEq]
      refine ⟨fun hlt => ⟨hlt, fun c hc => ?_⟩, fun hge => ?_⟩
      · obtain ⟨hs, kid, hkid, hnd⟩ := hn.2.2 c (List.mem_of_getElem? hc)
        have htk := tot_kid (List.mem_of_getElem? hc) hkid
        have hkl : ((n.l.take (k + 1)).flatMap (entC false)) = (n.l.take k).flatMap (entC false) ++ entsN kid := by rw [entT_succ hc, entC_br hkid]
        have hkn := congrArg List.length hkl
        rw [List.length_append] at hkn
        rw [hkid]
        refine ⟨by simp, fun kid2 hkid2 => ?_⟩
        cases hkid2
        refine use1 (ih kid _ hnd (by omega)) ?_
        simp (maxDischargeDepth := 12) (maxSteps := 1000000) -implicitDefEqProofs only [go_sem, Nat.reduceAdd, Nat.reduceSub, Nat.reduceMul, Nat.reduceLeDiff, Nat.reduceEqDiff, Nat.reduceGT, Nat.reduceBEq, reduceCtorEq, ↓reduceIte, Int.reduceToNat, Int.reduceLE, Int.reduceLT, Int.reduceNe, Int.reduceEq]
        refine ⟨by omega, by omega, hlt, ⟨.eq (by rw [hkn]), by rw [w64 (by omega) (by omega)]; omega⟩, ?_⟩
        rw [hkl, List.map_append]
        exact .refl _
      · rw [List.take_of_length_le (by omega), hq]
        exact .refl _
end Go.Proofs.YtfieabidajilmaaGreat

namespace Go.Proofs.YtfieabidajilmaaGreat
open Aml Go
set_option linter.unusedVariables false
set_option linter.unusedSimpArgs false
set_option maxRecDepth 100000
set_option maxHeartbeats 8000000 in
theorem sameStep (w0 : W0) (n : N) (S : St) (ht : n.l.length ≤ 1048576) (hp : ∀ c, c ∈ n.l → c.pages.length ≤ 1048576) (hk : ∀ c, c ∈ n.l → c.kid = [] ∨ ∃ k, c.kid = [k] ∧ ∀ S, ACall Tryz.prog w0 61 [eN k, eN k] S (fun e S' => e = dB true ∧ S' = S)) :
    ACall Tryz.prog w0 61 [eN n, eN n] S (fun e S' => e = dB true ∧ S' = S) := by
  refine fnS [] mx Tryz.func61 rfl rfl (by kernel_rfl) ?_; simp (maxDischargeDepth := 12) (maxSteps := 1000000) -implicitDefEqProofs only [Tryz.ntmps61, go_sem, Nat.reduceAdd, Nat.reduceSub, Nat.reduceMul, Nat.reduceLeDiff, Nat.reduceEqDiff, Nat.reduceGT, Nat.reduceBEq, reduceCtorEq, ↓reduceIte, Int.reduceToNat, Int.reduceLE, Int.reduceLT, Int.reduceNe, Int.reduceEq]
  intro b b2
  refine loopN [] n.l.length [2, 3, 5] (fun k => [(5, dI k)]) (fun k => ⟨(b2.n, [dI n.page, dB n.leaf, .sl 4 false (n.l.map dC)]) :: (b.n, [dI n.page, dB n.leaf, .sl 4 false (n.l.map dC)]) :: S.box, S.acc⟩) (fun _ => True) mx (by kernel_rfl) ?_ ?_
  · simp (maxDischargeDepth := 12) (maxSteps := 1000000) -implicitDefEqProofs only [go_sem, Nat.reduceAdd, Nat.reduceSub, Nat.reduceMul, Nat.reduceLeDiff, Nat.reduceEqDiff, Nat.reduceGT, Nat.reduceBEq, reduceCtorEq, ↓reduceIte, Int.reduceToNat, Int.reduceLE, Int.reduceLT, Int.reduceNe, Int.reduceEq]
  · intro k hk' _
    simp (maxDischargeDepth := 12) (maxSteps := 1000000) -implicitDefEqProofs only [go_sem, Nat.reduceAdd, Nat.reduceSub, Nat.reduceMul, Nat.reduceLeDiff, Nat.reduceEqDiff, Nat.reduceGT, Nat.reduceBEq, reduceCtorEq, ↓reduceIte, Int.reduceToNat, Int.reduceLE, Int.reduceLT, Int.reduceNe, Int.reduceEq]
    refine fun hlt => ⟨hlt, fun c hc b3 => ⟨hlt, fun c2 hc2 b4 => ?_⟩⟩
    cases getE hc hc2
    have hpc := hp c (List.mem_of_getElem? hc)
    refine ⟨fun h => (by rw [eqS_self] at h; cases h), fun _ => ⟨fun h => (by rw [eqS_self] at h; cases h), fun _ => ⟨fun h => h rfl, fun _ => ⟨fun h => h rfl, fun _ => ?_⟩⟩⟩⟩
    refine loopN [] c.pages.length [2, 3, 5, 6, 7, 8] (fun j => [(8, dI j)]) (fun _ => ⟨(b4.n, [dS c.key, dS c.data, .sl 1 false (c.pages.map dI), .sl 3 false (c.kid.map dN)]) :: (b3.n, [dS c.key, dS c.data, .sl 1 false (c.pages.map dI), .sl 3 false (c.kid.map dN)]) :: (b2.n, [dI n.page, dB n.leaf, .sl 4 false (n.l.map dC)]) :: (b.n, [dI n.page, dB n.leaf, .sl 4 false (n.l.map dC)]) :: S.box, S.acc⟩) (fun _ => True) mx (by kernel_rfl) ?_ ?_
    · simp (maxDischargeDepth := 12) (maxSteps := 1000000) -implicitDefEqProofs only [go_sem, Nat.reduceAdd, Nat.reduceSub, Nat.reduceMul, Nat.reduceLeDiff, Nat.reduceEqDiff, Nat.reduceGT, Nat.reduceBEq, reduceCtorEq, ↓reduceIte, Int.reduceToNat, Int.reduceLE, Int.reduceLT, Int.reduceNe, Int.reduceEq]
    · intro j hj _
      rcases hk c (List.mem_of_getElem? hc) with hkid | ⟨kd, hkid, hsk⟩
      · simp (maxDischargeDepth := 12) (maxSteps := 1000000) -implicitDefEqProofs only [go_sem, Nat.reduceAdd, Nat.reduceSub, Nat.reduceMul, Nat.reduceLeDiff, Nat.reduceEqDiff, Nat.reduceGT, Nat.reduceBEq, reduceCtorEq, ↓reduceIte, Int.reduceToNat, Int.reduceLE, Int.reduceLT, Int.reduceNe, Int.reduceEq, hkid]
        exact ⟨fun h => ⟨h, fun x hx => ⟨h, fun y hy => (by cases getE hx hy; exact ⟨fun e => e rfl, fun _ => ⟨h, i_oneV j (by omega)⟩⟩)⟩⟩, fun _ => ⟨fun h => absurd h (by omega), fun _ => ⟨hlt, i_oneV k (by omega)⟩⟩⟩
      · simp (maxDischargeDepth := 12) (maxSteps := 1000000) -implicitDefEqProofs only [go_sem, Nat.reduceAdd, Nat.reduceSub, Nat.reduceMul, Nat.reduceLeDiff, Nat.reduceEqDiff, Nat.reduceGT, Nat.reduceBEq, reduceCtorEq, ↓reduceIte, Int.reduceToNat, Int.reduceLE, Int.reduceLT, Int.reduceNe, Int.reduceEq, hkid]
        refine ⟨fun h => ⟨h, fun x hx => ⟨h, fun y hy => (by cases getE hx hy; exact ⟨fun e => e rfl, fun _ => ⟨h, i_oneV j (by omega)⟩⟩)⟩⟩, fun _ => ⟨fun _ => useQ (hsk _) ?_, fun h => absurd (by omega) h⟩⟩
        simp (maxDischargeDepth := 12) (maxSteps := 1000000) -implicitDefEqProofs only [go_sem, Nat.reduceAdd, Nat.reduceSub, Nat.reduceMul, Nat.reduceLeDiff, Nat.reduceEqDiff, Nat.reduceGT, Nat.reduceBEq, reduceCtorEq, ↓reduceIte, Int.reduceToNat, Int.reduceLE, Int.reduceLT, Int.reduceNe, Int.reduceEq]
        exact ⟨hlt, i_oneV k (by omega)⟩
theorem sameR (w0 : W0) : ∀ (d : Nat) (n : N) (S : St), Nd d n → totN n ≤ 131072 → ACall Tryz.prog w0 61 [eN n, eN n] S (fun e S' => e = dB true ∧ S' = S) := by
  intro d
  induction d with
  | zero =>
    intro n S hn ht
    have hlen := tot_len n
    exact sameStep w0 n S (by omega) (fun c hc => by have h1 : c.pages.length ≤ 4 := (hn.2 c hc).1.2.2; omega) fun c hc => .inl (hn.2 c hc).2
  | succ d ih =>
    intro n S hn ht
    have hlen := tot_len n
    refine sameStep w0 n S (by omega) (fun c hc => by have h1 : c.pages.length ≤ 0 := (hn.2.2 c hc).1.2.2; omega) fun c hc => .inr ?_
    obtain ⟨_, k, hk, hkn⟩ := hn.2.2 c hc
    have hkt := tot_kid hc hk
    exact ⟨k, hk, fun S => ih k S hkn (by omega)⟩
theorem tbSame (w0 : W0) {k : Nat} {n : N} (h : TB k n) (hk : k ≤ 116) (S : St) : ACall Tryz.prog w0 61 [eN n, eN n] S (fun e S' => e = dB true ∧ S' = S) := by
  obtain ⟨hr, d, hg, hd, ht⟩ := h
  exact sameR w0 d n S (good_nd hg) (by omega)
set_option maxHeartbeats 8000000 in
theorem sameL (w0 : W0) (k : Nat) (n : N) (l : List C) (S : St) (h : VI k n l) (hk : k ≤ 116) : ACall Tryz.prog w0 25 [eL n l, eL n l] S (fun d S' => d = dB true ∧ S' = S) := by
  have hln := h.len
  have hdn := fun S => tbSame w0 h.dir hk S
  have hcn := fun c (hc : c ∈ l) S => tbSame w0 (h.cell c hc).2.1 hk S
  refine fnS [] mx Tryz.func25 rfl rfl (by kernel_rfl) ?_; simp (maxDischargeDepth := 12) (maxSteps := 1000000) -implicitDefEqProofs only [Tryz.ntmps25, go_sem, Nat.reduceAdd, Nat.reduceSub, Nat.reduceMul, Nat.reduceLeDiff, Nat.reduceEqDiff, Nat.reduceGT, Nat.reduceBEq, reduceCtorEq, ↓reduceIte, Int.reduceToNat, Int.reduceLE, Int.reduceLT, Int.reduceNe, Int.reduceEq]
  intro b b2
  refine use1 (hdn _) ?_
  simp (maxDischargeDepth := 12) (maxSteps := 1000000) -implicitDefEqProofs only [go_sem, Nat.reduceAdd, Nat.reduceSub, Nat.reduceMul, Nat.reduceLeDiff, Nat.reduceEqDiff, Nat.reduceGT, Nat.reduceBEq, reduceCtorEq, ↓reduceIte, Int.reduceToNat, Int.reduceLE, Int.reduceLT, Int.reduceNe, Int.reduceEq]
  refine loopN [] l.length [2, 3, 5] (fun k => [(5, dI k)]) (fun k => ⟨(b2.n, [dI n.page, dB n.leaf, .sl 4 false (n.l.map dC), .sl 4 false (l.map dBl)]) :: (b.n, [dI n.page, dB n.leaf, .sl 4 false (n.l.map dC), .sl 4 false (l.map dBl)]) :: S.box, S.acc⟩) (fun _ => True) mx (by kernel_rfl) ?_ ?_
  · simp (maxDischargeDepth := 12) (maxSteps := 1000000) -implicitDefEqProofs only [go_sem, Nat.reduceAdd, Nat.reduceSub, Nat.reduceMul, Nat.reduceLeDiff, Nat.reduceEqDiff, Nat.reduceGT, Nat.reduceBEq, reduceCtorEq, ↓reduceIte, Int.reduceToNat, Int.reduceLE, Int.reduceLT, Int.reduceNe, Int.reduceEq]
  · intro j hj _
    simp (maxDischargeDepth := 12) (maxSteps := 1000000) -implicitDefEqProofs only [go_sem, Nat.reduceAdd, Nat.reduceSub, Nat.reduceMul, Nat.reduceLeDiff, Nat.reduceEqDiff, Nat.reduceGT, Nat.reduceBEq, reduceCtorEq, ↓reduceIte, Int.reduceToNat, Int.reduceLE, Int.reduceLT, Int.reduceNe, Int.reduceEq]
    refine fun hlt => ⟨hlt, fun c hc => ⟨hlt, fun c2 hc2 => ?_⟩⟩
    cases getE hc hc2
    refine ⟨fun e => (by rw [eqS_self] at e; cases e), fun _ => ⟨hlt, fun c3 hc3 => ⟨hlt, fun c4 hc4 => ?_⟩⟩⟩
    cases getE hc hc3
    cases getE hc hc4
    refine useQ (hcn c (List.mem_of_getElem? hc) _) ?_
    simp (maxDischargeDepth := 12) (maxSteps := 1000000) -implicitDefEqProofs only [go_sem, Nat.reduceAdd, Nat.reduceSub, Nat.reduceMul, Nat.reduceLeDiff, Nat.reduceEqDiff, Nat.reduceGT, Nat.reduceBEq, reduceCtorEq, ↓reduceIte, Int.reduceToNat, Int.reduceLE, Int.reduceLT, Int.reduceNe, Int.reduceEq]
    exact ⟨hlt, i_oneV j (by omega)⟩
end Go.Proofs.YtfieabidajilmaaGreat
