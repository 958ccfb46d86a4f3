/-
  ViewStays: what the program computes. By an AI agent.
-/
import Derived.Test.YtfieabidajilmaaMV11
namespace Go.Proofs.Ytfieabidajilmaa
open Aml Go
set_option linter.unusedVariables false
set_option linter.unusedSimpArgs false
set_option maxRecDepth 100000
set_option maxHeartbeats 8000000 in
theorem nodeV (w0 : W0) : ∀ (d : Nat) (n : N) (S : St), Good d n → totN n ≤ 131072 → ACall Try.prog w0 22 [eT n] S (fun e S' => e = eN n ∧ S' = S) := by
  intro d
  induction d with
  | zero =>
    intro n S hg ht
    have hn := good_nd hg
    have hlf := hn.1
    have hlen := tot_len n
    rw [eT_leaf hlf]
    refine fnS [1000] mx Try.func22 rfl rfl (by kernel_rfl) ?_; simp (maxDischargeDepth := 12) (maxSteps := 1000000) -implicitDefEqProofs only [Try.ntmps22, go_sem, Nat.reduceAdd, Nat.reduceSub, Nat.reduceMul, Nat.reduceLeDiff, Nat.reduceEqDiff, Nat.reduceGT, Nat.reduceBEq, reduceCtorEq, ↓reduceIte, Int.reduceToNat, Int.reduceLE, Int.reduceLT, Int.reduceNe, Int.reduceEq,  hlf]
    intro b b2 b3
    refine awp_growB b3.n 2 4 (by omega) (q_lk_same _ _ _) rfl fun lk => ?_
    refine shrK [10] [] mx (by kernel_rfl) ?_
    simp (maxDischargeDepth := 12) (maxSteps := 1000000) -implicitDefEqProofs only [go_sem, Nat.reduceAdd, Nat.reduceSub, Nat.reduceMul, Nat.reduceLeDiff, Nat.reduceEqDiff, Nat.reduceGT, Nat.reduceBEq, reduceCtorEq, ↓reduceIte, Int.reduceToNat, Int.reduceLE, Int.reduceLT, Int.reduceNe, Int.reduceEq]
    refine loopN [10] n.l.length [1, 2, 3, 4] (fun k => [(4, dI k)]) (fun k => ⟨(b3.n, [dI n.page, dB true, .acc lk.n k]) :: (b2.n, [dI 0, dB false, .sl 0 true []]) :: (b.n, [dI n.page, dB true, .sl 1 false (n.l.map fun c => dS c.key), .sl 2 false (n.l.map dV2), .sl 5 false []]) :: S.box, (lk.n, .arr 4 ((n.l.take k).map dC)) :: S.acc⟩) (fun _ => True) mx (by kernel_rfl) ?_ ?_
    · simp (maxDischargeDepth := 12) (maxSteps := 1000000) -implicitDefEqProofs only [go_sem, Nat.reduceAdd, Nat.reduceSub, Nat.reduceMul, Nat.reduceLeDiff, Nat.reduceEqDiff, Nat.reduceGT, Nat.reduceBEq, reduceCtorEq, ↓reduceIte, Int.reduceToNat, Int.reduceLE, Int.reduceLT, Int.reduceNe, Int.reduceEq]
    · intro k hk _
      have hml : (n.l.take k).length = k := by rw [List.length_take]; omega
      simp (maxDischargeDepth := 12) (maxSteps := 1000000) -implicitDefEqProofs only [go_sem, Nat.reduceAdd, Nat.reduceSub, Nat.reduceMul, Nat.reduceLeDiff, Nat.reduceEqDiff, Nat.reduceGT, Nat.reduceBEq, reduceCtorEq, ↓reduceIte, Int.reduceToNat, Int.reduceLE, Int.reduceLT, Int.reduceNe, Int.reduceEq, hml]
      refine ⟨fun hlt => ⟨hlt, fun c hc b4 => ⟨fun _ => ⟨hlt, fun c2 hc2 => ?_⟩, fun h => absurd hlt h⟩⟩, fun hge => ?_⟩
      · cases getE hc hc2
        refine ⟨hlt, fun c3 hc3 _ => ?_⟩
        cases getE hc hc3
        refine wkBoxK b4.n [dS c.key, dS c.data, .sl 1 false (c.pages.map dI), .sl 3 false []] (q_lk_same _ _ _) ⟨.refl _, .refl _, .refl _, .nil _ _ _, trivial⟩ ?_
        refine shrK [] [] mx (by kernel_rfl) ?_
        have hkid : c.kid = [] := (hn.2 c (List.mem_of_getElem? hc)).2
        have ht1 : n.l.take (k + 1) = n.l.take k ++ [c] := by rw [List.take_add_one, hc]; rfl
        rw [ht1]
        simp (maxDischargeDepth := 12) (maxSteps := 1000000) -implicitDefEqProofs only [go_sem, Nat.reduceAdd, Nat.reduceSub, Nat.reduceMul, Nat.reduceLeDiff, Nat.reduceEqDiff, Nat.reduceGT, Nat.reduceBEq, reduceCtorEq, ↓reduceIte, Int.reduceToNat, Int.reduceLE, Int.reduceLT, Int.reduceNe, Int.reduceEq, hml, List.map_append, List.map_cons, List.map_nil, hkid]
        exact ⟨by omega, by unfold maxLen; omega, hlt, i_oneV k (by omega)⟩
      · rw [List.take_of_length_le (by omega), hlf]
        exact .refl _
  | succ d ih =>
    intro n S hg ht
    have hn := good_nd hg
    have hlf := hn.1
    have hlen := tot_len n
    have hkn := kids_nd hn
    have hres : eT n = .agg [dI n.page, dB false, .sl 1 false (n.l.map fun c => dS c.key), .sl 2 false [], .sl 5 false ((n.l.map kid0).map dT)] := by
      show DV.agg _ = _
      rw [hkn, hlf]; rfl
    rw [hres]
    refine fnS [1000] mx Try.func22 rfl rfl (by kernel_rfl) ?_; simp (maxDischargeDepth := 12) (maxSteps := 1000000) -implicitDefEqProofs only [Try.ntmps22, go_sem, Nat.reduceAdd, Nat.reduceSub, Nat.reduceMul, Nat.reduceLeDiff, Nat.reduceEqDiff, Nat.reduceGT, Nat.reduceBEq, reduceCtorEq, ↓reduceIte, Int.reduceToNat, Int.reduceLE, Int.reduceLT, Int.reduceNe, Int.reduceEq,  hlf]
    intro b b2 b3
    refine awp_growB b3.n 2 4 (by omega) (q_lk_same _ _ _) rfl fun lk => ?_
    refine shrK [10] [] mx (by kernel_rfl) ?_
    simp (maxDischargeDepth := 12) (maxSteps := 1000000) -implicitDefEqProofs only [go_sem, Nat.reduceAdd, Nat.reduceSub, Nat.reduceMul, Nat.reduceLeDiff, Nat.reduceEqDiff, Nat.reduceGT, Nat.reduceBEq, reduceCtorEq, ↓reduceIte, Int.reduceToNat, Int.reduceLE, Int.reduceLT, Int.reduceNe, Int.reduceEq]
    refine loopN [10] n.l.length [1, 2, 3, 4] (fun k => [(4, dI k)]) (fun k => ⟨(b3.n, [dI n.page, dB false, .acc lk.n k]) :: (b2.n, [dI 0, dB false, .sl 0 true []]) :: (b.n, [dI n.page, dB false, .sl 1 false (n.l.map fun c => dS c.key), .sl 2 false [], .sl 5 false ((n.l.map kid0).map dT)]) :: S.box, (lk.n, .arr 4 ((n.l.take k).map dC)) :: S.acc⟩) (fun _ => True) mx (by kernel_rfl) ?_ ?_
    · simp (maxDischargeDepth := 12) (maxSteps := 1000000) -implicitDefEqProofs only [go_sem, Nat.reduceAdd, Nat.reduceSub, Nat.reduceMul, Nat.reduceLeDiff, Nat.reduceEqDiff, Nat.reduceGT, Nat.reduceBEq, reduceCtorEq, ↓reduceIte, Int.reduceToNat, Int.reduceLE, Int.reduceLT, Int.reduceNe, Int.reduceEq]
    · intro k hk _
      have hml : (n.l.take k).length = k := by rw [List.length_take]; omega
      simp (maxDischargeDepth := 12) (maxSteps := 1000000) -implicitDefEqProofs only [go_sem, Nat.reduceAdd, Nat.reduceSub, Nat.reduceMul, Nat.reduceLeDiff, Nat.reduceEqDiff, Nat.reduceGT, Nat.reduceBEq, reduceCtorEq, ↓reduceIte, Int.reduceToNat, Int.reduceLE, Int.reduceLT, Int.reduceNe, Int.reduceEq, hml]
      refine ⟨fun hlt => ⟨hlt, fun c hc b4 _ => ⟨fun _ => ⟨hlt, fun c2 hc2 => ?_⟩, fun h => absurd hlt h⟩⟩, fun hge => ?_⟩
      · cases getE hc hc2
        obtain ⟨⟨s1, s2, s3⟩, -, kd, hkid, hkg, -⟩ := hg.2.2.cell c (List.mem_of_getElem? hc)
        have hk0 := kid0_eq hkid
        have hkt := tot_kid (List.mem_of_getElem? hc) hkid
        rw [hk0]
        refine use1 (ih kd _ hkg (by omega)) ?_
        simp (maxDischargeDepth := 12) (maxSteps := 1000000) -implicitDefEqProofs only [go_sem, Nat.reduceAdd, Nat.reduceSub, Nat.reduceMul, Nat.reduceLeDiff, Nat.reduceEqDiff, Nat.reduceGT, Nat.reduceBEq, reduceCtorEq, ↓reduceIte, Int.reduceToNat, Int.reduceLE, Int.reduceLT, Int.reduceNe, Int.reduceEq, hml]
        refine wkBoxK b4.n [dS c.key, dS noS, .sl 1 false [], .sl 3 false [eN kd]] (q_lk_same _ _ _) ⟨.refl _, .refl _, .nil _ _ _, .full _ _ _, trivial⟩ ?_
        refine shrK [] [] mx (by kernel_rfl) ?_
        have ht1 : n.l.take (k + 1) = n.l.take k ++ [c] := by rw [List.take_add_one, hc]; rfl
        rw [ht1]
        simp (maxDischargeDepth := 12) (maxSteps := 1000000) -implicitDefEqProofs only [go_sem, Nat.reduceAdd, Nat.reduceSub, Nat.reduceMul, Nat.reduceLeDiff, Nat.reduceEqDiff, Nat.reduceGT, Nat.reduceBEq, reduceCtorEq, ↓reduceIte, Int.reduceToNat, Int.reduceLE, Int.reduceLT, Int.reduceNe, Int.reduceEq, hml, List.map_append, List.map_cons, List.map_nil, hkid, s2, s3]
        exact ⟨by omega, by unfold maxLen; omega, hlt, i_oneV k (by omega)⟩
      · rw [List.take_of_length_le (by omega), hlf]
        exact .refl _
/-- A view, as the law has it. -/
@[go_sem] def dBl (c : C) : DV := .agg [dS c.key, dI (kid0 c).page, dB (kid0 c).leaf, .sl 4 false ((kid0 c).l.map dC)]
@[go_sem] def eL (n : N) (l : List C) : DV := .agg [dI n.page, dB n.leaf, .sl 4 false (n.l.map dC), .sl 4 false (l.map dBl)]
theorem tbNode (w0 : W0) {k : Nat} {n : N} (h : TB k n) (hk : k ≤ 116) (S : St) : ACall Try.prog w0 22 [eT n] S (fun e S' => e = eN n ∧ S' = S) := by
  obtain ⟨hr, d, hg, hd, ht⟩ := h
  exact nodeV w0 d n S hg (by omega)
set_option maxHeartbeats 8000000 in
theorem plainV (w0 : W0) (k : Nat) (n : N) (l : List C) (S : St) (h : VI k n l) (hk : k ≤ 116) : ACall Try.prog w0 18 [eV n l] S (fun d S' => d = eL n l ∧ S' = S) := by
  have hln := h.len
  have hdn := fun S => tbNode w0 h.dir hk S
  have hcn := fun c (hc : c ∈ l) S => tbNode w0 (h.cell c hc).2.1 hk S
  refine fnS [] mx Try.func18 rfl rfl (by kernel_rfl) ?_; simp (maxDischargeDepth := 12) (maxSteps := 1000000) -implicitDefEqProofs only [Try.ntmps18, go_sem, Nat.reduceAdd, Nat.reduceSub, Nat.reduceMul, Nat.reduceLeDiff, Nat.reduceEqDiff, Nat.reduceGT, Nat.reduceBEq, reduceCtorEq, ↓reduceIte, Int.reduceToNat, Int.reduceLE, Int.reduceLT, Int.reduceNe, Int.reduceEq]
  intro b b2
  refine use1 (hdn _) ?_
  simp (maxDischargeDepth := 12) (maxSteps := 1000000) -implicitDefEqProofs only [go_sem, Nat.reduceAdd, Nat.reduceSub, Nat.reduceMul, Nat.reduceLeDiff, Nat.reduceEqDiff, Nat.reduceGT, Nat.reduceBEq, reduceCtorEq, ↓reduceIte, Int.reduceToNat, Int.reduceLE, Int.reduceLT, Int.reduceNe, Int.reduceEq]
  intro b3
  refine awp_growB b3.n 3 4 (by omega) (q_lk_same _ _ _) rfl fun lk => ?_
  simp (maxDischargeDepth := 12) (maxSteps := 1000000) -implicitDefEqProofs only [go_sem, Nat.reduceAdd, Nat.reduceSub, Nat.reduceMul, Nat.reduceLeDiff, Nat.reduceEqDiff, Nat.reduceGT, Nat.reduceBEq, reduceCtorEq, ↓reduceIte, Int.reduceToNat, Int.reduceLE, Int.reduceLT, Int.reduceNe, Int.reduceEq]
  refine loopN [] l.length [1, 2, 3, 4] (fun k => [(4, dI k)]) (fun k => ⟨(b3.n, [dI n.page, dB n.leaf, .sl 4 false (n.l.map dC), .acc lk.n k]) :: (b2.n, [dI 0, dB false, .sl 0 true [], .sl 0 true []]) :: (b.n, [dI n.page, dB n.leaf, .sl 1 false (n.l.map fun c => dS c.key), .sl 2 false ((if n.leaf then n.l else []).map dV2), .sl 5 false ((kidsOf n).map dT), .sl 6 false (l.map dBk)]) :: S.box, (lk.n, .arr 4 ((l.take k).map dBl)) :: S.acc⟩) (fun _ => True) mx (by kernel_rfl) ?_ ?_
  · simp (maxDischargeDepth := 12) (maxSteps := 1000000) -implicitDefEqProofs only [go_sem, Nat.reduceAdd, Nat.reduceSub, Nat.reduceMul, Nat.reduceLeDiff, Nat.reduceEqDiff, Nat.reduceGT, Nat.reduceBEq, reduceCtorEq, ↓reduceIte, Int.reduceToNat, Int.reduceLE, Int.reduceLT, Int.reduceNe, Int.reduceEq]
  · intro j hj _
    have hml : (l.take j).length = j := by rw [List.length_take]; omega
    simp (maxDischargeDepth := 12) (maxSteps := 1000000) -implicitDefEqProofs only [go_sem, Nat.reduceAdd, Nat.reduceSub, Nat.reduceMul, Nat.reduceLeDiff, Nat.reduceEqDiff, Nat.reduceGT, Nat.reduceBEq, reduceCtorEq, ↓reduceIte, Int.reduceToNat, Int.reduceLE, Int.reduceLT, Int.reduceNe, Int.reduceEq, hml]
    refine ⟨fun hlt => ⟨hlt, fun c hc => ⟨hlt, fun c2 hc2 => ?_⟩⟩, fun hge => ?_⟩
    · cases getE hc hc2
      refine useQ (hcn c (List.mem_of_getElem? hc) _) ?_
      have ht1 : l.take (j + 1) = l.take j ++ [c] := by rw [List.take_add_one, hc]; rfl
      rw [ht1]
      simp (maxDischargeDepth := 12) (maxSteps := 1000000) -implicitDefEqProofs only [go_sem, Nat.reduceAdd, Nat.reduceSub, Nat.reduceMul, Nat.reduceLeDiff, Nat.reduceEqDiff, Nat.reduceGT, Nat.reduceBEq, reduceCtorEq, ↓reduceIte, Int.reduceToNat, Int.reduceLE, Int.reduceLT, Int.reduceNe, Int.reduceEq, hml, List.map_append, List.map_cons, List.map_nil]
      exact ⟨by omega, by unfold maxLen; omega, hlt, i_oneV j (by omega)⟩
    · rw [List.take_of_length_le (by omega)]
      exact .refl _
end Go.Proofs.Ytfieabidajilmaa

namespace Go.Proofs.Ytfieabidajilmaa
open Aml Go
set_option linter.unusedVariables false
set_option linter.unusedSimpArgs false
set_option maxRecDepth 100000
set_option maxHeartbeats 8000000 in
theorem sameStep (w0 : W0) (n : N) (S : St) (ht : n.l.length ≤ 1048576) (hp : ∀ c, c ∈ n.l → c.pages.length ≤ 1048576) (hk : ∀ c, c ∈ n.l → c.kid = [] ∨ ∃ k, c.kid = [k] ∧ ∀ S, ACall Try.prog w0 56 [eN k, eN k] S (fun e S' => e = dB true ∧ S' = S)) :
    ACall Try.prog w0 56 [eN n, eN n] S (fun e S' => e = dB true ∧ S' = S) := by
  refine fnS [] mx Try.func56 rfl rfl (by kernel_rfl) ?_; simp (maxDischargeDepth := 12) (maxSteps := 1000000) -implicitDefEqProofs only [Try.ntmps56, go_sem, Nat.reduceAdd, Nat.reduceSub, Nat.reduceMul, Nat.reduceLeDiff, Nat.reduceEqDiff, Nat.reduceGT, Nat.reduceBEq, reduceCtorEq, ↓reduceIte, Int.reduceToNat, Int.reduceLE, Int.reduceLT, Int.reduceNe, Int.reduceEq]
  intro b b2
  refine loopN [] n.l.length [2, 3, 5] (fun k => [(5, dI k)]) (fun k => ⟨(b2.n, [dI n.page, dB n.leaf, .sl 4 false (n.l.map dC)]) :: (b.n, [dI n.page, dB n.leaf, .sl 4 false (n.l.map dC)]) :: S.box, S.acc⟩) (fun _ => True) mx (by kernel_rfl) ?_ ?_
  · simp (maxDischargeDepth := 12) (maxSteps := 1000000) -implicitDefEqProofs only [go_sem, Nat.reduceAdd, Nat.reduceSub, Nat.reduceMul, Nat.reduceLeDiff, Nat.reduceEqDiff, Nat.reduceGT, Nat.reduceBEq, reduceCtorEq, ↓reduceIte, Int.reduceToNat, Int.reduceLE, Int.reduceLT, Int.reduceNe, Int.reduceEq]
  · intro k hk' _
    simp (maxDischargeDepth := 12) (maxSteps := 1000000) -implicitDefEqProofs only [go_sem, Nat.reduceAdd, Nat.reduceSub, Nat.reduceMul, Nat.reduceLeDiff, Nat.reduceEqDiff, Nat.reduceGT, Nat.reduceBEq, reduceCtorEq, ↓reduceIte, Int.reduceToNat, Int.reduceLE, Int.reduceLT, Int.reduceNe, Int.reduceEq]
    refine fun hlt => ⟨hlt, fun c hc b3 => ⟨hlt, fun c2 hc2 b4 => ?_⟩⟩
    cases getE hc hc2
    have hpc := hp c (List.mem_of_getElem? hc)
    refine ⟨fun h => (by rw [eqS_self] at h; cases h), fun _ => ⟨fun h => (by rw [eqS_self] at h; cases h), fun _ => ⟨fun h => h rfl, fun _ => ⟨fun h => h rfl, fun _ => ?_⟩⟩⟩⟩
    refine loopN [] c.pages.length [2, 3, 5, 6, 7, 8] (fun j => [(8, dI j)]) (fun _ => ⟨(b4.n, [dS c.key, dS c.data, .sl 1 false (c.pages.map dI), .sl 3 false (c.kid.map dN)]) :: (b3.n, [dS c.key, dS c.data, .sl 1 false (c.pages.map dI), .sl 3 false (c.kid.map dN)]) :: (b2.n, [dI n.page, dB n.leaf, .sl 4 false (n.l.map dC)]) :: (b.n, [dI n.page, dB n.leaf, .sl 4 false (n.l.map dC)]) :: S.box, S.acc⟩) (fun _ => True) mx (by kernel_rfl) ?_ ?_
    · simp (maxDischargeDepth := 12) (maxSteps := 1000000) -implicitDefEqProofs only [go_sem, Nat.reduceAdd, Nat.reduceSub, Nat.reduceMul, Nat.reduceLeDiff, Nat.reduceEqDiff, Nat.reduceGT, Nat.reduceBEq, reduceCtorEq, ↓reduceIte, Int.reduceToNat, Int.reduceLE, Int.reduceLT, Int.reduceNe, Int.reduceEq]
    · intro j hj _
      rcases hk c (List.mem_of_getElem? hc) with hkid | ⟨kd, hkid, hsk⟩
      · simp (maxDischargeDepth := 12) (maxSteps := 1000000) -implicitDefEqProofs only [go_sem, Nat.reduceAdd, Nat.reduceSub, Nat.reduceMul, Nat.reduceLeDiff, Nat.reduceEqDiff, Nat.reduceGT, Nat.reduceBEq, reduceCtorEq, ↓reduceIte, Int.reduceToNat, Int.reduceLE, Int.reduceLT, Int.reduceNe, Int.reduceEq, hkid]
        exact ⟨fun h => ⟨h, fun x hx => ⟨h, fun y hy => (by cases getE hx hy; exact ⟨fun e => e rfl, fun _ => ⟨h, i_oneV j (by omega)⟩⟩)⟩⟩, fun _ => ⟨fun h => absurd h (by omega), fun _ => ⟨hlt, i_oneV k (by omega)⟩⟩⟩
      · simp (maxDischargeDepth := 12) (maxSteps := 1000000) -implicitDefEqProofs only [go_sem, Nat.reduceAdd, Nat.reduceSub, Nat.reduceMul, Nat.reduceLeDiff, Nat.reduceEqDiff, Nat.reduceGT, Nat.reduceBEq, reduceCtorEq, ↓reduceIte, Int.reduceToNat, Int.reduceLE, Int.reduceLT, Int.reduceNe, Int.reduceEq, hkid]
        refine ⟨fun h => ⟨h, fun x hx => ⟨h, fun y hy => (by cases getE hx hy; exact ⟨fun e => e rfl, fun _ => ⟨h, i_oneV j (by omega)⟩⟩)⟩⟩, fun _ => ⟨fun _ => useQ (hsk _) ?_, fun h => absurd (by omega) h⟩⟩
        simp (maxDischargeDepth := 12) (maxSteps := 1000000) -implicitDefEqProofs only [go_sem, Nat.reduceAdd, Nat.reduceSub, Nat.reduceMul, Nat.reduceLeDiff, Nat.reduceEqDiff, Nat.reduceGT, Nat.reduceBEq, reduceCtorEq, ↓reduceIte, Int.reduceToNat, Int.reduceLE, Int.reduceLT, Int.reduceNe, Int.reduceEq]
        exact ⟨hlt, i_oneV k (by omega)⟩
theorem sameR (w0 : W0) : ∀ (d : Nat) (n : N) (S : St), Nd d n → totN n ≤ 131072 → ACall Try.prog w0 56 [eN n, eN n] S (fun e S' => e = dB true ∧ S' = S) := by
  intro d
  induction d with
  | zero =>
    intro n S hn ht
    have hlen := tot_len n
    exact sameStep w0 n S (by omega) (fun c hc => by have h1 : c.pages.length ≤ 4 := (hn.2 c hc).1.2.2; omega) fun c hc => .inl (hn.2 c hc).2
  | succ d ih =>
    intro n S hn ht
    have hlen := tot_len n
    refine sameStep w0 n S (by omega) (fun c hc => by have h1 : c.pages.length ≤ 0 := (hn.2.2 c hc).1.2.2; omega) fun c hc => .inr ?_
    obtain ⟨_, k, hk, hkn⟩ := hn.2.2 c hc
    have hkt := tot_kid hc hk
    exact ⟨k, hk, fun S => ih k S hkn (by omega)⟩
theorem tbSame (w0 : W0) {k : Nat} {n : N} (h : TB k n) (hk : k ≤ 116) (S : St) : ACall Try.prog w0 56 [eN n, eN n] S (fun e S' => e = dB true ∧ S' = S) := by
  obtain ⟨hr, d, hg, hd, ht⟩ := h
  exact sameR w0 d n S (good_nd hg) (by omega)
set_option maxHeartbeats 8000000 in
theorem sameL (w0 : W0) (k : Nat) (n : N) (l : List C) (S : St) (h : VI k n l) (hk : k ≤ 116) : ACall Try.prog w0 19 [eL n l, eL n l] S (fun d S' => d = dB true ∧ S' = S) := by
  have hln := h.len
  have hdn := fun S => tbSame w0 h.dir hk S
  have hcn := fun c (hc : c ∈ l) S => tbSame w0 (h.cell c hc).2.1 hk S
  refine fnS [] mx Try.func19 rfl rfl (by kernel_rfl) ?_; simp (maxDischargeDepth := 12) (maxSteps := 1000000) -implicitDefEqProofs only [Try.ntmps19, go_sem, Nat.reduceAdd, Nat.reduceSub, Nat.reduceMul, Nat.reduceLeDiff, Nat.reduceEqDiff, Nat.reduceGT, Nat.reduceBEq, reduceCtorEq, ↓reduceIte, Int.reduceToNat, Int.reduceLE, Int.reduceLT, Int.reduceNe, Int.reduceEq]
  intro b b2
  refine use1 (hdn _) ?_
  simp (maxDischargeDepth := 12) (maxSteps := 1000000) -implicitDefEqProofs only [go_sem, Nat.reduceAdd, Nat.reduceSub, Nat.reduceMul, Nat.reduceLeDiff, Nat.reduceEqDiff, Nat.reduceGT, Nat.reduceBEq, reduceCtorEq, ↓reduceIte, Int.reduceToNat, Int.reduceLE, Int.reduceLT, Int.reduceNe, Int.reduceEq]
  refine loopN [] l.length [2, 3, 5] (fun k => [(5, dI k)]) (fun k => ⟨(b2.n, [dI n.page, dB n.leaf, .sl 4 false (n.l.map dC), .sl 4 false (l.map dBl)]) :: (b.n, [dI n.page, dB n.leaf, .sl 4 false (n.l.map dC), .sl 4 false (l.map dBl)]) :: S.box, S.acc⟩) (fun _ => True) mx (by kernel_rfl) ?_ ?_
  · simp (maxDischargeDepth := 12) (maxSteps := 1000000) -implicitDefEqProofs only [go_sem, Nat.reduceAdd, Nat.reduceSub, Nat.reduceMul, Nat.reduceLeDiff, Nat.reduceEqDiff, Nat.reduceGT, Nat.reduceBEq, reduceCtorEq, ↓reduceIte, Int.reduceToNat, Int.reduceLE, Int.reduceLT, Int.reduceNe, Int.reduceEq]
  · intro j hj _
    simp (maxDischargeDepth := 12) (maxSteps := 1000000) -implicitDefEqProofs only [go_sem, Nat.reduceAdd, Nat.reduceSub, Nat.reduceMul, Nat.reduceLeDiff, Nat.reduceEqDiff, Nat.reduceGT, Nat.reduceBEq, reduceCtorEq, ↓reduceIte, Int.reduceToNat, Int.reduceLE, Int.reduceLT, Int.reduceNe, Int.reduceEq]
    refine fun hlt => ⟨hlt, fun c hc => ⟨hlt, fun c2 hc2 => ?_⟩⟩
    cases getE hc hc2
    refine ⟨fun e => (by rw [eqS_self] at e; cases e), fun _ => ⟨hlt, fun c3 hc3 => ⟨hlt, fun c4 hc4 => ?_⟩⟩⟩
    cases getE hc hc3
    cases getE hc hc4
    refine useQ (hcn c (List.mem_of_getElem? hc) _) ?_
    simp (maxDischargeDepth := 12) (maxSteps := 1000000) -implicitDefEqProofs only [go_sem, Nat.reduceAdd, Nat.reduceSub, Nat.reduceMul, Nat.reduceLeDiff, Nat.reduceEqDiff, Nat.reduceGT, Nat.reduceBEq, reduceCtorEq, ↓reduceIte, Int.reduceToNat, Int.reduceLE, Int.reduceLT, Int.reduceNe, Int.reduceEq]
    exact ⟨hlt, i_oneV j (by omega)⟩
end Go.Proofs.Ytfieabidajilmaa

namespace Go.Proofs.Ytfieabidajilmaa
open Aml Go Go.RowKit Go.ChangeShapes
set_option linter.unusedVariables false
set_option linter.unusedSimpArgs false
set_option maxRecDepth 100000
theorem mk_err {name : ByteArray} {n : N} {l : List C} (h : (mkV name n l).2 ≠ 0) : (mkV name n l).1 = (n, l) := by
  unfold mkV at *
  split
  · split
    · rfl
    · rename_i h1 h2; rw [if_pos h1, if_neg h2] at h; exact absurd rfl h
  · rfl
theorem dr_err {name : ByteArray} {n : N} {l : List C} (h : (drV name n l).2 ≠ 0) : (drV name n l).1 = (n, l) := by
  unfold drV at *
  split
  · rename_i h1; rw [if_pos h1] at h; exact absurd rfl h
  · rfl
theorem ch_err {name : ByteArray} {f : N → N × Int} {n : N} {l : List C} (h : (chV name f n l).2 ≠ 0) : (chV name f n l).1 = (n, l) := by
  unfold chV at *
  split
  · rename_i h1
    rw [if_pos h1] at h
    cases hc : l[idxN l name]? with
    | none => rfl
    | some c =>
      rw [hc] at h
      simp only at h ⊢
      split
      · rename_i h2; rw [if_pos h2] at h; exact absurd rfl h
      · rfl
  · rfl
theorem pu_err {name key val : ByteArray} {n : N} {l : List C} (h : (puV name key val n l).2 ≠ 0) : (puV name key val n l).1 = (n, l) := by
  unfold puV at *
  split
  · rename_i h1; rw [if_pos h1] at h; exact ch_err h
  · rfl
theorem dr_mk {k : Nat} {name : ByteArray} {n : N} {l : List C} (h : VI k n l) : (drV name n l).2 = 0 ↔ (mkV name n l).2 = 38 := by
  have h1 := congrArg Prod.snd (dr_at (name := name) (n := n) h.rise)
  have h2 := congrArg Prod.snd (mk_at (name := name) (n := n) h.rise)
  simp only at h1 h2
  rw [h1, h2]
  cases hh : hasN l name with
  | false =>
    rw [at_no h.rise hh]
    unfold gDr gMk
    cases okKey name <;> simp
  | true =>
    obtain ⟨c, hc, hk, e⟩ := at_yes h.rise hh
    have hok := (h.cell c (List.mem_of_getElem? hc)).2.2
    rw [hk] at hok
    rw [e]
    unfold gDr gMk
    rw [hok]; simp
set_option maxHeartbeats 40000000 in
theorem staysW (w0 : W0) (l : List Sv) (more : Sv) (S : St) (hl : l.length ≤ 1048576) : ACall Try.prog w0 4 [.sl 5 false (l.map dSv), dSv more] S (fun d S' => d = dB true ∧ S' = S) := by
  have hsm := fun S => smallW w0 l S hl
  refine fnS [22,23,28] mx Try.func4 rfl rfl (by kernel_rfl) ?_; simp (maxDischargeDepth := 12) (maxSteps := 1000000) -implicitDefEqProofs only [Try.ntmps4, go_sem, Nat.reduceAdd, Nat.reduceSub, Nat.reduceMul, Nat.reduceLeDiff, Nat.reduceEqDiff, Nat.reduceGT, Nat.reduceBEq, reduceCtorEq, ↓reduceIte, Int.reduceToNat, Int.reduceLE, Int.reduceLT, Int.reduceNe, Int.reduceEq]
  intro b3
  refine use1 (awakeW w0 _) ?_
  simp (maxDischargeDepth := 12) (maxSteps := 1000000) -implicitDefEqProofs only [go_sem, Nat.reduceAdd, Nat.reduceSub, Nat.reduceMul, Nat.reduceLeDiff, Nat.reduceEqDiff, Nat.reduceGT, Nat.reduceBEq, reduceCtorEq, ↓reduceIte, Int.reduceToNat, Int.reduceLE, Int.reduceLT, Int.reduceNe, Int.reduceEq]
  refine use1 (hsm _) ?_
  cases hs : smallL l with
  | false => simp (maxDischargeDepth := 12) (maxSteps := 1000000) -implicitDefEqProofs only [go_sem, Nat.reduceAdd, Nat.reduceSub, Nat.reduceMul, Nat.reduceLeDiff, Nat.reduceEqDiff, Nat.reduceGT, Nat.reduceBEq, reduceCtorEq, ↓reduceIte, Int.reduceToNat, Int.reduceLE, Int.reduceLT, Int.reduceNe, Int.reduceEq]
  | true =>
    have hs2 := hs
    unfold smallL at hs2
    rw [Bool.and_eq_true, decide_eq_true_eq] at hs2
    obtain ⟨hall, hl100⟩ := hs2
    simp (maxDischargeDepth := 12) (maxSteps := 1000000) -implicitDefEqProofs only [go_sem, Nat.reduceAdd, Nat.reduceSub, Nat.reduceMul, Nat.reduceLeDiff, Nat.reduceEqDiff, Nat.reduceGT, Nat.reduceBEq, reduceCtorEq, ↓reduceIte, Int.reduceToNat, Int.reduceLE, Int.reduceLT, Int.reduceNe, Int.reduceEq]
    refine fun hm1 hm2 hm3 => ?_
    refine use1 (emptyV w0 _) ?_
    simp (maxDischargeDepth := 12) (maxSteps := 1000000) -implicitDefEqProofs only [go_sem, Nat.reduceAdd, Nat.reduceSub, Nat.reduceMul, Nat.reduceLeDiff, Nat.reduceEqDiff, Nat.reduceGT, Nat.reduceBEq, reduceCtorEq, ↓reduceIte, Int.reduceToNat, Int.reduceLE, Int.reduceLT, Int.reduceNe, Int.reduceEq]
    intro bv
    refine loopK [18] [0, 3, 7, 8] (fun s : Nat × (N × List C) => [(8, dI s.1)]) (fun s => ⟨(bv.n, cV s.2) :: (b3.n, [dI more.op, dS more.name, dS more.key, .v (.int .u8 more.byte), dI more.size]) :: S.box, S.acc⟩) (fun s => s.1 ≤ l.length ∧ VI s.1 s.2.1 s.2.2) (fun s => l.length - s.1) (0, (emN, [])) mx (by kernel_rfl) ?_ ?_
    · simp (maxDischargeDepth := 12) (maxSteps := 1000000) -implicitDefEqProofs only [go_sem, Nat.reduceAdd, Nat.reduceSub, Nat.reduceMul, Nat.reduceLeDiff, Nat.reduceEqDiff, Nat.reduceGT, Nat.reduceBEq, reduceCtorEq, ↓reduceIte, Int.reduceToNat, Int.reduceLE, Int.reduceLT, Int.reduceNe, Int.reduceEq]
      exact ⟨Nat.zero_le _, vi_em 0⟩
    · rintro ⟨k, q⟩ ⟨h1, h2⟩
      simp only at h1 h2
      simp (maxDischargeDepth := 12) (maxSteps := 1000000) -implicitDefEqProofs only [go_sem, Nat.reduceAdd, Nat.reduceSub, Nat.reduceMul, Nat.reduceLeDiff, Nat.reduceEqDiff, Nat.reduceGT, Nat.reduceBEq, reduceCtorEq, ↓reduceIte, Int.reduceToNat, Int.reduceLE, Int.reduceLT, Int.reduceNe, Int.reduceEq]
      refine ⟨fun hlt => ⟨hlt, fun a ha b10 => ?_⟩, fun hge => ?_⟩
      · have hok : okS a = true := List.all_eq_true.1 hall a (List.mem_of_getElem? ha)
        unfold okS at hok
        rw [Bool.and_eq_true, Bool.and_eq_true, decide_eq_true_eq, decide_eq_true_eq, decide_eq_true_eq] at hok
        have g1 := vi_st h2 (by omega) a
        have wq0 := fun (e : a.op = 0) S => makeV w0 k a.name q.1 q.2 S h2 (by omega)
        have wq1 := fun (e : a.op = 1) S => dropV w0 k a.name q.1 q.2 S h2 (by omega)
        have wq2 := fun (e : a.op = 2) S => putV w0 k a.name a.key (vaS a) q.1 q.2 S h2 (by omega)
        have wq3 := fun (e : a.op = 3) S => deleteV w0 k a.name a.key q.1 q.2 S h2 (by omega)
        simp +contextual only [st0, st1, st2, st3] at wq0 wq1 wq2 wq3
        have sq4 := fun a0 a1 a2 a3 => st4 (s := a) (q := q) a0 a1 a2 a3
        have wva := fun S => valueW w0 a S (by omega)
        generalize stV a q = Q at *
        have fin : k + 1 ≤ l.length ∧ VI (k + 1) Q.1.1 Q.1.2 := ⟨hlt, g1⟩
        have hmea : l.length - (k + 1) < l.length - k := by omega
        refine ⟨fun o0 => ?_, fun o0 => ⟨fun o1 => ?_, fun o1 => ⟨fun o2 => ?_, fun o2 => ⟨fun o3 => ?_, fun o3 => ?_⟩⟩⟩⟩
        · refine use1 (wq0 o0 _) ?_
          simp (maxDischargeDepth := 12) (maxSteps := 1000000) -implicitDefEqProofs only [go_sem, Nat.reduceAdd, Nat.reduceSub, Nat.reduceMul, Nat.reduceLeDiff, Nat.reduceEqDiff, Nat.reduceGT, Nat.reduceBEq, reduceCtorEq, ↓reduceIte, Int.reduceToNat, Int.reduceLE, Int.reduceLT, Int.reduceNe, Int.reduceEq]
          exact ⟨(k + 1, Q.1), fin, hmea, i_oneV k (by omega), ⟨List.sublist_cons_self _ _, List.Sublist.refl _⟩⟩
        · refine use1 (wq1 o1 _) ?_
          simp (maxDischargeDepth := 12) (maxSteps := 1000000) -implicitDefEqProofs only [go_sem, Nat.reduceAdd, Nat.reduceSub, Nat.reduceMul, Nat.reduceLeDiff, Nat.reduceEqDiff, Nat.reduceGT, Nat.reduceBEq, reduceCtorEq, ↓reduceIte, Int.reduceToNat, Int.reduceLE, Int.reduceLT, Int.reduceNe, Int.reduceEq]
          exact ⟨(k + 1, Q.1), fin, hmea, i_oneV k (by omega), ⟨List.sublist_cons_self _ _, List.Sublist.refl _⟩⟩
        · refine lexK mx (by kernel_rfl) ?_
          simp (maxDischargeDepth := 12) (maxSteps := 1000000) -implicitDefEqProofs only [go_sem, Nat.reduceAdd, Nat.reduceSub, Nat.reduceMul, Nat.reduceLeDiff, Nat.reduceEqDiff, Nat.reduceGT, Nat.reduceBEq, reduceCtorEq, ↓reduceIte, Int.reduceToNat, Int.reduceLE, Int.reduceLT, Int.reduceNe, Int.reduceEq]
          refine useX (fun B hB => wva _) ?_
          simp (maxDischargeDepth := 12) (maxSteps := 1000000) -implicitDefEqProofs only [go_sem, Nat.reduceAdd, Nat.reduceSub, Nat.reduceMul, Nat.reduceLeDiff, Nat.reduceEqDiff, Nat.reduceGT, Nat.reduceBEq, reduceCtorEq, ↓reduceIte, Int.reduceToNat, Int.reduceLE, Int.reduceLT, Int.reduceNe, Int.reduceEq]
          refine useX (fun B hB => wq2 o2 _) ?_
          simp (maxDischargeDepth := 12) (maxSteps := 1000000) -implicitDefEqProofs only [go_sem, Nat.reduceAdd, Nat.reduceSub, Nat.reduceMul, Nat.reduceLeDiff, Nat.reduceEqDiff, Nat.reduceGT, Nat.reduceBEq, reduceCtorEq, ↓reduceIte, Int.reduceToNat, Int.reduceLE, Int.reduceLT, Int.reduceNe, Int.reduceEq]
          exact ⟨(k + 1, Q.1), fin, hmea, i_oneV k (by omega), ⟨List.sublist_cons_self _ _, List.Sublist.refl _⟩⟩
        · refine use1 (wq3 o3 _) ?_
          simp (maxDischargeDepth := 12) (maxSteps := 1000000) -implicitDefEqProofs only [go_sem, Nat.reduceAdd, Nat.reduceSub, Nat.reduceMul, Nat.reduceLeDiff, Nat.reduceEqDiff, Nat.reduceGT, Nat.reduceBEq, reduceCtorEq, ↓reduceIte, Int.reduceToNat, Int.reduceLE, Int.reduceLT, Int.reduceNe, Int.reduceEq]
          exact ⟨(k + 1, Q.1), fin, hmea, i_oneV k (by omega), ⟨List.sublist_cons_self _ _, List.Sublist.refl _⟩⟩
        · have hQ := sq4 o0 o1 o2 o3
          rw [hQ] at fin
          exact ⟨(k + 1, q), fin, hmea, i_oneV k (by omega), ⟨List.sublist_cons_self _ _, List.Sublist.refl _⟩⟩
      · have g1 := vi_pu h2 (by omega) more.name more.key (vaS more)
        have g2 := vi_dr h2 (by omega) more.name
        have g3 := vi_de h2 (by omega) more.name more.key
        have g4 := vi_mk h2 (by omega) more.name
        have wva := fun S => valueW w0 more S (by omega)
        have wp := fun S => putV w0 k more.name more.key (vaS more) q.1 q.2 S h2 (by omega)
        have wd := fun S => dropV w0 k more.name q.1 q.2 S h2 (by omega)
        have we := fun S => deleteV w0 k more.name more.key q.1 q.2 S h2 (by omega)
        have wm := fun S => makeV w0 k more.name q.1 q.2 S h2 (by omega)
        have e1 := pu_err (name := more.name) (key := more.key) (val := vaS more) (n := q.1) (l := q.2)
        have e2 := dr_err (name := more.name) (n := q.1) (l := q.2)
        have e3 : (deV more.name more.key q.1 q.2).2 ≠ 0 → (deV more.name more.key q.1 q.2).1 = (q.1, q.2) := fun h => ch_err h
        have e4 := mk_err (name := more.name) (n := q.1) (l := q.2)
        have hdm := dr_mk (name := more.name) h2
        generalize puV more.name more.key (vaS more) q.1 q.2 = Q1 at *
        generalize drV more.name q.1 q.2 = Q2 at *
        generalize deV more.name more.key q.1 q.2 = Q3 at *
        generalize mkV more.name q.1 q.2 = Q4 at *
        have wpl := fun S => plainV w0 k q.1 q.2 S h2 (by omega)
        have wsm := fun S => sameL w0 k q.1 q.2 S h2 (by omega)
        have wpl1 := fun S => plainV w0 (k + 1) Q1.1.1 Q1.1.2 S g1 (by omega)
        have wsm1 := fun S => sameL w0 (k + 1) Q1.1.1 Q1.1.2 S g1 (by omega)
        refine use1 (wpl _) ?_
        simp (maxDischargeDepth := 12) (maxSteps := 1000000) -implicitDefEqProofs only [go_sem, Nat.reduceAdd, Nat.reduceSub, Nat.reduceMul, Nat.reduceLeDiff, Nat.reduceEqDiff, Nat.reduceGT, Nat.reduceBEq, reduceCtorEq, ↓reduceIte, Int.reduceToNat, Int.reduceLE, Int.reduceLT, Int.reduceNe, Int.reduceEq]
        intro b10
        refine lexK mx (by kernel_rfl) ?_
        simp (maxDischargeDepth := 12) (maxSteps := 1000000) -implicitDefEqProofs only [go_sem, Nat.reduceAdd, Nat.reduceSub, Nat.reduceMul, Nat.reduceLeDiff, Nat.reduceEqDiff, Nat.reduceGT, Nat.reduceBEq, reduceCtorEq, ↓reduceIte, Int.reduceToNat, Int.reduceLE, Int.reduceLT, Int.reduceNe, Int.reduceEq]
        refine useX (fun B hB => wva _) ?_
        simp (maxDischargeDepth := 12) (maxSteps := 1000000) -implicitDefEqProofs only [go_sem, Nat.reduceAdd, Nat.reduceSub, Nat.reduceMul, Nat.reduceLeDiff, Nat.reduceEqDiff, Nat.reduceGT, Nat.reduceBEq, reduceCtorEq, ↓reduceIte, Int.reduceToNat, Int.reduceLE, Int.reduceLT, Int.reduceNe, Int.reduceEq]
        refine useX (fun B hB => wp _) ?_
        simp (maxDischargeDepth := 12) (maxSteps := 1000000) -implicitDefEqProofs only [go_sem, Nat.reduceAdd, Nat.reduceSub, Nat.reduceMul, Nat.reduceLeDiff, Nat.reduceEqDiff, Nat.reduceGT, Nat.reduceBEq, reduceCtorEq, ↓reduceIte, Int.reduceToNat, Int.reduceLE, Int.reduceLT, Int.reduceNe, Int.reduceEq]
        intro b11
        refine lexK mx (by kernel_rfl) ?_
        simp (maxDischargeDepth := 12) (maxSteps := 1000000) -implicitDefEqProofs only [go_sem, Nat.reduceAdd, Nat.reduceSub, Nat.reduceMul, Nat.reduceLeDiff, Nat.reduceEqDiff, Nat.reduceGT, Nat.reduceBEq, reduceCtorEq, ↓reduceIte, Int.reduceToNat, Int.reduceLE, Int.reduceLT, Int.reduceNe, Int.reduceEq]
        refine useX (fun B hB => wva _) ?_
        simp (maxDischargeDepth := 12) (maxSteps := 1000000) -implicitDefEqProofs only [go_sem, Nat.reduceAdd, Nat.reduceSub, Nat.reduceMul, Nat.reduceLeDiff, Nat.reduceEqDiff, Nat.reduceGT, Nat.reduceBEq, reduceCtorEq, ↓reduceIte, Int.reduceToNat, Int.reduceLE, Int.reduceLT, Int.reduceNe, Int.reduceEq]
        refine useX (fun B hB => wp _) ?_
        simp (maxDischargeDepth := 12) (maxSteps := 1000000) -implicitDefEqProofs only [go_sem, Nat.reduceAdd, Nat.reduceSub, Nat.reduceMul, Nat.reduceLeDiff, Nat.reduceEqDiff, Nat.reduceGT, Nat.reduceBEq, reduceCtorEq, ↓reduceIte, Int.reduceToNat, Int.reduceLE, Int.reduceLT, Int.reduceNe, Int.reduceEq]
        intro b12
        refine use1 (wd _) ?_
        simp (maxDischargeDepth := 12) (maxSteps := 1000000) -implicitDefEqProofs only [go_sem, Nat.reduceAdd, Nat.reduceSub, Nat.reduceMul, Nat.reduceLeDiff, Nat.reduceEqDiff, Nat.reduceGT, Nat.reduceBEq, reduceCtorEq, ↓reduceIte, Int.reduceToNat, Int.reduceLE, Int.reduceLT, Int.reduceNe, Int.reduceEq]
        intro b13
        refine use1 (we _) ?_
        simp (maxDischargeDepth := 12) (maxSteps := 1000000) -implicitDefEqProofs only [go_sem, Nat.reduceAdd, Nat.reduceSub, Nat.reduceMul, Nat.reduceLeDiff, Nat.reduceEqDiff, Nat.reduceGT, Nat.reduceBEq, reduceCtorEq, ↓reduceIte, Int.reduceToNat, Int.reduceLE, Int.reduceLT, Int.reduceNe, Int.reduceEq]
        intro b14
        refine use1 (wm _) ?_
        simp (maxDischargeDepth := 12) (maxSteps := 1000000) -implicitDefEqProofs only [go_sem, Nat.reduceAdd, Nat.reduceSub, Nat.reduceMul, Nat.reduceLeDiff, Nat.reduceEqDiff, Nat.reduceGT, Nat.reduceBEq, reduceCtorEq, ↓reduceIte, Int.reduceToNat, Int.reduceLE, Int.reduceLT, Int.reduceNe, Int.reduceEq]
        intro b15
        refine use1 (wpl _) ?_
        simp (maxDischargeDepth := 12) (maxSteps := 1000000) -implicitDefEqProofs only [go_sem, Nat.reduceAdd, Nat.reduceSub, Nat.reduceMul, Nat.reduceLeDiff, Nat.reduceEqDiff, Nat.reduceGT, Nat.reduceBEq, reduceCtorEq, ↓reduceIte, Int.reduceToNat, Int.reduceLE, Int.reduceLT, Int.reduceNe, Int.reduceEq]
        intro b16
        have wq1 := fun (h : Q1.2 ≠ 0) S => (show ACall Try.prog w0 18 [eV Q1.1.1 Q1.1.2] S (fun d S' => d = eL q.1 q.2 ∧ S' = S) by rw [e1 h]; exact wpl S)
        have wq2 := fun (h : Q2.2 ≠ 0) S => (show ACall Try.prog w0 18 [eV Q2.1.1 Q2.1.2] S (fun d S' => d = eL q.1 q.2 ∧ S' = S) by rw [e2 h]; exact wpl S)
        have wq3 := fun (h : Q3.2 ≠ 0) S => (show ACall Try.prog w0 18 [eV Q3.1.1 Q3.1.2] S (fun d S' => d = eL q.1 q.2 ∧ S' = S) by rw [e3 h]; exact wpl S)
        have wq4 := fun (h : Q4.2 ≠ 0) S => (show ACall Try.prog w0 18 [eV Q4.1.1 Q4.1.2] S (fun d S' => d = eL q.1 q.2 ∧ S' = S) by rw [e4 h]; exact wpl S)
        have hfin : (decide (Q2.2 = 0) == decide (Q4.2 = 38)) = true := by
          rw [beq_iff_eq, Bool.eq_iff_iff, decide_eq_true_iff, decide_eq_true_iff]; exact hdm
        refine cutK (σ := Unit) [] [10, 11, 12, 15, 16, 17, 18, 19, 20, 166] (fun _ => [(166, dB false)]) (fun _ => ⟨(b15.n, cV Q4.1) :: (b14.n, cV Q3.1) :: (b13.n, cV Q2.1) :: (b11.n, cV Q1.1) :: (b10.n, [dI q.1.page, dB q.1.leaf, .sl 4 false (q.1.l.map dC), .sl 4 false (q.2.map dBl)]) :: S.box, S.acc⟩) (fun _ => True) mx (by kernel_rfl) ?_ ?_
        · simp (maxDischargeDepth := 12) (maxSteps := 1000000) -implicitDefEqProofs only [go_sem, Nat.reduceAdd, Nat.reduceSub, Nat.reduceMul, Nat.reduceLeDiff, Nat.reduceEqDiff, Nat.reduceGT, Nat.reduceBEq, reduceCtorEq, ↓reduceIte, Int.reduceToNat, Int.reduceLE, Int.reduceLT, Int.reduceNe, Int.reduceEq]
          refine useQ (wpl1 _) ?_
          simp (maxDischargeDepth := 12) (maxSteps := 1000000) -implicitDefEqProofs only [go_sem, Nat.reduceAdd, Nat.reduceSub, Nat.reduceMul, Nat.reduceLeDiff, Nat.reduceEqDiff, Nat.reduceGT, Nat.reduceBEq, reduceCtorEq, ↓reduceIte, Int.reduceToNat, Int.reduceLE, Int.reduceLT, Int.reduceNe, Int.reduceEq]
          refine useQ (wpl1 _) ?_
          simp (maxDischargeDepth := 12) (maxSteps := 1000000) -implicitDefEqProofs only [go_sem, Nat.reduceAdd, Nat.reduceSub, Nat.reduceMul, Nat.reduceLeDiff, Nat.reduceEqDiff, Nat.reduceGT, Nat.reduceBEq, reduceCtorEq, ↓reduceIte, Int.reduceToNat, Int.reduceLE, Int.reduceLT, Int.reduceNe, Int.reduceEq]
          refine useQ (wsm1 _) ?_
          simp (maxDischargeDepth := 12) (maxSteps := 1000000) -implicitDefEqProofs only [go_sem, Nat.reduceAdd, Nat.reduceSub, Nat.reduceMul, Nat.reduceLeDiff, Nat.reduceEqDiff, Nat.reduceGT, Nat.reduceBEq, reduceCtorEq, ↓reduceIte, Int.reduceToNat, Int.reduceLE, Int.reduceLT, Int.reduceNe, Int.reduceEq]
          refine useQ (wsm _) ?_
          simp (maxDischargeDepth := 12) (maxSteps := 1000000) -implicitDefEqProofs only [go_sem, Nat.reduceAdd, Nat.reduceSub, Nat.reduceMul, Nat.reduceLeDiff, Nat.reduceEqDiff, Nat.reduceGT, Nat.reduceBEq, reduceCtorEq, ↓reduceIte, Int.reduceToNat, Int.reduceLE, Int.reduceLT, Int.reduceNe, Int.reduceEq]
          exact ⟨(), trivial⟩
        · intro _ _
          simp (maxDischargeDepth := 12) (maxSteps := 1000000) -implicitDefEqProofs only [go_sem, Nat.reduceAdd, Nat.reduceSub, Nat.reduceMul, Nat.reduceLeDiff, Nat.reduceEqDiff, Nat.reduceGT, Nat.reduceBEq, reduceCtorEq, ↓reduceIte, Int.reduceToNat, Int.reduceLE, Int.reduceLT, Int.reduceNe, Int.reduceEq]
          refine ⟨fun h => ?_, fun _ => ?_⟩
          · refine useQ (wq1 h _) ?_
            simp (maxDischargeDepth := 12) (maxSteps := 1000000) -implicitDefEqProofs only [go_sem, Nat.reduceAdd, Nat.reduceSub, Nat.reduceMul, Nat.reduceLeDiff, Nat.reduceEqDiff, Nat.reduceGT, Nat.reduceBEq, reduceCtorEq, ↓reduceIte, Int.reduceToNat, Int.reduceLE, Int.reduceLT, Int.reduceNe, Int.reduceEq]
            refine useQ (wsm _) ?_
            simp (maxDischargeDepth := 12) (maxSteps := 1000000) -implicitDefEqProofs only [go_sem, Nat.reduceAdd, Nat.reduceSub, Nat.reduceMul, Nat.reduceLeDiff, Nat.reduceEqDiff, Nat.reduceGT, Nat.reduceBEq, reduceCtorEq, ↓reduceIte, Int.reduceToNat, Int.reduceLE, Int.reduceLT, Int.reduceNe, Int.reduceEq]
            refine ⟨fun h => ?_, fun _ => ?_⟩
            · refine useQ (wq2 h _) ?_
              simp (maxDischargeDepth := 12) (maxSteps := 1000000) -implicitDefEqProofs only [go_sem, Nat.reduceAdd, Nat.reduceSub, Nat.reduceMul, Nat.reduceLeDiff, Nat.reduceEqDiff, Nat.reduceGT, Nat.reduceBEq, reduceCtorEq, ↓reduceIte, Int.reduceToNat, Int.reduceLE, Int.reduceLT, Int.reduceNe, Int.reduceEq]
              refine useQ (wsm _) ?_
              simp (maxDischargeDepth := 12) (maxSteps := 1000000) -implicitDefEqProofs only [go_sem, Nat.reduceAdd, Nat.reduceSub, Nat.reduceMul, Nat.reduceLeDiff, Nat.reduceEqDiff, Nat.reduceGT, Nat.reduceBEq, reduceCtorEq, ↓reduceIte, Int.reduceToNat, Int.reduceLE, Int.reduceLT, Int.reduceNe, Int.reduceEq]
              refine ⟨fun h => ?_, fun _ => ?_⟩
              · refine useQ (wq3 h _) ?_
                simp (maxDischargeDepth := 12) (maxSteps := 1000000) -implicitDefEqProofs only [go_sem, Nat.reduceAdd, Nat.reduceSub, Nat.reduceMul, Nat.reduceLeDiff, Nat.reduceEqDiff, Nat.reduceGT, Nat.reduceBEq, reduceCtorEq, ↓reduceIte, Int.reduceToNat, Int.reduceLE, Int.reduceLT, Int.reduceNe, Int.reduceEq]
                refine useQ (wsm _) ?_
                simp (maxDischargeDepth := 12) (maxSteps := 1000000) -implicitDefEqProofs only [go_sem, Nat.reduceAdd, Nat.reduceSub, Nat.reduceMul, Nat.reduceLeDiff, Nat.reduceEqDiff, Nat.reduceGT, Nat.reduceBEq, reduceCtorEq, ↓reduceIte, Int.reduceToNat, Int.reduceLE, Int.reduceLT, Int.reduceNe, Int.reduceEq]
                refine ⟨fun h => ?_, fun _ => ?_⟩
                · refine useQ (wq4 h _) ?_
                  simp (maxDischargeDepth := 12) (maxSteps := 1000000) -implicitDefEqProofs only [go_sem, Nat.reduceAdd, Nat.reduceSub, Nat.reduceMul, Nat.reduceLeDiff, Nat.reduceEqDiff, Nat.reduceGT, Nat.reduceBEq, reduceCtorEq, ↓reduceIte, Int.reduceToNat, Int.reduceLE, Int.reduceLT, Int.reduceNe, Int.reduceEq]
                  refine useQ (wsm _) ?_
                  simp (maxDischargeDepth := 12) (maxSteps := 1000000) -implicitDefEqProofs only [go_sem, Nat.reduceAdd, Nat.reduceSub, Nat.reduceMul, Nat.reduceLeDiff, Nat.reduceEqDiff, Nat.reduceGT, Nat.reduceBEq, reduceCtorEq, ↓reduceIte, Int.reduceToNat, Int.reduceLE, Int.reduceLT, Int.reduceNe, Int.reduceEq]
                  exact hfin
                · exact hfin
              · refine ⟨fun h => ?_, fun _ => ?_⟩
                · refine useQ (wq4 h _) ?_
                  simp (maxDischargeDepth := 12) (maxSteps := 1000000) -implicitDefEqProofs only [go_sem, Nat.reduceAdd, Nat.reduceSub, Nat.reduceMul, Nat.reduceLeDiff, Nat.reduceEqDiff, Nat.reduceGT, Nat.reduceBEq, reduceCtorEq, ↓reduceIte, Int.reduceToNat, Int.reduceLE, Int.reduceLT, Int.reduceNe, Int.reduceEq]
                  refine useQ (wsm _) ?_
                  simp (maxDischargeDepth := 12) (maxSteps := 1000000) -implicitDefEqProofs only [go_sem, Nat.reduceAdd, Nat.reduceSub, Nat.reduceMul, Nat.reduceLeDiff, Nat.reduceEqDiff, Nat.reduceGT, Nat.reduceBEq, reduceCtorEq, ↓reduceIte, Int.reduceToNat, Int.reduceLE, Int.reduceLT, Int.reduceNe, Int.reduceEq]
                  exact hfin
                · exact hfin
            · refine ⟨fun h => ?_, fun _ => ?_⟩
              · refine useQ (wq3 h _) ?_
                simp (maxDischargeDepth := 12) (maxSteps := 1000000) -implicitDefEqProofs only [go_sem, Nat.reduceAdd, Nat.reduceSub, Nat.reduceMul, Nat.reduceLeDiff, Nat.reduceEqDiff, Nat.reduceGT, Nat.reduceBEq, reduceCtorEq, ↓reduceIte, Int.reduceToNat, Int.reduceLE, Int.reduceLT, Int.reduceNe, Int.reduceEq]
                refine useQ (wsm _) ?_
                simp (maxDischargeDepth := 12) (maxSteps := 1000000) -implicitDefEqProofs only [go_sem, Nat.reduceAdd, Nat.reduceSub, Nat.reduceMul, Nat.reduceLeDiff, Nat.reduceEqDiff, Nat.reduceGT, Nat.reduceBEq, reduceCtorEq, ↓reduceIte, Int.reduceToNat, Int.reduceLE, Int.reduceLT, Int.reduceNe, Int.reduceEq]
                refine ⟨fun h => ?_, fun _ => ?_⟩
                · refine useQ (wq4 h _) ?_
                  simp (maxDischargeDepth := 12) (maxSteps := 1000000) -implicitDefEqProofs only [go_sem, Nat.reduceAdd, Nat.reduceSub, Nat.reduceMul, Nat.reduceLeDiff, Nat.reduceEqDiff, Nat.reduceGT, Nat.reduceBEq, reduceCtorEq, ↓reduceIte, Int.reduceToNat, Int.reduceLE, Int.reduceLT, Int.reduceNe, Int.reduceEq]
                  refine useQ (wsm _) ?_
                  simp (maxDischargeDepth := 12) (maxSteps := 1000000) -implicitDefEqProofs only [go_sem, Nat.reduceAdd, Nat.reduceSub, Nat.reduceMul, Nat.reduceLeDiff, Nat.reduceEqDiff, Nat.reduceGT, Nat.reduceBEq, reduceCtorEq, ↓reduceIte, Int.reduceToNat, Int.reduceLE, Int.reduceLT, Int.reduceNe, Int.reduceEq]
                  exact hfin
                · exact hfin
              · refine ⟨fun h => ?_, fun _ => ?_⟩
                · refine useQ (wq4 h _) ?_
                  simp (maxDischargeDepth := 12) (maxSteps := 1000000) -implicitDefEqProofs only [go_sem, Nat.reduceAdd, Nat.reduceSub, Nat.reduceMul, Nat.reduceLeDiff, Nat.reduceEqDiff, Nat.reduceGT, Nat.reduceBEq, reduceCtorEq, ↓reduceIte, Int.reduceToNat, Int.reduceLE, Int.reduceLT, Int.reduceNe, Int.reduceEq]
                  refine useQ (wsm _) ?_
                  simp (maxDischargeDepth := 12) (maxSteps := 1000000) -implicitDefEqProofs only [go_sem, Nat.reduceAdd, Nat.reduceSub, Nat.reduceMul, Nat.reduceLeDiff, Nat.reduceEqDiff, Nat.reduceGT, Nat.reduceBEq, reduceCtorEq, ↓reduceIte, Int.reduceToNat, Int.reduceLE, Int.reduceLT, Int.reduceNe, Int.reduceEq]
                  exact hfin
                · exact hfin
          · refine ⟨fun h => ?_, fun _ => ?_⟩
            · refine useQ (wq2 h _) ?_
              simp (maxDischargeDepth := 12) (maxSteps := 1000000) -implicitDefEqProofs only [go_sem, Nat.reduceAdd, Nat.reduceSub, Nat.reduceMul, Nat.reduceLeDiff, Nat.reduceEqDiff, Nat.reduceGT, Nat.reduceBEq, reduceCtorEq, ↓reduceIte, Int.reduceToNat, Int.reduceLE, Int.reduceLT, Int.reduceNe, Int.reduceEq]
              refine useQ (wsm _) ?_
              simp (maxDischargeDepth := 12) (maxSteps := 1000000) -implicitDefEqProofs only [go_sem, Nat.reduceAdd, Nat.reduceSub, Nat.reduceMul, Nat.reduceLeDiff, Nat.reduceEqDiff, Nat.reduceGT, Nat.reduceBEq, reduceCtorEq, ↓reduceIte, Int.reduceToNat, Int.reduceLE, Int.reduceLT, Int.reduceNe, Int.reduceEq]
              refine ⟨fun h => ?_, fun _ => ?_⟩
              · refine useQ (wq3 h _) ?_
                simp (maxDischargeDepth := 12) (maxSteps := 1000000) -implicitDefEqProofs only [go_sem, Nat.reduceAdd, Nat.reduceSub, Nat.reduceMul, Nat.reduceLeDiff, Nat.reduceEqDiff, Nat.reduceGT, Nat.reduceBEq, reduceCtorEq, ↓reduceIte, Int.reduceToNat, Int.reduceLE, Int.reduceLT, Int.reduceNe, Int.reduceEq]
                refine useQ (wsm _) ?_
                simp (maxDischargeDepth := 12) (maxSteps := 1000000) -implicitDefEqProofs only [go_sem, Nat.reduceAdd, Nat.reduceSub, Nat.reduceMul, Nat.reduceLeDiff, Nat.reduceEqDiff, Nat.reduceGT, Nat.reduceBEq, reduceCtorEq, ↓reduceIte, Int.reduceToNat, Int.reduceLE, Int.reduceLT, Int.reduceNe, Int.reduceEq]
                refine ⟨fun h => ?_, fun _ => ?_⟩
                · refine useQ (wq4 h _) ?_
                  simp (maxDischargeDepth := 12) (maxSteps := 1000000) -implicitDefEqProofs only [go_sem, Nat.reduceAdd, Nat.reduceSub, Nat.reduceMul, Nat.reduceLeDiff, Nat.reduceEqDiff, Nat.reduceGT, Nat.reduceBEq, reduceCtorEq, ↓reduceIte, Int.reduceToNat, Int.reduceLE, Int.reduceLT, Int.reduceNe, Int.reduceEq]
                  refine useQ (wsm _) ?_
                  simp (maxDischargeDepth := 12) (maxSteps := 1000000) -implicitDefEqProofs only [go_sem, Nat.reduceAdd, Nat.reduceSub, Nat.reduceMul, Nat.reduceLeDiff, Nat.reduceEqDiff, Nat.reduceGT, Nat.reduceBEq, reduceCtorEq, ↓reduceIte, Int.reduceToNat, Int.reduceLE, Int.reduceLT, Int.reduceNe, Int.reduceEq]
                  exact hfin
                · exact hfin
              · refine ⟨fun h => ?_, fun _ => ?_⟩
                · refine useQ (wq4 h _) ?_
                  simp (maxDischargeDepth := 12) (maxSteps := 1000000) -implicitDefEqProofs only [go_sem, Nat.reduceAdd, Nat.reduceSub, Nat.reduceMul, Nat.reduceLeDiff, Nat.reduceEqDiff, Nat.reduceGT, Nat.reduceBEq, reduceCtorEq, ↓reduceIte, Int.reduceToNat, Int.reduceLE, Int.reduceLT, Int.reduceNe, Int.reduceEq]
                  refine useQ (wsm _) ?_
                  simp (maxDischargeDepth := 12) (maxSteps := 1000000) -implicitDefEqProofs only [go_sem, Nat.reduceAdd, Nat.reduceSub, Nat.reduceMul, Nat.reduceLeDiff, Nat.reduceEqDiff, Nat.reduceGT, Nat.reduceBEq, reduceCtorEq, ↓reduceIte, Int.reduceToNat, Int.reduceLE, Int.reduceLT, Int.reduceNe, Int.reduceEq]
                  exact hfin
                · exact hfin
            · refine ⟨fun h => ?_, fun _ => ?_⟩
              · refine useQ (wq3 h _) ?_
                simp (maxDischargeDepth := 12) (maxSteps := 1000000) -implicitDefEqProofs only [go_sem, Nat.reduceAdd, Nat.reduceSub, Nat.reduceMul, Nat.reduceLeDiff, Nat.reduceEqDiff, Nat.reduceGT, Nat.reduceBEq, reduceCtorEq, ↓reduceIte, Int.reduceToNat, Int.reduceLE, Int.reduceLT, Int.reduceNe, Int.reduceEq]
                refine useQ (wsm _) ?_
                simp (maxDischargeDepth := 12) (maxSteps := 1000000) -implicitDefEqProofs only [go_sem, Nat.reduceAdd, Nat.reduceSub, Nat.reduceMul, Nat.reduceLeDiff, Nat.reduceEqDiff, Nat.reduceGT, Nat.reduceBEq, reduceCtorEq, ↓reduceIte, Int.reduceToNat, Int.reduceLE, Int.reduceLT, Int.reduceNe, Int.reduceEq]
                refine ⟨fun h => ?_, fun _ => ?_⟩
                · refine useQ (wq4 h _) ?_
                  simp (maxDischargeDepth := 12) (maxSteps := 1000000) -implicitDefEqProofs only [go_sem, Nat.reduceAdd, Nat.reduceSub, Nat.reduceMul, Nat.reduceLeDiff, Nat.reduceEqDiff, Nat.reduceGT, Nat.reduceBEq, reduceCtorEq, ↓reduceIte, Int.reduceToNat, Int.reduceLE, Int.reduceLT, Int.reduceNe, Int.reduceEq]
                  refine useQ (wsm _) ?_
                  simp (maxDischargeDepth := 12) (maxSteps := 1000000) -implicitDefEqProofs only [go_sem, Nat.reduceAdd, Nat.reduceSub, Nat.reduceMul, Nat.reduceLeDiff, Nat.reduceEqDiff, Nat.reduceGT, Nat.reduceBEq, reduceCtorEq, ↓reduceIte, Int.reduceToNat, Int.reduceLE, Int.reduceLT, Int.reduceNe, Int.reduceEq]
                  exact hfin
                · exact hfin
              · refine ⟨fun h => ?_, fun _ => ?_⟩
                · refine useQ (wq4 h _) ?_
                  simp (maxDischargeDepth := 12) (maxSteps := 1000000) -implicitDefEqProofs only [go_sem, Nat.reduceAdd, Nat.reduceSub, Nat.reduceMul, Nat.reduceLeDiff, Nat.reduceEqDiff, Nat.reduceGT, Nat.reduceBEq, reduceCtorEq, ↓reduceIte, Int.reduceToNat, Int.reduceLE, Int.reduceLT, Int.reduceNe, Int.reduceEq]
                  refine useQ (wsm _) ?_
                  simp (maxDischargeDepth := 12) (maxSteps := 1000000) -implicitDefEqProofs only [go_sem, Nat.reduceAdd, Nat.reduceSub, Nat.reduceMul, Nat.reduceLeDiff, Nat.reduceEqDiff, Nat.reduceGT, Nat.reduceBEq, reduceCtorEq, ↓reduceIte, Int.reduceToNat, Int.reduceLE, Int.reduceLT, Int.reduceNe, Int.reduceEq]
                  exact hfin
                · exact hfin
theorem viewStays_own : ownKnob Try.prog.godebug = none := by kernel_rfl
set_option maxHeartbeats 1000000 in
theorem viewStays_contract (H : Type) (enc : TypeId × Value → H) (W : World) (base : Nat) (args : Array Value) (ds gs : List (DataW H)) (before : List MemPlace)
    (hval : ∀ (j : Nat) t v, Try.f4.params[j]? = some t → args[j]? = some v → Value.okWide Try.prog W .any base t v)
    (hW : DataW.Whole enc Try.prog Try.f4.params.toList Rows.viewStaysSpec.vars false W args.toList ds gs before) (hk : Rows.uptoBulkAll (ds ++ gs) ≤ 1048576) :
    Calls Try.prog 4 args W fun e W' => ∃ v, e = .returned v ∧ Rows.viewStaysSpec.post enc Try.prog Try.f4 false true false false W args v W' :=
  law_contract enc (ts := [22, 35]) (tb := 4) (rdA_one rdSvs (by kernel_rfl) (rdA_agg rdSv Try.underlying35 rdA_nil)) Try.params4 rfl Try.underlying4 rfl (by kernel_rfl) (by intro t ht; revert t; decide +kernel) (fun ds hd => by
    first
    | (match ds, hd with | [_], _ => rfl)
    | (match ds, hd with | [_, _], _ => rfl)
    | (match ds, hd with | [_, _, _], _ => rfl)
    | (match ds, hd with | [_, _, _, _], _ => rfl)) (fun a ha hs => (staysW W a.1 a.2.1 ⟨[], []⟩ (by omega)).mono fun d S' h => h.1) base args ds gs before hval hW hk
set_option maxRecDepth 100000 in
theorem viewStays_lifted (os : Os) (started : os.Started) (H : Type) (enc : TypeId × Value → H) (F : Stop.Interp) :
    ReturnsInHanded {} Try.checked os 4 .any ((Rows.OpenSpec.upto Rows.viewStaysSpec).pre6 enc Try.prog Try.f4 Rows.viewStaysUptoRow.domain false) (((Rows.OpenSpec.upto Rows.viewStaysSpec).at F).post enc Try.prog Try.f4 false true false false) := by
  refine returnsInHanded_of_cond (C := Try.checked) (s := Rows.OpenSpec.upto Rows.viewStaysSpec) (k := Rows.uptoSmall) rfl viewStays_own started (by kernel_rfl) Try.func4
    (OpenSpec.witness (enc := enc) (C := Try.checked) (s := Rows.OpenSpec.upto Rows.viewStaysSpec) (k := Rows.uptoSmall) rfl false ⟨#[], #[.slice none 0 0, .agg #[.int .i64 0, .string ⟨#[]⟩, .string ⟨#[]⟩, .int .u8 0, .int .i64 0]], []⟩ 8 (by kernel_rfl) (by kernel_rfl) (by kernel_rfl)
      (x := ([.nil, .agg [.lit (.int .i64 0), .lit (.string []), .lit (.string []), .lit (.int .u8 0), .lit (.int .i64 0)]], [], [])) (by kernel_rfl) rfl (by kernel_rfl)) ?_
  intro W base args ds gs before hval hW _ hk _
  exact viewStays_contract H enc W base args ds gs before hval hW (of_decide_eq_true hk)
/-- THE STATEMENT. -/
theorem viewStays_holds : Rows.ViewStaysUptoSaid :=
  OpenClaim.holds_of_cond 4 Try.f4 rfl rfl rfl rfl rfl rfl rfl ⟨rfl, rfl, rfl, rfl, rfl⟩ rfl rfl rfl rfl rfl (by kernel_rfl) Try.func4 (by kernel_rfl)
    (of_decide_eq_true (by kernel_rfl)) (by unfold Func.isWrapper; first | (rw [if_pos (by decide +kernel)]; kernel_rfl) | (rw [if_neg (by decide +kernel)]; exact ⟨rfl, rfl⟩))
    (fun os started H enc _ F => viewStays_lifted os started H enc F)

end Go.Proofs.Ytfieabidajilmaa
