/-
  PoolGoes is true wherever it is called: for arguments of bulk at most 1048576. By an AI agent.
-/
import Derived.Test.YtkibkahknibgfaaP8
import Derived.Test.YtkibkahknibgfaaP9r
import Derived.Test.YtkibkahknibgfaaP12
import Derived.Test.YtkibkahknibgfaaA26
namespace Go.Proofs.Ytkibkahknibgfaa
open Aml Go Go.RowKit Go.ChangeShapes Go.WideShapes Go.ChangeAt
set_option linter.unusedVariables false
set_option linter.unusedSimpArgs false
set_option maxRecDepth 100000

set_option maxHeartbeats 4000000 in
/-- Taking, where what is taken may be added to. -/
theorem takeG (w0 : World) (p : Pl) (q m : Int) (S : St) (hm : may p q m) (h0 : p.free.length ≤ 1048576) (h1 : -1099511627776 ≤ p.high) (h2 : p.high ≤ 1048576) (h3 : -1099511627776 ≤ q) (h4 : q ≤ 1048576) :
    ACall Try.prog w0 53 [dP p, dI q, dI m] S (fun d S' => ∃ l : FN S.acc, d = .tup [dP (take p m), .acc l.n (took p m).length, dB true] ∧ S' = ⟨S.box, (l.n, .tl 1 ((took p m).map dI)) :: S.acc⟩) := by
  refine fnP [] mx Try.func53 rfl rfl (by kernel_rfl) ?_; simp (maxDischargeDepth := 12) -implicitDefEqProofs only [Try.ntmps53, go_sem, Nat.reduceAdd, Nat.reduceSub, Nat.reduceMul, Nat.reduceLeDiff, Nat.reduceEqDiff, Nat.reduceGT, Nat.reduceBEq, reduceCtorEq, ↓reduceIte, Int.reduceToNat, Int.reduceLE, Int.reduceLT, Int.reduceNe, Int.reduceEq]
  intro b b1
  have hr : roomZ p q ≤ 2199023255552 := by unfold roomZ; split <;> omega
  refine ⟨fun h => absurd hm.1 (by omega), fun h => ?_⟩
  refine use1 (room w0 p q _ h0 (by omega) (by omega) (by omega) (by omega)) ?_
  simp (maxDischargeDepth := 12) -implicitDefEqProofs only [go_sem, Nat.reduceAdd, Nat.reduceSub, Nat.reduceMul, Nat.reduceLeDiff, Nat.reduceEqDiff, Nat.reduceGT, Nat.reduceBEq, reduceCtorEq, ↓reduceIte, Int.reduceToNat, Int.reduceLE, Int.reduceLT, Int.reduceNe, Int.reduceEq]
  refine ⟨fun h' => absurd hm.2 (by omega), fun h' => ?_⟩
  refine use1 (together w0 [p.free] _ (by simp) (by rw [flat_one]; omega)) ?_ ⟨.full _ _ _, trivial⟩
  simp (maxDischargeDepth := 12) -implicitDefEqProofs only [go_sem, Nat.reduceAdd, Nat.reduceSub, Nat.reduceMul, Nat.reduceLeDiff, Nat.reduceEqDiff, Nat.reduceGT, Nat.reduceBEq, reduceCtorEq, ↓reduceIte, Int.reduceToNat, Int.reduceLE, Int.reduceLT, Int.reduceNe, Int.reduceEq, flat_one]
  have ho : oldN p m ≤ p.free.length := Nat.min_le_right _ _
  have ho2 : oldN p m ≤ m.toNat := Nat.min_le_left _ _
  have hmin : (if ((srt p.free).length : Int) < m then ((srt p.free).length : Int) else m) = (oldN p m : Int) := by
    rw [srt_length]; unfold oldN
    split <;> omega
  rw [hmin]
  simp only [Int.toNat_natCast, srt_length]
  have hx : ((srt p.free).take (oldN p m)).length = oldN p m := by rw [List.length_take, srt_length]; omega
  refine ⟨by omega, by omega, by omega, by omega, ?_⟩
  refine tailK 11 rfl (by omega) fun l => ?_
  simp (maxDischargeDepth := 12) -implicitDefEqProofs only [go_sem, Nat.reduceAdd, Nat.reduceSub, Nat.reduceMul, Nat.reduceLeDiff, Nat.reduceEqDiff, Nat.reduceGT, Nat.reduceBEq, reduceCtorEq, ↓reduceIte, Int.reduceToNat, Int.reduceLE, Int.reduceLT, Int.reduceNe, Int.reduceEq, hx]
  refine loopN [] (m.toNat - oldN p m) [2, 3, 6, 11] (fun k => [(11, .acc l.n (oldN p m + k))]) (fun k => ⟨(b1.n, [dI 0, .sl 0 true [], .sl 0 true []]) :: (b.n, [dI (p.high + k), dL ((srt p.free).drop (oldN p m)), .sl 2 false (p.wait.map dW)]) :: S.box, (l.n, .tl 1 (((srt p.free).take (oldN p m) ++ rise p.high k).map dI)) :: S.acc⟩) (fun _ => True) mx (by kernel_rfl) ?_ ?_
  · simp (maxDischargeDepth := 12) -implicitDefEqProofs only [go_sem, Nat.reduceAdd, Nat.reduceSub, Nat.reduceMul, Nat.reduceLeDiff, Nat.reduceEqDiff, Nat.reduceGT, Nat.reduceBEq, reduceCtorEq, ↓reduceIte, Int.reduceToNat, Int.reduceLE, Int.reduceLT, Int.reduceNe, Int.reduceEq]
    simp [rise, Wk_self, Sub_refl]
  · intro k hk _
    have hm0 := hm.1
    have hm1 := hm.2
    have hlen : ((srt p.free).take (oldN p m) ++ rise p.high k).length = oldN p m + k := by rw [List.length_append, hx, rise_len]
    simp (maxDischargeDepth := 12) -implicitDefEqProofs only [go_sem, Nat.reduceAdd, Nat.reduceSub, Nat.reduceMul, Nat.reduceLeDiff, Nat.reduceEqDiff, Nat.reduceGT, Nat.reduceBEq, reduceCtorEq, ↓reduceIte, Int.reduceToNat, Int.reduceLE, Int.reduceLT, Int.reduceNe, Int.reduceEq, rise_len, hx]
    refine ⟨fun hlt => ⟨by omega, by unfold maxLen; omega, by omega, ?_, ?_⟩, fun hge => ?_⟩
    · exact .refl _
    · rw [w64 (by omega) (by omega), rise_succ, ← List.append_assoc, List.map_append]
      have e : p.high + (k : Int) + 1 = p.high + ((k + 1 : Nat) : Int) := by omega
      rw [e]
      exact .refl _
    · have e : k = m.toNat - oldN p m := by omega
      subst e
      have e2 : oldN p m + (m.toNat - oldN p m) = (took p m).length := by rw [took_len]; omega
      rw [e2]
      exact ⟨_, _, .refl _, .consB (.consB (.refl _)), l, rfl, rfl⟩
def dV (n : Int) : DV := .v (.int .u16 n)
set_option maxHeartbeats 8000000 in
theorem goes (w0 : World) (p : Pl) (q m : Int) (S : St) (h0 : p.wait.length ≤ 1048576) (h1 : p.free.length + nW p.wait ≤ 1048576) (q0 : 0 ≤ q) (q1 : q ≤ 255) (m0 : 0 ≤ m) (m1 : m ≤ 65535) : ACall Try.prog w0 12 [dP p, dY q, dV m] S (fun d S' => d = dB true ∧ S' = S) := by
  refine fnS [16] mx Try.func12 rfl rfl (by kernel_rfl) ?_; simp (maxDischargeDepth := 12) -implicitDefEqProofs only [Try.ntmps12, go_sem, Nat.reduceAdd, Nat.reduceSub, Nat.reduceMul, Nat.reduceLeDiff, Nat.reduceEqDiff, Nat.reduceGT, Nat.reduceBEq, reduceCtorEq, ↓reduceIte, Int.reduceToNat, Int.reduceLE, Int.reduceLT, Int.reduceNe, Int.reduceEq,  dV]
  intro bx
  refine use1 (awake w0 _) ?_
  simp (maxDischargeDepth := 12) -implicitDefEqProofs only [go_sem, Nat.reduceAdd, Nat.reduceSub, Nat.reduceMul, Nat.reduceLeDiff, Nat.reduceEqDiff, Nat.reduceGT, Nat.reduceBEq, reduceCtorEq, ↓reduceIte, Int.reduceToNat, Int.reduceLE, Int.reduceLT, Int.reduceNe, Int.reduceEq]
  refine use1 (small w0 p _ (by omega) (by omega)) ?_
  simp (maxDischargeDepth := 12) -implicitDefEqProofs only [go_sem, Nat.reduceAdd, Nat.reduceSub, Nat.reduceMul, Nat.reduceLeDiff, Nat.reduceEqDiff, Nat.reduceGT, Nat.reduceBEq, reduceCtorEq, ↓reduceIte, Int.reduceToNat, Int.reduceLE, Int.reduceLT, Int.reduceNe, Int.reduceEq]
  intro hs
  obtain ⟨s1, s2, s3, s4⟩ := Classical.byContradiction hs
  refine use1 (check w0 p 1000 _ h0 h1) ?_
  simp (maxDischargeDepth := 12) -implicitDefEqProofs only [go_sem, Nat.reduceAdd, Nat.reduceSub, Nat.reduceMul, Nat.reduceLeDiff, Nat.reduceEqDiff, Nat.reduceGT, Nat.reduceBEq, reduceCtorEq, ↓reduceIte, Int.reduceToNat, Int.reduceLE, Int.reduceLT, Int.reduceNe, Int.reduceEq]
  intro hc hq
  have hc := Classical.byContradiction hc
  have eq : IntKind.i64.wrap q = q := w64 (by omega) (by omega)
  rw [eq] at hq
  have hq : p.high ≤ q := by omega
  obtain ⟨a, ea, a0, a1⟩ : ∃ a, IntKind.i64.wrap (m.tmod 256) = a ∧ 0 ≤ a ∧ a ≤ 255 := by
    have e : m.tmod 256 = m % 256 := Int.tmod_eq_emod_of_nonneg m0
    refine ⟨m % 256, ?_, by omega, by omega⟩
    rw [e]; exact w64 (by omega) (by omega)
  obtain ⟨b, eb, b0, b1⟩ : ∃ b, IntKind.i64.wrap (IntKind.u16.wrap (m.tdiv 256)) = b ∧ 0 ≤ b ∧ b ≤ 255 := by
    have e : m.tdiv 256 = m / 256 := Int.tdiv_eq_ediv_of_nonneg m0
    refine ⟨m / 256, ?_, by omega, by omega⟩
    have e2 : IntKind.u16.wrap (m / 256) = m / 256 := by show (m / 256) % 65536 = m / 256; omega
    rw [e, e2]; exact w64 (by omega) (by omega)
  have eab : IntKind.i64.wrap (a + b) = a + b := w64 (by omega) (by omega)
  have fl : p.free.length ≤ 200 := by omega
  have hx1 : (take p a).free.length ≤ 200 := by rw [take_len]; omega
  have hx2 : -1099511627776 ≤ (take p a).high ∧ (take p a).high ≤ 1048576 := by
    have : (take p a).high = p.high + ((a.toNat - oldN p a : Nat) : Int) := rfl
    omega
  simp only [eq, ea]
  by_cases hA : may p q a
  · refine useK (takeG w0 p q a _ hA (by omega) (by omega) (by omega) (by omega) (by omega)) ?_
    rintro d S' ⟨l, rfl, rfl⟩
    simp (maxDischargeDepth := 12) -implicitDefEqProofs only [go_sem, Nat.reduceAdd, Nat.reduceSub, Nat.reduceMul, Nat.reduceLeDiff, Nat.reduceEqDiff, Nat.reduceGT, Nat.reduceBEq, reduceCtorEq, ↓reduceIte, Int.reduceToNat, Int.reduceLE, Int.reduceLT, Int.reduceNe, Int.reduceEq, eq, ea, eb]
    intro c1
    by_cases hB : may (take p a) q b
    · refine use1 (takeY w0 (take p a) q b _ hB (by omega) (by omega) (by omega) (by omega) (by omega)) ?_
      simp (maxDischargeDepth := 12) -implicitDefEqProofs only [go_sem, Nat.reduceAdd, Nat.reduceSub, Nat.reduceMul, Nat.reduceLeDiff, Nat.reduceEqDiff, Nat.reduceGT, Nat.reduceBEq, reduceCtorEq, ↓reduceIte, Int.reduceToNat, Int.reduceLE, Int.reduceLT, Int.reduceNe, Int.reduceEq, eq, ea, eb, eab]
      intro c2
      refine use1 (takeY w0 p q (a + b) _ (may_add hq hA hB) (by omega) (by omega) (by omega) (by omega) (by omega)) ?_
      simp (maxDischargeDepth := 12) -implicitDefEqProofs only [go_sem, Nat.reduceAdd, Nat.reduceSub, Nat.reduceMul, Nat.reduceLeDiff, Nat.reduceEqDiff, Nat.reduceGT, Nat.reduceBEq, reduceCtorEq, ↓reduceIte, Int.reduceToNat, Int.reduceLE, Int.reduceLT, Int.reduceNe, Int.reduceEq, eq, ea, eb, eab]
      intro c3
      obtain ⟨t1, t2⟩ := take_two p a0 b0
      have l3 : (took p a).length + (took (take p a) b).length = (took p (a + b)).length := by rw [t1, List.length_append]
      have l4 : (took p (a + b)).length ≤ 510 := by rw [took_len]; omega
      have hM := may_add hq hA hB
      obtain ⟨r1, r2⟩ := room_take hq hM
      have r3 : 0 ≤ roomZ p q ∧ roomZ p q ≤ 1000000 := by
        have := hc.2.2.1
        unfold roomZ; split <;> omega
      have zl : (take p (a + b)).free.length ≤ 200 := by rw [take_len]; omega
      have zh : 2 ≤ (take p (a + b)).high := by
        have := hc.2.2.1
        have : (take p (a + b)).high = p.high + (((a + b).toNat - oldN p (a + b) : Nat) : Int) := rfl
        omega
      have zw : (take p (a + b)).wait = p.wait := rfl
      rw [l3]
      refine ⟨by omega, by unfold maxLen; omega, ?_⟩
      refine shrK [] [13] mx (by kernel_rfl) ?_
      simp (maxDischargeDepth := 12) -implicitDefEqProofs only [go_sem, Nat.reduceAdd, Nat.reduceSub, Nat.reduceMul, Nat.reduceLeDiff, Nat.reduceEqDiff, Nat.reduceGT, Nat.reduceBEq, reduceCtorEq, ↓reduceIte, Int.reduceToNat, Int.reduceLE, Int.reduceLT, Int.reduceNe, Int.reduceEq, l3, t2, show took p a ++ took (take p a) b = took p (a + b) from t1.symm]
      refine useQ (ints3 w0 (took p (a + b)) (took p (a + b)) _ (by omega)) ?_
      simp (maxDischargeDepth := 12) -implicitDefEqProofs only [go_sem, Nat.reduceAdd, Nat.reduceSub, Nat.reduceMul, Nat.reduceLeDiff, Nat.reduceEqDiff, Nat.reduceGT, Nat.reduceBEq, reduceCtorEq, ↓reduceIte, Int.reduceToNat, Int.reduceLE, Int.reduceLT, Int.reduceNe, Int.reduceEq]
      refine useQ (plain w0 (take p (a + b)) _ (by rw [zw]; omega)) ?_
      simp (maxDischargeDepth := 12) -implicitDefEqProofs only [go_sem, Nat.reduceAdd, Nat.reduceSub, Nat.reduceMul, Nat.reduceLeDiff, Nat.reduceEqDiff, Nat.reduceGT, Nat.reduceBEq, reduceCtorEq, ↓reduceIte, Int.reduceToNat, Int.reduceLE, Int.reduceLT, Int.reduceNe, Int.reduceEq]
      refine useQ (plain w0 (take p (a + b)) _ (by rw [zw]; omega)) ?_
      simp (maxDischargeDepth := 12) -implicitDefEqProofs only [go_sem, Nat.reduceAdd, Nat.reduceSub, Nat.reduceMul, Nat.reduceLeDiff, Nat.reduceEqDiff, Nat.reduceGT, Nat.reduceBEq, reduceCtorEq, ↓reduceIte, Int.reduceToNat, Int.reduceLE, Int.reduceLT, Int.reduceNe, Int.reduceEq]
      refine useQ (sameR w0 (take p (a + b)) (take p (a + b)) _ (by rw [zw]; omega) (by omega) (by rw [zw]; omega)) ?_
      simp (maxDischargeDepth := 12) -implicitDefEqProofs only [go_sem, Nat.reduceAdd, Nat.reduceSub, Nat.reduceMul, Nat.reduceLeDiff, Nat.reduceEqDiff, Nat.reduceGT, Nat.reduceBEq, reduceCtorEq, ↓reduceIte, Int.reduceToNat, Int.reduceLE, Int.reduceLT, Int.reduceNe, Int.reduceEq, pB_true (rfl : take p (a + b) = take p (a + b))]
      refine useQ (room w0 (take p (a + b)) q _ (by omega) (by omega) (by omega) (by omega) (by omega)) ?_
      simp (maxDischargeDepth := 12) -implicitDefEqProofs only [go_sem, Nat.reduceAdd, Nat.reduceSub, Nat.reduceMul, Nat.reduceLeDiff, Nat.reduceEqDiff, Nat.reduceGT, Nat.reduceBEq, reduceCtorEq, ↓reduceIte, Int.reduceToNat, Int.reduceLE, Int.reduceLT, Int.reduceNe, Int.reduceEq]
      refine useQ (room w0 p q _ (by omega) (by omega) (by omega) (by omega) (by omega)) ?_
      simp (maxDischargeDepth := 12) -implicitDefEqProofs only [go_sem, Nat.reduceAdd, Nat.reduceSub, Nat.reduceMul, Nat.reduceLeDiff, Nat.reduceEqDiff, Nat.reduceGT, Nat.reduceBEq, reduceCtorEq, ↓reduceIte, Int.reduceToNat, Int.reduceLE, Int.reduceLT, Int.reduceNe, Int.reduceEq]
      rw [w64 (n := roomZ p q - a) (by omega) (by omega), w64 (n := roomZ p q - a - b) (by omega) (by omega)]
      refine ⟨fun h => absurd (by omega) h, fun _ => ?_⟩
      refine loopK [] [9, 15, 19, 21] (fun i : Nat => [(21, dI i)]) (fun _ => ⟨(c3.n, [dI (take p (a + b)).high, dL (take p (a + b)).free, .sl 2 false ((take p (a + b)).wait.map dW)]) :: (c2.n, [dI (take p (a + b)).high, dL (take p (a + b)).free, .sl 2 false ((take p (a + b)).wait.map dW)]) :: S.box, S.acc⟩) (fun i => 1 ≤ i ∧ i ≤ (took p (a + b)).length + 1) (fun i => (took p (a + b)).length + 1 - i) 1 mx (by kernel_rfl) ?_ ?_
      · simp (maxDischargeDepth := 12) -implicitDefEqProofs only [go_sem, Nat.reduceAdd, Nat.reduceSub, Nat.reduceMul, Nat.reduceLeDiff, Nat.reduceEqDiff, Nat.reduceGT, Nat.reduceBEq, reduceCtorEq, ↓reduceIte, Int.reduceToNat, Int.reduceLE, Int.reduceLT, Int.reduceNe, Int.reduceEq]
      · intro i hi
        have hi1 := hi.1
        have hi2 := hi.2
        clear hi
        simp (maxDischargeDepth := 12) -implicitDefEqProofs only [go_sem, Nat.reduceAdd, Nat.reduceSub, Nat.reduceMul, Nat.reduceLeDiff, Nat.reduceEqDiff, Nat.reduceGT, Nat.reduceBEq, reduceCtorEq, ↓reduceIte, Int.reduceToNat, Int.reduceLE, Int.reduceLT, Int.reduceNe, Int.reduceEq]
        refine ⟨fun hlt => ⟨hlt, fun x hx => ?_⟩, fun hge => ?_⟩
        · rw [w64 (n := (i : Int) - 1) (by omega) (by omega), w64 (by omega) (by omega)]
          have e : ((i : Int) - 1).toNat = i - 1 := by omega
          rw [e]
          refine ⟨by omega, by omega, fun y hy => ⟨fun hle => ?_, fun _ => ⟨i + 1, ⟨by omega, by omega⟩, by omega, by omega⟩⟩⟩
          have := adj_pair (took_lt hc (a + b)) i x y (by omega) hx hy
          omega
        · refine use1 (releaseW w0 (take p (a + b)) 0 false _ (by rw [zw]; omega) (by rw [zw]; omega)) ?_
          simp (maxDischargeDepth := 12) -implicitDefEqProofs only [go_sem, Nat.reduceAdd, Nat.reduceSub, Nat.reduceMul, Nat.reduceLeDiff, Nat.reduceEqDiff, Nat.reduceGT, Nat.reduceBEq, reduceCtorEq, ↓reduceIte, Int.reduceToNat, Int.reduceLE, Int.reduceLT, Int.reduceNe, Int.reduceEq]
          have la := release_all (take p (a + b)) 0
          refine use1 (giveW w0 (release (take p (a + b)) 0 false) 1 (took p (a + b)) _ (by rw [la.1]; decide) (by rw [la.1]; show 0 + _ ≤ _; omega)) ?_
          simp (maxDischargeDepth := 12) -implicitDefEqProofs only [go_sem, Nat.reduceAdd, Nat.reduceSub, Nat.reduceMul, Nat.reduceLeDiff, Nat.reduceEqDiff, Nat.reduceGT, Nat.reduceBEq, reduceCtorEq, ↓reduceIte, Int.reduceToNat, Int.reduceLE, Int.reduceLT, Int.reduceNe, Int.reduceEq]
          have hbk := back_chk hc hq hM
          refine use1 (check w0 (give (release (take p (a + b)) 0 false) 1 (took p (a + b))) q _ ?_ ?_) ?_
          · unfold give
            split
            · rw [la.1]; decide
            · rw [la.1]; simp
          · unfold give
            split
            · rw [la.1, la.2, zw]; show _ + 0 ≤ _; omega
            · rw [la.1]
              simp only [List.getElem?_nil, List.nil_append]
              rw [la.2, zw]
              simp only [nW, List.map_cons, List.map_nil, List.sum_cons, List.sum_nil, srt_length]
              simp only [nW] at *
              omega
          simp (maxDischargeDepth := 12) -implicitDefEqProofs only [go_sem, Nat.reduceAdd, Nat.reduceSub, Nat.reduceMul, Nat.reduceLeDiff, Nat.reduceEqDiff, Nat.reduceGT, Nat.reduceBEq, reduceCtorEq, ↓reduceIte, Int.reduceToNat, Int.reduceLE, Int.reduceLT, Int.reduceNe, Int.reduceEq, pB_true hbk]
    · refine use1 (takeN w0 (take p a) q b _ hB (by omega) (by omega) (by omega) (by omega) (by omega)) ?_
      simp (maxDischargeDepth := 12) -implicitDefEqProofs only [go_sem, Nat.reduceAdd, Nat.reduceSub, Nat.reduceMul, Nat.reduceLeDiff, Nat.reduceEqDiff, Nat.reduceGT, Nat.reduceBEq, reduceCtorEq, ↓reduceIte, Int.reduceToNat, Int.reduceLE, Int.reduceLT, Int.reduceNe, Int.reduceEq, eq, ea, eb, eab]
      intro c2
      refine use1 (takeN w0 p q (a + b) _ (may_not hq a0 b0 fun h => hB h.2) (by omega) (by omega) (by omega) (by omega) (by omega)) ?_
      simp (maxDischargeDepth := 12) -implicitDefEqProofs only [go_sem, Nat.reduceAdd, Nat.reduceSub, Nat.reduceMul, Nat.reduceLeDiff, Nat.reduceEqDiff, Nat.reduceGT, Nat.reduceBEq, reduceCtorEq, ↓reduceIte, Int.reduceToNat, Int.reduceLE, Int.reduceLT, Int.reduceNe, Int.reduceEq]
  · refine use1 (takeN w0 p q a _ hA (by omega) (by omega) (by omega) (by omega) (by omega)) ?_
    simp (maxDischargeDepth := 12) -implicitDefEqProofs only [go_sem, Nat.reduceAdd, Nat.reduceSub, Nat.reduceMul, Nat.reduceLeDiff, Nat.reduceEqDiff, Nat.reduceGT, Nat.reduceBEq, reduceCtorEq, ↓reduceIte, Int.reduceToNat, Int.reduceLE, Int.reduceLT, Int.reduceNe, Int.reduceEq, eq, ea, eb]
    intro c1
    have hN := may_not hq a0 b0 fun h => hA h.1
    by_cases hB : may p q b
    · refine use1 (takeY w0 p q b _ hB (by omega) (by omega) (by omega) (by omega) (by omega)) ?_
      simp (maxDischargeDepth := 12) -implicitDefEqProofs only [go_sem, Nat.reduceAdd, Nat.reduceSub, Nat.reduceMul, Nat.reduceLeDiff, Nat.reduceEqDiff, Nat.reduceGT, Nat.reduceBEq, reduceCtorEq, ↓reduceIte, Int.reduceToNat, Int.reduceLE, Int.reduceLT, Int.reduceNe, Int.reduceEq, eq, ea, eb, eab]
      intro c2
      refine use1 (takeN w0 p q (a + b) _ hN (by omega) (by omega) (by omega) (by omega) (by omega)) ?_
      simp (maxDischargeDepth := 12) -implicitDefEqProofs only [go_sem, Nat.reduceAdd, Nat.reduceSub, Nat.reduceMul, Nat.reduceLeDiff, Nat.reduceEqDiff, Nat.reduceGT, Nat.reduceBEq, reduceCtorEq, ↓reduceIte, Int.reduceToNat, Int.reduceLE, Int.reduceLT, Int.reduceNe, Int.reduceEq]
    · refine use1 (takeN w0 p q b _ hB (by omega) (by omega) (by omega) (by omega) (by omega)) ?_
      simp (maxDischargeDepth := 12) -implicitDefEqProofs only [go_sem, Nat.reduceAdd, Nat.reduceSub, Nat.reduceMul, Nat.reduceLeDiff, Nat.reduceEqDiff, Nat.reduceGT, Nat.reduceBEq, reduceCtorEq, ↓reduceIte, Int.reduceToNat, Int.reduceLE, Int.reduceLT, Int.reduceNe, Int.reduceEq, eq, ea, eb, eab]
      intro c2
      refine use1 (takeN w0 p q (a + b) _ hN (by omega) (by omega) (by omega) (by omega) (by omega)) ?_
      simp (maxDischargeDepth := 12) -implicitDefEqProofs only [go_sem, Nat.reduceAdd, Nat.reduceSub, Nat.reduceMul, Nat.reduceLeDiff, Nat.reduceEqDiff, Nat.reduceGT, Nat.reduceBEq, reduceCtorEq, ↓reduceIte, Int.reduceToNat, Int.reduceLE, Int.reduceLT, Int.reduceNe, Int.reduceEq]
theorem rdU16 {W : World} : Rd Try.prog W 102 (fun n : Int => [dV n]) (fun _ => 1) (fun n => 0 ≤ n ∧ n ≤ 65535) :=
  (rd_int .u16 Try.underlying102).conv id (fun _ => rfl) (fun _ => Nat.le_refl _) fun n h => by simpa [Lit.wf, IntKind.min, IntKind.max, IntKind.signed, IntKind.bits] using h
theorem poolGoes_own : ownKnob Try.prog.godebug = none := by kernel_rfl
set_option maxHeartbeats 1000000 in
theorem poolGoes_contract (H : Type) (enc : TypeId × Value → H) (W : World) (base : Nat) (args : Array Value) (ds gs : List (DataW H)) (before : List MemPlace)
    (hval : ∀ (j : Nat) t v, Try.f12.params[j]? = some t → args[j]? = some v → Value.okWide Try.prog W .any base t v)
    (hW : DataW.Whole enc Try.prog Try.f12.params.toList Rows.poolGoesSpec.vars false W args.toList ds gs before) (hk : Rows.uptoBulkAll (ds ++ gs) ≤ 1048576) :
    Calls Try.prog 12 args W fun e W' => ∃ v, e = .returned v ∧ Rows.poolGoesSpec.post enc Try.prog Try.f12 false true false false W args v W' :=
  law_contract enc (ts := [79, 5, 102]) (tb := 4) (rdA_agg rdPl Try.underlying79 (rdA_one (rd_u8 Try.underlying5) (by kernel_rfl) (rdA_one rdU16 (by kernel_rfl) rdA_nil))) Try.params12 rfl Try.underlying4 rfl (by kernel_rfl) (by intro t ht; revert t; decide +kernel) (fun ds hd => by
    first
    | (match ds, hd with | [_], _ => rfl)
    | (match ds, hd with | [_, _], _ => rfl)
    | (match ds, hd with | [_, _, _], _ => rfl)
    | (match ds, hd with | [_, _, _, _], _ => rfl)) (fun a ha hs => (goes W a.1 a.2.1 a.2.2.1 ⟨[], []⟩ (by omega) (by omega) ha.2.1.1 ha.2.1.2 ha.2.2.1.1 ha.2.2.1.2).mono fun d S' h => h.1) base args ds gs before hval hW hk
set_option maxRecDepth 100000 in
theorem poolGoes_lifted (os : Os) (started : os.Started) (H : Type) (enc : TypeId × Value → H) (F : Stop.Interp) :
    ReturnsInHanded {} Try.checked os 12 .any ((Rows.OpenSpec.upto Rows.poolGoesSpec).pre6 enc Try.prog Try.f12 Rows.poolGoesUptoRow.domain false) (((Rows.OpenSpec.upto Rows.poolGoesSpec).at F).post enc Try.prog Try.f12 false true false false) := by
  refine returnsInHanded_of_cond (C := Try.checked) (s := Rows.OpenSpec.upto Rows.poolGoesSpec) (k := Rows.uptoSmall) rfl poolGoes_own started (by kernel_rfl) Try.func12
    (OpenSpec.witness (enc := enc) (C := Try.checked) (s := Rows.OpenSpec.upto Rows.poolGoesSpec) (k := Rows.uptoSmall) rfl false ⟨#[], #[.agg #[.int .i64 0, .slice none 0 0, .slice none 0 0], .int .u8 0, .int .u16 0], []⟩ 8 (by kernel_rfl) (by kernel_rfl) (by kernel_rfl)
      (x := ([.agg [.lit (.int .i64 0), .nil, .nil], .lit (.int .u8 0), .lit (.int .u16 0)], [], [])) (by kernel_rfl) rfl (by kernel_rfl)) ?_
  intro W base args ds gs before hval hW _ hk _
  exact poolGoes_contract H enc W base args ds gs before hval hW (of_decide_eq_true hk)
/-- THE STATEMENT. -/
theorem poolGoes_holds : Rows.PoolGoesUptoSaid :=
  OpenClaim.holds_of_cond 12 Try.f12 rfl rfl rfl rfl rfl rfl rfl ⟨rfl, rfl, rfl, rfl, rfl⟩ rfl rfl rfl rfl rfl (by kernel_rfl) Try.func12 (by kernel_rfl)
    (of_decide_eq_true (by kernel_rfl)) (by unfold Func.isWrapper; first | (rw [if_pos (by decide +kernel)]; kernel_rfl) | (rw [if_neg (by decide +kernel)]; exact ⟨rfl, rfl⟩))
    (fun os started H enc _ F => poolGoes_lifted os started H enc F)

end Go.Proofs.Ytkibkahknibgfaa
