/-
  ScriptShows, ScriptParses, ScriptLines and ScriptResults. By an AI agent.
-/
import Derived.Test.YtldimfofkbomnaaGreatDoorMS8
import Derived.Test.YtldimfofkbomnaaGreatDoorRows
import Derived.Test.YtldimfofkbomnaaGreatDoorMS4
import Derived.ProofKit
import Derived.OpenShut
import Derived.JoinedCond
import Derived.Carry
import Derived.Test.YtldimfofkbomnaaGreatDoorTie
import Derived.Test.YtldimfofkbomnaaGreatDoorCards
import Derived.Deep.DeepHandedRow
import Derived.Lib.LaidTab
import Derived.Lib.LaidU8
import Derived.Stop.LaidErr
import Derived.Shelf.Vars
import Derived.Lib.SmallJoins
import Derived.Test.YtldimfofkbomnaaGreatDoorMS7
import Derived.Lib.Walk
import Derived.Lib.ItoaMem
import Derived.Lib.AppendIntMem
import Derived.WalkKit
import Derived.BigCall
import Derived.BigGuard
set_option linter.unusedVariables false
set_option linter.unusedSimpArgs false
set_option maxRecDepth 100000
set_option maxHeartbeats 16000000
namespace Go.Proofs.YtldimfofkbomnaaGreatDoor
open Aml Go Go.RowKit
theorem allF_cons {out : List Ov} {k : Nat} {w : List UInt8} {ws : List (List UInt8)} : allF out k (w :: ws) = if skipL w then allF out (k + 1) ws else if (pF w).2 ≠ 0 then ([], ((k + 1 : Nat) : Int)) else allF (out ++ [(pF w).1]) (k + 1) ws := by rw [allF]
theorem skip_head (w : List UInt8) (h : w ≠ []) : w[0]? = w.head? := by cases w with
 | nil => exact absurd rfl h
 | cons c t => rfl
theorem wk_nil11 (n : Int) : Wk (.tup [.sl 0 true [], dI n]) (.tup [.sl 11 false (ovsD []), dI n]) := by
 show Wk (.tup [.sl 0 true [], dI n]) (.tup [.sl 11 false [], dI n])
 simp (maxDischargeDepth := 12) (maxSteps := 1000000) -implicitDefEqProofs only [go_sem, Nat.reduceAdd, Nat.reduceSub, Nat.reduceMul, Nat.reduceLeDiff, Nat.reduceEqDiff, Nat.reduceGT, Nat.reduceBEq, reduceCtorEq, ↓reduceIte, Int.reduceToNat, Int.reduceLE, Int.reduceLT, Int.reduceNe, Int.reduceEq]
theorem allP (w0 : W0) (hg : GlobN w0) (hp : KP w0) (hu : KU w0) (hk' : KE w0) (hm : KM w0) (s : ByteArray) (hs : s.size ≤ 1048575) (S : St) :
  ACall Tryz.prog w0 19 [dS s] S (fun d S' => d = .tup [.sl 11 false (ovsD (aF s.data.toList).1), dI (aF s.data.toList).2] ∧ S' = S) := by
 have hll := lnS_len [] s.data.toList
 have hlz := lnS_sz [] s.data.toList
 rw [size_list] at hll
 refine fnS [] mx Tryz.func19 rfl rfl (by kernel_rfl) ?_; simp (maxDischargeDepth := 12) (maxSteps := 1000000) -implicitDefEqProofs only [Tryz.ntmps19, go_sem, Nat.reduceAdd, Nat.reduceSub, Nat.reduceMul, Nat.reduceLeDiff, Nat.reduceEqDiff, Nat.reduceGT, Nat.reduceBEq, reduceCtorEq, ↓reduceIte, Int.reduceToNat, Int.reduceLE, Int.reduceLT, Int.reduceNe, Int.reduceEq]
 refine use1 (splitP w0 hm s (by omega) _) ?_
 unfold aF
 unfold lns at *
 generalize lnS [] s.data.toList = W at *
 have hkl := keepD_len W
 simp (maxDischargeDepth := 12) (maxSteps := 1000000) -implicitDefEqProofs only [go_sem, Nat.reduceAdd, Nat.reduceSub, Nat.reduceMul, Nat.reduceLeDiff, Nat.reduceEqDiff, Nat.reduceGT, Nat.reduceBEq, reduceCtorEq, ↓reduceIte, Int.reduceToNat, Int.reduceLE, Int.reduceLT, Int.reduceNe, Int.reduceEq, hkl]
 refine growK 4 11 rfl (by omega) fun l => ?_
 refine loopK [] [4, 10, 11, 12] (σ := Nat × List Ov) (fun p => [(4, .acc l.n p.2.length), (12, dI p.1)]) (fun p => ⟨S.box, (l.n, .arr 11 (ovsD p.2)) :: S.acc⟩) (fun p => p.1 ≤ W.length ∧ p.2.length ≤ p.1 ∧ allF p.2 p.1 (W.drop p.1) = allF [] 0 W) (fun p => W.length - p.1) (0, []) mx (by kernel_rfl) ⟨⟨Nat.zero_le _, Nat.le_refl _, rfl⟩, ?_⟩ fun p hp' => ?_
 ·simp (maxDischargeDepth := 12) (maxSteps := 1000000) -implicitDefEqProofs only [go_sem, Nat.reduceAdd, Nat.reduceSub, Nat.reduceMul, Nat.reduceLeDiff, Nat.reduceEqDiff, Nat.reduceGT, Nat.reduceBEq, reduceCtorEq, ↓reduceIte, Int.reduceToNat, Int.reduceLE, Int.reduceLT, Int.reduceNe, Int.reduceEq]
  exact .refl _
 ·obtain ⟨k, out⟩ := p
  obtain ⟨p1, p2, p3⟩ := hp'
  dsimp only at p1 p2 p3
  have e1 : IntKind.i64.wrap ((k : Int) + 1) = ((k + 1 : Nat) : Int) := by rw [w64 (by omega) (by omega)]; omega
  by_cases hlt : k < W.length
  ·have hke := List.getElem?_eq_getElem hlt
   have hwz := hlz _ (List.getElem_mem hlt)
   rw [List.drop_eq_getElem_cons hlt] at p3
   generalize W[k] = w at *
   simp at hwz
   have hrow := el_at (xs := keepD W) (k := k) (d := dS (tx w)) (by unfold keepD; rw [List.getElem?_map, hke]; rfl) rfl
   rw [allF_cons] at p3
   have hpar := fun S => parseP' w0 hg hp hu hk' hm (tx w) (by rw [tx_size]; omega) S
   rw [tx_list] at hpar
   have hpo := pF_ok w
   generalize hP : pF w = P at *
   obtain ⟨x1, x2, x3, x4, x5, x6, x7, x8, x9, hfs⟩ := ov_form hpo
   have hds : P.1.ds (.sl 1 false (keepD P.1.keep)) = [dI P.1.kind, dI x1, dI x2, dI x3, dS (tx x4), dS (tx x5), dS (tx x6), dI x7, dI x8, dI x9, .sl 1 false (keepD P.1.keep)] := by unfold Ov.ds; rw [hfs]; rfl
   have hov : ovD P.1 = .agg [dI P.1.kind, dI x1, dI x2, dI x3, dS (tx x4), dS (tx x5), dS (tx x6), dI x7, dI x8, dI x9, .sl 1 false (keepD P.1.keep)] := by unfold ovD; rw [hds]
   rw [hds] at hpar
   have skip : skipL w = true → ∃ s' : Nat × List Ov, (s'.fst ≤ W.length ∧ s'.snd.length ≤ s'.fst ∧ allF s'.snd s'.fst (List.drop s'.fst W) = allF [] 0 W) ∧ W.length - s'.fst < W.length - k ∧ (Wk (.acc l.n out.length) (.acc l.n s'.snd.length) ∧ k + 1 = s'.fst) ∧ Aml.Sub ⟨S.box, (l.n, Ob.arr 11 (ovsD s'.snd)) :: S.acc⟩ ⟨S.box, (l.n, Ob.arr 11 (ovsD out)) :: S.acc⟩ := by
    intro h
    rw [if_pos h] at p3
    exact ⟨(k + 1, out), ⟨by dsimp only; omega, by dsimp only; omega, p3⟩, by dsimp only; omega, ⟨.refl _, rfl⟩, .refl _⟩
   simp (maxDischargeDepth := 12) (maxSteps := 1000000) -implicitDefEqProofs only [go_sem, Nat.reduceAdd, Nat.reduceSub, Nat.reduceMul, Nat.reduceLeDiff, Nat.reduceEqDiff, Nat.reduceGT, Nat.reduceBEq, reduceCtorEq, ↓reduceIte, Int.reduceToNat, Int.reduceLE, Int.reduceLT, Int.reduceNe, Int.reduceEq, hkl, e1, hrow, tx_list, tx_size]
   refine ⟨fun _ => ⟨hlt, fun h1 => skip (by unfold skipL; rw [decide_eq_true h1]; rfl), fun h1 => ⟨by have := List.length_pos_iff.2 h1; omega, fun c hc => ⟨fun h2 => skip ?_, fun h2 => ?_⟩⟩⟩, fun hh => absurd hlt hh⟩
   ·unfold skipL
    rw [← skip_head w h1, hc, UInt8.toNat_inj.1 (show c.toNat = (35 : UInt8).toNat by have : (35 : UInt8).toNat = 35 := rfl; omega)]
    simp
   ·have hns : skipL w = false := by
     unfold skipL
     rw [← skip_head w h1, hc, decide_eq_false h1, decide_eq_false (show ¬ some c = some (35 : UInt8) by intro e; cases e; exact h2 rfl)]; rfl
    rw [hns, if_neg (by decide)] at p3
    refine use1 (hpar _) ?_
    simp (maxDischargeDepth := 12) (maxSteps := 1000000) -implicitDefEqProofs only [go_sem, Nat.reduceAdd, Nat.reduceSub, Nat.reduceMul, Nat.reduceLeDiff, Nat.reduceEqDiff, Nat.reduceGT, Nat.reduceBEq, reduceCtorEq, ↓reduceIte, Int.reduceToNat, Int.reduceLE, Int.reduceLT, Int.reduceNe, Int.reduceEq]
    intro b
    have hol := ovsD_len out
    have hms : maxLen = 9223372036854775807 := rfl
    refine ⟨fun hP0 => ?_, fun hP0 => ⟨hol, by omega, by omega, ?_⟩⟩
    ·rw [if_pos hP0] at p3
     rw [← p3, e1]
     exact wk_nil11 _
    ·rw [if_neg hP0] at p3
     refine ⟨(k + 1, out ++ [P.1]), ⟨by dsimp only; omega, by dsimp only; rw [List.length_append, List.length_singleton]; omega, p3⟩, by dsimp only; omega, ⟨by rw [hol, List.length_append]; exact .refl _, e1⟩, ?_⟩
     dsimp only
     rw [show ovsD (out ++ [P.1]) = ovsD out ++ [ovD P.1] by simp [ovsD], hov]
     exact .consB (.refl _)
  ·obtain rfl : k = W.length := by omega
   rw [List.drop_length] at p3
   rw [← p3, allF]
   simp (maxDischargeDepth := 12) (maxSteps := 1000000) -implicitDefEqProofs only [go_sem, Nat.reduceAdd, Nat.reduceSub, Nat.reduceMul, Nat.reduceLeDiff, Nat.reduceEqDiff, Nat.reduceGT, Nat.reduceBEq, reduceCtorEq, ↓reduceIte, Int.reduceToNat, Int.reduceLE, Int.reduceLT, Int.reduceNe, Int.reduceEq, hkl, e1]
   exact ⟨fun hh => absurd hh (by omega), fun _ => ovsD_len out⟩
theorem allR (w0 : W0) (hu : KU w0) (s : ByteArray) (hs : s.size ≤ 1048575) (S : St) :
  ACall Tryz.prog w0 20 [dS s] S (fun d S' => d = .tup [.sl 11 false (ovsD (aF s.data.toList).1), dI (aF s.data.toList).2] ∧ S' = S) := by
 have hL := size_list s
 have hll := lnS_len [] s.data.toList
 unfold aF lns
 refine fnS [] mx Tryz.func20 rfl rfl (by kernel_rfl) ?_; simp (maxDischargeDepth := 12) (maxSteps := 1000000) -implicitDefEqProofs only [Tryz.ntmps20, go_sem, Nat.reduceAdd, Nat.reduceSub, Nat.reduceMul, Nat.reduceLeDiff, Nat.reduceEqDiff, Nat.reduceGT, Nat.reduceBEq, reduceCtorEq, ↓reduceIte, Int.reduceToNat, Int.reduceLE, Int.reduceLT, Int.reduceNe, Int.reduceEq]
 refine growK 4 11 rfl (by omega) fun l => ?_
 refine loopK [] [0, 4, 5, 6, 7] (σ := Nat × Nat × Nat × List Ov) (fun p => [(4, .acc l.n p.2.2.2.length), (5, dI p.2.1), (6, dI ((p.2.2.1 + 1 : Nat))), (7, dI p.1)]) (fun p => ⟨S.box, (l.n, .arr 11 (ovsD p.2.2.2)) :: S.acc⟩) (fun p => p.1 ≤ s.size + 1 ∧ p.2.1 ≤ p.1 ∧ p.2.2.1 ≤ p.1 ∧ p.2.2.2.length ≤ p.1 ∧ (p.1 ≤ s.size → allF p.2.2.2 p.2.2.1 (lnS ((s.data.toList.take p.1).drop p.2.1) (s.data.toList.drop p.1)) = allF [] 0 (lnS [] s.data.toList)) ∧ (p.1 = s.size + 1 → (p.2.2.2, (0 : Int)) = allF [] 0 (lnS [] s.data.toList))) (fun p => s.size + 1 - p.1) (0, 0, 0, []) mx (by kernel_rfl) ⟨⟨Nat.zero_le _, Nat.le_refl _, Nat.le_refl _, Nat.le_refl _, fun _ => rfl, fun h => by omega⟩, ?_⟩ fun p hp' => ?_
 ·simp (maxDischargeDepth := 12) (maxSteps := 1000000) -implicitDefEqProofs only [go_sem, Nat.reduceAdd, Nat.reduceSub, Nat.reduceMul, Nat.reduceLeDiff, Nat.reduceEqDiff, Nat.reduceGT, Nat.reduceBEq, reduceCtorEq, ↓reduceIte, Int.reduceToNat, Int.reduceLE, Int.reduceLT, Int.reduceNe, Int.reduceEq]
  exact .refl _
 ·obtain ⟨i, f, k, out⟩ := p
  obtain ⟨p1, p2, p3, p4, p5, p6⟩ := hp'
  dsimp only at p1 p2 p3 p4 p5 p6
  have e1 : IntKind.i64.wrap ((i : Int) + 1) = ((i + 1 : Nat) : Int) := by rw [w64 (by omega) (by omega)]; omega
  have e2 : IntKind.i64.wrap (((k + 1 : Nat) : Int) + 1) = ((k + 1 + 1 : Nat) : Int) := by rw [w64 (by omega) (by omega)]; omega
  have hext : s.extract f i = tx ((s.data.toList.take i).drop f) := tx_ext (by rw [list_ext, tx_list])
  have hol := ovsD_len out
  generalize hR : allF [] 0 (lnS [] s.data.toList) = R at *
  by_cases hle : i ≤ s.size
  ·have p5 := p5 hle
   generalize hcur : (s.data.toList.take i).drop f = cur at *
   have hcl : cur.length ≤ 1048576 := by rw [← hcur, List.length_drop, List.length_take]; omega
   have hpar := fun S => parseR w0 hu (tx cur) (by rw [tx_size]; exact hcl) S
   rw [tx_list, ← pF_rF] at hpar
   have hpo := pF_ok cur
   have hst : ∀ ws, allF out k (cur :: ws) = if skipL cur then allF out (k + 1) ws else if (pF cur).2 ≠ 0 then ([], ((k + 1 : Nat) : Int)) else allF (out ++ [(pF cur).1]) (k + 1) ws := fun ws => allF_cons
   generalize hP : pF cur = P at *
   obtain ⟨x1, x2, x3, x4, x5, x6, x7, x8, x9, hfs⟩ := ov_form hpo
   have hds : P.1.ds (.sl 1 false (keepD P.1.keep)) = [dI P.1.kind, dI x1, dI x2, dI x3, dS (tx x4), dS (tx x5), dS (tx x6), dI x7, dI x8, dI x9, .sl 1 false (keepD P.1.keep)] := by unfold Ov.ds; rw [hfs]; rfl
   have hov : ovD P.1 = .agg [dI P.1.kind, dI x1, dI x2, dI x3, dS (tx x4), dS (tx x5), dS (tx x6), dI x7, dI x8, dI x9, .sl 1 false (keepD P.1.keep)] := by unfold ovD; rw [hds]
   rw [hds] at hpar
   have fin : ∀ ws, (∀ out' : List Ov, allF out' (k + 1) ws = R → (i + 1 ≤ s.size → allF out' (k + 1) (lnS ((s.data.toList.take (i + 1)).drop (i + 1)) (s.data.toList.drop (i + 1))) = R) ∧ (i + 1 = s.size + 1 → (out', (0 : Int)) = R)) → ∀ (out' : List Ov) (A : St), Aml.Sub ⟨S.box, (l.n, Ob.arr 11 (ovsD out')) :: S.acc⟩ A → out'.length ≤ i + 1 → allF out' (k + 1) ws = R → ∀ n, n = out'.length →
     ∃ s' : Nat × Nat × Nat × List Ov, (s'.fst ≤ s.size + 1 ∧ s'.snd.fst ≤ s'.fst ∧ s'.snd.snd.fst ≤ s'.fst ∧ s'.snd.snd.snd.length ≤ s'.fst ∧ (s'.fst ≤ s.size → allF s'.snd.snd.snd s'.snd.snd.fst (lnS (List.drop s'.snd.fst (List.take s'.fst s.data.toList)) (List.drop s'.fst s.data.toList)) = R) ∧ (s'.fst = s.size + 1 → (s'.snd.snd.snd, (0 : Int)) = R)) ∧
      s.size + 1 - s'.fst < s.size + 1 - i ∧ (Wk (.acc l.n n) (.acc l.n s'.snd.snd.snd.length) ∧ i + 1 = s'.snd.fst ∧ k + 1 = s'.snd.snd.fst ∧ i + 1 = s'.fst) ∧ Aml.Sub ⟨S.box, (l.n, Ob.arr 11 (ovsD s'.snd.snd.snd)) :: S.acc⟩ A := by
    rintro ws hN out' A hA ho hR n rfl
    obtain ⟨h1, h2⟩ := hN out' hR
    exact ⟨(i + 1, i + 1, k + 1, out'), ⟨by dsimp only; omega, Nat.le_refl _, by dsimp only; omega, ho, h1, h2⟩, by dsimp only; omega, ⟨.refl _, rfl, rfl, rfl⟩, hA⟩
   have hdrop : (s.data.toList.take (i + 1)).drop (i + 1) = [] := List.drop_of_length_le (by rw [List.length_take]; omega)
   simp (maxDischargeDepth := 12) (maxSteps := 1000000) -implicitDefEqProofs only [go_sem, Nat.reduceAdd, Nat.reduceSub, Nat.reduceMul, Nat.reduceLeDiff, Nat.reduceEqDiff, Nat.reduceGT, Nat.reduceBEq, reduceCtorEq, ↓reduceIte, Int.reduceToNat, Int.reduceLE, Int.reduceLT, Int.reduceNe, Int.reduceEq, e1, e2, hext, hol, tx_list, tx_size]
   refine ⟨fun _ => ⟨fun hlt => ⟨hlt, fun c hc => ⟨fun h10 => ?_, fun h10 => ⟨p2, hle, ?e1⟩⟩⟩, fun hlt => ⟨p2, hle, ?e2⟩⟩, fun hh => absurd hle hh⟩
   ·have hdr : s.data.toList.drop i = c :: s.data.toList.drop (i + 1) := by
     obtain ⟨g1, g2⟩ := List.getElem?_eq_some_iff.1 hc
     rw [List.drop_eq_getElem_cons g1, g2]
    have htk : (s.data.toList.take (i + 1)).drop f = cur ++ [c] := by
     rw [List.take_add_one, hc, Option.toList_some, List.drop_append_of_le_length (by rw [List.length_take]; omega), hcur]
    rw [hdr, lnS, if_neg (fun e => h10 (by rw [e]; rfl))] at p5
    exact ⟨(i + 1, f, k, out), ⟨by dsimp only; omega, by dsimp only; omega, by dsimp only; omega, by dsimp only; omega, fun _ => by dsimp only; rw [htk]; exact p5, fun h => by dsimp only at h; omega⟩, by dsimp only; omega, ⟨.refl _, rfl, rfl, rfl⟩, .refl _⟩
   all_goals
    obtain ⟨ws, hw, hN⟩ : ∃ ws, allF out k (cur :: ws) = R ∧ ∀ out' : List Ov, allF out' (k + 1) ws = R → (i + 1 ≤ s.size → allF out' (k + 1) (lnS ((s.data.toList.take (i + 1)).drop (i + 1)) (s.data.toList.drop (i + 1))) = R) ∧ (i + 1 = s.size + 1 → (out', (0 : Int)) = R) := by
     first
      | (
         have hdr : s.data.toList.drop i = c :: s.data.toList.drop (i + 1) := by
          obtain ⟨g1, g2⟩ := List.getElem?_eq_some_iff.1 hc
          rw [List.drop_eq_getElem_cons g1, g2]
         rw [hdr, lnS, if_pos (UInt8.toNat_inj.1 (show c.toNat = (10 : UInt8).toNat by have : (10 : UInt8).toNat = 10 := rfl; omega))] at p5
         exact ⟨_, p5, fun out' ho => ⟨fun _ => by rw [hdrop]; exact ho, fun h => by omega⟩⟩)
      | (
         have hdr : s.data.toList.drop i = [] := List.drop_of_length_le (by omega)
         rw [hdr, lnS] at p5
         exact ⟨[], p5, fun out' ho => ⟨fun h => by omega, fun _ => by rw [← ho, allF]⟩⟩)
    rw [hst ws] at hw
    have fin := fin ws hN
    have skip : skipL cur = true → allF out (k + 1) ws = R := fun h => by rw [if_pos h] at hw; exact hw
    refine ⟨fun h1 => ⟨by have := List.length_pos_iff.2 h1; omega, fun c2 hc2 => ⟨fun h2 => ?_, fun h2 => ?_⟩⟩, fun h1 => ?_⟩
    ·have hns : skipL cur = false := by
      unfold skipL
      rw [← skip_head cur h1, hc2, decide_eq_false h1, decide_eq_false (show ¬ some c2 = some (35 : UInt8) by intro e; cases e; exact h2 rfl)]; rfl
     rw [hns, if_neg (by decide)] at hw
     refine use1 (hpar _) ?_
     simp (maxDischargeDepth := 12) (maxSteps := 1000000) -implicitDefEqProofs only [go_sem, Nat.reduceAdd, Nat.reduceSub, Nat.reduceMul, Nat.reduceLeDiff, Nat.reduceEqDiff, Nat.reduceGT, Nat.reduceBEq, reduceCtorEq, ↓reduceIte, Int.reduceToNat, Int.reduceLE, Int.reduceLT, Int.reduceNe, Int.reduceEq, e1, e2]
     intro b
     have hms : maxLen = 9223372036854775807 := rfl
     refine ⟨fun hP0 => ?_, fun hP0 => ⟨hol, by omega, by omega, ?_⟩⟩
     ·rw [if_pos hP0] at hw
      rw [← hw]
      exact wk_nil11 _
     ·rw [if_neg hP0] at hw
      refine fin (out ++ [P.1]) _ ?_ (by rw [List.length_append, List.length_singleton]; omega) hw _ (by rw [hol, List.length_append]; rfl)
      rw [show ovsD (out ++ [P.1]) = ovsD out ++ [ovD P.1] by simp [ovsD], hov]
      exact .consB (.refl _)
    ·refine fin out _ (.refl _) (by omega) (skip ?_) _ rfl
     unfold skipL
     rw [← skip_head cur h1, hc2, UInt8.toNat_inj.1 (show c2.toNat = (35 : UInt8).toNat by have : (35 : UInt8).toNat = 35 := rfl; omega)]
     simp
    ·refine fin out _ (.refl _) (by omega) (skip ?_) _ rfl
     unfold skipL
     rw [decide_eq_true (Decidable.not_not.1 h1)]; rfl
  ·have p6 := p6 (by omega)
   rw [← p6]
   simp (maxDischargeDepth := 12) (maxSteps := 1000000) -implicitDefEqProofs only [go_sem, Nat.reduceAdd, Nat.reduceSub, Nat.reduceMul, Nat.reduceLeDiff, Nat.reduceEqDiff, Nat.reduceGT, Nat.reduceBEq, reduceCtorEq, ↓reduceIte, Int.reduceToNat, Int.reduceLE, Int.reduceLT, Int.reduceNe, Int.reduceEq, e1, e2, hol]
   exact fun hh => absurd hh hle
theorem itoa_d (n : Nat) (h : n < 10) : Lib.itoa (n : Int) = [UInt8.ofNat (48 + n)] := by
 unfold Lib.itoa
 rw [if_neg (by omega), show (n : Int).toNat = n from rfl, Lib.decDigits, dif_pos h]
def oA : Ov := ⟨7, [.n 1, .n 2, .n 0, .t [98], .t [107], .t [97, 37], .n 0, .n 0, .n 0], []⟩
def oB : Ov := ⟨0, zfs, []⟩
def oC : Ov := ⟨11, [.n 0, .n 1, .n 0, .t [], .t [], .t [], .n 0, .n 0, .n 0], []⟩
def tA : List UInt8 := [112, 117, 116, 32, 108, 101, 118, 101, 108, 61, 49, 32, 115, 101, 115, 115, 105, 111, 110, 61, 50, 32, 98, 117, 99, 107, 101, 116, 61, 34, 98, 34, 32, 107, 101, 121, 61, 34, 107, 34, 32, 118, 97, 108, 117, 101, 61, 34, 97, 37, 50, 53, 34]
theorem sh_n0 : Fl.shown (.n 0) = [] := rfl
theorem sh_t0 : Fl.shown (.t []) = [] := rfl
theorem sh_1 : Fl.shown (.n 1) = [49] := by unfold Fl.shown; dsimp only; rw [if_neg (by decide)]; exact itoa_d 1 (by decide)
theorem sh_2 : Fl.shown (.n 2) = [50] := by unfold Fl.shown; dsimp only; rw [if_neg (by decide)]; exact itoa_d 2 (by decide)
theorem sh_b : Fl.shown (.t [98]) = [34, 98, 34] := by kernel_rfl
theorem sh_k : Fl.shown (.t [107]) = [34, 107, 34] := by kernel_rfl
theorem sh_a : Fl.shown (.t [97, 37]) = [34, 97, 37, 50, 53, 34] := by kernel_rfl
theorem show_A : showO oA = tA := by
 unfold showO wsO wsF oA
 rw [if_neg (by decide), show flat32 _ = flat32 (List.filterMap wordF (fnm.zip [.n 1, .n 2, .n 0, .t [98], .t [107], .t [97, 37], .n 0, .n 0, .n 0])) by simp, flat_piece]
 simp only [fnm, List.zip_cons_cons, List.zip_nil_right, List.flatMap_cons, List.flatMap_nil, pieceF, sh_1, sh_2, sh_n0, sh_b, sh_k, sh_a]
 rfl
theorem show_B : showO oB = [111, 112, 101, 110] := by rfl
theorem show_C : showO oC = [115, 110, 97, 112, 32, 115, 101, 115, 115, 105, 111, 110, 61, 49] := by
 unfold showO wsO wsF oC
 rw [if_neg (by decide), show flat32 _ = flat32 (List.filterMap wordF (fnm.zip [.n 0, .n 1, .n 0, .t [], .t [], .t [], .n 0, .n 0, .n 0])) by simp, flat_piece]
 simp only [fnm, List.zip_cons_cons, List.zip_nil_right, List.flatMap_cons, List.flatMap_nil, pieceF, sh_1, sh_n0, sh_t0]
 rfl
theorem ok_of {m : Nat} {K a b c g i j : Int} {d e f : List UInt8} (hK : inI K) (ha : inI a) (hb : inI b) (hc : inI c) (hg : inI g) (hi : inI i) (hj : inI j) (hd : d.length ≤ m) (he : e.length ≤ m) (hf : f.length ≤ m) : OvOk m ⟨K, [.n a, .n b, .n c, .t d, .t e, .t f, .n g, .n i, .n j], []⟩ := by
 refine ⟨hK.1, hK.2, rfl, ?_, fun k h => (by cases h), Nat.zero_le _⟩
 intro q x hx
 dsimp only at hx
 match q, hx with
 | 0, hx => cases hx; exact ⟨rfl, ha⟩
 | 1, hx => cases hx; exact ⟨rfl, hb⟩
 | 2, hx => cases hx; exact ⟨rfl, hc⟩
 | 3, hx => cases hx; exact ⟨rfl, hd⟩
 | 4, hx => cases hx; exact ⟨rfl, he⟩
 | 5, hx => cases hx; exact ⟨rfl, hf⟩
 | 6, hx => cases hx; exact ⟨rfl, hg⟩
 | 7, hx => cases hx; exact ⟨rfl, hi⟩
 | 8, hx => cases hx; exact ⟨rfl, hj⟩
 | n + 9, hx => cases hx
theorem inI_d (n : Int) (h0 : 0 ≤ n) (h1 : n ≤ 100) : inI n := ⟨by omega, by omega⟩
theorem ok_A : OvOk 1048576 oA := by
 unfold oA
 exact ok_of (inI_d _ (by decide) (by decide)) (inI_d _ (by decide) (by decide)) (inI_d _ (by decide) (by decide)) (inI_d _ (by decide) (by decide)) (inI_d _ (by decide) (by decide)) (inI_d _ (by decide) (by decide)) (inI_d _ (by decide) (by decide)) (by decide) (by decide) (by decide)
theorem ok_C : OvOk 1048576 oC := by
 unfold oC
 exact ok_of (inI_d _ (by decide) (by decide)) (inI_d _ (by decide) (by decide)) (inI_d _ (by decide) (by decide)) (inI_d _ (by decide) (by decide)) (inI_d _ (by decide) (by decide)) (inI_d _ (by decide) (by decide)) (inI_d _ (by decide) (by decide)) (by decide) (by decide) (by decide)
def tL : List UInt8 := [35, 32, 110, 111, 116, 101, 10, 111, 112, 101, 110, 10, 10, 115, 110, 97, 112, 32, 115, 101, 115, 115, 105, 111, 110, 61, 49]
theorem lns_L : lns tL = [[35, 32, 110, 111, 116, 101], [111, 112, 101, 110], [], [115, 110, 97, 112, 32, 115, 101, 115, 115, 105, 111, 110, 61, 49]] := by rfl
theorem aF_L : aF tL = ([oB, oC], 0) := by
 have hB := pF_show (m := 1048576) (o := oB) (z_ok _ 0 (by decide)) (by decide)
 have hC := pF_show ok_C (by decide)
 rw [show_B] at hB
 rw [show_C] at hC
 unfold aF
 rw [lns_L, allF_cons, if_pos (by decide), allF_cons, if_neg (by decide), hB, if_neg (by decide), allF_cons, if_pos (by decide), allF_cons, if_neg (by decide), hC, if_neg (by decide), allF]
 rfl
theorem result0 (w0 : W0) (hp : KP w0) (S : St) : ACall Tryz.prog w0 22 [.agg [dI 0, dI 3, .sl 0 true [], dI 0, dI 0, dI 0, dI 0, .sl 0 true []]] S (fun d S' => d = dS ⟨#[101, 61, 48, 32, 110, 61, 51]⟩ ∧ S' = S) := by
 have i0 := fun S => itoaP w0 hp 0 (by decide) (by decide) S
 have i3 := fun S => itoaP w0 hp 3 (by decide) (by decide) S
 rw [show Lib.itoa 0 = [48] from itoa_d 0 (by decide)] at i0
 rw [show Lib.itoa 3 = [51] from itoa_d 3 (by decide)] at i3
 refine fnS [] mx Tryz.func22 rfl rfl (by kernel_rfl) ?_; simp (maxDischargeDepth := 12) (maxSteps := 1000000) -implicitDefEqProofs only [Tryz.ntmps22, go_sem, Nat.reduceAdd, Nat.reduceSub, Nat.reduceMul, Nat.reduceLeDiff, Nat.reduceEqDiff, Nat.reduceGT, Nat.reduceBEq, reduceCtorEq, ↓reduceIte, Int.reduceToNat, Int.reduceLE, Int.reduceLT, Int.reduceNe, Int.reduceEq]
 intro b
 refine use1 (i0 _) ?_
 simp (maxDischargeDepth := 12) (maxSteps := 1000000) -implicitDefEqProofs only [go_sem, Nat.reduceAdd, Nat.reduceSub, Nat.reduceMul, Nat.reduceLeDiff, Nat.reduceEqDiff, Nat.reduceGT, Nat.reduceBEq, reduceCtorEq, ↓reduceIte, Int.reduceToNat, Int.reduceLE, Int.reduceLT, Int.reduceNe, Int.reduceEq, tx_size]
 refine use1 (i3 _) ?_
 simp (maxDischargeDepth := 12) (maxSteps := 1000000) -implicitDefEqProofs only [go_sem, Nat.reduceAdd, Nat.reduceSub, Nat.reduceMul, Nat.reduceLeDiff, Nat.reduceEqDiff, Nat.reduceGT, Nat.reduceBEq, reduceCtorEq, ↓reduceIte, Int.reduceToNat, Int.reduceLE, Int.reduceLT, Int.reduceNe, Int.reduceEq, tx_size]
 have hms : maxLen = 9223372036854775807 := rfl
 rw [show (⟨#[101, 61]⟩ : ByteArray) ++ tx [48] = tx [101, 61, 48] from tx_app [101, 61] [48], show (⟨#[110, 61]⟩ : ByteArray) ++ tx [51] = tx [110, 61, 51] from tx_app [110, 61] [51]]
 refine ⟨by omega, fun l => ?_⟩
 refine loopN [] 0 [1, 3, 26, 27, 28] (fun _ => []) (fun _ => ⟨(b.n, [dI 0, dI 3, .sl 0 true [], dI 0, dI 0, dI 0, dI 0, .sl 0 true []]) :: S.box, (l.n, .tl 1 (keepD [[101, 61, 48], [110, 61, 51]])) :: S.acc⟩) (fun _ => True) mx (by kernel_rfl) ?_ ?_
 ·simp (maxDischargeDepth := 12) (maxSteps := 1000000) -implicitDefEqProofs only [go_sem, Nat.reduceAdd, Nat.reduceSub, Nat.reduceMul, Nat.reduceLeDiff, Nat.reduceEqDiff, Nat.reduceGT, Nat.reduceBEq, reduceCtorEq, ↓reduceIte, Int.reduceToNat, Int.reduceLE, Int.reduceLT, Int.reduceNe, Int.reduceEq]
  exact .refl _
 ·intro k hk _
  obtain rfl : k = 0 := by omega
  simp (maxDischargeDepth := 12) (maxSteps := 1000000) -implicitDefEqProofs only [go_sem, Nat.reduceAdd, Nat.reduceSub, Nat.reduceMul, Nat.reduceLeDiff, Nat.reduceEqDiff, Nat.reduceGT, Nat.reduceBEq, reduceCtorEq, ↓reduceIte, Int.reduceToNat, Int.reduceLE, Int.reduceLT, Int.reduceNe, Int.reduceEq]
  intro b2
  refine loopN [] 0 [3, 74, 75, 76] (fun _ => []) (fun _ => ⟨(b.n, [dI 0, dI 3, .sl 0 true [], dI 0, dI 0, dI 0, dI 0, .sl 0 true []]) :: S.box, (l.n, .tl 1 (keepD [[101, 61, 48], [110, 61, 51]])) :: S.acc⟩) (fun _ => True) mx (by kernel_rfl) ?_ ?_
  ·simp (maxDischargeDepth := 12) (maxSteps := 1000000) -implicitDefEqProofs only [go_sem, Nat.reduceAdd, Nat.reduceSub, Nat.reduceMul, Nat.reduceLeDiff, Nat.reduceEqDiff, Nat.reduceGT, Nat.reduceBEq, reduceCtorEq, ↓reduceIte, Int.reduceToNat, Int.reduceLE, Int.reduceLT, Int.reduceNe, Int.reduceEq]
  ·intro k hk _
   obtain rfl : k = 0 := by omega
   have hj := fun S => joinP w0 false [[101, 61, 48], [110, 61, 51]] (by simp) (by decide) (by decide) S
   rw [show Lib.join [[101, 61, 48], [110, 61, 51]] [32] = [101, 61, 48, 32, 110, 61, 51] from rfl] at hj
   simp (maxDischargeDepth := 12) (maxSteps := 1000000) -implicitDefEqProofs only [go_sem, Nat.reduceAdd, Nat.reduceSub, Nat.reduceMul, Nat.reduceLeDiff, Nat.reduceEqDiff, Nat.reduceGT, Nat.reduceBEq, reduceCtorEq, ↓reduceIte, Int.reduceToNat, Int.reduceLE, Int.reduceLT, Int.reduceNe, Int.reduceEq]
   refine .inr ⟨rfl, use1 (hj _) ?_⟩
   simp (maxDischargeDepth := 12) (maxSteps := 1000000) -implicitDefEqProofs only [go_sem, Nat.reduceAdd, Nat.reduceSub, Nat.reduceMul, Nat.reduceLeDiff, Nat.reduceEqDiff, Nat.reduceGT, Nat.reduceBEq, reduceCtorEq, ↓reduceIte, Int.reduceToNat, Int.reduceLE, Int.reduceLT, Int.reduceNe, Int.reduceEq]
   trivial
theorem ds_A : oA.ds (.sl 1 false (keepD oA.keep)) = [dI 7, dI 1, dI 2, dI 0, dS ⟨#[98]⟩, dS ⟨#[107]⟩, dS ⟨#[97, 37]⟩, dI 0, dI 0, dI 0, .sl 1 false []] := rfl
theorem awakeP (w0 : W0) (hg : GlobN w0) (hp : KP w0) (hu : KU w0) (hk' : KE w0) (hm : KM w0) (S : St) : ACall Tryz.prog w0 7 [] S (fun d S' => d = dB true ∧ S' = S) := by
 have hA := fun S => showP w0 hg hp hu ok_A false S
 have hP := fun S => parseP' w0 hg hp hu hk' hm (tx tA) (by rw [tx_size]; decide) S
 rw [show_A, ds_A] at hA
 rw [tx_list, ← show_A, pF_show ok_A (by decide), show_A] at hP
 dsimp only at hP
 rw [ds_A] at hP
 have hQ := fun S => quoteP w0 hu (tx [97, 34, 255]) (by decide) S
 have hU := fun S => unquoteP w0 hu hk' (tx (qt [97, 34, 255])) (by decide) S
 rw [tx_list] at hQ
 rw [tx_list, unP_qt] at hU
 have hL := fun S => allP w0 hg hp hu hk' hm (tx tL) (by rw [tx_size]; decide) S
 rw [tx_list, aF_L] at hL
 have hS := fun S => sameR w0 ok_A (Nat.le_refl _) S
 unfold ovD at hS
 rw [ds_A] at hS
 refine fnS [] mx Tryz.func7 rfl rfl (by kernel_rfl) ?_; simp (maxDischargeDepth := 12) (maxSteps := 1000000) -implicitDefEqProofs only [Tryz.ntmps7, go_sem, Nat.reduceAdd, Nat.reduceSub, Nat.reduceMul, Nat.reduceLeDiff, Nat.reduceEqDiff, Nat.reduceGT, Nat.reduceBEq, reduceCtorEq, ↓reduceIte, Int.reduceToNat, Int.reduceLE, Int.reduceLT, Int.reduceNe, Int.reduceEq]
 intro b
 refine use1 (hA _) ?_ (by simp (maxDischargeDepth := 12) (maxSteps := 1000000) -implicitDefEqProofs only [go_sem, Nat.reduceAdd, Nat.reduceSub, Nat.reduceMul, Nat.reduceLeDiff, Nat.reduceEqDiff, Nat.reduceGT, Nat.reduceBEq, reduceCtorEq, ↓reduceIte, Int.reduceToNat, Int.reduceLE, Int.reduceLT, Int.reduceNe, Int.reduceEq])
 simp (maxDischargeDepth := 12) (maxSteps := 1000000) -implicitDefEqProofs only [go_sem, Nat.reduceAdd, Nat.reduceSub, Nat.reduceMul, Nat.reduceLeDiff, Nat.reduceEqDiff, Nat.reduceGT, Nat.reduceBEq, reduceCtorEq, ↓reduceIte, Int.reduceToNat, Int.reduceLE, Int.reduceLT, Int.reduceNe, Int.reduceEq]
 refine use1 (hP _) ?_
 simp (maxDischargeDepth := 12) (maxSteps := 1000000) -implicitDefEqProofs only [go_sem, Nat.reduceAdd, Nat.reduceSub, Nat.reduceMul, Nat.reduceLeDiff, Nat.reduceEqDiff, Nat.reduceGT, Nat.reduceBEq, reduceCtorEq, ↓reduceIte, Int.reduceToNat, Int.reduceLE, Int.reduceLT, Int.reduceNe, Int.reduceEq]
 intro b2
 refine use1 (hQ _) ?_
 simp (maxDischargeDepth := 12) (maxSteps := 1000000) -implicitDefEqProofs only [go_sem, Nat.reduceAdd, Nat.reduceSub, Nat.reduceMul, Nat.reduceLeDiff, Nat.reduceEqDiff, Nat.reduceGT, Nat.reduceBEq, reduceCtorEq, ↓reduceIte, Int.reduceToNat, Int.reduceLE, Int.reduceLT, Int.reduceNe, Int.reduceEq]
 refine use1 (hU _) ?_
 simp (maxDischargeDepth := 12) (maxSteps := 1000000) -implicitDefEqProofs only [go_sem, Nat.reduceAdd, Nat.reduceSub, Nat.reduceMul, Nat.reduceLeDiff, Nat.reduceEqDiff, Nat.reduceGT, Nat.reduceBEq, reduceCtorEq, ↓reduceIte, Int.reduceToNat, Int.reduceLE, Int.reduceLT, Int.reduceNe, Int.reduceEq]
 refine use1 (hL _) ?_
 simp (maxDischargeDepth := 12) (maxSteps := 1000000) -implicitDefEqProofs only [go_sem, Nat.reduceAdd, Nat.reduceSub, Nat.reduceMul, Nat.reduceLeDiff, Nat.reduceEqDiff, Nat.reduceGT, Nat.reduceBEq, reduceCtorEq, ↓reduceIte, Int.reduceToNat, Int.reduceLE, Int.reduceLT, Int.reduceNe, Int.reduceEq]
 refine ⟨fun _ => ?_, fun h => h rfl⟩
 refine use1 (hS _) ?_ (by simp (maxDischargeDepth := 12) (maxSteps := 1000000) -implicitDefEqProofs only [go_sem, Nat.reduceAdd, Nat.reduceSub, Nat.reduceMul, Nat.reduceLeDiff, Nat.reduceEqDiff, Nat.reduceGT, Nat.reduceBEq, reduceCtorEq, ↓reduceIte, Int.reduceToNat, Int.reduceLE, Int.reduceLT, Int.reduceNe, Int.reduceEq])
 simp (maxDischargeDepth := 12) (maxSteps := 1000000) -implicitDefEqProofs only [go_sem, Nat.reduceAdd, Nat.reduceSub, Nat.reduceMul, Nat.reduceLeDiff, Nat.reduceEqDiff, Nat.reduceGT, Nat.reduceBEq, reduceCtorEq, ↓reduceIte, Int.reduceToNat, Int.reduceLE, Int.reduceLT, Int.reduceNe, Int.reduceEq]
 refine ⟨fun _ => ?_, fun h => h rfl⟩
 refine ⟨fun _ => ?_, fun h => h rfl⟩
 refine use1 (result0 w0 hp _) ?_
 simp (maxDischargeDepth := 12) (maxSteps := 1000000) -implicitDefEqProofs only [go_sem, Nat.reduceAdd, Nat.reduceSub, Nat.reduceMul, Nat.reduceLeDiff, Nat.reduceEqDiff, Nat.reduceGT, Nat.reduceBEq, reduceCtorEq, ↓reduceIte, Int.reduceToNat, Int.reduceLE, Int.reduceLT, Int.reduceNe, Int.reduceEq]
def kSum (l : List (List UInt8)) : Nat := (l.map List.length).sum
theorem kSum_take (l : List (List UInt8)) (k : Nat) : kSum (l.take k) ≤ kSum l := by
 unfold kSum
 induction l generalizing k with
 | nil => simp
 | cons x l ih =>
  cases k with
  | zero => simp
  | succ k => have := ih k; rw [List.take_succ_cons, List.map_cons, List.map_cons, List.sum_cons, List.sum_cons]; omega
theorem kSum_le {m : Nat} (l : List (List UInt8)) (h : ∀ k, k ∈ l → k.length ≤ m) : kSum l ≤ l.length * m := by
 unfold kSum
 induction l with
 | nil => simp
 | cons x l ih =>
  have h1 := h x List.mem_cons_self
  have h2 := ih fun k hk => h k (List.mem_cons_of_mem _ hk)
  rw [List.map_cons, List.sum_cons, List.length_cons, Nat.add_mul]; omega
def Fl.len : Fl → Nat
 | .n _ => 0
 | .t l => l.length
def smallB (o : Ov) : Bool := decide ((o.fs.map Fl.len).sum + kSum o.keep ≤ 1000) && decide (o.keep.length ≤ 70)
theorem smallP (w0 : W0) {o : Ov} (h : OvOk 1048576 o) (S : St) : ACall Tryz.prog w0 8 [ovD o] S (fun d S' => d = dB (smallB o) ∧ S' = S) := by
 obtain ⟨x1, x2, x3, x4, x5, x6, x7, x8, x9, hfs⟩ := ov_form h
 have hds : o.ds (.sl 1 false (keepD o.keep)) = [dI o.kind, dI x1, dI x2, dI x3, dS (tx x4), dS (tx x5), dS (tx x6), dI x7, dI x8, dI x9, .sl 1 false (keepD o.keep)] := by unfold Ov.ds; rw [hfs]; rfl
 have f3 := (h.fl 3 (.t x4) (by rw [hfs]; rfl)).2
 have f4 := (h.fl 4 (.t x5) (by rw [hfs]; rfl)).2
 have f5 := (h.fl 5 (.t x6) (by rw [hfs]; rfl)).2
 have hsum : (o.fs.map Fl.len).sum = x4.length + x5.length + x6.length := by rw [hfs]; simp [Fl.len]; omega
 have hkl := keepD_len o.keep
 have hkn := h.kn
 have hks := kSum_le o.keep h.kp
 have hks2 : o.keep.length * 1048576 ≤ 1048576 * 1048576 := Nat.mul_le_mul_right _ hkn
 unfold ovD smallB
 rw [hds, hsum]
 have hw1 : IntKind.i64.wrap ((x4.length : Int) + x5.length) = ((x4.length + x5.length : Nat) : Int) := by rw [w64 (by omega) (by omega)]; omega
 have hw2 : IntKind.i64.wrap (((x4.length + x5.length : Nat) : Int) + x6.length) = ((x4.length + x5.length + x6.length : Nat) : Int) := by rw [w64 (by omega) (by omega)]; omega
 refine fnS [] mx Tryz.func8 rfl rfl (by kernel_rfl) ?_; simp (maxDischargeDepth := 12) (maxSteps := 1000000) -implicitDefEqProofs only [Tryz.ntmps8, go_sem, Nat.reduceAdd, Nat.reduceSub, Nat.reduceMul, Nat.reduceLeDiff, Nat.reduceEqDiff, Nat.reduceGT, Nat.reduceBEq, reduceCtorEq, ↓reduceIte, Int.reduceToNat, Int.reduceLE, Int.reduceLT, Int.reduceNe, Int.reduceEq, tx_size, hw1, hw2]
 intro b
 refine loopN [] o.keep.length [1, 3, 4] (fun k => [(3, dI ((x4.length + x5.length + x6.length + kSum (o.keep.take k) : Nat))), (4, dI k)]) (fun _ => ⟨(b.n, [dI o.kind, dI x1, dI x2, dI x3, dS (tx x4), dS (tx x5), dS (tx x6), dI x7, dI x8, dI x9, .sl 1 false (keepD o.keep)]) :: S.box, S.acc⟩) (fun _ => True) mx (by kernel_rfl) ?_ ?_
 ·simp (maxDischargeDepth := 12) (maxSteps := 1000000) -implicitDefEqProofs only [go_sem, Nat.reduceAdd, Nat.reduceSub, Nat.reduceMul, Nat.reduceLeDiff, Nat.reduceEqDiff, Nat.reduceGT, Nat.reduceBEq, reduceCtorEq, ↓reduceIte, Int.reduceToNat, Int.reduceLE, Int.reduceLT, Int.reduceNe, Int.reduceEq]
  rfl
 ·intro k hk _
  have e1 : IntKind.i64.wrap ((k : Int) + 1) = ((k + 1 : Nat) : Int) := by rw [w64 (by omega) (by omega)]; omega
  have hkt := kSum_take o.keep k
  by_cases hlt : k < o.keep.length
  ·have hke := List.getElem?_eq_getElem hlt
   have hxl := h.kp _ (List.getElem_mem hlt)
   generalize o.keep[k] = x at hke hxl
   have hrow := el_at (xs := keepD o.keep) (k := k) (d := dS (tx x)) (by unfold keepD; rw [List.getElem?_map, hke]; rfl) rfl
   have hw3 : IntKind.i64.wrap (((x4.length + x5.length + x6.length + kSum (o.keep.take k) : Nat) : Int) + x.length) = ((x4.length + x5.length + x6.length + kSum (o.keep.take (k + 1)) : Nat) : Int) := by
    have e : kSum (o.keep.take (k + 1)) = kSum (o.keep.take k) + x.length := by unfold kSum; rw [List.take_add_one, hke]; simp
    rw [e, w64 (by omega) (by omega)]; omega
   simp (maxDischargeDepth := 12) (maxSteps := 1000000) -implicitDefEqProofs only [go_sem, Nat.reduceAdd, Nat.reduceSub, Nat.reduceMul, Nat.reduceLeDiff, Nat.reduceEqDiff, Nat.reduceGT, Nat.reduceBEq, reduceCtorEq, ↓reduceIte, Int.reduceToNat, Int.reduceLE, Int.reduceLT, Int.reduceNe, Int.reduceEq, hkl, e1, hrow, tx_size, hw3]
   exact fun hh => absurd hlt hh
  ·obtain rfl : k = o.keep.length := by omega
   rw [List.take_length]
   simp (maxDischargeDepth := 12) (maxSteps := 1000000) -implicitDefEqProofs only [go_sem, Nat.reduceAdd, Nat.reduceSub, Nat.reduceMul, Nat.reduceLeDiff, Nat.reduceEqDiff, Nat.reduceGT, Nat.reduceBEq, reduceCtorEq, ↓reduceIte, Int.reduceToNat, Int.reduceLE, Int.reduceLT, Int.reduceNe, Int.reduceEq, hkl, e1]
   refine ⟨fun hh => absurd hh (by omega), fun _ => ⟨fun h1 => ?_, fun h1 => ?_⟩⟩
   ·rw [decide_eq_true (show x4.length + x5.length + x6.length + kSum o.keep ≤ 1000 by omega), Bool.true_and]
    exact decide_eq_decide.2 (by omega)
   ·rw [decide_eq_false (show ¬ x4.length + x5.length + x6.length + kSum o.keep ≤ 1000 by omega)]; rfl
theorem small_ok {m : Nat} {o : Ov} (h : OvOk m o) (hs : smallB o = true) : OvOk 1000 o := by
 unfold smallB at hs
 obtain ⟨h1, h2⟩ := Bool.and_eq_true_iff.1 hs
 have h1 := of_decide_eq_true h1
 have h2 := of_decide_eq_true h2
 have mem : ∀ (l : List Nat) x, x ∈ l → x ≤ l.sum := by
  intro l x hx
  induction l with
  | nil => cases hx
  | cons y l ih =>
   rw [List.sum_cons]
   rcases List.mem_cons.1 hx with rfl | hx
   ·omega
   ·have := ih hx; omega
 refine ⟨h.k0, h.k1, h.len, fun i f hf => ?_, fun k hk => ?_, by omega⟩
 ·have h3 := h.fl i f hf
  have h4 := mem _ _ (List.mem_map_of_mem (f := Fl.len) (List.mem_of_getElem? hf))
  cases f with
  | n x => exact h3
  | t l => exact ⟨h3.1, by rw [show Fl.len (.t l) = l.length from rfl] at h4; omega⟩
 ·have h4 := mem _ _ (List.mem_map_of_mem (f := List.length) hk)
  unfold kSum at h1; omega
theorem show_small {o : Ov} (h : OvOk 1000 o) (hs : smallB o = true) : (showO o).length ≤ 240000 := by
 have h1 := show_len h
 unfold smallB at hs
 have h2 := of_decide_eq_true (Bool.and_eq_true_iff.1 hs).2
 have h3 := Nat.mul_le_mul_right (3 * 1000 + 30) (show 9 + o.keep.length ≤ 79 by omega)
 omega
theorem showsP (w0 : W0) (hg : GlobN w0) (hp : KP w0) (hu : KU w0) (hk' : KE w0) (hm : KM w0) {o : Ov} (h : OvOk 1048576 o) (s : ByteArray) (hs : s.size ≤ 1048576) (S : St) :
  ACall Tryz.prog w0 3 [ovD o, dS s] S (fun d S' => d = dB true ∧ S' = S) := by
 have hsm := fun S => smallP w0 h S
 have hso := fun S => sameR w0 h (Nat.le_refl _) S
 have hS := fun S => showP w0 hg hp hu h false S
 have hR := fun S => showR w0 hu h false S
 obtain ⟨x1, x2, x3, x4, x5, x6, x7, x8, x9, hfs⟩ := ov_form h
 have hds : o.ds (.sl 1 false (keepD o.keep)) = [dI o.kind, dI x1, dI x2, dI x3, dS (tx x4), dS (tx x5), dS (tx x6), dI x7, dI x8, dI x9, .sl 1 false (keepD o.keep)] := by unfold Ov.ds; rw [hfs]; rfl
 unfold ovD at hsm hso ⊢
 have hP := fun hb S => parseP' w0 hg hp hu hk' hm (tx (showO o)) hb S
 rw [tx_list] at hP
 have hz := fun hn => pF_show h hn
 have hzn := fun hn => pF_none (o := o) hn
 have hpo := pF_ok (showO o)
 rw [hds] at hsm hso hS hR ⊢
 refine fnS [] mx Tryz.func3 rfl rfl (by kernel_rfl) ?_; simp (maxDischargeDepth := 12) (maxSteps := 1000000) -implicitDefEqProofs only [Tryz.ntmps3, go_sem, Nat.reduceAdd, Nat.reduceSub, Nat.reduceMul, Nat.reduceLeDiff, Nat.reduceEqDiff, Nat.reduceGT, Nat.reduceBEq, reduceCtorEq, ↓reduceIte, Int.reduceToNat, Int.reduceLE, Int.reduceLT, Int.reduceNe, Int.reduceEq]
 intro b
 refine use1 (awakeP w0 hg hp hu hk' hm _) ?_
 simp (maxDischargeDepth := 12) (maxSteps := 1000000) -implicitDefEqProofs only [go_sem, Nat.reduceAdd, Nat.reduceSub, Nat.reduceMul, Nat.reduceLeDiff, Nat.reduceEqDiff, Nat.reduceGT, Nat.reduceBEq, reduceCtorEq, ↓reduceIte, Int.reduceToNat, Int.reduceLE, Int.reduceLT, Int.reduceNe, Int.reduceEq]
 refine use1 (hsm _) ?_
 simp (maxDischargeDepth := 12) (maxSteps := 1000000) -implicitDefEqProofs only [go_sem, Nat.reduceAdd, Nat.reduceSub, Nat.reduceMul, Nat.reduceLeDiff, Nat.reduceEqDiff, Nat.reduceGT, Nat.reduceBEq, reduceCtorEq, ↓reduceIte, Int.reduceToNat, Int.reduceLE, Int.reduceLT, Int.reduceNe, Int.reduceEq]
 intro hs1 hl
 have hsz := size_list s
 have hos := small_ok h hs1
 have hsl := show_small hos hs1
 have u1 := fun S => unquoteP w0 hu hk' s (by omega) S
 have u2 := fun S => unquoteR w0 s (by omega) S
 have q1 := fun S => quoteP w0 hu s (by omega) S
 have q2 := fun S => quoteR w0 s (by omega) S
 have hql := qt_len s.data.toList
 have u3 := fun S => unquoteP w0 hu hk' (tx (qt s.data.toList)) (by rw [tx_size]; omega) S
 rw [tx_list, unP_qt] at u3
 rw [unP_unR] at u1
 refine use1 (u1 _) ?_
 simp (maxDischargeDepth := 12) (maxSteps := 1000000) -implicitDefEqProofs only [go_sem, Nat.reduceAdd, Nat.reduceSub, Nat.reduceMul, Nat.reduceLeDiff, Nat.reduceEqDiff, Nat.reduceGT, Nat.reduceBEq, reduceCtorEq, ↓reduceIte, Int.reduceToNat, Int.reduceLE, Int.reduceLT, Int.reduceNe, Int.reduceEq]
 refine use1 (u2 _) ?_
 simp (maxDischargeDepth := 12) (maxSteps := 1000000) -implicitDefEqProofs only [go_sem, Nat.reduceAdd, Nat.reduceSub, Nat.reduceMul, Nat.reduceLeDiff, Nat.reduceEqDiff, Nat.reduceGT, Nat.reduceBEq, reduceCtorEq, ↓reduceIte, Int.reduceToNat, Int.reduceLE, Int.reduceLT, Int.reduceNe, Int.reduceEq]
 refine use1 (q1 _) ?_
 simp (maxDischargeDepth := 12) (maxSteps := 1000000) -implicitDefEqProofs only [go_sem, Nat.reduceAdd, Nat.reduceSub, Nat.reduceMul, Nat.reduceLeDiff, Nat.reduceEqDiff, Nat.reduceGT, Nat.reduceBEq, reduceCtorEq, ↓reduceIte, Int.reduceToNat, Int.reduceLE, Int.reduceLT, Int.reduceNe, Int.reduceEq]
 refine use1 (u3 _) ?_
 simp (maxDischargeDepth := 12) (maxSteps := 1000000) -implicitDefEqProofs only [go_sem, Nat.reduceAdd, Nat.reduceSub, Nat.reduceMul, Nat.reduceLeDiff, Nat.reduceEqDiff, Nat.reduceGT, Nat.reduceBEq, reduceCtorEq, ↓reduceIte, Int.reduceToNat, Int.reduceLE, Int.reduceLT, Int.reduceNe, Int.reduceEq, tx_eta]
 refine useQ (hS _) ?_
 simp (maxDischargeDepth := 12) (maxSteps := 1000000) -implicitDefEqProofs only [go_sem, Nat.reduceAdd, Nat.reduceSub, Nat.reduceMul, Nat.reduceLeDiff, Nat.reduceEqDiff, Nat.reduceGT, Nat.reduceBEq, reduceCtorEq, ↓reduceIte, Int.reduceToNat, Int.reduceLE, Int.reduceLT, Int.reduceNe, Int.reduceEq]
 refine useQ (hR _) ?_
 simp (maxDischargeDepth := 12) (maxSteps := 1000000) -implicitDefEqProofs only [go_sem, Nat.reduceAdd, Nat.reduceSub, Nat.reduceMul, Nat.reduceLeDiff, Nat.reduceEqDiff, Nat.reduceGT, Nat.reduceBEq, reduceCtorEq, ↓reduceIte, Int.reduceToNat, Int.reduceLE, Int.reduceLT, Int.reduceNe, Int.reduceEq]
 refine useQ (q1 _) ?_
 simp (maxDischargeDepth := 12) (maxSteps := 1000000) -implicitDefEqProofs only [go_sem, Nat.reduceAdd, Nat.reduceSub, Nat.reduceMul, Nat.reduceLeDiff, Nat.reduceEqDiff, Nat.reduceGT, Nat.reduceBEq, reduceCtorEq, ↓reduceIte, Int.reduceToNat, Int.reduceLE, Int.reduceLT, Int.reduceNe, Int.reduceEq]
 refine useQ (q2 _) ?_
 simp (maxDischargeDepth := 12) (maxSteps := 1000000) -implicitDefEqProofs only [go_sem, Nat.reduceAdd, Nat.reduceSub, Nat.reduceMul, Nat.reduceLeDiff, Nat.reduceEqDiff, Nat.reduceGT, Nat.reduceBEq, reduceCtorEq, ↓reduceIte, Int.reduceToNat, Int.reduceLE, Int.reduceLT, Int.reduceNe, Int.reduceEq, tx_eta]
 refine use1 (hS _) ?_
 simp (maxDischargeDepth := 12) (maxSteps := 1000000) -implicitDefEqProofs only [go_sem, Nat.reduceAdd, Nat.reduceSub, Nat.reduceMul, Nat.reduceLeDiff, Nat.reduceEqDiff, Nat.reduceGT, Nat.reduceBEq, reduceCtorEq, ↓reduceIte, Int.reduceToNat, Int.reduceLE, Int.reduceLT, Int.reduceNe, Int.reduceEq]
 refine use1 (hP (by rw [tx_size]; omega) _) ?_
 have hform : nm o.kind ≠ [] → (pF (showO o)).1 = o := fun hn => by rw [hz hn]
 have herr : nm o.kind ≠ [] → (pF (showO o)).2 = 0 := fun hn => by rw [hz hn]
 generalize pF (showO o) = P at *
 obtain ⟨y1, y2, y3, y4, y5, y6, y7, y8, y9, hys⟩ := ov_form hpo
 have hdy : P.1.ds (.sl 1 false (keepD P.1.keep)) = [dI P.1.kind, dI y1, dI y2, dI y3, dS (tx y4), dS (tx y5), dS (tx y6), dI y7, dI y8, dI y9, .sl 1 false (keepD P.1.keep)] := by unfold Ov.ds; rw [hys]; rfl
 rw [hdy]
 simp (maxDischargeDepth := 12) (maxSteps := 1000000) -implicitDefEqProofs only [go_sem, Nat.reduceAdd, Nat.reduceSub, Nat.reduceMul, Nat.reduceLeDiff, Nat.reduceEqDiff, Nat.reduceGT, Nat.reduceBEq, reduceCtorEq, ↓reduceIte, Int.reduceToNat, Int.reduceLE, Int.reduceLT, Int.reduceNe, Int.reduceEq]
 intro b2
 refine use1 (nameR w0 o.kind _) ?_
 simp (maxDischargeDepth := 12) (maxSteps := 1000000) -implicitDefEqProofs only [go_sem, Nat.reduceAdd, Nat.reduceSub, Nat.reduceMul, Nat.reduceLeDiff, Nat.reduceEqDiff, Nat.reduceGT, Nat.reduceBEq, reduceCtorEq, ↓reduceIte, Int.reduceToNat, Int.reduceLE, Int.reduceLT, Int.reduceNe, Int.reduceEq, tx_list]
 refine ⟨hzn, fun hn => ⟨fun _ => ?_, fun h => h (herr hn)⟩⟩
 have hag : DV.agg [dI P.1.kind, dI y1, dI y2, dI y3, dS (tx y4), dS (tx y5), dS (tx y6), dI y7, dI y8, dI y9, .sl 1 false (keepD P.1.keep)] = DV.agg [dI o.kind, dI x1, dI x2, dI x3, dS (tx x4), dS (tx x5), dS (tx x6), dI x7, dI x8, dI x9, .sl 1 false (keepD o.keep)] := congrArg DV.agg (hdy.symm.trans (by rw [hform hn, hds]))
 refine use1 (hso _) ?_ (by
  show WkL [DV.agg [dI P.1.kind, dI y1, dI y2, dI y3, dS (tx y4), dS (tx y5), dS (tx y6), dI y7, dI y8, dI y9, .sl 1 false (keepD P.1.keep)], DV.agg [dI o.kind, dI x1, dI x2, dI x3, dS (tx x4), dS (tx x5), dS (tx x6), dI x7, dI x8, dI x9, .sl 1 false (keepD o.keep)]] _
  rw [hag]; exact WkL.refl _)
 simp (maxDischargeDepth := 12) (maxSteps := 1000000) -implicitDefEqProofs only [go_sem, Nat.reduceAdd, Nat.reduceSub, Nat.reduceMul, Nat.reduceLeDiff, Nat.reduceEqDiff, Nat.reduceGT, Nat.reduceBEq, reduceCtorEq, ↓reduceIte, Int.reduceToNat, Int.reduceLE, Int.reduceLT, Int.reduceNe, Int.reduceEq]
theorem parsesP (w0 : W0) (hg : GlobN w0) (hp : KP w0) (hu : KU w0) (hk' : KE w0) (hm : KM w0) (s : ByteArray) (S : St) :
  ACall Tryz.prog w0 4 [dS s] S (fun d S' => d = dB true ∧ S' = S) := by
 have hP := fun hb S => parseP' w0 hg hp hu hk' hm s hb S
 have hR := fun hb S => parseR w0 hu s hb S
 rw [← pF_rF] at hR
 have hAP := fun hb S => allP w0 hg hp hu hk' hm s hb S
 have hAR := fun hb S => allR w0 hu s hb S
 have hpo := pF_ok s.data.toList
 have hao := aF_ok (m := 1048576) (s := s.data.toList)
 rw [size_list] at hpo hao
 generalize pF s.data.toList = P at *
 generalize aF s.data.toList = A at *
 refine fnS [] mx Tryz.func4 rfl rfl (by kernel_rfl) ?_; simp (maxDischargeDepth := 12) (maxSteps := 1000000) -implicitDefEqProofs only [Tryz.ntmps4, go_sem, Nat.reduceAdd, Nat.reduceSub, Nat.reduceMul, Nat.reduceLeDiff, Nat.reduceEqDiff, Nat.reduceGT, Nat.reduceBEq, reduceCtorEq, ↓reduceIte, Int.reduceToNat, Int.reduceLE, Int.reduceLT, Int.reduceNe, Int.reduceEq]
 refine use1 (awakeP w0 hg hp hu hk' hm _) ?_
 simp (maxDischargeDepth := 12) (maxSteps := 1000000) -implicitDefEqProofs only [go_sem, Nat.reduceAdd, Nat.reduceSub, Nat.reduceMul, Nat.reduceLeDiff, Nat.reduceEqDiff, Nat.reduceGT, Nat.reduceBEq, reduceCtorEq, ↓reduceIte, Int.reduceToNat, Int.reduceLE, Int.reduceLT, Int.reduceNe, Int.reduceEq]
 intro hl
 have hso := fun S => sameR w0 hpo (by omega) S
 obtain ⟨x1, x2, x3, x4, x5, x6, x7, x8, x9, hfs⟩ := ov_form hpo
 have hds : P.1.ds (.sl 1 false (keepD P.1.keep)) = [dI P.1.kind, dI x1, dI x2, dI x3, dS (tx x4), dS (tx x5), dS (tx x6), dI x7, dI x8, dI x9, .sl 1 false (keepD P.1.keep)] := by unfold Ov.ds; rw [hfs]; rfl
 unfold ovD at hso
 rw [hds] at hso hP hR
 refine use1 (hP (by omega) _) ?_
 simp (maxDischargeDepth := 12) (maxSteps := 1000000) -implicitDefEqProofs only [go_sem, Nat.reduceAdd, Nat.reduceSub, Nat.reduceMul, Nat.reduceLeDiff, Nat.reduceEqDiff, Nat.reduceGT, Nat.reduceBEq, reduceCtorEq, ↓reduceIte, Int.reduceToNat, Int.reduceLE, Int.reduceLT, Int.reduceNe, Int.reduceEq]
 intro b1
 refine use1 (hR (by omega) _) ?_
 simp (maxDischargeDepth := 12) (maxSteps := 1000000) -implicitDefEqProofs only [go_sem, Nat.reduceAdd, Nat.reduceSub, Nat.reduceMul, Nat.reduceLeDiff, Nat.reduceEqDiff, Nat.reduceGT, Nat.reduceBEq, reduceCtorEq, ↓reduceIte, Int.reduceToNat, Int.reduceLE, Int.reduceLT, Int.reduceNe, Int.reduceEq]
 intro b2
 refine use1 (hAP (by omega) _) ?_
 simp (maxDischargeDepth := 12) (maxSteps := 1000000) -implicitDefEqProofs only [go_sem, Nat.reduceAdd, Nat.reduceSub, Nat.reduceMul, Nat.reduceLeDiff, Nat.reduceEqDiff, Nat.reduceGT, Nat.reduceBEq, reduceCtorEq, ↓reduceIte, Int.reduceToNat, Int.reduceLE, Int.reduceLT, Int.reduceNe, Int.reduceEq]
 refine use1 (hAR (by omega) _) ?_
 simp (maxDischargeDepth := 12) (maxSteps := 1000000) -implicitDefEqProofs only [go_sem, Nat.reduceAdd, Nat.reduceSub, Nat.reduceMul, Nat.reduceLeDiff, Nat.reduceEqDiff, Nat.reduceGT, Nat.reduceBEq, reduceCtorEq, ↓reduceIte, Int.reduceToNat, Int.reduceLE, Int.reduceLT, Int.reduceNe, Int.reduceEq]
 refine use1 (hso _) ?_
 simp (maxDischargeDepth := 12) (maxSteps := 1000000) -implicitDefEqProofs only [go_sem, Nat.reduceAdd, Nat.reduceSub, Nat.reduceMul, Nat.reduceLeDiff, Nat.reduceEqDiff, Nat.reduceGT, Nat.reduceBEq, reduceCtorEq, ↓reduceIte, Int.reduceToNat, Int.reduceLE, Int.reduceLT, Int.reduceNe, Int.reduceEq]
 have hal := hao (by omega)
 refine use1 (sameAll w0 hal.1 (Nat.le_refl _) (by omega) _) ?_
 simp (maxDischargeDepth := 12) (maxSteps := 1000000) -implicitDefEqProofs only [go_sem, Nat.reduceAdd, Nat.reduceSub, Nat.reduceMul, Nat.reduceLeDiff, Nat.reduceEqDiff, Nat.reduceGT, Nat.reduceBEq, reduceCtorEq, ↓reduceIte, Int.reduceToNat, Int.reduceLE, Int.reduceLT, Int.reduceNe, Int.reduceEq]
end Go.Proofs.YtldimfofkbomnaaGreatDoor
namespace Go.Proofs.YtldimfofkbomnaaGreatDoor
open Aml Go Go.RowKit Go.ChangeShapes
def gW (W : World) : Gh := ⟨fun b i => W.cell? ⟨b, i, none⟩, fun _ _ => none, fun _ => none⟩
theorem rel_startG (w0 : W0) (h : w0.gh.sub (gW w0.w)) : Rel w0 (gW w0.w) ⟨[], []⟩ w0.w :=
 ⟨⟨Below.refl _ _, fun _ _ h => (by cases h), h⟩, fun _ _ _ h => h, by simp, by simp, fun _ _ _ h => (by cases h), ⟨0, fun _ _ _ => rfl⟩, fun _ _ h => (by cases h), fun _ => none, fun _ _ h => (by cases h), fun _ _ h => (by cases h)⟩
def Rd (P : Program) (W : World) (t : TypeId) {α : Type} (en : α → List DV) (sz : α → Nat) (ok : α → Prop) : Prop :=
 ∀ (H : Type) (enc : TypeId × Value → H) (n : Nat) (cs : List Value) (x : DataW H × List MemPlace), DataW.trod enc P W 0 (fun _ => true) true n t cs = some x →
  ∃ a, ok a ∧ sz a ≤ Rows.uptoBulk x.1 ∧ RepL (gW W) (en a) cs ∧ ∀ u, u ∈ cs → u.oneCell' = true
section
variable {P : Program} {W : World}
theorem Rd.conv {t : TypeId} {α β : Type} {en : α → List DV} {sz : α → Nat} {ok : α → Prop} {en' : β → List DV} {sz' : β → Nat} {ok' : β → Prop} (h : Rd P W t en sz ok) (f : α → β) (he : ∀ a, en a = en' (f a)) (hs : ∀ a, sz' (f a) ≤ sz a) (ho : ∀ a, ok a → ok' (f a)) : Rd P W t en' sz' ok' :=
 fun H enc n cs x hx => let ⟨a, h1, h2, h3, h4⟩ := h H enc n cs x hx; ⟨f a, ho a h1, Nat.le_trans (hs a) h2, by rw [← he]; exact h3, h4⟩
theorem rd_int {t : TypeId} (k : IntKind) (ht : P.underlying t = some (.int k)) : Rd P W t (fun n : Int => [.v (.int k n)]) (fun _ => 1) (fun n => (Lit.int k n).wf = true) := by
 intro H enc n cs x hx
 obtain ⟨m, rfl, rfl, hw⟩ := DataW.trod_int ht hx
 exact ⟨m, hw, by simp [Rows.uptoBulk], RepL.cons (.v _ rfl) (RepL.nil _), by simp [Value.oneCell']⟩
theorem rd_i64 {t : TypeId} (ht : P.underlying t = some (.int .i64)) : Rd P W t (fun n : Int => [dI n]) (fun _ => 1) (fun n => -9223372036854775808 ≤ n ∧ n ≤ 9223372036854775807) :=
 (rd_int .i64 ht).conv id (fun _ => rfl) (fun _ => Nat.le_refl _) fun _ h => bounds_i64 h
theorem rd_str {t : TypeId} (ht : P.underlying t = some .string) : Rd P W t (fun s : ByteArray => [dS s]) (fun s => s.size + 1) (fun _ => True) := by
 intro H enc n cs x hx
 obtain ⟨s, rfl, rfl, hs⟩ := DataW.trod_string ht hx
 exact ⟨s, trivial, (show s.size + 1 ≤ s.data.toList.length + 1 by rw [Array.length_toList]; exact Nat.le_refl _), RepL.cons (.v _ rfl) (RepL.nil _), by simp [Value.oneCell']⟩
theorem pick_list {α : Type} {Q : Nat → α → Prop} : ∀ (n : Nat), (∀ i, i < n → ∃ a, Q i a) → ∃ l : List α, l.length = n ∧ ∀ (i : Nat) (a : α), l[i]? = some a → Q i a
 | 0, _ => ⟨[], rfl, by simp⟩
 | n + 1, h => by
  obtain ⟨l, h1, h2⟩ := pick_list n fun i hi => h i (by omega)
  obtain ⟨a, ha⟩ := h n (by omega)
  refine ⟨l ++ [a], by simp [h1], fun i b hb => ?_⟩
  by_cases hi : i < n
  ·rw [List.getElem?_append_left (by omega)] at hb; exact h2 i b hb
  ·have hlt : i < (l ++ [a]).length := (List.getElem?_eq_some_iff.1 hb).1
   have : i = n := by simp at hlt; omega
   subst this
   rw [List.getElem?_append_right (by omega), h1] at hb
   simp at hb; subst hb; exact ha
theorem bulk_sum {H α : Type} {sz : α → Nat} : ∀ {l : List α} {es : List (DataW H)}, l.length = es.length → (∀ (i : Nat) (a : α) (e : DataW H), l[i]? = some a → es[i]? = some e → sz a ≤ Rows.uptoBulk e) → (l.map sz).sum ≤ Rows.uptoBulkAll es
 | [], [], _, _ => by simp [Rows.uptoBulkAll]
 | [], _ :: _, h, _ => by simp at h
 | _ :: _, [], h, _ => by simp at h
 | a :: l, e :: es, h, hs => by
  have h1 := hs 0 a e rfl rfl
  have h2 := bulk_sum (l := l) (es := es) (by simpa using h) fun i a e x y => hs (i + 1) a e (by simpa using x) (by simpa using y)
  simp only [List.map_cons, List.sum_cons, Rows.uptoBulkAll]
  omega
theorem cells_read {a : Addr} {k : Nat} {cs : List Value} (h : W.cells? 0 a k = some cs) : cs.length = k ∧ ∀ j, j < k → W.cell? (a.add j) = cs[j]? := by
 unfold World.cells? at h
 rw [if_pos (Nat.zero_le _)] at h
 exact ⟨by simpa using mapM_some_length h, fun j hj => mapM_some_get h j j (by simp [hj])⟩
theorem rd_sliceG {t e : TypeId} {α : Type} {en : α → List DV} {sz : α → Nat} {ok : α → Prop} (h : Rd P W e en sz ok) (ht : P.underlying t = some (.slice e)) {k : Nat} (hk : P.cellsOf e = k) (hk0 : 0 < k) (enE : α → DV) (mk : List Value → Value)
  (hmk : ∀ a cs, RepL (gW W) (en a) cs → (∀ u, u ∈ cs → u.oneCell' = true) → cs.length = k → Rep (gW W) (enE a) (mk cs) ∧ (mk cs).cells.toList = cs) :
  Rd P W t (fun l : List α => [.sl k false (l.map enE)]) (fun l => (l.map sz).sum + 1) (fun l => ∀ a, a ∈ l → ok a) := by
 intro H enc n cs x hx
 rcases DataW.trod_slice ht hx with ⟨rfl, rfl⟩ | ⟨a, len, cap, elems, rest, n', rfl, rfl, rfl, -, hlc, hcm, hel, hget, -, -⟩
 ·exact ⟨[], by simp, by simp [Rows.uptoBulk], RepL.cons (.nil _ _ _ _ (by simp)) (RepL.nil _), by simp [Value.oneCell']⟩
 ·have hq : ∀ i, i < len → ∃ p : α × List Value, ok p.1 ∧ (∀ y, elems[i]? = some y → sz p.1 ≤ Rows.uptoBulk y.1) ∧ W.cells? 0 (a.add (i * k)) k = some p.2 ∧ RepL (gW W) (en p.1) p.2 ∧ ∀ u, u ∈ p.2 → u.oneCell' = true := by
   intro i hi
   have h1 := hget i hi
   rw [hk] at h1
   have h2 : elems[i]? = some elems[i] := List.getElem?_eq_getElem (by omega)
   rw [h2, Option.bind_eq_some_iff] at h1
   obtain ⟨ci, hc, htr⟩ := h1
   obtain ⟨b, b1, b2, b3, b4⟩ := h H enc n' ci _ htr
   exact ⟨(b, ci), b1, fun y hy => by rw [h2] at hy; cases hy; exact b2, hc, b3, b4⟩
  obtain ⟨ps, hpl, hps⟩ := pick_list len hq
  refine ⟨ps.map (·.1), fun b hb => ?_, ?_, ?_, by simp [Value.oneCell']⟩
  ·obtain ⟨p, hp, rfl⟩ := List.mem_map.1 hb
   obtain ⟨i, hi⟩ := List.getElem?_of_mem hp
   exact (hps i p hi).1
  ·have := bulk_sum (sz := sz) (l := ps.map (·.1)) (es := elems.map (·.1)) (by simp [hpl, hel]) fun i b e x y => by
    rw [List.getElem?_map, Option.map_eq_some_iff] at x y
    obtain ⟨p, hp, rfl⟩ := x
    obtain ⟨y, hy, rfl⟩ := y
    exact (hps i p hp).2.1 y hy
   simp only [Rows.uptoBulk]
   omega
  ·refine RepL.cons ?_ (RepL.nil _)
   by_cases h0 : len = 0
   ·subst h0
    have : ps = [] := List.eq_nil_of_length_eq_zero hpl
    subst this
    exact .nil _ _ _ _ (by simp)
   ·have hspot : a.spot = none := by
     obtain ⟨p, hp⟩ : ∃ p, ps[0]? = some p := ⟨_, List.getElem?_eq_getElem (by omega)⟩
     obtain ⟨hl, hc⟩ := cells_read (hps 0 p hp).2.2.1
     have := hc 0 (by omega)
     rw [List.getElem?_eq_getElem (by omega)] at this
     simp only [Nat.zero_mul, Addr.add, if_true] at this
     unfold World.cell? at this
     split at this
     ·split at this
      ·cases this
      ·rename_i hs; simpa using hs
     ·cases this
    obtain ⟨b, o, sp⟩ := a
    simp only at hspot
    subst hspot
    have hus : (ps.map fun p => mk p.2).length = len := by simp [hpl]
    have hmk' : ∀ (i : Nat) (p : α × List Value), ps[i]? = some p → Rep (gW W) (enE p.1) (mk p.2) ∧ (mk p.2).cells.toList = p.2 ∧ p.2.length = k := fun i p hp => by
     have hc := (cells_read (hps i p hp).2.2.1).1
     have := hmk p.1 p.2 (hps i p hp).2.2.2.1 (hps i p hp).2.2.2.2 hc
     exact ⟨this.1, this.2, hc⟩
    have := Rep.sl (g := gW W) k false ((ps.map (·.1)).map enE) b o cap (ps.map fun p => mk p.2) (by simp) (by simp) (by rw [hus]; exact hlc) hcm
     (fun i d u hd hu => by
      simp only [List.map_map, List.getElem?_map, Option.map_eq_some_iff] at hd hu
      obtain ⟨p, hp, rfl⟩ := hd
      obtain ⟨q, hq, rfl⟩ := hu
      rw [hp] at hq; cases hq
      exact (hmk' i p hp).1)
     (fun i u hu => by
      rw [List.getElem?_map, Option.map_eq_some_iff] at hu
      obtain ⟨p, hp, rfl⟩ := hu
      have := hmk' i p hp
      rw [← Array.length_toList, this.2.1, this.2.2])
     (fun u hu x hx => by
      obtain ⟨p, hp, rfl⟩ := List.mem_map.1 hu
      obtain ⟨i, hi⟩ := List.getElem?_of_mem hp
      rw [(hmk' i p hi).2.1] at hx
      exact (hps i p hi).2.2.2.2 x hx)
     (fun i u j x hu hx => by
      rw [List.getElem?_map, Option.map_eq_some_iff] at hu
      obtain ⟨p, hp, rfl⟩ := hu
      have hm := hmk' i p hp
      have hc := (cells_read (hps i p hp).2.2.1).2
      rw [← Array.getElem?_toList, hm.2.1] at hx
      have hj : j < k := by rw [← hm.2.2]; exact (List.getElem?_eq_some_iff.1 hx).1
      have := hc j hj
      rw [hx] at this
      show W.cell? ⟨b, o + i * k + j, none⟩ = some x
      have e : (Addr.add ⟨b, o, none⟩ (i * k)).add j = ⟨b, o + i * k + j, none⟩ := by
       unfold Addr.add
       split <;> split <;> simp_all
      rw [← e]; exact this)
    rw [hus] at this
    exact this
theorem rd_slice1 {t e : TypeId} {α : Type} {en : α → DV} {sz : α → Nat} {ok : α → Prop} (h : Rd P W e (fun a => [en a]) sz ok) (ht : P.underlying t = some (.slice e)) (hk : P.cellsOf e = 1) :
  Rd P W t (fun l : List α => [.sl 1 false (l.map en)]) (fun l => (l.map sz).sum + 1) (fun l => ∀ a, a ∈ l → ok a) :=
 rd_sliceG h ht hk (by omega) en (fun cs => cs.headD undef) fun a cs hr h1 hl => by
  obtain ⟨u, us, rfl, r1, r2⟩ := hr.uncons
  have : us = [] := List.eq_nil_of_length_eq_zero (by simpa using hl)
  subst this
  have hu := h1 u List.mem_cons_self
  refine ⟨r1, ?_⟩
  cases u <;> simp_all [Value.cells, Value.oneCell']
theorem rd_sliceA {t e : TypeId} {α : Type} {en : α → List DV} {sz : α → Nat} {ok : α → Prop} (h : Rd P W e en sz ok) (ht : P.underlying t = some (.slice e)) {k : Nat} (hk : P.cellsOf e = k) (hk0 : 0 < k) :
  Rd P W t (fun l : List α => [.sl k false (l.map fun a => .agg (en a))]) (fun l => (l.map sz).sum + 1) (fun l => ∀ a, a ∈ l → ok a) :=
 rd_sliceG h ht hk hk0 (fun a => .agg (en a)) (fun cs => .agg cs.toArray) fun a cs hr h1 hl => ⟨.agg _ _ hr.len hr.at_ h1, rfl⟩
def RdF (P : Program) (W : World) (total off : Nat) (fs : List Field) {α : Type} (en : α → List DV) (sz : α → Nat) (ok : α → Prop) : Prop :=
 ∀ (H : Type) (enc : TypeId × Value → H) (n : Nat) (cs : List Value) (xs : List (DataW H × List MemPlace)), cs.length = total → xs.length = fs.length →
  (∀ (i : Nat) (f : Field), fs[i]? = some f → DataW.trod enc P W 0 (fun _ => true) true n f.type ((cs.drop f.offset).take (P.cellsOf f.type)) = xs[i]?) →
  ∃ a, ok a ∧ sz a ≤ Rows.uptoBulkAll (xs.map (·.1)) ∧ RepL (gW W) (en a) (cs.drop off) ∧ ∀ u, u ∈ cs.drop off → u.oneCell' = true
theorem rdF_nil {total : Nat} : RdF P W total total [] (fun _ : Unit => []) (fun _ => 0) (fun _ => True) := by
 intro H enc n cs xs hc hx hg
 refine ⟨(), trivial, Nat.zero_le _, ?_, ?_⟩
 ·rw [List.drop_eq_nil_of_le (by omega)]; exact RepL.nil _
 ·rw [List.drop_eq_nil_of_le (by omega)]; simp
theorem rdF_cons {total off k : Nat} {f : Field} {fs : List Field} {α β : Type} {en : α → List DV} {sz : α → Nat} {ok : α → Prop} {en' : β → List DV} {sz' : β → Nat} {ok' : β → Prop} (h : Rd P W f.type en sz ok) (hf : f.offset = off) (hk : P.cellsOf f.type = k) (h' : RdF P W total (off + k) fs en' sz' ok') :
  RdF P W total off (f :: fs) (fun p : α × β => en p.1 ++ en' p.2) (fun p => sz p.1 + sz' p.2) (fun p => ok p.1 ∧ ok' p.2) := by
 intro H enc n cs xs hc hx hg
 cases xs with
 | nil => simp at hx
 | cons x xs =>
  have h0 := hg 0 f rfl
  rw [hf, hk] at h0
  obtain ⟨a, a1, a2, a3, a4⟩ := h H enc n _ x h0
  obtain ⟨b, b1, b2, b3, b4⟩ := h' H enc n cs xs hc (by simpa using hx) fun i f hf => by have := hg (i + 1) f (by simpa using hf); simpa using this
  have e : cs.drop off = (cs.drop off).take k ++ cs.drop (off + k) := by rw [← List.drop_drop, List.take_append_drop]
  refine ⟨(a, b), ⟨a1, b1⟩, ?_, ?_, ?_⟩
  ·simp only [List.map_cons, Rows.uptoBulkAll]; omega
  ·rw [e]; exact a3.append b3
  ·intro u hu
   rw [e, List.mem_append] at hu
   exact hu.elim (a4 u) (b4 u)
theorem rd_struct {t : TypeId} {fs : Array Field} {α : Type} {en : α → List DV} {sz : α → Nat} {ok : α → Prop} (ht : P.underlying t = some (.struct fs)) {total : Nat} (hc : P.cellsOf t = total) {fl : List Field} (hfl : fs.toList = fl) (h : RdF P W total 0 fl en sz ok) :
  Rd P W t en (fun a => sz a + 1) ok := by
 intro H enc n cs x hx
 subst hfl
 obtain ⟨xs, n', rfl, rfl, h1, h2, h3⟩ := DataW.trod_struct ht hx
 obtain ⟨a, a1, a2, a3, a4⟩ := h H enc n' cs xs (by rw [h1, hc]) (by simpa using h2) fun i f hf => h3 i f (by simpa using hf)
 exact ⟨a, a1, by simp only [Rows.uptoBulk]; omega, by simpa using a3, by simpa using a4⟩
def RdA (P : Program) (W : World) (ts : List TypeId) {α : Type} (en : α → List DV) (sz : α → Nat) (ok : α → Prop) : Prop :=
 ∀ (H : Type) (enc : TypeId × Value → H) (base : Nat) (vs : List Value) (ds : List (DataW H)) (p : List MemPlace), (∀ (j : Nat) t v, ts[j]? = some t → vs[j]? = some v → Value.okWide P W .any base t v) → DataW.TrodAll enc P W 0 (fun _ => true) true ts vs ds p →
  ∃ a, ok a ∧ sz a ≤ Rows.uptoBulkAll ds ∧ RepL (gW W) (en a) vs
theorem rdA_nil : RdA P W [] (fun _ : Unit => []) (fun _ => 0) (fun _ => True) := by
 intro H enc base vs ds p hv h
 obtain ⟨rfl, rfl, rfl⟩ := trodAll_nil h
 exact ⟨(), trivial, Nat.zero_le _, RepL.nil _⟩
def oneT (P : Program) (t : TypeId) : Bool := match P.underlying t with
 | some .bool | some .string | some (.int _) | some (.slice _) => true
 | _ => false
theorem okWide_one {t : TypeId} (ht : oneT P t = true) {base : Nat} {v : Value} (h : Value.okWide P W .any base t v) : v.cells = #[v] ∧ v.oneCell' = true := by
 unfold oneT at ht
 unfold Value.okWide Cell.okWide Cell.ok at h
 split at ht
 ·rename_i hu; rw [hu] at h; cases v <;> simp_all [Value.cells, Value.oneCell']
 ·rename_i hu; rw [hu] at h; cases v <;> simp_all [Value.cells, Value.oneCell']
 ·rename_i hu; rw [hu] at h; cases v <;> simp_all [Value.cells, Value.oneCell']
 ·rename_i hu; rw [hu] at h; cases v <;> simp_all [Value.cells, Value.oneCell']
 ·cases ht
theorem rdA_one {t : TypeId} {ts : List TypeId} {α β : Type} {en : α → DV} {sz : α → Nat} {ok : α → Prop} {en' : β → List DV} {sz' : β → Nat} {ok' : β → Prop} (h : Rd P W t (fun a => [en a]) sz ok) (ht : oneT P t = true) (h' : RdA P W ts en' sz' ok') :
  RdA P W (t :: ts) (fun p : α × β => en p.1 :: en' p.2) (fun p => sz p.1 + sz' p.2) (fun p => ok p.1 ∧ ok' p.2) := by
 intro H enc base vs ds p hv hA
 obtain ⟨v, vs', d, ds', p1, q1, rfl, rfl, rfl, h1, h2⟩ := trodAll_cons hA
 obtain ⟨b, b1, b2, b3⟩ := h' H enc base vs' ds' q1 (fun j t v x y => hv (j + 1) t v (by simpa using x) (by simpa using y)) h2
 obtain ⟨n, hn⟩ := h1
 obtain ⟨a, a1, a2, a3, a4⟩ := h H enc n _ _ hn
 obtain ⟨hc, ho⟩ := okWide_one ht (hv 0 t v rfl rfl)
 rw [hc] at a3
 refine ⟨(a, b), ⟨a1, b1⟩, by simp only [Rows.uptoBulkAll]; simp only at a2; omega, RepL.cons ?_ b3⟩
 obtain ⟨u, us, he, r1, r2⟩ := a3.uncons
 simp only [List.cons.injEq] at he
 rw [he.1]; exact r1
theorem rdA_agg {t : TypeId} {ts : List TypeId} {fs : Array Field} {α β : Type} {en : α → List DV} {sz : α → Nat} {ok : α → Prop} {en' : β → List DV} {sz' : β → Nat} {ok' : β → Prop} (h : Rd P W t en sz ok) (ht : P.underlying t = some (.struct fs)) (h' : RdA P W ts en' sz' ok') :
  RdA P W (t :: ts) (fun p : α × β => .agg (en p.1) :: en' p.2) (fun p => sz p.1 + sz' p.2) (fun p => ok p.1 ∧ ok' p.2) := by
 intro H enc base vs ds p hv hA
 obtain ⟨v, vs', d, ds', p1, q1, rfl, rfl, rfl, h1, h2⟩ := trodAll_cons hA
 obtain ⟨b, b1, b2, b3⟩ := h' H enc base vs' ds' q1 (fun j t v x y => hv (j + 1) t v (by simpa using x) (by simpa using y)) h2
 obtain ⟨n, hn⟩ := h1
 obtain ⟨a, a1, a2, a3, a4⟩ := h H enc n _ _ hn
 have ho := hv 0 t v rfl rfl
 unfold Value.okWide at ho
 rw [ht] at ho
 obtain ⟨cs, rfl, _, _⟩ := ho
 refine ⟨(a, b), ⟨a1, b1⟩, by simp only [Rows.uptoBulkAll]; simp only at a2; omega, RepL.cons ?_ b3⟩
 have : (Value.agg cs) = .agg cs.toList.toArray := by simp
 rw [this]
 exact .agg _ _ (by simpa [Value.cells] using a3.len) (by simpa [Value.cells] using a3.at_) (by simpa [Value.cells] using a4)
theorem trodAll_stays {H : Type} {enc : TypeId × Value → H} (hl : laidOutB P = true) {W' : World} (hb : Below W.heap.size W W') {sp : Nat → Bool} : ∀ {ts : List TypeId} {vs : List Value} {ds : List (DataW H)} {ps : List MemPlace}, (∀ t, t ∈ ts → P.readableRec t = true ∧ t < P.types.size) →
  DataW.TrodAll enc P W 0 (fun _ => true) true ts vs ds ps → (∀ p, p ∈ ps → p.block < W.heap.size ∧ sp p.block = true) → DataW.TrodAll enc P W' 0 sp true ts vs ds ps
 | [], vs, ds, ps, _, h, _ => by
  obtain ⟨rfl, rfl, rfl⟩ := trodAll_nil h
  exact rfl
 | t :: ts, vs, ds, ps, ht, h, hp => by
  obtain ⟨v, vs', d, ds', p1, q1, rfl, rfl, rfl, h1, h2⟩ := trodAll_cons h
  exact ⟨p1, q1, WideElems.Trod_stays hl (ht t List.mem_cons_self).1 (ht t List.mem_cons_self).2 h1 (fun x hx => hb.same (hp x (List.mem_append_left _ hx)).1) (fun x hx => (hp x (List.mem_append_left _ hx)).2),
   trodAll_stays hl hb (fun t' ht' => ht t' (List.mem_cons_of_mem _ ht')) h2 fun x hx => hp x (List.mem_append_right _ hx), rfl⟩
theorem law_contractG {w0 : W0} (hw0 : w0.w = W) (hg0 : w0.gh.sub (gW W)) {H : Type} (enc : TypeId × Value → H) {f : FuncId} {fn : Func} {s : ChangeSpec} {ts : List TypeId} {α : Type} {en : α → List DV} {sz : α → Nat} {ok : α → Prop} {tb : TypeId} (hr : RdA P W ts en sz ok) (hts : fn.params = ts.toArray) (hres : fn.resultTypes = #[tb]) (htb : P.underlying tb = some .bool) (hvars : s.vars = [])
  (hl : laidOutB P = true) (hT : ∀ t, t ∈ ts → P.readableRec t = true ∧ t < P.types.size) (hspec : ∀ ds : List (DataW H), ds.length = ts.length → s.fn H ds = { results := [.lit (.bool true)], args := ds })
  (hcall : ∀ a, ok a → sz a ≤ 1048576 → ACall P w0 f (en a) ⟨[], []⟩ fun d _ => d = dB true)
  (base : Nat) (args : Array Value) (ds gs : List (DataW H)) (before : List MemPlace) (hval : ∀ (j : Nat) t v, fn.params[j]? = some t → args[j]? = some v → Value.okWide P W .any base t v)
  (hW : DataW.Whole enc P fn.params.toList s.vars false W args.toList ds gs before) (hk : Rows.uptoBulkAll (ds ++ gs) ≤ 1048576) :
  Calls P f args W fun e W' => ∃ v, e = .returned v ∧ s.post enc P fn false true false false W args v W' := by
 have hW' := hW
 obtain ⟨p, q, hA, hV, rfl, hfz, hnd⟩ := hW
 rw [hvars] at hV
 have hgs : gs = [] ∧ q = [] := by
  cases gs with
  | nil => exact ⟨rfl, hV⟩
  | cons g gs => exact hV.elim
 obtain ⟨rfl, rfl⟩ := hgs
 rw [hts] at hA
 simp only [List.append_nil] at hk
 obtain ⟨a, a1, a2, a3⟩ := hr H enc base args.toList ds p (fun j t v x y => hval j t v (by rw [hts]; simpa using x) (by simpa using y)) (by simpa using hA)
 have hc := hcall a a1 (Nat.le_trans a2 hk) (gW W) args W (by have := rel_startG w0 (by rw [hw0]; exact hg0); rw [hw0] at this; exact this) a3
 refine hc.mono ?_
 rintro e W' ⟨r, g', d, S', rfl, hle, hR, hd, rfl⟩
 have hb := hR.below.base
 unfold W0.heap at hb
 rw [hw0] at hb
 have hrv : r = .bool true := rep_bool hd
 subst hrv
 have hlen : ds.length = ts.length := by
  have : ∀ {ts : List TypeId} {vs : List Value} {ds : List (DataW H)} {ps : List MemPlace}, DataW.TrodAll enc P W 0 (fun _ => true) true ts vs ds ps → ds.length = ts.length := by
   intro ts
   induction ts with
   | nil => intro vs ds ps h; obtain ⟨rfl, rfl, rfl⟩ := trodAll_nil h; rfl
   | cons t ts ih =>
    intro vs ds ps h
    obtain ⟨v, vs', d, ds', p1, q1, rfl, rfl, rfl, h1, h2⟩ := trodAll_cons h
    simp [ih h2]
  exact this (by simpa using hA)
 have hsp := hspec ds hlen
 have hold : ∀ x, x ∈ p → x.block < W.heap.size := fun x hx => hW'.lt x (by simpa using hx)
 have hres' : ∀ (b : Nat) (sp : Nat → Bool) (hd : Bool), DataW.TrodAll enc P W' b sp hd fn.resultTypes.toList ((Value.bool true).resultList fn.resultTypes.size) (s.fn H (ds ++ [])).results [] := by
  intro b sp hd
  rw [List.append_nil, hsp, hres]
  exact trodAll_cons_mk (shut_bool htb _) trodAll_mk0
 have hargs' : ∀ sp : Nat → Bool, (∀ x, x ∈ p → sp x.block = true) → DataW.TrodAll enc P W' 0 sp true fn.params.toList args.toList (s.fn H (ds ++ [])).args p := by
  intro sp hs
  rw [List.append_nil, hsp, hts]
  exact trodAll_stays hl hb hT (by simpa using hA) fun x hx => ⟨hold x hx, hs x hx⟩
 have hvars' : ∀ sp : Nat → Bool, DataW.TrodVars enc P W' sp s.vars (s.fn H (ds ++ [])).vars [] := by
  intro sp
  rw [List.append_nil, hsp, hvars]
  exact rfl
 refine ⟨.bool true, rfl, ds, [], p ++ [], [], p, [], hW', hres' _ _ _, hargs' _ (fun x hx => by simpa using hold x hx), hvars' _, World.keptBut_mono (fun x hx => ⟨hx, .inr (by simpa using hx)⟩) (hb.frame _), fun _ => ?_⟩
 refine ⟨?_, _, _, ([] ++ p) ++ [], ⟨[] ++ p, [], trodAll_append (hargs' _ (fun _ _ => rfl)) (hres' _ _ _), hvars' _, rfl, ?_, ?_⟩, ?_⟩
 ·exact ok_one hres rfl (okWide_bool_mk htb _)
 ·intro b off hp
  have hp : MemPlace.cell b off ∈ p := by simpa using hp
  rw [hb.frozen (hold _ hp)]
  exact hfz b off (by simpa using hp)
 ·intro ha; cases ha
 ·intro x hx _
  simpa using hx
end
end Go.Proofs.YtldimfofkbomnaaGreatDoor
namespace Go.Proofs.YtldimfofkbomnaaGreatDoor
open Aml Go Go.RowKit Go.ChangeShapes
theorem star_err : "*" ++ "errors.errorString" = "*errors.errorString" := by decide
theorem rowErr (u : TypeId) (h : Tryz.prog.typeName? 3 u = some "*errors.errorString") : u = 142 :=
 typeName_ptr_named (nm := "errors.errorString") (by rw [star_err]; kernel_rfl) (by kernel_rfl) (by decide) u (by rw [star_err]; exact h)
def laidS : List (String × DataW Unit) := [("math/bits.deBruijn32tab", Rows.laid_math_bits_deBruijn32tab), ("math/bits.deBruijn64tab", Rows.laid_math_bits_deBruijn64tab), ("internal/strconv.uint64pow10", Rows.laid_internal_strconv_uint64pow10), ("unicode/utf8.acceptRanges", Rows.laid_unicode_utf8_acceptRanges), ("strconv.ErrRange", Rows.laid_strconv_ErrRange), ("strconv.ErrSyntax", Rows.laid_strconv_ErrSyntax), ("jalousie/op.names", Rows.laid_jalousie_op_names), ("unicode/utf8.first", Rows.laid_unicode_utf8_first)]
theorem first_eq : Rows.laid_unicode_utf8_first = Lib.firstData := by kernel_rfl
theorem accept_eq : (Rows.laid_unicode_utf8_acceptRanges : DataW Unit) = Lib.acceptData := by kernel_rfl
theorem pow_eq : (Rows.laid_internal_strconv_uint64pow10 : DataW Unit) = Lib.tabData .u64 Lib.pow10Tab := by kernel_rfl
theorem cells_of_strs {H : Type} {enc : TypeId × Value → H} {P : Program} {w : World} {base : Nat} {sp : Nat → Bool} {held : Bool} {fuel : Nat} {t e : TypeId} {n : Nat} {cs : List Value} {zs : List (List UInt8)} {p : List MemPlace}
  (ht : P.underlying t = some (.array n e)) (he : P.underlying e = some .string) (hce : P.cellsOf e = 1) (hct : P.cellsOf t = n)
  (h : DataW.trod enc P w base sp held fuel t cs = some (.agg (zs.map fun z => .lit (.string z)), p)) : cs = zs.map fun z => Value.string (tx z) := by
 cases fuel with
 | zero => simp [DataW.trod] at h
 | succ fuel =>
  simp only [DataW.trod, ht, hce, hct, Nat.mul_one] at h
  split at h
  ·rename_i hl
   obtain ⟨xs, hm, hx⟩ := Option.map_eq_some_iff.1 h
   have hxs : xs.map (·.1) = zs.map fun z => (DataW.lit (.string z) : DataW H) := by
    have := congrArg Prod.fst hx
    simpa using this
   have hxl : xs.length = n := by simpa using Lib.mapM_length hm
   have hzl : zs.length = n := by
    have := congrArg List.length hxs
    simp at this
    omega
   apply List.ext_getElem?
   intro i
   by_cases hi : i < n
   ·obtain ⟨b, hb, hf⟩ := Lib.mapM_at hm i i (by simp [hi])
    obtain ⟨z, hc, rfl, _⟩ := DataW.trod_string he hf
    have h1 : cs[i]? = some (.string z) := by
     have := congrArg (·[0]?) hc
     simpa [List.getElem?_take, List.getElem?_drop] using this
    have h2 : (xs.map (·.1))[i]? = some (DataW.lit (.string z.data.toList) : DataW H) := by simp [hb]
    rw [hxs] at h2
    simp only [List.getElem?_map, Option.map_eq_some_iff, DataW.lit.injEq, Lit.string.injEq] at h2
    obtain ⟨z', hz', e2⟩ := h2
    rw [h1, List.getElem?_map, hz', Option.map_some, e2, tx_eta]
   ·rw [List.getElem?_eq_none (by omega), List.getElem?_eq_none (by simp; omega)]
  ·cases h
theorem names_eq : (Rows.laid_jalousie_op_names : DataW Unit) = .agg (nms.map fun z => .lit (.string z)) := by kernel_rfl
theorem gNames : Tryz.prog.globalNamed "jalousie/op.names" = some 0 := by kernel_rfl
theorem gNamesT : (Tryz.prog.globals[0]?).map (·.type) = some 102 := by kernel_rfl
theorem glob_names {W : World} (h : laidMetH Tryz.prog laidS W) : GlobN ⟨W, gW W⟩ := by
 have hL : laidMet Tryz.prog laidS W := h
 obtain ⟨g, t, cs, fuel, p, hg, hty, hvar, hd⟩ := Lib.laidMet.reads hL (n := "jalousie/op.names") (d := Rows.laid_jalousie_op_names) (by simp [laidS])
 obtain rfl := Option.some.inj (gNames.symm.trans hg)
 obtain rfl := Option.some.inj (gNamesT.symm.trans hty)
 rw [names_eq] at hd
 have hcs := cells_of_strs Tryz.underlying102 Tryz.underlying9 (by kernel_rfl) (by kernel_rfl) hd
 refine ⟨fun j => ?_, fun u hu => ?_⟩
 ·show W.cell? ⟨0, j, none⟩ = nmV[j]?
  rw [World.var?_cell gNames hvar j, ← Array.getElem?_toList, hcs]
  rfl
 ·obtain ⟨z, _, rfl⟩ := List.mem_map.1 hu
  rfl
theorem kp_of {W : World} (h : laidMetH Tryz.prog laidS W) : KP ⟨W, gW W⟩ := by
 have hL : laidMet Tryz.prog laidS W := h
 have hT : Lib.TabIs Tryz.prog W "internal/strconv.uint64pow10" .u64 Lib.pow10Tab :=
  Lib.tabIs_of_head (rest := laidS.drop 3) (g := 6) (t := 138) (by kernel_rfl) (by kernel_rfl) Tryz.underlying138 Tryz.underlying52 (by kernel_rfl) (by kernel_rfl) (pow_eq ▸ hL.tail.tail)
 intro w hw
 exact Joins.var_stays (g := 6) (by kernel_rfl) hT hw (Nat.le_refl _)
theorem ku_of {W : World} (h : laidMetH Tryz.prog laidS W) : KU ⟨W, gW W⟩ := by
 have hL : laidMet Tryz.prog laidS W := h
 have hU : Lib.Utf8Tabs 1 2 W :=
  utf8Tabs_of_reads (ρ := Tryz.lays197_ren) { Tryz.lays197 with } ⟨by kernel_rfl, by kernel_rfl, by kernel_rfl, by kernel_rfl, by kernel_rfl, by kernel_rfl, by kernel_rfl⟩
   (first_eq ▸ Lib.laidMet.reads hL (by simp [laidS])) (accept_eq ▸ Lib.laidMet.reads hL (by simp [laidS]))
 intro w hw
 exact Utf8Tabs_below hU hw
theorem ke_of {W : World} (h : laidMetH Tryz.prog laidS W) : KE ⟨W, gW W⟩ := by
 have hL : laidMet Tryz.prog laidS W := h
 obtain ⟨a0, t0, hv0, _, _, _⟩ := laid_sentinel (g := 4) hL.tail.tail.tail.tail (by kernel_rfl) (by kernel_rfl) Tryz.underlying54 rowErr Tryz.underlying142 Tryz.underlying144 rfl rfl Tryz.underlying9 (by kernel_rfl) (by kernel_rfl)
 obtain ⟨a1, t1, hv1, _, _, _⟩ := laid_sentinel (g := 3) hL.tail.tail.tail.tail.tail (by kernel_rfl) (by kernel_rfl) Tryz.underlying54 rowErr Tryz.underlying142 Tryz.underlying144 rfl rfl Tryz.underlying9 (by kernel_rfl) (by kernel_rfl)
 intro w hw
 have h0 := Joins.var_stays (g := 4) (by kernel_rfl) hv0 hw (Nat.le_refl _)
 have h1 := Joins.var_stays (g := 3) (by kernel_rfl) hv1 hw (Nat.le_refl _)
 have c0 := World.var?_cell (g := 4) (by kernel_rfl) h0 0
 have c1 := World.var?_cell (g := 3) (by kernel_rfl) h1 0
 exact ⟨⟨_, _, by simpa using c1⟩, ⟨_, _, by simpa using c0⟩⟩
theorem km_of {W : World} (hsh : W.ShapedOpen Tryz.prog) : KM ⟨W, gW W⟩ := by
 obtain ⟨m, hm⟩ := cell_of_shapedOpen_int (g := 5) (k := .i64) (t := 3) (zero := #[.int .i64 0]) hsh (by decide +kernel) (by kernel_rfl) rfl (by kernel_rfl) (by kernel_rfl) Tryz.underlying3
 intro w hw
 exact ⟨m, (hw.cell (World.block_lt_of_cell? W _ hm)).trans hm⟩
noncomputable def laidWorld (os : Os) : World :=
 let N := (World.settled Tryz.prog os).heap.size
 let w0 := World.holding Tryz.prog os ⟨#[.cells #[.string ⟨#[105, 110, 118, 97, 108, 105, 100, 32, 115, 121, 110, 116, 97, 120]⟩] 144, .cells #[.string ⟨#[118, 97, 108, 117, 101, 32, 111, 117, 116, 32, 111, 102, 32, 114, 97, 110, 103, 101]⟩] 144], #[], []⟩
 let put (h : Array Obj) (g : Nat) (cs : Array Value) : Array Obj := h.modify g fun
  | .cells _ t frozen => .cells cs t frozen
  | o => o
 let h0 := put (put w0.heap 3 #[.iface 142 (.pointer (some ⟨N, 0, none⟩))]) 4 #[.iface 142 (.pointer (some ⟨N + 1, 0, none⟩))]
 let h1 := put h0 1 (Lib.firstTab.map fun z => Value.int .u8 z).toArray
 let h2 := put h1 2 ((List.range 16).flatMap fun i => [Value.int .u8 (Lib.accLo i), Value.int .u8 (Lib.accHi i)]).toArray
 let h3 := put h2 0 nmV.toArray
 let h4 := put h3 6 (Lib.pow10Tab.map fun z => Value.int .u64 z).toArray
 let h5 := put h4 7 (([0, 1, 28, 2, 29, 14, 24, 3, 30, 22, 20, 15, 25, 17, 4, 8, 31, 27, 13, 23, 21, 19, 16, 7, 26, 12, 18, 6, 11, 5, 10, 9] : List Int).map fun z => Value.int .u8 z).toArray
 let h6 := put h5 8 (([0, 1, 56, 2, 57, 49, 28, 3, 61, 58, 42, 50, 38, 29, 17, 4, 62, 47, 59, 36, 45, 43, 51, 22, 53, 39, 33, 30, 24, 18, 12, 5, 63, 55, 48, 27, 60, 41, 37, 16, 46, 35, 44, 21, 52, 32, 23, 11, 54, 26, 40, 15, 34, 20, 31, 10, 25, 14, 19, 9, 13, 8, 7, 6] : List Int).map fun z => Value.int .u8 z).toArray
 { w0 with heap := h6 }
end Go.Proofs.YtldimfofkbomnaaGreatDoor
namespace Go.Proofs.YtldimfofkbomnaaGreatDoor
open Aml Go Go.RowKit Go.ChangeShapes Go.WideShapes Go.ChangeAt
theorem scriptParses_own : ownKnob Tryz.prog.godebug = none := by kernel_rfl
theorem scriptParses_contract (H : Type) (enc : TypeId × Value → H) (W : World) (base : Nat) (args : Array Value) (ds gs : List (DataW H)) (before : List MemPlace)
  (hval : ∀ (j : Nat) t v, Tryz.f4.params[j]? = some t → args[j]? = some v → Value.okWide Tryz.prog W .any base t v)
  (hW : DataW.Whole enc Tryz.prog Tryz.f4.params.toList Rows.scriptParsesSpec.vars false W args.toList ds gs before) (hk : Rows.uptoBulkAll (ds ++ gs) ≤ 1048576) (hL : laidMetH Tryz.prog Rows.scriptParsesUptoRow.laid W) (hsh : W.ShapedOpen Tryz.prog) :
  Calls Tryz.prog 4 args W fun e W' => ∃ v, e = .returned v ∧ Rows.scriptParsesSpec.post enc Tryz.prog Tryz.f4 false true false false W args v W' :=
 law_contractG (w0 := ⟨W, gW W⟩) rfl (.refl _) enc (ts := [9]) (tb := 4) (rdA_one (rd_str Tryz.underlying9) (by kernel_rfl) rdA_nil) Tryz.params4 rfl Tryz.underlying4 rfl (by kernel_rfl) (by intro t ht; revert t; decide +kernel) (fun ds hd => by
  first
  | (match ds, hd with | [_], _ => rfl)
  | (match ds, hd with | [_, _], _ => rfl)
  | (match ds, hd with | [_, _, _], _ => rfl)
  | (match ds, hd with | [_, _, _, _], _ => rfl)) (fun a ha hs => (parsesP ⟨W, gW W⟩ (glob_names hL) (kp_of hL) (ku_of hL) (ke_of hL) (km_of hsh) a.1 ⟨[], []⟩).mono fun d S' h => h.1) base args ds gs before hval hW hk
theorem scriptParses_met (os : Os) : laidMet Tryz.prog Rows.scriptParsesUptoRow.laid ((laidWorld os).forCall (fun _ _ => 0) ⟨#[], #[.string ByteArray.empty], []⟩).memory :=
 laidMet_of_run' 8 (by kernel_rfl) (by kernel_rfl)
theorem scriptParses_reads (os : Os) {H : Type} (enc : TypeId × Value → H) : ∃ places, DataW.whole enc Tryz.prog ((laidWorld os).forCall (fun _ _ => 0) ⟨#[], #[.string ByteArray.empty], []⟩).memory Tryz.f4.params.toList Rows.scriptParsesSpec.vars false (#[.string ByteArray.empty] : Array Value).toList 8 = some ([.lit (.string [])], [], places) :=
 ⟨[], by kernel_rfl⟩
theorem scriptParses_lifted (os : Os) (started : os.Started) (H : Type) (enc : TypeId × Value → H) (F : Stop.Interp) :
  ReturnsInHanded {} Tryz.checked os 4 .any ((Rows.OpenSpec.upto Rows.scriptParsesSpec).preRow enc Tryz.prog Tryz.f4 Rows.scriptParsesUptoRow.domain false Rows.scriptParsesUptoRow.laid) (((Rows.OpenSpec.upto Rows.scriptParsesSpec).at F).post enc Tryz.prog Tryz.f4 false true false false) := by
 obtain ⟨places, hx⟩ := scriptParses_reads os enc
 refine returnsInHanded_of_row (C := Tryz.checked) (s := Rows.OpenSpec.upto Rows.scriptParsesSpec) scriptParses_own started (by kernel_rfl) Tryz.func4
  (witness_row_at (enc := enc) (C := Tryz.checked) false (laidWorld os) #[.string ByteArray.empty] rfl (by kernel_rfl) (by kernel_rfl) (by kernel_rfl)
   (OpenSpec.preRow_of_cond 8 hx (by kernel_rfl) (fun k hk => by cases hk; kernel_rfl) (by kernel_rfl) (scriptParses_met os))) ?_
 intro W base args ds gs before hval hW _ hc _ hL hsh _
 exact scriptParses_contract H enc W base args ds gs before hval hW (of_decide_eq_true (hc _ rfl)) hL hsh
theorem scriptParses_said : Rows.ScriptParsesUptoSaid :=
 OpenClaim.holds_of_cond 4 Tryz.f4 rfl rfl rfl rfl rfl rfl rfl ⟨rfl, rfl, rfl, rfl, rfl⟩ rfl rfl rfl rfl rfl (by kernel_rfl) Tryz.func4 (by kernel_rfl)
  (of_decide_eq_true (by kernel_rfl)) (by unfold Func.isWrapper; first | (rw [if_pos (by decide +kernel)]; kernel_rfl) | (rw [if_neg (by decide +kernel)]; exact ⟨rfl, rfl⟩))
  (fun os started H enc _ F => by rw [OpenClaim.pre_eq_preRow]; exact scriptParses_lifted os started H enc F)
theorem scriptParses_plain (f : FuncId) (fn : Func) (hf : Tryz.pinned.checked.prog.funcNamed Rows.scriptParsesUptoRow.func = some f) (hfn : Tryz.pinned.checked.prog.funcs[f]? = some fn) :
  true = Tryz.pinned.checked.prog.looks [] ∧ ∀ (j : Nat) t, fn.params[j]? = some t → Tryz.pinned.checked.prog.wantsStandIn t = false := by
 obtain rfl : f = 4 := Option.some.inj ((show Tryz.prog.funcNamed Rows.scriptParsesUptoRow.func = some 4 by kernel_rfl).symm.trans hf) |>.symm
 obtain rfl : fn = Tryz.f4 := (Option.some.inj (Tryz.func4.symm.trans hfn)).symm
 refine ⟨by kernel_rfl, fun j t ht => ?_⟩
 rw [Tryz.params4] at ht
 have hm : t ∈ ([9] : List TypeId) := by simpa using Array.mem_of_getElem? ht
 exact (show ∀ t, t ∈ ([9] : List TypeId) → Tryz.prog.wantsStandIn t = false by decide +kernel) t hm
theorem scriptParses_holds : Rows.ScriptParsesUptoCardSaid :=
 Claim7.holds_tied_plain_at .later [] _ _ _ _ scriptParses_said (fun _ h => by cases h) (by kernel_rfl) (fun _ h => by cases h) scriptParsesUpto_row_tie rfl ⟨rfl, rfl⟩ (by kernel_rfl) rfl scriptParses_plain (by kernel_rfl)
theorem kSum_toL (l : List ByteArray) : kSum (l.map fun s => s.data.toList) + l.length = (l.map fun s => s.size + 1).sum := by
 unfold kSum
 induction l with
 | nil => rfl
 | cons x l ih =>
  simp only [List.map_cons, List.sum_cons, List.length_cons] at ih ⊢
  rw [size_list]; omega
theorem rdKeep {W : World} : Rd Tryz.prog W 22 (fun l : List (List UInt8) => [.sl 1 false (keepD l)]) (fun l => kSum l + l.length) (fun l => True) :=
 (rd_slice1 (rd_str Tryz.underlying9) Tryz.underlying22 (by kernel_rfl)).conv (fun l => l.map fun s => s.data.toList) (fun l => by
  unfold keepD
  rw [List.map_map]
  rfl) (fun l => by
  have := kSum_toL l
  rw [List.length_map]; omega) fun _ _ => trivial
def OvI (o : Ov) : Prop := inI o.kind ∧ o.fs.length = 9 ∧ ∀ i f, o.fs[i]? = some f → match f with
 | Fl.n x => isT i = false ∧ inI x
 | Fl.t _ => isT i = true
def szO (o : Ov) : Nat := (o.fs.map Fl.len).sum + (kSum o.keep + o.keep.length)
theorem OvI.ok {o : Ov} (h : OvI o) {m : Nat} (hm : szO o ≤ m) : OvOk m o := by
 obtain ⟨h1, h2, h3⟩ := h
 unfold szO at hm
 have mem : ∀ (l : List Nat) x, x ∈ l → x ≤ l.sum := by
  intro l x hx
  induction l with
  | nil => cases hx
  | cons y l ih =>
   rw [List.sum_cons]
   rcases List.mem_cons.1 hx with rfl | hx
   ·omega
   ·have := ih hx; omega
 refine ⟨h1.1, h1.2, h2, fun i f hf => ?_, fun k hk => ?_, by omega⟩
 ·have h4 := h3 i f hf
  have h5 := mem _ _ (List.mem_map_of_mem (f := Fl.len) (List.mem_of_getElem? hf))
  cases f with
  | n x => exact h4
  | t l => exact ⟨h4, by rw [show Fl.len (.t l) = l.length from rfl] at h5; omega⟩
 ·have h4 := mem _ _ (List.mem_map_of_mem (f := List.length) hk)
  unfold kSum at hm; omega
theorem ovI_mk {K a b c g i j : Int} {d e f : List UInt8} {ks : List (List UInt8)} (hK : inI K) (ha : inI a) (hb : inI b) (hc : inI c) (hg : inI g) (hi : inI i) (hj : inI j) : OvI ⟨K, [.n a, .n b, .n c, .t d, .t e, .t f, .n g, .n i, .n j], ks⟩ := by
 refine ⟨hK, rfl, ?_⟩
 intro q x hx
 dsimp only at hx
 match q, hx with
 | 0, hx => cases hx; exact ⟨rfl, ha⟩
 | 1, hx => cases hx; exact ⟨rfl, hb⟩
 | 2, hx => cases hx; exact ⟨rfl, hc⟩
 | 3, hx => cases hx; exact rfl
 | 4, hx => cases hx; exact rfl
 | 5, hx => cases hx; exact rfl
 | 6, hx => cases hx; exact ⟨rfl, hg⟩
 | 7, hx => cases hx; exact ⟨rfl, hi⟩
 | 8, hx => cases hx; exact ⟨rfl, hj⟩
 | n + 9, hx => cases hx
theorem rdOv {W : World} : Rd Tryz.prog W 24 (fun o : Ov => o.ds (.sl 1 false (keepD o.keep))) szO OvI := by
 have rI := fun {W : World} => rd_i64 (P := Tryz.prog) (W := W) Tryz.underlying3
 have rS := fun {W : World} => rd_str (P := Tryz.prog) (W := W) Tryz.underlying9
 have h := rd_struct (W := W) Tryz.underlying24 (total := 11) (by kernel_rfl) rfl
  (rdF_cons (k := 1) rI rfl (by kernel_rfl) (rdF_cons (k := 1) rI rfl (by kernel_rfl) (rdF_cons (k := 1) rI rfl (by kernel_rfl) (rdF_cons (k := 1) rI rfl (by kernel_rfl)
  (rdF_cons (k := 1) rS rfl (by kernel_rfl) (rdF_cons (k := 1) rS rfl (by kernel_rfl) (rdF_cons (k := 1) rS rfl (by kernel_rfl)
  (rdF_cons (k := 1) rI rfl (by kernel_rfl) (rdF_cons (k := 1) rI rfl (by kernel_rfl) (rdF_cons (k := 1) rI rfl (by kernel_rfl) (rdF_cons (k := 1) rdKeep rfl (by kernel_rfl) rdF_nil)))))))))))
 exact h.conv (fun a => ⟨a.1, [.n a.2.1, .n a.2.2.1, .n a.2.2.2.1, .t a.2.2.2.2.1.data.toList, .t a.2.2.2.2.2.1.data.toList, .t a.2.2.2.2.2.2.1.data.toList, .n a.2.2.2.2.2.2.2.1, .n a.2.2.2.2.2.2.2.2.1, .n a.2.2.2.2.2.2.2.2.2.1], a.2.2.2.2.2.2.2.2.2.2.1⟩) (fun a => rfl) (fun a => by
  unfold szO
  simp only [List.map_cons, List.map_nil, List.sum_cons, List.sum_nil, Fl.len, size_list]
  omega) fun a ha => ovI_mk ha.1 ha.2.1 ha.2.2.1 ha.2.2.2.1 ha.2.2.2.2.2.2.2.1 ha.2.2.2.2.2.2.2.2.1 ha.2.2.2.2.2.2.2.2.2.1
theorem scriptShows_own : ownKnob Tryz.prog.godebug = none := by kernel_rfl
theorem scriptShows_contract (H : Type) (enc : TypeId × Value → H) (W : World) (base : Nat) (args : Array Value) (ds gs : List (DataW H)) (before : List MemPlace)
  (hval : ∀ (j : Nat) t v, Tryz.f3.params[j]? = some t → args[j]? = some v → Value.okWide Tryz.prog W .any base t v)
  (hW : DataW.Whole enc Tryz.prog Tryz.f3.params.toList Rows.scriptShowsSpec.vars false W args.toList ds gs before) (hk : Rows.uptoBulkAll (ds ++ gs) ≤ 1048576) (hL : laidMetH Tryz.prog Rows.scriptShowsUptoRow.laid W) (hsh : W.ShapedOpen Tryz.prog) :
  Calls Tryz.prog 3 args W fun e W' => ∃ v, e = .returned v ∧ Rows.scriptShowsSpec.post enc Tryz.prog Tryz.f3 false true false false W args v W' :=
 law_contractG (w0 := ⟨W, gW W⟩) rfl (.refl _) enc (ts := [24, 9]) (tb := 4) (rdA_agg rdOv Tryz.underlying24 (rdA_one (rd_str Tryz.underlying9) (by kernel_rfl) rdA_nil)) Tryz.params3 rfl Tryz.underlying4 rfl (by kernel_rfl) (by intro t ht; revert t; decide +kernel) (fun ds hd => by
  first
  | (match ds, hd with | [_], _ => rfl)
  | (match ds, hd with | [_, _], _ => rfl)
  | (match ds, hd with | [_, _, _], _ => rfl)
  | (match ds, hd with | [_, _, _, _], _ => rfl)) (fun a ha hs => (showsP ⟨W, gW W⟩ (glob_names hL) (kp_of hL) (ku_of hL) (ke_of hL) (km_of hsh) (ha.1.ok (by omega)) a.2.1 (by omega) ⟨[], []⟩).mono fun d S' h => h.1) base args ds gs before hval hW hk
theorem scriptShows_met (os : Os) : laidMet Tryz.prog Rows.scriptShowsUptoRow.laid ((laidWorld os).forCall (fun _ _ => 0) ⟨#[], #[.agg #[.int .i64 0, .int .i64 0, .int .i64 0, .int .i64 0, .string ByteArray.empty, .string ByteArray.empty, .string ByteArray.empty, .int .i64 0, .int .i64 0, .int .i64 0, .slice none 0 0], .string ByteArray.empty], []⟩).memory :=
 laidMet_of_run' 8 (by kernel_rfl) (by kernel_rfl)
theorem scriptShows_reads (os : Os) {H : Type} (enc : TypeId × Value → H) : ∃ places, DataW.whole enc Tryz.prog ((laidWorld os).forCall (fun _ _ => 0) ⟨#[], #[.agg #[.int .i64 0, .int .i64 0, .int .i64 0, .int .i64 0, .string ByteArray.empty, .string ByteArray.empty, .string ByteArray.empty, .int .i64 0, .int .i64 0, .int .i64 0, .slice none 0 0], .string ByteArray.empty], []⟩).memory Tryz.f3.params.toList Rows.scriptShowsSpec.vars false (#[.agg #[.int .i64 0, .int .i64 0, .int .i64 0, .int .i64 0, .string ByteArray.empty, .string ByteArray.empty, .string ByteArray.empty, .int .i64 0, .int .i64 0, .int .i64 0, .slice none 0 0], .string ByteArray.empty] : Array Value).toList 8 = some ([.agg [.lit (.int .i64 0), .lit (.int .i64 0), .lit (.int .i64 0), .lit (.int .i64 0), .lit (.string []), .lit (.string []), .lit (.string []), .lit (.int .i64 0), .lit (.int .i64 0), .lit (.int .i64 0), .nil], .lit (.string [])], [], places) :=
 ⟨[], by kernel_rfl⟩
theorem scriptShows_lifted (os : Os) (started : os.Started) (H : Type) (enc : TypeId × Value → H) (F : Stop.Interp) :
  ReturnsInHanded {} Tryz.checked os 3 .any ((Rows.OpenSpec.upto Rows.scriptShowsSpec).preRow enc Tryz.prog Tryz.f3 Rows.scriptShowsUptoRow.domain false Rows.scriptShowsUptoRow.laid) (((Rows.OpenSpec.upto Rows.scriptShowsSpec).at F).post enc Tryz.prog Tryz.f3 false true false false) := by
 obtain ⟨places, hx⟩ := scriptShows_reads os enc
 refine returnsInHanded_of_row (C := Tryz.checked) (s := Rows.OpenSpec.upto Rows.scriptShowsSpec) scriptShows_own started (by kernel_rfl) Tryz.func3
  (witness_row_at (enc := enc) (C := Tryz.checked) false (laidWorld os) #[.agg #[.int .i64 0, .int .i64 0, .int .i64 0, .int .i64 0, .string ByteArray.empty, .string ByteArray.empty, .string ByteArray.empty, .int .i64 0, .int .i64 0, .int .i64 0, .slice none 0 0], .string ByteArray.empty] rfl (by kernel_rfl) (by kernel_rfl) (by kernel_rfl)
   (OpenSpec.preRow_of_cond 8 hx (by kernel_rfl) (fun k hk => by cases hk; kernel_rfl) (by kernel_rfl) (scriptShows_met os))) ?_
 intro W base args ds gs before hval hW _ hc _ hL hsh _
 exact scriptShows_contract H enc W base args ds gs before hval hW (of_decide_eq_true (hc _ rfl)) hL hsh
theorem scriptShows_said : Rows.ScriptShowsUptoSaid :=
 OpenClaim.holds_of_cond 3 Tryz.f3 rfl rfl rfl rfl rfl rfl rfl ⟨rfl, rfl, rfl, rfl, rfl⟩ rfl rfl rfl rfl rfl (by kernel_rfl) Tryz.func3 (by kernel_rfl)
  (of_decide_eq_true (by kernel_rfl)) (by unfold Func.isWrapper; first | (rw [if_pos (by decide +kernel)]; kernel_rfl) | (rw [if_neg (by decide +kernel)]; exact ⟨rfl, rfl⟩))
  (fun os started H enc _ F => by rw [OpenClaim.pre_eq_preRow]; exact scriptShows_lifted os started H enc F)
theorem scriptShows_plain (f : FuncId) (fn : Func) (hf : Tryz.pinned.checked.prog.funcNamed Rows.scriptShowsUptoRow.func = some f) (hfn : Tryz.pinned.checked.prog.funcs[f]? = some fn) :
  true = Tryz.pinned.checked.prog.looks [] ∧ ∀ (j : Nat) t, fn.params[j]? = some t → Tryz.pinned.checked.prog.wantsStandIn t = false := by
 obtain rfl : f = 3 := Option.some.inj ((show Tryz.prog.funcNamed Rows.scriptShowsUptoRow.func = some 3 by kernel_rfl).symm.trans hf) |>.symm
 obtain rfl : fn = Tryz.f3 := (Option.some.inj (Tryz.func3.symm.trans hfn)).symm
 refine ⟨by kernel_rfl, fun j t ht => ?_⟩
 rw [Tryz.params3] at ht
 have hm : t ∈ ([24, 9] : List TypeId) := by simpa using Array.mem_of_getElem? ht
 exact (show ∀ t, t ∈ ([24, 9] : List TypeId) → Tryz.prog.wantsStandIn t = false by decide +kernel) t hm
theorem scriptShows_holds : Rows.ScriptShowsUptoCardSaid :=
 Claim7.holds_tied_plain_at .later [] _ _ _ _ scriptShows_said (fun _ h => by cases h) (by kernel_rfl) (fun _ h => by cases h) scriptShowsUpto_row_tie rfl ⟨rfl, rfl⟩ (by kernel_rfl) rfl scriptShows_plain (by kernel_rfl)
end Go.Proofs.YtldimfofkbomnaaGreatDoor
namespace Go.Proofs.YtldimfofkbomnaaGreatDoor
open Aml Go Go.RowKit
def blk (note : List UInt8) (o : Ov) : List UInt8 := [35] ++ note ++ [10, 10] ++ showO o ++ [10]
def txtL (note : List UInt8) (l : List Ov) : List UInt8 := l.flatMap (blk note)
theorem txtL_app (note : List UInt8) (a b : List Ov) : txtL note (a ++ b) = txtL note a ++ txtL note b := List.flatMap_append
theorem pct_no10 (b : UInt8) : ∀ c, c ∈ pct b → c ≠ 10 := by
 have hb := b.toNat_lt
 have key : ∀ n, n < 16 → hxB n ≠ 10 := by decide
 intro c hc
 simp only [pct, List.mem_cons, List.not_mem_nil, or_false] at hc
 rcases hc with rfl | rfl | rfl
 ·decide
 ·exact key _ (by omega)
 ·exact key _ (by omega)
theorem qs_no10 (l : List UInt8) : ∀ c, c ∈ qs l → c ≠ 10 := by
 induction l using rune_ind with
 | h0 => intro c hc; cases hc
 | h1 l hne ih =>
  intro c hc
  rw [qs_step hne] at hc
  rcases List.mem_append.1 hc with hc | hc
  ·unfold piece at hc
   split at hc
   ·rename_i hs
    rcases rune_hi hne with ⟨c0, r, h1, h2, h3⟩ | ⟨h1, h2⟩
    ·rw [h3, h1] at hc
     obtain rfl := List.mem_singleton.1 hc
     rw [h3] at hs
     rintro rfl
     revert hs; decide
    ·have := h2 c hc
     rintro rfl
     revert this; decide
   ·obtain ⟨b, _, hc⟩ := List.mem_flatMap.1 hc
    exact pct_no10 b c hc
  ·exact ih c hc
theorem qt_no10 (l : List UInt8) : ∀ c, c ∈ qt l → c ≠ 10 := by
 intro c hc
 unfold qt at hc
 rcases List.mem_cons.1 hc with rfl | hc
 ·decide
 ·rcases List.mem_append.1 hc with hc | hc
  ·exact qs_no10 l c hc
  ·obtain rfl := List.mem_singleton.1 hc; decide
theorem itoa_no10 (n : Int) : ∀ c, c ∈ Lib.itoa n → c ≠ 10 := by
 intro c hc
 have key : ∀ u, c ∈ Lib.decDigits u → c ≠ 10 := by
  intro u h
  have h1 := dec_all u c h
  rintro rfl; revert h1; decide
 unfold Lib.itoa at hc
 split at hc
 ·rcases List.mem_cons.1 hc with rfl | hc
  ·decide
  ·exact key _ hc
 ·exact key _ hc
theorem shown_no10 (f : Fl) : ∀ c, c ∈ f.shown → c ≠ 10 := by
 cases f with
 | n x =>
  unfold Fl.shown; dsimp only
  split
  ·intro c hc; cases hc
  ·exact itoa_no10 x
 | t l =>
  unfold Fl.shown; dsimp only
  split
  ·intro c hc; cases hc
  ·exact qt_no10 l
theorem names_no10 : (∀ w, w ∈ fnm → ∀ c, c ∈ w → c ≠ 10) ∧ (∀ w, w ∈ nms → ∀ c, c ∈ w → c ≠ 10) ∧ ∀ c, c ∈ kpw → c ≠ 10 := by decide
theorem word_no10 {a x : List UInt8} (ha : ∀ c, c ∈ a → c ≠ 10) (hx : ∀ c, c ∈ x → c ≠ 10) : ∀ c, c ∈ a ++ 61 :: x → c ≠ 10 := by
 intro c hc
 rcases List.mem_append.1 hc with hc | hc
 ·exact ha c hc
 ·rcases List.mem_cons.1 hc with rfl | hc
  ·decide
  ·exact hx c hc
theorem show_no10 (o : Ov) : ∀ c, c ∈ showO o → c ≠ 10 := by
 intro c hc
 unfold showO at hc
 split at hc
 ·cases hc
 ·rcases List.mem_append.1 hc with hc | hc
  ·unfold nm at hc
   split at hc
   ·rw [List.getD_eq_getElem?_getD] at hc
    cases h : nms[o.kind.toNat]? with
    | none => rw [h] at hc; cases hc
    | some w => rw [h] at hc; exact names_no10.2.1 w (List.mem_of_getElem? h) c hc
   ·cases hc
  ·unfold flat32 at hc
   obtain ⟨w, hw, hc⟩ := List.mem_flatMap.1 hc
   rcases List.mem_cons.1 hc with rfl | hc
   ·decide
   ·unfold wsO at hw
    rcases List.mem_append.1 hw with hw | hw
    ·unfold wsF at hw
     rw [List.mem_filterMap] at hw
     obtain ⟨p, hp, hpw⟩ := hw
     unfold wordF at hpw
     split at hpw
     ·cases hpw
     ·cases hpw
      exact word_no10 (names_no10.1 _ (List.of_mem_zip hp).1) (shown_no10 _) c hc
    ·obtain ⟨k, hk, rfl⟩ := List.mem_map.1 hw
     exact word_no10 names_no10.2.2 (qt_no10 k) c hc
theorem lns_blk {note : List UInt8} (hn : ∀ c, c ∈ note → c ≠ 10) (o : Ov) (t : List UInt8) : lns (blk note o ++ t) = (35 :: note) :: [] :: showO o :: lns t := by
 have e : blk note o ++ t = (35 :: note) ++ 10 :: ([] ++ 10 :: (showO o ++ 10 :: t)) := by unfold blk; simp
 rw [e, lns_yes (by
  intro c hc
  rcases List.mem_cons.1 hc with rfl | hc
  ·decide
  ·exact hn c hc), lns_yes (fun c hc => by cases hc), lns_yes (show_no10 o)]
theorem allF_txt {note : List UInt8} (hn : ∀ c, c ∈ note → c ≠ 10) {m : Nat} (t : List UInt8) : ∀ (l out : List Ov) (k : Nat), (∀ o, o ∈ l → OvOk m o ∧ nm o.kind ≠ []) → allF out k (lns (txtL note l ++ t)) = allF (out ++ l) (k + 3 * l.length) (lns t)
 | [], out, k, _ => by simp [txtL]
 | o :: l, out, k, h => by
  have h1 := h o List.mem_cons_self
  have hs := pF_show h1.1 h1.2
  have e : txtL note (o :: l) ++ t = blk note o ++ (txtL note l ++ t) := by unfold txtL; rw [List.flatMap_cons, List.append_assoc]
  have hsk : skipL (showO o) = false := by
   rw [show_form h1.2]
   unfold skipL
   have hd := nm_dom h1.2
   have key : ∀ k, k < 17 → (nms.getD k []) ≠ [] ∧ (nms.getD k []).head? ≠ some 35 := by decide
   have hk := key o.kind.toNat (by omega)
   have en : nm o.kind = nms.getD o.kind.toNat [] := by unfold nm; rw [if_pos hd]
   rw [en] at *
   generalize nms.getD o.kind.toNat [] = w at *
   cases w with
   | nil => exact absurd rfl hk.1
   | cons c w => simp at hk ⊢; exact hk
  rw [e, lns_blk hn, allF_cons, if_pos (by unfold skipL; simp), allF_cons, if_pos (by decide), allF_cons, hsk, if_neg (by decide), hs, if_neg (by simp)]
  rw [allF_txt hn t l (out ++ [o]) (k + 1 + 1 + 1) (fun x hx => h x (List.mem_cons_of_mem _ hx)), List.append_assoc, List.length_cons]
  congr 1
  omega
theorem lns_nil : lns [] = [[]] := rfl
theorem aF_txt {note : List UInt8} (hn : ∀ c, c ∈ note → c ≠ 10) {m : Nat} {l : List Ov} (h : ∀ o, o ∈ l → OvOk m o ∧ nm o.kind ≠ []) : aF (txtL note l) = (l, 0) := by
 have := allF_txt hn [] l [] 0 h
 rw [List.append_nil, lns_nil] at this
 unfold aF
 rw [this, allF_cons, if_pos (by decide), allF]; rfl
def nothingT : List UInt8 := [110, 111, 116, 104, 105, 110, 103]
theorem pF_nothing : (pF nothingT).2 = 13 := by
 unfold pF
 rw [if_pos (.inl (by decide))]
theorem aF_wrong {note : List UInt8} (hn : ∀ c, c ∈ note → c ≠ 10) {m : Nat} {l : List Ov} (h : ∀ o, o ∈ l → OvOk m o ∧ nm o.kind ≠ []) : (aF (txtL note l ++ nothingT)).2 = ((3 * l.length + 1 : Nat) : Int) := by
 have := allF_txt hn nothingT l [] 0 h
 unfold aF
 rw [this, show lns nothingT = [nothingT] from rfl, allF_cons, if_neg (by decide), pF_nothing, if_pos (by decide), Nat.zero_add]
theorem piece_tight {m i : Nat} {p : List UInt8 × Fl} (h : flOk m i p.2) (h1 : p.1.length ≤ 7) : (pieceF p).length ≤ 30 + 3 * p.2.len := by
 obtain ⟨n, f⟩ := p
 unfold pieceF
 dsimp only at h h1 ⊢
 split
 ·simp
 ·rw [List.length_cons, List.length_append, List.length_cons]
  cases f with
  | n x =>
   unfold Fl.shown Fl.len
   dsimp only
   split
   ·simp; omega
   ·have := itoa_len x h.2.1 h.2.2; omega
  | t l =>
   unfold Fl.shown Fl.len
   dsimp only
   split
   ·simp; omega
   ·have := qt_len l; omega
theorem keep_tight : ∀ ks : List (List UInt8), (flat32 (ks.map wordK)).length ≤ 8 * ks.length + 3 * kSum ks
 | [] => Nat.zero_le _
 | k :: ks => by
  have ih := keep_tight ks
  have hq := qt_len k
  have e : flat32 ((k :: ks).map wordK) = 32 :: (wordK k ++ flat32 (ks.map wordK)) := by unfold flat32; simp
  have e2 : kSum (k :: ks) = k.length + kSum ks := by unfold kSum; simp
  rw [e, e2, List.length_cons, List.length_append, List.length_cons]
  have e3 : (wordK k).length = 5 + (qt k).length := by unfold wordK kpw; simp; omega
  omega
theorem show_tight {m : Nat} {o : Ov} (h : OvOk m o) (hs : smallB o = true) : (showO o).length ≤ 4000 := by
 unfold smallB at hs
 obtain ⟨s1, s2⟩ := Bool.and_eq_true_iff.1 hs
 have s1 := of_decide_eq_true s1
 have s2 := of_decide_eq_true s2
 obtain ⟨x1, x2, x3, x4, x5, x6, x7, x8, x9, hfs⟩ := ov_form h
 have hk := keep_tight o.keep
 have hn := nm_len o.kind
 have P := fun i f (hf : o.fs[i]? = some f) (nme : List UInt8) (h7 : nme.length ≤ 7) => piece_tight (p := (nme, f)) (h.fl i f hf) h7
 rw [hfs] at s1 P
 have p0 := P 0 _ rfl [108, 101, 118, 101, 108] (by decide)
 have p1 := P 1 _ rfl [115, 101, 115, 115, 105, 111, 110] (by decide)
 have p2 := P 2 _ rfl [115, 110, 97, 112] (by decide)
 have p3 := P 3 _ rfl [98, 117, 99, 107, 101, 116] (by decide)
 have p4 := P 4 _ rfl [107, 101, 121] (by decide)
 have p5 := P 5 _ rfl [118, 97, 108, 117, 101] (by decide)
 have p6 := P 6 _ rfl [108, 97, 98, 101, 108] (by decide)
 have p7 := P 7 _ rfl [116, 111] (by decide)
 have p8 := P 8 _ rfl [110] (by decide)
 simp only [Fl.len, List.map_cons, List.map_nil, List.sum_cons, List.sum_nil] at p0 p1 p2 p3 p4 p5 p6 p7 p8 s1
 unfold showO
 split
 ·simp
 ·have hw : flat32 (wsO o) = flat32 (wsF o) ++ flat32 (o.keep.map wordK) := by unfold wsO flat32; rw [List.flatMap_append]
  rw [hw, List.length_append, List.length_append]
  unfold wsF
  rw [flat_piece, hfs]
  simp only [fnm, List.zip_cons_cons, List.zip_nil_right, List.flatMap_cons, List.flatMap_nil, List.length_append, List.length_nil]
  omega
theorem txtL_len {note : List UInt8} (hn : note.length ≤ 100) : ∀ l : List Ov, (∀ o, o ∈ l → (showO o).length ≤ 4000) → (txtL note l).length ≤ 4104 * l.length
 | [], _ => Nat.zero_le _
 | o :: l, h => by
  have h1 := h o List.mem_cons_self
  have h2 := txtL_len hn l fun x hx => h x (List.mem_cons_of_mem _ hx)
  have e : (txtL note (o :: l)).length = (blk note o).length + (txtL note l).length := by unfold txtL; rw [List.flatMap_cons, List.length_append]
  have e2 : (blk note o).length = 1 + note.length + 2 + (showO o).length + 1 := by unfold blk; simp; omega
  rw [e, e2, List.length_cons]; omega
theorem linesP (w0 : W0) (hg : GlobN w0) (hp : KP w0) (hu : KU w0) (hk' : KE w0) (hm : KM w0) {l : List Ov} (h : ∀ o, o ∈ l → OvOk 1048576 o) (note : ByteArray) (S : St) :
  ACall Tryz.prog w0 6 [.sl 11 false (ovsD l), dS note] S (fun d S' => d = dB true ∧ S' = S) := by
 have hkl := ovsD_len l
 have hsz := size_list note
 refine fnS [] mx Tryz.func6 rfl rfl (by kernel_rfl) ?_; simp (maxDischargeDepth := 12) (maxSteps := 1000000) -implicitDefEqProofs only [Tryz.ntmps6, go_sem, Nat.reduceAdd, Nat.reduceSub, Nat.reduceMul, Nat.reduceLeDiff, Nat.reduceEqDiff, Nat.reduceGT, Nat.reduceBEq, reduceCtorEq, ↓reduceIte, Int.reduceToNat, Int.reduceLE, Int.reduceLT, Int.reduceNe, Int.reduceEq]
 refine use1 (awakeP w0 hg hp hu hk' hm _) ?_
 simp (maxDischargeDepth := 12) (maxSteps := 1000000) -implicitDefEqProofs only [go_sem, Nat.reduceAdd, Nat.reduceSub, Nat.reduceMul, Nat.reduceLeDiff, Nat.reduceEqDiff, Nat.reduceGT, Nat.reduceBEq, reduceCtorEq, ↓reduceIte, Int.reduceToNat, Int.reduceLE, Int.reduceLT, Int.reduceNe, Int.reduceEq, hkl]
 intro hl40 hn100
 refine loopN [] note.size [0, 1, 6, 7] (fun k => [(7, dI k)]) (fun _ => S) (fun k => ∀ j, j < k → ∀ c, note.data.toList[j]? = some c → c ≠ 10) mx (by kernel_rfl) ?_ ?_
 ·simp (maxDischargeDepth := 12) (maxSteps := 1000000) -implicitDefEqProofs only [go_sem, Nat.reduceAdd, Nat.reduceSub, Nat.reduceMul, Nat.reduceLeDiff, Nat.reduceEqDiff, Nat.reduceGT, Nat.reduceBEq, reduceCtorEq, ↓reduceIte, Int.reduceToNat, Int.reduceLE, Int.reduceLT, Int.reduceNe, Int.reduceEq]
  intro j hj; omega
 ·intro k hk hk10
  have e1 : IntKind.i64.wrap ((k : Int) + 1) = ((k + 1 : Nat) : Int) := by rw [w64 (by omega) (by omega)]; omega
  by_cases hlt : k < note.size
  ·simp (maxDischargeDepth := 12) (maxSteps := 1000000) -implicitDefEqProofs only [go_sem, Nat.reduceAdd, Nat.reduceSub, Nat.reduceMul, Nat.reduceLeDiff, Nat.reduceEqDiff, Nat.reduceGT, Nat.reduceBEq, reduceCtorEq, ↓reduceIte, Int.reduceToNat, Int.reduceLE, Int.reduceLT, Int.reduceNe, Int.reduceEq, e1]
   refine ⟨fun _ => ⟨hlt, fun c hc h10 => ⟨hlt, fun j hj c2 hc2 => ?_⟩⟩, fun hh => absurd hlt hh⟩
   rcases Nat.lt_or_ge j k with h1 | h1
   ·exact hk10 j h1 c2 hc2
   ·obtain rfl : j = k := by omega
    rw [hc] at hc2; cases hc2
    exact fun e => h10 (by rw [e]; rfl)
  ·obtain rfl : k = note.size := by omega
   have hn10 : ∀ c, c ∈ note.data.toList → c ≠ 10 := by
    intro c hc
    obtain ⟨j, hj⟩ := List.getElem?_of_mem hc
    exact hk10 j (by have := (List.getElem?_eq_some_iff.1 hj).1; omega) c hj
   simp (maxDischargeDepth := 12) (maxSteps := 1000000) -implicitDefEqProofs only [go_sem, Nat.reduceAdd, Nat.reduceSub, Nat.reduceMul, Nat.reduceLeDiff, Nat.reduceEqDiff, Nat.reduceGT, Nat.reduceBEq, reduceCtorEq, ↓reduceIte, Int.reduceToNat, Int.reduceLE, Int.reduceLT, Int.reduceNe, Int.reduceEq, e1]
   refine ⟨fun hh => absurd hh (by omega), fun _ => ?_⟩
   clear hk10
   generalize hN : note.data.toList = N at *
   have hnt : note = tx N := by rw [← hN, tx_eta]
   rw [hnt] at *
   refine loopN [] l.length [0, 1, 6, 8] (fun k => [(6, dS (tx (txtL N (l.take k)))), (8, dI k)]) (fun _ => S) (fun k => ∀ o, o ∈ l.take k → smallB o = true ∧ nm o.kind ≠ []) mx (by kernel_rfl) ?_ ?_
   ·simp (maxDischargeDepth := 12) (maxSteps := 1000000) -implicitDefEqProofs only [go_sem, Nat.reduceAdd, Nat.reduceSub, Nat.reduceMul, Nat.reduceLeDiff, Nat.reduceEqDiff, Nat.reduceGT, Nat.reduceBEq, reduceCtorEq, ↓reduceIte, Int.reduceToNat, Int.reduceLE, Int.reduceLT, Int.reduceNe, Int.reduceEq]
    exact ⟨fun o ho => (by cases ho), rfl⟩
   ·intro k hk hgood
    have e1 : IntKind.i64.wrap ((k : Int) + 1) = ((k + 1 : Nat) : Int) := by rw [w64 (by omega) (by omega)]; omega
    have hsh : ∀ o, o ∈ l.take k → (showO o).length ≤ 4000 := fun o ho => show_tight (h o (List.mem_of_mem_take ho)) (hgood o ho).1
    have htl := txtL_len (note := N) (by rw [hsz]; omega) (l.take k) hsh
    rw [List.length_take] at htl
    by_cases hlt : k < l.length
    ·have hke := List.getElem?_eq_getElem hlt
     have hko := h _ (List.getElem_mem hlt)
     generalize l[k] = o at hke hko
     obtain ⟨x1, x2, x3, x4, x5, x6, x7, x8, x9, hfs⟩ := ov_form hko
     have hds : o.ds (.sl 1 false (keepD o.keep)) = [dI o.kind, dI x1, dI x2, dI x3, dS (tx x4), dS (tx x5), dS (tx x6), dI x7, dI x8, dI x9, .sl 1 false (keepD o.keep)] := by unfold Ov.ds; rw [hfs]; rfl
     have hrow := el_at (xs := ovsD l) (k := k) (d := .agg [dI o.kind, dI x1, dI x2, dI x3, dS (tx x4), dS (tx x5), dS (tx x6), dI x7, dI x8, dI x9, .sl 1 false (keepD o.keep)]) (by rw [ovsD_at hke]; unfold ovD; rw [hds]) rfl
     have hsm := fun S => smallP w0 hko S
     have hS := fun S => showP w0 hg hp hu hko false S
     unfold ovD at hsm
     rw [hds] at hsm hS
     have hst : smallB o = true → (showO o).length ≤ 4000 := fun h => show_tight hko h
     simp (maxDischargeDepth := 12) (maxSteps := 1000000) -implicitDefEqProofs only [go_sem, Nat.reduceAdd, Nat.reduceSub, Nat.reduceMul, Nat.reduceLeDiff, Nat.reduceEqDiff, Nat.reduceGT, Nat.reduceBEq, reduceCtorEq, ↓reduceIte, Int.reduceToNat, Int.reduceLE, Int.reduceLT, Int.reduceNe, Int.reduceEq, hkl, e1, hrow]
     refine ⟨fun _ => ⟨hlt, use1 (hsm _) ?_⟩, fun hh => absurd hlt hh⟩
     simp (maxDischargeDepth := 12) (maxSteps := 1000000) -implicitDefEqProofs only [go_sem, Nat.reduceAdd, Nat.reduceSub, Nat.reduceMul, Nat.reduceLeDiff, Nat.reduceEqDiff, Nat.reduceGT, Nat.reduceBEq, reduceCtorEq, ↓reduceIte, Int.reduceToNat, Int.reduceLE, Int.reduceLT, Int.reduceNe, Int.reduceEq, hkl, e1, hrow]
     intro hs1
     have hst := hst hs1
     refine ⟨hlt, use1 (nameR w0 o.kind _) ?_⟩
     simp (maxDischargeDepth := 12) (maxSteps := 1000000) -implicitDefEqProofs only [go_sem, Nat.reduceAdd, Nat.reduceSub, Nat.reduceMul, Nat.reduceLeDiff, Nat.reduceEqDiff, Nat.reduceGT, Nat.reduceBEq, reduceCtorEq, ↓reduceIte, Int.reduceToNat, Int.reduceLE, Int.reduceLT, Int.reduceNe, Int.reduceEq, hkl, e1, hrow, tx_list, tx_size]
     intro hnm
     refine ⟨by omega, by omega, hlt, use1 (hS _) ?_⟩
     simp (maxDischargeDepth := 12) (maxSteps := 1000000) -implicitDefEqProofs only [go_sem, Nat.reduceAdd, Nat.reduceSub, Nat.reduceMul, Nat.reduceLeDiff, Nat.reduceEqDiff, Nat.reduceGT, Nat.reduceBEq, reduceCtorEq, ↓reduceIte, Int.reduceToNat, Int.reduceLE, Int.reduceLT, Int.reduceNe, Int.reduceEq, hkl, e1, hrow, tx_list, tx_size]
     have htk : l.take (k + 1) = l.take k ++ [o] := by rw [List.take_add_one, hke]; rfl
     refine ⟨by omega, by omega, by omega, hlt, ?_, ?_⟩
     ·rw [htk]
      intro x hx
      rcases List.mem_append.1 hx with hx | hx
      ·exact hgood x hx
      ·obtain rfl := List.mem_singleton.1 hx
       exact ⟨hs1, hnm⟩
     ·rw [htk, txtL_app]
      apply tx_ext
      simp only [list_app, tx_list]
      unfold txtL blk
      simp
    ·obtain rfl : k = l.length := by omega
     rw [List.take_length] at *
     have hal : ∀ o, o ∈ l → OvOk 1048576 o ∧ nm o.kind ≠ [] := fun o ho => ⟨h o ho, (hgood o ho).2⟩
     have a1 := fun S => allP w0 hg hp hu hk' hm (tx (txtL N l)) (by rw [tx_size]; omega) S
     have a2 := fun S => allP w0 hg hp hu hk' hm (tx (txtL N l ++ nothingT)) (by rw [tx_size, List.length_append, show nothingT.length = 7 from rfl]; omega) S
     rw [tx_list, aF_txt hn10 hal] at a1
     rw [tx_list] at a2
     have hw := aF_wrong hn10 hal
     generalize aF (txtL N l ++ nothingT) = A2 at *
     have en : tx (txtL N l) ++ ⟨#[110, 111, 116, 104, 105, 110, 103]⟩ = tx (txtL N l ++ nothingT) := tx_app _ _
     have e3 : IntKind.i64.wrap (3 * (l.length : Int)) = ((3 * l.length : Nat) : Int) := by rw [w64 (by omega) (by omega)]; omega
     have e4 : IntKind.i64.wrap (((3 * l.length : Nat) : Int) + 1) = ((3 * l.length + 1 : Nat) : Int) := by rw [w64 (by omega) (by omega)]; omega
     simp (maxDischargeDepth := 12) (maxSteps := 1000000) -implicitDefEqProofs only [go_sem, Nat.reduceAdd, Nat.reduceSub, Nat.reduceMul, Nat.reduceLeDiff, Nat.reduceEqDiff, Nat.reduceGT, Nat.reduceBEq, reduceCtorEq, ↓reduceIte, Int.reduceToNat, Int.reduceLE, Int.reduceLT, Int.reduceNe, Int.reduceEq, hkl, e1]
     refine ⟨fun hh => absurd hh (by omega), fun _ => ?_⟩
     refine use1 (a1 _) ?_
     simp (maxDischargeDepth := 12) (maxSteps := 1000000) -implicitDefEqProofs only [go_sem, Nat.reduceAdd, Nat.reduceSub, Nat.reduceMul, Nat.reduceLeDiff, Nat.reduceEqDiff, Nat.reduceGT, Nat.reduceBEq, reduceCtorEq, ↓reduceIte, Int.reduceToNat, Int.reduceLE, Int.reduceLT, Int.reduceNe, Int.reduceEq, hkl, tx_size, en]
     refine ⟨by omega, use1 (a2 _) ?_⟩
     simp (maxDischargeDepth := 12) (maxSteps := 1000000) -implicitDefEqProofs only [go_sem, Nat.reduceAdd, Nat.reduceSub, Nat.reduceMul, Nat.reduceLeDiff, Nat.reduceEqDiff, Nat.reduceGT, Nat.reduceBEq, reduceCtorEq, ↓reduceIte, Int.reduceToNat, Int.reduceLE, Int.reduceLT, Int.reduceNe, Int.reduceEq, hkl]
     refine use1 (sameAll w0 h (Nat.le_refl _) (by omega) _) ?_
     simp (maxDischargeDepth := 12) (maxSteps := 1000000) -implicitDefEqProofs only [go_sem, Nat.reduceAdd, Nat.reduceSub, Nat.reduceMul, Nat.reduceLeDiff, Nat.reduceEqDiff, Nat.reduceGT, Nat.reduceBEq, reduceCtorEq, ↓reduceIte, Int.reduceToNat, Int.reduceLE, Int.reduceLT, Int.reduceNe, Int.reduceEq, hkl, hw, e3, e4]
end Go.Proofs.YtldimfofkbomnaaGreatDoor
namespace Go.Proofs.YtldimfofkbomnaaGreatDoor
open Aml Go Go.RowKit Go.ChangeShapes Go.WideShapes Go.ChangeAt
theorem rdOvs {W : World} : Rd Tryz.prog W 37 (fun l : List Ov => [.sl 11 false (ovsD l)]) (fun l => (l.map szO).sum) (fun l => ∀ o, o ∈ l → OvI o) :=
 (rd_sliceA rdOv Tryz.underlying37 (k := 11) (by kernel_rfl) (by omega)).conv id (fun _ => rfl) (fun l => by simp only [id]; omega) fun _ h => h
theorem ovs_ok {l : List Ov} (h : ∀ o, o ∈ l → OvI o) (hs : (l.map szO).sum ≤ 1048576) : ∀ o, o ∈ l → OvOk 1048576 o := by
 have mem : ∀ (l : List Nat) x, x ∈ l → x ≤ l.sum := by
  intro l x hx
  induction l with
  | nil => cases hx
  | cons y l ih =>
   rw [List.sum_cons]
   rcases List.mem_cons.1 hx with rfl | hx
   ·omega
   ·have := ih hx; omega
 intro o ho
 exact (h o ho).ok (Nat.le_trans (mem _ _ (List.mem_map_of_mem ho)) hs)
theorem scriptLines_own : ownKnob Tryz.prog.godebug = none := by kernel_rfl
theorem scriptLines_contract (H : Type) (enc : TypeId × Value → H) (W : World) (base : Nat) (args : Array Value) (ds gs : List (DataW H)) (before : List MemPlace)
  (hval : ∀ (j : Nat) t v, Tryz.f6.params[j]? = some t → args[j]? = some v → Value.okWide Tryz.prog W .any base t v)
  (hW : DataW.Whole enc Tryz.prog Tryz.f6.params.toList Rows.scriptLinesSpec.vars false W args.toList ds gs before) (hk : Rows.uptoBulkAll (ds ++ gs) ≤ 1048576) (hL : laidMetH Tryz.prog Rows.scriptLinesUptoRow.laid W) (hsh : W.ShapedOpen Tryz.prog) :
  Calls Tryz.prog 6 args W fun e W' => ∃ v, e = .returned v ∧ Rows.scriptLinesSpec.post enc Tryz.prog Tryz.f6 false true false false W args v W' :=
 law_contractG (w0 := ⟨W, gW W⟩) rfl (.refl _) enc (ts := [37, 9]) (tb := 4) (rdA_one rdOvs (by kernel_rfl) (rdA_one (rd_str Tryz.underlying9) (by kernel_rfl) rdA_nil)) Tryz.params6 rfl Tryz.underlying4 rfl (by kernel_rfl) (by intro t ht; revert t; decide +kernel) (fun ds hd => by
  first
  | (match ds, hd with | [_], _ => rfl)
  | (match ds, hd with | [_, _], _ => rfl)
  | (match ds, hd with | [_, _, _], _ => rfl)
  | (match ds, hd with | [_, _, _, _], _ => rfl)) (fun a ha hs => (linesP ⟨W, gW W⟩ (glob_names hL) (kp_of hL) (ku_of hL) (ke_of hL) (km_of hsh) (ovs_ok ha.1 (by omega)) a.2.1 ⟨[], []⟩).mono fun d S' h => h.1) base args ds gs before hval hW hk
theorem scriptLines_met (os : Os) : laidMet Tryz.prog Rows.scriptLinesUptoRow.laid ((laidWorld os).forCall (fun _ _ => 0) ⟨#[], #[.slice none 0 0, .string ByteArray.empty], []⟩).memory :=
 laidMet_of_run' 8 (by kernel_rfl) (by kernel_rfl)
theorem scriptLines_reads (os : Os) {H : Type} (enc : TypeId × Value → H) : ∃ places, DataW.whole enc Tryz.prog ((laidWorld os).forCall (fun _ _ => 0) ⟨#[], #[.slice none 0 0, .string ByteArray.empty], []⟩).memory Tryz.f6.params.toList Rows.scriptLinesSpec.vars false (#[.slice none 0 0, .string ByteArray.empty] : Array Value).toList 8 = some ([.nil, .lit (.string [])], [], places) :=
 ⟨[], by kernel_rfl⟩
theorem scriptLines_lifted (os : Os) (started : os.Started) (H : Type) (enc : TypeId × Value → H) (F : Stop.Interp) :
  ReturnsInHanded {} Tryz.checked os 6 .any ((Rows.OpenSpec.upto Rows.scriptLinesSpec).preRow enc Tryz.prog Tryz.f6 Rows.scriptLinesUptoRow.domain false Rows.scriptLinesUptoRow.laid) (((Rows.OpenSpec.upto Rows.scriptLinesSpec).at F).post enc Tryz.prog Tryz.f6 false true false false) := by
 obtain ⟨places, hx⟩ := scriptLines_reads os enc
 refine returnsInHanded_of_row (C := Tryz.checked) (s := Rows.OpenSpec.upto Rows.scriptLinesSpec) scriptLines_own started (by kernel_rfl) Tryz.func6
  (witness_row_at (enc := enc) (C := Tryz.checked) false (laidWorld os) #[.slice none 0 0, .string ByteArray.empty] rfl (by kernel_rfl) (by kernel_rfl) (by kernel_rfl)
   (OpenSpec.preRow_of_cond 8 hx (by kernel_rfl) (fun k hk => by cases hk; kernel_rfl) (by kernel_rfl) (scriptLines_met os))) ?_
 intro W base args ds gs before hval hW _ hc _ hL hsh _
 exact scriptLines_contract H enc W base args ds gs before hval hW (of_decide_eq_true (hc _ rfl)) hL hsh
theorem scriptLines_said : Rows.ScriptLinesUptoSaid :=
 OpenClaim.holds_of_cond 6 Tryz.f6 rfl rfl rfl rfl rfl rfl rfl ⟨rfl, rfl, rfl, rfl, rfl⟩ rfl rfl rfl rfl rfl (by kernel_rfl) Tryz.func6 (by kernel_rfl)
  (of_decide_eq_true (by kernel_rfl)) (by unfold Func.isWrapper; first | (rw [if_pos (by decide +kernel)]; kernel_rfl) | (rw [if_neg (by decide +kernel)]; exact ⟨rfl, rfl⟩))
  (fun os started H enc _ F => by rw [OpenClaim.pre_eq_preRow]; exact scriptLines_lifted os started H enc F)
theorem scriptLines_plain (f : FuncId) (fn : Func) (hf : Tryz.pinned.checked.prog.funcNamed Rows.scriptLinesUptoRow.func = some f) (hfn : Tryz.pinned.checked.prog.funcs[f]? = some fn) :
  true = Tryz.pinned.checked.prog.looks [] ∧ ∀ (j : Nat) t, fn.params[j]? = some t → Tryz.pinned.checked.prog.wantsStandIn t = false := by
 obtain rfl : f = 6 := Option.some.inj ((show Tryz.prog.funcNamed Rows.scriptLinesUptoRow.func = some 6 by kernel_rfl).symm.trans hf) |>.symm
 obtain rfl : fn = Tryz.f6 := (Option.some.inj (Tryz.func6.symm.trans hfn)).symm
 refine ⟨by kernel_rfl, fun j t ht => ?_⟩
 rw [Tryz.params6] at ht
 have hm : t ∈ ([37, 9] : List TypeId) := by simpa using Array.mem_of_getElem? ht
 exact (show ∀ t, t ∈ ([37, 9] : List TypeId) → Tryz.prog.wantsStandIn t = false by decide +kernel) t hm
theorem scriptLines_holds : Rows.ScriptLinesUptoCardSaid :=
 Claim7.holds_tied_plain_at .later [] _ _ _ _ scriptLines_said (fun _ h => by cases h) (by kernel_rfl) (fun _ h => by cases h) scriptLinesUpto_row_tie rfl ⟨rfl, rfl⟩ (by kernel_rfl) rfl scriptLines_plain (by kernel_rfl)
end Go.Proofs.YtldimfofkbomnaaGreatDoor
namespace Go.Proofs.YtldimfofkbomnaaGreatDoor
theorem scriptThree : Rows.ScriptShowsUptoCardSaid ∧ Rows.ScriptParsesUptoCardSaid ∧ Rows.ScriptLinesUptoCardSaid := ⟨scriptShows_holds, scriptParses_holds, scriptLines_holds⟩
end Go.Proofs.YtldimfofkbomnaaGreatDoor
namespace Go.Proofs.YtldimfofkbomnaaGreatDoor
open Go.Shelf Go.RowKit Go.Sort Go.Lib
theorem formatU (u : Nat) (hu64 : u < 18446744073709551616) (w : World) (htab : Lib.TabIs Tryz.prog w "internal/strconv.uint64pow10" .u64 Lib.pow10Tab) :
  Calls Tryz.prog 73 #[.int .u64 u, .int .i64 10] w fun e w' => e = .returned (.string ⟨(Lib.decDigits u).toArray⟩) ∧ ∃ k os, w' = grow (w.drewN k) os := by
 have mixed : Tryz.prog.follows .mixedOrders = true := by kernel_rfl
 have t52 := Tryz.underlying52; have a52 := Tryz.isAgg52; have z52 := Tryz.sizeOf52; have v52 := Tryz.zeroValue52
 have t3 := Tryz.underlying3; have a3 := Tryz.isAgg3; have z3 := Tryz.sizeOf3; have v3 := Tryz.zeroValue3
 have t9 := Tryz.underlying9; have a9 := Tryz.isAgg9; have z9 := Tryz.sizeOf9; have v9 := Tryz.zeroValue9
 have t4 := Tryz.underlying4; have a4 := Tryz.isAgg4; have z4 := Tryz.sizeOf4; have v4 := Tryz.zeroValue4
 have t126 := Tryz.underlying126; have a126 := Tryz.isAgg126; have z126 := Tryz.sizeOf126; have v126 := Tryz.zeroValue126
 have t51 := Tryz.underlying51; have a51 := Tryz.isAgg51; have z51 := Tryz.sizeOf51; have v51 := Tryz.zeroValue51
 have t5 := Tryz.underlying5; have a5 := Tryz.isAgg5; have z5 := Tryz.sizeOf5; have v5 := Tryz.zeroValue5
 have e94 : ∀ args w, (callFunc 94 args).run Tryz.prog w = .ok (.enter 94 args) w := enters_of Tryz.func94 (by kernel_rfl) rfl
 have e95 : ∀ args w, (callFunc 95 args).run Tryz.prog w = .ok (.enter 95 args) w := enters_of Tryz.func95 (by kernel_rfl) rfl
 have e96 : ∀ args w, (callFunc 96 args).run Tryz.prog w = .ok (.enter 96 args) w := enters_of Tryz.func96 (by kernel_rfl) rfl
 by_cases hs : u < 100
 ·have hwr : IntKind.i64.wrap (u : Int) = (u : Int) := by rw [IntKind.wrap_i64]; omega
  go_enter Tryz.func73, Tryz.ntmps73
  go_wp2_with (go_at_fn 94; refine (Tryz.internal_strconv_small u hs _).mono ?_; rintro e w' ⟨rfl, rfl⟩)
  go_ret
  exact ⟨rfl, 0, #[], by simp [World.drewN_zero]⟩
 ·have hu1 : 1 ≤ u := by omega
  have hnd20 : Lib.nDigits u ≤ 20 := by have := Lib.numDigits_eq u hu1 hu64; split at this <;> omega
  have hal : Tryz.prog.arrayLen 126 = 24 := by simp [Program.arrayLen, t126]
  have hsl1 : ∀ W, (Instr.sliceAt 126 (.pointer (some ⟨w.heap.size, 0, none⟩)) none (some (.int .i64 (Lib.nDigits u : Int))) none).run Tryz.prog W = .ok (.slice (some ⟨w.heap.size, 0, none⟩) (Lib.nDigits u) 24) W := fun W => by
   rw [run_sliceAt_array_h W 126 ⟨w.heap.size, 0, none⟩ (by simp [Program.arrayLen, Program.elem, t126]) .i64 (Lib.nDigits u : Int) (by omega) (by rw [hal]; omega)]
   go_simp
  have hH0 := Lib.holds_zero0 w 126 (Lib.nDigits u) (by omega)
  have hfmt := Tryz.internal_strconv_formatBase10 w.heap.size 0 24 u (Array.replicate (Lib.nDigits u) 0) (w.alloc (.cells Lib.zeros24 126)) hH0 (by rw [Array.size_replicate]; exact Lib.lt_pow_nDigits u) hu64 (by rw [Array.size_replicate]; omega)
  rw [Array.size_replicate] at hfmt
  have HH0 := Lib.hid hH0
  clear hH0 hal
  go_enter Tryz.func73, Tryz.ntmps73
  go_wp2_with (first
   | (go_at_fn 95; refine (Tryz.internal_strconv_numDigits u hu1 hu64 _ (Lib.tabIs_alloc htab _)).mono ?_; rintro e w' ⟨rfl, rfl⟩))
  refine hfmt.mono ?_
  rintro e w' ⟨rfl, k, v', dk, rfl, hF⟩
  have hal : Tryz.prog.arrayLen 126 = 24 := by simp [Program.arrayLen, t126]
  have hcv : (convert 51 9 (.slice (some ⟨w.heap.size, 0, none⟩) (Lib.nDigits u) 24)).run Tryz.prog ((putRow (fun (b : UInt8) => Value.int .u8 (b.toNat : Int)) (w.alloc (.cells Lib.zeros24 126)) w.heap.size 0 dk).drewN k) = .ok (.string ⟨(Lib.decDigits u).toArray⟩) ((putRow (fun (b : UInt8) => Value.int .u8 (b.toNat : Int)) (w.alloc (.cells Lib.zeros24 126)) w.heap.size 0 dk).drewN k) := by
   have h := run_convert_bytes_back (P := Tryz.prog) ((putRow (fun (b : UInt8) => Value.int .u8 (b.toNat : Int)) (w.alloc (.cells Lib.zeros24 126)) w.heap.size 0 dk).drewN k) 51 9 5 ⟨w.heap.size, 0, none⟩ 24 (Lib.decDigits u) t51 t5 t9 (fun j hj => by
    rw [Lib.row_is_numeral hF j hj, Lib.add_plain, World.cell?_drewN]
    exact cell?_putRow (fun (b : UInt8) => Value.int .u8 (b.toNat : Int)) _ w.heap.size 0 _ dk HH0.out (by rw [hF.size, Array.size_replicate]) j (by rw [hF.size]; rw [Lib.decDigits_length] at hj; exact hj))
   rw [Lib.decDigits_length] at h
   exact h
  clear hal
  go_wp2
  go_ret
  obtain ⟨os, eo⟩ := Lib.fin_at w (.cells Lib.zeros24 126) dk k 0
  exact ⟨rfl, k, os, eo⟩
theorem formatUint (u : Nat) (hu64 : u < 18446744073709551616) (w : World) (htab : Lib.TabIs Tryz.prog w "internal/strconv.uint64pow10" .u64 Lib.pow10Tab) :
  Calls Tryz.prog 50 #[.int .u64 u, .int .i64 10] w fun e w' => e = .returned (.string ⟨(Lib.decDigits u).toArray⟩) ∧ ∃ k os, w' = grow (w.drewN k) os := by
 have mixed : Tryz.prog.follows .mixedOrders = true := by kernel_rfl
 have t52 := Tryz.underlying52; have a52 := Tryz.isAgg52; have z52 := Tryz.sizeOf52; have v52 := Tryz.zeroValue52
 have t3 := Tryz.underlying3; have a3 := Tryz.isAgg3; have z3 := Tryz.sizeOf3; have v3 := Tryz.zeroValue3
 have t9 := Tryz.underlying9; have a9 := Tryz.isAgg9; have z9 := Tryz.sizeOf9; have v9 := Tryz.zeroValue9
 have e73 : ∀ args w, (callFunc 73 args).run Tryz.prog w = .ok (.enter 73 args) w := enters_of Tryz.func73 (by kernel_rfl) rfl
 go_enter Tryz.func50, Tryz.ntmps50
 go_wp2_with (go_at_fn 73; refine (formatU u hu64 _ htab).mono ?_; rintro e w' ⟨rfl, k, os, rfl⟩)
 go_ret
 exact ⟨rfl, k, os, rfl⟩
end Go.Proofs.YtldimfofkbomnaaGreatDoor
namespace Go.Proofs.YtldimfofkbomnaaGreatDoor
open Aml Go Go.RowKit
theorem formatP (w0 : W0) (hp : KP w0) (u : Nat) (hu : u < 18446744073709551616) (S : St) : ACall Tryz.prog w0 50 [.v (.int .u64 u), dI 10] S (fun d S' => d = dS (tx (Lib.decDigits u)) ∧ S' = S) :=
 acall_shelf1 (us := [.int .u64 u, .int .i64 10]) (fun g => .v _ rfl) fun w hw => (formatUint u hu w (hp w hw)).mono fun e w' h => by
  obtain ⟨rfl, k, os, rfl⟩ := h
  exact ⟨rfl, ⟨rfl, rfl, rfl, by simp [Sort.grow, World.drewN, Array.size_append], fun k hk => by
   show (w.heap ++ os)[k]? = w.heap[k]?
   exact Array.getElem?_append_left hk⟩⟩
structure Rw where
 k : List UInt8
 l : Int
 v : List UInt8
structure Rc where
 a : Int
 f : Int
 t : Int
 b : List UInt8
 k : List UInt8
 d : Nat
structure Rs where
 e : Int
 n : Int
 rows : List Rw
 s1 : Int
 s2 : Int
 s3 : Int
 s4 : Int
 recs : List Rc
structure RwOk (r : Rw) : Prop where
 l : inI r.l
 k : r.k.length ≤ 1048576
 v : r.v.length ≤ 1048576
structure RcOk (r : Rc) : Prop where
 a : inI r.a
 f : inI r.f
 t : inI r.t
 b : r.b.length ≤ 1048576
 k : r.k.length ≤ 1048576
 d : r.d < 4294967296
@[go_sem] def rwD (r : Rw) : DV := .agg [dS (tx r.k), dI r.l, dS (tx r.v)]
@[go_sem] def rcD (r : Rc) : DV := .agg [dI r.a, dI r.f, dI r.t, dS (tx r.b), dS (tx r.k), .v (.int .u32 (r.d : Nat))]
def rsD (r : Rs) : List DV := [dI r.e, dI r.n, .sl 3 false (r.rows.map rwD), dI r.s1, dI r.s2, dI r.s3, dI r.s4, .sl 6 false (r.recs.map rcD)]
structure RsOk (r : Rs) : Prop where
 e : inI r.e
 n : inI r.n
 s1 : inI r.s1
 s2 : inI r.s2
 s3 : inI r.s3
 s4 : inI r.s4
 rows : ∀ x, x ∈ r.rows → RwOk x
 recs : ∀ x, x ∈ r.recs → RcOk x
 nr : r.rows.length ≤ 60
 nc : r.recs.length ≤ 60
def rowW (r : Rw) : List UInt8 := Lib.itoa r.l ++ [58] ++ qt r.k ++ [61] ++ qt r.v
def recW (r : Rc) : List UInt8 := Lib.itoa r.a ++ [58] ++ Lib.itoa r.f ++ [62] ++ Lib.itoa r.t ++ [58] ++ qt r.b ++ [47] ++ qt r.k ++ [35] ++ Lib.decDigits r.d
def nW (n : Int) : List (List UInt8) := if n = 0 then [] else [[110, 61] ++ Lib.itoa n]
def stW (r : Rs) : List (List UInt8) := if r.s1 = 0 ∧ r.s2 = 0 ∧ r.s3 = 0 ∧ r.s4 = 0 then [] else [[108, 105, 118, 101, 61] ++ Lib.itoa r.s1, [102, 114, 101, 101, 61] ++ Lib.itoa r.s2, [119, 97, 105, 116, 61] ++ Lib.itoa r.s3, [104, 105, 103, 104, 61] ++ Lib.itoa r.s4]
def resR (r : Rs) : List (List UInt8) := nW r.n ++ r.rows.map rowW ++ stW r ++ r.recs.map recW
def showRs (r : Rs) : List UInt8 := [101, 61] ++ Lib.itoa r.e ++ flat32 (resR r)
theorem rowW_len {r : Rw} (h : RwOk r) : (rowW r).length ≤ 6300000 := by
 have h1 := itoa_len r.l h.l.1 h.l.2
 have h2 := qt_len r.k
 have h3 := qt_len r.v
 have h4 := h.k
 have h5 := h.v
 unfold rowW
 simp only [List.length_append, List.length_cons, List.length_nil]; omega
theorem recW_len {r : Rc} (h : RcOk r) : (recW r).length ≤ 6300000 := by
 have h1 := itoa_len r.a h.a.1 h.a.2
 have h2 := itoa_len r.f h.f.1 h.f.2
 have h3 := itoa_len r.t h.t.1 h.t.2
 have h4 := qt_len r.b
 have h5 := qt_len r.k
 have h6 := h.b
 have h7 := h.k
 have h8 := dec_len r.d (by have := h.d; omega)
 unfold recW
 simp only [List.length_append, List.length_cons, List.length_nil]; omega
theorem flat32_app (a b : List (List UInt8)) : flat32 (a ++ b) = flat32 a ++ flat32 b := by unfold flat32; rw [List.flatMap_append]
theorem resultR (w0 : W0) (hu : KU w0) {r : Rs} (h : RsOk r) (S : St) : ACall Tryz.prog w0 23 [.agg (rsD r)] S (fun d S' => d = dS (tx (showRs r)) ∧ S' = S) := by
 have nE := fun S => numberR w0 r.e h.e.1 h.e.2 S
 have nN := fun S => numR w0 ⟨#[110]⟩ r.n (by decide) h.n.1 h.n.2 S
 have lE := itoa_len r.e h.e.1 h.e.2
 have lN := pieceF_len (m := 0) (i := 0) (p := ([110], .n r.n)) ⟨rfl, h.n.1, h.n.2⟩ (by dsimp only; decide)
 have n1 := fun S => numberR w0 r.s1 h.s1.1 h.s1.2 S
 have n2 := fun S => numberR w0 r.s2 h.s2.1 h.s2.2 S
 have n3 := fun S => numberR w0 r.s3 h.s3.1 h.s3.2 S
 have n4 := fun S => numberR w0 r.s4 h.s4.1 h.s4.2 S
 have l1 := itoa_len r.s1 h.s1.1 h.s1.2
 have l2 := itoa_len r.s2 h.s2.1 h.s2.2
 have l3 := itoa_len r.s3 h.s3.1 h.s3.2
 have l4 := itoa_len r.s4 h.s4.1 h.s4.2
 unfold rsD
 refine fnS [] mx Tryz.func23 rfl rfl (by kernel_rfl) ?_; simp (maxDischargeDepth := 12) (maxSteps := 1000000) -implicitDefEqProofs only [Tryz.ntmps23, go_sem, Nat.reduceAdd, Nat.reduceSub, Nat.reduceMul, Nat.reduceLeDiff, Nat.reduceEqDiff, Nat.reduceGT, Nat.reduceBEq, reduceCtorEq, ↓reduceIte, Int.reduceToNat, Int.reduceLE, Int.reduceLT, Int.reduceNe, Int.reduceEq]
 intro b
 refine useQ (nE _) ?_
 simp (maxDischargeDepth := 12) (maxSteps := 1000000) -implicitDefEqProofs only [go_sem, Nat.reduceAdd, Nat.reduceSub, Nat.reduceMul, Nat.reduceLeDiff, Nat.reduceEqDiff, Nat.reduceGT, Nat.reduceBEq, reduceCtorEq, ↓reduceIte, Int.reduceToNat, Int.reduceLE, Int.reduceLT, Int.reduceNe, Int.reduceEq, tx_size]
 refine ⟨by omega, useQ (nN _) ?_⟩
 simp (maxDischargeDepth := 12) (maxSteps := 1000000) -implicitDefEqProofs only [go_sem, Nat.reduceAdd, Nat.reduceSub, Nat.reduceMul, Nat.reduceLeDiff, Nat.reduceEqDiff, Nat.reduceGT, Nat.reduceBEq, reduceCtorEq, ↓reduceIte, Int.reduceToNat, Int.reduceLE, Int.reduceLT, Int.reduceNe, Int.reduceEq, tx_size]
 refine ⟨by omega, ?_⟩
 have hX : (⟨#[101, 61]⟩ : ByteArray) ++ tx (Lib.itoa r.e) ++ tx (pieceF ([110], .n r.n)) = tx ([101, 61] ++ Lib.itoa r.e ++ flat32 (nW r.n)) := by
  rw [show (⟨#[101, 61]⟩ : ByteArray) = tx [101, 61] from rfl, tx_app, tx_app]
  congr 2
  unfold pieceF nW Fl.shown flat32
  dsimp only
  by_cases h0 : r.n = 0
  ·simp [h0]
  ·simp [h0, itoa_ne]
 rw [show ({ data := #[110] } : ByteArray).data.toList = [110] from rfl] at *
 rw [hX]
 have hXl : ([101, 61] ++ Lib.itoa r.e ++ flat32 (nW r.n)).length ≤ 100 := by
  unfold nW flat32
  have := itoa_len r.n h.n.1 h.n.2
  split
  ·simp; omega
  ·simp; omega
 have hsh : showRs r = [101, 61] ++ Lib.itoa r.e ++ flat32 (nW r.n) ++ flat32 (r.rows.map rowW) ++ flat32 (stW r) ++ flat32 (r.recs.map recW) := by
  unfold showRs resR
  rw [flat32_app, flat32_app, flat32_app]
  simp only [List.append_assoc]
 generalize [101, 61] ++ Lib.itoa r.e ++ flat32 (nW r.n) = X at *
 have hnr := h.nr
 have hnc := h.nc
 refine loopN [] r.rows.length [1, 3, 4] (fun k => [(3, dS (tx (X ++ flat32 ((r.rows.take k).map rowW)))), (4, dI k)]) (fun _ => ⟨(b.n, [dI r.e, dI r.n, .sl 3 false (r.rows.map rwD), dI r.s1, dI r.s2, dI r.s3, dI r.s4, .sl 6 false (r.recs.map rcD)]) :: S.box, S.acc⟩) (fun _ => True) mx (by kernel_rfl) ?_ ?_
 ·simp (maxDischargeDepth := 12) (maxSteps := 1000000) -implicitDefEqProofs only [go_sem, Nat.reduceAdd, Nat.reduceSub, Nat.reduceMul, Nat.reduceLeDiff, Nat.reduceEqDiff, Nat.reduceGT, Nat.reduceBEq, reduceCtorEq, ↓reduceIte, Int.reduceToNat, Int.reduceLE, Int.reduceLT, Int.reduceNe, Int.reduceEq]
  rw [show flat32 [] = [] from rfl, List.append_nil]
 ·intro k hk _
  have e1 : IntKind.i64.wrap ((k : Int) + 1) = ((k + 1 : Nat) : Int) := by rw [w64 (by omega) (by omega)]; omega
  have hfl : (flat32 ((r.rows.take k).map rowW)).length ≤ 60 * 6300001 := by
   refine Nat.le_trans (flat32_len 6300000 _ ?_) ?_
   ·intro w hw
    obtain ⟨x, hx, rfl⟩ := List.mem_map.1 hw
    exact rowW_len (h.rows x (List.mem_of_mem_take hx))
   ·rw [List.length_map, List.length_take]
    exact Nat.mul_le_mul_right _ (by omega)
  by_cases hlt : k < r.rows.length
  ·have hke := List.getElem?_eq_getElem hlt
   have hko := h.rows _ (List.getElem_mem hlt)
   generalize r.rows[k] = x at hke hko
   have hrow := el_at (xs := r.rows.map rwD) (k := k) (d := .agg [dS (tx x.k), dI x.l, dS (tx x.v)]) (by rw [List.getElem?_map, hke]; rfl) rfl
   have hkl : (r.rows.map rwD).length = r.rows.length := List.length_map _
   simp (maxDischargeDepth := 12) (maxSteps := 1000000) -implicitDefEqProofs only [go_sem, Nat.reduceAdd, Nat.reduceSub, Nat.reduceMul, Nat.reduceLeDiff, Nat.reduceEqDiff, Nat.reduceGT, Nat.reduceBEq, reduceCtorEq, ↓reduceIte, Int.reduceToNat, Int.reduceLE, Int.reduceLT, Int.reduceNe, Int.reduceEq, hkl, e1]
   refine ⟨fun _ => ⟨hlt, fun a ha b2 => ?_⟩, fun hc => absurd hlt hc⟩
   obtain rfl : a = x := by rw [hke] at ha; exact (Option.some.inj ha).symm
   have q1 := itoa_len a.l hko.l.1 hko.l.2
   have q2 := qt_len a.k
   have q3 := qt_len a.v
   have q4 := hko.k
   have q5 := hko.v
   refine useQ (numberR w0 a.l hko.l.1 hko.l.2 _) ?_
   simp (maxDischargeDepth := 12) (maxSteps := 1000000) -implicitDefEqProofs only [go_sem, Nat.reduceAdd, Nat.reduceSub, Nat.reduceMul, Nat.reduceLeDiff, Nat.reduceEqDiff, Nat.reduceGT, Nat.reduceBEq, reduceCtorEq, ↓reduceIte, Int.reduceToNat, Int.reduceLE, Int.reduceLT, Int.reduceNe, Int.reduceEq, tx_size]
   refine ⟨by omega, by omega, useQ (quoteR w0 (tx a.k) (by rw [tx_size]; omega) _) ?_⟩
   simp (maxDischargeDepth := 12) (maxSteps := 1000000) -implicitDefEqProofs only [go_sem, Nat.reduceAdd, Nat.reduceSub, Nat.reduceMul, Nat.reduceLeDiff, Nat.reduceEqDiff, Nat.reduceGT, Nat.reduceBEq, reduceCtorEq, ↓reduceIte, Int.reduceToNat, Int.reduceLE, Int.reduceLT, Int.reduceNe, Int.reduceEq, tx_size, tx_list]
   refine ⟨by omega, by omega, useQ (quoteR w0 (tx a.v) (by rw [tx_size]; omega) _) ?_⟩
   simp (maxDischargeDepth := 12) (maxSteps := 1000000) -implicitDefEqProofs only [go_sem, Nat.reduceAdd, Nat.reduceSub, Nat.reduceMul, Nat.reduceLeDiff, Nat.reduceEqDiff, Nat.reduceGT, Nat.reduceBEq, reduceCtorEq, ↓reduceIte, Int.reduceToNat, Int.reduceLE, Int.reduceLT, Int.reduceNe, Int.reduceEq, tx_size, tx_list]
   refine ⟨by omega, by omega, hlt, ?_, e1⟩
   rw [show ({ data := #[32] } : ByteArray) = tx [32] from rfl, show ({ data := #[58] } : ByteArray) = tx [58] from rfl, show ({ data := #[61] } : ByteArray) = tx [61] from rfl]
   simp only [tx_app]
   rw [List.take_add_one, hke, List.map_append, flat32_app]
   congr 1
   simp [flat32, rowW]
  ·obtain rfl : k = r.rows.length := by omega
   rw [List.take_length] at *
   have hkl : (r.rows.map rwD).length = r.rows.length := List.length_map _
   simp (maxDischargeDepth := 12) (maxSteps := 1000000) -implicitDefEqProofs only [go_sem, Nat.reduceAdd, Nat.reduceSub, Nat.reduceMul, Nat.reduceLeDiff, Nat.reduceEqDiff, Nat.reduceGT, Nat.reduceBEq, reduceCtorEq, ↓reduceIte, Int.reduceToNat, Int.reduceLE, Int.reduceLT, Int.reduceNe, Int.reduceEq, hkl, e1]
   refine ⟨fun hc => absurd hc (by omega), fun _ => ⟨fun hz => ?_, fun hz => ?_⟩⟩
   rotate_left
   refine useQ (n1 _) ?_
   simp (maxDischargeDepth := 12) (maxSteps := 1000000) -implicitDefEqProofs only [go_sem, Nat.reduceAdd, Nat.reduceSub, Nat.reduceMul, Nat.reduceLeDiff, Nat.reduceEqDiff, Nat.reduceGT, Nat.reduceBEq, reduceCtorEq, ↓reduceIte, Int.reduceToNat, Int.reduceLE, Int.reduceLT, Int.reduceNe, Int.reduceEq, tx_size]
   refine ⟨by omega, by omega, useQ (n2 _) ?_⟩
   simp (maxDischargeDepth := 12) (maxSteps := 1000000) -implicitDefEqProofs only [go_sem, Nat.reduceAdd, Nat.reduceSub, Nat.reduceMul, Nat.reduceLeDiff, Nat.reduceEqDiff, Nat.reduceGT, Nat.reduceBEq, reduceCtorEq, ↓reduceIte, Int.reduceToNat, Int.reduceLE, Int.reduceLT, Int.reduceNe, Int.reduceEq, tx_size]
   refine ⟨by omega, by omega, useQ (n3 _) ?_⟩
   simp (maxDischargeDepth := 12) (maxSteps := 1000000) -implicitDefEqProofs only [go_sem, Nat.reduceAdd, Nat.reduceSub, Nat.reduceMul, Nat.reduceLeDiff, Nat.reduceEqDiff, Nat.reduceGT, Nat.reduceBEq, reduceCtorEq, ↓reduceIte, Int.reduceToNat, Int.reduceLE, Int.reduceLT, Int.reduceNe, Int.reduceEq, tx_size]
   refine ⟨by omega, by omega, useQ (n4 _) ?_⟩
   simp (maxDischargeDepth := 12) (maxSteps := 1000000) -implicitDefEqProofs only [go_sem, Nat.reduceAdd, Nat.reduceSub, Nat.reduceMul, Nat.reduceLeDiff, Nat.reduceEqDiff, Nat.reduceGT, Nat.reduceBEq, reduceCtorEq, ↓reduceIte, Int.reduceToNat, Int.reduceLE, Int.reduceLT, Int.reduceNe, Int.reduceEq, tx_size]
   refine ⟨by omega, by omega, ?_⟩
   have hY : tx (X ++ flat32 (r.rows.map rowW)) ++ ((⟨#[32, 108, 105, 118, 101, 61]⟩ : ByteArray) ++ tx (Lib.itoa r.s1) ++ ⟨#[32, 102, 114, 101, 101, 61]⟩ ++ tx (Lib.itoa r.s2) ++ ⟨#[32, 119, 97, 105, 116, 61]⟩ ++ tx (Lib.itoa r.s3) ++ ⟨#[32, 104, 105, 103, 104, 61]⟩ ++ tx (Lib.itoa r.s4)) = tx (X ++ flat32 (r.rows.map rowW) ++ flat32 (stW r)) := by
    have hn : ¬(r.s1 = 0 ∧ r.s2 = 0 ∧ r.s3 = 0 ∧ r.s4 = 0) := by
     intro hh
     simp [hh.1, hh.2.1, hh.2.2.1, hh.2.2.2] at hz
    rw [show (⟨#[32, 108, 105, 118, 101, 61]⟩ : ByteArray) = tx [32, 108, 105, 118, 101, 61] from rfl, show (⟨#[32, 102, 114, 101, 101, 61]⟩ : ByteArray) = tx [32, 102, 114, 101, 101, 61] from rfl, show (⟨#[32, 119, 97, 105, 116, 61]⟩ : ByteArray) = tx [32, 119, 97, 105, 116, 61] from rfl, show (⟨#[32, 104, 105, 103, 104, 61]⟩ : ByteArray) = tx [32, 104, 105, 103, 104, 61] from rfl]
    simp only [tx_app]
    congr 2
    unfold stW
    rw [if_neg hn]
    simp [flat32]
   rw [hY]
   rotate_left
   rw [show X ++ flat32 (r.rows.map rowW) = X ++ flat32 (r.rows.map rowW) ++ flat32 (stW r) by
    simp only [Bool.and_eq_true, decide_eq_true_eq] at hz
    unfold stW
    rw [if_pos ⟨hz.1.1.1, hz.1.1.2, hz.1.2, hz.2⟩]
    simp [flat32]]
   all_goals
    have hYl : (X ++ flat32 (r.rows.map rowW) ++ flat32 (stW r)).length ≤ 400000000 := by
     have : (flat32 (stW r)).length ≤ 200 := by
      unfold stW flat32
      split
      ·simp
      ·simp; omega
     simp only [List.length_append] at *
     omega
    generalize X ++ flat32 (r.rows.map rowW) ++ flat32 (stW r) = Y at *
    refine loopN [] r.recs.length [1, 3, 6] (fun k => [(3, dS (tx (Y ++ flat32 ((r.recs.take k).map recW)))), (6, dI k)]) (fun _ => ⟨(b.n, [dI r.e, dI r.n, .sl 3 false (r.rows.map rwD), dI r.s1, dI r.s2, dI r.s3, dI r.s4, .sl 6 false (r.recs.map rcD)]) :: S.box, S.acc⟩) (fun _ => True) mx (by kernel_rfl) ?_ ?_
    ·simp (maxDischargeDepth := 12) (maxSteps := 1000000) -implicitDefEqProofs only [go_sem, Nat.reduceAdd, Nat.reduceSub, Nat.reduceMul, Nat.reduceLeDiff, Nat.reduceEqDiff, Nat.reduceGT, Nat.reduceBEq, reduceCtorEq, ↓reduceIte, Int.reduceToNat, Int.reduceLE, Int.reduceLT, Int.reduceNe, Int.reduceEq]
     rw [show flat32 [] = [] from rfl, List.append_nil]
    ·intro k hk _
     have e1 : IntKind.i64.wrap ((k : Int) + 1) = ((k + 1 : Nat) : Int) := by rw [w64 (by omega) (by omega)]; omega
     have hfl : (flat32 ((r.recs.take k).map recW)).length ≤ 60 * 6300001 := by
      refine Nat.le_trans (flat32_len 6300000 _ ?_) ?_
      ·intro w hw
       obtain ⟨x, hx, rfl⟩ := List.mem_map.1 hw
       exact recW_len (h.recs x (List.mem_of_mem_take hx))
      ·rw [List.length_map, List.length_take]
       exact Nat.mul_le_mul_right _ (by omega)
     by_cases hlt : k < r.recs.length
     ·have hke := List.getElem?_eq_getElem hlt
      have hko := h.recs _ (List.getElem_mem hlt)
      generalize r.recs[k] = x at hke hko
      have hkl : (r.recs.map rcD).length = r.recs.length := List.length_map _
      simp (maxDischargeDepth := 12) (maxSteps := 1000000) -implicitDefEqProofs only [go_sem, Nat.reduceAdd, Nat.reduceSub, Nat.reduceMul, Nat.reduceLeDiff, Nat.reduceEqDiff, Nat.reduceGT, Nat.reduceBEq, reduceCtorEq, ↓reduceIte, Int.reduceToNat, Int.reduceLE, Int.reduceLT, Int.reduceNe, Int.reduceEq, hkl, e1]
      refine ⟨fun _ => ⟨hlt, fun a ha b2 => ?_⟩, fun hc => absurd hlt hc⟩
      obtain rfl : a = x := by rw [hke] at ha; exact (Option.some.inj ha).symm
      have q1 := itoa_len a.a hko.a.1 hko.a.2
      have q2 := itoa_len a.f hko.f.1 hko.f.2
      have q3 := itoa_len a.t hko.t.1 hko.t.2
      have q4 := qt_len a.b
      have q5 := qt_len a.k
      have q6 := hko.b
      have q7 := hko.k
      have q8 := hko.d
      refine useQ (numberR w0 a.a hko.a.1 hko.a.2 _) ?_
      simp (maxDischargeDepth := 12) (maxSteps := 1000000) -implicitDefEqProofs only [go_sem, Nat.reduceAdd, Nat.reduceSub, Nat.reduceMul, Nat.reduceLeDiff, Nat.reduceEqDiff, Nat.reduceGT, Nat.reduceBEq, reduceCtorEq, ↓reduceIte, Int.reduceToNat, Int.reduceLE, Int.reduceLT, Int.reduceNe, Int.reduceEq, tx_size]
      refine ⟨by omega, by omega, useQ (numberR w0 a.f hko.f.1 hko.f.2 _) ?_⟩
      simp (maxDischargeDepth := 12) (maxSteps := 1000000) -implicitDefEqProofs only [go_sem, Nat.reduceAdd, Nat.reduceSub, Nat.reduceMul, Nat.reduceLeDiff, Nat.reduceEqDiff, Nat.reduceGT, Nat.reduceBEq, reduceCtorEq, ↓reduceIte, Int.reduceToNat, Int.reduceLE, Int.reduceLT, Int.reduceNe, Int.reduceEq, tx_size]
      refine ⟨by omega, by omega, useQ (numberR w0 a.t hko.t.1 hko.t.2 _) ?_⟩
      simp (maxDischargeDepth := 12) (maxSteps := 1000000) -implicitDefEqProofs only [go_sem, Nat.reduceAdd, Nat.reduceSub, Nat.reduceMul, Nat.reduceLeDiff, Nat.reduceEqDiff, Nat.reduceGT, Nat.reduceBEq, reduceCtorEq, ↓reduceIte, Int.reduceToNat, Int.reduceLE, Int.reduceLT, Int.reduceNe, Int.reduceEq, tx_size]
      refine ⟨by omega, by omega, useQ (quoteR w0 (tx a.b) (by rw [tx_size]; omega) _) ?_⟩
      simp (maxDischargeDepth := 12) (maxSteps := 1000000) -implicitDefEqProofs only [go_sem, Nat.reduceAdd, Nat.reduceSub, Nat.reduceMul, Nat.reduceLeDiff, Nat.reduceEqDiff, Nat.reduceGT, Nat.reduceBEq, reduceCtorEq, ↓reduceIte, Int.reduceToNat, Int.reduceLE, Int.reduceLT, Int.reduceNe, Int.reduceEq, tx_size, tx_list]
      refine ⟨by omega, by omega, useQ (quoteR w0 (tx a.k) (by rw [tx_size]; omega) _) ?_⟩
      have ed : IntKind.i64.wrap ((a.d : Nat) : Int) = ((a.d : Nat) : Int) := w64 (by omega) (by omega)
      have ei : Lib.itoa ((a.d : Nat) : Int) = Lib.decDigits a.d := by
       unfold Lib.itoa
       rw [if_neg (by omega)]
       simp
      have q9 := dec_len a.d (by omega)
      simp (maxDischargeDepth := 12) (maxSteps := 1000000) -implicitDefEqProofs only [go_sem, Nat.reduceAdd, Nat.reduceSub, Nat.reduceMul, Nat.reduceLeDiff, Nat.reduceEqDiff, Nat.reduceGT, Nat.reduceBEq, reduceCtorEq, ↓reduceIte, Int.reduceToNat, Int.reduceLE, Int.reduceLT, Int.reduceNe, Int.reduceEq, ed, tx_size, tx_list]
      refine ⟨by omega, by omega, useQ (numberR w0 ((a.d : Nat) : Int) (by omega) (by omega) _) ?_⟩
      rw [ei]
      simp (maxDischargeDepth := 12) (maxSteps := 1000000) -implicitDefEqProofs only [go_sem, Nat.reduceAdd, Nat.reduceSub, Nat.reduceMul, Nat.reduceLeDiff, Nat.reduceEqDiff, Nat.reduceGT, Nat.reduceBEq, reduceCtorEq, ↓reduceIte, Int.reduceToNat, Int.reduceLE, Int.reduceLT, Int.reduceNe, Int.reduceEq, tx_size]
      refine ⟨by omega, by omega, hlt, ?_, e1⟩
      rw [show ({ data := #[32] } : ByteArray) = tx [32] from rfl, show ({ data := #[58] } : ByteArray) = tx [58] from rfl, show ({ data := #[62] } : ByteArray) = tx [62] from rfl, show ({ data := #[47] } : ByteArray) = tx [47] from rfl, show ({ data := #[35] } : ByteArray) = tx [35] from rfl]
      simp only [tx_app]
      rw [List.take_add_one, hke, List.map_append, flat32_app]
      congr 1
      simp [flat32, recW]
     ·obtain rfl : k = r.recs.length := by omega
      rw [List.take_length] at *
      have hkl : (r.recs.map rcD).length = r.recs.length := List.length_map _
      simp (maxDischargeDepth := 12) (maxSteps := 1000000) -implicitDefEqProofs only [go_sem, Nat.reduceAdd, Nat.reduceSub, Nat.reduceMul, Nat.reduceLeDiff, Nat.reduceEqDiff, Nat.reduceGT, Nat.reduceBEq, reduceCtorEq, ↓reduceIte, Int.reduceToNat, Int.reduceLE, Int.reduceLT, Int.reduceNe, Int.reduceEq, hkl, e1]
      refine ⟨fun hc => absurd hc (by omega), fun _ => ?_⟩
      rw [hsh]
theorem showRs_len {r : Rs} (h : RsOk r) : (showRs r).length ≤ 140737488355328 := by
 have lE := itoa_len r.e h.e.1 h.e.2
 have lN := itoa_len r.n h.n.1 h.n.2
 have l1 := itoa_len r.s1 h.s1.1 h.s1.2
 have l2 := itoa_len r.s2 h.s2.1 h.s2.2
 have l3 := itoa_len r.s3 h.s3.1 h.s3.2
 have l4 := itoa_len r.s4 h.s4.1 h.s4.2
 have b1 := flat32_len 6300000 (r.rows.map rowW) (fun w hw => by obtain ⟨x, hx, rfl⟩ := List.mem_map.1 hw; exact rowW_len (h.rows x hx))
 have b2 := flat32_len 6300000 (r.recs.map recW) (fun w hw => by obtain ⟨x, hx, rfl⟩ := List.mem_map.1 hw; exact recW_len (h.recs x hx))
 have b3 : (flat32 (nW r.n)).length ≤ 100 := by unfold nW flat32; split <;> simp <;> omega
 have b4 : (flat32 (stW r)).length ≤ 200 := by unfold stW flat32; split <;> simp <;> omega
 have c1 := Nat.mul_le_mul_right 6300001 h.nr
 have c2 := Nat.mul_le_mul_right 6300001 h.nc
 rw [List.length_map] at b1 b2
 unfold showRs resR
 rw [flat32_app, flat32_app, flat32_app]
 simp only [List.length_append, List.length_cons, List.length_nil]
 omega
theorem resultP (w0 : W0) (hp : KP w0) (hu : KU w0) {r : Rs} (h : RsOk r) (S : St) : ACall Tryz.prog w0 22 [.agg (rsD r)] S (fun d S' => d = dS (tx (showRs r)) ∧ S' = S) := by
 have lE := itoa_len r.e h.e.1 h.e.2
 have lN := itoa_len r.n h.n.1 h.n.2
 have l1 := itoa_len r.s1 h.s1.1 h.s1.2
 have l2 := itoa_len r.s2 h.s2.1 h.s2.2
 have l3 := itoa_len r.s3 h.s3.1 h.s3.2
 have l4 := itoa_len r.s4 h.s4.1 h.s4.2
 have hLen := showRs_len h
 unfold rsD
 refine fnS [] mx Tryz.func22 rfl rfl (by kernel_rfl) ?_; simp (maxDischargeDepth := 12) (maxSteps := 1000000) -implicitDefEqProofs only [Tryz.ntmps22, go_sem, Nat.reduceAdd, Nat.reduceSub, Nat.reduceMul, Nat.reduceLeDiff, Nat.reduceEqDiff, Nat.reduceGT, Nat.reduceBEq, reduceCtorEq, ↓reduceIte, Int.reduceToNat, Int.reduceLE, Int.reduceLT, Int.reduceNe, Int.reduceEq]
 intro b
 refine use1 (itoaP w0 hp r.e h.e.1 h.e.2 _) ?_
 simp (maxDischargeDepth := 12) (maxSteps := 1000000) -implicitDefEqProofs only [go_sem, Nat.reduceAdd, Nat.reduceSub, Nat.reduceMul, Nat.reduceLeDiff, Nat.reduceEqDiff, Nat.reduceGT, Nat.reduceBEq, reduceCtorEq, ↓reduceIte, Int.reduceToNat, Int.reduceLE, Int.reduceLT, Int.reduceNe, Int.reduceEq, tx_size]
 have hE : (⟨#[101, 61]⟩ : ByteArray) ++ tx (Lib.itoa r.e) = tx ([101, 61] ++ Lib.itoa r.e) := by rw [show (⟨#[101, 61]⟩ : ByteArray) = tx [101, 61] from rfl, tx_app]
 have hN : (⟨#[110, 61]⟩ : ByteArray) ++ tx (Lib.itoa r.n) = tx ([110, 61] ++ Lib.itoa r.n) := by rw [show (⟨#[110, 61]⟩ : ByteArray) = tx [110, 61] from rfl, tx_app]
 refine ⟨by omega, fun h0 => ?_, fun h0 => ?_⟩
 refine use1 (itoaP w0 hp r.n h.n.1 h.n.2 _) ?_
 simp (maxDischargeDepth := 12) (maxSteps := 1000000) -implicitDefEqProofs only [go_sem, Nat.reduceAdd, Nat.reduceSub, Nat.reduceMul, Nat.reduceLeDiff, Nat.reduceEqDiff, Nat.reduceGT, Nat.reduceBEq, reduceCtorEq, ↓reduceIte, Int.reduceToNat, Int.reduceLE, Int.reduceLT, Int.reduceNe, Int.reduceEq, tx_size]
 refine ⟨by omega, by decide, fun l => ?_⟩
 rw [hE, hN]
 have hW : [DV.v (.string (tx ([101, 61] ++ Lib.itoa r.e))), .v (.string (tx ([110, 61] ++ Lib.itoa r.n)))] = keepD (([101, 61] ++ Lib.itoa r.e) :: nW r.n) := by
  unfold nW; rw [if_neg h0]; rfl
 have hWl : (([101, 61] ++ Lib.itoa r.e) :: nW r.n).length = 2 := by unfold nW; rw [if_neg h0]; rfl
 rw [hW]
 rotate_left
 refine tailK 3 (s := 1) rfl (by decide) fun l => ?_
 simp (maxDischargeDepth := 12) (maxSteps := 1000000) -implicitDefEqProofs only [go_sem, Nat.reduceAdd, Nat.reduceSub, Nat.reduceMul, Nat.reduceLeDiff, Nat.reduceEqDiff, Nat.reduceGT, Nat.reduceBEq, reduceCtorEq, ↓reduceIte, Int.reduceToNat, Int.reduceLE, Int.reduceLT, Int.reduceNe, Int.reduceEq]
 rw [hE]
 have hW : [DV.v (.string (tx ([101, 61] ++ Lib.itoa r.e)))] = keepD (([101, 61] ++ Lib.itoa r.e) :: nW r.n) := by
  unfold nW; rw [if_pos (Decidable.not_not.1 h0)]; rfl
 have hWl : (([101, 61] ++ Lib.itoa r.e) :: nW r.n).length = 1 := by unfold nW; rw [if_pos (Decidable.not_not.1 h0)]; rfl
 rw [hW]
 all_goals
  clear hW
  have hsW : showRs r = Lib.join ((([101, 61] ++ Lib.itoa r.e) :: nW r.n) ++ r.rows.map rowW ++ stW r ++ r.recs.map recW) [32] := by
   rw [List.cons_append, List.cons_append, List.cons_append, join32]; rfl
  generalize (([101, 61] ++ Lib.itoa r.e) :: nW r.n) = W at *
  have hnr := h.nr
  have hnc := h.nc
  have hkl : (r.rows.map rwD).length = r.rows.length := List.length_map _
  refine loopN [] r.rows.length [1, 3, 26, 27, 28] (fun k => [(3, .acc l.n (W.length + k)), (28, dI k)]) (fun k => ⟨(b.n, [dI r.e, dI r.n, .sl 3 false (r.rows.map rwD), dI r.s1, dI r.s2, dI r.s3, dI r.s4, .sl 6 false (r.recs.map rcD)]) :: S.box, (l.n, .tl 1 (keepD (W ++ (r.rows.take k).map rowW))) :: S.acc⟩) (fun _ => True) mx (by kernel_rfl) ?_ ?_
  ·simp (maxDischargeDepth := 12) (maxSteps := 1000000) -implicitDefEqProofs only [go_sem, Nat.reduceAdd, Nat.reduceSub, Nat.reduceMul, Nat.reduceLeDiff, Nat.reduceEqDiff, Nat.reduceGT, Nat.reduceBEq, reduceCtorEq, ↓reduceIte, Int.reduceToNat, Int.reduceLE, Int.reduceLT, Int.reduceNe, Int.reduceEq, hWl]
  ·intro k hk _
   have e1 : IntKind.i64.wrap ((k : Int) + 1) = ((k + 1 : Nat) : Int) := by rw [w64 (by omega) (by omega)]; omega
   by_cases hlt : k < r.rows.length
   ·have hke := List.getElem?_eq_getElem hlt
    have hko := h.rows _ (List.getElem_mem hlt)
    generalize r.rows[k] = x at hke hko
    simp (maxDischargeDepth := 12) (maxSteps := 1000000) -implicitDefEqProofs only [go_sem, Nat.reduceAdd, Nat.reduceSub, Nat.reduceMul, Nat.reduceLeDiff, Nat.reduceEqDiff, Nat.reduceGT, Nat.reduceBEq, reduceCtorEq, ↓reduceIte, Int.reduceToNat, Int.reduceLE, Int.reduceLT, Int.reduceNe, Int.reduceEq, hkl, e1]
    refine ⟨fun _ => ⟨hlt, fun a ha b2 => ?_⟩, fun hc => absurd hlt hc⟩
    obtain rfl : a = x := by rw [hke] at ha; exact (Option.some.inj ha).symm
    have q1 := itoa_len a.l hko.l.1 hko.l.2
    have q2 := qt_len a.k
    have q3 := qt_len a.v
    have q4 := hko.k
    have q5 := hko.v
    refine useQ (itoaP w0 hp a.l hko.l.1 hko.l.2 _) ?_
    simp (maxDischargeDepth := 12) (maxSteps := 1000000) -implicitDefEqProofs only [go_sem, Nat.reduceAdd, Nat.reduceSub, Nat.reduceMul, Nat.reduceLeDiff, Nat.reduceEqDiff, Nat.reduceGT, Nat.reduceBEq, reduceCtorEq, ↓reduceIte, Int.reduceToNat, Int.reduceLE, Int.reduceLT, Int.reduceNe, Int.reduceEq, tx_size]
    refine ⟨by omega, useQ (quoteP w0 hu (tx a.k) (by rw [tx_size]; omega) _) ?_⟩
    simp (maxDischargeDepth := 12) (maxSteps := 1000000) -implicitDefEqProofs only [go_sem, Nat.reduceAdd, Nat.reduceSub, Nat.reduceMul, Nat.reduceLeDiff, Nat.reduceEqDiff, Nat.reduceGT, Nat.reduceBEq, reduceCtorEq, ↓reduceIte, Int.reduceToNat, Int.reduceLE, Int.reduceLT, Int.reduceNe, Int.reduceEq, tx_size, tx_list]
    refine ⟨by omega, by omega, useQ (quoteP w0 hu (tx a.v) (by rw [tx_size]; omega) _) ?_⟩
    simp (maxDischargeDepth := 12) (maxSteps := 1000000) -implicitDefEqProofs only [go_sem, Nat.reduceAdd, Nat.reduceSub, Nat.reduceMul, Nat.reduceLeDiff, Nat.reduceEqDiff, Nat.reduceGT, Nat.reduceBEq, reduceCtorEq, ↓reduceIte, Int.reduceToNat, Int.reduceLE, Int.reduceLT, Int.reduceNe, Int.reduceEq, tx_size, tx_list]
    have hkL : (keepD (W ++ (r.rows.take k).map rowW)).length = W.length + k := by rw [keepD_len, List.length_append, List.length_map, List.length_take]; omega
    have hms : maxLen = 9223372036854775807 := rfl
    refine ⟨by omega, hkL, by omega, by omega, hlt, ⟨by rw [hkL, Nat.add_assoc]; exact .refl _, e1⟩, ?_⟩
    have et : keepD (W ++ (r.rows.take (k + 1)).map rowW) = keepD (W ++ (r.rows.take k).map rowW) ++ [DV.v (.string (tx (Lib.itoa a.l) ++ ⟨#[58]⟩ ++ tx (qt a.k) ++ ⟨#[61]⟩ ++ tx (qt a.v)))] := by
     rw [show (⟨#[58]⟩ : ByteArray) = tx [58] from rfl, show (⟨#[61]⟩ : ByteArray) = tx [61] from rfl]
     simp only [tx_app]
     rw [List.take_add_one, hke, List.map_append, ← List.append_assoc, keepD_app]
     congr 1
    rw [et]
    exact .consB (.refl _)
   ·obtain rfl : k = r.rows.length := by omega
    rw [List.take_length] at *
    simp (maxDischargeDepth := 12) (maxSteps := 1000000) -implicitDefEqProofs only [go_sem, Nat.reduceAdd, Nat.reduceSub, Nat.reduceMul, Nat.reduceLeDiff, Nat.reduceEqDiff, Nat.reduceGT, Nat.reduceBEq, reduceCtorEq, ↓reduceIte, Int.reduceToNat, Int.reduceLE, Int.reduceLT, Int.reduceNe, Int.reduceEq, hkl, e1]
    refine ⟨fun hc => absurd hc (by omega), fun _ c => ⟨fun hz => ?_, fun hz => ?_⟩⟩
    rotate_left
    refine useQ (itoaP w0 hp r.s1 h.s1.1 h.s1.2 _) ?_
    simp (maxDischargeDepth := 12) (maxSteps := 1000000) -implicitDefEqProofs only [go_sem, Nat.reduceAdd, Nat.reduceSub, Nat.reduceMul, Nat.reduceLeDiff, Nat.reduceEqDiff, Nat.reduceGT, Nat.reduceBEq, reduceCtorEq, ↓reduceIte, Int.reduceToNat, Int.reduceLE, Int.reduceLT, Int.reduceNe, Int.reduceEq, tx_size]
    refine ⟨by omega, useQ (itoaP w0 hp r.s2 h.s2.1 h.s2.2 _) ?_⟩
    simp (maxDischargeDepth := 12) (maxSteps := 1000000) -implicitDefEqProofs only [go_sem, Nat.reduceAdd, Nat.reduceSub, Nat.reduceMul, Nat.reduceLeDiff, Nat.reduceEqDiff, Nat.reduceGT, Nat.reduceBEq, reduceCtorEq, ↓reduceIte, Int.reduceToNat, Int.reduceLE, Int.reduceLT, Int.reduceNe, Int.reduceEq, tx_size]
    refine ⟨by omega, useQ (itoaP w0 hp r.s3 h.s3.1 h.s3.2 _) ?_⟩
    simp (maxDischargeDepth := 12) (maxSteps := 1000000) -implicitDefEqProofs only [go_sem, Nat.reduceAdd, Nat.reduceSub, Nat.reduceMul, Nat.reduceLeDiff, Nat.reduceEqDiff, Nat.reduceGT, Nat.reduceBEq, reduceCtorEq, ↓reduceIte, Int.reduceToNat, Int.reduceLE, Int.reduceLT, Int.reduceNe, Int.reduceEq, tx_size]
    refine ⟨by omega, useQ (itoaP w0 hp r.s4 h.s4.1 h.s4.2 _) ?_⟩
    simp (maxDischargeDepth := 12) (maxSteps := 1000000) -implicitDefEqProofs only [go_sem, Nat.reduceAdd, Nat.reduceSub, Nat.reduceMul, Nat.reduceLeDiff, Nat.reduceEqDiff, Nat.reduceGT, Nat.reduceBEq, reduceCtorEq, ↓reduceIte, Int.reduceToNat, Int.reduceLE, Int.reduceLT, Int.reduceNe, Int.reduceEq, tx_size]
    have hkL : (keepD (W ++ r.rows.map rowW)).length = W.length + r.rows.length := by rw [keepD_len, List.length_append, List.length_map]
    have hms : maxLen = 9223372036854775807 := rfl
    refine ⟨by omega, hkL, by omega, by omega, ?_⟩
    have et : keepD (W ++ r.rows.map rowW) ++ [DV.v (.string (⟨#[108, 105, 118, 101, 61]⟩ ++ tx (Lib.itoa r.s1))), .v (.string (⟨#[102, 114, 101, 101, 61]⟩ ++ tx (Lib.itoa r.s2))), .v (.string (⟨#[119, 97, 105, 116, 61]⟩ ++ tx (Lib.itoa r.s3))), .v (.string (⟨#[104, 105, 103, 104, 61]⟩ ++ tx (Lib.itoa r.s4)))] = keepD (W ++ r.rows.map rowW ++ stW r) := by
     have hn : ¬(r.s1 = 0 ∧ r.s2 = 0 ∧ r.s3 = 0 ∧ r.s4 = 0) := by
      intro hh
      simp [hh.1, hh.2.1, hh.2.2.1, hh.2.2.2] at hz
     rw [show (⟨#[108, 105, 118, 101, 61]⟩ : ByteArray) = tx [108, 105, 118, 101, 61] from rfl, show (⟨#[102, 114, 101, 101, 61]⟩ : ByteArray) = tx [102, 114, 101, 101, 61] from rfl, show (⟨#[119, 97, 105, 116, 61]⟩ : ByteArray) = tx [119, 97, 105, 116, 61] from rfl, show (⟨#[104, 105, 103, 104, 61]⟩ : ByteArray) = tx [104, 105, 103, 104, 61] from rfl]
     simp only [tx_app]
     rw [keepD_app (W ++ r.rows.map rowW)]
     congr 1
     unfold stW
     rw [if_neg hn]
     rfl
    have hVl : (W ++ r.rows.map rowW ++ stW r).length = W.length + r.rows.length + 4 := by
     have hn : ¬(r.s1 = 0 ∧ r.s2 = 0 ∧ r.s3 = 0 ∧ r.s4 = 0) := by
      intro hh
      simp [hh.1, hh.2.1, hh.2.2.1, hh.2.2.2] at hz
     rw [List.length_append, List.length_append, List.length_map]
     unfold stW
     rw [if_neg hn]; rfl
    rw [et, hkL, ← hVl]
    rotate_left
    have hst : stW r = [] := by
     simp only [Bool.and_eq_true, decide_eq_true_eq] at hz
     unfold stW
     rw [if_pos ⟨hz.1.1.1, hz.1.1.2, hz.1.2, hz.2⟩]
    have hVl : (W ++ r.rows.map rowW ++ stW r).length = W.length + r.rows.length := by
     rw [hst, List.append_nil, List.length_append, List.length_map]
    rw [show W ++ r.rows.map rowW = W ++ r.rows.map rowW ++ stW r by rw [hst, List.append_nil], ← hVl]
    all_goals
     have hVb : (W ++ r.rows.map rowW ++ stW r).length ≤ 66 := by omega
     have hV1 : 1 ≤ (W ++ r.rows.map rowW ++ stW r).length := by omega
     clear hVl
     generalize W ++ r.rows.map rowW ++ stW r = V at *
     have hkl2 : (r.recs.map rcD).length = r.recs.length := List.length_map _
     refine loopN [] r.recs.length [3, 74, 75, 76] (fun k => [(3, .acc l.n (V.length + k)), (76, dI k)]) (fun k => ⟨(b.n, [dI r.e, dI r.n, .sl 3 false (r.rows.map rwD), dI r.s1, dI r.s2, dI r.s3, dI r.s4, .sl 6 false (r.recs.map rcD)]) :: S.box, (l.n, .tl 1 (keepD (V ++ (r.recs.take k).map recW))) :: S.acc⟩) (fun _ => True) mx (by kernel_rfl) ?_ ?_
     ·simp (maxDischargeDepth := 12) (maxSteps := 1000000) -implicitDefEqProofs only [go_sem, Nat.reduceAdd, Nat.reduceSub, Nat.reduceMul, Nat.reduceLeDiff, Nat.reduceEqDiff, Nat.reduceGT, Nat.reduceBEq, reduceCtorEq, ↓reduceIte, Int.reduceToNat, Int.reduceLE, Int.reduceLT, Int.reduceNe, Int.reduceEq]
      exact .refl _
     ·intro k hk _
      have e1 : IntKind.i64.wrap ((k : Int) + 1) = ((k + 1 : Nat) : Int) := by rw [w64 (by omega) (by omega)]; omega
      by_cases hlt : k < r.recs.length
      ·have hke := List.getElem?_eq_getElem hlt
       have hko := h.recs _ (List.getElem_mem hlt)
       generalize r.recs[k] = x at hke hko
       simp (maxDischargeDepth := 12) (maxSteps := 1000000) -implicitDefEqProofs only [go_sem, Nat.reduceAdd, Nat.reduceSub, Nat.reduceMul, Nat.reduceLeDiff, Nat.reduceEqDiff, Nat.reduceGT, Nat.reduceBEq, reduceCtorEq, ↓reduceIte, Int.reduceToNat, Int.reduceLE, Int.reduceLT, Int.reduceNe, Int.reduceEq, hkl2, e1]
       refine ⟨fun _ => ⟨hlt, fun a ha b2 => ?_⟩, fun hc => absurd hlt hc⟩
       obtain rfl : a = x := by rw [hke] at ha; exact (Option.some.inj ha).symm
       have q1 := itoa_len a.a hko.a.1 hko.a.2
       have q2 := itoa_len a.f hko.f.1 hko.f.2
       have q3 := itoa_len a.t hko.t.1 hko.t.2
       have q4 := qt_len a.b
       have q5 := qt_len a.k
       have q6 := hko.b
       have q7 := hko.k
       have q8 := hko.d
       have q9 := dec_len a.d (by omega)
       refine useQ (itoaP w0 hp a.a hko.a.1 hko.a.2 _) ?_
       simp (maxDischargeDepth := 12) (maxSteps := 1000000) -implicitDefEqProofs only [go_sem, Nat.reduceAdd, Nat.reduceSub, Nat.reduceMul, Nat.reduceLeDiff, Nat.reduceEqDiff, Nat.reduceGT, Nat.reduceBEq, reduceCtorEq, ↓reduceIte, Int.reduceToNat, Int.reduceLE, Int.reduceLT, Int.reduceNe, Int.reduceEq, tx_size]
       refine ⟨by omega, useQ (itoaP w0 hp a.f hko.f.1 hko.f.2 _) ?_⟩
       simp (maxDischargeDepth := 12) (maxSteps := 1000000) -implicitDefEqProofs only [go_sem, Nat.reduceAdd, Nat.reduceSub, Nat.reduceMul, Nat.reduceLeDiff, Nat.reduceEqDiff, Nat.reduceGT, Nat.reduceBEq, reduceCtorEq, ↓reduceIte, Int.reduceToNat, Int.reduceLE, Int.reduceLT, Int.reduceNe, Int.reduceEq, tx_size]
       refine ⟨by omega, by omega, useQ (itoaP w0 hp a.t hko.t.1 hko.t.2 _) ?_⟩
       simp (maxDischargeDepth := 12) (maxSteps := 1000000) -implicitDefEqProofs only [go_sem, Nat.reduceAdd, Nat.reduceSub, Nat.reduceMul, Nat.reduceLeDiff, Nat.reduceEqDiff, Nat.reduceGT, Nat.reduceBEq, reduceCtorEq, ↓reduceIte, Int.reduceToNat, Int.reduceLE, Int.reduceLT, Int.reduceNe, Int.reduceEq, tx_size]
       refine ⟨by omega, by omega, useQ (quoteP w0 hu (tx a.b) (by rw [tx_size]; omega) _) ?_⟩
       simp (maxDischargeDepth := 12) (maxSteps := 1000000) -implicitDefEqProofs only [go_sem, Nat.reduceAdd, Nat.reduceSub, Nat.reduceMul, Nat.reduceLeDiff, Nat.reduceEqDiff, Nat.reduceGT, Nat.reduceBEq, reduceCtorEq, ↓reduceIte, Int.reduceToNat, Int.reduceLE, Int.reduceLT, Int.reduceNe, Int.reduceEq, tx_size, tx_list]
       refine ⟨by omega, by omega, useQ (quoteP w0 hu (tx a.k) (by rw [tx_size]; omega) _) ?_⟩
       have ed : IntKind.u64.wrap ((a.d : Nat) : Int) = ((a.d : Nat) : Int) := by show ((a.d : Int) % 18446744073709551616) = a.d; omega
       simp (maxDischargeDepth := 12) (maxSteps := 1000000) -implicitDefEqProofs only [go_sem, Nat.reduceAdd, Nat.reduceSub, Nat.reduceMul, Nat.reduceLeDiff, Nat.reduceEqDiff, Nat.reduceGT, Nat.reduceBEq, reduceCtorEq, ↓reduceIte, Int.reduceToNat, Int.reduceLE, Int.reduceLT, Int.reduceNe, Int.reduceEq, tx_size, tx_list, ed]
       refine ⟨by omega, by omega, useQ (formatP w0 hp a.d (by omega) _) ?_⟩
       simp (maxDischargeDepth := 12) (maxSteps := 1000000) -implicitDefEqProofs only [go_sem, Nat.reduceAdd, Nat.reduceSub, Nat.reduceMul, Nat.reduceLeDiff, Nat.reduceEqDiff, Nat.reduceGT, Nat.reduceBEq, reduceCtorEq, ↓reduceIte, Int.reduceToNat, Int.reduceLE, Int.reduceLT, Int.reduceNe, Int.reduceEq, tx_size, tx_list]
       have hkL : (keepD (V ++ (r.recs.take k).map recW)).length = V.length + k := by rw [keepD_len, List.length_append, List.length_map, List.length_take]; omega
       have hms : maxLen = 9223372036854775807 := rfl
       refine ⟨by omega, hkL, by omega, by omega, hlt, ⟨by rw [hkL, Nat.add_assoc]; exact .refl _, e1⟩, ?_⟩
       have et : keepD (V ++ (r.recs.take (k + 1)).map recW) = keepD (V ++ (r.recs.take k).map recW) ++ [DV.v (.string (tx (Lib.itoa a.a) ++ ⟨#[58]⟩ ++ tx (Lib.itoa a.f) ++ ⟨#[62]⟩ ++ tx (Lib.itoa a.t) ++ ⟨#[58]⟩ ++ tx (qt a.b) ++ ⟨#[47]⟩ ++ tx (qt a.k) ++ ⟨#[35]⟩ ++ tx (Lib.decDigits a.d)))] := by
        rw [show (⟨#[58]⟩ : ByteArray) = tx [58] from rfl, show (⟨#[62]⟩ : ByteArray) = tx [62] from rfl, show (⟨#[47]⟩ : ByteArray) = tx [47] from rfl, show (⟨#[35]⟩ : ByteArray) = tx [35] from rfl]
        simp only [tx_app]
        rw [List.take_add_one, hke, List.map_append, ← List.append_assoc, keepD_app]
        congr 1
       rw [et]
       exact .consB (.refl _)
      ·obtain rfl : k = r.recs.length := by omega
       rw [List.take_length] at *
       simp (maxDischargeDepth := 12) (maxSteps := 1000000) -implicitDefEqProofs only [go_sem, Nat.reduceAdd, Nat.reduceSub, Nat.reduceMul, Nat.reduceLeDiff, Nat.reduceEqDiff, Nat.reduceGT, Nat.reduceBEq, reduceCtorEq, ↓reduceIte, Int.reduceToNat, Int.reduceLE, Int.reduceLT, Int.reduceNe, Int.reduceEq, hkl2, e1]
       refine ⟨fun hc => absurd hc (by omega), fun _ => Or.inr ⟨by rw [keepD_len, List.length_append, List.length_map], ?_⟩⟩
       refine use1 (joinP w0 false (V ++ r.recs.map recW) (fun hc => by rw [List.append_eq_nil_iff] at hc; rw [hc.1] at hV1; exact absurd hV1 (by decide)) (by rw [List.length_append, List.length_map]; omega) (by rw [← hsW]; exact hLen) _) ?_
       rw [← hsW]
       simp (maxDischargeDepth := 12) (maxSteps := 1000000) -implicitDefEqProofs only [go_sem, Nat.reduceAdd, Nat.reduceSub, Nat.reduceMul, Nat.reduceLeDiff, Nat.reduceEqDiff, Nat.reduceGT, Nat.reduceBEq, reduceCtorEq, ↓reduceIte, Int.reduceToNat, Int.reduceLE, Int.reduceLT, Int.reduceNe, Int.reduceEq]
structure RsB (r : Rs) : Prop where
 e : inI r.e
 n : inI r.n
 s1 : inI r.s1
 s2 : inI r.s2
 s3 : inI r.s3
 s4 : inI r.s4
 rows : ∀ x, x ∈ r.rows → RwOk x
 recs : ∀ x, x ∈ r.recs → RcOk x
 nr : r.rows.length ≤ 1048576
 nc : r.recs.length ≤ 1048576
theorem resultsP (w0 : W0) (hg : GlobN w0) (hp : KP w0) (hu : KU w0) (hk' : KE w0) (hm : KM w0) {r : Rs} (h : RsB r) (S : St) :
  ACall Tryz.prog w0 5 [.agg (rsD r)] S (fun d S' => d = dB true ∧ S' = S) := by
 have hok : ∀ (h1 : r.rows.length ≤ 60) (h2 : r.recs.length ≤ 60), RsOk r := fun h1 h2 => ⟨h.e, h.n, h.s1, h.s2, h.s3, h.s4, h.rows, h.recs, h1, h2⟩
 have hP := fun h1 h2 S => resultP w0 hp hu (hok h1 h2) S
 have hR := fun h1 h2 S => resultR w0 hu (hok h1 h2) S
 have hk1 : (r.rows.map rwD).length = r.rows.length := List.length_map _
 have hk2 : (r.recs.map rcD).length = r.recs.length := List.length_map _
 have hnr := h.nr
 have hnc := h.nc
 unfold rsD at *
 refine fnS [] mx Tryz.func5 rfl rfl (by kernel_rfl) ?_; simp (maxDischargeDepth := 12) (maxSteps := 1000000) -implicitDefEqProofs only [Tryz.ntmps5, go_sem, Nat.reduceAdd, Nat.reduceSub, Nat.reduceMul, Nat.reduceLeDiff, Nat.reduceEqDiff, Nat.reduceGT, Nat.reduceBEq, reduceCtorEq, ↓reduceIte, Int.reduceToNat, Int.reduceLE, Int.reduceLT, Int.reduceNe, Int.reduceEq]
 intro b
 refine use1 (awakeP w0 hg hp hu hk' hm _) ?_
 simp (maxDischargeDepth := 12) (maxSteps := 1000000) -implicitDefEqProofs only [go_sem, Nat.reduceAdd, Nat.reduceSub, Nat.reduceMul, Nat.reduceLeDiff, Nat.reduceEqDiff, Nat.reduceGT, Nat.reduceBEq, reduceCtorEq, ↓reduceIte, Int.reduceToNat, Int.reduceLE, Int.reduceLT, Int.reduceNe, Int.reduceEq, hk1, hk2]
 intro g1 g2
 refine useQ (hP (by omega) (by omega) _) ?_
 simp (maxDischargeDepth := 12) (maxSteps := 1000000) -implicitDefEqProofs only [go_sem, Nat.reduceAdd, Nat.reduceSub, Nat.reduceMul, Nat.reduceLeDiff, Nat.reduceEqDiff, Nat.reduceGT, Nat.reduceBEq, reduceCtorEq, ↓reduceIte, Int.reduceToNat, Int.reduceLE, Int.reduceLT, Int.reduceNe, Int.reduceEq]
 refine useQ (hR (by omega) (by omega) _) ?_
 simp (maxDischargeDepth := 12) (maxSteps := 1000000) -implicitDefEqProofs only [go_sem, Nat.reduceAdd, Nat.reduceSub, Nat.reduceMul, Nat.reduceLeDiff, Nat.reduceEqDiff, Nat.reduceGT, Nat.reduceBEq, reduceCtorEq, ↓reduceIte, Int.reduceToNat, Int.reduceLE, Int.reduceLT, Int.reduceNe, Int.reduceEq]
end Go.Proofs.YtldimfofkbomnaaGreatDoor
namespace Go.Proofs.YtldimfofkbomnaaGreatDoor
open Aml Go Go.RowKit Go.ChangeShapes Go.WideShapes Go.ChangeAt
theorem rd_convO {P : Program} {W : World} {t : TypeId} {α β : Type} {en : α → List DV} {sz : α → Nat} {ok : α → Prop} {en' : β → List DV} {sz' : β → Nat} {ok' : β → Prop} (h : Rd P W t en sz ok) (f : α → β) (he : ∀ a, ok a → en a = en' (f a)) (hs : ∀ a, sz' (f a) ≤ sz a) (ho : ∀ a, ok a → ok' (f a)) : Rd P W t en' sz' ok' :=
 fun H enc n cs x hx => let ⟨a, h1, h2, h3, h4⟩ := h H enc n cs x hx; ⟨f a, ho a h1, Nat.le_trans (hs a) h2, by rw [← he a h1]; exact h3, h4⟩
theorem bounds_u32 {n : Int} (h : (Lit.int .u32 n).wf = true) : 0 ≤ n ∧ n < 4294967296 := by
 simp only [Lit.wf, Bool.and_eq_true, decide_eq_true_eq] at h
 have h1 : IntKind.u32.min = 0 := rfl
 have h2 : IntKind.u32.max = 4294967295 := rfl
 omega
theorem rdU32 {W : World} : Rd Tryz.prog W 94 (fun n : Nat => [.v (.int .u32 (n : Nat))]) (fun _ => 1) (fun n => n < 4294967296) :=
 rd_convO (rd_int .u32 Tryz.underlying94) Int.toNat (fun n h => by rw [Int.toNat_of_nonneg (bounds_u32 h).1]) (fun _ => Nat.le_refl _) fun n h => by
  have := bounds_u32 h; omega
def szRw (r : Rw) : Nat := r.k.length + r.v.length + 1
def szRc (r : Rc) : Nat := r.b.length + r.k.length + 1
def RwI (r : Rw) : Prop := inI r.l
def RcI (r : Rc) : Prop := inI r.a ∧ inI r.f ∧ inI r.t ∧ r.d < 4294967296
theorem rdRw {W : World} : Rd Tryz.prog W 93 (fun r : Rw => [dS (tx r.k), dI r.l, dS (tx r.v)]) szRw RwI := by
 have h := rd_struct (W := W) Tryz.underlying93 (total := 3) (by kernel_rfl) rfl
  (rdF_cons (k := 1) (rd_str Tryz.underlying9) rfl (by kernel_rfl) (rdF_cons (k := 1) (rd_i64 Tryz.underlying3) rfl (by kernel_rfl) (rdF_cons (k := 1) (rd_str Tryz.underlying9) rfl (by kernel_rfl) rdF_nil)))
 exact h.conv (fun a => ⟨a.1.data.toList, a.2.1, a.2.2.1.data.toList⟩) (fun _ => rfl) (fun a => by
  unfold szRw
  simp only [size_list]
  omega) fun a ha => ha.2.1
theorem rdRc {W : World} : Rd Tryz.prog W 96 (fun r : Rc => [dI r.a, dI r.f, dI r.t, dS (tx r.b), dS (tx r.k), .v (.int .u32 (r.d : Nat))]) szRc RcI := by
 have h := rd_struct (W := W) Tryz.underlying96 (total := 6) (by kernel_rfl) rfl
  (rdF_cons (k := 1) (rd_i64 Tryz.underlying3) rfl (by kernel_rfl) (rdF_cons (k := 1) (rd_i64 Tryz.underlying3) rfl (by kernel_rfl) (rdF_cons (k := 1) (rd_i64 Tryz.underlying3) rfl (by kernel_rfl)
  (rdF_cons (k := 1) (rd_str Tryz.underlying9) rfl (by kernel_rfl) (rdF_cons (k := 1) (rd_str Tryz.underlying9) rfl (by kernel_rfl) (rdF_cons (k := 1) rdU32 rfl (by kernel_rfl) rdF_nil))))))
 exact h.conv (fun a => ⟨a.1, a.2.1, a.2.2.1, a.2.2.2.1.data.toList, a.2.2.2.2.1.data.toList, a.2.2.2.2.2.1⟩) (fun _ => rfl) (fun a => by
  unfold szRc
  simp only [size_list]
  omega) fun a ha => ⟨ha.1, ha.2.1, ha.2.2.1, ha.2.2.2.2.2.1⟩
theorem rdRws {W : World} : Rd Tryz.prog W 42 (fun l : List Rw => [.sl 3 false (l.map rwD)]) (fun l => (l.map szRw).sum) (fun l => ∀ o, o ∈ l → RwI o) :=
 (rd_sliceA rdRw Tryz.underlying42 (k := 3) (by kernel_rfl) (by omega)).conv id (fun _ => rfl) (fun l => by simp only [id]; omega) fun _ h => h
theorem rdRcs {W : World} : Rd Tryz.prog W 45 (fun l : List Rc => [.sl 6 false (l.map rcD)]) (fun l => (l.map szRc).sum) (fun l => ∀ o, o ∈ l → RcI o) :=
 (rd_sliceA rdRc Tryz.underlying45 (k := 6) (by kernel_rfl) (by omega)).conv id (fun _ => rfl) (fun l => by simp only [id]; omega) fun _ h => h
structure St4 where
 a : Int
 b : Int
 c : Int
 d : Int
theorem rdSt4 {W : World} : Rd Tryz.prog W 44 (fun s : St4 => [dI s.a, dI s.b, dI s.c, dI s.d]) (fun _ => 1) (fun s => inI s.a ∧ inI s.b ∧ inI s.c ∧ inI s.d) := by
 have rI := fun {W : World} => rd_i64 (P := Tryz.prog) (W := W) Tryz.underlying3
 have h := rd_struct (W := W) Tryz.underlying44 (total := 4) (by kernel_rfl) rfl
  (rdF_cons (k := 1) rI rfl (by kernel_rfl) (rdF_cons (k := 1) rI rfl (by kernel_rfl) (rdF_cons (k := 1) rI rfl (by kernel_rfl) (rdF_cons (k := 1) rI rfl (by kernel_rfl) rdF_nil))))
 exact h.conv (fun a => ⟨a.1, a.2.1, a.2.2.1, a.2.2.2.1⟩) (fun _ => rfl) (fun a => by omega) fun a ha => ⟨ha.1, ha.2.1, ha.2.2.1, ha.2.2.2.1⟩
def szRs (r : Rs) : Nat := (r.rows.map szRw).sum + (r.recs.map szRc).sum
structure RsI (r : Rs) : Prop where
 e : inI r.e
 n : inI r.n
 s1 : inI r.s1
 s2 : inI r.s2
 s3 : inI r.s3
 s4 : inI r.s4
 rows : ∀ x, x ∈ r.rows → RwI x
 recs : ∀ x, x ∈ r.recs → RcI x
theorem rdRs {W : World} : Rd Tryz.prog W 47 rsD szRs RsI := by
 have rI := fun {W : World} => rd_i64 (P := Tryz.prog) (W := W) Tryz.underlying3
 have rE := fun {W : World} => rd_i64 (P := Tryz.prog) (W := W) Tryz.underlying31
 have h := rd_struct (W := W) Tryz.underlying47 (total := 8) (by kernel_rfl) rfl
  (rdF_cons (k := 1) rE rfl (by kernel_rfl) (rdF_cons (k := 1) rI rfl (by kernel_rfl) (rdF_cons (k := 1) rdRws rfl (by kernel_rfl) (rdF_cons (k := 4) rdSt4 rfl (by kernel_rfl) (rdF_cons (k := 1) rdRcs rfl (by kernel_rfl) rdF_nil)))))
 exact h.conv (fun a => ⟨a.1, a.2.1, a.2.2.1, a.2.2.2.1.a, a.2.2.2.1.b, a.2.2.2.1.c, a.2.2.2.1.d, a.2.2.2.2.1⟩) (fun _ => rfl) (fun a => by
  unfold szRs
  dsimp only
  omega) fun a ha => ⟨ha.1, ha.2.1, ha.2.2.2.1.1, ha.2.2.2.1.2.1, ha.2.2.2.1.2.2.1, ha.2.2.2.1.2.2.2, ha.2.2.1, ha.2.2.2.2.1⟩
theorem mem_sumL (l : List Nat) : ∀ x, x ∈ l → x ≤ l.sum := by
 intro x hx
 induction l with
 | nil => cases hx
 | cons y l ih =>
  rw [List.sum_cons]
  rcases List.mem_cons.1 hx with rfl | hx
  ·omega
  ·have := ih hx; omega
theorem sum_geL {α : Type} (f : α → Nat) (hf : ∀ a, 1 ≤ f a) (l : List α) : l.length ≤ (l.map f).sum := by
 induction l with
 | nil => exact Nat.zero_le _
 | cons a l ih =>
  have := hf a
  rw [List.map_cons, List.sum_cons, List.length_cons]; omega
theorem RsI.ok {r : Rs} (h : RsI r) (hm : szRs r ≤ 1048576) : RsB r := by
 unfold szRs at hm
 refine ⟨h.e, h.n, h.s1, h.s2, h.s3, h.s4, fun x hx => ?_, fun x hx => ?_, ?_, ?_⟩
 ·have := mem_sumL _ _ (List.mem_map_of_mem (f := szRw) hx)
  have h0 : szRw x = x.k.length + x.v.length + 1 := rfl
  exact ⟨h.rows x hx, by omega, by omega⟩
 ·have := mem_sumL _ _ (List.mem_map_of_mem (f := szRc) hx)
  have h4 := h.recs x hx
  have h0 : szRc x = x.b.length + x.k.length + 1 := rfl
  exact ⟨h4.1, h4.2.1, h4.2.2.1, by omega, by omega, h4.2.2.2⟩
 ·have := sum_geL szRw (fun a => by unfold szRw; omega) r.rows
  omega
 ·have := sum_geL szRc (fun a => by unfold szRc; omega) r.recs
  omega
theorem scriptResults_own : ownKnob Tryz.prog.godebug = none := by kernel_rfl
theorem scriptResults_contract (H : Type) (enc : TypeId × Value → H) (W : World) (base : Nat) (args : Array Value) (ds gs : List (DataW H)) (before : List MemPlace)
  (hval : ∀ (j : Nat) t v, Tryz.f5.params[j]? = some t → args[j]? = some v → Value.okWide Tryz.prog W .any base t v)
  (hW : DataW.Whole enc Tryz.prog Tryz.f5.params.toList Rows.scriptResultsSpec.vars false W args.toList ds gs before) (hk : Rows.uptoBulkAll (ds ++ gs) ≤ 1048576) (hL : laidMetH Tryz.prog Rows.scriptResultsUptoRow.laid W) (hsh : W.ShapedOpen Tryz.prog) :
  Calls Tryz.prog 5 args W fun e W' => ∃ v, e = .returned v ∧ Rows.scriptResultsSpec.post enc Tryz.prog Tryz.f5 false true false false W args v W' :=
 law_contractG (w0 := ⟨W, gW W⟩) rfl (.refl _) enc (ts := [47]) (tb := 4) (rdA_agg rdRs Tryz.underlying47 rdA_nil) Tryz.params5 rfl Tryz.underlying4 rfl (by kernel_rfl) (by intro t ht; revert t; decide +kernel) (fun ds hd => by
  first
  | (match ds, hd with | [_], _ => rfl)
  | (match ds, hd with | [_, _], _ => rfl)
  | (match ds, hd with | [_, _, _], _ => rfl)
  | (match ds, hd with | [_, _, _, _], _ => rfl)) (fun a ha hs => (resultsP ⟨W, gW W⟩ (glob_names hL) (kp_of hL) (ku_of hL) (ke_of hL) (km_of hsh) (ha.1.ok (by omega)) ⟨[], []⟩).mono fun d S' h => h.1) base args ds gs before hval hW hk
theorem scriptResults_met (os : Os) : laidMet Tryz.prog Rows.scriptResultsUptoRow.laid ((laidWorld os).forCall (fun _ _ => 0) ⟨#[], #[.agg #[.int .i64 0, .int .i64 0, .slice none 0 0, .int .i64 0, .int .i64 0, .int .i64 0, .int .i64 0, .slice none 0 0]], []⟩).memory :=
 laidMet_of_run' 8 (by kernel_rfl) (by kernel_rfl)
theorem scriptResults_reads (os : Os) {H : Type} (enc : TypeId × Value → H) : ∃ places, DataW.whole enc Tryz.prog ((laidWorld os).forCall (fun _ _ => 0) ⟨#[], #[.agg #[.int .i64 0, .int .i64 0, .slice none 0 0, .int .i64 0, .int .i64 0, .int .i64 0, .int .i64 0, .slice none 0 0]], []⟩).memory Tryz.f5.params.toList Rows.scriptResultsSpec.vars false (#[.agg #[.int .i64 0, .int .i64 0, .slice none 0 0, .int .i64 0, .int .i64 0, .int .i64 0, .int .i64 0, .slice none 0 0]] : Array Value).toList 8 = some ([.agg [.lit (.int .i64 0), .lit (.int .i64 0), .nil, .agg [.lit (.int .i64 0), .lit (.int .i64 0), .lit (.int .i64 0), .lit (.int .i64 0)], .nil]], [], places) :=
 ⟨[], by kernel_rfl⟩
theorem scriptResults_lifted (os : Os) (started : os.Started) (H : Type) (enc : TypeId × Value → H) (F : Stop.Interp) :
  ReturnsInHanded {} Tryz.checked os 5 .any ((Rows.OpenSpec.upto Rows.scriptResultsSpec).preRow enc Tryz.prog Tryz.f5 Rows.scriptResultsUptoRow.domain false Rows.scriptResultsUptoRow.laid) (((Rows.OpenSpec.upto Rows.scriptResultsSpec).at F).post enc Tryz.prog Tryz.f5 false true false false) := by
 obtain ⟨places, hx⟩ := scriptResults_reads os enc
 refine returnsInHanded_of_row (C := Tryz.checked) (s := Rows.OpenSpec.upto Rows.scriptResultsSpec) scriptResults_own started (by kernel_rfl) Tryz.func5
  (witness_row_at (enc := enc) (C := Tryz.checked) false (laidWorld os) #[.agg #[.int .i64 0, .int .i64 0, .slice none 0 0, .int .i64 0, .int .i64 0, .int .i64 0, .int .i64 0, .slice none 0 0]] rfl (by kernel_rfl) (by kernel_rfl) (by kernel_rfl)
   (OpenSpec.preRow_of_cond 8 hx (by kernel_rfl) (fun k hk => by cases hk; kernel_rfl) (by kernel_rfl) (scriptResults_met os))) ?_
 intro W base args ds gs before hval hW _ hc _ hL hsh _
 exact scriptResults_contract H enc W base args ds gs before hval hW (of_decide_eq_true (hc _ rfl)) hL hsh
theorem scriptResults_said : Rows.ScriptResultsUptoSaid :=
 OpenClaim.holds_of_cond 5 Tryz.f5 rfl rfl rfl rfl rfl rfl rfl ⟨rfl, rfl, rfl, rfl, rfl⟩ rfl rfl rfl rfl rfl (by kernel_rfl) Tryz.func5 (by kernel_rfl)
  (of_decide_eq_true (by kernel_rfl)) (by unfold Func.isWrapper; first | (rw [if_pos (by decide +kernel)]; kernel_rfl) | (rw [if_neg (by decide +kernel)]; exact ⟨rfl, rfl⟩))
  (fun os started H enc _ F => by rw [OpenClaim.pre_eq_preRow]; exact scriptResults_lifted os started H enc F)
theorem scriptResults_plain (f : FuncId) (fn : Func) (hf : Tryz.pinned.checked.prog.funcNamed Rows.scriptResultsUptoRow.func = some f) (hfn : Tryz.pinned.checked.prog.funcs[f]? = some fn) :
  true = Tryz.pinned.checked.prog.looks [] ∧ ∀ (j : Nat) t, fn.params[j]? = some t → Tryz.pinned.checked.prog.wantsStandIn t = false := by
 obtain rfl : f = 5 := Option.some.inj ((show Tryz.prog.funcNamed Rows.scriptResultsUptoRow.func = some 5 by kernel_rfl).symm.trans hf) |>.symm
 obtain rfl : fn = Tryz.f5 := (Option.some.inj (Tryz.func5.symm.trans hfn)).symm
 refine ⟨by kernel_rfl, fun j t ht => ?_⟩
 rw [Tryz.params5] at ht
 have hm : t ∈ ([47] : List TypeId) := by simpa using Array.mem_of_getElem? ht
 exact (show ∀ t, t ∈ ([47] : List TypeId) → Tryz.prog.wantsStandIn t = false by decide +kernel) t hm
theorem scriptResults_holds : Rows.ScriptResultsUptoCardSaid :=
 Claim7.holds_tied_plain_at .later [] _ _ _ _ scriptResults_said (fun _ h => by cases h) (by kernel_rfl) (fun _ h => by cases h) scriptResultsUpto_row_tie rfl ⟨rfl, rfl⟩ (by kernel_rfl) rfl scriptResults_plain (by kernel_rfl)
end Go.Proofs.YtldimfofkbomnaaGreatDoor
namespace Go.Proofs.YtldimfofkbomnaaGreatDoor
theorem scriptFour : (Rows.ScriptShowsUptoCardSaid ∧ Rows.ScriptParsesUptoCardSaid ∧ Rows.ScriptLinesUptoCardSaid) ∧ Rows.ScriptResultsUptoCardSaid := ⟨scriptThree, scriptResults_holds⟩
end Go.Proofs.YtldimfofkbomnaaGreatDoor
