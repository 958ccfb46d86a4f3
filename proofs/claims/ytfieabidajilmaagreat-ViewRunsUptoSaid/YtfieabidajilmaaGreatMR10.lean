/-
  A cursor is set ahead of a key: what the program computes; A cursor's next entry; some entries of a tree by name: what the program computes; Some entries of a view's tree: what the program computes; Views stay views; what one name holds: plain laws; What a view holds at one name: plain laws; The law's steps on a view: what the program computes; The law's example on views: what the program computes. By an AI agent.
-/
import Derived.Test.YtfieabidajilmaaGreatMR9
namespace Go.Proofs.YtfieabidajilmaaGreat
open Aml Go
set_option linter.unusedVariables false
set_option linter.unusedSimpArgs false
set_option maxRecDepth 100000
theorem wt_le (t : N) (i : Nat) (st : List (N × Nat)) : wtR ((t, i) :: st) ≤ wtR ((t, 0) :: st) := by
  simp only [wtR, wtN, List.drop_zero]
  have : tot (t.l.drop i) ≤ tot t.l := by
    have h : tot (t.l.take i ++ t.l.drop i) = tot t.l := by rw [List.take_append_drop]
    rw [tot_app] at h; omega
  omega
/-- A cursor's box and row. -/
def curN (S : St) (cb m : Nat) (st : List (N × Nat)) : St := ⟨(cb, [.acc m st.length]) :: S.box, (m, .arr 6 (st.reverse.map dSt)) :: S.acc⟩
set_option maxHeartbeats 8000000 in
theorem seekP (w0 : W0) (key : ByteArray) (d : Nat) (n : N) (S : St) (hg : Good d n) (ht : totN n ≤ 131000) :
    ACall Tryz.prog w0 58 [eT n, dS key] S fun e S' => ∃ st, ∃ cb : FN S.box, ∃ m : FN S.acc, Thin st ∧ Stk st ∧ Stood st ∧ restR st = geK key (enN n) ∧ wtR st ≤ 300000 ∧ e = .v (.pointer (some ⟨cb.n, 0, none⟩)) ∧ S' = curN S cb.n m.n st := by
  refine fnP [1000,7] mx Tryz.func58 rfl rfl (by kernel_rfl) ?_; simp (maxDischargeDepth := 12) (maxSteps := 1000000) -implicitDefEqProofs only [Tryz.ntmps58, go_sem, Nat.reduceAdd, Nat.reduceSub, Nat.reduceMul, Nat.reduceLeDiff, Nat.reduceEqDiff, Nat.reduceGT, Nat.reduceBEq, reduceCtorEq, ↓reduceIte, Int.reduceToNat, Int.reduceLE, Int.reduceLT, Int.reduceNe, Int.reduceEq]
  intro b cb
  refine awp_growB cb.n 0 6 (by omega) (ds := [.sl 0 true []]) (by simp (maxDischargeDepth := 12) (maxSteps := 1000000) -implicitDefEqProofs only [go_sem, Nat.reduceAdd, Nat.reduceSub, Nat.reduceMul, Nat.reduceLeDiff, Nat.reduceEqDiff, Nat.reduceGT, Nat.reduceBEq, reduceCtorEq, ↓reduceIte, Int.reduceToNat, Int.reduceLE, Int.reduceLT, Int.reduceNe, Int.reduceEq]) rfl fun m => ?_
  refine shrK [4] [] mx (by kernel_rfl) ?_
  simp (maxDischargeDepth := 12) (maxSteps := 1000000) -implicitDefEqProofs only [go_sem, Nat.reduceAdd, Nat.reduceSub, Nat.reduceMul, Nat.reduceLeDiff, Nat.reduceEqDiff, Nat.reduceGT, Nat.reduceBEq, reduceCtorEq, ↓reduceIte, Int.reduceToNat, Int.reduceLE, Int.reduceLT, Int.reduceNe, Int.reduceEq]
  refine loopK [4] [1, 2, 5] (fun s : Nat × N × List (N × Nat) => []) (fun s => ⟨(cb.n, [.acc m.n s.2.2.length]) :: (b.n, cT s.2.1) :: S.box, (m.n, .arr 6 (s.2.2.reverse.map dSt)) :: S.acc⟩) (fun s => Good s.1 s.2.1 ∧ Thin ((s.2.1, 0) :: s.2.2) ∧ Stk ((s.2.1, 0) :: s.2.2) ∧ wtR ((s.2.1, 0) :: s.2.2) ≤ 300000 ∧ geK key (enN n) = geK key (enN s.2.1) ++ restB s.2.2) (fun s => s.1) (d, n, []) mx (by kernel_rfl) ?_ ?_
  · simp (maxDischargeDepth := 12) (maxSteps := 1000000) -implicitDefEqProofs only [go_sem, Nat.reduceAdd, Nat.reduceSub, Nat.reduceMul, Nat.reduceLeDiff, Nat.reduceEqDiff, Nat.reduceGT, Nat.reduceBEq, reduceCtorEq, ↓reduceIte, Int.reduceToNat, Int.reduceLE, Int.reduceLT, Int.reduceNe, Int.reduceEq, cT]
    refine ⟨⟨hg, fun p hp => ?_, ⟨⟨d, good_nd hg⟩, Nat.zero_le _, fun p hp => by cases hp⟩, ?_, by simp [restB]⟩, Aml.Sub.refl _⟩
    · rw [List.mem_singleton] at hp; subst hp; exact ht
    · simp only [wtR, wtB, wtN, List.drop_zero]
      rw [← totN_tot]; omega
  · rintro ⟨d, t, st⟩ ⟨h1, h2, h3, h4, h5⟩
    simp only at h1 h2 h3 h4 h5
    have hlen := tot_len t
    have htt := h2 _ List.mem_cons_self
    simp only at htt
    have hstl := wtR_len ((t, 0) :: st)
    rw [List.length_cons] at hstl
    cases d with
    | zero =>
      have hlf := h1.1
      have hs := fun S => searchS w0 t.l key S (rise_mono h1.2.1 key) (by omega)
      have hge := ge_leaf h1 key
      have hile := idx_le t.l key
      generalize idxN t.l key = i at *
      simp (maxDischargeDepth := 12) (maxSteps := 1000000) -implicitDefEqProofs only [go_sem, Nat.reduceAdd, Nat.reduceSub, Nat.reduceMul, Nat.reduceLeDiff, Nat.reduceEqDiff, Nat.reduceGT, Nat.reduceBEq, reduceCtorEq, ↓reduceIte, Int.reduceToNat, Int.reduceLE, Int.reduceLT, Int.reduceNe, Int.reduceEq, cT, hlf]
      refine use1 (hs _) ?_
      simp (maxDischargeDepth := 12) (maxSteps := 1000000) -implicitDefEqProofs only [go_sem, Nat.reduceAdd, Nat.reduceSub, Nat.reduceMul, Nat.reduceLeDiff, Nat.reduceEqDiff, Nat.reduceGT, Nat.reduceBEq, reduceCtorEq, ↓reduceIte, Int.reduceToNat, Int.reduceLE, Int.reduceLT, Int.reduceNe, Int.reduceEq, cT, hlf]
      refine Y.ordK [] [] [0, 1, 2, 3, 6, 4, 5, 7, 8, 9, 10, 11, 12] mx (by kernel_rfl) ?_
      simp (maxDischargeDepth := 12) (maxSteps := 1000000) -implicitDefEqProofs only [go_sem, Nat.reduceAdd, Nat.reduceSub, Nat.reduceMul, Nat.reduceLeDiff, Nat.reduceEqDiff, Nat.reduceGT, Nat.reduceBEq, reduceCtorEq, ↓reduceIte, Int.reduceToNat, Int.reduceLE, Int.reduceLT, Int.reduceNe, Int.reduceEq, cT, hlf]
      have hrl : st.reverse.length = st.length := List.length_reverse
      refine ⟨hrl, by omega, by unfold maxLen; omega, ?_⟩
      have hwi := wt_le t i st
      refine useK (settleP w0 cb.n m.n ((t, i) :: st) _ (by simp (maxDischargeDepth := 12) (maxSteps := 1000000) -implicitDefEqProofs only [go_sem, Nat.reduceAdd, Nat.reduceSub, Nat.reduceMul, Nat.reduceLeDiff, Nat.reduceEqDiff, Nat.reduceGT, Nat.reduceBEq, reduceCtorEq, ↓reduceIte, Int.reduceToNat, Int.reduceLE, Int.reduceLT, Int.reduceNe, Int.reduceEq, hrl]) ?_ ⟨h3.1, hile, h3.2.2⟩ (by omega) fun p hp => ?_) ?_
      · simp (maxDischargeDepth := 12) (maxSteps := 1000000) -implicitDefEqProofs only [go_sem, Nat.reduceAdd, Nat.reduceSub, Nat.reduceMul, Nat.reduceLeDiff, Nat.reduceEqDiff, Nat.reduceGT, Nat.reduceBEq, reduceCtorEq, ↓reduceIte, Int.reduceToNat, Int.reduceLE, Int.reduceLT, Int.reduceNe, Int.reduceEq, List.reverse_cons, List.map_append, hlf]
      · rcases List.mem_cons.1 hp with rfl | hp
        · exact htt
        · exact h2 p (List.mem_cons_of_mem _ hp)
      · rintro e S' ⟨st', m', a1, a2, a3, a4, a5, a6, rfl⟩
        simp (maxDischargeDepth := 12) (maxSteps := 1000000) -implicitDefEqProofs only [go_sem, Nat.reduceAdd, Nat.reduceSub, Nat.reduceMul, Nat.reduceLeDiff, Nat.reduceEqDiff, Nat.reduceGT, Nat.reduceBEq, reduceCtorEq, ↓reduceIte, Int.reduceToNat, Int.reduceLE, Int.reduceLT, Int.reduceNe, Int.reduceEq]
        have hm' : nin S.acc m' := by
          rcases a6 with rfl | a6
          · exact m.h
          · exact a6.2.2
        refine ⟨_, curN S cb.n m' st', .refl _, ⟨?_, ?_⟩, st', ⟨cb.n, cb.h.2.2⟩, ⟨m', hm'⟩, a1, a2, a3, ?_, by omega, rfl, rfl⟩
        · simp only [curN, cur, up, if_true]
          exact List.Sublist.cons_cons _ (List.sublist_cons_self _ _)
        · simp only [curN, cur, ren, if_true]
          exact List.Sublist.refl _
        · rw [a4, h5, hge]; rfl
    | succ d =>
      have hlf := h1.1
      have hkn := kids_nd (good_nd h1)
      have hpos := List.length_pos_iff.2 h1.2.1
      have hkl : (kidsOf t).length = t.l.length := by rw [hkn, List.length_map]
      simp (maxDischargeDepth := 12) (maxSteps := 1000000) -implicitDefEqProofs only [go_sem, Nat.reduceAdd, Nat.reduceSub, Nat.reduceMul, Nat.reduceLeDiff, Nat.reduceEqDiff, Nat.reduceGT, Nat.reduceBEq, reduceCtorEq, ↓reduceIte, Int.reduceToNat, Int.reduceLE, Int.reduceLT, Int.reduceNe, Int.reduceEq, cT, hlf]
      refine ⟨fun _ => ?_, fun h => absurd (by omega) h⟩
      have hwy := fun S => wayP w0 t key S (by omega) h1.2.1
      obtain ⟨c, k, hc, hk, hgk, hge⟩ := ge_br h1 key
      generalize way t.l key = i at *
      have hil := (List.getElem?_eq_some_iff.1 hc).1
      refine use1 (hwy _) ?_ (by simp (maxDischargeDepth := 12) (maxSteps := 1000000) -implicitDefEqProofs only [go_sem, Nat.reduceAdd, Nat.reduceSub, Nat.reduceMul, Nat.reduceLeDiff, Nat.reduceEqDiff, Nat.reduceGT, Nat.reduceBEq, reduceCtorEq, ↓reduceIte, Int.reduceToNat, Int.reduceLE, Int.reduceLT, Int.reduceNe, Int.reduceEq, cT, hlf])
      simp (maxDischargeDepth := 12) (maxSteps := 1000000) -implicitDefEqProofs only [go_sem, Nat.reduceAdd, Nat.reduceSub, Nat.reduceMul, Nat.reduceLeDiff, Nat.reduceEqDiff, Nat.reduceGT, Nat.reduceBEq, reduceCtorEq, ↓reduceIte, Int.reduceToNat, Int.reduceLE, Int.reduceLT, Int.reduceNe, Int.reduceEq, cT, hlf]
      refine Y.ordK [] [] [0, 1, 2, 3, 6, 4, 5, 7, 8, 9, 10, 11, 12] mx (by kernel_rfl) ?_
      simp (maxDischargeDepth := 12) (maxSteps := 1000000) -implicitDefEqProofs only [go_sem, Nat.reduceAdd, Nat.reduceSub, Nat.reduceMul, Nat.reduceLeDiff, Nat.reduceEqDiff, Nat.reduceGT, Nat.reduceBEq, reduceCtorEq, ↓reduceIte, Int.reduceToNat, Int.reduceLE, Int.reduceLT, Int.reduceNe, Int.reduceEq, cT, hlf]
      have hrl : st.reverse.length = st.length := List.length_reverse
      refine ⟨hrl, by omega, by unfold maxLen; omega, by omega, fun a ha => ?_⟩
      rw [hkn, List.getElem?_map, hc] at ha
      cases ha
      rw [kid0_eq hk]
      have h3' : Stk ((t, i) :: st) := ⟨h3.1, Nat.le_of_lt hil, h3.2.2⟩
      obtain ⟨k', hk', p1, p2, p3⟩ := push_ok h3' hlf hc
      rw [hk] at hk'; cases hk'
      have hwi := wt_le t i st
      refine ⟨(d, k, (t, i) :: st), ⟨hgk, fun x hx => ?_, p1, by simp only; omega, ?_⟩, by simp only; omega, ?_⟩
      · rcases List.mem_cons.1 hx with rfl | hx
        · have := tot_kid (List.mem_of_getElem? hc) hk
          show totN k ≤ _
          omega
        · rcases List.mem_cons.1 hx with rfl | hx
          · exact htt
          · exact h2 x (List.mem_cons_of_mem _ hx)
      · rw [h5, hge, List.append_assoc]; rfl
      · simp (maxDischargeDepth := 12) (maxSteps := 1000000) -implicitDefEqProofs only [go_sem, Nat.reduceAdd, Nat.reduceSub, Nat.reduceMul, Nat.reduceLeDiff, Nat.reduceEqDiff, Nat.reduceGT, Nat.reduceBEq, reduceCtorEq, ↓reduceIte, Int.reduceToNat, Int.reduceLE, Int.reduceLT, Int.reduceNe, Int.reduceEq, List.reverse_cons, List.map_append, hlf, hrl]
end Go.Proofs.YtfieabidajilmaaGreat

namespace Go.Proofs.YtfieabidajilmaaGreat
open Aml Go
set_option linter.unusedVariables false
set_option linter.unusedSimpArgs false
set_option maxRecDepth 100000
theorem cur_box {S : St} {cb w m : Nat} {st : List (N × Nat)} {x : List DV} (hb : lk S.box cb = some x) : lk (cur S cb w m st).box cb = some [.acc m st.length] := by
  show lk (up S.box cb _) cb = _
  rw [lk_up_same, hb]; rfl
theorem cur_acc {S : St} {cb w m : Nat} {st : List (N × Nat)} {o : Ob} (hw : lk S.acc w = some o) (hm : m = w ∨ nin S.acc m) : lk (cur S cb w m st).acc m = some (.arr 6 (st.reverse.map dSt)) := lkV_ren_new hw hm
theorem cur_cur {S : St} {cb w m m' : Nat} {st st' : List (N × Nat)} {o : Ob} (hw : lk S.acc w = some o) (hm : m = w ∨ nin S.acc m) : cur (cur S cb w m st) cb m m' st' = cur S cb w m' st' := by
  show (⟨up (up S.box cb _) cb _, ren (ren S.acc w _) m _⟩ : St) = _
  rw [upB_up, renV_ren hw hm]; rfl
theorem cur_nin {S : St} {cb w m m' : Nat} {st : List (N × Nat)} {o : Ob} (hw : lk S.acc w = some o) (hm : m = w ∨ nin S.acc m) (h : m' = m ∨ nin (cur S cb w m st).acc m') : m' = w ∨ nin S.acc m' := by
  rcases h with rfl | h
  · exact hm
  · exact ninV_ren h ⟨_, hw⟩
set_option maxHeartbeats 4000000 in
theorem depthP (w0 : W0) (cb w n : Nat) (S : St) (hb : lk S.box cb = some [.acc w n]) : ACall Tryz.prog w0 132 [.v (.pointer (some ⟨cb, 0, none⟩))] S (fun d S' => d = dI n ∧ S' = S) := by
  refine fnS [] mx Tryz.func132 rfl rfl (by kernel_rfl) ?_; simp (maxDischargeDepth := 12) (maxSteps := 1000000) -implicitDefEqProofs only [Tryz.ntmps132, go_sem, Nat.reduceAdd, Nat.reduceSub, Nat.reduceMul, Nat.reduceLeDiff, Nat.reduceEqDiff, Nat.reduceGT, Nat.reduceBEq, reduceCtorEq, ↓reduceIte, Int.reduceToNat, Int.reduceLE, Int.reduceLT, Int.reduceNe, Int.reduceEq,  hb]
set_option maxHeartbeats 4000000 in
theorem peekP (w0 : W0) (cb w : Nat) (p : N × Nat) (c : C) (t : List (N × Nat)) (S : St) (hb : lk S.box cb = some [.acc w (t.length + 1)]) (hw : lk S.acc w = some (.arr 6 (t.reverse.map dSt ++ [dSt p]))) (hc : p.1.l[p.2]? = some c) (hl : t.length < 1000000) :
    ACall Tryz.prog w0 101 [.v (.pointer (some ⟨cb, 0, none⟩))] S (fun d S' => d = .tup [dS c.key, dB true] ∧ S' = S) := by
  have hrl : t.reverse.length = t.length := List.length_reverse
  have ewrap : IntKind.i64.wrap (((t.length + 1 : Nat) : Int) - 1) = (t.length : Int) := by rw [w64] <;> omega
  have exs := fun (d : DV) (hd : okE d = true) F => exV_snoc dSt t.reverse hd F
  rw [hrl] at exs
  refine fnS [3] mx Tryz.func101 rfl rfl (by kernel_rfl) ?_; simp (maxDischargeDepth := 12) (maxSteps := 1000000) -implicitDefEqProofs only [Tryz.ntmps101, go_sem, Nat.reduceAdd, Nat.reduceSub, Nat.reduceMul, Nat.reduceLeDiff, Nat.reduceEqDiff, Nat.reduceGT, Nat.reduceBEq, reduceCtorEq, ↓reduceIte, Int.reduceToNat, Int.reduceLE, Int.reduceLT, Int.reduceNe, Int.reduceEq,  hb, hw]
  refine use1 (depthP w0 cb w _ S hb) ?_
  simp (maxDischargeDepth := 12) (maxSteps := 1000000) -implicitDefEqProofs only [go_sem, Nat.reduceAdd, Nat.reduceSub, Nat.reduceMul, Nat.reduceLeDiff, Nat.reduceEqDiff, Nat.reduceGT, Nat.reduceBEq, reduceCtorEq, ↓reduceIte, Int.reduceToNat, Int.reduceLE, Int.reduceLT, Int.reduceNe, Int.reduceEq, hb, hw, ewrap, exs]
  refine ⟨fun h => absurd h (by omega), fun _ => ?_⟩
  refine lexK mx (by kernel_rfl) ?_
  simp (maxDischargeDepth := 12) (maxSteps := 1000000) -implicitDefEqProofs only [go_sem, Nat.reduceAdd, Nat.reduceSub, Nat.reduceMul, Nat.reduceLeDiff, Nat.reduceEqDiff, Nat.reduceGT, Nat.reduceBEq, reduceCtorEq, ↓reduceIte, Int.reduceToNat, Int.reduceLE, Int.reduceLT, Int.reduceNe, Int.reduceEq, hb, hw, ewrap, exs]
  refine ⟨hrl, fun b => ⟨(List.getElem?_eq_some_iff.1 hc).1, fun a ha => ?_⟩⟩
  cases getE hc ha
  exact .refl _
set_option maxHeartbeats 4000000 in
theorem peek0 (w0 : W0) (cb w : Nat) (S : St) (hb : lk S.box cb = some [.acc w 0]) :
    ACall Tryz.prog w0 101 [.v (.pointer (some ⟨cb, 0, none⟩))] S (fun d S' => d = .tup [dS noS, dB false] ∧ S' = S) := by
  refine fnS [3] mx Tryz.func101 rfl rfl (by kernel_rfl) ?_; simp (maxDischargeDepth := 12) (maxSteps := 1000000) -implicitDefEqProofs only [Tryz.ntmps101, go_sem, Nat.reduceAdd, Nat.reduceSub, Nat.reduceMul, Nat.reduceLeDiff, Nat.reduceEqDiff, Nat.reduceGT, Nat.reduceBEq, reduceCtorEq, ↓reduceIte, Int.reduceToNat, Int.reduceLE, Int.reduceLT, Int.reduceNe, Int.reduceEq,  hb]
  refine use1 (depthP w0 cb w _ S hb) ?_
  simp (maxDischargeDepth := 12) (maxSteps := 1000000) -implicitDefEqProofs only [go_sem, Nat.reduceAdd, Nat.reduceSub, Nat.reduceMul, Nat.reduceLeDiff, Nat.reduceEqDiff, Nat.reduceGT, Nat.reduceBEq, reduceCtorEq, ↓reduceIte, Int.reduceToNat, Int.reduceLE, Int.reduceLT, Int.reduceNe, Int.reduceEq, hb]
  exact .refl _
set_option maxHeartbeats 4000000 in
theorem next0 (w0 : W0) (cb w : Nat) (S : St) (hb : lk S.box cb = some [.acc w 0]) :
    ACall Tryz.prog w0 59 [.v (.pointer (some ⟨cb, 0, none⟩))] S (fun d S' => d = .tup [dS noS, dS noS, dB false] ∧ S' = S) := by
  refine fnS [] mx Tryz.func59 rfl rfl (by kernel_rfl) ?_; simp (maxDischargeDepth := 12) (maxSteps := 1000000) -implicitDefEqProofs only [Tryz.ntmps59, go_sem, Nat.reduceAdd, Nat.reduceSub, Nat.reduceMul, Nat.reduceLeDiff, Nat.reduceEqDiff, Nat.reduceGT, Nat.reduceBEq, reduceCtorEq, ↓reduceIte, Int.reduceToNat, Int.reduceLE, Int.reduceLT, Int.reduceNe, Int.reduceEq,  hb]
  refine use1 (peek0 w0 cb w S hb) ?_
  simp (maxDischargeDepth := 12) (maxSteps := 1000000) -implicitDefEqProofs only [go_sem, Nat.reduceAdd, Nat.reduceSub, Nat.reduceMul, Nat.reduceLeDiff, Nat.reduceEqDiff, Nat.reduceGT, Nat.reduceBEq, reduceCtorEq, ↓reduceIte, Int.reduceToNat, Int.reduceLE, Int.reduceLT, Int.reduceNe, Int.reduceEq, hb]
  exact .refl _
set_option maxHeartbeats 4000000 in
theorem nextP (w0 : W0) (cb w : Nat) (st : List (N × Nat)) (c : C) (r : List C) (S : St) (hb : lk S.box cb = some [.acc w st.length]) (hw : lk S.acc w = some (.arr 6 (st.reverse.map dSt))) (hst : Stk st) (hsd : Stood st) (hwt : wtR st ≤ 1000000) (hth : Thin st) (hr : restR st = c :: r) :
    ACall Tryz.prog w0 59 [.v (.pointer (some ⟨cb, 0, none⟩))] S (fun d S' => d = .tup [dS c.key, dS c.data, dB true] ∧ ∃ st' m, Thin st' ∧ Stk st' ∧ Stood st' ∧ restR st' = r ∧ wtR st' ≤ wtR st ∧ (m = w ∨ nin S.acc m) ∧ S' = cur S cb w m st') := by
  cases st with
  | nil => cases hr
  | cons p t =>
    obtain ⟨hl, hlt⟩ := hsd
    have hc : p.1.l[p.2]? = some p.1.l[p.2] := List.getElem?_eq_getElem hlt
    obtain ⟨b1, b2, b3⟩ := past_ok hst hl hc
    rw [hr] at b2
    obtain ⟨hcc, hrr⟩ := List.cons.inj b2
    rw [← hcc] at hc
    clear b2
    have hrl : t.reverse.length = t.length := List.length_reverse
    have hwl := wtR_len (p :: t)
    rw [List.length_cons] at hwl hb
    rw [List.reverse_cons, List.map_append] at hw
    have ewrap : IntKind.i64.wrap (((t.length + 1 : Nat) : Int) - 1) = (t.length : Int) := by rw [w64] <;> omega
    have exs := fun (d : DV) (hd : okE d = true) F => exV_snoc dSt t.reverse hd F
    have sts := fun (d e : DV) => setV_snoc dSt t.reverse d e
    rw [hrl] at exs sts
    have hw' : lk S.acc w = some (.arr 6 (t.reverse.map dSt ++ [dSt p])) := hw
    refine fnO [] mx Tryz.func59 rfl rfl (by kernel_rfl) ?_; simp (maxDischargeDepth := 12) (maxSteps := 1000000) -implicitDefEqProofs only [Tryz.ntmps59, go_sem, Nat.reduceAdd, Nat.reduceSub, Nat.reduceMul, Nat.reduceLeDiff, Nat.reduceEqDiff, Nat.reduceGT, Nat.reduceBEq, reduceCtorEq, ↓reduceIte, Int.reduceToNat, Int.reduceLE, Int.reduceLT, Int.reduceNe, Int.reduceEq,  hb, hw']
    refine use1 (peekP w0 cb w p c t S hb hw' hc (by omega)) ?_
    simp (maxDischargeDepth := 12) (maxSteps := 1000000) -implicitDefEqProofs only [go_sem, Nat.reduceAdd, Nat.reduceSub, Nat.reduceMul, Nat.reduceLeDiff, Nat.reduceEqDiff, Nat.reduceGT, Nat.reduceBEq, reduceCtorEq, ↓reduceIte, Int.reduceToNat, Int.reduceLE, Int.reduceLT, Int.reduceNe, Int.reduceEq, hb, hw', ewrap, exs, sts, hl]
    refine ⟨hrl, hrl, hlt, fun a ha => ⟨hrl, hrl, ?_⟩⟩
    cases getE hc ha
    have hpl : p.1.l.length ≤ 131000 := Nat.le_trans (tot_len p.1) (hth p List.mem_cons_self)
    have eadd : IntKind.i64.wrap ((p.2 : Int) + 1) = ((p.2 + 1 : Nat) : Int) := by rw [w64] <;> omega
    have hS : (⟨S.box, up S.acc w (.arr 6 (t.reverse.map dSt ++ [dSt (p.1, p.2 + 1)]))⟩ : St) = cur S cb w w (bump (p :: t)) := by
      have h1 := upV_ren (o := .arr 6 (t.reverse.map dSt ++ [dSt p])) (o' := .arr 6 (t.reverse.map dSt ++ [dSt (p.1, p.2 + 1)])) hw' (.inl rfl)
      rw [renV_self hw'] at h1
      unfold cur
      rw [h1]
      have h2 : up S.box cb [.acc w (bump (p :: t)).length] = S.box := up_self hb
      rw [h2]
      simp [bump]
    rw [eadd]
    have hS' : (⟨S.box, up S.acc w (.arr 6 (t.reverse.map dSt ++ [.agg [dI p.1.page, dB true, .sl 1 false (p.1.l.map fun c => dS c.key), .sl 2 false (p.1.l.map dV2), .sl 5 false ((kidsOf p.1).map dT), dI ((p.2 + 1 : Nat) : Int)]]))⟩ : St) = cur S cb w w (bump (p :: t)) := by
      rw [← hS]; simp only [dSt, hl, if_true]
    simp only [dI, dB, dS] at hS'
    rw [hS']
    refine useK (settleP w0 cb w (bump (p :: t)) _ (cur_box hb) (cur_acc hw' (.inl rfl)) b1 (by omega) (thin_bump hth)) ?_
    rintro e S' ⟨st', m', a1, a2, a3, a4, a5, a6, rfl⟩
    rw [cur_cur hw' (.inl rfl)]
    have a6' := cur_nin hw' (.inl rfl) a6
    simp (maxDischargeDepth := 12) (maxSteps := 1000000) -implicitDefEqProofs only [go_sem, Nat.reduceAdd, Nat.reduceSub, Nat.reduceMul, Nat.reduceLeDiff, Nat.reduceEqDiff, Nat.reduceGT, Nat.reduceBEq, reduceCtorEq, ↓reduceIte, Int.reduceToNat, Int.reduceLE, Int.reduceLT, Int.reduceNe, Int.reduceEq]
    exact ⟨st', m', a1, a2, a3, by rw [a4, hrr], by omega, a6', rfl⟩
end Go.Proofs.YtfieabidajilmaaGreat

namespace Go.Proofs.YtfieabidajilmaaGreat
open Aml Go
set_option linter.unusedVariables false
set_option linter.unusedSimpArgs false
set_option maxRecDepth 100000
@[go_sem] def dKV (c : C) : DV := .agg [dS c.key, dS c.data]
/-- Entries from a key on, so many at most. -/
def scV (name fr : ByteArray) (most : Int) (l : List C) : List C × Int :=
  match l[idxN l name]? with
  | some c => if hasN l name then ((geK fr (enN (kid0 c))).take most.toNat, 0) else ([], 32)
  | none => ([], 32)
theorem tbSeek (w0 : W0) {k : Nat} {n : N} {key : ByteArray} (h : TB k n) (hk : k ≤ 116) (S : St) :
    ACall Tryz.prog w0 58 [eT n, dS key] S fun e S' => ∃ st, ∃ cb : FN S.box, ∃ m : FN S.acc, Thin st ∧ Stk st ∧ Stood st ∧ restR st = geK key (enN n) ∧ wtR st ≤ 300000 ∧ e = .v (.pointer (some ⟨cb.n, 0, none⟩)) ∧ S' = curN S cb.n m.n st := by
  obtain ⟨hr, d, hg, hd, ht⟩ := h
  exact seekP w0 key d n S hg (by omega)
set_option maxHeartbeats 8000000 in
theorem scanA (w0 : W0) (k : Nat) (name fr : ByteArray) (most : Int) (n : N) (l : List C) (S : St) (h : VI k n l) (hk : k ≤ 116) (hm : most ≤ 1000000) :
    ACall Tryz.prog w0 22 [eV n l, dS name, dS fr, dI most] S (fun d S' => d = .tup [.sl 2 false ((scV name fr most l).1.map dKV), dI (scV name fr most l).2] ∧ S' = S) := by
  have hlt := has_lt (l := l) (name := name)
  have q1 : hasN l name = false → scV name fr most l = ([], 32) := fun e => by unfold scV; rw [e]; split <;> rfl
  have q2 : hasN l name = true → ∀ c, l[idxN l name]? = some c → scV name fr most l = ((geK fr (enN (kid0 c))).take most.toNat, 0) := fun e c hc => by unfold scV; rw [e, hc]; rfl
  have hcell := fun c hc => (h.cell c hc).2.1
  generalize scV name fr most l = R at *
  refine fnS [1000] mx Tryz.func22 rfl rfl (by kernel_rfl) ?_; simp (maxDischargeDepth := 12) (maxSteps := 1000000) -implicitDefEqProofs only [Tryz.ntmps22, go_sem, Nat.reduceAdd, Nat.reduceSub, Nat.reduceMul, Nat.reduceLeDiff, Nat.reduceEqDiff, Nat.reduceGT, Nat.reduceBEq, reduceCtorEq, ↓reduceIte, Int.reduceToNat, Int.reduceLE, Int.reduceLT, Int.reduceNe, Int.reduceEq]
  intro b
  refine use1 (findV w0 n l name _ h.rise (by have := h.len; omega)) ?_
  generalize hI : idxN l name = i at *
  simp (maxDischargeDepth := 12) (maxSteps := 1000000) -implicitDefEqProofs only [go_sem, Nat.reduceAdd, Nat.reduceSub, Nat.reduceMul, Nat.reduceLeDiff, Nat.reduceEqDiff, Nat.reduceGT, Nat.reduceBEq, reduceCtorEq, ↓reduceIte, Int.reduceToNat, Int.reduceLE, Int.reduceLT, Int.reduceNe, Int.reduceEq]
  refine ⟨fun hh => ⟨hlt hh, fun a ha => ?_⟩, fun hh => by rw [q1 hh]; exact Wk.tup (.cons (.nil _ _ _) (.cons (.refl _) .nil))⟩
  rw [q2 hh a ha]
  refine useK (tbSeek w0 (key := fr) (hcell a (List.mem_of_getElem? ha)) hk _) ?_
  rintro e S' ⟨st, cb, m, a1, a2, a3, a4, a5, rfl, rfl⟩
  generalize geK fr (enN (kid0 a)) = G at *
  have htk0 : ∀ out : List C, out = G → out.length ≤ most.toNat → G.take most.toNat = out := fun out e h => by
    rw [e] at h ⊢; exact List.take_of_length_le h
  have htk1 : ∀ out : List C, out <+: G → out.length = most.toNat → G.take most.toNat = out := fun out e h => by
    rw [← h]; exact (List.prefix_iff_eq_take.1 e).symm
  simp (maxDischargeDepth := 12) (maxSteps := 1000000) -implicitDefEqProofs only [go_sem, Nat.reduceAdd, Nat.reduceSub, Nat.reduceMul, Nat.reduceLeDiff, Nat.reduceEqDiff, Nat.reduceGT, Nat.reduceBEq, reduceCtorEq, ↓reduceIte, Int.reduceToNat, Int.reduceLE, Int.reduceLT, Int.reduceNe, Int.reduceEq, curN]
  refine growK 12 2 rfl (by omega) fun lo => ?_
  refine shrK [] [] mx (by kernel_rfl) ?_
  simp (maxDischargeDepth := 12) (maxSteps := 1000000) -implicitDefEqProofs only [go_sem, Nat.reduceAdd, Nat.reduceSub, Nat.reduceMul, Nat.reduceLeDiff, Nat.reduceEqDiff, Nat.reduceGT, Nat.reduceBEq, reduceCtorEq, ↓reduceIte, Int.reduceToNat, Int.reduceLE, Int.reduceLT, Int.reduceNe, Int.reduceEq]
  refine loopK [] [3, 12, 13] (fun s : List C × Nat × List (N × Nat) => [(12, .acc lo.n s.1.length)]) (fun s => ⟨(cb.n, [.acc s.2.1 s.2.2.length]) :: (b.n, [dI n.page, dB n.leaf, .sl 1 false (n.l.map fun c => dS c.key), .sl 2 false ((if n.leaf then n.l else []).map dV2), .sl 5 false ((kidsOf n).map dT), .sl 6 false (l.map dBk)]) :: S.box, (lo.n, .arr 2 (s.1.map dKV)) :: (s.2.1, .arr 6 (s.2.2.reverse.map dSt)) :: S.acc⟩) (fun s => Thin s.2.2 ∧ Stk s.2.2 ∧ Stood s.2.2 ∧ s.1 ++ restR s.2.2 = G ∧ wtR s.2.2 ≤ 300000 ∧ nin S.acc s.2.1 ∧ s.2.1 ≠ lo.n ∧ s.1.length ≤ most.toNat) (fun s => (restR s.2.2).length) ([], m.n, st) mx (by kernel_rfl) ?_ ?_
  · simp (maxDischargeDepth := 12) (maxSteps := 1000000) -implicitDefEqProofs only [go_sem, Nat.reduceAdd, Nat.reduceSub, Nat.reduceMul, Nat.reduceLeDiff, Nat.reduceEqDiff, Nat.reduceGT, Nat.reduceBEq, reduceCtorEq, ↓reduceIte, Int.reduceToNat, Int.reduceLE, Int.reduceLT, Int.reduceNe, Int.reduceEq]
    exact ⟨a1, a2, a3, a4, a5, Nat.zero_le _⟩
  · rintro ⟨out, m2, st2⟩ ⟨b1, b2, b3, b4, b5, b6, b7, b8⟩
    simp only at b1 b2 b3 b4 b5 b6 b7 b8
    have b7' : ¬ lo.n = m2 := fun e => b7 e.symm
    cases hrs : restR st2 with
    | nil =>
      have := stood_nil b3 hrs
      subst this
      simp (maxDischargeDepth := 12) (maxSteps := 1000000) -implicitDefEqProofs only [go_sem, Nat.reduceAdd, Nat.reduceSub, Nat.reduceMul, Nat.reduceLeDiff, Nat.reduceEqDiff, Nat.reduceGT, Nat.reduceBEq, reduceCtorEq, ↓reduceIte, Int.reduceToNat, Int.reduceLE, Int.reduceLT, Int.reduceNe, Int.reduceEq, b7']
      refine ⟨fun hlt2 => ?_, fun hge => ?_⟩
      · refine useK (next0 w0 cb.n m2 _ (by simp (maxDischargeDepth := 12) (maxSteps := 1000000) -implicitDefEqProofs only [go_sem, Nat.reduceAdd, Nat.reduceSub, Nat.reduceMul, Nat.reduceLeDiff, Nat.reduceEqDiff, Nat.reduceGT, Nat.reduceBEq, reduceCtorEq, ↓reduceIte, Int.reduceToNat, Int.reduceLE, Int.reduceLT, Int.reduceNe, Int.reduceEq])) ?_
        rintro e S' ⟨rfl, rfl⟩
        simp (maxDischargeDepth := 12) (maxSteps := 1000000) -implicitDefEqProofs only [go_sem, Nat.reduceAdd, Nat.reduceSub, Nat.reduceMul, Nat.reduceLeDiff, Nat.reduceEqDiff, Nat.reduceGT, Nat.reduceBEq, reduceCtorEq, ↓reduceIte, Int.reduceToNat, Int.reduceLE, Int.reduceLT, Int.reduceNe, Int.reduceEq]
        rw [htk0 out (by rw [← b4, hrs, List.append_nil]) b8]; exact .refl _
      · rw [htk0 out (by rw [← b4, hrs, List.append_nil]) b8]; exact .refl _
    | cons c r =>
      simp (maxDischargeDepth := 12) (maxSteps := 1000000) -implicitDefEqProofs only [go_sem, Nat.reduceAdd, Nat.reduceSub, Nat.reduceMul, Nat.reduceLeDiff, Nat.reduceEqDiff, Nat.reduceGT, Nat.reduceBEq, reduceCtorEq, ↓reduceIte, Int.reduceToNat, Int.reduceLE, Int.reduceLT, Int.reduceNe, Int.reduceEq, b7']
      refine ⟨fun hlt2 => ?_, fun hge => ?_⟩
      · refine useK (nextP w0 cb.n m2 st2 c r _ (by simp (maxDischargeDepth := 12) (maxSteps := 1000000) -implicitDefEqProofs only [go_sem, Nat.reduceAdd, Nat.reduceSub, Nat.reduceMul, Nat.reduceLeDiff, Nat.reduceEqDiff, Nat.reduceGT, Nat.reduceBEq, reduceCtorEq, ↓reduceIte, Int.reduceToNat, Int.reduceLE, Int.reduceLT, Int.reduceNe, Int.reduceEq]) (by simp (maxDischargeDepth := 12) (maxSteps := 1000000) -implicitDefEqProofs only [go_sem, Nat.reduceAdd, Nat.reduceSub, Nat.reduceMul, Nat.reduceLeDiff, Nat.reduceEqDiff, Nat.reduceGT, Nat.reduceBEq, reduceCtorEq, ↓reduceIte, Int.reduceToNat, Int.reduceLE, Int.reduceLT, Int.reduceNe, Int.reduceEq, b7']) b2 b3 (by omega) b1 hrs) ?_
        rintro e S' ⟨rfl, st3, m3, c1, c2, c3, c4, c5, c6, rfl⟩
        have hm3 : nin S.acc m3 ∧ m3 ≠ lo.n := by
          rcases c6 with rfl | c6
          · exact ⟨b6, b7⟩
          · exact ⟨c6.2.2.2.2, fun e => c6.1 e.symm⟩
        have hm3' : ¬ lo.n = m3 := fun e => hm3.2 e.symm
        simp (maxDischargeDepth := 12) (maxSteps := 1000000) -implicitDefEqProofs only [go_sem, Nat.reduceAdd, Nat.reduceSub, Nat.reduceMul, Nat.reduceLeDiff, Nat.reduceEqDiff, Nat.reduceGT, Nat.reduceBEq, reduceCtorEq, ↓reduceIte, Int.reduceToNat, Int.reduceLE, Int.reduceLT, Int.reduceNe, Int.reduceEq, cur, ren, b7', hm3']
        refine ⟨by omega, by unfold maxLen; omega, (out ++ [c], m3, st3), ⟨c1, c2, c3, ?_, Nat.le_trans c5 b5, hm3.1, hm3.2, by rw [List.length_append]; simp only [List.length_cons, List.length_nil]; omega⟩, ?_, Wk.eq (by rw [List.length_append]; rfl), ?_⟩
        · rw [← b4, hrs, c4, List.append_assoc]; rfl
        · rw [c4]; omega
        · rw [List.map_append]; exact Aml.Sub.refl _
      · rw [htk1 out (by rw [← b4]; exact List.prefix_append _ _) (by omega)]; exact .refl _
theorem scanV (w0 : W0) (k : Nat) (name fr : ByteArray) (most : Int) (n : N) (l : List C) (S : St) (h : VI k n l) (hk : k ≤ 116) (h0 : 0 ≤ most) (hm : most ≤ 1000000) :
    ACall Tryz.prog w0 22 [eV n l, dS name, dS fr, dI most] S (fun d S' => d = .tup [.sl 2 false ((scV name fr most l).1.map dKV), dI (scV name fr most l).2] ∧ S' = S) := scanA w0 k name fr most n l S h hk hm
end Go.Proofs.YtfieabidajilmaaGreat

namespace Go.Proofs.YtfieabidajilmaaGreat
open Aml Go
set_option linter.unusedVariables false
set_option linter.unusedSimpArgs false
set_option maxRecDepth 100000
theorem cut_lt {name : ByteArray} {l : List C} (h : Rise l) (hn : hasN l name = false) : ∃ A B, l = A ++ B ∧ idxN l name = A.length ∧ (∀ a, a ∈ A → ltS a.key name = true) ∧ ∀ b, b ∈ B → ltS name b.key = true := by
  obtain ⟨A, B, hl, h1, h2⟩ := cut_at name h
  have hi : idxN l name = A.length := by rw [hl]; exact idx_app h1 h2
  refine ⟨A, B, hl, hi, h1, fun b hb => ?_⟩
  cases B with
  | nil => cases hb
  | cons x B =>
    have hx : eqS x.key name = false := by
      unfold hasN at hn
      rw [hi, hl, List.getElem?_append_right (Nat.le_refl _), Nat.sub_self] at hn
      exact hn
    have hxl : ltS name x.key = true := by
      rcases ltS_tri x.key name with q | q | q
      · rw [h2 x List.mem_cons_self] at q; cases q
      · exact absurd q (eqS_no.1 hx)
      · exact q
    rcases List.mem_cons.1 hb with rfl | hb
    · exact hxl
    · have hr : Rise (x :: B) := by rw [hl] at h; exact (List.pairwise_append.1 h).2.1
      exact ltS_trans hxl ((List.pairwise_cons.1 hr).1 b hb)
theorem cut_eq {name : ByteArray} {l : List C} (h : Rise l) (hn : hasN l name = true) : ∃ A b B, l = A ++ b :: B ∧ b.key = name ∧ idxN l name = A.length ∧ (∀ a, a ∈ A → ltS a.key name = true) ∧ ∀ b, b ∈ B → ltS name b.key = true := by
  obtain ⟨A, B, hl, h1, h2⟩ := cut_at name h
  have hi : idxN l name = A.length := by rw [hl]; exact idx_app h1 h2
  obtain ⟨c, hc, hk⟩ := has_at hn
  rw [hi, hl, List.getElem?_append_right (Nat.le_refl _), Nat.sub_self] at hc
  cases B with
  | nil => cases hc
  | cons x B =>
    obtain rfl : x = c := by simpa using hc
    have hr : Rise (x :: B) := by rw [hl] at h; exact (List.pairwise_append.1 h).2.1
    exact ⟨A, x, B, hl, hk, hi, h1, fun b hb => by rw [← hk]; exact (List.pairwise_cons.1 hr).1 b hb⟩
def dirC (c : C) : C := .mk c.key nwS [] []
theorem ins_cut {name val : ByteArray} {A B M : List C} (h1 : ∀ a, a ∈ A → ltS a.key name = true) (h2 : ∀ b, b ∈ B → ltS name b.key = true) (hM : ∀ m, m ∈ M → m.key = name) : insE name val (A ++ M ++ B) = A ++ .mk name val [] [] :: B := by
  unfold insE
  simp only [List.filter_append]
  rw [flt_all h1, flt_no (l := M) (fun m hm => by rw [hM m hm, ltS_irrefl]), flt_no (l := B) (fun b hb => ltS_asymm (h2 b hb)), flt_no (l := A) (fun a ha => ltS_asymm (h1 a ha)), flt_no (l := M) (fun m hm => by rw [hM m hm, ltS_irrefl]), flt_all h2]
  simp
theorem del_cut {name : ByteArray} {A B M : List C} (h1 : ∀ a, a ∈ A → ltS a.key name = true) (h2 : ∀ b, b ∈ B → ltS name b.key = true) (hM : ∀ m, m ∈ M → m.key = name) : delE name (A ++ M ++ B) = A ++ B := by
  unfold delE
  simp only [List.filter_append]
  rw [flt_all (l := A) (fun a ha => by rw [eqS_no.2 (ltS_ne (h1 a ha))]; rfl), flt_no (l := M) (fun m hm => by rw [hM m hm, eqS_self]; rfl), flt_all (l := B) (fun b hb => by rw [eqS_no.2 (ltS_ne (h2 b hb)).symm]; rfl)]
  simp
theorem rise_cut {name : ByteArray} {A B : List C} {m : C} (h : Rise (A ++ B)) (h1 : ∀ a, a ∈ A → ltS a.key name = true) (h2 : ∀ b, b ∈ B → ltS name b.key = true) (hm : m.key = name) : Rise (A ++ m :: B) := by
  unfold Rise at *
  rw [List.pairwise_append] at h ⊢
  refine ⟨h.1, List.pairwise_cons.2 ⟨fun b hb => by rw [hm]; exact h2 b hb, h.2.1⟩, fun a ha b hb => ?_⟩
  rcases List.mem_cons.1 hb with rfl | hb
  · rw [hm]; exact h1 a ha
  · exact h.2.2 a ha b hb
theorem map_lt {name : ByteArray} {A : List C} (h : ∀ a, a ∈ A → ltS a.key name = true) : ∀ a, a ∈ A.map dirC → ltS a.key name = true := fun a ha => by
  obtain ⟨c, hc, rfl⟩ := List.mem_map.1 ha; exact h c hc
theorem map_gt {name : ByteArray} {A : List C} (h : ∀ a, a ∈ A → ltS name a.key = true) : ∀ a, a ∈ A.map dirC → ltS name a.key = true := fun a ha => by
  obtain ⟨c, hc, rfl⟩ := List.mem_map.1 ha; exact h c hc
theorem vi_mono {k m : Nat} {n : N} {l : List C} (h : VI k n l) (hm : k ≤ m) : VI m n l := ⟨tb_mono h.dir hm, h.rise, fun c hc => ⟨(h.cell c hc).1, tb_mono (h.cell c hc).2.1 hm, (h.cell c hc).2.2⟩, Nat.le_trans h.len hm, h.en⟩
theorem kid0_cell (name : ByteArray) (t : N) : kid0 (cellN name t) = t := rfl
theorem key_cell (name : ByteArray) (t : N) : (cellN name t).key = name := rfl
theorem vi_mk {k : Nat} {n : N} {l : List C} (h : VI k n l) (hk : k ≤ 116) (name : ByteArray) : VI (k + 1) (mkV name n l).1.1 (mkV name n l).1.2 := by
  unfold mkV
  cases hok : okKey name with
  | false => exact vi_mono h (by omega)
  | true =>
    cases hh : hasN l name with
    | true => exact vi_mono h (by omega)
    | false =>
      obtain ⟨A, B, hl, hi, h1, h2⟩ := cut_lt h.rise hh
      obtain ⟨hne, hsz⟩ := okKey_ne hok
      have hlen := h.len
      have e : l.take (idxN l name) ++ [cellN name emN] ++ l.drop (idxN l name) = A ++ cellN name emN :: B := by rw [hi, hl]; simp
      simp only [if_true, if_false, Bool.false_eq_true]
      rw [e]
      have hr := h.rise
      have hce := h.cell
      have hen := h.en
      rw [hl] at hr hce hlen
      refine ⟨tb_put h.dir hk hne hsz (by decide), rise_cut hr h1 h2 rfl, fun c hc => ?_, by simp only [List.length_append, List.length_cons] at *; omega, ?_⟩
      · have old : ∀ c, c ∈ A ++ B → c = cellN c.key (kid0 c) ∧ TB (k + 1) (kid0 c) ∧ okKey c.key = true := fun c hc => ⟨(hce c hc).1, tb_mono (hce c hc).2.1 (by omega), (hce c hc).2.2⟩
        rcases List.mem_append.1 hc with hc | hc
        · exact old c (List.mem_append_left _ hc)
        · rcases List.mem_cons.1 hc with rfl | hc
          · exact ⟨rfl, tb_em _, hok⟩
          · exact old c (List.mem_append_right _ hc)
      · rw [(root_put (val := nwS) hne hsz (by decide) h.dir.1).2, hen, hl]
        have := ins_cut (name := name) (val := nwS) (A := A.map dirC) (B := B.map dirC) (M := []) (map_lt h1) (map_gt h2) (fun m hm => by cases hm)
        rw [List.append_nil] at this
        show insE name nwS (List.map dirC (A ++ B)) = List.map dirC (A ++ cellN name emN :: B)
        rw [List.map_append, this, List.map_append, List.map_cons]; rfl
theorem vi_dr {k : Nat} {n : N} {l : List C} (h : VI k n l) (hk : k ≤ 116) (name : ByteArray) : VI (k + 1) (drV name n l).1.1 (drV name n l).1.2 := by
  unfold drV
  cases hh : hasN l name with
  | false => exact vi_mono h (by omega)
  | true =>
    obtain ⟨A, b, B, hl, hb, hi, h1, h2⟩ := cut_eq h.rise hh
    have hlen := h.len
    have e : l.take (idxN l name) ++ l.drop (idxN l name + 1) = A ++ B := by rw [hi, hl]; simp
    simp only [if_true]
    rw [e]
    have hr := h.rise
    have hce := h.cell
    have hen := h.en
    rw [hl] at hr hce hlen
    refine ⟨tb_del h.dir hk, hr.sublist (List.Sublist.append_left (List.sublist_cons_self _ _) _), fun c hc => ?_, by simp only [List.length_append, List.length_cons] at *; omega, ?_⟩
    · have hm : c ∈ A ++ b :: B := (List.Sublist.append_left (List.sublist_cons_self _ _) _).subset hc
      exact ⟨(hce c hm).1, tb_mono (hce c hm).2.1 (by omega), (hce c hm).2.2⟩
    · rw [(root_del name h.dir.1).2, hen, hl]
      have := del_cut (name := name) (A := A.map dirC) (B := B.map dirC) (M := [dirC b]) (map_lt h1) (map_gt h2) (fun m hm => by rw [List.mem_singleton] at hm; subst hm; exact hb)
      show delE name (List.map dirC (A ++ b :: B)) = List.map dirC (A ++ B)
      rw [List.map_append, List.map_append, List.map_cons, ← this]; simp
theorem vi_ch {k : Nat} {n : N} {l : List C} (h : VI k n l) (hk : k ≤ 116) (name : ByteArray) (f : N → N × Int) (hf : ∀ t, TB k t → TB (k + 1) (f t).1) : VI (k + 1) (chV name f n l).1.1 (chV name f n l).1.2 := by
  unfold chV
  cases hh : hasN l name with
  | false => exact vi_mono h (by omega)
  | true =>
    obtain ⟨A, b, B, hl, hb, hi, h1, h2⟩ := cut_eq h.rise hh
    have hlen := h.len
    have hgb : l[idxN l name]? = some b := by rw [hi, hl]; simp
    simp only [if_true, hgb]
    split
    · have hr := h.rise
      have hce := h.cell
      have hen := h.en
      have e : l.set (idxN l name) (cellN b.key (f (kid0 b)).1) = A ++ cellN b.key (f (kid0 b)).1 :: B := by rw [hi, hl]; simp
      simp only
      rw [e]
      rw [hl] at hr hce hlen
      have hbc := hce b (by simp)
      obtain ⟨hne, hsz⟩ := okKey_ne hbc.2.2
      rw [hb] at hne hsz
      have hr2 : Rise (A ++ B) := hr.sublist (List.Sublist.append_left (List.sublist_cons_self _ _) _)
      refine ⟨tb_put h.dir hk hne hsz (by decide), rise_cut hr2 h1 h2 hb, fun c hc => ?_, by simp only [List.length_append, List.length_cons] at *; omega, ?_⟩
      · have old : ∀ c, c ∈ A ++ b :: B → c = cellN c.key (kid0 c) ∧ TB (k + 1) (kid0 c) ∧ okKey c.key = true := fun c hc => ⟨(hce c hc).1, tb_mono (hce c hc).2.1 (by omega), (hce c hc).2.2⟩
        rcases List.mem_append.1 hc with hc | hc
        · exact old c (List.mem_append_left _ hc)
        · rcases List.mem_cons.1 hc with rfl | hc
          · exact ⟨rfl, hf _ hbc.2.1, hbc.2.2⟩
          · exact old c (List.mem_append_right _ (List.mem_cons_of_mem _ hc))
      · rw [(root_put (val := nwS) hne hsz (by decide) h.dir.1).2, hen, hl]
        have := ins_cut (name := name) (val := nwS) (A := A.map dirC) (B := B.map dirC) (M := [dirC b]) (map_lt h1) (map_gt h2) (fun m hm => by rw [List.mem_singleton] at hm; subst hm; exact hb)
        show insE name nwS (List.map dirC (A ++ b :: B)) = List.map dirC (A ++ cellN b.key (f (kid0 b)).1 :: B)
        rw [List.map_append, List.map_cons, List.map_append, List.map_cons]
        have e2 : List.map dirC A ++ dirC b :: List.map dirC B = List.map dirC A ++ [dirC b] ++ List.map dirC B := by simp
        rw [e2, this, ← hb]; rfl
    · exact vi_mono h (by omega)
theorem vi_pu {k : Nat} {n : N} {l : List C} (h : VI k n l) (hk : k ≤ 116) (name key val : ByteArray) : VI (k + 1) (puV name key val n l).1.1 (puV name key val n l).1.2 := by
  unfold puV
  split
  · rename_i hc
    simp only [Bool.and_eq_true, decide_eq_true_eq] at hc
    obtain ⟨hne, hsz⟩ := okKey_ne hc.1
    exact vi_ch h hk name _ fun t ht => tb_put ht hk hne hsz hc.2
  · exact vi_mono h (by omega)
theorem vi_de {k : Nat} {n : N} {l : List C} (h : VI k n l) (hk : k ≤ 116) (name key : ByteArray) : VI (k + 1) (deV name key n l).1.1 (deV name key n l).1.2 := by
  refine vi_ch h hk name _ fun t ht => ?_
  split
  · exact tb_del ht hk
  · exact tb_mono ht (by omega)
end Go.Proofs.YtfieabidajilmaaGreat

namespace Go.Proofs.YtfieabidajilmaaGreat
open Aml Go
set_option linter.unusedVariables false
set_option linter.unusedSimpArgs false
set_option maxRecDepth 100000
/-- The tree that stands at a name. -/
def atV (name : ByteArray) (l : List C) : Option N := (l.find? fun c => eqS c.key name).map kid0
theorem find_lt {name : ByteArray} {A : List C} (h : ∀ a, a ∈ A → ltS a.key name = true) : A.find? (fun c => eqS c.key name) = none := List.find?_eq_none.2 fun a ha => by rw [eqS_no.2 (ltS_ne (h a ha))]; simp
theorem find_gt {name : ByteArray} {A : List C} (h : ∀ a, a ∈ A → ltS name a.key = true) : A.find? (fun c => eqS c.key name) = none := List.find?_eq_none.2 fun a ha => by rw [eqS_no.2 (ltS_ne (h a ha)).symm]; simp
theorem at_no {name : ByteArray} {l : List C} (h : Rise l) (hh : hasN l name = false) : atV name l = none := by
  obtain ⟨A, B, hl, hi, h1, h2⟩ := cut_lt h hh
  unfold atV
  rw [hl, List.find?_append, find_lt h1, find_gt h2]; rfl
theorem at_yes {name : ByteArray} {l : List C} (h : Rise l) (hh : hasN l name = true) : ∃ c, l[idxN l name]? = some c ∧ c.key = name ∧ atV name l = some (kid0 c) := by
  obtain ⟨A, b, B, hl, hb, hi, h1, h2⟩ := cut_eq h hh
  refine ⟨b, by rw [hi, hl]; simp, hb, ?_⟩
  unfold atV
  rw [hl, List.find?_append, find_lt h1, List.find?_cons, hb, eqS_self]; rfl
def gMk (name : ByteArray) (o : Option N) : Option N × Int := if okKey name then (match o with
  | some t => (some t, 38)
  | none => (some emN, 0)) else (o, 34)
def gCh (f : N → N × Int) : Option N → Option N × Int
  | some t => if (f t).2 = 0 then (some (f t).1, 0) else (some t, (f t).2)
  | none => (none, 32)
theorem at_mid {name : ByteArray} {A M B : List C} (h1 : ∀ a, a ∈ A → ltS a.key name = true) (h2 : ∀ b, b ∈ B → ltS name b.key = true) : atV name (A ++ M ++ B) = atV name M := by
  unfold atV
  rw [List.find?_append, List.find?_append, find_lt h1, find_gt h2]
  simp
theorem at_oth {name x : ByteArray} {A M B : List C} (hne : x ≠ name) (hM : ∀ m, m ∈ M → m.key = x) : atV name (A ++ M ++ B) = atV name (A ++ B) := by
  unfold atV
  have : M.find? (fun c => eqS c.key name) = none := List.find?_eq_none.2 fun m hm => by rw [hM m hm, eqS_no.2 hne]; simp
  rw [List.find?_append, List.find?_append, this, List.find?_append]
  simp
theorem mk_at {name : ByteArray} {n : N} {l : List C} (h : Rise l) : (atV name (mkV name n l).1.2, (mkV name n l).2) = gMk name (atV name l) := by
  unfold mkV gMk
  cases hok : okKey name with
  | false => rfl
  | true =>
    cases hh : hasN l name with
    | true => obtain ⟨c, _, _, e⟩ := at_yes h hh; rw [e]; simp [e]
    | false =>
      obtain ⟨A, B, hl, hi, h1, h2⟩ := cut_lt h hh
      have e : l.take (idxN l name) ++ [cellN name emN] ++ l.drop (idxN l name) = A ++ [cellN name emN] ++ B := by rw [hi, hl]; simp
      rw [at_no h hh]
      simp only [if_true, if_false, Bool.false_eq_true]
      rw [e, at_mid h1 h2]
      simp [atV, key_cell, eqS_self, kid0_cell]
theorem mk_oth {name x : ByteArray} {n : N} {l : List C} (h : Rise l) (hne : x ≠ name) : atV name (mkV x n l).1.2 = atV name l := by
  unfold mkV
  cases hok : okKey x with
  | false => rfl
  | true =>
    cases hh : hasN l x with
    | true => rfl
    | false =>
      simp only [if_true, if_false, Bool.false_eq_true]
      rw [at_oth hne fun m hm => by rw [List.mem_singleton] at hm; subst hm; rfl, List.take_append_drop]
theorem ch_at {name : ByteArray} {f : N → N × Int} {n : N} {l : List C} (h : Rise l) : (atV name (chV name f n l).1.2, (chV name f n l).2) = gCh f (atV name l) := by
  unfold chV
  cases hh : hasN l name with
  | false => rw [at_no h hh]; simp [gCh, at_no h hh]
  | true =>
    obtain ⟨A, b, B, hl, hb, hi, h1, h2⟩ := cut_eq h hh
    have hgb : l[idxN l name]? = some b := by rw [hi, hl]; simp
    obtain ⟨c, hc, _, e2⟩ := at_yes h hh
    rw [hgb] at hc; cases hc
    rw [e2]
    simp only [if_true, hgb, gCh]
    split
    · have e : l.set (idxN l name) (cellN b.key (f (kid0 b)).1) = A ++ [cellN b.key (f (kid0 b)).1] ++ B := by rw [hi, hl]; simp
      simp only
      rw [e, at_mid h1 h2]
      simp [atV, key_cell, hb, eqS_self, kid0_cell]
    · simp only [e2]
theorem ch_oth {name x : ByteArray} {f : N → N × Int} {n : N} {l : List C} (h : Rise l) (hne : x ≠ name) : atV name (chV x f n l).1.2 = atV name l := by
  unfold chV
  cases hh : hasN l x with
  | false => rfl
  | true =>
    obtain ⟨A, b, B, hl, hb, hi, h1, h2⟩ := cut_eq h hh
    have hgb : l[idxN l x]? = some b := by rw [hi, hl]; simp
    simp only [if_true, hgb]
    split
    · have e : l.set (idxN l x) (cellN b.key (f (kid0 b)).1) = A ++ [cellN b.key (f (kid0 b)).1] ++ B := by rw [hi, hl]; simp
      have e2 : l = A ++ [b] ++ B := by rw [hl]; simp
      simp only
      rw [e]
      conv => rhs; rw [e2]
      rw [at_oth hne fun m hm => by rw [List.mem_singleton] at hm; subst hm; exact hb, at_oth hne fun m hm => by rw [List.mem_singleton] at hm; subst hm; exact hb]
    · rfl
theorem sc_at {name fr : ByteArray} {most : Int} {l : List C} (h : Rise l) : scV name fr most l = (match atV name l with
    | some t => ((geK fr (enN t)).take most.toNat, 0)
    | none => ([], 32)) := by
  unfold scV
  cases hh : hasN l name with
  | false => rw [at_no h hh]; cases l[idxN l name]? <;> simp
  | true => obtain ⟨c, hc, _, e⟩ := at_yes h hh; rw [hc, e]; simp
theorem ge_at {name key : ByteArray} {l : List C} (h : Rise l) : geV name key l = (match atV name l with
    | some t => (match findN key t with
      | some x => (x, 0)
      | none => (noS, 33))
    | none => (noS, 32)) := by
  unfold geV
  cases hh : hasN l name with
  | false => rw [at_no h hh]; cases l[idxN l name]? <;> simp
  | true => obtain ⟨c, hc, _, e⟩ := at_yes h hh; rw [hc, e]; simp only [if_true]; cases findN key (kid0 c) <;> rfl
end Go.Proofs.YtfieabidajilmaaGreat

namespace Go.Proofs.YtfieabidajilmaaGreat
open Aml Go
set_option linter.unusedVariables false
set_option linter.unusedSimpArgs false
set_option maxRecDepth 100000
/-- A step of a law on views. -/
structure Sv where
  op : Int
  name : ByteArray
  key : ByteArray
  byte : Int
  size : Int
@[go_sem] def dSv (s : Sv) : DV := .agg [dI s.op, dS s.name, dS s.key, .v (.int .u8 s.byte), dI s.size]
/-- A step's value. -/
def vaS (s : Sv) : ByteArray := strOfNums (List.replicate s.size.toNat s.byte)
theorem rep_set {n k : Nat} (x z : DV) (h : k < n) : (List.replicate k x ++ List.replicate (n - k) z).set k x = List.replicate (k + 1) x ++ List.replicate (n - (k + 1)) z := by
  rw [List.set_append, if_neg (by simp), List.length_replicate, Nat.sub_self]
  obtain ⟨m, hm⟩ : ∃ m, n - k = m + 1 := ⟨n - k - 1, by omega⟩
  rw [hm, show n - (k + 1) = m by omega, List.replicate_succ, List.set_cons_zero, List.replicate_succ', List.append_assoc]; rfl
theorem by_rep (n : Nat) (x : Int) : okBy (List.replicate n (.v (.int .u8 x))) = true ∧ byD (List.replicate n (.v (.int .u8 x))) = List.replicate n x := by
  induction n with
  | zero => exact ⟨rfl, rfl⟩
  | succ n ih => 
    rw [List.replicate_succ, List.replicate_succ]
    exact ⟨ih.1, by show x :: byD _ = _; rw [ih.2]⟩
set_option maxHeartbeats 1000000 in
theorem valueW (w0 : W0) (s : Sv) (S : St) (h : s.size ≤ 1000) : ACall Tryz.prog w0 16 [dSv s] S (fun d S' => d = dS (vaS s) ∧ S' = S) := by
  have e1 : (if s.size < 0 then 0 else s.size) = (s.size.toNat : Int) := by split <;> omega
  have hn : s.size.toNat ≤ 1000 := by omega
  refine fnS [] mx Tryz.func16 rfl rfl (by kernel_rfl) ?_; simp (maxDischargeDepth := 12) (maxSteps := 1000000) -implicitDefEqProofs only [Tryz.ntmps16, go_sem, Nat.reduceAdd, Nat.reduceSub, Nat.reduceMul, Nat.reduceLeDiff, Nat.reduceEqDiff, Nat.reduceGT, Nat.reduceBEq, reduceCtorEq, ↓reduceIte, Int.reduceToNat, Int.reduceLE, Int.reduceLT, Int.reduceNe, Int.reduceEq,  e1]
  intro b
  refine ⟨by omega, by omega, fun l => ?_⟩
  unfold vaS
  generalize s.size.toNat = n at *
  refine loopN [] n [1, 3, 4] (fun k => [(4, dI k)]) (fun k => ⟨(b.n, [dI s.op, dS s.name, dS s.key, .v (.int .u8 s.byte), dI s.size]) :: S.box, (l.n, .arr 1 (List.replicate k (.v (.int .u8 s.byte)) ++ List.replicate (n - k) (.v (.int .u8 0)))) :: S.acc⟩) (fun _ => True) mx (by kernel_rfl) ?_ ?_
  · simp (maxDischargeDepth := 12) (maxSteps := 1000000) -implicitDefEqProofs only [go_sem, Nat.reduceAdd, Nat.reduceSub, Nat.reduceMul, Nat.reduceLeDiff, Nat.reduceEqDiff, Nat.reduceGT, Nat.reduceBEq, reduceCtorEq, ↓reduceIte, Int.reduceToNat, Int.reduceLE, Int.reduceLT, Int.reduceNe, Int.reduceEq, Int.toNat_natCast, Nat.sub_zero, List.replicate_zero, List.nil_append]
  · intro k hk _
    simp (maxDischargeDepth := 12) (maxSteps := 1000000) -implicitDefEqProofs only [go_sem, Nat.reduceAdd, Nat.reduceSub, Nat.reduceMul, Nat.reduceLeDiff, Nat.reduceEqDiff, Nat.reduceGT, Nat.reduceBEq, reduceCtorEq, ↓reduceIte, Int.reduceToNat, Int.reduceLE, Int.reduceLT, Int.reduceNe, Int.reduceEq, Int.toNat_natCast]
    refine ⟨fun hlt => ⟨hlt, by rw [List.length_replicate, List.length_replicate]; omega, ?_⟩, fun hge => ?_⟩
    · have h1 : (List.replicate k (DV.v (.int .u8 s.byte)) ++ List.replicate (n - k) (DV.v (.int .u8 0)))[k]? = some (.v (.int .u8 0)) := by
        rw [List.getElem?_append_right (by simp), List.length_replicate, Nat.sub_self, List.getElem?_replicate, if_pos (by omega)]
      refine ⟨_, h1, rfl, hlt, i_oneV k (by omega), ?_⟩
      rw [rep_set _ _ hlt, List.replicate_succ]
      exact Aml.Sub.refl _
    · have : k = n := by omega
      subst this
      rw [Nat.sub_self, List.replicate_zero, List.append_nil]
      exact ⟨by rw [List.length_replicate, List.length_nil]; omega, (by_rep k s.byte).1, by rw [(by_rep k s.byte).2]⟩
def okS (s : Sv) : Bool := decide (s.name.size ≤ 40) && decide (s.key.size ≤ 40) && decide (s.size ≤ 500)
def smallL (l : List Sv) : Bool := l.all okS && decide (l.length ≤ 100)
theorem all_no {l : List Sv} {k : Nat} {a : Sv} (ha : l[k]? = some a) (h : okS a = false) : smallL l = false := by
  unfold smallL
  rw [List.all_eq_false.2 ⟨a, List.mem_of_getElem? ha, by rw [h]; simp⟩]; rfl
set_option maxHeartbeats 1000000 in
theorem smallW (w0 : W0) (l : List Sv) (S : St) (hl : l.length ≤ 1048576) : ACall Tryz.prog w0 8 [.sl 5 false (l.map dSv)] S (fun d S' => d = dB (smallL l) ∧ S' = S) := by
  have hno := fun k a => all_no (l := l) (k := k) (a := a)
  have hyes : l.all okS = true → smallL l = decide (l.length ≤ 100) := fun e => by unfold smallL; rw [e]; rfl
  generalize smallL l = R at *
  refine fnS [] mx Tryz.func8 rfl rfl (by kernel_rfl) ?_; simp (maxDischargeDepth := 12) (maxSteps := 1000000) -implicitDefEqProofs only [Tryz.ntmps8, go_sem, Nat.reduceAdd, Nat.reduceSub, Nat.reduceMul, Nat.reduceLeDiff, Nat.reduceEqDiff, Nat.reduceGT, Nat.reduceBEq, reduceCtorEq, ↓reduceIte, Int.reduceToNat, Int.reduceLE, Int.reduceLT, Int.reduceNe, Int.reduceEq]
  refine loopN [] l.length [0, 3] (fun k => [(3, dI k)]) (fun _ => S) (fun k => (l.take k).all okS = true) mx (by kernel_rfl) ?_ ?_
  · simp (maxDischargeDepth := 12) (maxSteps := 1000000) -implicitDefEqProofs only [go_sem, Nat.reduceAdd, Nat.reduceSub, Nat.reduceMul, Nat.reduceLeDiff, Nat.reduceEqDiff, Nat.reduceGT, Nat.reduceBEq, reduceCtorEq, ↓reduceIte, Int.reduceToNat, Int.reduceLE, Int.reduceLT, Int.reduceNe, Int.reduceEq]
  · intro k hk ha
    simp (maxDischargeDepth := 12) (maxSteps := 1000000) -implicitDefEqProofs only [go_sem, Nat.reduceAdd, Nat.reduceSub, Nat.reduceMul, Nat.reduceLeDiff, Nat.reduceEqDiff, Nat.reduceGT, Nat.reduceBEq, reduceCtorEq, ↓reduceIte, Int.reduceToNat, Int.reduceLE, Int.reduceLT, Int.reduceNe, Int.reduceEq]
    refine ⟨fun h => ⟨h, fun a e => ⟨fun q => (hno k a e (by unfold okS; rw [decide_eq_false (by omega)]; rfl)).symm, fun q1 => ⟨h, fun a' e' => ?_⟩⟩⟩, fun h => ?_⟩
    · cases getE e e'
      refine ⟨fun q => (hno k a e (by unfold okS; rw [decide_eq_false (p := a.key.size ≤ 40) (by omega), Bool.and_false]; rfl)).symm, fun q2 => ⟨h, fun a' e' => ?_⟩⟩
      cases getE e e'
      refine ⟨fun q => (hno k a e (by unfold okS; rw [decide_eq_false (p := a.size ≤ 500) (by omega), Bool.and_false])).symm, fun q3 => ⟨h, ?_, i_oneV k (by omega)⟩⟩
      rw [List.take_add_one, e, List.all_append, ha]
      simp only [Option.toList_some, List.all_cons, List.all_nil, Bool.and_true, Bool.true_and]
      unfold okS
      rw [decide_eq_true (by omega), decide_eq_true (by omega), decide_eq_true (by omega)]; rfl
    · have : k = l.length := by omega
      rw [this, List.take_length] at ha
      rw [hyes ha, Bool.eq_iff_iff, decide_eq_true_iff, decide_eq_true_iff]; omega
end Go.Proofs.YtfieabidajilmaaGreat

namespace Go.Proofs.YtfieabidajilmaaGreat
open Aml Go
set_option linter.unusedVariables false
set_option linter.unusedSimpArgs false
set_option maxRecDepth 100000
theorem root_one {n : N} (h : RootG n) (h1 : (enN n).length = 1) : n.leaf = true ∧ n.l.length = 1 := by
  obtain ⟨d, hg, hs, h2⟩ := h
  cases d with
  | zero => exact ⟨hg.1, by rw [en_leaf hg.1] at h1; exact h1⟩
  | succ d =>
    exfalso
    have hlen : 2 ≤ n.l.length := h2.resolve_left (by rw [hg.1]; simp)
    rw [enN_eq, hg.1] at h1
    match hn : n.l, hlen with
    | a :: b :: r, _ =>
      obtain ⟨x, hx⟩ := cell_ne (hg.2.2.cell a (by rw [hn]; exact List.mem_cons_self))
      obtain ⟨y, hy⟩ := cell_ne (hg.2.2.cell b (by rw [hn]; exact List.mem_cons_of_mem _ List.mem_cons_self))
      rw [hn, List.flatMap_cons, List.flatMap_cons] at h1
      have p1 := List.length_pos_of_mem hx
      have p2 := List.length_pos_of_mem hy
      simp only [List.length_append] at h1
      omega
theorem ch_len (name : ByteArray) (f : N → N × Int) (n : N) (l : List C) : (chV name f n l).1.2.length = l.length := by
  unfold chV
  split
  · split
    · split
      · simp
      · rfl
    · rfl
  · rfl
theorem find_at {key : ByteArray} {n : N} (h : RootG n) : findN key n = ((enN n).find? fun c => eqS c.key key).map C.data := by
  obtain ⟨d, hg, _⟩ := h; exact find_good key hg
set_option maxHeartbeats 4000000 in
theorem awakeW (w0 : W0) (S : St) : ACall Tryz.prog w0 7 [] S (fun d S' => d = dB true ∧ S' = S) := by
  have hbok : okKey { data := #[98] } = true := by decide
  have hkok : okKey { data := #[107] } = true := by decide
  have hbc : ({ data := #[98] } : ByteArray) ≠ { data := #[99] } := by decide
  have v0 := vi_em 0
  have v1 := vi_mk v0 (by omega) { data := #[98] }
  have a1 := mk_at (name := { data := #[98] }) (n := emN) v0.rise
  have c1 := mk_oth (name := { data := #[99] }) (x := { data := #[98] }) (n := emN) v0.rise hbc
  have g0 : gMk { data := #[98] } (atV { data := #[98] } []) = (some emN, 0) := by
    unfold gMk; rw [hbok]; rfl
  rw [g0] at a1
  have l1 : (mkV { data := #[98] } emN []).1.2.length = 1 := by
    unfold mkV; rw [hbok]; rfl
  have w1 := fun S => makeV w0 0 { data := #[98] } emN [] S v0 (by omega)
  generalize mkV { data := #[98] } emN [] = q1 at *
  have a1a : atV { data := #[98] } q1.1.2 = some emN := congrArg Prod.fst a1
  have a1b : q1.2 = 0 := congrArg Prod.snd a1
  have v2 := vi_pu v1 (by omega) { data := #[98] } { data := #[107] } { data := #[118] }
  have w2 := fun S => putV w0 1 { data := #[98] } { data := #[107] } { data := #[118] } q1.1.1 q1.1.2 S v1 (by omega)
  have e2 : puV { data := #[98] } { data := #[107] } { data := #[118] } q1.1.1 q1.1.2 = chV { data := #[98] } (fun t => (Put { data := #[107] } { data := #[118] } t, 0)) q1.1.1 q1.1.2 := by
    unfold puV; rw [hkok]; rfl
  have a2 := ch_at (name := { data := #[98] }) (f := fun t => (Put { data := #[107] } { data := #[118] } t, 0)) (n := q1.1.1) v1.rise
  have c2 := ch_oth (name := { data := #[99] }) (x := { data := #[98] }) (f := fun t => (Put { data := #[107] } { data := #[118] } t, 0)) (n := q1.1.1) v1.rise hbc
  have l2 := ch_len { data := #[98] } (fun t => (Put { data := #[107] } { data := #[118] } t, 0)) q1.1.1 q1.1.2
  rw [← e2] at a2 c2 l2
  rw [a1a] at a2
  generalize puV { data := #[98] } { data := #[107] } { data := #[118] } q1.1.1 q1.1.2 = q2 at *
  have a2a : atV { data := #[98] } q2.1.2 = some (Put { data := #[107] } { data := #[118] } emN) := congrArg Prod.fst a2
  have a2b : q2.2 = 0 := congrArg Prod.snd a2
  have hroot := root_put (key := { data := #[107] }) (val := { data := #[118] }) (okKey_ne hkok).1 (okKey_ne hkok).2 (by decide) em_root
  have hen : enN (Put { data := #[107] } { data := #[118] } emN) = [.mk { data := #[107] } { data := #[118] } [] []] := by rw [hroot.2]; rfl
  have hf1 : findN { data := #[107] } (Put { data := #[107] } { data := #[118] } emN) = some { data := #[118] } := by
    rw [find_at hroot.1, hen]; rfl
  have hf0 : findN { data := #[107] } emN = none := by rw [find_at em_root]; rfl
  have w3 := fun S => getV w0 2 { data := #[98] } { data := #[107] } q2.1.1 q2.1.2 S v2 (by omega)
  rw [ge_at v2.rise, a2a] at w3
  simp only [hf1] at w3
  have hcn : atV { data := #[99] } q2.1.2 = none := by rw [c2, c1]; rfl
  have w4 := fun S => getV w0 2 { data := #[99] } { data := #[107] } q2.1.1 q2.1.2 S v2 (by omega)
  rw [ge_at v2.rise, hcn] at w4
  have w5 := fun S => getV w0 1 { data := #[98] } { data := #[107] } q1.1.1 q1.1.2 S v1 (by omega)
  rw [ge_at v1.rise, a1a] at w5
  simp only [hf0] at w5
  have w6 := fun S => makeV w0 2 { data := #[98] } q2.1.1 q2.1.2 S v2 (by omega)
  have a6 := mk_at (name := { data := #[98] }) (n := q2.1.1) v2.rise
  have g6 : gMk { data := #[98] } (atV { data := #[98] } q2.1.2) = (some (Put { data := #[107] } { data := #[118] } emN), 38) := by
    unfold gMk; rw [hbok, a2a]; rfl
  rw [g6] at a6
  generalize mkV { data := #[98] } q2.1.1 q2.1.2 = q3 at *
  have a6b : q3.2 = 38 := congrArg Prod.snd a6
  have w7 := fun S => scanV w0 2 { data := #[98] } { data := #[] } 9 q2.1.1 q2.1.2 S v2 (by omega) (by omega) (by omega)
  rw [sc_at v2.rise, a2a] at w7
  have hsc : (geK { data := #[] } (enN (Put { data := #[107] } { data := #[118] } emN))).take (9 : Int).toNat = [.mk { data := #[107] } { data := #[118] } [] []] := by rw [hen]; rfl
  simp only [hsc] at w7
  have hlen := v2.en
  have hdl := root_one v2.dir.1 (by rw [hlen, List.length_map, l2, l1])
  refine fnS [] mx Tryz.func7 rfl rfl (by kernel_rfl) ?_; simp (maxDischargeDepth := 12) (maxSteps := 1000000) -implicitDefEqProofs only [Tryz.ntmps7, go_sem, Nat.reduceAdd, Nat.reduceSub, Nat.reduceMul, Nat.reduceLeDiff, Nat.reduceEqDiff, Nat.reduceGT, Nat.reduceBEq, reduceCtorEq, ↓reduceIte, Int.reduceToNat, Int.reduceLE, Int.reduceLT, Int.reduceNe, Int.reduceEq]
  refine use1 (emptyV w0 _) ?_
  simp (maxDischargeDepth := 12) (maxSteps := 1000000) -implicitDefEqProofs only [go_sem, Nat.reduceAdd, Nat.reduceSub, Nat.reduceMul, Nat.reduceLeDiff, Nat.reduceEqDiff, Nat.reduceGT, Nat.reduceBEq, reduceCtorEq, ↓reduceIte, Int.reduceToNat, Int.reduceLE, Int.reduceLT, Int.reduceNe, Int.reduceEq]
  refine use1 (w1 _) ?_
  simp (maxDischargeDepth := 12) (maxSteps := 1000000) -implicitDefEqProofs only [go_sem, Nat.reduceAdd, Nat.reduceSub, Nat.reduceMul, Nat.reduceLeDiff, Nat.reduceEqDiff, Nat.reduceGT, Nat.reduceBEq, reduceCtorEq, ↓reduceIte, Int.reduceToNat, Int.reduceLE, Int.reduceLT, Int.reduceNe, Int.reduceEq]
  intro b1
  refine use1 (w2 _) ?_
  simp (maxDischargeDepth := 12) (maxSteps := 1000000) -implicitDefEqProofs only [go_sem, Nat.reduceAdd, Nat.reduceSub, Nat.reduceMul, Nat.reduceLeDiff, Nat.reduceEqDiff, Nat.reduceGT, Nat.reduceBEq, reduceCtorEq, ↓reduceIte, Int.reduceToNat, Int.reduceLE, Int.reduceLT, Int.reduceNe, Int.reduceEq]
  intro b2
  refine use1 (w3 _) ?_
  simp (maxDischargeDepth := 12) (maxSteps := 1000000) -implicitDefEqProofs only [go_sem, Nat.reduceAdd, Nat.reduceSub, Nat.reduceMul, Nat.reduceLeDiff, Nat.reduceEqDiff, Nat.reduceGT, Nat.reduceBEq, reduceCtorEq, ↓reduceIte, Int.reduceToNat, Int.reduceLE, Int.reduceLT, Int.reduceNe, Int.reduceEq]
  refine use1 (w4 _) ?_
  simp (maxDischargeDepth := 12) (maxSteps := 1000000) -implicitDefEqProofs only [go_sem, Nat.reduceAdd, Nat.reduceSub, Nat.reduceMul, Nat.reduceLeDiff, Nat.reduceEqDiff, Nat.reduceGT, Nat.reduceBEq, reduceCtorEq, ↓reduceIte, Int.reduceToNat, Int.reduceLE, Int.reduceLT, Int.reduceNe, Int.reduceEq]
  refine use1 (w5 _) ?_
  simp (maxDischargeDepth := 12) (maxSteps := 1000000) -implicitDefEqProofs only [go_sem, Nat.reduceAdd, Nat.reduceSub, Nat.reduceMul, Nat.reduceLeDiff, Nat.reduceEqDiff, Nat.reduceGT, Nat.reduceBEq, reduceCtorEq, ↓reduceIte, Int.reduceToNat, Int.reduceLE, Int.reduceLT, Int.reduceNe, Int.reduceEq]
  refine use1 (w6 _) ?_
  simp (maxDischargeDepth := 12) (maxSteps := 1000000) -implicitDefEqProofs only [go_sem, Nat.reduceAdd, Nat.reduceSub, Nat.reduceMul, Nat.reduceLeDiff, Nat.reduceEqDiff, Nat.reduceGT, Nat.reduceBEq, reduceCtorEq, ↓reduceIte, Int.reduceToNat, Int.reduceLE, Int.reduceLT, Int.reduceNe, Int.reduceEq]
  intro b3
  refine use1 (w7 _) ?_
  simp (maxDischargeDepth := 12) (maxSteps := 1000000) -implicitDefEqProofs only [go_sem, Nat.reduceAdd, Nat.reduceSub, Nat.reduceMul, Nat.reduceLeDiff, Nat.reduceEqDiff, Nat.reduceGT, Nat.reduceBEq, reduceCtorEq, ↓reduceIte, Int.reduceToNat, Int.reduceLE, Int.reduceLT, Int.reduceNe, Int.reduceEq]
  exact ⟨fun _ => ⟨fun _ => ⟨fun _ => ⟨fun _ => ⟨fun _ => ⟨fun _ => by omega, fun h => absurd (by omega) h⟩, fun h => by rw [eqS_self] at h; cases h⟩, fun h => h a6b⟩, fun h => by rw [eqS_self] at h; cases h⟩, fun h => h a2b⟩, fun h => h a1b⟩
end Go.Proofs.YtfieabidajilmaaGreat
