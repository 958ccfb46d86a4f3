/-
  Pages that are released, given and taken. By an AI agent.
-/
import Derived.Test.YtkibkahknibgfaaP6
namespace Go.Proofs.Ytkibkahknibgfaa
open Aml Go
set_option linter.unusedVariables false
set_option linter.unusedSimpArgs false
set_option maxRecDepth 100000

/-- Those that wait on; what is released. -/
def keepW (o : Int) (h : Bool) (l : List Wt) : List Wt := l.filter fun w => h && decide (o < w.txn)
def goW (o : Int) (h : Bool) (l : List Wt) : List Wt := l.filter fun w => !(h && decide (o < w.txn))
def release (p : Pl) (o : Int) (h : Bool) : Pl := ⟨p.high, srt (flat (p.free :: pgs (goW o h p.wait))), keepW o h p.wait⟩
theorem keepW_succ {l : List Wt} {k : Nat} {a : Wt} (o : Int) (h : Bool) (ha : l[k]? = some a) : keepW o h (l.take (k + 1)) = keepW o h (l.take k) ++ if h && decide (o < a.txn) then [a] else [] := by
  rw [take_snoc ha]; unfold keepW; rw [List.filter_append]; simp [List.filter_cons]
theorem goW_succ {l : List Wt} {k : Nat} {a : Wt} (o : Int) (h : Bool) (ha : l[k]? = some a) : goW o h (l.take (k + 1)) = goW o h (l.take k) ++ if h && decide (o < a.txn) then [] else [a] := by
  rw [take_snoc ha]; unfold goW; rw [List.filter_append]
  congr 1
  simp only [List.filter_cons, List.filter_nil]
  cases hb : (h && decide (o < a.txn)) <;> rfl
theorem keepW_len (o : Int) (h : Bool) (l : List Wt) : (keepW o h l).length ≤ l.length := List.length_filter_le _ _
theorem goW_len (o : Int) (h : Bool) (l : List Wt) : (goW o h l).length ≤ l.length := List.length_filter_le _ _
theorem nW_filter (f : Wt → Bool) (l : List Wt) : nW (l.filter f) ≤ nW l := by
  induction l with
  | nil => simp [nW]
  | cons a l ih =>
    rw [List.filter_cons]
    split
    · simp only [nW, List.map_cons, List.sum_cons] at *; omega
    · simp only [nW, List.map_cons, List.sum_cons] at *; omega

@[go_sem] theorem pgs_length (l : List Wt) : (pgs l).length = l.length := List.length_map _
theorem pgs_app (l m : List Wt) : pgs (l ++ m) = pgs l ++ pgs m := List.map_append
theorem keep_yes {l : List Wt} {k : Nat} {a : Wt} {o : Int} {h : Bool} (ha : l[k]? = some a) (hh : h = true) (ht : a.txn > o) : keepW o h (l.take (k + 1)) = keepW o h (l.take k) ++ [a] ∧ goW o h (l.take (k + 1)) = goW o h (l.take k) := by
  rw [keepW_succ o h ha, goW_succ o h ha, hh]; simp [show o < a.txn from ht]
theorem keep_no {l : List Wt} {k : Nat} {a : Wt} {o : Int} {h : Bool} (ha : l[k]? = some a) (ht : h = false ∨ ¬ a.txn > o) : keepW o h (l.take (k + 1)) = keepW o h (l.take k) ∧ goW o h (l.take (k + 1)) = goW o h (l.take k) ++ [a] := by
  have hb : (h && decide (o < a.txn)) = false := by
    rcases ht with rfl | ht
    · rfl
    · rw [decide_eq_false (by omega), Bool.and_false]
  rw [keepW_succ o h ha, goW_succ o h ha, hb]; simp
set_option maxHeartbeats 4000000 in
theorem releaseW (w0 : World) (p : Pl) (o : Int) (h : Bool) (S : St) (h0 : p.wait.length ≤ 1048576) (h1 : p.free.length + nW p.wait ≤ 1048576) : ACall Try.prog w0 55 [dP p, dU o, dB h] S (fun d S' => d = dP (release p o h) ∧ S' = S) := by
  refine fnS [10] mx Try.func55 rfl rfl (by kernel_rfl) ?_; simp (maxDischargeDepth := 12) -implicitDefEqProofs only [Try.ntmps55, go_sem, Nat.reduceAdd, Nat.reduceSub, Nat.reduceMul, Nat.reduceLeDiff, Nat.reduceEqDiff, Nat.reduceGT, Nat.reduceBEq, reduceCtorEq, ↓reduceIte, Int.reduceToNat, Int.reduceLE, Int.reduceLT, Int.reduceNe, Int.reduceEq]
  intro b b1
  refine growK 8 2 rfl (by omega) fun l2 => tailK 7 rfl (by omega) fun l1 => ?_
  simp (maxDischargeDepth := 12) -implicitDefEqProofs only [go_sem, Nat.reduceAdd, Nat.reduceSub, Nat.reduceMul, Nat.reduceLeDiff, Nat.reduceEqDiff, Nat.reduceGT, Nat.reduceBEq, reduceCtorEq, ↓reduceIte, Int.reduceToNat, Int.reduceLE, Int.reduceLT, Int.reduceNe, Int.reduceEq]
  refine loopN [10] p.wait.length [1, 2, 3, 6, 7, 8, 15, 16, 17] (fun k => [(7, .acc l1.n ((goW o h (p.wait.take k)).length + 1)), (8, .acc l2.n (keepW o h (p.wait.take k)).length), (17, dI k)]) (fun k => ⟨(b1.n, [dI 0, .sl 0 true [], .sl 0 true []]) :: (b.n, [dI p.high, dL p.free, .sl 2 false (p.wait.map dW)]) :: S.box, (l1.n, .tl 1 ((p.free :: pgs (goW o h (p.wait.take k))).map dL)) :: (l2.n, .arr 2 ((keepW o h (p.wait.take k)).map dW)) :: S.acc⟩) (fun k => True) mx (by kernel_rfl) ?_ ?_
  · simp (maxDischargeDepth := 12) -implicitDefEqProofs only [go_sem, Nat.reduceAdd, Nat.reduceSub, Nat.reduceMul, Nat.reduceLeDiff, Nat.reduceEqDiff, Nat.reduceGT, Nat.reduceBEq, reduceCtorEq, ↓reduceIte, Int.reduceToNat, Int.reduceLE, Int.reduceLT, Int.reduceNe, Int.reduceEq]
    simp [goW, keepW, pgs, Sub_refl, Wk_self]
  · intro k hk _
    simp (maxDischargeDepth := 12) -implicitDefEqProofs only [go_sem, Nat.reduceAdd, Nat.reduceSub, Nat.reduceMul, Nat.reduceLeDiff, Nat.reduceEqDiff, Nat.reduceGT, Nat.reduceBEq, reduceCtorEq, ↓reduceIte, Int.reduceToNat, Int.reduceLE, Int.reduceLT, Int.reduceNe, Int.reduceEq]
    have g1 := keepW_len o h (p.wait.take k)
    have g2 := goW_len o h (p.wait.take k)
    rw [List.length_take] at g1 g2
    refine ⟨fun hlt => ⟨hlt, fun a ha b2 => ⟨fun hh => ⟨fun ht => ?_, fun ht => ?_⟩, fun hh => ?_⟩⟩, fun hge => ?_⟩
    · obtain ⟨e1, e2⟩ := keep_yes ha hh ht
      rw [e1, e2, List.length_append, List.map_append]
      exact ⟨by omega, by unfold maxLen; omega, hlt, ⟨.refl _, .refl _, w64 (by omega) (by omega)⟩, .consB (.refl _)⟩
    · obtain ⟨e1, e2⟩ := keep_no ha (.inr ht)
      rw [e1, e2, List.length_append, pgs_app, List.map_append]
      exact ⟨by omega, by unfold maxLen; omega, hlt, ⟨.refl _, .refl _, w64 (by omega) (by omega)⟩, .consB (.refl _)⟩
    · obtain ⟨e1, e2⟩ := keep_no ha (.inl hh)
      rw [e1, e2, List.length_append, pgs_app, List.map_append]
      exact ⟨by omega, by unfold maxLen; omega, hlt, ⟨.refl _, .refl _, w64 (by omega) (by omega)⟩, .consB (.refl _)⟩
    · rw [List.take_of_length_le (by omega)]
      refine shrK [] [7, 8] mx (by kernel_rfl) ?_
      simp (maxDischargeDepth := 12) -implicitDefEqProofs only [go_sem, Nat.reduceAdd, Nat.reduceSub, Nat.reduceMul, Nat.reduceLeDiff, Nat.reduceEqDiff, Nat.reduceGT, Nat.reduceBEq, reduceCtorEq, ↓reduceIte, Int.reduceToNat, Int.reduceLE, Int.reduceLT, Int.reduceNe, Int.reduceEq]
      refine useQ (together w0 (p.free :: pgs (goW o h p.wait)) _ ?_ ?_) ?_
      · rw [List.length_cons, pgs_length]; have := goW_len o h p.wait; omega
      · rw [flat_pgs]; have := nW_filter (fun w => !(h && decide (o < w.txn))) p.wait; unfold goW; omega
      simp (maxDischargeDepth := 12) -implicitDefEqProofs only [go_sem, Nat.reduceAdd, Nat.reduceSub, Nat.reduceMul, Nat.reduceLeDiff, Nat.reduceEqDiff, Nat.reduceGT, Nat.reduceBEq, reduceCtorEq, ↓reduceIte, Int.reduceToNat, Int.reduceLE, Int.reduceLT, Int.reduceNe, Int.reduceEq]
      exact .refl _
set_option maxHeartbeats 4000000 in
theorem cloneW (w0 : World) (l : List Wt) (S : St) (h0 : l.length ≤ 1048576) : ACall Try.prog w0 80 [.sl 2 false (l.map dW)] S fun d S' => ∃ b : FN S.acc, d = .acc b.n (l.map dW).length ∧ S' = ⟨S.box, (b.n, .arr 2 (l.map dW)) :: S.acc⟩ := by
  refine nilK 2 (by omega) ?_
  refine fnO [] mx Try.func80 rfl rfl (by kernel_rfl) ?_; simp (maxDischargeDepth := 12) -implicitDefEqProofs only [Try.ntmps80, go_sem, Nat.reduceAdd, Nat.reduceSub, Nat.reduceMul, Nat.reduceLeDiff, Nat.reduceEqDiff, Nat.reduceGT, Nat.reduceBEq, reduceCtorEq, ↓reduceIte, Int.reduceToNat, Int.reduceLE, Int.reduceLT, Int.reduceNe, Int.reduceEq]
  intro b hb
  refine ⟨fun h1 => .inl ⟨Classical.byContradiction fun hn => ?_, 0, rfl⟩, fun h1 => ⟨by omega, by unfold maxLen; omega, fun c => .inr ⟨c, rfl, rfl⟩⟩⟩
  rw [hb hn] at h1; cases h1
/-- Pages that are given. -/
def give (p : Pl) (t : Int) (l : List Int) : Pl := if l = [] then p else match p.wait[p.wait.length - 1]? with
  | some w => if w.txn = t then ⟨p.high, p.free, p.wait.set (p.wait.length - 1) ⟨t, srt (w.pages ++ l)⟩⟩ else ⟨p.high, p.free, p.wait ++ [⟨t, srt l⟩]⟩
  | none => ⟨p.high, p.free, p.wait ++ [⟨t, srt l⟩]⟩
theorem give_same {p : Pl} {t : Int} {l : List Int} {w : Wt} (hl : ¬ l = []) (h : p.wait[p.wait.length - 1]? = some w) (ht : w.txn = t) : give p t l = ⟨p.high, p.free, p.wait.set (p.wait.length - 1) ⟨t, srt (w.pages ++ l)⟩⟩ := by
  unfold give; rw [if_neg hl, h]; simp only [if_pos ht]
theorem give_new {p : Pl} {t : Int} {l : List Int} (hl : ¬ l = []) (h : ∀ w, p.wait[p.wait.length - 1]? = some w → ¬ w.txn = t) : give p t l = ⟨p.high, p.free, p.wait ++ [⟨t, srt l⟩]⟩ := by
  unfold give; rw [if_neg hl]
  cases hw : p.wait[p.wait.length - 1]? with
  | none => rfl
  | some w => simp only [if_neg (h w hw)]
theorem flat_one (l : List Int) : flat [l] = l := by simp [flat]
theorem flat_two (l m : List Int) : flat [l, m] = l ++ m := by simp [flat]
set_option maxHeartbeats 4000000 in
theorem giveW (w0 : World) (p : Pl) (t : Int) (l : List Int) (S : St) (h0 : p.wait.length ≤ 1048576) (h1 : nW p.wait + l.length ≤ 1048576) : ACall Try.prog w0 54 [dP p, dU t, dL l] S (fun d S' => d = dP (give p t l) ∧ S' = S) := by
  refine fnS [] mx Try.func54 rfl rfl (by kernel_rfl) ?_; simp (maxDischargeDepth := 12) -implicitDefEqProofs only [Try.ntmps54, go_sem, Nat.reduceAdd, Nat.reduceSub, Nat.reduceMul, Nat.reduceLeDiff, Nat.reduceEqDiff, Nat.reduceGT, Nat.reduceBEq, reduceCtorEq, ↓reduceIte, Int.reduceToNat, Int.reduceLE, Int.reduceLT, Int.reduceNe, Int.reduceEq]
  intro b b1
  refine ⟨fun he => ?_, fun hne => ?_⟩
  · rw [show give p t l = p from if_pos (List.eq_nil_of_length_eq_zero (by omega))]; exact .refl _
  have hl : ¬ l = [] := fun e => hne (by rw [e]; rfl)
  refine useK (cloneW w0 p.wait _ h0) ?_
  rintro d S' ⟨c, rfl, rfl⟩
  simp (maxDischargeDepth := 12) -implicitDefEqProofs only [go_sem, Nat.reduceAdd, Nat.reduceSub, Nat.reduceMul, Nat.reduceLeDiff, Nat.reduceEqDiff, Nat.reduceGT, Nat.reduceBEq, reduceCtorEq, ↓reduceIte, Int.reduceToNat, Int.reduceLE, Int.reduceLT, Int.reduceNe, Int.reduceEq]
  have hw : IntKind.i64.wrap (↑p.wait.length - 1) = ↑p.wait.length - 1 := w64 (by omega) (by omega)
  have e : ((p.wait.length : Int) - 1).toNat = p.wait.length - 1 := by omega
  rw [hw, e]
  refine ⟨fun hp => ⟨hp, by omega, by omega, fun a ha => ⟨fun ht => ⟨hp, by omega, by omega, fun a3 ha3 => ?_⟩, fun ht => ?_⟩⟩, fun hn => ?_⟩
  · cases getE ha ha3
    have := nW_at ha
    refine useQ (together w0 [a.pages, l] _ (by simp) (by rw [flat_two, List.length_append]; omega)) ?_ ⟨.full _ _ _, trivial⟩
    simp (maxDischargeDepth := 12) -implicitDefEqProofs only [go_sem, Nat.reduceAdd, Nat.reduceSub, Nat.reduceMul, Nat.reduceLeDiff, Nat.reduceEqDiff, Nat.reduceGT, Nat.reduceBEq, reduceCtorEq, ↓reduceIte, Int.reduceToNat, Int.reduceLE, Int.reduceLT, Int.reduceNe, Int.reduceEq, hw, e]
    refine ⟨hp, by omega, by omega, fun a4 ha4 => ?_⟩
    cases getE ha ha4
    rw [give_same hl ha ht, flat_two, ← ht]
    have e3 : (List.map dW p.wait).set (p.wait.length - 1) (.agg [.v (.int .u64 a.txn), .sl 1 false (List.map dI (srt (a.pages ++ l)))]) = List.map dW (p.wait.set (p.wait.length - 1) ⟨a.txn, srt (a.pages ++ l)⟩) := (List.map_set (f := dW) (a := ⟨a.txn, srt (a.pages ++ l)⟩)).symm
    rw [e3]
    exact .refl _
  · refine useQ (together w0 [l] _ (by simp) (by rw [flat_one]; omega)) ?_ ⟨.full _ _ _, trivial⟩
    simp (maxDischargeDepth := 12) -implicitDefEqProofs only [go_sem, Nat.reduceAdd, Nat.reduceSub, Nat.reduceMul, Nat.reduceLeDiff, Nat.reduceEqDiff, Nat.reduceGT, Nat.reduceBEq, reduceCtorEq, ↓reduceIte, Int.reduceToNat, Int.reduceLE, Int.reduceLT, Int.reduceNe, Int.reduceEq]
    rw [give_new hl (fun w hw' => by cases getE ha hw'; exact ht), flat_one, List.map_append]
    exact ⟨by omega, by unfold maxLen; omega, .refl _⟩
  · refine useQ (together w0 [l] _ (by simp) (by rw [flat_one]; omega)) ?_ ⟨.full _ _ _, trivial⟩
    simp (maxDischargeDepth := 12) -implicitDefEqProofs only [go_sem, Nat.reduceAdd, Nat.reduceSub, Nat.reduceMul, Nat.reduceLeDiff, Nat.reduceEqDiff, Nat.reduceGT, Nat.reduceBEq, reduceCtorEq, ↓reduceIte, Int.reduceToNat, Int.reduceLE, Int.reduceLT, Int.reduceNe, Int.reduceEq]
    rw [give_new hl (fun w hw' => by have := (List.getElem?_eq_some_iff.1 hw').1; omega), flat_one, List.map_append]
    exact ⟨by omega, by unfold maxLen; omega, .refl _⟩

/-- Pages that are taken. -/
def rise (h : Int) (n : Nat) : List Int := (List.range n).map fun (i : Nat) => h + (i : Int)
theorem rise_succ (h : Int) (n : Nat) : rise h (n + 1) = rise h n ++ [h + n] := by unfold rise; rw [List.range_succ, List.map_append]; rfl
theorem rise_len (h : Int) (n : Nat) : (rise h n).length = n := by simp [rise]
/-- How many are old, how many new; what is taken, and the pool behind. -/
def oldN (p : Pl) (m : Int) : Nat := min m.toNat p.free.length
def took (p : Pl) (m : Int) : List Int := (srt p.free).take (oldN p m) ++ rise p.high (m.toNat - oldN p m)
def take (p : Pl) (m : Int) : Pl := ⟨p.high + (m.toNat - oldN p m : Nat), (srt p.free).drop (oldN p m), p.wait⟩
def may (p : Pl) (q m : Int) : Prop := 0 ≤ m ∧ m ≤ roomZ p q
set_option maxHeartbeats 4000000 in
theorem takeW (w0 : World) (p : Pl) (q m : Int) (S : St) (h0 : p.free.length ≤ 1048576) (h1 : -1099511627776 ≤ p.high) (h2 : p.high ≤ 1048576) (h3 : -1099511627776 ≤ q) (h4 : q ≤ 1048576) :
    ACall Try.prog w0 53 [dP p, dI q, dI m] S (fun d S' => (may p q m → d = .tup [dP (take p m), dL (took p m), dB true] ∧ S' = S) ∧ (¬ may p q m → d = .tup [dP p, .sl 1 false [], dB false] ∧ S' = S)) := by
  by_cases hm : may p q m
  · refine ACall.mono (K := fun d S' => d = .tup [dP (take p m), dL (took p m), dB true] ∧ S' = S) ?_ fun d S' h => ⟨fun _ => h, fun k => absurd hm k⟩
    refine fnS [] mx Try.func53 rfl rfl (by kernel_rfl) ?_; simp (maxDischargeDepth := 12) -implicitDefEqProofs only [Try.ntmps53, go_sem, Nat.reduceAdd, Nat.reduceSub, Nat.reduceMul, Nat.reduceLeDiff, Nat.reduceEqDiff, Nat.reduceGT, Nat.reduceBEq, reduceCtorEq, ↓reduceIte, Int.reduceToNat, Int.reduceLE, Int.reduceLT, Int.reduceNe, Int.reduceEq]
    intro b b1
    have hr : roomZ p q ≤ 2199023255552 := by unfold roomZ; split <;> omega
    refine ⟨fun h => absurd hm.1 (by omega), fun h => ?_⟩
    refine use1 (room w0 p q _ h0 (by omega) (by omega) (by omega) (by omega)) ?_
    simp (maxDischargeDepth := 12) -implicitDefEqProofs only [go_sem, Nat.reduceAdd, Nat.reduceSub, Nat.reduceMul, Nat.reduceLeDiff, Nat.reduceEqDiff, Nat.reduceGT, Nat.reduceBEq, reduceCtorEq, ↓reduceIte, Int.reduceToNat, Int.reduceLE, Int.reduceLT, Int.reduceNe, Int.reduceEq]
    refine ⟨fun h' => absurd hm.2 (by omega), fun h' => ?_⟩
    refine use1 (together w0 [p.free] _ (by simp) (by rw [flat_one]; omega)) ?_ ⟨.full _ _ _, trivial⟩
    simp (maxDischargeDepth := 12) -implicitDefEqProofs only [go_sem, Nat.reduceAdd, Nat.reduceSub, Nat.reduceMul, Nat.reduceLeDiff, Nat.reduceEqDiff, Nat.reduceGT, Nat.reduceBEq, reduceCtorEq, ↓reduceIte, Int.reduceToNat, Int.reduceLE, Int.reduceLT, Int.reduceNe, Int.reduceEq, flat_one]
    have ho : oldN p m ≤ p.free.length := Nat.min_le_right _ _
    have ho2 : oldN p m ≤ m.toNat := Nat.min_le_left _ _
    have hmin : (if ((srt p.free).length : Int) < m then ((srt p.free).length : Int) else m) = (oldN p m : Int) := by
      rw [srt_length]; unfold oldN
      split <;> omega
    rw [hmin]
    simp only [Int.toNat_natCast, srt_length]
    have hx : ((srt p.free).take (oldN p m)).length = oldN p m := by rw [List.length_take, srt_length]; omega
    refine ⟨by omega, by omega, by omega, by omega, ?_⟩
    refine tailK 11 rfl (by omega) fun l => ?_
    simp (maxDischargeDepth := 12) -implicitDefEqProofs only [go_sem, Nat.reduceAdd, Nat.reduceSub, Nat.reduceMul, Nat.reduceLeDiff, Nat.reduceEqDiff, Nat.reduceGT, Nat.reduceBEq, reduceCtorEq, ↓reduceIte, Int.reduceToNat, Int.reduceLE, Int.reduceLT, Int.reduceNe, Int.reduceEq, hx]
    refine loopN [] (m.toNat - oldN p m) [2, 3, 6, 11] (fun k => [(11, .acc l.n (oldN p m + k))]) (fun k => ⟨(b1.n, [dI 0, .sl 0 true [], .sl 0 true []]) :: (b.n, [dI (p.high + k), dL ((srt p.free).drop (oldN p m)), .sl 2 false (p.wait.map dW)]) :: S.box, (l.n, .tl 1 (((srt p.free).take (oldN p m) ++ rise p.high k).map dI)) :: S.acc⟩) (fun _ => True) mx (by kernel_rfl) ?_ ?_
    · simp (maxDischargeDepth := 12) -implicitDefEqProofs only [go_sem, Nat.reduceAdd, Nat.reduceSub, Nat.reduceMul, Nat.reduceLeDiff, Nat.reduceEqDiff, Nat.reduceGT, Nat.reduceBEq, reduceCtorEq, ↓reduceIte, Int.reduceToNat, Int.reduceLE, Int.reduceLT, Int.reduceNe, Int.reduceEq]
      simp [rise, Wk_self, Sub_refl]
    · intro k hk _
      have hm0 := hm.1
      have hm1 := hm.2
      have hlen : ((srt p.free).take (oldN p m) ++ rise p.high k).length = oldN p m + k := by rw [List.length_append, hx, rise_len]
      simp (maxDischargeDepth := 12) -implicitDefEqProofs only [go_sem, Nat.reduceAdd, Nat.reduceSub, Nat.reduceMul, Nat.reduceLeDiff, Nat.reduceEqDiff, Nat.reduceGT, Nat.reduceBEq, reduceCtorEq, ↓reduceIte, Int.reduceToNat, Int.reduceLE, Int.reduceLT, Int.reduceNe, Int.reduceEq, rise_len, hx]
      refine ⟨fun hlt => ⟨by omega, by unfold maxLen; omega, by omega, ?_, ?_⟩, fun hge => ?_⟩
      · exact .refl _
      · rw [w64 (by omega) (by omega), rise_succ, ← List.append_assoc, List.map_append]
        have e : p.high + (k : Int) + 1 = p.high + ((k + 1 : Nat) : Int) := by omega
        rw [e]
        exact .refl _
      · have e : k = m.toNat - oldN p m := by omega
        subst e
        exact .refl _
  · refine ACall.mono (K := fun d S' => d = .tup [dP p, .sl 1 false [], dB false] ∧ S' = S) ?_ fun d S' h => ⟨fun k => absurd k hm, fun _ => h⟩
    refine fnS [] mx Try.func53 rfl rfl (by kernel_rfl) ?_; simp (maxDischargeDepth := 12) -implicitDefEqProofs only [Try.ntmps53, go_sem, Nat.reduceAdd, Nat.reduceSub, Nat.reduceMul, Nat.reduceLeDiff, Nat.reduceEqDiff, Nat.reduceGT, Nat.reduceBEq, reduceCtorEq, ↓reduceIte, Int.reduceToNat, Int.reduceLE, Int.reduceLT, Int.reduceNe, Int.reduceEq]
    intro b b1
    intro h
    refine use1 (room w0 p q _ h0 (by omega) (by omega) (by omega) (by omega)) ?_
    simp (maxDischargeDepth := 12) -implicitDefEqProofs only [go_sem, Nat.reduceAdd, Nat.reduceSub, Nat.reduceMul, Nat.reduceLeDiff, Nat.reduceEqDiff, Nat.reduceGT, Nat.reduceBEq, reduceCtorEq, ↓reduceIte, Int.reduceToNat, Int.reduceLE, Int.reduceLT, Int.reduceNe, Int.reduceEq]
    unfold may at hm
    exact fun h' => absurd ⟨by omega, by omega⟩ hm
end Go.Proofs.Ytkibkahknibgfaa
