/-
  Rows of pages; rooms; what is the same. By an AI agent.
-/
import Derived.Test.YtkibkahknibgfaaP1
namespace Go.Proofs.Ytkibkahknibgfaa
open Aml Go
set_option linter.unusedVariables false
set_option linter.unusedSimpArgs false
set_option maxRecDepth 100000

theorem getE {α : Type} {l : List α} {k : Nat} {a b : α} (h : l[k]? = some a) (h' : l[k]? = some b) : a = b := by rw [h] at h'; exact Option.some.inj h'

/-- The first k of a row are pages below a bound, rising. -/
def RowUp (l : List Int) (high : Int) (k : Nat) : Prop := ∀ (i : Nat) (a : Int), i < k → l[i]? = some a → 2 ≤ a ∧ a < high ∧ ∀ b, 0 < i → l[i - 1]? = some b → b < a
def Row (l : List Int) (high : Int) : Prop := RowUp l high l.length
theorem rowUp_succ {l : List Int} {high : Int} {k : Nat} {a : Int} (h : RowUp l high k) (ha : l[k]? = some a) (h1 : 2 ≤ a) (h2 : a < high) (h3 : ∀ b, 0 < k → l[k - 1]? = some b → b < a) : RowUp l high (k + 1) := by
  intro i c hi hc
  by_cases e : i = k
  · subst e; cases getE ha hc; exact ⟨h1, h2, h3⟩
  · exact h i c (by omega) hc
theorem row_at {l : List Int} {high : Int} {k : Nat} {a : Int} (h : Row l high) (ha : l[k]? = some a) : 2 ≤ a ∧ a < high ∧ ∀ b, 0 < k → l[k - 1]? = some b → b < a :=
  h k a (List.getElem?_eq_some_iff.1 ha).1 ha

set_option maxHeartbeats 1000000 in
theorem row (w0 : World) (l : List Int) (high : Int) (S : St) (h0 : l.length ≤ 4611686018427387904) : ACall Try.prog w0 76 [dL l, dI high] S (fun d S' => d = dB (pB (Row l high)) ∧ S' = S) := by
  refine fnS [] mx Try.func76 rfl rfl (by kernel_rfl) ?_; simp (maxDischargeDepth := 12) -implicitDefEqProofs only [Try.ntmps76, go_sem, Nat.reduceAdd, Nat.reduceSub, Nat.reduceMul, Nat.reduceLeDiff, Nat.reduceEqDiff, Nat.reduceGT, Nat.reduceBEq, reduceCtorEq, ↓reduceIte, Int.reduceToNat, Int.reduceLE, Int.reduceLT, Int.reduceNe, Int.reduceEq]
  refine loopN [] l.length [0, 1, 7, 8, 9] (fun k => [(9, dI k)]) (fun _ => S) (fun k => RowUp l high k) mx (by kernel_rfl) ?_ ?_
  · simp (maxDischargeDepth := 12) -implicitDefEqProofs only [go_sem, Nat.reduceAdd, Nat.reduceSub, Nat.reduceMul, Nat.reduceLeDiff, Nat.reduceEqDiff, Nat.reduceGT, Nat.reduceBEq, reduceCtorEq, ↓reduceIte, Int.reduceToNat, Int.reduceLE, Int.reduceLT, Int.reduceNe, Int.reduceEq]
    intro i a hi; omega
  · intro k hk hup
    simp (maxDischargeDepth := 12) -implicitDefEqProofs only [go_sem, Nat.reduceAdd, Nat.reduceSub, Nat.reduceMul, Nat.reduceLeDiff, Nat.reduceEqDiff, Nat.reduceGT, Nat.reduceBEq, reduceCtorEq, ↓reduceIte, Int.reduceToNat, Int.reduceLE, Int.reduceLT, Int.reduceNe, Int.reduceEq]
    simp +contextual (disch := first | omega | assumption) only [w64, wu64, wu8, Option.some.injEq, forall_eq, forall_eq', forall_eq_apply_imp_iff, true_and, and_true, forall_const, true_implies, implies_true, not_true_eq_false, not_false_eq_true, false_implies, and_self, Int.toNat_natCast]
    refine ⟨fun hlt a ha => ⟨fun h hr => ?_, fun h => ⟨fun h' hr => ?_, fun h' => ⟨fun hp => ⟨by omega, by omega, fun b hb => ?_⟩, fun hp => ?_⟩⟩⟩, fun hge => ?_⟩
    · have := row_at hr ha; omega
    · have := row_at hr ha; omega
    · have e : ((k : Int) - 1).toNat = k - 1 := by omega
      rw [e] at hb
      refine ⟨fun hle hr => ?_, fun hle => ⟨rowUp_succ hup ha (by omega) (by omega) fun c hc hcb => ?_, by omega⟩⟩
      · have := (row_at hr ha).2.2 b (by omega) hb; omega
      · cases getE hb hcb; omega
    · exact ⟨rowUp_succ hup ha (by omega) (by omega) fun c hc hcb => by omega, by omega⟩
    · have e : k = l.length := by omega
      subst e; exact hup

set_option maxHeartbeats 1000000 in
theorem rowR (w0 : World) (l : List Int) (high : Int) (S : St) (h0 : l.length ≤ 4611686018427387904) : ACall Try.prog w0 78 [dL l, dI high] S (fun d S' => d = dB (pB (Row l high)) ∧ S' = S) := by
  refine fnS [] mx Try.func78 rfl rfl (by kernel_rfl) ?_; simp (maxDischargeDepth := 12) -implicitDefEqProofs only [Try.ntmps78, go_sem, Nat.reduceAdd, Nat.reduceSub, Nat.reduceMul, Nat.reduceLeDiff, Nat.reduceEqDiff, Nat.reduceGT, Nat.reduceBEq, reduceCtorEq, ↓reduceIte, Int.reduceToNat, Int.reduceLE, Int.reduceLT, Int.reduceNe, Int.reduceEq]
  refine loopN [] l.length [0, 1, 5] (fun k => [(5, dI k)]) (fun _ => S) (fun k => RowUp l high k) mx (by kernel_rfl) ?_ ?_
  · simp (maxDischargeDepth := 12) -implicitDefEqProofs only [go_sem, Nat.reduceAdd, Nat.reduceSub, Nat.reduceMul, Nat.reduceLeDiff, Nat.reduceEqDiff, Nat.reduceGT, Nat.reduceBEq, reduceCtorEq, ↓reduceIte, Int.reduceToNat, Int.reduceLE, Int.reduceLT, Int.reduceNe, Int.reduceEq]
    intro i a hi; omega
  · intro k hk hup
    simp (maxDischargeDepth := 12) -implicitDefEqProofs only [go_sem, Nat.reduceAdd, Nat.reduceSub, Nat.reduceMul, Nat.reduceLeDiff, Nat.reduceEqDiff, Nat.reduceGT, Nat.reduceBEq, reduceCtorEq, ↓reduceIte, Int.reduceToNat, Int.reduceLE, Int.reduceLT, Int.reduceNe, Int.reduceEq]
    simp +contextual (disch := first | omega | assumption) only [w64, wu64, wu8, Option.some.injEq, forall_eq, forall_eq', forall_eq_apply_imp_iff, true_and, and_true, forall_const, true_implies, implies_true, not_true_eq_false, not_false_eq_true, false_implies, and_self, Int.toNat_natCast]
    refine ⟨fun hlt a ha => ⟨fun h hr => ?_, fun h => ⟨fun h' hr => ?_, fun h' => ⟨fun hp => ⟨by omega, by omega, fun b hb => ?_⟩, fun hp => ?_⟩⟩⟩, fun hge => ?_⟩
    · have := row_at hr ha; omega
    · have := row_at hr ha; omega
    · have e : ((k : Int) - 1).toNat = k - 1 := by omega
      rw [e] at hb
      refine ⟨fun hle hr => ?_, fun hle => ⟨rowUp_succ hup ha (by omega) (by omega) fun c hc hcb => ?_, by omega⟩⟩
      · have := (row_at hr ha).2.2 b (by omega) hb; omega
      · cases getE hb hcb; omega
    · exact ⟨rowUp_succ hup ha (by omega) (by omega) fun c hc hcb => by omega, by omega⟩
    · have e : k = l.length := by omega
      subst e; exact hup

theorem eq_of_take {α : Type} {a b : List α} {k : Nat} (h : a.take k = b.take k) (hl : ¬ ¬ a.length = b.length) (hk : ¬ k < a.length) : a = b := by
  rw [List.take_of_length_le (by omega), List.take_of_length_le (by omega)] at h; exact h
theorem take_eq_succ {α : Type} {a b : List α} {k : Nat} {x y : α} (h : a.take k = b.take k) (hx : a[k]? = some x) (hy : b[k]? = some y) (e : x = y) : a.take (k + 1) = b.take (k + 1) := by
  rw [List.take_add_one, List.take_add_one, h, hx, hy, e]
set_option maxHeartbeats 1000000 in
theorem intsR (w0 : World) (a b : List Int) (S : St) (h0 : a.length ≤ 4611686018427387904) : ACall Try.prog w0 81 [dL a, dL b] S (fun d S' => d = dB (decide (a = b)) ∧ S' = S) := by
  refine fnS [] mx Try.func81 rfl rfl (by kernel_rfl) ?_; simp (maxDischargeDepth := 12) -implicitDefEqProofs only [Try.ntmps81, go_sem, Nat.reduceAdd, Nat.reduceSub, Nat.reduceMul, Nat.reduceLeDiff, Nat.reduceEqDiff, Nat.reduceGT, Nat.reduceBEq, reduceCtorEq, ↓reduceIte, Int.reduceToNat, Int.reduceLE, Int.reduceLT, Int.reduceNe, Int.reduceEq]
  refine ⟨fun hne e => hne (by rw [e]), fun he => ?_⟩
  refine loopN [] a.length [0, 1, 5] (fun k => [(5, dI k)]) (fun _ => S) (fun k => a.take k = b.take k) mx (by kernel_rfl) ?_ ?_
  · simp (maxDischargeDepth := 12) -implicitDefEqProofs only [go_sem, Nat.reduceAdd, Nat.reduceSub, Nat.reduceMul, Nat.reduceLeDiff, Nat.reduceEqDiff, Nat.reduceGT, Nat.reduceBEq, reduceCtorEq, ↓reduceIte, Int.reduceToNat, Int.reduceLE, Int.reduceLT, Int.reduceNe, Int.reduceEq]
  · intro k hk hup
    simp (maxDischargeDepth := 12) -implicitDefEqProofs only [go_sem, Nat.reduceAdd, Nat.reduceSub, Nat.reduceMul, Nat.reduceLeDiff, Nat.reduceEqDiff, Nat.reduceGT, Nat.reduceBEq, reduceCtorEq, ↓reduceIte, Int.reduceToNat, Int.reduceLE, Int.reduceLT, Int.reduceNe, Int.reduceEq]
    simp +contextual (disch := first | omega | assumption) only [w64, wu64, wu8, Option.some.injEq, forall_eq, forall_eq', forall_eq_apply_imp_iff, true_and, and_true, forall_const, true_implies, implies_true, not_true_eq_false, not_false_eq_true, false_implies, and_self, Int.toNat_natCast]
    exact ⟨fun hlt x hx => ⟨by omega, fun y hy => ⟨fun hxy e => hxy (getE (e ▸ hx) hy), fun hxy => ⟨take_eq_succ hup hx hy (by omega), by omega⟩⟩⟩, fun hge => eq_of_take hup he hge⟩
set_option maxHeartbeats 1000000 in
theorem ints3 (w0 : World) (a b : List Int) (S : St) (h0 : a.length ≤ 4611686018427387904) : ACall Try.prog w0 32 [dL a, dL b] S (fun d S' => d = dB (decide (a = b)) ∧ S' = S) := by
  refine fnS [] mx Try.func32 rfl rfl (by kernel_rfl) ?_; simp (maxDischargeDepth := 12) -implicitDefEqProofs only [Try.ntmps32, go_sem, Nat.reduceAdd, Nat.reduceSub, Nat.reduceMul, Nat.reduceLeDiff, Nat.reduceEqDiff, Nat.reduceGT, Nat.reduceBEq, reduceCtorEq, ↓reduceIte, Int.reduceToNat, Int.reduceLE, Int.reduceLT, Int.reduceNe, Int.reduceEq]
  refine ⟨fun hne e => hne (by rw [e]), fun he => ?_⟩
  refine loopN [] a.length [0, 1, 5] (fun k => [(5, dI k)]) (fun _ => S) (fun k => a.take k = b.take k) mx (by kernel_rfl) ?_ ?_
  · simp (maxDischargeDepth := 12) -implicitDefEqProofs only [go_sem, Nat.reduceAdd, Nat.reduceSub, Nat.reduceMul, Nat.reduceLeDiff, Nat.reduceEqDiff, Nat.reduceGT, Nat.reduceBEq, reduceCtorEq, ↓reduceIte, Int.reduceToNat, Int.reduceLE, Int.reduceLT, Int.reduceNe, Int.reduceEq]
  · intro k hk hup
    simp (maxDischargeDepth := 12) -implicitDefEqProofs only [go_sem, Nat.reduceAdd, Nat.reduceSub, Nat.reduceMul, Nat.reduceLeDiff, Nat.reduceEqDiff, Nat.reduceGT, Nat.reduceBEq, reduceCtorEq, ↓reduceIte, Int.reduceToNat, Int.reduceLE, Int.reduceLT, Int.reduceNe, Int.reduceEq]
    simp +contextual (disch := first | omega | assumption) only [w64, wu64, wu8, Option.some.injEq, forall_eq, forall_eq', forall_eq_apply_imp_iff, true_and, and_true, forall_const, true_implies, implies_true, not_true_eq_false, not_false_eq_true, false_implies, and_self, Int.toNat_natCast]
    exact ⟨fun hlt x hx => ⟨by omega, fun y hy => ⟨fun hxy e => hxy (getE (e ▸ hx) hy), fun hxy => ⟨take_eq_succ hup hx hy (by omega), by omega⟩⟩⟩, fun hge => eq_of_take hup he hge⟩

/-- How many pages can be taken. -/
def roomZ (p : Pl) (q : Int) : Int := p.free.length + if p.high < q then q - p.high else 0
set_option maxHeartbeats 1000000 in
theorem room (w0 : World) (p : Pl) (q : Int) (S : St) (h0 : p.free.length ≤ 1048576) (h1 : -1099511627776 ≤ p.high) (h2 : p.high ≤ 1099511627776) (h3 : -1099511627776 ≤ q) (h4 : q ≤ 1099511627776) : ACall Try.prog w0 47 [dP p, dI q] S (fun d S' => d = dI (roomZ p q) ∧ S' = S) := by
  refine fnS [] mx Try.func47 rfl rfl (by kernel_rfl) ?_; simp (maxDischargeDepth := 12) -implicitDefEqProofs only [Try.ntmps47, go_sem, Nat.reduceAdd, Nat.reduceSub, Nat.reduceMul, Nat.reduceLeDiff, Nat.reduceEqDiff, Nat.reduceGT, Nat.reduceBEq, reduceCtorEq, ↓reduceIte, Int.reduceToNat, Int.reduceLE, Int.reduceLT, Int.reduceNe, Int.reduceEq]
  intro b
  unfold roomZ
  rw [w64 (n := q - p.high) (by omega) (by omega), w64 (by omega) (by omega)]
  constructor
  · intro h; rw [if_pos (by omega)]
  · intro h; rw [if_neg (by omega)]; omega
set_option maxHeartbeats 1000000 in
theorem roomR (w0 : World) (p : Pl) (q : Int) (S : St) (h0 : p.free.length ≤ 1048576) (h1 : -1099511627776 ≤ p.high) (h2 : p.high ≤ 1099511627776) (h3 : -1099511627776 ≤ q) (h4 : q ≤ 1099511627776) : ACall Try.prog w0 48 [dP p, dI q] S (fun d S' => d = dI (roomZ p q) ∧ S' = S) := by
  refine fnS [] mx Try.func48 rfl rfl (by kernel_rfl) ?_; simp (maxDischargeDepth := 12) -implicitDefEqProofs only [Try.ntmps48, go_sem, Nat.reduceAdd, Nat.reduceSub, Nat.reduceMul, Nat.reduceLeDiff, Nat.reduceEqDiff, Nat.reduceGT, Nat.reduceBEq, reduceCtorEq, ↓reduceIte, Int.reduceToNat, Int.reduceLE, Int.reduceLT, Int.reduceNe, Int.reduceEq]
  intro b
  unfold roomZ
  rw [w64 (n := q - p.high) (by omega) (by omega), w64 (by omega) (by omega)]
  constructor
  · intro h; rw [if_pos (by omega)]
  · intro h; rw [if_neg (by omega)]; omega
set_option maxHeartbeats 400000 in
theorem waitingR (w0 : World) (p : Pl) (S : St) (hl : p.wait.length ≤ 4611686018427387904) (hn : nW p.wait ≤ 4611686018427387904) : ACall Try.prog w0 50 [dP p] S (fun d S' => d = dI (nW p.wait) ∧ S' = S) := by
  refine fnS [] mx Try.func50 rfl rfl (by kernel_rfl) ?_; simp (maxDischargeDepth := 12) -implicitDefEqProofs only [Try.ntmps50, go_sem, Nat.reduceAdd, Nat.reduceSub, Nat.reduceMul, Nat.reduceLeDiff, Nat.reduceEqDiff, Nat.reduceGT, Nat.reduceBEq, reduceCtorEq, ↓reduceIte, Int.reduceToNat, Int.reduceLE, Int.reduceLT, Int.reduceNe, Int.reduceEq]
  intro b
  refine loopN [] p.wait.length [1, 3, 4] (fun k => [(3, dI (nW (p.wait.take k))), (4, dI k)]) (fun _ => ⟨(b.n, [dI p.high, dL p.free, .sl 2 false (p.wait.map dW)]) :: S.box, S.acc⟩) (fun k => True) mx (by kernel_rfl) ?_ ?_
  · simp (maxDischargeDepth := 12) -implicitDefEqProofs only [go_sem, Nat.reduceAdd, Nat.reduceSub, Nat.reduceMul, Nat.reduceLeDiff, Nat.reduceEqDiff, Nat.reduceGT, Nat.reduceBEq, reduceCtorEq, ↓reduceIte, Int.reduceToNat, Int.reduceLE, Int.reduceLT, Int.reduceNe, Int.reduceEq]
    simp [nW]
  · intro k hk hinv
    simp (maxDischargeDepth := 12) -implicitDefEqProofs only [go_sem, Nat.reduceAdd, Nat.reduceSub, Nat.reduceMul, Nat.reduceLeDiff, Nat.reduceEqDiff, Nat.reduceGT, Nat.reduceBEq, reduceCtorEq, ↓reduceIte, Int.reduceToNat, Int.reduceLE, Int.reduceLT, Int.reduceNe, Int.reduceEq]
    refine ⟨fun hlt => ⟨hlt, fun a ha => ?_⟩, fun hge => ?_⟩
    · have h1 := nW_succ ha
      have h2 := nW_le p.wait (k + 1)
      rw [w64 (by omega) (by omega), w64 (by omega) (by omega)]
      omega
    · rw [List.take_of_length_le (by omega)]
end Go.Proofs.Ytkibkahknibgfaa
