/-
  What the functions of pools compute. By an AI agent.
-/
import Derived.Test.YtkibkahknibgfaaP0
namespace Go.Proofs.Ytkibkahknibgfaa
open Aml Go
set_option linter.unusedVariables false
set_option linter.unusedSimpArgs false
set_option maxRecDepth 100000

/-- Pages that wait; a pool. -/
structure Wt where
  txn : Int
  pages : List Int
  deriving DecidableEq
structure Pl where
  high : Int
  free : List Int
  wait : List Wt
  deriving DecidableEq
@[go_sem] def dW (w : Wt) : DV := .agg [dU w.txn, .sl 1 false (w.pages.map dI)]
@[go_sem] def dP (p : Pl) : DV := .agg [dI p.high, .sl 1 false (p.free.map dI), .sl 2 false (p.wait.map dW)]
def nW (l : List Wt) : Nat := (l.map fun w => w.pages.length).sum

theorem nW_succ {l : List Wt} {k : Nat} {a : Wt} (h : l[k]? = some a) : nW (l.take (k + 1)) = nW (l.take k) + a.pages.length := by
  unfold nW
  rw [List.take_add_one, h]
  simp
theorem nW_le (l : List Wt) (k : Nat) : nW (l.take k) ≤ nW l := by
  have : nW l = nW (l.take k) + nW (l.drop k) := by
    unfold nW
    rw [← List.sum_append, ← List.map_append, List.take_append_drop]
  omega

set_option maxHeartbeats 400000 in
theorem waiting (w0 : World) (p : Pl) (S : St) (hl : p.wait.length ≤ 4611686018427387904) (hn : nW p.wait ≤ 4611686018427387904) : ACall Try.prog w0 49 [dP p] S (fun d S' => d = dI (nW p.wait) ∧ S' = S) := by
  refine fnS [] mx Try.func49 rfl rfl (by kernel_rfl) ?_; simp (maxDischargeDepth := 12) -implicitDefEqProofs only [Try.ntmps49, go_sem, Nat.reduceAdd, Nat.reduceSub, Nat.reduceMul, Nat.reduceLeDiff, Nat.reduceEqDiff, Nat.reduceGT, Nat.reduceBEq, reduceCtorEq, ↓reduceIte, Int.reduceToNat, Int.reduceLE, Int.reduceLT, Int.reduceNe, Int.reduceEq]
  intro b
  refine loopN [] p.wait.length [3, 7, 8, 9] (fun k => [(3, dI (nW (p.wait.take k))), (9, dI k)]) (fun _ => S) (fun k => True) mx (by kernel_rfl) ?_ ?_
  · simp (maxDischargeDepth := 12) -implicitDefEqProofs only [go_sem, Nat.reduceAdd, Nat.reduceSub, Nat.reduceMul, Nat.reduceLeDiff, Nat.reduceEqDiff, Nat.reduceGT, Nat.reduceBEq, reduceCtorEq, ↓reduceIte, Int.reduceToNat, Int.reduceLE, Int.reduceLT, Int.reduceNe, Int.reduceEq]
    simp [nW]
  · intro k hk hinv
    simp (maxDischargeDepth := 12) -implicitDefEqProofs only [go_sem, Nat.reduceAdd, Nat.reduceSub, Nat.reduceMul, Nat.reduceLeDiff, Nat.reduceEqDiff, Nat.reduceGT, Nat.reduceBEq, reduceCtorEq, ↓reduceIte, Int.reduceToNat, Int.reduceLE, Int.reduceLT, Int.reduceNe, Int.reduceEq]
    refine ⟨fun hlt => ⟨hlt, fun a ha b' => ?_⟩, fun hge => ?_⟩
    · have h1 := nW_succ ha
      have h2 := nW_le p.wait (k + 1)
      rw [w64 (by omega) (by omega), w64 (by omega) (by omega)]
      omega
    · rw [List.take_of_length_le (by omega)]
end Go.Proofs.Ytkibkahknibgfaa
