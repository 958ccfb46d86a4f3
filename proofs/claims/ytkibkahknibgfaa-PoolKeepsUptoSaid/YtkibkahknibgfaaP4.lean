/-
  Numbers in order, as the document has them; the plain laws of order. By an AI agent.
-/
import Derived.Test.YtkibkahknibgfaaP3
namespace Go.Proofs.Ytkibkahknibgfaa
open Aml Go
set_option linter.unusedVariables false
set_option linter.unusedSimpArgs false
set_option maxRecDepth 100000

theorem srt_perm (l : List Int) : (srt l).Perm l := List.mergeSort_perm l _
theorem srt_up (l : List Int) : (srt l).Pairwise (· ≤ ·) := by
  have := List.pairwise_mergeSort (le := fun x y : Int => decide (x ≤ y)) (fun a b c h k => by simp at *; omega) (fun a b => by simp; omega) l
  exact this.imp fun h => by simpa using h
theorem srt_eq {a b : List Int} (h1 : a.Pairwise (· ≤ ·)) (h2 : a.Perm b) : a = srt b :=
  List.Perm.eq_of_pairwise (le := (· ≤ ·)) (fun x y _ _ h k => Int.le_antisymm h k) h1 (srt_up b) (h2.trans (srt_perm b).symm)
theorem srt_congr {a b : List Int} (h : a.Perm b) : srt a = srt b := srt_eq (srt_up a) ((srt_perm a).trans h)
theorem srt_self {a : List Int} (h : a.Pairwise (· ≤ ·)) : srt a = a := (srt_eq h (.refl a)).symm
theorem srt_insert {p : List Int} {x : Int} {j : Nat} (h1 : ∀ (i : Nat) a, i < j → (srt p)[i]? = some a → a ≤ x) (h2 : ∀ a, (srt p)[j]? = some a → x < a) : (srt p).take j ++ x :: (srt p).drop j = srt (p ++ [x]) := by
  have hp := srt_up p
  refine srt_eq ?_ ?_
  · rw [List.pairwise_append]
    have hs : (srt p).take j ++ (srt p).drop j = srt p := List.take_append_drop _ _
    rw [← hs, List.pairwise_append] at hp
    have hd : ∀ y ∈ (srt p).drop j, x ≤ y := by
      intro y hy
      cases he : (srt p).drop j with
      | nil => rw [he] at hy; cases hy
      | cons z t =>
        have hz : (srt p)[j]? = some z := by
          have := congrArg (fun l => l[0]?) he
          simpa using this
        have hxz := h2 z hz
        have hpd := hp.2.1
        rw [he] at hpd hy
        rcases List.mem_cons.1 hy with rfl | hy
        · omega
        · have := (List.pairwise_cons.1 hpd).1 y hy; omega
    refine ⟨hp.1, List.pairwise_cons.2 ⟨fun y hy => hd y hy, hp.2.1⟩, fun y hy z hz => ?_⟩
    have hyx : y ≤ x := by
      obtain ⟨i, hi⟩ := List.getElem?_of_mem hy
      rw [List.getElem?_take] at hi
      split at hi
      · rename_i hlt; exact h1 i y hlt hi
      · cases hi
    rcases List.mem_cons.1 hz with rfl | hz
    · exact hyx
    · have := hd z hz; omega
  · have hs : (srt p).take j ++ (srt p).drop j = srt p := List.take_append_drop _ _
    have : ((srt p).take j ++ x :: (srt p).drop j).Perm (x :: srt p) := by
      have := List.perm_middle (a := x) (l₁ := (srt p).take j) (l₂ := (srt p).drop j)
      rw [hs] at this; exact this
    exact this.trans (((srt_perm p).cons x).trans (List.perm_append_singleton x p).symm)
theorem take_snoc {α : Type} {l : List α} {k : Nat} {a : α} (h : l[k]? = some a) : l.take (k + 1) = l.take k ++ [a] := by rw [List.take_add_one, h]; rfl

set_option maxHeartbeats 4000000 in
theorem sortedR (w0 : World) (l : List Int) (S : St) (h0 : l.length ≤ 1048576) :
    ACall Try.prog w0 67 [dL l] S (fun d S' => d = dL (srt l) ∧ S' = S) := by
  refine fnS [] mx Try.func67 rfl rfl (by kernel_rfl) ?_; simp (maxDischargeDepth := 12) -implicitDefEqProofs only [Try.ntmps67, go_sem, Nat.reduceAdd, Nat.reduceSub, Nat.reduceMul, Nat.reduceLeDiff, Nat.reduceEqDiff, Nat.reduceGT, Nat.reduceBEq, reduceCtorEq, ↓reduceIte, Int.reduceToNat, Int.reduceLE, Int.reduceLT, Int.reduceNe, Int.reduceEq]
  refine loopNZ [] [3] l.length [0, 3, 4] (fun k => [(3, dL (srt (l.take k))), (4, dI k)]) (fun _ => S) (fun k => True) mx (by kernel_rfl) ?_ ?_
  · simp (maxDischargeDepth := 12) -implicitDefEqProofs only [go_sem, Nat.reduceAdd, Nat.reduceSub, Nat.reduceMul, Nat.reduceLeDiff, Nat.reduceEqDiff, Nat.reduceGT, Nat.reduceBEq, reduceCtorEq, ↓reduceIte, Int.reduceToNat, Int.reduceLE, Int.reduceLT, Int.reduceNe, Int.reduceEq]
    rw [show srt [] = [] by simp [srt]]
    simp (maxDischargeDepth := 12) -implicitDefEqProofs only [go_sem, Nat.reduceAdd, Nat.reduceSub, Nat.reduceMul, Nat.reduceLeDiff, Nat.reduceEqDiff, Nat.reduceGT, Nat.reduceBEq, reduceCtorEq, ↓reduceIte, Int.reduceToNat, Int.reduceLE, Int.reduceLT, Int.reduceNe, Int.reduceEq]
  · intro k hk _
    simp (maxDischargeDepth := 12) -implicitDefEqProofs only [go_sem, Nat.reduceAdd, Nat.reduceSub, Nat.reduceMul, Nat.reduceLeDiff, Nat.reduceEqDiff, Nat.reduceGT, Nat.reduceBEq, reduceCtorEq, ↓reduceIte, Int.reduceToNat, Int.reduceLE, Int.reduceLT, Int.reduceNe, Int.reduceEq]
    refine ⟨fun hlt => ?_, fun hge => ?_⟩
    · obtain ⟨x, hx⟩ : ∃ x, l[k]? = some x := ⟨_, List.getElem?_eq_getElem hlt⟩
      have hsl : (srt (l.take k)).length = k := by rw [srt_length, List.length_take]; omega
      refine loopK [] [0, 3, 4, 5] (fun j : Nat => [(5, dI j)]) (fun _ => S) (fun j => j ≤ k ∧ ∀ (i : Nat) a, i < j → (srt (l.take k))[i]? = some a → a ≤ x) (fun j => k - j) 0 mx (by kernel_rfl) ?_ ?_
      · simp (maxDischargeDepth := 12) -implicitDefEqProofs only [go_sem, Nat.reduceAdd, Nat.reduceSub, Nat.reduceMul, Nat.reduceLeDiff, Nat.reduceEqDiff, Nat.reduceGT, Nat.reduceBEq, reduceCtorEq, ↓reduceIte, Int.reduceToNat, Int.reduceLE, Int.reduceLT, Int.reduceNe, Int.reduceEq]
        exact ⟨by omega, fun i a hi => by omega⟩
      · intro j hjj
        have hj := hjj.1
        have hup := hjj.2
        clear hjj
        simp (maxDischargeDepth := 12) -implicitDefEqProofs only [go_sem, Nat.reduceAdd, Nat.reduceSub, Nat.reduceMul, Nat.reduceLeDiff, Nat.reduceEqDiff, Nat.reduceGT, Nat.reduceBEq, reduceCtorEq, ↓reduceIte, Int.reduceToNat, Int.reduceLE, Int.reduceLT, Int.reduceNe, Int.reduceEq]
        have fin : (∀ a, (srt (l.take k))[j]? = some a → x < a) → List.map dI ((srt (l.take k)).take j) ++ [DV.v (.int .i64 x)] ++ List.map dI ((srt (l.take k)).drop j) = List.map dI (srt (l.take (k + 1))) := by
          intro h
          rw [take_snoc hx, ← srt_insert (x := x) (j := j) hup h]
          simp [dI]
        rw [hsl]
        refine ⟨fun h1 => ⟨h1, fun a ha => ⟨hlt, fun y hy => ?_⟩⟩, fun h1 => ?_⟩
        · cases getE hx hy
          refine ⟨fun h2 => ⟨j + 1, ⟨by omega, fun i b hi hb => ?_⟩, by omega, w64 (by omega) (by omega)⟩, fun h2 => ?_⟩
          · by_cases e : i = j
            · subst e; cases getE ha hb; exact h2
            · exact hup i b (by omega) hb
          · refine ⟨by omega, by omega, by unfold maxLen; omega, fun b => ⟨hlt, fun y hy => ?_⟩⟩
            cases getE hx hy
            have f2 := fin (fun b hb => by cases getE ha hb; omega)
            simp only [List.append_assoc] at f2 ⊢
            rw [f2]
            exact ⟨by omega, by unfold maxLen; omega, by omega, by omega, by unfold maxLen; omega, hlt, .refl _, w64 (by omega) (by omega)⟩
        · refine ⟨by omega, by omega, by unfold maxLen; omega, fun b => ⟨hlt, fun y hy => ?_⟩⟩
          cases getE hx hy
          have f2 := fin (fun b hb => by have := (List.getElem?_eq_some_iff.1 hb).1; omega)
          simp only [List.append_assoc] at f2 ⊢
          rw [f2]
          exact ⟨by omega, by unfold maxLen; omega, by omega, by omega, by unfold maxLen; omega, hlt, .refl _, w64 (by omega) (by omega)⟩
    · rw [List.take_of_length_le (by omega)]; exact .refl _
end Go.Proofs.Ytkibkahknibgfaa
