/-
  Elements of an own row deleted: what the library computes. By an AI agent.
-/
import Derived.Test.YtfieabidajilmaaGreatMR7
namespace Go.Proofs.YtfieabidajilmaaGreat
open Aml Go
set_option linter.unusedVariables false
set_option linter.unusedSimpArgs false
set_option maxRecDepth 100000
theorem els_take {s : Nat} {xs : List DV} (h : Els s xs) (n : Nat) : Els s (xs.take n) := fun d hd => h d (List.mem_of_mem_take hd)
theorem els_drop {s : Nat} {xs : List DV} (h : Els s xs) (n : Nat) : Els s (xs.drop n) := fun d hd => h d (List.mem_of_mem_drop hd)
theorem els_app {s : Nat} {xs ys : List DV} (h : Els s xs) (k : Els s ys) : Els s (xs ++ ys) := fun d hd => (List.mem_append.1 hd).elim (h d) (k d)
theorem putL_len {ds cs : List DV} {o : Nat} (h : o + cs.length ≤ ds.length) : (putL ds o cs).length = ds.length := by
  unfold putL
  simp only [List.length_append, List.length_take, List.length_drop]; omega
theorem take_putL {ds cs : List DV} {o : Nat} (h : o + cs.length ≤ ds.length) : (putL ds o cs).take (o + cs.length) = ds.take o ++ cs := by
  unfold putL
  rw [List.take_append_of_le_length (by simp only [List.length_append, List.length_take]; omega)]
  exact List.take_of_length_le (by simp only [List.length_append, List.length_take]; omega)
theorem take_putL_lo {ds cs : List DV} {o k : Nat} (hk : k ≤ o) (h : o + cs.length ≤ ds.length) : (putL ds o cs).take k = ds.take k := by
  unfold putL
  rw [List.take_append_of_le_length (by simp only [List.length_append, List.length_take]; omega), List.take_append_of_le_length (by simp only [List.length_take]; omega), List.take_take, Nat.min_eq_left hk]
/-- Cells of a row without one of its elements. -/
theorem del_cells {s c i o : Nat} {xs : List DV} {Z : List DV} (hs : 0 < s) (he : Els s xs) (hi : i < xs.length) (hc : xs.length ≤ c) (ho : o = (i + 1) * s ∨ xs.length = i + 1) (ho2 : o ≤ c * s) (hZ : Z.length = s) :
    i * s + (((rowD s c xs).drop o).take ((xs.length - (i + 1)) * s)).length ≤ (rowD s c xs).length ∧
    o + (xs.length - (i + 1)) * s ≤ (rowD s c xs).length ∧
    (putL (rowD s c xs) (i * s) (((rowD s c xs).drop o).take ((xs.length - (i + 1)) * s))).length = c * s ∧
    (putL (putL (rowD s c xs) (i * s) (((rowD s c xs).drop o).take ((xs.length - (i + 1)) * s))) ((xs.length - 1) * s) Z).length = c * s ∧
    (putL (putL (rowD s c xs) (i * s) (((rowD s c xs).drop o).take ((xs.length - (i + 1)) * s))) ((xs.length - 1) * s) Z).take ((xs.length - 1) * s) = (xs.take i ++ xs.drop (i + 1)).flatMap cd := by
  have hrl := rowD_len he hc
  have hcs : xs.length * s ≤ c * s := Nat.mul_le_mul_right s hc
  have hB : ((rowD s c xs).drop o).take ((xs.length - (i + 1)) * s) = (xs.drop (i + 1)).flatMap cd := by
    rcases ho with rfl | ho
    · have e : xs.flatMap cd = (xs.take (i + 1)).flatMap cd ++ (xs.drop (i + 1)).flatMap cd := by rw [← List.flatMap_append, List.take_append_drop]
      have l1 : ((xs.take (i + 1)).flatMap cd).length = (i + 1) * s := by rw [els_len (els_take he _), List.length_take]; congr 1; omega
      have l2 : ((xs.drop (i + 1)).flatMap cd).length = (xs.length - (i + 1)) * s := by rw [els_len (els_drop he _), List.length_drop]
      unfold rowD
      rw [e, List.append_assoc, List.drop_append, l1, List.drop_eq_nil_of_le (by omega), List.nil_append, Nat.sub_self, List.drop_zero, List.take_append_of_le_length (by omega), List.take_of_length_le (by omega)]
    · have h0 : xs.drop (i + 1) = [] := List.drop_eq_nil_of_le (by omega)
      rw [h0, show xs.length - (i + 1) = 0 by omega]; simp
  have hBl : ((xs.drop (i + 1)).flatMap cd).length = (xs.length - (i + 1)) * s := by rw [els_len (els_drop he _), List.length_drop]
  rw [hB]
  have h1 : i * s + (xs.length - (i + 1)) * s = (xs.length - 1) * s := by rw [← Nat.add_mul]; congr 1; omega
  have h2 : (xs.length - 1) * s + s = xs.length * s := by rw [← Nat.succ_mul]; congr 1; omega
  have hA : (rowD s c xs).take (i * s) = (xs.take i).flatMap cd := by
    have e : xs.flatMap cd = (xs.take i).flatMap cd ++ (xs.drop i).flatMap cd := by rw [← List.flatMap_append, List.take_append_drop]
    have l1 : ((xs.take i).flatMap cd).length = i * s := by rw [els_len (els_take he _), List.length_take]; congr 1; omega
    unfold rowD
    rw [e, List.append_assoc, List.take_append_of_le_length (by omega), List.take_of_length_le (by omega)]
  have q1 : i * s + ((xs.drop (i + 1)).flatMap cd).length ≤ (rowD s c xs).length := by rw [hBl, hrl]; omega
  have q3 := (putL_len q1).trans hrl
  have q4 : (xs.length - 1) * s + Z.length ≤ (putL (rowD s c xs) (i * s) ((xs.drop (i + 1)).flatMap cd)).length := by rw [q3, hZ]; omega
  refine ⟨q1, ?_, q3, (putL_len q4).trans q3, ?_⟩
  · rw [hrl]
    rcases ho with rfl | ho
    · rw [← Nat.add_mul, show i + 1 + (xs.length - (i + 1)) = xs.length by omega]; exact hcs
    · rw [show xs.length - (i + 1) = 0 by omega]; omega
  · rw [take_putL_lo (Nat.le_refl _) q4]
    have := take_putL q1
    rw [hBl, h1] at this
    rw [this, hA, List.flatMap_append]
set_option maxHeartbeats 8000000 in
theorem delS (w0 : W0) (S : St) (l : Nat) (xs : List DV) (i : Nat) (hl : lk S.acc l = some (.arr 1 xs)) (he : Els 1 xs) (hi : i < xs.length) (hb : xs.length ≤ 1048576) :
    ACall Tryz.prog w0 92 [.acc l xs.length, dI i, dI ((i + 1 : Nat) : Int)] S fun d S' => ∃ m : FN S.acc, d = .acc m.n (xs.length - 1) ∧ S' = ⟨S.box, ren S.acc l (m.n, .arr 1 (xs.take i ++ xs.drop (i + 1)))⟩ := by
  have hyl : (xs.take i ++ xs.drop (i + 1)).length = xs.length - 1 := by rw [List.length_append, List.length_take, List.length_drop]; omega
  refine (acall_open (P := Tryz.prog) (w0 := w0) (K := fun ys => ys = xs.take i ++ xs.drop (i + 1)) hl (by intro e; rw [e] at hi; cases hi) (by omega) he fun b c hbn hc1 hc2 => ?_).mono ?_
  · obtain ⟨z1, z2, z3, z4, z5⟩ := del_cells (s := 1) (c := c) (o := if c = i + 1 then 0 else (i + 1) * 1) (Z := zeroL (.v (.string ByteArray.empty)) 1) (by omega) he hi hc1 (by split <;> first | (right; omega) | (left; rfl)) (by have := Nat.mul_le_mul_right 1 (show i + 1 ≤ c by omega); split <;> omega) rfl
    have hrow := rowD_len he hc1
    generalize rowD 1 c xs = ds at *
    refine fnO [] mx Tryz.func92 rfl rfl (by kernel_rfl) ?_; simp (maxDischargeDepth := 12) (maxSteps := 1000000) -implicitDefEqProofs only [Tryz.ntmps92, go_sem, Nat.reduceAdd, Nat.reduceSub, Nat.reduceMul, Nat.reduceLeDiff, Nat.reduceEqDiff, Nat.reduceGT, Nat.reduceBEq, reduceCtorEq, ↓reduceIte, Int.reduceToNat, Int.reduceLE, Int.reduceLT, Int.reduceNe, Int.reduceEq]
    have e1 : i + (xs.length - (i + 1)) = xs.length - 1 := by omega
    have e2 : (if c = 0 then 0 else 0) = 0 := by split <;> rfl
    have e3 : xs.length - (xs.length - 1) = 1 := by omega
    have e4 : ¬ (c = xs.length - 1) := by omega
    simp only [e1, e2, e3, e4, Nat.sub_zero, Nat.zero_add, if_false]
    refine ⟨by omega, by omega, hc1, fun h => by omega, fun _ => ⟨by omega, by omega, hc1, by omega, by omega, z2, fun h1 => ⟨by omega, by omega, ?_, ?_⟩, fun h1 => by omega⟩⟩
    · rw [z3]
      have := Nat.mul_le_mul_right 1 hc1
      omega
    · refine ⟨b, c, _, _, _, rfl, by rw [hyl], by simp only [lk, if_true], rfl, ?_, els_app (els_take he _) (els_drop he _), ?_, z4, by omega, hc2⟩
      · rw [List.filter_cons_of_neg (by simp)]
        rw [List.filter_eq_self.2 fun p hp => by simpa using Y.nin_all hbn p hp]
        exact List.Sublist.refl _
      · rw [hyl]; exact z5
  · rintro d S' ⟨ys, m, rfl, rfl, rfl⟩
    exact ⟨m, by rw [hyl], rfl⟩
set_option maxHeartbeats 8000000 in
theorem delV (w0 : W0) (S : St) (l : Nat) (xs : List DV) (i : Nat) (hl : lk S.acc l = some (.arr 2 xs)) (he : Els 2 xs) (hi : i < xs.length) (hb : xs.length ≤ 1048576) :
    ACall Tryz.prog w0 93 [.acc l xs.length, dI i, dI ((i + 1 : Nat) : Int)] S fun d S' => ∃ m : FN S.acc, d = .acc m.n (xs.length - 1) ∧ S' = ⟨S.box, ren S.acc l (m.n, .arr 2 (xs.take i ++ xs.drop (i + 1)))⟩ := by
  have hyl : (xs.take i ++ xs.drop (i + 1)).length = xs.length - 1 := by rw [List.length_append, List.length_take, List.length_drop]; omega
  refine (acall_open (P := Tryz.prog) (w0 := w0) (K := fun ys => ys = xs.take i ++ xs.drop (i + 1)) hl (by intro e; rw [e] at hi; cases hi) (by omega) he fun b c hbn hc1 hc2 => ?_).mono ?_
  · obtain ⟨z1, z2, z3, z4, z5⟩ := del_cells (s := 2) (c := c) (o := if c = i + 1 then 0 else (i + 1) * 2) (Z := zeroL (.agg [.v (.string ByteArray.empty), .sl 0 true []]) 1) (by omega) he hi hc1 (by split <;> first | (right; omega) | (left; rfl)) (by have := Nat.mul_le_mul_right 2 (show i + 1 ≤ c by omega); split <;> omega) rfl
    have hrow := rowD_len he hc1
    generalize rowD 2 c xs = ds at *
    refine fnO [] mx Tryz.func93 rfl rfl (by kernel_rfl) ?_; simp (maxDischargeDepth := 12) (maxSteps := 1000000) -implicitDefEqProofs only [Tryz.ntmps93, go_sem, Nat.reduceAdd, Nat.reduceSub, Nat.reduceMul, Nat.reduceLeDiff, Nat.reduceEqDiff, Nat.reduceGT, Nat.reduceBEq, reduceCtorEq, ↓reduceIte, Int.reduceToNat, Int.reduceLE, Int.reduceLT, Int.reduceNe, Int.reduceEq]
    have e1 : i + (xs.length - (i + 1)) = xs.length - 1 := by omega
    have e2 : (if c = 0 then 0 else 0) = 0 := by split <;> rfl
    have e3 : xs.length - (xs.length - 1) = 1 := by omega
    have e4 : ¬ (c = xs.length - 1) := by omega
    simp only [e1, e2, e3, e4, Nat.sub_zero, Nat.zero_add, if_false]
    refine ⟨by omega, by omega, hc1, fun h => by omega, fun _ => ⟨by omega, by omega, hc1, by omega, by omega, z2, fun h1 => ⟨by omega, by omega, ?_, ?_⟩, fun h1 => by omega⟩⟩
    · rw [z3]
      have := Nat.mul_le_mul_right 2 hc1
      omega
    · refine ⟨b, c, _, _, _, rfl, by rw [hyl], by simp only [lk, if_true], rfl, ?_, els_app (els_take he _) (els_drop he _), ?_, z4, by omega, hc2⟩
      · rw [List.filter_cons_of_neg (by simp)]
        rw [List.filter_eq_self.2 fun p hp => by simpa using Y.nin_all hbn p hp]
        exact List.Sublist.refl _
      · rw [hyl]; exact z5
  · rintro d S' ⟨ys, m, rfl, rfl, rfl⟩
    exact ⟨m, by rw [hyl], rfl⟩
set_option maxHeartbeats 8000000 in
theorem delB (w0 : W0) (S : St) (l : Nat) (xs : List DV) (i : Nat) (hl : lk S.acc l = some (.arr 6 xs)) (he : Els 6 xs) (hi : i < xs.length) (hb : xs.length ≤ 1048576) :
    ACall Tryz.prog w0 50 [.acc l xs.length, dI i, dI ((i + 1 : Nat) : Int)] S fun d S' => ∃ m : FN S.acc, d = .acc m.n (xs.length - 1) ∧ S' = ⟨S.box, ren S.acc l (m.n, .arr 6 (xs.take i ++ xs.drop (i + 1)))⟩ := by
  have hyl : (xs.take i ++ xs.drop (i + 1)).length = xs.length - 1 := by rw [List.length_append, List.length_take, List.length_drop]; omega
  refine (acall_open (P := Tryz.prog) (w0 := w0) (K := fun ys => ys = xs.take i ++ xs.drop (i + 1)) hl (by intro e; rw [e] at hi; cases hi) (by omega) he fun b c hbn hc1 hc2 => ?_).mono ?_
  · obtain ⟨z1, z2, z3, z4, z5⟩ := del_cells (s := 6) (c := c) (o := if c = i + 1 then 0 else (i + 1) * 6) (Z := zeroL (.agg [.v (.string ByteArray.empty), .v (.int .i64 0), .v (.bool false), .sl 0 true [], .sl 0 true [], .sl 0 true []]) 1) (by omega) he hi hc1 (by split <;> first | (right; omega) | (left; rfl)) (by have := Nat.mul_le_mul_right 6 (show i + 1 ≤ c by omega); split <;> omega) rfl
    have hrow := rowD_len he hc1
    generalize rowD 6 c xs = ds at *
    refine fnO [] mx Tryz.func50 rfl rfl (by kernel_rfl) ?_; simp (maxDischargeDepth := 12) (maxSteps := 1000000) -implicitDefEqProofs only [Tryz.ntmps50, go_sem, Nat.reduceAdd, Nat.reduceSub, Nat.reduceMul, Nat.reduceLeDiff, Nat.reduceEqDiff, Nat.reduceGT, Nat.reduceBEq, reduceCtorEq, ↓reduceIte, Int.reduceToNat, Int.reduceLE, Int.reduceLT, Int.reduceNe, Int.reduceEq]
    have e1 : i + (xs.length - (i + 1)) = xs.length - 1 := by omega
    have e2 : (if c = 0 then 0 else 0) = 0 := by split <;> rfl
    have e3 : xs.length - (xs.length - 1) = 1 := by omega
    have e4 : ¬ (c = xs.length - 1) := by omega
    simp only [e1, e2, e3, e4, Nat.sub_zero, Nat.zero_add, if_false]
    refine ⟨by omega, by omega, hc1, fun h => by omega, fun _ => ⟨by omega, by omega, hc1, by omega, by omega, z2, fun h1 => ⟨by omega, by omega, ?_, ?_⟩, fun h1 => by omega⟩⟩
    · rw [z3]
      have := Nat.mul_le_mul_right 6 hc1
      omega
    · refine ⟨b, c, _, _, _, rfl, by rw [hyl], by simp only [lk, if_true], rfl, ?_, els_app (els_take he _) (els_drop he _), ?_, z4, by omega, hc2⟩
      · rw [List.filter_cons_of_neg (by simp)]
        rw [List.filter_eq_self.2 fun p hp => by simpa using Y.nin_all hbn p hp]
        exact List.Sublist.refl _
      · rw [hyl]; exact z5
  · rintro d S' ⟨ys, m, rfl, rfl, rfl⟩
    exact ⟨m, by rw [hyl], rfl⟩
end Go.Proofs.YtfieabidajilmaaGreat
