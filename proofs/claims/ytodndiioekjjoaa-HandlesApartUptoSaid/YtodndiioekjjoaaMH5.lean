/-
  Sessions by values: what the reference computes; Sessions by values, in order; what a session holds: what the reference computes; The table of sessions: what the program computes; DERIVED: THE SHELF's CONTRACTS AT THIS DUMP, IN PLAIN WORDS (tools/lay-plain.mjs out of 'TryShelf.lean', which tools/lay-shelf.mjs wrote): THE SAME DECLARATIONS UNDER THE SAME NAMES: 'import', 'namespace', 'open', 'def', 'theorem' AND NOTHING ELSE: no command of the shelf's: FOR A HAND-IN. Each laying: the table of numbers ('.._ren') and one theorem, a field a fact of the dump's own or the kernel's comparison; each contract: ONE APPLICATION; The library's sort of ints, as the walk speaks; The keys of a map of numbers, in whatever order, and in rising order: walked; What a session holds, rising: what the program computes; The keys of a map by handles, in whatever order: walked; Handles compared: what the program computes; DERIVED: THE SHELF's CONTRACTS AT THIS DUMP, IN PLAIN WORDS (tools/lay-plain.mjs out of 'TrySortL.lean', which tools/lay-shelf.mjs wrote): THE SAME DECLARATIONS UNDER THE SAME NAMES: 'import', 'namespace', 'open', 'def', 'theorem' AND NOTHING ELSE: no command of the shelf's: FOR A HAND-IN. Each laying: the table of numbers ('.._ren') and one theorem, a field a fact of the dump's own or the kernel's comparison; each contract: ONE APPLICATION; From an argument that reads as a datum to an abstract value; from a walked call to the row's own words; Handles sorted by the library: as the walk speaks; The library's sort of handles, as the walk speaks; All sessions that are open, rising: what the program computes; A table of sessions, and the list that the document keeps: what joins them; A table of sessions holds what the document's list holds: each call; A table of sessions holds what the document's list holds: calls that change it. By an AI agent.
-/
import Derived.Test.YtodndiioekjjoaaMH2
import Derived.Test.YtodndiioekjjoaaMH4
import Derived.Shelf.Small.Bits
import Derived.Shelf.Strconv.Itoa0
import Derived.Shelf.Sort.Plain
import Derived.Ground.Names2Prog
import Derived.Shelf.Slices.SearchI
import Derived.Shelf.Slices.In.SortNone
import Derived.Test.YtodndiioekjjoaaProg
import Derived.Sort.Grow
import Derived.Shelf.SlGeneric
import Derived.Shelf.SlSortCmp.NoneTotal
import Derived.Ground.SlsfProg
import Derived.Test.YtodndiioekjjoaaRows
import Derived.Test.YtodndiioekjjoaaMH3
import Derived.ProofKit
import Derived.OpenShut
import Derived.JoinedCond
import Derived.Carry
namespace Go.Proofs.Ytodndiioekjjoaa
open Aml Go
set_option linter.unusedVariables false
set_option linter.unusedSimpArgs false
set_option maxRecDepth 100000
/-- A session, as the reference has it. -/
structure RH where
  lv : Int
  n : Int
  sn : List Int
  last : Int
  gone : Bool
@[go_sem] def dRH (s : RH) : DV := .agg [dI s.lv, dI s.n, .sl 1 false (s.sn.map dI), dI s.last, dB s.gone]
def isH (lv n : Int) (s : RH) : Bool := decide (s.lv = lv) && decide (s.n = n) && !s.gone
/-- Where an open session is; behind the end: nowhere. -/
def ixH (l : List RH) (lv n : Int) : Nat := l.findIdx (isH lv n)
def fnH (l : List RH) (lv n : Int) : Int := if ixH l lv n < l.length then (ixH l lv n : Int) else -1
def cnH (l : List RH) (lv : Int) : Nat := l.countP fun s => decide (s.lv = lv)
theorem cnH_le (l : List RH) (lv : Int) : cnH l lv ≤ l.length := List.countP_le_length
theorem cnH_take (l : List RH) (lv : Int) (k : Nat) : cnH (l.take k) lv ≤ k := by
  have := cnH_le (l.take k) lv
  rw [List.length_take] at this; omega
theorem cnH_succ {l : List RH} {lv : Int} {k : Nat} {c : RH} (h : l[k]? = some c) : cnH (l.take (k + 1)) lv = cnH (l.take k) lv + if c.lv = lv then 1 else 0 := by
  unfold cnH
  rw [List.take_add_one, h, Option.toList_some, List.countP_append]
  congr 1
  by_cases e : c.lv = lv <;> simp [e]
theorem ix_at {l : List RH} {lv n : Int} {k : Nat} {c : RH} (hc : l[k]? = some c) (h : isH lv n c = true) (hn : ∀ (j : Nat) a, j < k → l[j]? = some a → isH lv n a = false) : ixH l lv n = k := by
  obtain ⟨hlt, rfl⟩ := List.getElem?_eq_some_iff.1 hc
  exact (List.findIdx_eq hlt).2 ⟨h, fun j hj => hn j _ hj (List.getElem?_eq_getElem (by omega))⟩
theorem ix_none {l : List RH} {lv n : Int} (hn : ∀ (j : Nat) a, l[j]? = some a → isH lv n a = false) : ixH l lv n = l.length :=
  List.findIdx_eq_length_of_false fun x hx => by
    obtain ⟨j, hj⟩ := List.mem_iff_getElem?.1 hx
    exact hn j x hj
theorem ix_get {l : List RH} {lv n : Int} (h : ixH l lv n < l.length) : ∃ c, l[ixH l lv n]? = some c ∧ isH lv n c = true := by
  refine ⟨l[ixH l lv n], List.getElem?_eq_getElem h, ?_⟩
  exact List.findIdx_getElem (w := h)
theorem i_oneH (k : Nat) (h : k ≤ 1048576) : IntKind.i64.wrap ((k : Int) + 1) = ((k + 1 : Nat) : Int) := by rw [w64 (by omega) (by omega)]; omega
set_option maxHeartbeats 4000000 in
theorem findH (w0 : W0) (l : List RH) (lv n : Int) (S : St) (hl : l.length ≤ 1048576) : ACall Try.prog w0 20 [.sl 5 false (l.map dRH), dI lv, dI n] S (fun d S' => d = dI (fnH l lv n) ∧ S' = S) := by
  have f1 := fun k c => ix_at (l := l) (lv := lv) (n := n) (k := k) (c := c)
  have f2 := ix_none (l := l) (lv := lv) (n := n)
  unfold fnH
  generalize ixH l lv n = X at *
  refine fnS [] mx Try.func20 rfl rfl (by kernel_rfl) ?_; simp (maxDischargeDepth := 12) (maxSteps := 1000000) -implicitDefEqProofs only [Try.ntmps20, go_sem, Nat.reduceAdd, Nat.reduceSub, Nat.reduceMul, Nat.reduceLeDiff, Nat.reduceEqDiff, Nat.reduceGT, Nat.reduceBEq, reduceCtorEq, ↓reduceIte, Int.reduceToNat, Int.reduceLE, Int.reduceLT, Int.reduceNe, Int.reduceEq]
  refine loopN [] l.length [0, 1, 2, 7] (fun k => [(7, dI k)]) (fun _ => S) (fun k => ∀ (j : Nat) a, j < k → l[j]? = some a → isH lv n a = false) mx (by kernel_rfl) ?_ ?_
  · simp (maxDischargeDepth := 12) (maxSteps := 1000000) -implicitDefEqProofs only [go_sem, Nat.reduceAdd, Nat.reduceSub, Nat.reduceMul, Nat.reduceLeDiff, Nat.reduceEqDiff, Nat.reduceGT, Nat.reduceBEq, reduceCtorEq, ↓reduceIte, Int.reduceToNat, Int.reduceLE, Int.reduceLT, Int.reduceNe, Int.reduceEq]
    exact fun j a h => absurd h (by omega)
  · intro k hk hinv
    simp (maxDischargeDepth := 12) (maxSteps := 1000000) -implicitDefEqProofs only [go_sem, Nat.reduceAdd, Nat.reduceSub, Nat.reduceMul, Nat.reduceLeDiff, Nat.reduceEqDiff, Nat.reduceGT, Nat.reduceBEq, reduceCtorEq, ↓reduceIte, Int.reduceToNat, Int.reduceLE, Int.reduceLT, Int.reduceNe, Int.reduceEq]
    refine ⟨fun hlt => ⟨hlt, fun c hc => ?_⟩, fun hge => ?_⟩
    · have hno : isH lv n c = false → ∀ (j : Nat) a, j < k + 1 → l[j]? = some a → isH lv n a = false := fun h j a hj ha => by
        rcases Nat.lt_or_ge j k with h1 | h1
        · exact hinv j a h1 ha
        · have : j = k := by omega
          subst this
          cases getE hc ha
          exact h
      have nx : isH lv n c = false → k < l.length ∧ (∀ (j : Nat) a, j < k + 1 → l[j]? = some a → isH lv n a = false) ∧ IntKind.i64.wrap ((k : Int) + 1) = ((k + 1 : Nat) : Int) := fun h => ⟨hlt, hno h, i_oneH k (by omega)⟩
      refine ⟨fun e1 => ⟨hlt, fun a ha => ?_⟩, fun e1 => nx (by unfold isH; simp [e1])⟩
      cases getE hc ha
      refine ⟨fun e2 => ⟨hlt, fun a ha => ?_⟩, fun e2 => nx (by unfold isH; simp [e2])⟩
      cases getE hc ha
      refine ⟨fun e3 => nx (by unfold isH; simp [e3]), fun e3 => ?_⟩
      have := f1 k c hc (by unfold isH; simp [e1, e2, e3]) hinv
      rw [this, if_pos hlt]
    · rw [f2 fun j a hj => hinv j a (by have := (List.getElem?_eq_some_iff.1 hj).1; omega) hj, if_neg (by omega)]
theorem WkL.app : ∀ {a b c d : List DV}, WkL a b → WkL c d → WkL (a ++ c) (b ++ d)
  | [], [], _, _, _, h => h
  | _ :: _, _ :: _, _, _, h, k => ⟨h.1, WkL.app h.2 k⟩
/-- A session is opened. -/
def opH (l : List RH) (lv : Int) : List RH × Int := (l ++ [⟨lv, (cnH l lv : Int) + 1, [], 0, false⟩], (cnH l lv : Int) + 1)
set_option maxHeartbeats 4000000 in
theorem rOpenH (w0 : W0) (l : List RH) (lv : Int) (S : St) (hl : l.length ≤ 1000000) : ACall Try.prog w0 8 [.sl 5 false (l.map dRH), dI lv] S (fun d S' => d = .tup [.sl 5 false ((opH l lv).1.map dRH), dI (opH l lv).2] ∧ S' = S) := by
  unfold opH
  have hcl := cnH_le l lv
  refine fnS [] mx Try.func8 rfl rfl (by kernel_rfl) ?_; simp (maxDischargeDepth := 12) (maxSteps := 1000000) -implicitDefEqProofs only [Try.ntmps8, go_sem, Nat.reduceAdd, Nat.reduceSub, Nat.reduceMul, Nat.reduceLeDiff, Nat.reduceEqDiff, Nat.reduceGT, Nat.reduceBEq, reduceCtorEq, ↓reduceIte, Int.reduceToNat, Int.reduceLE, Int.reduceLT, Int.reduceNe, Int.reduceEq]
  refine loopN [] l.length [0, 1, 6, 7] (fun k => [(6, dI ((cnH (l.take k) lv : Int) + 1)), (7, dI k)]) (fun _ => S) (fun _ => True) mx (by kernel_rfl) ?_ ?_
  · simp (maxDischargeDepth := 12) (maxSteps := 1000000) -implicitDefEqProofs only [go_sem, Nat.reduceAdd, Nat.reduceSub, Nat.reduceMul, Nat.reduceLeDiff, Nat.reduceEqDiff, Nat.reduceGT, Nat.reduceBEq, reduceCtorEq, ↓reduceIte, Int.reduceToNat, Int.reduceLE, Int.reduceLT, Int.reduceNe, Int.reduceEq]
    rfl
  · intro k hk _
    have h1 := cnH_take l lv k
    simp (maxDischargeDepth := 12) (maxSteps := 1000000) -implicitDefEqProofs only [go_sem, Nat.reduceAdd, Nat.reduceSub, Nat.reduceMul, Nat.reduceLeDiff, Nat.reduceEqDiff, Nat.reduceGT, Nat.reduceBEq, reduceCtorEq, ↓reduceIte, Int.reduceToNat, Int.reduceLE, Int.reduceLT, Int.reduceNe, Int.reduceEq]
    refine ⟨fun hlt => ⟨hlt, fun c hc => ?_⟩, fun hge => ?_⟩
    · have h2 := cnH_succ (lv := lv) hc
      refine ⟨fun e1 => ?_, fun e1 => ?_⟩
      · rw [if_pos e1] at h2
        exact ⟨hlt, by rw [w64 (by omega) (by omega)]; omega, i_oneH k (by omega)⟩
      · rw [if_neg e1] at h2
        exact ⟨hlt, by omega, i_oneH k (by omega)⟩
    · have hm8 : maxLen = 9223372036854775807 := rfl
      rw [List.take_of_length_le (by omega)]
      refine ⟨by omega, by omega, fun la => ⟨by omega, by omega, ?_⟩⟩
      rw [List.map_append]
      exact .tup ⟨Wk.sl (WkL.app (.refl _) ⟨.agg ⟨.refl _, .refl _, .nil _ _ _, .refl _, .refl _, trivial⟩, trivial⟩), .refl _, trivial⟩
theorem withH (w0 : W0) (l : List RH) (i : Nat) (s : RH) (S : St) (hl : l.length ≤ 1000000) (hi : i < l.length) : ACall Try.prog w0 24 [.sl 5 false (l.map dRH), dI i, dRH s] S (fun d S' => d = .sl 5 false ((l.set i s).map dRH) ∧ S' = S) := by
  have hm8 : maxLen = 9223372036854775807 := rfl
  refine fnS [] mx Try.func24 rfl rfl (by kernel_rfl) ?_; simp (maxDischargeDepth := 12) (maxSteps := 1000000) -implicitDefEqProofs only [Try.ntmps24, go_sem, Nat.reduceAdd, Nat.reduceSub, Nat.reduceMul, Nat.reduceLeDiff, Nat.reduceEqDiff, Nat.reduceGT, Nat.reduceBEq, reduceCtorEq, ↓reduceIte, Int.reduceToNat, Int.reduceLE, Int.reduceLT, Int.reduceNe, Int.reduceEq]
  refine fun b => ⟨by omega, by omega, fun la => ⟨hi, hi, fun a ha => ?_⟩⟩
  exact .eq (by rw [List.map_set]; rfl)
theorem ixH_lt {l : List RH} {lv n : Int} : fnH l lv n < 0 ↔ ¬ ixH l lv n < l.length := by
  unfold fnH
  split <;> omega
/-- A session is closed. -/
def clH (l : List RH) (lv n : Int) : List RH × Bool := if ixH l lv n < l.length then (l.set (ixH l lv n) ⟨lv, n, [], 0, true⟩, true) else (l, false)
set_option maxHeartbeats 4000000 in
theorem rCloseH (w0 : W0) (l : List RH) (lv n : Int) (S : St) (hl : l.length ≤ 1000000) : ACall Try.prog w0 10 [.sl 5 false (l.map dRH), dI lv, dI n] S (fun d S' => d = .tup [.sl 5 false ((clH l lv n).1.map dRH), dB (clH l lv n).2] ∧ S' = S) := by
  have hf := fun S => findH w0 l lv n S (by omega)
  have hw := fun i s S hi => withH w0 l i s S hl hi
  unfold clH
  by_cases h : ixH l lv n < l.length
  · have e : fnH l lv n = (ixH l lv n : Int) := by unfold fnH; rw [if_pos h]
    rw [e] at hf
    rw [if_pos h]
    generalize ixH l lv n = X at *
    refine fnS [] mx Try.func10 rfl rfl (by kernel_rfl) ?_; simp (maxDischargeDepth := 12) (maxSteps := 1000000) -implicitDefEqProofs only [Try.ntmps10, go_sem, Nat.reduceAdd, Nat.reduceSub, Nat.reduceMul, Nat.reduceLeDiff, Nat.reduceEqDiff, Nat.reduceGT, Nat.reduceBEq, reduceCtorEq, ↓reduceIte, Int.reduceToNat, Int.reduceLE, Int.reduceLT, Int.reduceNe, Int.reduceEq]
    refine use1 (hf _) ?_
    simp (maxDischargeDepth := 12) (maxSteps := 1000000) -implicitDefEqProofs only [go_sem, Nat.reduceAdd, Nat.reduceSub, Nat.reduceMul, Nat.reduceLeDiff, Nat.reduceEqDiff, Nat.reduceGT, Nat.reduceBEq, reduceCtorEq, ↓reduceIte, Int.reduceToNat, Int.reduceLE, Int.reduceLT, Int.reduceNe, Int.reduceEq]
    refine ⟨fun h0 => by omega, fun _ => use1 (hw X ⟨lv, n, [], 0, true⟩ _ h) ?_ ⟨.refl _, .refl _, .agg ⟨.refl _, .refl _, .nil _ _ _, .refl _, .refl _, trivial⟩, trivial⟩⟩
    simp (maxDischargeDepth := 12) (maxSteps := 1000000) -implicitDefEqProofs only [go_sem, Nat.reduceAdd, Nat.reduceSub, Nat.reduceMul, Nat.reduceLeDiff, Nat.reduceEqDiff, Nat.reduceGT, Nat.reduceBEq, reduceCtorEq, ↓reduceIte, Int.reduceToNat, Int.reduceLE, Int.reduceLT, Int.reduceNe, Int.reduceEq]
  · have e : fnH l lv n = -1 := by unfold fnH; rw [if_neg h]
    rw [e] at hf
    rw [if_neg h]
    refine fnS [] mx Try.func10 rfl rfl (by kernel_rfl) ?_; simp (maxDischargeDepth := 12) (maxSteps := 1000000) -implicitDefEqProofs only [Try.ntmps10, go_sem, Nat.reduceAdd, Nat.reduceSub, Nat.reduceMul, Nat.reduceLeDiff, Nat.reduceEqDiff, Nat.reduceGT, Nat.reduceBEq, reduceCtorEq, ↓reduceIte, Int.reduceToNat, Int.reduceLE, Int.reduceLT, Int.reduceNe, Int.reduceEq]
    refine use1 (hf _) ?_
    simp (maxDischargeDepth := 12) (maxSteps := 1000000) -implicitDefEqProofs only [go_sem, Nat.reduceAdd, Nat.reduceSub, Nat.reduceMul, Nat.reduceLeDiff, Nat.reduceEqDiff, Nat.reduceGT, Nat.reduceBEq, reduceCtorEq, ↓reduceIte, Int.reduceToNat, Int.reduceLE, Int.reduceLT, Int.reduceNe, Int.reduceEq]
/-- A snapshot is taken. -/
def snS (s : RH) : RH := { s with sn := s.sn ++ [s.last + 1], last := s.last + 1 }
def snH (l : List RH) (lv n : Int) : List RH × Int := match l[ixH l lv n]? with
  | some s => (l.set (ixH l lv n) (snS s), s.last + 1)
  | none => (l, 0)
set_option maxHeartbeats 4000000 in
theorem rSnapH (w0 : W0) (l : List RH) (lv n : Int) (S : St) (hl : l.length ≤ 1000000) (hs : ∀ s, s ∈ l → s.sn.length ≤ 1000000 ∧ 0 ≤ s.last ∧ s.last ≤ 1000000) : ACall Try.prog w0 12 [.sl 5 false (l.map dRH), dI lv, dI n] S (fun d S' => d = .tup [.sl 5 false ((snH l lv n).1.map dRH), dI (snH l lv n).2] ∧ S' = S) := by
  have hf := fun S => findH w0 l lv n S (by omega)
  have hw := fun i s S hi => withH w0 l i s S hl hi
  have hm8 : maxLen = 9223372036854775807 := rfl
  unfold snH
  cases hx : l[ixH l lv n]? with
  | some s =>
    have h := (List.getElem?_eq_some_iff.1 hx).1
    obtain ⟨b1, b2, b3⟩ := hs s (List.mem_of_getElem? hx)
    have e : fnH l lv n = (ixH l lv n : Int) := by unfold fnH; rw [if_pos h]
    rw [e] at hf
    generalize ixH l lv n = X at *
    have ew : IntKind.i64.wrap (s.last + 1) = s.last + 1 := w64 (by omega) (by omega)
    refine fnS [10] mx Try.func12 rfl rfl (by kernel_rfl) ?_; simp (maxDischargeDepth := 12) (maxSteps := 1000000) -implicitDefEqProofs only [Try.ntmps12, go_sem, Nat.reduceAdd, Nat.reduceSub, Nat.reduceMul, Nat.reduceLeDiff, Nat.reduceEqDiff, Nat.reduceGT, Nat.reduceBEq, reduceCtorEq, ↓reduceIte, Int.reduceToNat, Int.reduceLE, Int.reduceLT, Int.reduceNe, Int.reduceEq]
    refine use1 (hf _) ?_
    simp (maxDischargeDepth := 12) (maxSteps := 1000000) -implicitDefEqProofs only [go_sem, Nat.reduceAdd, Nat.reduceSub, Nat.reduceMul, Nat.reduceLeDiff, Nat.reduceEqDiff, Nat.reduceGT, Nat.reduceBEq, reduceCtorEq, ↓reduceIte, Int.reduceToNat, Int.reduceLE, Int.reduceLT, Int.reduceNe, Int.reduceEq]
    refine ⟨fun h0 => by omega, fun _ => ⟨h, fun a ha b => ?_⟩⟩
    cases getE hx ha
    refine ⟨by omega, by omega, fun la => ?_⟩
    simp (maxDischargeDepth := 12) (maxSteps := 1000000) -implicitDefEqProofs only [go_sem, Nat.reduceAdd, Nat.reduceSub, Nat.reduceMul, Nat.reduceLeDiff, Nat.reduceEqDiff, Nat.reduceGT, Nat.reduceBEq, reduceCtorEq, ↓reduceIte, Int.reduceToNat, Int.reduceLE, Int.reduceLT, Int.reduceNe, Int.reduceEq, ew]
    refine ⟨by omega, by omega, ?_⟩
    have hlen : (s.sn.map dI ++ [dI (s.last + 1)]).length = s.sn.length + 1 := by simp
    refine shrB b.n 2 (l := la.n) (s := 1) (xs := s.sn.map dI ++ [dI (s.last + 1)]) (ds := [dI s.lv, dI s.n, .acc la.n (s.sn.length + 1), dI (s.last + 1), dB s.gone]) (by simp (maxDischargeDepth := 12) (maxSteps := 1000000) -implicitDefEqProofs only [go_sem, Nat.reduceAdd, Nat.reduceSub, Nat.reduceMul, Nat.reduceLeDiff, Nat.reduceEqDiff, Nat.reduceGT, Nat.reduceBEq, reduceCtorEq, ↓reduceIte, Int.reduceToNat, Int.reduceLE, Int.reduceLT, Int.reduceNe, Int.reduceEq]) (by rw [hlen]; rfl) (by simp (maxDischargeDepth := 12) (maxSteps := 1000000) -implicitDefEqProofs only [go_sem, Nat.reduceAdd, Nat.reduceSub, Nat.reduceMul, Nat.reduceLeDiff, Nat.reduceEqDiff, Nat.reduceGT, Nat.reduceBEq, reduceCtorEq, ↓reduceIte, Int.reduceToNat, Int.reduceLE, Int.reduceLT, Int.reduceNe, Int.reduceEq]) ?_
    simp (maxDischargeDepth := 12) (maxSteps := 1000000) -implicitDefEqProofs only [go_sem, Nat.reduceAdd, Nat.reduceSub, Nat.reduceMul, Nat.reduceLeDiff, Nat.reduceEqDiff, Nat.reduceGT, Nat.reduceBEq, reduceCtorEq, ↓reduceIte, Int.reduceToNat, Int.reduceLE, Int.reduceLT, Int.reduceNe, Int.reduceEq]
    refine lexK mx (by kernel_rfl) ?_
    simp (maxDischargeDepth := 12) (maxSteps := 1000000) -implicitDefEqProofs only [go_sem, Nat.reduceAdd, Nat.reduceSub, Nat.reduceMul, Nat.reduceLeDiff, Nat.reduceEqDiff, Nat.reduceGT, Nat.reduceBEq, reduceCtorEq, ↓reduceIte, Int.reduceToNat, Int.reduceLE, Int.reduceLT, Int.reduceNe, Int.reduceEq]
    refine useX (fun B hB => hw X (snS s) _ h) ?_ ⟨.refl _, .refl _, ?_, trivial⟩
    · simp (maxDischargeDepth := 12) (maxSteps := 1000000) -implicitDefEqProofs only [go_sem, Nat.reduceAdd, Nat.reduceSub, Nat.reduceMul, Nat.reduceLeDiff, Nat.reduceEqDiff, Nat.reduceGT, Nat.reduceBEq, reduceCtorEq, ↓reduceIte, Int.reduceToNat, Int.reduceLE, Int.reduceLT, Int.reduceNe, Int.reduceEq]
    · unfold snS
      simp (maxDischargeDepth := 12) (maxSteps := 1000000) -implicitDefEqProofs only [go_sem, Nat.reduceAdd, Nat.reduceSub, Nat.reduceMul, Nat.reduceLeDiff, Nat.reduceEqDiff, Nat.reduceGT, Nat.reduceBEq, reduceCtorEq, ↓reduceIte, Int.reduceToNat, Int.reduceLE, Int.reduceLT, Int.reduceNe, Int.reduceEq, List.map_append, List.map_cons, List.map_nil]
  | none =>
    have h : ¬ ixH l lv n < l.length := by have := List.getElem?_eq_none_iff.1 hx; omega
    have e : fnH l lv n = -1 := by unfold fnH; rw [if_neg h]
    rw [e] at hf
    refine fnS [] mx Try.func12 rfl rfl (by kernel_rfl) ?_; simp (maxDischargeDepth := 12) (maxSteps := 1000000) -implicitDefEqProofs only [Try.ntmps12, go_sem, Nat.reduceAdd, Nat.reduceSub, Nat.reduceMul, Nat.reduceLeDiff, Nat.reduceEqDiff, Nat.reduceGT, Nat.reduceBEq, reduceCtorEq, ↓reduceIte, Int.reduceToNat, Int.reduceLE, Int.reduceLT, Int.reduceNe, Int.reduceEq]
    refine use1 (hf _) ?_
    simp (maxDischargeDepth := 12) (maxSteps := 1000000) -implicitDefEqProofs only [go_sem, Nat.reduceAdd, Nat.reduceSub, Nat.reduceMul, Nat.reduceLeDiff, Nat.reduceEqDiff, Nat.reduceGT, Nat.reduceBEq, reduceCtorEq, ↓reduceIte, Int.reduceToNat, Int.reduceLE, Int.reduceLT, Int.reduceNe, Int.reduceEq]
/-- A snapshot is let go. -/
def lfL (x : Int) (l : List Int) : List Int := l.filter fun y => !decide (y = x)
def unH (l : List RH) (lv n x : Int) : List RH × Bool := match l[ixH l lv n]? with
  | some s => if (lfL x s.sn).length = s.sn.length then (l, false) else (l.set (ixH l lv n) ⟨s.lv, s.n, lfL x s.sn, s.last, s.gone⟩, true)
  | none => (l, false)
theorem lfL_succ {l : List Int} {x : Int} {k : Nat} {c : Int} (h : l[k]? = some c) : lfL x (l.take (k + 1)) = lfL x (l.take k) ++ if c = x then [] else [c] := by
  unfold lfL
  rw [List.take_add_one, h, Option.toList_some, List.filter_append]
  congr 1
  by_cases e : c = x <;> simp [e]
theorem lfL_take (l : List Int) (x : Int) (k : Nat) : (lfL x (l.take k)).length ≤ k := by
  have := List.length_filter_le (fun y => !decide (y = x)) (l.take k)
  rw [List.length_take] at this
  unfold lfL; omega
set_option maxHeartbeats 4000000 in
theorem rUnsnapH (w0 : W0) (l : List RH) (lv n x : Int) (S : St) (hl : l.length ≤ 1000000) (hs : ∀ s, s ∈ l → s.sn.length ≤ 1000000) : ACall Try.prog w0 14 [.sl 5 false (l.map dRH), dI lv, dI n, dI x] S (fun d S' => d = .tup [.sl 5 false ((unH l lv n x).1.map dRH), dB (unH l lv n x).2] ∧ S' = S) := by
  have hf := fun S => findH w0 l lv n S (by omega)
  have hw := fun i s S hi => withH w0 l i s S hl hi
  have hm8 : maxLen = 9223372036854775807 := rfl
  unfold unH
  cases hx : l[ixH l lv n]? with
  | some s =>
    have h := (List.getElem?_eq_some_iff.1 hx).1
    have b1 := hs s (List.mem_of_getElem? hx)
    have e : fnH l lv n = (ixH l lv n : Int) := by unfold fnH; rw [if_pos h]
    rw [e] at hf
    generalize ixH l lv n = X at *
    simp only
    generalize hR : (if (lfL x s.sn).length = s.sn.length then (l, false) else (l.set X ⟨s.lv, s.n, lfL x s.sn, s.last, s.gone⟩, true)) = R
    refine fnS [14] mx Try.func14 rfl rfl (by kernel_rfl) ?_; simp (maxDischargeDepth := 12) (maxSteps := 1000000) -implicitDefEqProofs only [Try.ntmps14, go_sem, Nat.reduceAdd, Nat.reduceSub, Nat.reduceMul, Nat.reduceLeDiff, Nat.reduceEqDiff, Nat.reduceGT, Nat.reduceBEq, reduceCtorEq, ↓reduceIte, Int.reduceToNat, Int.reduceLE, Int.reduceLT, Int.reduceNe, Int.reduceEq]
    refine use1 (hf _) ?_
    simp (maxDischargeDepth := 12) (maxSteps := 1000000) -implicitDefEqProofs only [go_sem, Nat.reduceAdd, Nat.reduceSub, Nat.reduceMul, Nat.reduceLeDiff, Nat.reduceEqDiff, Nat.reduceGT, Nat.reduceBEq, reduceCtorEq, ↓reduceIte, Int.reduceToNat, Int.reduceLE, Int.reduceLT, Int.reduceNe, Int.reduceEq]
    refine ⟨fun h0 => by omega, fun _ => ⟨h, fun a ha b => ?_⟩⟩
    cases getE hx ha
    refine growK 12 1 rfl (by omega) fun la => ?_
    simp (maxDischargeDepth := 12) (maxSteps := 1000000) -implicitDefEqProofs only [go_sem, Nat.reduceAdd, Nat.reduceSub, Nat.reduceMul, Nat.reduceLeDiff, Nat.reduceEqDiff, Nat.reduceGT, Nat.reduceBEq, reduceCtorEq, ↓reduceIte, Int.reduceToNat, Int.reduceLE, Int.reduceLT, Int.reduceNe, Int.reduceEq]
    refine loopN [14] s.sn.length [0, 3, 10, 11, 12, 13] (fun k => [(12, .acc la.n (lfL x (s.sn.take k)).length), (13, dI k)]) (fun k => ⟨(b.n, [dI s.lv, dI s.n, .sl 1 false (s.sn.map dI), dI s.last, dB s.gone]) :: S.box, (la.n, .arr 1 ((lfL x (s.sn.take k)).map dI)) :: S.acc⟩) (fun _ => True) mx (by kernel_rfl) ?_ ?_
    · simp (maxDischargeDepth := 12) (maxSteps := 1000000) -implicitDefEqProofs only [go_sem, Nat.reduceAdd, Nat.reduceSub, Nat.reduceMul, Nat.reduceLeDiff, Nat.reduceEqDiff, Nat.reduceGT, Nat.reduceBEq, reduceCtorEq, ↓reduceIte, Int.reduceToNat, Int.reduceLE, Int.reduceLT, Int.reduceNe, Int.reduceEq]
      exact ⟨.refl _, .refl _⟩
    · intro k hk _
      have hft := lfL_take s.sn x k
      simp (maxDischargeDepth := 12) (maxSteps := 1000000) -implicitDefEqProofs only [go_sem, Nat.reduceAdd, Nat.reduceSub, Nat.reduceMul, Nat.reduceLeDiff, Nat.reduceEqDiff, Nat.reduceGT, Nat.reduceBEq, reduceCtorEq, ↓reduceIte, Int.reduceToNat, Int.reduceLE, Int.reduceLT, Int.reduceNe, Int.reduceEq]
      refine ⟨fun hlt => ⟨hlt, fun c hc => ?_⟩, fun hge => ?_⟩
      · have hsu := lfL_succ (x := x) hc
        refine ⟨fun e1 => ⟨hlt, fun a ha => ?_⟩, fun e1 => ?_⟩
        · cases getE hc ha
          rw [if_neg e1] at hsu
          rw [hsu, List.length_append, List.map_append]
          exact ⟨by omega, by omega, hlt, ⟨.refl _, i_oneH k (by omega)⟩, .refl _⟩
        · rw [if_pos (Decidable.not_not.1 e1), List.append_nil] at hsu
          rw [hsu]
          exact ⟨hlt, ⟨.refl _, i_oneH k (by omega)⟩, .refl _⟩
      · have hkl : k = s.sn.length := by omega
        have htl : s.sn.take k = s.sn := List.take_of_length_le (by omega)
        rw [htl]
        refine ⟨fun e1 => ?_, fun e1 => ?_⟩
        · rw [if_pos e1] at hR
          subst hR
          exact .refl _
        · rw [if_neg e1] at hR
          subst hR
          have hlen : ((lfL x s.sn).map dI).length = (lfL x s.sn).length := List.length_map _
          refine shrB b.n 2 (l := la.n) (s := 1) (xs := (lfL x s.sn).map dI) (ds := [dI s.lv, dI s.n, .acc la.n (lfL x s.sn).length, dI s.last, dB s.gone]) (by simp (maxDischargeDepth := 12) (maxSteps := 1000000) -implicitDefEqProofs only [go_sem, Nat.reduceAdd, Nat.reduceSub, Nat.reduceMul, Nat.reduceLeDiff, Nat.reduceEqDiff, Nat.reduceGT, Nat.reduceBEq, reduceCtorEq, ↓reduceIte, Int.reduceToNat, Int.reduceLE, Int.reduceLT, Int.reduceNe, Int.reduceEq]) (by rw [hlen]; rfl) (by simp (maxDischargeDepth := 12) (maxSteps := 1000000) -implicitDefEqProofs only [go_sem, Nat.reduceAdd, Nat.reduceSub, Nat.reduceMul, Nat.reduceLeDiff, Nat.reduceEqDiff, Nat.reduceGT, Nat.reduceBEq, reduceCtorEq, ↓reduceIte, Int.reduceToNat, Int.reduceLE, Int.reduceLT, Int.reduceNe, Int.reduceEq]) ?_
          simp (maxDischargeDepth := 12) (maxSteps := 1000000) -implicitDefEqProofs only [go_sem, Nat.reduceAdd, Nat.reduceSub, Nat.reduceMul, Nat.reduceLeDiff, Nat.reduceEqDiff, Nat.reduceGT, Nat.reduceBEq, reduceCtorEq, ↓reduceIte, Int.reduceToNat, Int.reduceLE, Int.reduceLT, Int.reduceNe, Int.reduceEq]
          refine shrK [] [] mx (by kernel_rfl) ?_
          simp (maxDischargeDepth := 12) (maxSteps := 1000000) -implicitDefEqProofs only [go_sem, Nat.reduceAdd, Nat.reduceSub, Nat.reduceMul, Nat.reduceLeDiff, Nat.reduceEqDiff, Nat.reduceGT, Nat.reduceBEq, reduceCtorEq, ↓reduceIte, Int.reduceToNat, Int.reduceLE, Int.reduceLT, Int.reduceNe, Int.reduceEq]
          refine use1 (hw X ⟨s.lv, s.n, lfL x s.sn, s.last, s.gone⟩ _ h) ?_
          simp (maxDischargeDepth := 12) (maxSteps := 1000000) -implicitDefEqProofs only [go_sem, Nat.reduceAdd, Nat.reduceSub, Nat.reduceMul, Nat.reduceLeDiff, Nat.reduceEqDiff, Nat.reduceGT, Nat.reduceBEq, reduceCtorEq, ↓reduceIte, Int.reduceToNat, Int.reduceLE, Int.reduceLT, Int.reduceNe, Int.reduceEq]
  | none =>
    have h : ¬ ixH l lv n < l.length := by have := List.getElem?_eq_none_iff.1 hx; omega
    have e : fnH l lv n = -1 := by unfold fnH; rw [if_neg h]
    rw [e] at hf
    refine fnS [] mx Try.func14 rfl rfl (by kernel_rfl) ?_; simp (maxDischargeDepth := 12) (maxSteps := 1000000) -implicitDefEqProofs only [Try.ntmps14, go_sem, Nat.reduceAdd, Nat.reduceSub, Nat.reduceMul, Nat.reduceLeDiff, Nat.reduceEqDiff, Nat.reduceGT, Nat.reduceBEq, reduceCtorEq, ↓reduceIte, Int.reduceToNat, Int.reduceLE, Int.reduceLT, Int.reduceNe, Int.reduceEq]
    refine use1 (hf _) ?_
    simp (maxDischargeDepth := 12) (maxSteps := 1000000) -implicitDefEqProofs only [go_sem, Nat.reduceAdd, Nat.reduceSub, Nat.reduceMul, Nat.reduceLeDiff, Nat.reduceEqDiff, Nat.reduceGT, Nat.reduceBEq, reduceCtorEq, ↓reduceIte, Int.reduceToNat, Int.reduceLE, Int.reduceLT, Int.reduceNe, Int.reduceEq]
end Go.Proofs.Ytodndiioekjjoaa

namespace Go.Proofs.Ytodndiioekjjoaa
open Aml Go
set_option linter.unusedVariables false
set_option linter.unusedSimpArgs false
set_option maxRecDepth 100000
def ssH (l : List RH) (lv n : Int) : List Int := match l[ixH l lv n]? with
  | some s => s.sn
  | none => []
set_option maxHeartbeats 4000000 in
theorem rSnapsH (w0 : W0) (l : List RH) (lv n : Int) (S : St) (hl : l.length ≤ 1000000) : ACall Try.prog w0 23 [.sl 5 false (l.map dRH), dI lv, dI n] S (fun d S' => d = dL (ssH l lv n) ∧ S' = S) := by
  have hf := fun S => findH w0 l lv n S (by omega)
  unfold ssH
  cases hx : l[ixH l lv n]? with
  | some s =>
    have h := (List.getElem?_eq_some_iff.1 hx).1
    have e : fnH l lv n = (ixH l lv n : Int) := by unfold fnH; rw [if_pos h]
    rw [e] at hf
    generalize ixH l lv n = X at *
    refine fnS [] mx Try.func23 rfl rfl (by kernel_rfl) ?_; simp (maxDischargeDepth := 12) (maxSteps := 1000000) -implicitDefEqProofs only [Try.ntmps23, go_sem, Nat.reduceAdd, Nat.reduceSub, Nat.reduceMul, Nat.reduceLeDiff, Nat.reduceEqDiff, Nat.reduceGT, Nat.reduceBEq, reduceCtorEq, ↓reduceIte, Int.reduceToNat, Int.reduceLE, Int.reduceLT, Int.reduceNe, Int.reduceEq]
    refine use1 (hf _) ?_
    simp (maxDischargeDepth := 12) (maxSteps := 1000000) -implicitDefEqProofs only [go_sem, Nat.reduceAdd, Nat.reduceSub, Nat.reduceMul, Nat.reduceLeDiff, Nat.reduceEqDiff, Nat.reduceGT, Nat.reduceBEq, reduceCtorEq, ↓reduceIte, Int.reduceToNat, Int.reduceLE, Int.reduceLT, Int.reduceNe, Int.reduceEq]
    refine ⟨fun h0 => by omega, fun _ => ⟨h, fun a ha => ?_⟩⟩
    cases getE hx ha
    exact .refl _
  | none =>
    have h : ¬ ixH l lv n < l.length := by have := List.getElem?_eq_none_iff.1 hx; omega
    have e : fnH l lv n = -1 := by unfold fnH; rw [if_neg h]
    rw [e] at hf
    refine fnS [] mx Try.func23 rfl rfl (by kernel_rfl) ?_; simp (maxDischargeDepth := 12) (maxSteps := 1000000) -implicitDefEqProofs only [Try.ntmps23, go_sem, Nat.reduceAdd, Nat.reduceSub, Nat.reduceMul, Nat.reduceLeDiff, Nat.reduceEqDiff, Nat.reduceGT, Nat.reduceBEq, reduceCtorEq, ↓reduceIte, Int.reduceToNat, Int.reduceLE, Int.reduceLT, Int.reduceNe, Int.reduceEq]
    refine use1 (hf _) ?_
    simp (maxDischargeDepth := 12) (maxSteps := 1000000) -implicitDefEqProofs only [go_sem, Nat.reduceAdd, Nat.reduceSub, Nat.reduceMul, Nat.reduceLeDiff, Nat.reduceEqDiff, Nat.reduceGT, Nat.reduceBEq, reduceCtorEq, ↓reduceIte, Int.reduceToNat, Int.reduceLE, Int.reduceLT, Int.reduceNe, Int.reduceEq]
/-- By level, then by number. -/
def ltH (a b : RH) : Bool := decide (a.lv < b.lv) || (decide (a.lv = b.lv) && decide (a.n < b.n))
def atH (l : List RH) (c : RH) : Nat := l.findIdx fun a => !ltH a c
def insH (l : List RH) (c : RH) : List RH := l.take (atH l c) ++ c :: l.drop (atH l c)
def stepA (l : List RH) (c : RH) : List RH := if c.gone then l else insH l c
def allH (l : List RH) : List RH := l.foldl stepA []
theorem allH_succ {l : List RH} {k : Nat} {c : RH} (h : l[k]? = some c) : allH (l.take (k + 1)) = stepA (allH (l.take k)) c := by
  unfold allH
  rw [List.take_add_one, h, Option.toList_some, List.foldl_append]; rfl
theorem stepA_len (l : List RH) (c : RH) : (stepA l c).length ≤ l.length + 1 := by
  unfold stepA insH
  split
  · omega
  · rw [List.length_append, List.length_cons, List.length_take, List.length_drop]; omega
theorem allH_len : ∀ (l : List RH) (k : Nat), (allH (l.take k)).length ≤ k
  | l, 0 => by rw [List.take_zero]; exact Nat.le_refl _
  | l, k + 1 => by
    have h1 := allH_len l k
    cases h : l[k]? with
    | some c =>
      rw [allH_succ h]
      have := stepA_len (allH (l.take k)) c
      omega
    | none =>
      rw [List.take_of_length_le (by have := List.getElem?_eq_none_iff.1 h; omega)]
      rw [List.take_of_length_le (by have := List.getElem?_eq_none_iff.1 h; omega)] at h1
      omega
theorem atH_at {l : List RH} {c : RH} {k : Nat} (hk : k ≤ l.length) (h1 : ∀ (j : Nat) a, j < k → l[j]? = some a → ltH a c = true) (h2 : ∀ a, l[k]? = some a → ltH a c = false) : atH l c = k := by
  unfold atH
  rcases Nat.lt_or_ge k l.length with h | h
  · refine (List.findIdx_eq h).2 ⟨by rw [h2 _ (List.getElem?_eq_getElem h)]; rfl, fun j hj => ?_⟩
    have := h1 j _ hj (List.getElem?_eq_getElem (by omega))
    rw [this]; rfl
  · have : k = l.length := by omega
    rw [this]
    refine List.findIdx_eq_length_of_false fun x hx => ?_
    obtain ⟨j, hj⟩ := List.mem_iff_getElem?.1 hx
    rw [h1 j x (by have := (List.getElem?_eq_some_iff.1 hj).1; omega) hj]; rfl
set_option maxHeartbeats 8000000 in
theorem rAllH (w0 : W0) (l : List RH) (S : St) (hl : l.length ≤ 1000000) : ACall Try.prog w0 18 [.sl 5 false (l.map dRH)] S (fun d S' => d = .sl 5 false ((allH l).map dRH) ∧ S' = S) := by
  have hm8 : maxLen = 9223372036854775807 := rfl
  refine fnS [] mx Try.func18 rfl rfl (by kernel_rfl) ?_; simp (maxDischargeDepth := 12) (maxSteps := 1000000) -implicitDefEqProofs only [Try.ntmps18, go_sem, Nat.reduceAdd, Nat.reduceSub, Nat.reduceMul, Nat.reduceLeDiff, Nat.reduceEqDiff, Nat.reduceGT, Nat.reduceBEq, reduceCtorEq, ↓reduceIte, Int.reduceToNat, Int.reduceLE, Int.reduceLT, Int.reduceNe, Int.reduceEq]
  refine loopNZ [] [3] l.length [0, 3, 4] (fun k => [(3, .sl 5 false ((allH (l.take k)).map dRH)), (4, dI k)]) (fun _ => S) (fun _ => True) mx (by kernel_rfl) ?_ ?_
  · simp (maxDischargeDepth := 12) (maxSteps := 1000000) -implicitDefEqProofs only [go_sem, Nat.reduceAdd, Nat.reduceSub, Nat.reduceMul, Nat.reduceLeDiff, Nat.reduceEqDiff, Nat.reduceGT, Nat.reduceBEq, reduceCtorEq, ↓reduceIte, Int.reduceToNat, Int.reduceLE, Int.reduceLT, Int.reduceNe, Int.reduceEq]
    exact .nil _ _ _
  · intro k hk _
    have hal := allH_len l k
    have hsu := fun c => allH_succ (l := l) (k := k) (c := c)
    have hend : ¬ k < l.length → allH (l.take k) = allH l := fun h => by rw [List.take_of_length_le (by omega)]
    generalize allH (l.take (k + 1)) = A2 at *
    generalize allH (l.take k) = A at *
    simp (maxDischargeDepth := 12) (maxSteps := 1000000) -implicitDefEqProofs only [go_sem, Nat.reduceAdd, Nat.reduceSub, Nat.reduceMul, Nat.reduceLeDiff, Nat.reduceEqDiff, Nat.reduceGT, Nat.reduceBEq, reduceCtorEq, ↓reduceIte, Int.reduceToNat, Int.reduceLE, Int.reduceLT, Int.reduceNe, Int.reduceEq]
    refine ⟨fun hlt => ⟨hlt, fun c hc => ⟨fun hg => ?_, fun hg => ?_⟩⟩, fun hge => ?_⟩
    · rw [hsu c hc]
      unfold stepA
      rw [if_pos hg]
      exact ⟨hlt, .refl _, i_oneH k (by omega)⟩
    · have h2 := hsu c hc
      unfold stepA at h2
      rw [if_neg (by rw [hg]; simp)] at h2
      refine loopN [] A.length [0, 3, 4, 5] (fun j => [(5, dI j)]) (fun _ => S) (fun j => ∀ (i : Nat) a, i < j → A[i]? = some a → ltH a c = true) mx (by kernel_rfl) ?_ ?_
      · simp (maxDischargeDepth := 12) (maxSteps := 1000000) -implicitDefEqProofs only [go_sem, Nat.reduceAdd, Nat.reduceSub, Nat.reduceMul, Nat.reduceLeDiff, Nat.reduceEqDiff, Nat.reduceGT, Nat.reduceBEq, reduceCtorEq, ↓reduceIte, Int.reduceToNat, Int.reduceLE, Int.reduceLT, Int.reduceNe, Int.reduceEq]
        exact fun i a h => absurd h (by omega)
      · intro j hj hinv
        have nx : (∀ a, A[j]? = some a → ltH a c = true) → ∀ (i : Nat) a, i < j + 1 → A[i]? = some a → ltH a c = true := fun h i a hi ha => by
          rcases Nat.lt_or_ge i j with h1 | h1
          · exact hinv i a h1 ha
          · have : i = j := by omega
            subst this
            exact h a ha
        have fin : (∀ a, A[j]? = some a → ltH a c = false) → A2 = A.take j ++ c :: A.drop j := fun h => by
          rw [h2]
          unfold insH
          rw [atH_at hj hinv h]
        have hw : (∀ a, A[j]? = some a → ltH a c = false) → Wk (.sl 5 false ((A.take j).map dRH ++ [dRH c] ++ (A.drop j).map dRH)) (.sl 5 false (A2.map dRH)) := fun h => by
          rw [fin h]
          exact .eq (by simp)
        simp (maxDischargeDepth := 12) (maxSteps := 1000000) -implicitDefEqProofs only [go_sem, Nat.reduceAdd, Nat.reduceSub, Nat.reduceMul, Nat.reduceLeDiff, Nat.reduceEqDiff, Nat.reduceGT, Nat.reduceBEq, reduceCtorEq, ↓reduceIte, Int.reduceToNat, Int.reduceLE, Int.reduceLT, Int.reduceNe, Int.reduceEq]
        refine ⟨fun h1 => ⟨h1, fun a ha => ⟨hlt, fun a2 ha2 => ?_⟩⟩, fun h1 => ?_⟩
        · cases getE hc ha2
          refine ⟨fun e1 => ⟨h1, nx fun b hb => ?_, i_oneH j (by omega)⟩, fun e1 => ⟨h1, fun a3 ha3 => ⟨hlt, fun a4 ha4 => ?_⟩⟩⟩
          · cases getE ha hb
            unfold ltH; simp [e1]
          · cases getE ha ha3
            cases getE hc ha4
            refine ⟨fun e2 => ⟨h1, fun a5 ha5 => ⟨hlt, fun a6 ha6 => ?_⟩⟩, fun e2 => ?_⟩
            · cases getE ha ha5
              cases getE hc ha6
              refine ⟨fun e3 => ⟨h1, nx fun b hb => ?_, i_oneH j (by omega)⟩, fun e3 => ?_⟩
              · cases getE ha hb
                unfold ltH; simp [e2, e3]
              · refine ⟨by omega, by omega, by omega, fun b => ⟨hlt, fun a7 ha7 => ⟨by omega, by omega, by omega, by omega, by omega, hlt, ?_, i_oneH k (by omega)⟩⟩⟩
                cases getE hc ha7
                exact hw fun b hb => by cases getE ha hb; unfold ltH; simp [e1, e3]
            · refine ⟨by omega, by omega, by omega, fun b => ⟨hlt, fun a7 ha7 => ⟨by omega, by omega, by omega, by omega, by omega, hlt, ?_, i_oneH k (by omega)⟩⟩⟩
              cases getE hc ha7
              exact hw fun b hb => by cases getE ha hb; unfold ltH; simp [e1, e2]
        · refine ⟨by omega, by omega, by omega, fun b => ⟨hlt, fun a7 ha7 => ⟨by omega, by omega, by omega, by omega, by omega, hlt, ?_, i_oneH k (by omega)⟩⟩⟩
          cases getE hc ha7
          exact hw fun b hb => absurd (List.getElem?_eq_some_iff.1 hb).1 h1
    · rw [hend hge]
      exact .refl _
end Go.Proofs.Ytodndiioekjjoaa

namespace Go.Proofs.Ytodndiioekjjoaa
open Aml Go
set_option linter.unusedVariables false
set_option linter.unusedSimpArgs false
set_option maxRecDepth 100000
section
variable (S : St) (l : Nat) (K : DV → St → Prop)
theorem m_okE : okE (.mp l) = true := rfl
theorem m_nacc : naccA (.mp l) = true := rfl
theorem m_cd : cd (.mp l) = [.mp l] := rfl
theorem m_shr1 : shr1 S (.mp l) K = K (.mp l) S := rfl
theorem m_shr : shr S (.mp l) K = K (.mp l) S := rfl
theorem m_shrT : shrT S (.mp l) K = K (.mp l) S := rfl
end
attribute [go_sem] m_okE m_cd m_nacc
attribute [go_sem ↓] m_shr1 m_shr m_shrT
/-- A handle, as a key. -/
def kyH (lv n : Int) : Value := .agg [Value.int .i64 lv, .int .i64 n].toArray
@[go_sem] def ptH (b : Nat) : DV := .v (.pointer (some ⟨b, 0, none⟩))
@[go_sem] def dHd (lv n : Int) : DV := .agg [dI lv, dI n]
theorem lk_of_up {α : Type} {L : List (Nat × α)} {b c : Nat} {v : α} (h : lk (up L b v) c = none) : lk L c = none := by
  by_cases e : b = c
  · subst e
    rw [lk_up_same] at h
    cases hl : lk L b with
    | none => rfl
    | some x => rw [hl] at h; cases h
  · rw [lk_up_ne e] at h; exact h
/-- A table's maps: numbers by level, sessions by handles. -/
structure TbM (S : St) (t l1 l2 : Nat) (es1 : List (Value × DV × Nat)) (c1 : Nat) (es2 : List (Value × DV × Nat)) (c2 : Nat) : Prop where
  tb : lk S.box t = some [.mp l1, .mp l2]
  m1 : lk S.acc l1 = some (.xo (.mp (.int .i64) es1 c1))
  m2 : lk S.acc l2 = some (.xo (.mp (.st [.i64, .i64]) es2 c2))
/-- A session's pointer, or none. -/
def pnH (o : Option Nat) : DV := match o with
  | some b => ptH b
  | none => .v (.pointer none)
set_option maxHeartbeats 4000000 in
theorem ofP (w0 : W0) {S : St} {t l1 l2 : Nat} {es1 : List (Value × DV × Nat)} {c1 : Nat} {es2 : List (Value × DV × Nat)} {c2 : Nat} (h : TbM S t l1 l2 es1 c1 es2 c2) (lv n : Int) (o : Option Nat) (hg : mGet es2 (kyH lv n) = o.map ptH) :
    ACall Try.prog w0 25 [ptH t, dHd lv n] S (fun d S' => d = pnH o ∧ S' = S) := by
  have h1 := h.tb
  have h2 := h.m2
  unfold kyH at hg
  cases o with
  | some c =>
    simp only [Option.map_some] at hg
    unfold pnH
    refine fnS [] mx Try.func25 rfl rfl (by kernel_rfl) ?_; simp (maxDischargeDepth := 12) (maxSteps := 1000000) -implicitDefEqProofs only [Try.ntmps25, go_sem, Nat.reduceAdd, Nat.reduceSub, Nat.reduceMul, Nat.reduceLeDiff, Nat.reduceEqDiff, Nat.reduceGT, Nat.reduceBEq, reduceCtorEq, ↓reduceIte, Int.reduceToNat, Int.reduceLE, Int.reduceLT, Int.reduceNe, Int.reduceEq]
    intro b
    simp (maxDischargeDepth := 12) (maxSteps := 1000000) -implicitDefEqProofs only [go_sem, Nat.reduceAdd, Nat.reduceSub, Nat.reduceMul, Nat.reduceLeDiff, Nat.reduceEqDiff, Nat.reduceGT, Nat.reduceBEq, reduceCtorEq, ↓reduceIte, Int.reduceToNat, Int.reduceLE, Int.reduceLT, Int.reduceNe, Int.reduceEq, h1, h2, hg]
  | none =>
    simp only [Option.map_none] at hg
    unfold pnH
    refine fnS [] mx Try.func25 rfl rfl (by kernel_rfl) ?_; simp (maxDischargeDepth := 12) (maxSteps := 1000000) -implicitDefEqProofs only [Try.ntmps25, go_sem, Nat.reduceAdd, Nat.reduceSub, Nat.reduceMul, Nat.reduceLeDiff, Nat.reduceEqDiff, Nat.reduceGT, Nat.reduceBEq, reduceCtorEq, ↓reduceIte, Int.reduceToNat, Int.reduceLE, Int.reduceLT, Int.reduceNe, Int.reduceEq]
    intro b
    simp (maxDischargeDepth := 12) (maxSteps := 1000000) -implicitDefEqProofs only [go_sem, Nat.reduceAdd, Nat.reduceSub, Nat.reduceMul, Nat.reduceLeDiff, Nat.reduceEqDiff, Nat.reduceGT, Nat.reduceBEq, reduceCtorEq, ↓reduceIte, Int.reduceToNat, Int.reduceLE, Int.reduceLT, Int.reduceNe, Int.reduceEq, h1, h2, hg]
set_option maxHeartbeats 4000000 in
theorem hasP (w0 : W0) {S : St} {t l1 l2 : Nat} {es1 : List (Value × DV × Nat)} {c1 : Nat} {es2 : List (Value × DV × Nat)} {c2 : Nat} (h : TbM S t l1 l2 es1 c1 es2 c2) (lv n : Int) (o : Option Nat) (hg : mGet es2 (kyH lv n) = o.map ptH) :
    ACall Try.prog w0 19 [ptH t, dHd lv n] S (fun d S' => d = dB o.isSome ∧ S' = S) := by
  have ho := fun T (hT : TbM T t l1 l2 es1 c1 es2 c2) => ofP w0 hT lv n o hg
  refine fnS [] mx Try.func19 rfl rfl (by kernel_rfl) ?_; simp (maxDischargeDepth := 12) (maxSteps := 1000000) -implicitDefEqProofs only [Try.ntmps19, go_sem, Nat.reduceAdd, Nat.reduceSub, Nat.reduceMul, Nat.reduceLeDiff, Nat.reduceEqDiff, Nat.reduceGT, Nat.reduceBEq, reduceCtorEq, ↓reduceIte, Int.reduceToNat, Int.reduceLE, Int.reduceLT, Int.reduceNe, Int.reduceEq]
  intro b
  refine use1 (ho _ ⟨by simp (maxDischargeDepth := 12) (maxSteps := 1000000) -implicitDefEqProofs only [go_sem, Nat.reduceAdd, Nat.reduceSub, Nat.reduceMul, Nat.reduceLeDiff, Nat.reduceEqDiff, Nat.reduceGT, Nat.reduceBEq, reduceCtorEq, ↓reduceIte, Int.reduceToNat, Int.reduceLE, Int.reduceLT, Int.reduceNe, Int.reduceEq, h.tb], h.m1, h.m2⟩) ?_
  unfold pnH
  cases o <;> simp (maxDischargeDepth := 12) (maxSteps := 1000000) -implicitDefEqProofs only [go_sem, Nat.reduceAdd, Nat.reduceSub, Nat.reduceMul, Nat.reduceLeDiff, Nat.reduceEqDiff, Nat.reduceGT, Nat.reduceBEq, reduceCtorEq, ↓reduceIte, Int.reduceToNat, Int.reduceLE, Int.reduceLT, Int.reduceNe, Int.reduceEq]
set_option maxHeartbeats 4000000 in
theorem closeP (w0 : W0) {S : St} {t l1 l2 : Nat} {es1 : List (Value × DV × Nat)} {c1 : Nat} {es2 : List (Value × DV × Nat)} {c2 : Nat} (h : TbM S t l1 l2 es1 c1 es2 c2) (lv n : Int) (o : Option Nat) (hg : mGet es2 (kyH lv n) = o.map ptH) :
    ACall Try.prog w0 11 [ptH t, dHd lv n] S (fun d S' => d = dB o.isSome ∧ S' = if o.isSome then ⟨S.box, up S.acc l2 (.xo (.mp (.st [.i64, .i64]) (mDel es2 (kyH lv n)) c2))⟩ else S) := by
  have ho := fun T (hT : TbM T t l1 l2 es1 c1 es2 c2) => hasP w0 hT lv n o hg
  have h1 := h.tb
  have h2 := h.m2
  unfold kyH
  refine fnP [] mx Try.func11 rfl rfl (by kernel_rfl) ?_; simp (maxDischargeDepth := 12) (maxSteps := 1000000) -implicitDefEqProofs only [Try.ntmps11, go_sem, Nat.reduceAdd, Nat.reduceSub, Nat.reduceMul, Nat.reduceLeDiff, Nat.reduceEqDiff, Nat.reduceGT, Nat.reduceBEq, reduceCtorEq, ↓reduceIte, Int.reduceToNat, Int.reduceLE, Int.reduceLT, Int.reduceNe, Int.reduceEq]
  intro b
  refine use1 (ho _ ⟨by simp (maxDischargeDepth := 12) (maxSteps := 1000000) -implicitDefEqProofs only [go_sem, Nat.reduceAdd, Nat.reduceSub, Nat.reduceMul, Nat.reduceLeDiff, Nat.reduceEqDiff, Nat.reduceGT, Nat.reduceBEq, reduceCtorEq, ↓reduceIte, Int.reduceToNat, Int.reduceLE, Int.reduceLT, Int.reduceNe, Int.reduceEq, h.tb], h.m1, h.m2⟩) ?_
  cases o with
  | none =>
    simp (maxDischargeDepth := 12) (maxSteps := 1000000) -implicitDefEqProofs only [go_sem, Nat.reduceAdd, Nat.reduceSub, Nat.reduceMul, Nat.reduceLeDiff, Nat.reduceEqDiff, Nat.reduceGT, Nat.reduceBEq, reduceCtorEq, ↓reduceIte, Int.reduceToNat, Int.reduceLE, Int.reduceLT, Int.reduceNe, Int.reduceEq]
    exact ⟨_, _, .refl _, .consB (.refl _), rfl, rfl⟩
  | some c =>
    simp (maxDischargeDepth := 12) (maxSteps := 1000000) -implicitDefEqProofs only [go_sem, Nat.reduceAdd, Nat.reduceSub, Nat.reduceMul, Nat.reduceLeDiff, Nat.reduceEqDiff, Nat.reduceGT, Nat.reduceBEq, reduceCtorEq, ↓reduceIte, Int.reduceToNat, Int.reduceLE, Int.reduceLT, Int.reduceNe, Int.reduceEq, h1, h2]
    exact ⟨_, _, .refl _, .consB (.refl _), rfl, rfl⟩
set_option maxHeartbeats 4000000 in
theorem newP (w0 : W0) (S : St) : ACall Try.prog w0 7 [] S (fun d S' => ∃ (l1 : FN S.acc) (l2 : FN ((l1.n, .xo (.mp (.int .i64) [] 0)) :: S.acc)) (t : FN S.box), d = ptH t.n ∧ S' = ⟨(t.n, [.mp l1.n, .mp l2.n]) :: S.box, (l2.n, .xo (.mp (.st [.i64, .i64]) [] 0)) :: (l1.n, .xo (.mp (.int .i64) [] 0)) :: S.acc⟩) := by
  refine fnO [] mx Try.func7 rfl rfl (by kernel_rfl) ?_; simp (maxDischargeDepth := 12) (maxSteps := 1000000) -implicitDefEqProofs only [Try.ntmps7, go_sem, Nat.reduceAdd, Nat.reduceSub, Nat.reduceMul, Nat.reduceLeDiff, Nat.reduceEqDiff, Nat.reduceGT, Nat.reduceBEq, reduceCtorEq, ↓reduceIte, Int.reduceToNat, Int.reduceLE, Int.reduceLT, Int.reduceNe, Int.reduceEq]
  exact fun l1 l2 t => ⟨l1, l2, t, rfl, rfl⟩
set_option maxHeartbeats 4000000 in
theorem snapP (w0 : W0) {S : St} {t l1 l2 : Nat} {es1 : List (Value × DV × Nat)} {c1 : Nat} {es2 : List (Value × DV × Nat)} {c2 : Nat} (h : TbM S t l1 l2 es1 c1 es2 c2) (lv n : Int) (b m : Nat) (hg : mGet es2 (kyH lv n) = some (ptH b)) (la : Int) (es : List (Value × DV × Nat)) (c : Nat)
    (hb : lk S.box b = some [dI la, .mp m]) (hm : lk S.acc m = some (.xo (.mp (.int .i64) es c))) (hn : mGet es (.int .i64 (la + 1)) = none) (h0 : 0 ≤ la) (h1 : la ≤ 1000000) :
    ACall Try.prog w0 13 [ptH t, dHd lv n] S (fun d S' => d = dI (la + 1) ∧ S' = ⟨up S.box b [dI (la + 1), .mp m], up S.acc m (.xo (.mp (.int .i64) (mSet es c (.int .i64 (la + 1)) (dI 1)) (mClk es c (.int .i64 (la + 1)))))⟩) := by
  have ho := fun T (hT : TbM T t l1 l2 es1 c1 es2 c2) => ofP w0 hT lv n (some b) hg
  have ew : IntKind.i64.wrap (la + 1) = la + 1 := w64 (by omega) (by omega)
  have ez : IntKind.i64.wrap (0 + 1) = 1 := by decide
  refine fnP [] mx Try.func13 rfl rfl (by kernel_rfl) ?_; simp (maxDischargeDepth := 12) (maxSteps := 1000000) -implicitDefEqProofs only [Try.ntmps13, go_sem, Nat.reduceAdd, Nat.reduceSub, Nat.reduceMul, Nat.reduceLeDiff, Nat.reduceEqDiff, Nat.reduceGT, Nat.reduceBEq, reduceCtorEq, ↓reduceIte, Int.reduceToNat, Int.reduceLE, Int.reduceLT, Int.reduceNe, Int.reduceEq]
  intro b3
  refine use1 (ho _ ⟨by simp (maxDischargeDepth := 12) (maxSteps := 1000000) -implicitDefEqProofs only [go_sem, Nat.reduceAdd, Nat.reduceSub, Nat.reduceMul, Nat.reduceLeDiff, Nat.reduceEqDiff, Nat.reduceGT, Nat.reduceBEq, reduceCtorEq, ↓reduceIte, Int.reduceToNat, Int.reduceLE, Int.reduceLT, Int.reduceNe, Int.reduceEq, h.tb], h.m1, h.m2⟩) ?_
  unfold pnH
  simp (maxDischargeDepth := 12) (maxSteps := 1000000) -implicitDefEqProofs only [go_sem, Nat.reduceAdd, Nat.reduceSub, Nat.reduceMul, Nat.reduceLeDiff, Nat.reduceEqDiff, Nat.reduceGT, Nat.reduceBEq, reduceCtorEq, ↓reduceIte, Int.reduceToNat, Int.reduceLE, Int.reduceLT, Int.reduceNe, Int.reduceEq, hb, hm, ew, ez, hn]
  exact ⟨_, _, .refl _, .consB (.refl _), rfl, rfl⟩
set_option maxHeartbeats 4000000 in
theorem snapP0 (w0 : W0) {S : St} {t l1 l2 : Nat} {es1 : List (Value × DV × Nat)} {c1 : Nat} {es2 : List (Value × DV × Nat)} {c2 : Nat} (h : TbM S t l1 l2 es1 c1 es2 c2) (lv n : Int) (hg : mGet es2 (kyH lv n) = none) :
    ACall Try.prog w0 13 [ptH t, dHd lv n] S (fun d S' => d = dI 0 ∧ S' = S) := by
  have ho := fun T (hT : TbM T t l1 l2 es1 c1 es2 c2) => ofP w0 hT lv n none hg
  refine fnS [] mx Try.func13 rfl rfl (by kernel_rfl) ?_; simp (maxDischargeDepth := 12) (maxSteps := 1000000) -implicitDefEqProofs only [Try.ntmps13, go_sem, Nat.reduceAdd, Nat.reduceSub, Nat.reduceMul, Nat.reduceLeDiff, Nat.reduceEqDiff, Nat.reduceGT, Nat.reduceBEq, reduceCtorEq, ↓reduceIte, Int.reduceToNat, Int.reduceLE, Int.reduceLT, Int.reduceNe, Int.reduceEq]
  intro b3
  refine use1 (ho _ ⟨by simp (maxDischargeDepth := 12) (maxSteps := 1000000) -implicitDefEqProofs only [go_sem, Nat.reduceAdd, Nat.reduceSub, Nat.reduceMul, Nat.reduceLeDiff, Nat.reduceEqDiff, Nat.reduceGT, Nat.reduceBEq, reduceCtorEq, ↓reduceIte, Int.reduceToNat, Int.reduceLE, Int.reduceLT, Int.reduceNe, Int.reduceEq, h.tb], h.m1, h.m2⟩) ?_
  unfold pnH
  simp (maxDischargeDepth := 12) (maxSteps := 1000000) -implicitDefEqProofs only [go_sem, Nat.reduceAdd, Nat.reduceSub, Nat.reduceMul, Nat.reduceLeDiff, Nat.reduceEqDiff, Nat.reduceGT, Nat.reduceBEq, reduceCtorEq, ↓reduceIte, Int.reduceToNat, Int.reduceLE, Int.reduceLT, Int.reduceNe, Int.reduceEq]
set_option maxHeartbeats 4000000 in
theorem unsnapP0 (w0 : W0) {S : St} {t l1 l2 : Nat} {es1 : List (Value × DV × Nat)} {c1 : Nat} {es2 : List (Value × DV × Nat)} {c2 : Nat} (h : TbM S t l1 l2 es1 c1 es2 c2) (lv n x : Int) (hg : mGet es2 (kyH lv n) = none) :
    ACall Try.prog w0 15 [ptH t, dHd lv n, dI x] S (fun d S' => d = dB false ∧ S' = S) := by
  have ho := fun T (hT : TbM T t l1 l2 es1 c1 es2 c2) => ofP w0 hT lv n none hg
  refine fnS [] mx Try.func15 rfl rfl (by kernel_rfl) ?_; simp (maxDischargeDepth := 12) (maxSteps := 1000000) -implicitDefEqProofs only [Try.ntmps15, go_sem, Nat.reduceAdd, Nat.reduceSub, Nat.reduceMul, Nat.reduceLeDiff, Nat.reduceEqDiff, Nat.reduceGT, Nat.reduceBEq, reduceCtorEq, ↓reduceIte, Int.reduceToNat, Int.reduceLE, Int.reduceLT, Int.reduceNe, Int.reduceEq]
  intro b3
  refine use1 (ho _ ⟨by simp (maxDischargeDepth := 12) (maxSteps := 1000000) -implicitDefEqProofs only [go_sem, Nat.reduceAdd, Nat.reduceSub, Nat.reduceMul, Nat.reduceLeDiff, Nat.reduceEqDiff, Nat.reduceGT, Nat.reduceBEq, reduceCtorEq, ↓reduceIte, Int.reduceToNat, Int.reduceLE, Int.reduceLT, Int.reduceNe, Int.reduceEq, h.tb], h.m1, h.m2⟩) ?_
  unfold pnH
  simp (maxDischargeDepth := 12) (maxSteps := 1000000) -implicitDefEqProofs only [go_sem, Nat.reduceAdd, Nat.reduceSub, Nat.reduceMul, Nat.reduceLeDiff, Nat.reduceEqDiff, Nat.reduceGT, Nat.reduceBEq, reduceCtorEq, ↓reduceIte, Int.reduceToNat, Int.reduceLE, Int.reduceLT, Int.reduceNe, Int.reduceEq]
set_option maxHeartbeats 4000000 in
theorem unsnapP (w0 : W0) {S : St} {t l1 l2 : Nat} {es1 : List (Value × DV × Nat)} {c1 : Nat} {es2 : List (Value × DV × Nat)} {c2 : Nat} (h : TbM S t l1 l2 es1 c1 es2 c2) (lv n x : Int) (b m : Nat) (hg : mGet es2 (kyH lv n) = some (ptH b)) (la : Int) (es : List (Value × DV × Nat)) (c : Nat)
    (hb : lk S.box b = some [dI la, .mp m]) (hm : lk S.acc m = some (.xo (.mp (.int .i64) es c))) (r : Bool) (hn : mGet es (.int .i64 x) = if r then some (dI 1) else none) :
    ACall Try.prog w0 15 [ptH t, dHd lv n, dI x] S (fun d S' => d = dB r ∧ S' = if r then ⟨S.box, up S.acc m (.xo (.mp (.int .i64) (mDel es (.int .i64 x)) c))⟩ else S) := by
  have ho := fun T (hT : TbM T t l1 l2 es1 c1 es2 c2) => ofP w0 hT lv n (some b) hg
  refine fnP [] mx Try.func15 rfl rfl (by kernel_rfl) ?_; simp (maxDischargeDepth := 12) (maxSteps := 1000000) -implicitDefEqProofs only [Try.ntmps15, go_sem, Nat.reduceAdd, Nat.reduceSub, Nat.reduceMul, Nat.reduceLeDiff, Nat.reduceEqDiff, Nat.reduceGT, Nat.reduceBEq, reduceCtorEq, ↓reduceIte, Int.reduceToNat, Int.reduceLE, Int.reduceLT, Int.reduceNe, Int.reduceEq]
  intro b3
  refine use1 (ho _ ⟨by simp (maxDischargeDepth := 12) (maxSteps := 1000000) -implicitDefEqProofs only [go_sem, Nat.reduceAdd, Nat.reduceSub, Nat.reduceMul, Nat.reduceLeDiff, Nat.reduceEqDiff, Nat.reduceGT, Nat.reduceBEq, reduceCtorEq, ↓reduceIte, Int.reduceToNat, Int.reduceLE, Int.reduceLT, Int.reduceNe, Int.reduceEq, h.tb], h.m1, h.m2⟩) ?_
  unfold pnH
  cases r with
  | true =>
    simp only [if_true] at hn
    simp (maxDischargeDepth := 12) (maxSteps := 1000000) -implicitDefEqProofs only [go_sem, Nat.reduceAdd, Nat.reduceSub, Nat.reduceMul, Nat.reduceLeDiff, Nat.reduceEqDiff, Nat.reduceGT, Nat.reduceBEq, reduceCtorEq, ↓reduceIte, Int.reduceToNat, Int.reduceLE, Int.reduceLT, Int.reduceNe, Int.reduceEq, hb, hm, hn]
    exact ⟨_, _, .refl _, .consB (.refl _), rfl, rfl⟩
  | false =>
    simp only [if_false, Bool.false_eq_true] at hn
    simp (maxDischargeDepth := 12) (maxSteps := 1000000) -implicitDefEqProofs only [go_sem, Nat.reduceAdd, Nat.reduceSub, Nat.reduceMul, Nat.reduceLeDiff, Nat.reduceEqDiff, Nat.reduceGT, Nat.reduceBEq, reduceCtorEq, ↓reduceIte, Int.reduceToNat, Int.reduceLE, Int.reduceLT, Int.reduceNe, Int.reduceEq, hb, hm, hn]
    exact ⟨_, _, .refl _, .consB (.refl _), rfl, rfl⟩
set_option maxHeartbeats 4000000 in
theorem resetP (w0 : W0) {S : St} {t l1 l2 : Nat} {es1 : List (Value × DV × Nat)} {c1 : Nat} {es2 : List (Value × DV × Nat)} {c2 : Nat} (h : TbM S t l1 l2 es1 c1 es2 c2) (hne : l1 ≠ l2) :
    ACall Try.prog w0 16 [ptH t] S (fun d S' => S' = ⟨S.box, up (up S.acc l1 (.xo (.mp (.int .i64) [] c1))) l2 (.xo (.mp (.st [.i64, .i64]) [] c2))⟩) := by
  have h1 := h.tb
  have h2 := h.m1
  have h3 := h.m2
  have h4 : lk (up S.acc l1 (.xo (.mp (.int .i64) [] c1))) l2 = some (.xo (.mp (.st [.i64, .i64]) es2 c2)) := by rw [lk_up_ne hne]; exact h3
  refine fnO [] mx Try.func16 rfl rfl (by kernel_rfl) ?_; simp (maxDischargeDepth := 12) (maxSteps := 1000000) -implicitDefEqProofs only [Try.ntmps16, go_sem, Nat.reduceAdd, Nat.reduceSub, Nat.reduceMul, Nat.reduceLeDiff, Nat.reduceEqDiff, Nat.reduceGT, Nat.reduceBEq, reduceCtorEq, ↓reduceIte, Int.reduceToNat, Int.reduceLE, Int.reduceLT, Int.reduceNe, Int.reduceEq]
  simp (maxDischargeDepth := 12) (maxSteps := 1000000) -implicitDefEqProofs only [go_sem, Nat.reduceAdd, Nat.reduceSub, Nat.reduceMul, Nat.reduceLeDiff, Nat.reduceEqDiff, Nat.reduceGT, Nat.reduceBEq, reduceCtorEq, ↓reduceIte, Int.reduceToNat, Int.reduceLE, Int.reduceLT, Int.reduceNe, Int.reduceEq, h1, h2, h4]
set_option maxHeartbeats 4000000 in
theorem openP (w0 : W0) {S : St} {t l1 l2 : Nat} {es1 : List (Value × DV × Nat)} {c1 : Nat} {es2 : List (Value × DV × Nat)} {c2 : Nat} (h : TbM S t l1 l2 es1 c1 es2 c2) (hne : l1 ≠ l2) (lv : Int) (k : Nat) (hk : k ≤ 1000000) (hg : mGet es1 (.int .i64 lv) = if k = 0 then none else some (dI k)) :
    ACall Try.prog w0 9 [ptH t, dI lv] S (fun d S' => ∃ b m : Nat, lk S.box b = none ∧ lk S.acc m = none ∧ d = dI ((k : Int) + 1) ∧ S' = ⟨(b, [dI 0, .mp m]) :: S.box, (m, .xo (.mp (.int .i64) [] 0)) :: up (up S.acc l1 (.xo (.mp (.int .i64) (mSet es1 c1 (.int .i64 lv) (dI ((k : Int) + 1))) (mClk es1 c1 (.int .i64 lv))))) l2 (.xo (.mp (.st [.i64, .i64]) (mSet es2 c2 (kyH lv ((k : Int) + 1)) (ptH b)) (mClk es2 c2 (kyH lv ((k : Int) + 1)))))⟩) := by
  have h1 := h.tb
  have h2 := h.m1
  have h3 := h.m2
  have h4 : ∀ v, lk (up S.acc l1 v) l2 = some (.xo (.mp (.st [.i64, .i64]) es2 c2)) := fun v => by rw [lk_up_ne hne]; exact h3
  have h5 : ∀ v, lk (up S.acc l1 v) l1 = some v := fun v => by rw [lk_up_same, h2]; rfl
  have h6 : ∀ v w, lk (up (up S.acc l1 v) l2 w) l1 = some v := fun v w => by rw [lk_up_ne (fun e => hne e.symm)]; exact h5 v
  have e1 : IntKind.i64.wrap ((k : Int) + 1) = (k : Int) + 1 := w64 (by omega) (by omega)
  have hd : ∀ F : DV → Prop, ∀ G : Prop, (k = 0 → G) → (k ≠ 0 → F (dI k)) → goK (mGet es1 (.int .i64 lv)) F G := fun F G a b => by
    rw [hg]
    split
    · exact a (by assumption)
    · exact b (by assumption)
  unfold kyH
  refine fnO [4] mx Try.func9 rfl rfl (by kernel_rfl) ?_; simp (maxDischargeDepth := 12) (maxSteps := 1000000) -implicitDefEqProofs only [Try.ntmps9, go_sem, Nat.reduceAdd, Nat.reduceSub, Nat.reduceMul, Nat.reduceLeDiff, Nat.reduceEqDiff, Nat.reduceGT, Nat.reduceBEq, reduceCtorEq, ↓reduceIte, Int.reduceToNat, Int.reduceLE, Int.reduceLT, Int.reduceNe, Int.reduceEq]
  simp (maxDischargeDepth := 12) (maxSteps := 1000000) -implicitDefEqProofs only [go_sem, Nat.reduceAdd, Nat.reduceSub, Nat.reduceMul, Nat.reduceLeDiff, Nat.reduceEqDiff, Nat.reduceGT, Nat.reduceBEq, reduceCtorEq, ↓reduceIte, Int.reduceToNat, Int.reduceLE, Int.reduceLT, Int.reduceNe, Int.reduceEq, h1, h2]
  refine hd _ _ (fun k0 => ?_) fun k0 => ?_
  · subst k0
    have e0 : IntKind.i64.wrap (0 + 1) = 1 := by decide
    have ez : (0 : Int) + 1 = 1 := rfl
    rw [e0]
    refine Y.ordK [12, 14] [15] [0, 1, 2, 4, 5, 6, 7, 9, 3, 8, 10, 11, 12, 13, 14, 15] mx (by kernel_rfl) ?_
    simp (maxDischargeDepth := 12) (maxSteps := 1000000) -implicitDefEqProofs only [go_sem, Nat.reduceAdd, Nat.reduceSub, Nat.reduceMul, Nat.reduceLeDiff, Nat.reduceEqDiff, Nat.reduceGT, Nat.reduceBEq, reduceCtorEq, ↓reduceIte, Int.reduceToNat, Int.reduceLE, Int.reduceLT, Int.reduceNe, Int.reduceEq, h1, h4, h5, h6, mGet_set_same, ez]
    exact fun l b => ⟨b.n, l.n, fn_lk b, lk_of_up (fn_lk l), rfl⟩
  · simp (maxDischargeDepth := 12) (maxSteps := 1000000) -implicitDefEqProofs only [go_sem, Nat.reduceAdd, Nat.reduceSub, Nat.reduceMul, Nat.reduceLeDiff, Nat.reduceEqDiff, Nat.reduceGT, Nat.reduceBEq, reduceCtorEq, ↓reduceIte, Int.reduceToNat, Int.reduceLE, Int.reduceLT, Int.reduceNe, Int.reduceEq, e1, h2]
    refine Y.ordK [12, 14] [15] [0, 1, 2, 4, 5, 6, 7, 9, 3, 8, 10, 11, 12, 13, 14, 15] mx (by kernel_rfl) ?_
    simp (maxDischargeDepth := 12) (maxSteps := 1000000) -implicitDefEqProofs only [go_sem, Nat.reduceAdd, Nat.reduceSub, Nat.reduceMul, Nat.reduceLeDiff, Nat.reduceEqDiff, Nat.reduceGT, Nat.reduceBEq, reduceCtorEq, ↓reduceIte, Int.reduceToNat, Int.reduceLE, Int.reduceLT, Int.reduceNe, Int.reduceEq, h1, h4, h5, h6, mGet_set_same]
    exact fun l b => ⟨b.n, l.n, fn_lk b, lk_of_up (fn_lk l), rfl⟩
set_option maxHeartbeats 4000000 in
theorem nilOf (w0 : W0) (lv n : Int) (S : St) : ACall Try.prog w0 25 [.v (.pointer none), dHd lv n] S (fun d S' => d = .v (.pointer none) ∧ S' = S) := by
  refine fnS [] mx Try.func25 rfl rfl (by kernel_rfl) ?_; simp (maxDischargeDepth := 12) (maxSteps := 1000000) -implicitDefEqProofs only [Try.ntmps25, go_sem, Nat.reduceAdd, Nat.reduceSub, Nat.reduceMul, Nat.reduceLeDiff, Nat.reduceEqDiff, Nat.reduceGT, Nat.reduceBEq, reduceCtorEq, ↓reduceIte, Int.reduceToNat, Int.reduceLE, Int.reduceLT, Int.reduceNe, Int.reduceEq]
set_option maxHeartbeats 4000000 in
theorem nilOpen (w0 : W0) (lv : Int) (S : St) : ACall Try.prog w0 9 [.v (.pointer none), dI lv] S (fun d S' => d = dI 0 ∧ S' = S) := by
  refine fnS [4] mx Try.func9 rfl rfl (by kernel_rfl) ?_; simp (maxDischargeDepth := 12) (maxSteps := 1000000) -implicitDefEqProofs only [Try.ntmps9, go_sem, Nat.reduceAdd, Nat.reduceSub, Nat.reduceMul, Nat.reduceLeDiff, Nat.reduceEqDiff, Nat.reduceGT, Nat.reduceBEq, reduceCtorEq, ↓reduceIte, Int.reduceToNat, Int.reduceLE, Int.reduceLT, Int.reduceNe, Int.reduceEq]
set_option maxHeartbeats 4000000 in
theorem nilHas (w0 : W0) (lv n : Int) (S : St) : ACall Try.prog w0 19 [.v (.pointer none), dHd lv n] S (fun d S' => d = dB false ∧ S' = S) := by
  refine fnS [] mx Try.func19 rfl rfl (by kernel_rfl) ?_; simp (maxDischargeDepth := 12) (maxSteps := 1000000) -implicitDefEqProofs only [Try.ntmps19, go_sem, Nat.reduceAdd, Nat.reduceSub, Nat.reduceMul, Nat.reduceLeDiff, Nat.reduceEqDiff, Nat.reduceGT, Nat.reduceBEq, reduceCtorEq, ↓reduceIte, Int.reduceToNat, Int.reduceLE, Int.reduceLT, Int.reduceNe, Int.reduceEq]
  intro b
  refine use1 (nilOf w0 lv n _) ?_
  simp (maxDischargeDepth := 12) (maxSteps := 1000000) -implicitDefEqProofs only [go_sem, Nat.reduceAdd, Nat.reduceSub, Nat.reduceMul, Nat.reduceLeDiff, Nat.reduceEqDiff, Nat.reduceGT, Nat.reduceBEq, reduceCtorEq, ↓reduceIte, Int.reduceToNat, Int.reduceLE, Int.reduceLT, Int.reduceNe, Int.reduceEq]
set_option maxHeartbeats 4000000 in
theorem nilClose (w0 : W0) (lv n : Int) (S : St) : ACall Try.prog w0 11 [.v (.pointer none), dHd lv n] S (fun d S' => d = dB false ∧ S' = S) := by
  refine fnS [] mx Try.func11 rfl rfl (by kernel_rfl) ?_; simp (maxDischargeDepth := 12) (maxSteps := 1000000) -implicitDefEqProofs only [Try.ntmps11, go_sem, Nat.reduceAdd, Nat.reduceSub, Nat.reduceMul, Nat.reduceLeDiff, Nat.reduceEqDiff, Nat.reduceGT, Nat.reduceBEq, reduceCtorEq, ↓reduceIte, Int.reduceToNat, Int.reduceLE, Int.reduceLT, Int.reduceNe, Int.reduceEq]
  intro b
  refine use1 (nilHas w0 lv n _) ?_
  simp (maxDischargeDepth := 12) (maxSteps := 1000000) -implicitDefEqProofs only [go_sem, Nat.reduceAdd, Nat.reduceSub, Nat.reduceMul, Nat.reduceLeDiff, Nat.reduceEqDiff, Nat.reduceGT, Nat.reduceBEq, reduceCtorEq, ↓reduceIte, Int.reduceToNat, Int.reduceLE, Int.reduceLT, Int.reduceNe, Int.reduceEq]
set_option maxHeartbeats 4000000 in
theorem nilSnap (w0 : W0) (lv n : Int) (S : St) : ACall Try.prog w0 13 [.v (.pointer none), dHd lv n] S (fun d S' => d = dI 0 ∧ S' = S) := by
  refine fnS [] mx Try.func13 rfl rfl (by kernel_rfl) ?_; simp (maxDischargeDepth := 12) (maxSteps := 1000000) -implicitDefEqProofs only [Try.ntmps13, go_sem, Nat.reduceAdd, Nat.reduceSub, Nat.reduceMul, Nat.reduceLeDiff, Nat.reduceEqDiff, Nat.reduceGT, Nat.reduceBEq, reduceCtorEq, ↓reduceIte, Int.reduceToNat, Int.reduceLE, Int.reduceLT, Int.reduceNe, Int.reduceEq]
  intro b
  refine use1 (nilOf w0 lv n _) ?_
  simp (maxDischargeDepth := 12) (maxSteps := 1000000) -implicitDefEqProofs only [go_sem, Nat.reduceAdd, Nat.reduceSub, Nat.reduceMul, Nat.reduceLeDiff, Nat.reduceEqDiff, Nat.reduceGT, Nat.reduceBEq, reduceCtorEq, ↓reduceIte, Int.reduceToNat, Int.reduceLE, Int.reduceLT, Int.reduceNe, Int.reduceEq]
set_option maxHeartbeats 4000000 in
theorem nilUnsnap (w0 : W0) (lv n x : Int) (S : St) : ACall Try.prog w0 15 [.v (.pointer none), dHd lv n, dI x] S (fun d S' => d = dB false ∧ S' = S) := by
  refine fnS [] mx Try.func15 rfl rfl (by kernel_rfl) ?_; simp (maxDischargeDepth := 12) (maxSteps := 1000000) -implicitDefEqProofs only [Try.ntmps15, go_sem, Nat.reduceAdd, Nat.reduceSub, Nat.reduceMul, Nat.reduceLeDiff, Nat.reduceEqDiff, Nat.reduceGT, Nat.reduceBEq, reduceCtorEq, ↓reduceIte, Int.reduceToNat, Int.reduceLE, Int.reduceLT, Int.reduceNe, Int.reduceEq]
  intro b
  refine use1 (nilOf w0 lv n _) ?_
  simp (maxDischargeDepth := 12) (maxSteps := 1000000) -implicitDefEqProofs only [go_sem, Nat.reduceAdd, Nat.reduceSub, Nat.reduceMul, Nat.reduceLeDiff, Nat.reduceEqDiff, Nat.reduceGT, Nat.reduceBEq, reduceCtorEq, ↓reduceIte, Int.reduceToNat, Int.reduceLE, Int.reduceLT, Int.reduceNe, Int.reduceEq]
set_option maxHeartbeats 4000000 in
theorem nilSnaps (w0 : W0) (lv n : Int) (S : St) : ACall Try.prog w0 22 [.v (.pointer none), dHd lv n] S (fun d S' => d = .sl 0 true [] ∧ S' = S) := by
  refine fnS [] mx Try.func22 rfl rfl (by kernel_rfl) ?_; simp (maxDischargeDepth := 12) (maxSteps := 1000000) -implicitDefEqProofs only [Try.ntmps22, go_sem, Nat.reduceAdd, Nat.reduceSub, Nat.reduceMul, Nat.reduceLeDiff, Nat.reduceEqDiff, Nat.reduceGT, Nat.reduceBEq, reduceCtorEq, ↓reduceIte, Int.reduceToNat, Int.reduceLE, Int.reduceLT, Int.reduceNe, Int.reduceEq]
  intro b
  refine use1 (nilOf w0 lv n _) ?_
  simp (maxDischargeDepth := 12) (maxSteps := 1000000) -implicitDefEqProofs only [go_sem, Nat.reduceAdd, Nat.reduceSub, Nat.reduceMul, Nat.reduceLeDiff, Nat.reduceEqDiff, Nat.reduceGT, Nat.reduceBEq, reduceCtorEq, ↓reduceIte, Int.reduceToNat, Int.reduceLE, Int.reduceLT, Int.reduceNe, Int.reduceEq]
set_option maxHeartbeats 4000000 in
theorem nilAll (w0 : W0) (S : St) : ACall Try.prog w0 17 [.v (.pointer none)] S (fun d S' => d = .sl 0 true [] ∧ S' = S) := by
  refine fnS [] mx Try.func17 rfl rfl (by kernel_rfl) ?_; simp (maxDischargeDepth := 12) (maxSteps := 1000000) -implicitDefEqProofs only [Try.ntmps17, go_sem, Nat.reduceAdd, Nat.reduceSub, Nat.reduceMul, Nat.reduceLeDiff, Nat.reduceEqDiff, Nat.reduceGT, Nat.reduceBEq, reduceCtorEq, ↓reduceIte, Int.reduceToNat, Int.reduceLE, Int.reduceLT, Int.reduceNe, Int.reduceEq]
set_option maxHeartbeats 4000000 in
theorem nilReset (w0 : W0) (S : St) : ACall Try.prog w0 16 [.v (.pointer none)] S (fun d S' => d = ud ∧ S' = S) := by
  refine fnS [] mx Try.func16 rfl rfl (by kernel_rfl) ?_; simp (maxDischargeDepth := 12) (maxSteps := 1000000) -implicitDefEqProofs only [Try.ntmps16, go_sem, Nat.reduceAdd, Nat.reduceSub, Nat.reduceMul, Nat.reduceLeDiff, Nat.reduceEqDiff, Nat.reduceGT, Nat.reduceBEq, reduceCtorEq, ↓reduceIte, Int.reduceToNat, Int.reduceLE, Int.reduceLT, Int.reduceNe, Int.reduceEq]
  exact .refl _
end Go.Proofs.Ytodndiioekjjoaa

namespace Go.Proofs
open Go.Shelf
def Try.lays128_ren : Go.Shelf.Ren := ⟨fun | 128 => 53 | n => n, fun | 51 => 92 | 3 => 3 | 4 => 4 | 46 => 80 | 5 => 5 | 9 => 9 | n => n, fun | n => n⟩
theorem Try.lays128 : Go.Proofs.Lays.n128 Try.prog Try.lays128_ren := {
  mixed := by kernel_rfl
  f128 := Try.func53.trans (congrArg some (by kernel_rfl))
  t3 := Try.underlying3
  a3 := Try.isAgg3
  z3 := Try.sizeOf3
  v3 := Try.zeroValue3
  t4 := Try.underlying4
  a4 := Try.isAgg4
  z4 := Try.sizeOf4
  v4 := Try.zeroValue4
  t5 := Try.underlying5
  a5 := Try.isAgg5
  z5 := Try.sizeOf5
  v5 := Try.zeroValue5
  t9 := Try.underlying9
  a9 := Try.isAgg9
  z9 := Try.sizeOf9
  v9 := Try.zeroValue9
  t46 := Try.underlying80
  a46 := Try.isAgg80
  z46 := Try.sizeOf80
  v46 := Try.zeroValue80
  t51 := Try.underlying92
  a51 := Try.isAgg92
  z51 := Try.sizeOf92
  v51 := Try.zeroValue92 }
/-- bits.Len32: "Len32 returns the minimum number of bits required to represent x; the result is 0 for x == 0.": IT RETURNS 'Lib.bitLen x'; the world is as it was. ('h0', 'h1': x is a uint32.) (LAID: no walk: one application.) -/
theorem Try.bits_Len32 (x : Int) (w : World) (h0 : 0 ≤ x) (h1 : x ≤ 4294967295) :
    Calls Try.prog 53 #[.int .u32 x] w fun e w' => e = .returned (.int .i64 (Lib.bitLen x.toNat)) ∧ w' = w := Any.bits_Len32 Try.lays128 x w h0 h1
def Try.lays125_ren : Go.Shelf.Ren := ⟨fun | 125 => 42 | 128 => 53 | 129 => 54 | n => n, fun | 46 => 80 | 3 => 3 | 51 => 92 | 53 => 94 | 4 => 4 | 5 => 5 | 9 => 9 | n => n, fun | n => n⟩
theorem Try.lays125 : Go.Proofs.Lays.n125 Try.prog Try.lays125_ren := {
  mixed := by kernel_rfl
  f125 := Try.func42.trans (congrArg some (by kernel_rfl))
  f128 := Try.func53.trans (congrArg some (by kernel_rfl))
  f129 := Try.func54.trans (congrArg some (by kernel_rfl))
  t3 := Try.underlying3
  a3 := Try.isAgg3
  z3 := Try.sizeOf3
  v3 := Try.zeroValue3
  t4 := Try.underlying4
  a4 := Try.isAgg4
  z4 := Try.sizeOf4
  v4 := Try.zeroValue4
  t5 := Try.underlying5
  a5 := Try.isAgg5
  z5 := Try.sizeOf5
  v5 := Try.zeroValue5
  t9 := Try.underlying9
  a9 := Try.isAgg9
  z9 := Try.sizeOf9
  v9 := Try.zeroValue9
  t46 := Try.underlying80
  a46 := Try.isAgg80
  z46 := Try.sizeOf80
  v46 := Try.zeroValue80
  t51 := Try.underlying92
  a51 := Try.isAgg92
  z51 := Try.sizeOf92
  v51 := Try.zeroValue92
  t53 := Try.underlying94
  a53 := Try.isAgg94
  z53 := Try.sizeOf94
  v53 := Try.zeroValue94 }
/-- bits.Len: "Len returns the minimum number of bits required to represent x; the result is 0 for x == 0.": IT RETURNS 'Lib.bitLen x'; the world is as it was. (A uint has 64 bits in the model.) ITS CALLEE bits.Len64 IS MET BY ITS OWN CONTRACT OFF THE SHELF (lay that first). (LAID: no walk: one application.) -/
theorem Try.bits_Len (x : Int) (w : World) (h0 : 0 ≤ x) (h1 : x ≤ 18446744073709551615) :
    Calls Try.prog 42 #[.int .u64 x] w fun e w' => e = .returned (.int .i64 (Lib.bitLen x.toNat)) ∧ w' = w := Any.bits_Len Try.lays125 x w h0 h1
def Try.lays129_ren : Go.Shelf.Ren := ⟨fun | 129 => 54 | n => n, fun | 53 => 94 | 3 => 3 | 4 => 4 | 46 => 80 | 5 => 5 | 9 => 9 | n => n, fun | n => n⟩
theorem Try.lays129 : Go.Proofs.Lays.n129 Try.prog Try.lays129_ren := {
  mixed := by kernel_rfl
  f129 := Try.func54.trans (congrArg some (by kernel_rfl))
  t3 := Try.underlying3
  a3 := Try.isAgg3
  z3 := Try.sizeOf3
  v3 := Try.zeroValue3
  t4 := Try.underlying4
  a4 := Try.isAgg4
  z4 := Try.sizeOf4
  v4 := Try.zeroValue4
  t5 := Try.underlying5
  a5 := Try.isAgg5
  z5 := Try.sizeOf5
  v5 := Try.zeroValue5
  t9 := Try.underlying9
  a9 := Try.isAgg9
  z9 := Try.sizeOf9
  v9 := Try.zeroValue9
  t46 := Try.underlying80
  a46 := Try.isAgg80
  z46 := Try.sizeOf80
  v46 := Try.zeroValue80
  t53 := Try.underlying94
  a53 := Try.isAgg94
  z53 := Try.sizeOf94
  v53 := Try.zeroValue94 }
/-- bits.Len64: "Len64 returns the minimum number of bits required to represent x; the result is 0 for x == 0.": IT RETURNS 'Lib.bitLen x'; the world is as it was. ('h0', 'h1': x is a uint64.) (LAID: no walk: one application.) -/
theorem Try.bits_Len64 (x : Int) (w : World) (h0 : 0 ≤ x) (h1 : x ≤ 18446744073709551615) :
    Calls Try.prog 54 #[.int .u64 x] w fun e w' => e = .returned (.int .i64 (Lib.bitLen x.toNat)) ∧ w' = w := Any.bits_Len64 Try.lays129 x w h0 h1
def Try.lays189_ren : Go.Shelf.Ren := ⟨fun | 189 => 38 | 125 => 42 | 257 => 44 | 128 => 53 | 129 => 54 | 294 => 55 | 295 => 56 | 296 => 57 | 297 => 58 | 298 => 59 | 299 => 60 | 216 => 61 | 300 => 62 | 301 => 63 | 328 => 69 | 329 => 65 | 330 => 66 | 331 => 70 | 332 => 71 | 215 => 36 | 343 => 73 | n => n, fun | 28 => 46 | 3 => 3 | 46 => 80 | 0 => 0 | 51 => 92 | 53 => 94 | 4 => 4 | 183 => 85 | 182 => 84 | 131 => 89 | 5 => 5 | 9 => 9 | 218 => 101 | 222 => 105 | 228 => 109 | 229 => 110 | n => n, fun | n => n⟩
theorem Try.lays189 : Go.Proofs.Lays.n189 Try.prog Try.lays189_ren := {
  mixed := by kernel_rfl
  f125 := Try.func42.trans (congrArg some (by kernel_rfl))
  f128 := Try.func53.trans (congrArg some (by kernel_rfl))
  f129 := Try.func54.trans (congrArg some (by kernel_rfl))
  f189 := Try.func38.trans (congrArg some (by kernel_rfl))
  f215 := Try.func36.trans (congrArg some (by kernel_rfl))
  f216 := Try.func61.trans (congrArg some (by kernel_rfl))
  f257 := Try.func44.trans (congrArg some (by kernel_rfl))
  f294 := Try.func55.trans (congrArg some (by kernel_rfl))
  f295 := Try.func56.trans (congrArg some (by kernel_rfl))
  f296 := Try.func57.trans (congrArg some (by kernel_rfl))
  f297 := Try.func58.trans (congrArg some (by kernel_rfl))
  f298 := Try.func59.trans (congrArg some (by kernel_rfl))
  f299 := Try.func60.trans (congrArg some (by kernel_rfl))
  f300 := Try.func62.trans (congrArg some (by kernel_rfl))
  f301 := Try.func63.trans (congrArg some (by kernel_rfl))
  f328 := Try.func69.trans (congrArg some (by kernel_rfl))
  f329 := Try.func65.trans (congrArg some (by kernel_rfl))
  f330 := Try.func66.trans (congrArg some (by kernel_rfl))
  f331 := Try.func70.trans (congrArg some (by kernel_rfl))
  f332 := Try.func71.trans (congrArg some (by kernel_rfl))
  f343 := Try.func73.trans (congrArg some (by kernel_rfl))
  t0 := Try.underlying0
  a0 := Try.isAgg0
  z0 := Try.sizeOf0
  v0 := Try.zeroValue0
  t3 := Try.underlying3
  a3 := Try.isAgg3
  z3 := Try.sizeOf3
  v3 := Try.zeroValue3
  t4 := Try.underlying4
  a4 := Try.isAgg4
  z4 := Try.sizeOf4
  v4 := Try.zeroValue4
  t5 := Try.underlying5
  a5 := Try.isAgg5
  z5 := Try.sizeOf5
  v5 := Try.zeroValue5
  t9 := Try.underlying9
  a9 := Try.isAgg9
  z9 := Try.sizeOf9
  v9 := Try.zeroValue9
  t28 := Try.underlying46
  a28 := Try.isAgg46
  z28 := Try.sizeOf46
  v28 := Try.zeroValue46
  t46 := Try.underlying80
  a46 := Try.isAgg80
  z46 := Try.sizeOf80
  v46 := Try.zeroValue80
  t51 := Try.underlying92
  a51 := Try.isAgg92
  z51 := Try.sizeOf92
  v51 := Try.zeroValue92
  t53 := Try.underlying94
  a53 := Try.isAgg94
  z53 := Try.sizeOf94
  v53 := Try.zeroValue94
  t131 := Try.underlying89
  a131 := Try.isAgg89
  z131 := Try.sizeOf89
  v131 := Try.zeroValue89
  t182 := Try.underlying84
  a182 := Try.isAgg84
  z182 := Try.sizeOf84
  v182 := Try.zeroValue84
  t183 := Try.underlying85
  a183 := Try.isAgg85
  z183 := Try.sizeOf85
  v183 := Try.zeroValue85
  t218 := Try.underlying101
  a218 := Try.isAgg101
  z218 := Try.sizeOf101
  v218 := Try.zeroValue101
  t222 := Try.underlying105
  a222 := Try.isAgg105
  z222 := Try.sizeOf105
  v222 := Try.zeroValue105
  t228 := Try.underlying109
  a228 := Try.isAgg109
  z228 := Try.sizeOf109
  v228 := Try.zeroValue109
  t229 := Try.underlying110
  a229 := Try.isAgg110
  z229 := Try.sizeOf110
  v229 := Try.zeroValue110 }
open Go.Sort Go.RowKit in
theorem Try.slices_Sort_int (blk off cap : Nat) (zs : List Int) (w : World) (hH : Holds (Value.int .i64) w blk off zs.toArray) (hblk : blk < w.heap.size) (hsz : zs.length < 4611686018427387904) :
    Calls Try.prog 38 #[.slice (some ⟨blk, off, none⟩) zs.length cap] w fun e w' =>
      e = .returned (.tuple #[]) ∧ ∃ n os, w' = grow (putRow (Value.int .i64) (Sort.ahead w n) blk off (zs.mergeSort fun x y => decide (x ≤ y)).toArray) os := Any.slices_Sort_int Try.lays189 blk off cap zs w hH hblk hsz
def Try.laysNm237_ren : Go.Shelf.Ren := ⟨fun | 37 => 36 | n => n, fun | 3 => 3 | 4 => 4 | n => n, fun | n => n⟩
theorem Try.laysNm237 : Go.Proofs.Lays2.n37 Try.prog Try.laysNm237_ren := {
  mixed := by kernel_rfl
  f37 := Try.func36.trans (congrArg some (by kernel_rfl))
  t3 := Try.underlying3
  a3 := Try.isAgg3
  z3 := Try.sizeOf3
  v3 := Try.zeroValue3
  t4 := Try.underlying4
  a4 := Try.isAgg4
  z4 := Try.sizeOf4
  v4 := Try.zeroValue4 }
open Go.RowKit Go.Lib in
/-- cmp.isNaN[int]: 'x != x': false. (LAID: no walk: one application.) -/
theorem Try.cmp_isNaN_int2 (x : Int) (w : World) :
    Calls Try.prog 36 #[.int .i64 x] w fun e w' => e = .returned (.bool false) ∧ w' = w := Any.cmp_isNaN_int2 Try.laysNm237 x w
def Try.laysNm231_ren : Go.Shelf.Ren := ⟨fun | 31 => 61 | 37 => 36 | n => n, fun | 3 => 3 | 4 => 4 | n => n, fun | n => n⟩
theorem Try.laysNm231 : Go.Proofs.Lays2.n31 Try.prog Try.laysNm231_ren := {
  mixed := by kernel_rfl
  f31 := Try.func61.trans (congrArg some (by kernel_rfl))
  f37 := Try.func36.trans (congrArg some (by kernel_rfl))
  t3 := Try.underlying3
  a3 := Try.isAgg3
  z3 := Try.sizeOf3
  v3 := Try.zeroValue3
  t4 := Try.underlying4
  a4 := Try.isAgg4
  z4 := Try.sizeOf4
  v4 := Try.zeroValue4 }
open Go.RowKit Go.Lib in
/-- cmp.Less[int]: "Less reports whether x is less than y.": 'x < y'; the world is as it was. (LAID: no walk: one application.) -/
theorem Try.cmp_Less_int2 (x y : Int) (w : World) :
    Calls Try.prog 61 #[.int .i64 x, .int .i64 y] w fun e w' => e = .returned (.bool (decide (x < y))) ∧ w' = w := Any.cmp_Less_int2 Try.laysNm231 x y w
open Go.RowKit Go.Sort in
/-- .. and plain. (LAID: no walk: one application.) -/
theorem Try.slices_Sort_int_none (p : Option Addr) (cap : Nat) (w : World) :
    Calls Try.prog 38 #[.slice p 0 cap] w fun e w' => e = .returned (.tuple #[]) ∧ w' = w := Any.slices_Sort_int_none Try.lays189 p cap w
end Go.Proofs

namespace Go.Proofs.Ytodndiioekjjoaa
open Aml Go
set_option linter.unusedVariables false
set_option linter.unusedSimpArgs false
set_option maxRecDepth 100000

/-- Numbers, rising. -/
def srt (l : List Int) : List Int := l.mergeSort fun x y => decide (x ≤ y)
theorem srt_length (l : List Int) : (srt l).length = l.length := List.length_mergeSort l

theorem get_bang {l : List Int} {j : Nat} {a : Int} (h : l[j]? = some a) : l.toArray[j]! = a := by
  obtain ⟨hlt, rfl⟩ := List.getElem?_eq_some_iff.1 h
  rw [getElem!_pos l.toArray j (by simpa using hlt)]
  simp
theorem sorted_heap {w : World} {n b e : Nat} {cs : Array Value} {zs : List Int} {os : Array Obj} (hb : w.heap[b]? = some (.cells cs e (0, 0))) (hn : zs.length ≤ cs.size) :
    ∃ cs', (Go.Sort.grow (Go.Sort.putRow (Value.int .i64) (Go.Sort.ahead w n) b 0 zs.toArray) os).heap[b]? = some (.cells cs' e (0, 0)) ∧ cs'.size = cs.size ∧ (∀ (i : Nat) (a : Int), zs[i]? = some a → cs'[i]? = some (.int .i64 a)) ∧ ∀ x, x ∈ cs'.toList → x ∈ cs.toList ∨ ∃ a, x = .int .i64 a := by
  refine ⟨Go.Sort.putCells (Value.int .i64) 0 zs.toArray cs, ?_, by simp [Go.Sort.putCells], fun i a hi => ?_, fun x hx => ?_⟩
  · rw [Go.Sort.heap_grow_old _ _ (by have := (Array.getElem?_eq_some_iff.1 hb).1; simpa using this)]
    simp only [Go.Sort.putRow, Go.Sort.mapBlock, Go.Sort.heap_ahead, Array.getElem?_modify, if_true, hb, Option.map_some, Go.Sort.onCells]
  · have hlt : i < zs.length := (List.getElem?_eq_some_iff.1 hi).1
    have hc : cs[i]? = some cs[i] := Array.getElem?_eq_getElem (by omega)
    simp only [Go.Sort.putCells, Array.getElem?_mapIdx, hc, Option.map_some]
    rw [if_pos (by simp; omega)]
    simp only [Nat.sub_zero]
    rw [get_bang hi]
  · obtain ⟨i, hi⟩ := List.mem_iff_getElem?.1 hx
    rw [Array.getElem?_toList] at hi
    simp only [Go.Sort.putCells, Array.getElem?_mapIdx, Option.map_eq_some_iff] at hi
    obtain ⟨y, hy, rfl⟩ := hi
    split
    · exact .inr ⟨_, rfl⟩
    · exact .inl (Array.mem_toList_iff.2 (Array.mem_of_getElem? hy))

set_option maxHeartbeats 400000 in
/-- slices.Sort at []int, of a growing slice. -/
theorem sort_int (w0 : W0) {l : Nat} {zs : List Int} {S : St} (hl : lk S.acc l = some (.arr 1 (zs.map dI))) (hsz : zs.length < 4611686018427387904) :
    ACall Try.prog w0 38 [.acc l zs.length] S (fun d S' => d = .tup [] ∧ S' = ⟨S.box, up S.acc l (.arr 1 ((srt zs).map dI))⟩) := by
  intro g vs w h1 h2
  obtain ⟨u, us, hvs, hr, h3⟩ := h2.uncons
  have hus : us = [] := List.eq_nil_of_length_eq_zero (by have := h3.len; simpa using this.symm)
  subst hus
  have hvs' : vs = #[u] := by rw [← Array.toArray_toList (xs := vs), hvs]
  subst hvs'
  obtain ⟨o, c, hv, ha⟩ := rep_acc hr
  subst hv
  by_cases hz : zs = []
  · subst hz
    refine (Try.slices_Sort_int_none o c w).mono ?_
    rintro e w' ⟨rfl, rfl⟩
    refine ⟨_, g, .tup [], _, rfl, .refl g, ?_, .tup [] [] rfl (by intro i d u h; simp at h), rfl, rfl⟩
    have : srt [] = [] := by simp [srt]
    rw [this, up_self hl]
    exact h1
  · have hpos : 0 < zs.length := List.length_pos_iff.2 hz
    obtain ⟨ow, hO⟩ := h1.open_
    obtain ⟨hs, ⟨he, o2, _⟩ | ⟨b, c2, cs, e, q1, q2, q3, q4, q5, q6, q7, q8, q8x, us, q9, q10, q11, q12⟩⟩ := hO.acc l _ (lk_mem hl)
    · exact absurd (by simpa using he) hz
    · rw [List.length_map] at q1 q7
      have q1' := q1
      rw [ha] at q1
      simp only [Option.some.injEq, Value.slice.injEq, true_and] at q1
      obtain ⟨rfl, rfl⟩ := q1
      rw [Nat.mul_one] at q6
      have hul : us.length = zs.length := by have := q9.len; simpa using this.symm
      have hus : ∀ (i : Nat) (a : Int), zs[i]? = some a → us[i]? = some (.int .i64 a) := by
        intro i a hi
        have hlt : i < us.length := by rw [hul]; exact (List.getElem?_eq_some_iff.1 hi).1
        have hu : us[i]? = some us[i] := List.getElem?_eq_getElem hlt
        have := q9.at_ i (dI a) _ (by simp [hi]) hu
        have := rep_v this
        rw [hu, this]
      have hcs : ∀ (i : Nat) (a : Int), zs[i]? = some a → cs[i]? = some (.int .i64 a) := by
        intro i a hi
        have := q12 i _ 0 _ (hus i a hi) (show (Value.int IntKind.i64 a).cells[0]? = some (.int .i64 a) by rfl)
        simpa using this
      have hH : Go.Sort.Holds (Value.int .i64) w b 0 zs.toArray := by
        intro j hj
        have hj' : j < zs.length := by simpa using hj
        have hi : zs[j]? = some zs[j] := List.getElem?_eq_getElem hj'
        constructor
        · rw [cells_at q5, Nat.zero_add, hcs j _ hi, get_bang hi]
        · simp [World.frozen?, q5]
      refine (Try.slices_Sort_int b 0 c zs w hH (lt_of_heap q5) hsz).mono ?_
      rintro ex w' ⟨rfl, n, os, rfl⟩
      obtain ⟨cs', h5, h6, h7, h8⟩ := sorted_heap (n := n) (os := os) (zs := srt zs) q5 (by rw [srt_length]; omega)
      refine ⟨_, g, .tup [], _, rfl, .refl g, ?_, .tup [] [] rfl (by intro i d u h; simp at h), rfl, rfl⟩
      refine h1.rearr (us := (srt zs).map fun a => Value.int .i64 a) (b := b) (c := c) (e := e) (cs := cs') hl (by rw [List.length_map]; exact ha) (by simp [srt_length]) (by omega) h5 (by omega) ?_ (by simp) ?_ ?_ ?_ ?_ ?_ fun x hx => (h8 x hx).elim (q8x x) fun ⟨a, e⟩ => by rw [e]; rfl
      · refine h1.below.step ⟨rfl, rfl, rfl, by simp, fun k hk => ?_, Nat.le_add_right _ _⟩ b (nc_cells q5) fun k hk hne => ?_
        · rw [Go.Sort.heap_grow_old _ _ (by simp; exact Nat.lt_of_lt_of_le hk h1.below.size)]
          have : b ≠ k := by omega
          simp [Go.Sort.putRow, Go.Sort.mapBlock, Array.getElem?_modify, this]
        · rw [Go.Sort.heap_grow_old _ _ (by simp; exact hk)]
          have : b ≠ k := fun e => hne e.symm
          simp [Go.Sort.putRow, Go.Sort.mapBlock, Array.getElem?_modify, this]
      · intro k hk hne
        rw [Go.Sort.heap_grow_old _ _ (by simp; exact hk)]
        have : b ≠ k := fun e => hne e.symm
        simp [Go.Sort.putRow, Go.Sort.mapBlock, Array.getElem?_modify, this]
      · exact ⟨by simp, fun i d u a1 a2 => by
          simp only [List.getElem?_map, Option.map_eq_some_iff] at a1 a2
          obtain ⟨x, hx, rfl⟩ := a1
          obtain ⟨y, hy, rfl⟩ := a2
          rw [hx] at hy; cases hy
          exact .v _ rfl⟩
      · intro i u hi
        simp only [List.getElem?_map, Option.map_eq_some_iff] at hi
        obtain ⟨x, _, rfl⟩ := hi; rfl
      · intro u hu x hx
        obtain ⟨a, _, rfl⟩ := List.mem_map.1 hu
        simp [Value.cells] at hx
        subst hx; rfl
      · intro i u j x hi hj
        simp only [List.getElem?_map, Option.map_eq_some_iff] at hi
        obtain ⟨a, ha', rfl⟩ := hi
        have hj0 : j = 0 := by have := (Array.getElem?_eq_some_iff.1 hj).1; simp [Value.cells] at this; exact this
        subst hj0
        simp [Value.cells] at hj
        subst hj
        simpa using h7 i a ha'
end Go.Proofs.Ytodndiioekjjoaa

namespace Go.Proofs.Ytodndiioekjjoaa
open Aml Go
set_option linter.unusedVariables false
set_option linter.unusedSimpArgs false
set_option maxRecDepth 100000
def kI (a : Int) : Value := .int .i64 a
/-- Keys that were, each once. -/
def OkKI (es : List (Value × DV × Nat)) (pre : List Int) : Prop := pre.Nodup ∧ ∀ v, v ∈ pre → ∃ e, e ∈ es ∧ e.1 = kI v
def FinKI (es : List (Value × DV × Nat)) (V : List Int) : Prop := OkKI es V ∧ ∀ e, e ∈ es → ∃ v, v ∈ V ∧ e.1 = kI v
theorem isKey_uI {u : Value} (h : isKey (.int .i64) u = true) : ∃ a, u = kI a := by
  cases u <;> simp_all [isKey, kI]
theorem lk_dom' {α : Type} : ∀ {L L' : List (Nat × α)} {n : Nat}, L.map (·.1) = L'.map (·.1) → lk L n = none → lk L' n = none
  | [], [], _, _, _ => rfl
  | [], _ :: _, _, h, _ => by simp at h
  | _ :: _, [], _, h, _ => by simp at h
  | (k, x) :: t, (k', x') :: t', n, h, hn => by
    simp only [List.map_cons, List.cons.injEq] at h
    obtain ⟨e, h⟩ := h
    subst e
    simp only [lk] at hn ⊢
    split at hn
    · cases hn
    · rename_i hne; rw [if_neg hne]; exact lk_dom' h hn
theorem nodup_eq {α β : Type} {f : α → β} : ∀ {l : List α}, (l.map f).Nodup → ∀ {x y : α}, x ∈ l → y ∈ l → f x = f y → x = y
  | [], _, x, y, hx, _, _ => by cases hx
  | z :: l, hn, x, y, hx, hy, e => by
    rw [List.map_cons, List.nodup_cons] at hn
    rcases List.mem_cons.1 hx with h1 | h1
    · rcases List.mem_cons.1 hy with h2 | h2
      · rw [h1, h2]
      · exact absurd (by rw [← h1, e]; exact List.mem_map_of_mem h2) hn.1
    · rcases List.mem_cons.1 hy with h2 | h2
      · exact absurd (by rw [← h2, ← e]; exact List.mem_map_of_mem h1) hn.1
      · exact nodup_eq hn.2 h1 h2 e
theorem nodup_map_inj {α β : Type} {f : α → β} (hf : ∀ x y, f x = f y → x = y) : ∀ {l : List α}, l.Nodup → (l.map f).Nodup
  | [], _ => List.nodup_nil
  | z :: l, hn => by
    rw [List.map_cons, List.nodup_cons]
    rw [List.nodup_cons] at hn
    refine ⟨fun h => ?_, nodup_map_inj hf hn.2⟩
    obtain ⟨y, hy, e⟩ := List.mem_map.1 h
    exact hn.1 (hf _ _ e ▸ hy)
theorem nodup_len {α : Type} : ∀ {l m : List α}, l.Nodup → l ⊆ m → l.length ≤ m.length
  | [], _, _, _ => Nat.zero_le _
  | x :: l, m, hn, h => by
    rw [List.nodup_cons] at hn
    obtain ⟨s, t, rfl⟩ := List.append_of_mem (h (List.mem_cons_self ..))
    have := nodup_len (m := s ++ t) hn.2 fun y hy => by
      have := h (List.mem_cons_of_mem _ hy)
      rw [List.mem_append, List.mem_cons] at this
      rcases this with h1 | rfl | h1
      · exact List.mem_append_left _ h1
      · exact absurd hy hn.1
      · exact List.mem_append_right _ h1
    simp only [List.length_append, List.length_cons] at this ⊢
    omega
theorem keysIterI (w1 : W0) (l b m clk : Nat) (es : List (Value × DV × Nat)) (X : List Int → St)
    (hb : ∀ pre, lk (X pre).box b = some [.mp m]) (hm : ∀ pre, lk (X pre).acc m = some (.xo (.mp (.int .i64) es clk)))
    (hda : ∀ pre, (X pre).acc.map (·.1) = (X []).acc.map (·.1)) (hok : MapOk (.int .i64) es clk)
    (hy : YKo Try.prog w1 l X (fun x => [dI x]) (OkKI es)) : ∀ T, Has (X []) T → ACall Try.prog w1 39 [.v (.func (.yield l) #[] #[]), .v (.pointer (some ⟨b, 0, none⟩))] T fun _ T' => ∃ V, FinKI es V ∧ Has (X V) T' := by
  intro T hT
  have t1 : lk T.box b = some [.mp m] := hT.box _ _ (hb [])
  have t2 : lk T.acc m = some (.xo (.mp (.int .i64) es clk)) := hT.acc _ _ (hm [])
  refine fnO [] mx Try.func39 rfl rfl (by kernel_rfl) ?_; simp only [Try.ntmps39, List.length_cons, List.length_nil, Nat.reduceAdd, Nat.reduceSub, List.reduceReplicate, List.cons_append, List.nil_append]; simp (maxDischargeDepth := 12) (maxSteps := 1000000) -implicitDefEqProofs only [Try.ntmps39, go_sem, Nat.reduceAdd, Nat.reduceSub, Nat.reduceMul, Nat.reduceLeDiff, Nat.reduceEqDiff, Nat.reduceGT, Nat.reduceBEq, reduceCtorEq, ↓reduceIte, Int.reduceToNat, Int.reduceLE, Int.reduceLT, Int.reduceNe, Int.reduceEq, t1, t2]
  intro li
  refine loopK [] [0, 5] (fun s : St × List Int × List Nat => []) (fun s => s.1) (fun s => Has (X s.2.1) s.1 ∧ lk s.1.acc li.n = some (.xo (.it m clk s.2.2 clk)) ∧ lk (X s.2.1).acc li.n = none ∧ OkKI es s.2.1 ∧ ∀ e, e ∈ es → (e.2.2 ∈ s.2.2 ↔ ∃ v, v ∈ s.2.1 ∧ e.1 = kI v)) (fun s => es.length - s.2.1.length) (⟨T.box, (li.n, .xo (.it m clk [] clk)) :: T.acc⟩, [], []) mx (by kernel_rfl) ?_ ?_
  · have hnone : lk T.acc li.n = none := fn_lk li
    refine ⟨⟨⟨hT.box, fun l' o ho => ?_⟩, by simp [lk], ?_, ⟨List.nodup_nil, fun v hv => by cases hv⟩, fun e _ => ⟨fun h => (by cases h), fun ⟨v, hv, _⟩ => (by cases hv)⟩⟩, ?_, ?_⟩
    · have := hT.acc _ _ ho
      show lk ((li.n, _) :: T.acc) l' = _
      simp only [lk]
      rw [if_neg (fun e => by rw [e, this] at hnone; cases hnone)]; exact this
    · show lk (X []).acc li.n = none
      cases hx : lk (X []).acc li.n with
      | none => rfl
      | some o => rw [hT.acc _ _ hx] at hnone; cases hnone
    · simp (maxDischargeDepth := 12) (maxSteps := 1000000) -implicitDefEqProofs only [go_sem, Nat.reduceAdd, Nat.reduceSub, Nat.reduceMul, Nat.reduceLeDiff, Nat.reduceEqDiff, Nat.reduceGT, Nat.reduceBEq, reduceCtorEq, ↓reduceIte, Int.reduceToNat, Int.reduceLE, Int.reduceLT, Int.reduceNe, Int.reduceEq]
    · exact .refl _
  · rintro ⟨T, pre, seen⟩ ⟨hT', hi, hiX, hOk, hs⟩
    simp only at hT' hi hiX hOk hs
    have u1 : lk T.box b = some [.mp m] := hT'.box _ _ (hb pre)
    have u2 : lk T.acc m = some (.xo (.mp (.int .i64) es clk)) := hT'.acc _ _ (hm pre)
    have hne : ¬ li.n = m := fun e => by rw [e, hm pre] at hiX; cases hiX
    simp (maxDischargeDepth := 12) (maxSteps := 1000000) -implicitDefEqProofs only [go_sem, Nat.reduceAdd, Nat.reduceSub, Nat.reduceMul, Nat.reduceLeDiff, Nat.reduceEqDiff, Nat.reduceGT, Nat.reduceBEq, reduceCtorEq, ↓reduceIte, Int.reduceToNat, Int.reduceLE, Int.reduceLT, Int.reduceNe, Int.reduceEq, u1, u2, hi]
    refine ⟨fun hall => ⟨pre, ⟨hOk, fun e he => (hs e he).1 (hall e he)⟩, hT'⟩, fun e he hns => ?_⟩
    obtain ⟨a, ha⟩ := isKey_uI (hok.key e he)
    rw [lk_up_ne hne, u2]
    simp (maxDischargeDepth := 12) (maxSteps := 1000000) -implicitDefEqProofs only [go_sem, Nat.reduceAdd, Nat.reduceSub, Nat.reduceMul, Nat.reduceLeDiff, Nat.reduceEqDiff, Nat.reduceGT, Nat.reduceBEq, reduceCtorEq, ↓reduceIte, Int.reduceToNat, Int.reduceLE, Int.reduceLT, Int.reduceNe, Int.reduceEq]
    refine ⟨e, he, ⟨seen, rfl⟩, ?_⟩
    rw [ha]
    have hnew : a ∉ pre := fun h => hns ((hs e he).2 ⟨a, h, ha⟩)
    have hOk' : OkKI es (pre ++ [a]) := ⟨by
      rw [List.nodup_append]
      exact ⟨hOk.1, by simp, fun x hx y hy => by rw [List.mem_singleton.1 hy]; rintro rfl; exact hnew hx⟩, fun v hv => by
      rcases List.mem_append.1 hv with h | h
      · exact hOk.2 v h
      · rw [List.mem_singleton.1 h]; exact ⟨e, he, ha⟩⟩
    have hT1 : Has (X pre) ⟨T.box, up T.acc li.n (.xo (.it m clk (seen ++ [e.2.2]) clk))⟩ := ⟨hT'.box, fun c o hc => by
      rw [lk_up_ne (fun h => by rw [← h, hiX] at hc; cases hc)]; exact hT'.acc c o hc⟩
    simp (maxDischargeDepth := 12) (maxSteps := 1000000) -implicitDefEqProofs only [go_sem, Nat.reduceAdd, Nat.reduceSub, Nat.reduceMul, Nat.reduceLeDiff, Nat.reduceEqDiff, Nat.reduceGT, Nat.reduceBEq, reduceCtorEq, ↓reduceIte, Int.reduceToNat, Int.reduceLE, Int.reduceLT, Int.reduceNe, Int.reduceEq, kI]
    refine useY (hy pre a _ hOk' hT1) ?_
    rintro d T2 ⟨rfl, hT2, hK⟩
    have ui : lk T2.acc li.n = some (.xo (.it m clk (seen ++ [e.2.2]) clk)) := hK.acc _ _ hiX (by rw [lk_up_same, hi]; rfl)
    have hX2 : lk (X (pre ++ [a])).acc li.n = none := lk_dom' ((hda _).trans (hda _).symm) hiX
    have hs2 : ∀ e', e' ∈ es → (e'.2.2 ∈ seen ++ [e.2.2] ↔ ∃ v, v ∈ pre ++ [a] ∧ e'.1 = kI v) := fun e' he' => by
      constructor
      · intro h
        rcases List.mem_append.1 h with h | h
        · obtain ⟨v, h1, h2⟩ := (hs e' he').1 h
          exact ⟨v, List.mem_append_left _ h1, h2⟩
        · have : e' = e := nodup_eq hok.bn he' he (List.mem_singleton.1 h)
          rw [this]; exact ⟨a, by simp, ha⟩
      · rintro ⟨v, h1, h2⟩
        rcases List.mem_append.1 h1 with h | h
        · exact List.mem_append_left _ ((hs e' he').2 ⟨v, h, h2⟩)
        · have : e' = e := nodup_eq hok.nd he' he (by rw [h2, ha, List.mem_singleton.1 h])
          rw [this]; simp
    have hlen : (pre ++ [a]).length ≤ es.length := by
      have h1 : ((pre ++ [a]).map kI).Nodup := nodup_map_inj (fun x y h => by unfold kI at h; cases h; rfl) hOk'.1
      have h2 : ((pre ++ [a]).map kI) ⊆ es.map (·.1) := fun u hu => by
        obtain ⟨v, hv, rfl⟩ := List.mem_map.1 hu
        obtain ⟨e', he', h3⟩ := hOk'.2 v hv
        exact List.mem_map.2 ⟨e', he', h3⟩
      have := nodup_len h1 h2
      simpa using this
    simp (maxDischargeDepth := 12) (maxSteps := 1000000) -implicitDefEqProofs only [go_sem, Nat.reduceAdd, Nat.reduceSub, Nat.reduceMul, Nat.reduceLeDiff, Nat.reduceEqDiff, Nat.reduceGT, Nat.reduceBEq, reduceCtorEq, ↓reduceIte, Int.reduceToNat, Int.reduceLE, Int.reduceLT, Int.reduceNe, Int.reduceEq]
    refine ⟨(T2, pre ++ [a], seen ++ [e.2.2]), ⟨hT2, ui, hX2, hOk', hs2⟩, ?_, .refl _⟩
    show es.length - (pre ++ [a]).length < es.length - pre.length
    rw [List.length_append] at hlen ⊢
    simp only [List.length_cons, List.length_nil] at *
    omega
theorem lk_upB' (L : List (Nat × List DV)) (b c : Nat) (v : List DV) : lk (up L b v) c = if b = c then (lk L c).map (fun _ => v) else lk L c := by
  split
  · rename_i e; subst e; exact lk_up_same _ _ _
  · rename_i e; exact lk_up_ne e _ _
theorem lk_upA' (L : List (Nat × Ob)) (b c : Nat) (v : Ob) : lk (up L b v) c = if b = c then (lk L c).map (fun _ => v) else lk L c := by
  split
  · rename_i e; subst e; exact lk_up_same _ _ _
  · rename_i e; exact lk_up_ne e _ _
theorem Has_upd' {X T : St} {b : Nat} (h : Has X T) (v : List DV) : Has ⟨up X.box b v, X.acc⟩ ⟨up T.box b v, T.acc⟩ := ⟨fun c x hc => by
  simp only [lk_upB'] at hc ⊢
  split at hc
  · rename_i e
    obtain ⟨y, hy, rfl⟩ := Option.map_eq_some_iff.1 hc
    rw [h.box _ _ hy, if_pos e]; rfl
  · rename_i e
    rw [if_neg e]; exact h.box _ _ hc, h.acc⟩
theorem Has_upd2' {X T : St} {b l : Nat} (h : Has X T) (v : List DV) (o : Ob) : Has ⟨up X.box b v, up X.acc l o⟩ ⟨up T.box b v, up T.acc l o⟩ := ⟨(Has_upd' h v).box, fun c x hc => by
  simp only [lk_upA'] at hc ⊢
  split at hc
  · rename_i e
    obtain ⟨y, hy, rfl⟩ := Option.map_eq_some_iff.1 hc
    rw [h.acc _ _ hy, if_pos e]; rfl
  · rename_i e
    rw [if_neg e]; exact h.acc _ _ hc⟩
theorem Kp_up2' {X T : St} {b l : Nat} {v : List DV} {o : Ob} (hb : ¬ lk X.box b = none) (hl : ¬ lk X.acc l = none) : Kp X T ⟨up T.box b v, up T.acc l o⟩ := ⟨fun c x hc hx => by
  show lk (up T.box b v) c = some x
  rw [lk_up_ne (fun e => hb (by rw [e]; exact hc))]; exact hx, fun c x hc hx => by
  show lk (up T.acc l o) c = some x
  rw [lk_up_ne (fun e => hl (by rw [e]; exact hc))]; exact hx⟩
theorem appendSeqWI (w0 : W0) {b m clk : Nat} {es : List (Value × DV × Nat)} {S : St} (hb : lk S.box b = some [.mp m]) (hm : lk S.acc m = some (.xo (.mp (.int .i64) es clk))) (hok : MapOk (.int .i64) es clk) (hlen : es.length ≤ 1048576) :
    ACall Try.prog w0 43 [.sl 0 true [], .v (.func (.func 39) #[] #[.pointer (some ⟨b, 0, none⟩)])] S (fun d S' => ∃ (V : List Int) (r : FN S.acc), FinKI es V ∧ d = .acc r.n V.length ∧ S' = ⟨S.box, (r.n, .arr 1 (V.map dI)) :: S.acc⟩) := by
  refine fnP [] mx Try.func43 rfl rfl (by kernel_rfl) ?_; simp (maxDischargeDepth := 12) (maxSteps := 1000000) -implicitDefEqProofs only [Try.ntmps43, go_sem, Nat.reduceAdd, Nat.reduceSub, Nat.reduceMul, Nat.reduceLeDiff, Nat.reduceEqDiff, Nat.reduceGT, Nat.reduceBEq, reduceCtorEq, ↓reduceIte, Int.reduceToNat, Int.reduceLE, Int.reduceLT, Int.reduceNe, Int.reduceEq]
  intro s
  refine awp_growB s.n 0 1 (by omega) (ds := [.sl 0 true []]) (by simp (maxDischargeDepth := 12) (maxSteps := 1000000) -implicitDefEqProofs only [go_sem, Nat.reduceAdd, Nat.reduceSub, Nat.reduceMul, Nat.reduceLeDiff, Nat.reduceEqDiff, Nat.reduceGT, Nat.reduceBEq, reduceCtorEq, ↓reduceIte, Int.reduceToNat, Int.reduceLE, Int.reduceLT, Int.reduceNe, Int.reduceEq]) rfl fun lb => ?_
  simp (maxDischargeDepth := 12) (maxSteps := 1000000) -implicitDefEqProofs only [go_sem, Nat.reduceAdd, Nat.reduceSub, Nat.reduceMul, Nat.reduceLeDiff, Nat.reduceEqDiff, Nat.reduceGT, Nat.reduceBEq, reduceCtorEq, ↓reduceIte, Int.reduceToNat, Int.reduceLE, Int.reduceLT, Int.reduceNe, Int.reduceEq]
  refine rangeO [] (fun pre => ⟨(s.n, [.acc lb.n pre.length]) :: S.box, (lb.n, .arr 1 (pre.map dI)) :: S.acc⟩) (fun x => [dI x]) (OkKI es) (FinKI es) mx (by kernel_rfl) rfl rfl rfl (fun _ => rfl) (fun _ => rfl) (fun _ => rfl) ?_ ?_ ?_
  · intro l w1 hy T hT
    refine keysIterI w1 l b m clk es _ (fun pre => ?_) (fun pre => ?_) (fun _ => rfl) hok hy T hT
    · have hsb : ¬ s.n = b := fun e => by have := fn_lk s; rw [e, hb] at this; cases this
      simp (maxDischargeDepth := 12) (maxSteps := 1000000) -implicitDefEqProofs only [go_sem, Nat.reduceAdd, Nat.reduceSub, Nat.reduceMul, Nat.reduceLeDiff, Nat.reduceEqDiff, Nat.reduceGT, Nat.reduceBEq, reduceCtorEq, ↓reduceIte, Int.reduceToNat, Int.reduceLE, Int.reduceLT, Int.reduceNe, Int.reduceEq, hsb, hb]
    · have hsb : ¬ lb.n = m := fun e => by have := fn_lk lb; rw [e, hm] at this; cases this
      simp (maxDischargeDepth := 12) (maxSteps := 1000000) -implicitDefEqProofs only [go_sem, Nat.reduceAdd, Nat.reduceSub, Nat.reduceMul, Nat.reduceLeDiff, Nat.reduceEqDiff, Nat.reduceGT, Nat.reduceBEq, reduceCtorEq, ↓reduceIte, Int.reduceToNat, Int.reduceLE, Int.reduceLT, Int.reduceNe, Int.reduceEq, hsb, hm]
  · intro pre x T hOk hT
    have t1 : lk T.box s.n = some [.acc lb.n pre.length] := hT.box _ _ (by simp (maxDischargeDepth := 12) (maxSteps := 1000000) -implicitDefEqProofs only [go_sem, Nat.reduceAdd, Nat.reduceSub, Nat.reduceMul, Nat.reduceLeDiff, Nat.reduceEqDiff, Nat.reduceGT, Nat.reduceBEq, reduceCtorEq, ↓reduceIte, Int.reduceToNat, Int.reduceLE, Int.reduceLT, Int.reduceNe, Int.reduceEq])
    have u1 : lk T.acc lb.n = some (.arr 1 (pre.map dI)) := hT.acc _ _ (by simp (maxDischargeDepth := 12) (maxSteps := 1000000) -implicitDefEqProofs only [go_sem, Nat.reduceAdd, Nat.reduceSub, Nat.reduceMul, Nat.reduceLeDiff, Nat.reduceEqDiff, Nat.reduceGT, Nat.reduceBEq, reduceCtorEq, ↓reduceIte, Int.reduceToNat, Int.reduceLE, Int.reduceLT, Int.reduceNe, Int.reduceEq])
    have hpl : (pre ++ [x]).length ≤ 1048576 := by
      have h1 : ((pre ++ [x]).map kI).Nodup := nodup_map_inj (fun x y h => by unfold kI at h; cases h; rfl) hOk.1
      have h2 : ((pre ++ [x]).map kI) ⊆ es.map (·.1) := fun u hu => by
        obtain ⟨v, hv, rfl⟩ := List.mem_map.1 hu
        obtain ⟨e', he', h3⟩ := hOk.2 v hv
        exact List.mem_map.2 ⟨e', he', h3⟩
      have := nodup_len h1 h2
      simp only [List.length_map] at this
      omega
    rw [List.length_append] at hpl
    simp only [List.length_cons, List.length_nil] at hpl
    have hm8 : maxLen = 9223372036854775807 := rfl
    have hu : (⟨up ((s.n, [.acc lb.n pre.length]) :: S.box) s.n [.acc lb.n (pre ++ [x]).length], up ((lb.n, .arr 1 (pre.map dI)) :: S.acc) lb.n (.arr 1 ((pre ++ [x]).map dI))⟩ : St) = ⟨(s.n, [.acc lb.n (pre ++ [x]).length]) :: S.box, (lb.n, .arr 1 ((pre ++ [x]).map dI)) :: S.acc⟩ := by simp (maxDischargeDepth := 12) (maxSteps := 1000000) -implicitDefEqProofs only [go_sem, Nat.reduceAdd, Nat.reduceSub, Nat.reduceMul, Nat.reduceLeDiff, Nat.reduceEqDiff, Nat.reduceGT, Nat.reduceBEq, reduceCtorEq, ↓reduceIte, Int.reduceToNat, Int.reduceLE, Int.reduceLT, Int.reduceNe, Int.reduceEq]
    have hH := Has_upd2' (b := s.n) (l := lb.n) hT [.acc lb.n (pre ++ [x]).length] (.arr 1 ((pre ++ [x]).map dI))
    have hK : ∀ v o, Kp ⟨(s.n, [.acc lb.n pre.length]) :: S.box, (lb.n, .arr 1 (pre.map dI)) :: S.acc⟩ T ⟨up T.box s.n v, up T.acc lb.n o⟩ := fun v o => Kp_up2' (by simp (maxDischargeDepth := 12) (maxSteps := 1000000) -implicitDefEqProofs only [go_sem, Nat.reduceAdd, Nat.reduceSub, Nat.reduceMul, Nat.reduceLeDiff, Nat.reduceEqDiff, Nat.reduceGT, Nat.reduceBEq, reduceCtorEq, ↓reduceIte, Int.reduceToNat, Int.reduceLE, Int.reduceLT, Int.reduceNe, Int.reduceEq]) (by simp (maxDischargeDepth := 12) (maxSteps := 1000000) -implicitDefEqProofs only [go_sem, Nat.reduceAdd, Nat.reduceSub, Nat.reduceMul, Nat.reduceLeDiff, Nat.reduceEqDiff, Nat.reduceGT, Nat.reduceBEq, reduceCtorEq, ↓reduceIte, Int.reduceToNat, Int.reduceLE, Int.reduceLT, Int.reduceNe, Int.reduceEq])
    simp only [setPs]
    simp (maxDischargeDepth := 12) (maxSteps := 1000000) -implicitDefEqProofs only [go_sem, Nat.reduceAdd, Nat.reduceSub, Nat.reduceMul, Nat.reduceLeDiff, Nat.reduceEqDiff, Nat.reduceGT, Nat.reduceBEq, reduceCtorEq, ↓reduceIte, Int.reduceToNat, Int.reduceLE, Int.reduceLT, Int.reduceNe, Int.reduceEq, t1, u1, hm8]
    have hmap : (pre ++ [x]).map dI = pre.map dI ++ [.v (.int .i64 x)] := by simp [dI]
    have hlen' : (pre ++ [x]).length = pre.length + 1 := by simp
    rw [hu, hmap, hlen'] at hH
    rw [hmap]
    exact ⟨by omega, by omega, hH, hK _ _⟩
  · intro V hV
    simp (maxDischargeDepth := 12) (maxSteps := 1000000) -implicitDefEqProofs only [go_sem, Nat.reduceAdd, Nat.reduceSub, Nat.reduceMul, Nat.reduceLeDiff, Nat.reduceEqDiff, Nat.reduceGT, Nat.reduceBEq, reduceCtorEq, ↓reduceIte, Int.reduceToNat, Int.reduceLE, Int.reduceLT, Int.reduceNe, Int.reduceEq]
    exact ⟨_, _, .refl _, (Sub.refl _).consB, V, lb, hV, rfl, rfl⟩
theorem collectWI (w0 : W0) {b m clk : Nat} {es : List (Value × DV × Nat)} {S : St} (hb : lk S.box b = some [.mp m]) (hm : lk S.acc m = some (.xo (.mp (.int .i64) es clk))) (hok : MapOk (.int .i64) es clk) (hlen : es.length ≤ 1048576) :
    ACall Try.prog w0 37 [.v (.func (.func 39) #[] #[.pointer (some ⟨b, 0, none⟩)])] S (fun d S' => ∃ (V : List Int) (r : FN S.acc), FinKI es V ∧ d = .acc r.n V.length ∧ S' = ⟨S.box, (r.n, .arr 1 (V.map dI)) :: S.acc⟩) := by
  refine fnO [] mx Try.func37 rfl rfl (by kernel_rfl) ?_; simp (maxDischargeDepth := 12) (maxSteps := 1000000) -implicitDefEqProofs only [Try.ntmps37, go_sem, Nat.reduceAdd, Nat.reduceSub, Nat.reduceMul, Nat.reduceLeDiff, Nat.reduceEqDiff, Nat.reduceGT, Nat.reduceBEq, reduceCtorEq, ↓reduceIte, Int.reduceToNat, Int.reduceLE, Int.reduceLT, Int.reduceNe, Int.reduceEq]
  refine useK (appendSeqWI w0 hb hm hok hlen) ?_
  rintro _ _ ⟨V, r, hV, rfl, rfl⟩
  simp (maxDischargeDepth := 12) (maxSteps := 1000000) -implicitDefEqProofs only [go_sem, Nat.reduceAdd, Nat.reduceSub, Nat.reduceMul, Nat.reduceLeDiff, Nat.reduceEqDiff, Nat.reduceGT, Nat.reduceBEq, reduceCtorEq, ↓reduceIte, Int.reduceToNat, Int.reduceLE, Int.reduceLT, Int.reduceNe, Int.reduceEq]
  exact ⟨V, r, hV, rfl, rfl⟩
theorem bx_mp (S : St) (l : Nat) (K : DV → St → Prop) : bxK S (.mp l) K = ∀ b : FN S.box, K (.v (.pointer (some ⟨b.n, 0, none⟩))) ⟨(b.n, [.mp l]) :: S.box, S.acc⟩ := n_bx _
attribute [go_sem] bx_mp
theorem keysWI (w0 : W0) {m : Nat} (S : St) : ACall Try.prog w0 32 [.mp m] S (fun d S' => ∃ b : FN S.box, d = .v (.func (.func 39) #[] #[.pointer (some ⟨b.n, 0, none⟩)]) ∧ S' = ⟨(b.n, [.mp m]) :: S.box, S.acc⟩) := by
  refine fnO [] mx Try.func32 rfl rfl (by kernel_rfl) ?_; simp (maxDischargeDepth := 12) (maxSteps := 1000000) -implicitDefEqProofs only [Try.ntmps32, go_sem, Nat.reduceAdd, Nat.reduceSub, Nat.reduceMul, Nat.reduceLeDiff, Nat.reduceEqDiff, Nat.reduceGT, Nat.reduceBEq, reduceCtorEq, ↓reduceIte, Int.reduceToNat, Int.reduceLE, Int.reduceLT, Int.reduceNe, Int.reduceEq]
  intro b
  exact ⟨b, rfl, rfl⟩
theorem finI_len {es : List (Value × DV × Nat)} {V : List Int} (hV : FinKI es V) : V.length ≤ es.length := by
  have h1 : (V.map kI).Nodup := nodup_map_inj (fun x y h => by unfold kI at h; cases h; rfl) hV.1.1
  have h2 : (V.map kI) ⊆ es.map (·.1) := fun u hu => by
    obtain ⟨v, hv, rfl⟩ := List.mem_map.1 hu
    obtain ⟨e', he', h3⟩ := hV.1.2 v hv
    exact List.mem_map.2 ⟨e', he', h3⟩
  have := nodup_len h1 h2
  simpa using this
theorem sortedWI (w0 : W0) {b m clk : Nat} {es : List (Value × DV × Nat)} {S : St} (hb : lk S.box b = some [.mp m]) (hm : lk S.acc m = some (.xo (.mp (.int .i64) es clk))) (hok : MapOk (.int .i64) es clk) (hlen : es.length ≤ 1048576) :
    ACall Try.prog w0 31 [.v (.func (.func 39) #[] #[.pointer (some ⟨b, 0, none⟩)])] S (fun d S' => ∃ (V : List Int) (r : FN S.acc), FinKI es V ∧ d = .acc r.n V.length ∧ S' = ⟨S.box, (r.n, .arr 1 ((srt V).map dI)) :: S.acc⟩) := by
  refine fnO [] mx Try.func31 rfl rfl (by kernel_rfl) ?_; simp (maxDischargeDepth := 12) (maxSteps := 1000000) -implicitDefEqProofs only [Try.ntmps31, go_sem, Nat.reduceAdd, Nat.reduceSub, Nat.reduceMul, Nat.reduceLeDiff, Nat.reduceEqDiff, Nat.reduceGT, Nat.reduceBEq, reduceCtorEq, ↓reduceIte, Int.reduceToNat, Int.reduceLE, Int.reduceLT, Int.reduceNe, Int.reduceEq]
  refine useK (collectWI w0 hb hm hok hlen) ?_
  rintro _ _ ⟨V, r, hV, rfl, rfl⟩
  simp (maxDischargeDepth := 12) (maxSteps := 1000000) -implicitDefEqProofs only [go_sem, Nat.reduceAdd, Nat.reduceSub, Nat.reduceMul, Nat.reduceLeDiff, Nat.reduceEqDiff, Nat.reduceGT, Nat.reduceBEq, reduceCtorEq, ↓reduceIte, Int.reduceToNat, Int.reduceLE, Int.reduceLT, Int.reduceNe, Int.reduceEq]
  have hVl := finI_len hV
  refine .inl (useK (sort_int w0 (l := r.n) (zs := V) (S := ⟨S.box, (r.n, .arr 1 (V.map dI)) :: S.acc⟩) (by simp [lk]) (by omega)) ?_)
  rintro _ _ ⟨rfl, rfl⟩
  simp (maxDischargeDepth := 12) (maxSteps := 1000000) -implicitDefEqProofs only [go_sem, Nat.reduceAdd, Nat.reduceSub, Nat.reduceMul, Nat.reduceLeDiff, Nat.reduceEqDiff, Nat.reduceGT, Nat.reduceBEq, reduceCtorEq, ↓reduceIte, Int.reduceToNat, Int.reduceLE, Int.reduceLT, Int.reduceNe, Int.reduceEq]
  exact ⟨V, r, hV, rfl, rfl⟩
end Go.Proofs.Ytodndiioekjjoaa

namespace Go.Proofs.Ytodndiioekjjoaa
open Aml Go
set_option linter.unusedVariables false
set_option linter.unusedSimpArgs false
set_option maxRecDepth 100000
theorem srt_isH {a b : List Int} (h1 : a.Pairwise (· ≤ ·)) (h2 : a.Perm b) : srt b = a := by
  have hb : (srt b).Pairwise (· ≤ ·) := by
    have := List.pairwise_mergeSort (le := fun x y : Int => decide (x ≤ y)) (by intro a b c; simp; omega) (by intro a b; simp; omega) b
    exact this.imp fun h => by simpa using h
  exact (h2.trans (List.mergeSort_perm b _).symm).symm.eq_of_pairwise (fun a b _ _ h k => Int.le_antisymm h k) hb h1
theorem finI_srt {es : List (Value × DV × Nat)} {V sn : List Int} (hV : FinKI es V) (hes : ∀ x, mGet es (kI x) = if x ∈ sn then some (dI 1) else none) (hr : sn.Pairwise (· < ·)) : srt V = sn := by
  refine srt_isH (hr.imp fun h => Int.le_of_lt h) ((List.perm_ext_iff_of_nodup (hr.imp fun h => by omega) hV.1.1).2 fun x => ?_)
  have h1 := hes x
  constructor
  · intro hx
    rw [if_pos hx] at h1
    obtain ⟨bn, hm⟩ := mGet_mem h1
    obtain ⟨v, hv, e⟩ := hV.2 _ hm
    unfold kI at e
    cases e
    exact hv
  · intro hx
    obtain ⟨e, he, hk⟩ := hV.1.2 x hx
    by_cases hn : x ∈ sn
    · exact hn
    · rw [if_neg hn] at h1
      exact absurd hk (mGet_none.1 h1 e he)
set_option maxHeartbeats 4000000 in
theorem snapsP (w0 : W0) {S : St} {t l1 l2 : Nat} {es1 : List (Value × DV × Nat)} {c1 : Nat} {es2 : List (Value × DV × Nat)} {c2 : Nat} (h : TbM S t l1 l2 es1 c1 es2 c2) (lv n : Int) (b m : Nat) (hg : mGet es2 (kyH lv n) = some (ptH b)) (la : Int) (es : List (Value × DV × Nat)) (c : Nat)
    (hb : lk S.box b = some [dI la, .mp m]) (hm : lk S.acc m = some (.xo (.mp (.int .i64) es c))) (sn : List Int) (hes : ∀ x, mGet es (kI x) = if x ∈ sn then some (dI 1) else none) (hr : sn.Pairwise (· < ·)) (hl : es.length ≤ 1048576) :
    ACall Try.prog w0 22 [ptH t, dHd lv n] S (fun d S' => d = dL sn ∧ S' = S) := by
  have ho := fun T (hT : TbM T t l1 l2 es1 c1 es2 c2) => ofP w0 hT lv n (some b) hg
  refine acall_mapOk hm fun hok => ?_
  refine fnS [] mx Try.func22 rfl rfl (by kernel_rfl) ?_; simp (maxDischargeDepth := 12) (maxSteps := 1000000) -implicitDefEqProofs only [Try.ntmps22, go_sem, Nat.reduceAdd, Nat.reduceSub, Nat.reduceMul, Nat.reduceLeDiff, Nat.reduceEqDiff, Nat.reduceGT, Nat.reduceBEq, reduceCtorEq, ↓reduceIte, Int.reduceToNat, Int.reduceLE, Int.reduceLT, Int.reduceNe, Int.reduceEq]
  intro b3
  refine use1 (ho _ ⟨by simp (maxDischargeDepth := 12) (maxSteps := 1000000) -implicitDefEqProofs only [go_sem, Nat.reduceAdd, Nat.reduceSub, Nat.reduceMul, Nat.reduceLeDiff, Nat.reduceEqDiff, Nat.reduceGT, Nat.reduceBEq, reduceCtorEq, ↓reduceIte, Int.reduceToNat, Int.reduceLE, Int.reduceLT, Int.reduceNe, Int.reduceEq, h.tb], h.m1, h.m2⟩) ?_
  unfold pnH
  simp (maxDischargeDepth := 12) (maxSteps := 1000000) -implicitDefEqProofs only [go_sem, Nat.reduceAdd, Nat.reduceSub, Nat.reduceMul, Nat.reduceLeDiff, Nat.reduceEqDiff, Nat.reduceGT, Nat.reduceBEq, reduceCtorEq, ↓reduceIte, Int.reduceToNat, Int.reduceLE, Int.reduceLT, Int.reduceNe, Int.reduceEq, hb]
  refine useK (keysWI w0 _) ?_
  rintro _ _ ⟨b4, rfl, rfl⟩
  simp (maxDischargeDepth := 12) (maxSteps := 1000000) -implicitDefEqProofs only [go_sem, Nat.reduceAdd, Nat.reduceSub, Nat.reduceMul, Nat.reduceLeDiff, Nat.reduceEqDiff, Nat.reduceGT, Nat.reduceBEq, reduceCtorEq, ↓reduceIte, Int.reduceToNat, Int.reduceLE, Int.reduceLT, Int.reduceNe, Int.reduceEq]
  refine useK (sortedWI w0 (b := b4.n) (m := m) (clk := c) (es := es) (by simp [lk]) hm hok hl) ?_
  rintro _ _ ⟨V, r, hV, rfl, rfl⟩
  have hs := finI_srt hV hes hr
  rw [hs]
  simp (maxDischargeDepth := 12) (maxSteps := 1000000) -implicitDefEqProofs only [go_sem, Nat.reduceAdd, Nat.reduceSub, Nat.reduceMul, Nat.reduceLeDiff, Nat.reduceEqDiff, Nat.reduceGT, Nat.reduceBEq, reduceCtorEq, ↓reduceIte, Int.reduceToNat, Int.reduceLE, Int.reduceLT, Int.reduceNe, Int.reduceEq]
  rw [← hs]
  exact srt_length V
theorem snapsP0 (w0 : W0) {S : St} {t l1 l2 : Nat} {es1 : List (Value × DV × Nat)} {c1 : Nat} {es2 : List (Value × DV × Nat)} {c2 : Nat} (h : TbM S t l1 l2 es1 c1 es2 c2) (lv n : Int) (hg : mGet es2 (kyH lv n) = none) :
    ACall Try.prog w0 22 [ptH t, dHd lv n] S (fun d S' => d = dL [] ∧ S' = S) := by
  have ho := fun T (hT : TbM T t l1 l2 es1 c1 es2 c2) => ofP w0 hT lv n none hg
  refine fnS [] mx Try.func22 rfl rfl (by kernel_rfl) ?_; simp (maxDischargeDepth := 12) (maxSteps := 1000000) -implicitDefEqProofs only [Try.ntmps22, go_sem, Nat.reduceAdd, Nat.reduceSub, Nat.reduceMul, Nat.reduceLeDiff, Nat.reduceEqDiff, Nat.reduceGT, Nat.reduceBEq, reduceCtorEq, ↓reduceIte, Int.reduceToNat, Int.reduceLE, Int.reduceLT, Int.reduceNe, Int.reduceEq]
  intro b3
  refine use1 (ho _ ⟨by simp (maxDischargeDepth := 12) (maxSteps := 1000000) -implicitDefEqProofs only [go_sem, Nat.reduceAdd, Nat.reduceSub, Nat.reduceMul, Nat.reduceLeDiff, Nat.reduceEqDiff, Nat.reduceGT, Nat.reduceBEq, reduceCtorEq, ↓reduceIte, Int.reduceToNat, Int.reduceLE, Int.reduceLT, Int.reduceNe, Int.reduceEq, h.tb], h.m1, h.m2⟩) ?_
  unfold pnH
  simp (maxDischargeDepth := 12) (maxSteps := 1000000) -implicitDefEqProofs only [go_sem, Nat.reduceAdd, Nat.reduceSub, Nat.reduceMul, Nat.reduceLeDiff, Nat.reduceEqDiff, Nat.reduceGT, Nat.reduceBEq, reduceCtorEq, ↓reduceIte, Int.reduceToNat, Int.reduceLE, Int.reduceLT, Int.reduceNe, Int.reduceEq]
end Go.Proofs.Ytodndiioekjjoaa

namespace Go.Proofs.Ytodndiioekjjoaa
open Aml Go
set_option linter.unusedVariables false
set_option linter.unusedSimpArgs false
set_option maxRecDepth 100000
def kH (a : Int × Int) : Value := .agg [Value.int .i64 a.1, .int .i64 a.2].toArray
@[go_sem] def dHp (a : Int × Int) : DV := .agg [dI a.1, dI a.2]
theorem kH_inj {x y : Int × Int} (h : kH x = kH y) : x = y := by
  unfold kH at h
  simp at h
  exact Prod.ext h.1 h.2
theorem hasN6 {X T : St} (h : Has X T) {b : Nat} (hb : lk T.box b = none) (ds : List DV) {A : List (Nat × Ob)} (hA : A = T.acc) : Has X ⟨(b, ds) :: T.box, A⟩ := ⟨fun c x hc => by
  have := h.box c x hc
  simp only [lk]
  rw [if_neg (fun e => by rw [e, this] at hb; cases hb)]; exact this, by subst hA; exact h.acc⟩
theorem kpN6 {X T T' : St} (h : Kp X T T') {b : Nat} (hb : lk T'.box b = none) (ds : List DV) {A : List (Nat × Ob)} (hA : A = T'.acc) : Kp X T ⟨(b, ds) :: T'.box, A⟩ := ⟨fun c x hc hx => by
  have := h.box c x hc hx
  simp only [lk]
  rw [if_neg (fun e => by rw [e, this] at hb; cases hb)]; exact this, by subst hA; exact h.acc⟩
/-- Keys that were, each once. -/
def OkKH (es : List (Value × DV × Nat)) (pre : List (Int × Int)) : Prop := pre.Nodup ∧ ∀ v, v ∈ pre → ∃ e, e ∈ es ∧ e.1 = kH v
def FinKH (es : List (Value × DV × Nat)) (V : List (Int × Int)) : Prop := OkKH es V ∧ ∀ e, e ∈ es → ∃ v, v ∈ V ∧ e.1 = kH v
theorem isKey_uH {u : Value} (h : isKey (.st [.i64, .i64]) u = true) : ∃ a, u = kH a := by
  obtain ⟨us, rfl, h5⟩ := isKey_agg h
  have one : ∀ (k : IntKind) (ks : List IntKind) (us : List Value), Aml.isKeyL (k :: ks) us = true → ∃ a us', us = .int k a :: us' ∧ Aml.isKeyL ks us' = true := fun k ks us h => by
    cases us with
    | nil => cases h
    | cons u us =>
      cases u with
      | int k' a =>
        have h9 : (decide (k' = k) && Aml.isKeyL ks us) = true := h
        rw [Bool.and_eq_true, decide_eq_true_eq] at h9
        obtain ⟨e9, h9⟩ := h9
        subst e9
        exact ⟨a, us, rfl, h9⟩
      | _ => cases h
  obtain ⟨a, us, rfl, h6⟩ := one _ _ _ h5
  obtain ⟨b, us, rfl, h7⟩ := one _ _ _ h6
  cases us with
  | nil => exact ⟨(a, b), rfl⟩
  | cons u us => cases h7
theorem keysIterH (w1 : W0) (l b m clk : Nat) (es : List (Value × DV × Nat)) (X : List (Int × Int) → St)
    (hb : ∀ pre, lk (X pre).box b = some [.mp m]) (hm : ∀ pre, lk (X pre).acc m = some (.xo (.mp (.st [.i64, .i64]) es clk)))
    (hda : ∀ pre, (X pre).acc.map (·.1) = (X []).acc.map (·.1)) (hok : MapOk (.st [.i64, .i64]) es clk)
    (hy : YKo Try.prog w1 l X (fun x => [dHp x]) (OkKH es)) : ∀ T, Has (X []) T → ACall Try.prog w1 35 [.v (.func (.yield l) #[] #[]), .v (.pointer (some ⟨b, 0, none⟩))] T fun _ T' => ∃ V, FinKH es V ∧ Has (X V) T' := by
  intro T hT
  have t1 : lk T.box b = some [.mp m] := hT.box _ _ (hb [])
  have t2 : lk T.acc m = some (.xo (.mp (.st [.i64, .i64]) es clk)) := hT.acc _ _ (hm [])
  refine fnO [] mx Try.func35 rfl rfl (by kernel_rfl) ?_; simp only [Try.ntmps35, List.length_cons, List.length_nil, Nat.reduceAdd, Nat.reduceSub, List.reduceReplicate, List.cons_append, List.nil_append]; simp (maxDischargeDepth := 12) (maxSteps := 1000000) -implicitDefEqProofs only [Try.ntmps35, go_sem, Nat.reduceAdd, Nat.reduceSub, Nat.reduceMul, Nat.reduceLeDiff, Nat.reduceEqDiff, Nat.reduceGT, Nat.reduceBEq, reduceCtorEq, ↓reduceIte, Int.reduceToNat, Int.reduceLE, Int.reduceLT, Int.reduceNe, Int.reduceEq, t1, t2]
  intro li
  refine loopK [] [0, 5] (fun s : St × List (Int × Int) × List Nat => []) (fun s => s.1) (fun s => Has (X s.2.1) s.1 ∧ lk s.1.acc li.n = some (.xo (.it m clk s.2.2 clk)) ∧ lk (X s.2.1).acc li.n = none ∧ OkKH es s.2.1 ∧ ∀ e, e ∈ es → (e.2.2 ∈ s.2.2 ↔ ∃ v, v ∈ s.2.1 ∧ e.1 = kH v)) (fun s => es.length - s.2.1.length) (⟨T.box, (li.n, .xo (.it m clk [] clk)) :: T.acc⟩, [], []) mx (by kernel_rfl) ?_ ?_
  · have hnone : lk T.acc li.n = none := fn_lk li
    refine ⟨⟨⟨hT.box, fun l' o ho => ?_⟩, by simp [lk], ?_, ⟨List.nodup_nil, fun v hv => by cases hv⟩, fun e _ => ⟨fun h => (by cases h), fun ⟨v, hv, _⟩ => (by cases hv)⟩⟩, ?_, ?_⟩
    · have := hT.acc _ _ ho
      show lk ((li.n, _) :: T.acc) l' = _
      simp only [lk]
      rw [if_neg (fun e => by rw [e, this] at hnone; cases hnone)]; exact this
    · show lk (X []).acc li.n = none
      cases hx : lk (X []).acc li.n with
      | none => rfl
      | some o => rw [hT.acc _ _ hx] at hnone; cases hnone
    · simp (maxDischargeDepth := 12) (maxSteps := 1000000) -implicitDefEqProofs only [go_sem, Nat.reduceAdd, Nat.reduceSub, Nat.reduceMul, Nat.reduceLeDiff, Nat.reduceEqDiff, Nat.reduceGT, Nat.reduceBEq, reduceCtorEq, ↓reduceIte, Int.reduceToNat, Int.reduceLE, Int.reduceLT, Int.reduceNe, Int.reduceEq]
    · exact .refl _
  · rintro ⟨T, pre, seen⟩ ⟨hT', hi, hiX, hOk, hs⟩
    simp only at hT' hi hiX hOk hs
    have u1 : lk T.box b = some [.mp m] := hT'.box _ _ (hb pre)
    have u2 : lk T.acc m = some (.xo (.mp (.st [.i64, .i64]) es clk)) := hT'.acc _ _ (hm pre)
    have hne : ¬ li.n = m := fun e => by rw [e, hm pre] at hiX; cases hiX
    simp (maxDischargeDepth := 12) (maxSteps := 1000000) -implicitDefEqProofs only [go_sem, Nat.reduceAdd, Nat.reduceSub, Nat.reduceMul, Nat.reduceLeDiff, Nat.reduceEqDiff, Nat.reduceGT, Nat.reduceBEq, reduceCtorEq, ↓reduceIte, Int.reduceToNat, Int.reduceLE, Int.reduceLT, Int.reduceNe, Int.reduceEq, u1, u2, hi]
    refine ⟨fun hall => ⟨pre, ⟨hOk, fun e he => (hs e he).1 (hall e he)⟩, hT'⟩, fun e he hns => ?_⟩
    obtain ⟨a, ha⟩ := isKey_uH (hok.key e he)
    rw [lk_up_ne hne, u2]
    simp (maxDischargeDepth := 12) (maxSteps := 1000000) -implicitDefEqProofs only [go_sem, Nat.reduceAdd, Nat.reduceSub, Nat.reduceMul, Nat.reduceLeDiff, Nat.reduceEqDiff, Nat.reduceGT, Nat.reduceBEq, reduceCtorEq, ↓reduceIte, Int.reduceToNat, Int.reduceLE, Int.reduceLT, Int.reduceNe, Int.reduceEq]
    refine ⟨e, he, ⟨seen, rfl⟩, ?_⟩
    rw [ha]
    have hnew : a ∉ pre := fun h => hns ((hs e he).2 ⟨a, h, ha⟩)
    have hOk' : OkKH es (pre ++ [a]) := ⟨by
      rw [List.nodup_append]
      exact ⟨hOk.1, by simp, fun x hx y hy => by rw [List.mem_singleton.1 hy]; rintro rfl; exact hnew hx⟩, fun v hv => by
      rcases List.mem_append.1 hv with h | h
      · exact hOk.2 v h
      · rw [List.mem_singleton.1 h]; exact ⟨e, he, ha⟩⟩
    have hT1 : Has (X pre) ⟨T.box, up T.acc li.n (.xo (.it m clk (seen ++ [e.2.2]) clk))⟩ := ⟨hT'.box, fun c o hc => by
      rw [lk_up_ne (fun h => by rw [← h, hiX] at hc; cases hc)]; exact hT'.acc c o hc⟩
    simp (maxDischargeDepth := 12) (maxSteps := 1000000) -implicitDefEqProofs only [go_sem, Nat.reduceAdd, Nat.reduceSub, Nat.reduceMul, Nat.reduceLeDiff, Nat.reduceEqDiff, Nat.reduceGT, Nat.reduceBEq, reduceCtorEq, ↓reduceIte, Int.reduceToNat, Int.reduceLE, Int.reduceLT, Int.reduceNe, Int.reduceEq, kH]
    intro bk
    refine useY (hy pre a _ hOk' (hT1.consB bk _ rfl)) ?_
    rintro d T2 ⟨rfl, hT2, hK⟩
    have ui : lk T2.acc li.n = some (.xo (.it m clk (seen ++ [e.2.2]) clk)) := hK.acc _ _ hiX (by show lk (up T.acc li.n _) li.n = _; rw [lk_up_same, hi]; rfl)
    have hX2 : lk (X (pre ++ [a])).acc li.n = none := lk_dom' ((hda _).trans (hda _).symm) hiX
    have hs2 : ∀ e', e' ∈ es → (e'.2.2 ∈ seen ++ [e.2.2] ↔ ∃ v, v ∈ pre ++ [a] ∧ e'.1 = kH v) := fun e' he' => by
      constructor
      · intro h
        rcases List.mem_append.1 h with h | h
        · obtain ⟨v, h1, h2⟩ := (hs e' he').1 h
          exact ⟨v, List.mem_append_left _ h1, h2⟩
        · have : e' = e := nodup_eq hok.bn he' he (List.mem_singleton.1 h)
          rw [this]; exact ⟨a, by simp, ha⟩
      · rintro ⟨v, h1, h2⟩
        rcases List.mem_append.1 h1 with h | h
        · exact List.mem_append_left _ ((hs e' he').2 ⟨v, h, h2⟩)
        · have : e' = e := nodup_eq hok.nd he' he (by rw [h2, ha, List.mem_singleton.1 h])
          rw [this]; simp
    have hlen : (pre ++ [a]).length ≤ es.length := by
      have h1 : ((pre ++ [a]).map kH).Nodup := nodup_map_inj (fun x y h => kH_inj h) hOk'.1
      have h2 : ((pre ++ [a]).map kH) ⊆ es.map (·.1) := fun u hu => by
        obtain ⟨v, hv, rfl⟩ := List.mem_map.1 hu
        obtain ⟨e', he', h3⟩ := hOk'.2 v hv
        exact List.mem_map.2 ⟨e', he', h3⟩
      have := nodup_len h1 h2
      simpa using this
    simp (maxDischargeDepth := 12) (maxSteps := 1000000) -implicitDefEqProofs only [go_sem, Nat.reduceAdd, Nat.reduceSub, Nat.reduceMul, Nat.reduceLeDiff, Nat.reduceEqDiff, Nat.reduceGT, Nat.reduceBEq, reduceCtorEq, ↓reduceIte, Int.reduceToNat, Int.reduceLE, Int.reduceLT, Int.reduceNe, Int.reduceEq]
    refine ⟨(T2, pre ++ [a], seen ++ [e.2.2]), ⟨hT2, ui, hX2, hOk', hs2⟩, ?_, .refl _⟩
    show es.length - (pre ++ [a]).length < es.length - pre.length
    rw [List.length_append] at hlen ⊢
    simp only [List.length_cons, List.length_nil] at *
    omega
theorem appendSeqWH (w0 : W0) {b m clk : Nat} {es : List (Value × DV × Nat)} {S : St} (hb : lk S.box b = some [.mp m]) (hm : lk S.acc m = some (.xo (.mp (.st [.i64, .i64]) es clk))) (hok : MapOk (.st [.i64, .i64]) es clk) (hlen : es.length ≤ 1048576) :
    ACall Try.prog w0 40 [.sl 0 true [], .v (.func (.func 35) #[] #[.pointer (some ⟨b, 0, none⟩)])] S (fun d S' => ∃ (V : List (Int × Int)) (r : FN S.acc), FinKH es V ∧ d = .acc r.n V.length ∧ S' = ⟨S.box, (r.n, .arr 2 (V.map dHp)) :: S.acc⟩) := by
  refine fnP [] mx Try.func40 rfl rfl (by kernel_rfl) ?_; simp (maxDischargeDepth := 12) (maxSteps := 1000000) -implicitDefEqProofs only [Try.ntmps40, go_sem, Nat.reduceAdd, Nat.reduceSub, Nat.reduceMul, Nat.reduceLeDiff, Nat.reduceEqDiff, Nat.reduceGT, Nat.reduceBEq, reduceCtorEq, ↓reduceIte, Int.reduceToNat, Int.reduceLE, Int.reduceLT, Int.reduceNe, Int.reduceEq]
  intro s
  refine awp_growB s.n 0 2 (by omega) (ds := [.sl 0 true []]) (by simp (maxDischargeDepth := 12) (maxSteps := 1000000) -implicitDefEqProofs only [go_sem, Nat.reduceAdd, Nat.reduceSub, Nat.reduceMul, Nat.reduceLeDiff, Nat.reduceEqDiff, Nat.reduceGT, Nat.reduceBEq, reduceCtorEq, ↓reduceIte, Int.reduceToNat, Int.reduceLE, Int.reduceLT, Int.reduceNe, Int.reduceEq]) rfl fun lb => ?_
  simp (maxDischargeDepth := 12) (maxSteps := 1000000) -implicitDefEqProofs only [go_sem, Nat.reduceAdd, Nat.reduceSub, Nat.reduceMul, Nat.reduceLeDiff, Nat.reduceEqDiff, Nat.reduceGT, Nat.reduceBEq, reduceCtorEq, ↓reduceIte, Int.reduceToNat, Int.reduceLE, Int.reduceLT, Int.reduceNe, Int.reduceEq]
  refine rangeO [] (fun pre => ⟨(s.n, [.acc lb.n pre.length]) :: S.box, (lb.n, .arr 2 (pre.map dHp)) :: S.acc⟩) (fun x => [dHp x]) (OkKH es) (FinKH es) mx (by kernel_rfl) rfl rfl rfl (fun _ => rfl) (fun _ => rfl) (fun _ => rfl) ?_ ?_ ?_
  · intro l w1 hy T hT
    refine keysIterH w1 l b m clk es _ (fun pre => ?_) (fun pre => ?_) (fun _ => rfl) hok hy T hT
    · have hsb : ¬ s.n = b := fun e => by have := fn_lk s; rw [e, hb] at this; cases this
      simp (maxDischargeDepth := 12) (maxSteps := 1000000) -implicitDefEqProofs only [go_sem, Nat.reduceAdd, Nat.reduceSub, Nat.reduceMul, Nat.reduceLeDiff, Nat.reduceEqDiff, Nat.reduceGT, Nat.reduceBEq, reduceCtorEq, ↓reduceIte, Int.reduceToNat, Int.reduceLE, Int.reduceLT, Int.reduceNe, Int.reduceEq, hsb, hb]
    · have hsb : ¬ lb.n = m := fun e => by have := fn_lk lb; rw [e, hm] at this; cases this
      simp (maxDischargeDepth := 12) (maxSteps := 1000000) -implicitDefEqProofs only [go_sem, Nat.reduceAdd, Nat.reduceSub, Nat.reduceMul, Nat.reduceLeDiff, Nat.reduceEqDiff, Nat.reduceGT, Nat.reduceBEq, reduceCtorEq, ↓reduceIte, Int.reduceToNat, Int.reduceLE, Int.reduceLT, Int.reduceNe, Int.reduceEq, hsb, hm]
  · intro pre x T hOk hT
    have t1 : lk T.box s.n = some [.acc lb.n pre.length] := hT.box _ _ (by simp (maxDischargeDepth := 12) (maxSteps := 1000000) -implicitDefEqProofs only [go_sem, Nat.reduceAdd, Nat.reduceSub, Nat.reduceMul, Nat.reduceLeDiff, Nat.reduceEqDiff, Nat.reduceGT, Nat.reduceBEq, reduceCtorEq, ↓reduceIte, Int.reduceToNat, Int.reduceLE, Int.reduceLT, Int.reduceNe, Int.reduceEq])
    have u1 : lk T.acc lb.n = some (.arr 2 (pre.map dHp)) := hT.acc _ _ (by simp (maxDischargeDepth := 12) (maxSteps := 1000000) -implicitDefEqProofs only [go_sem, Nat.reduceAdd, Nat.reduceSub, Nat.reduceMul, Nat.reduceLeDiff, Nat.reduceEqDiff, Nat.reduceGT, Nat.reduceBEq, reduceCtorEq, ↓reduceIte, Int.reduceToNat, Int.reduceLE, Int.reduceLT, Int.reduceNe, Int.reduceEq])
    have hpl : (pre ++ [x]).length ≤ 1048576 := by
      have h1 : ((pre ++ [x]).map kH).Nodup := nodup_map_inj (fun x y h => kH_inj h) hOk.1
      have h2 : ((pre ++ [x]).map kH) ⊆ es.map (·.1) := fun u hu => by
        obtain ⟨v, hv, rfl⟩ := List.mem_map.1 hu
        obtain ⟨e', he', h3⟩ := hOk.2 v hv
        exact List.mem_map.2 ⟨e', he', h3⟩
      have := nodup_len h1 h2
      simp only [List.length_map] at this
      omega
    rw [List.length_append] at hpl
    simp only [List.length_cons, List.length_nil] at hpl
    have hm8 : maxLen = 9223372036854775807 := rfl
    have hu : (⟨up ((s.n, [.acc lb.n pre.length]) :: S.box) s.n [.acc lb.n (pre ++ [x]).length], up ((lb.n, .arr 2 (pre.map dHp)) :: S.acc) lb.n (.arr 2 ((pre ++ [x]).map dHp))⟩ : St) = ⟨(s.n, [.acc lb.n (pre ++ [x]).length]) :: S.box, (lb.n, .arr 2 ((pre ++ [x]).map dHp)) :: S.acc⟩ := by simp (maxDischargeDepth := 12) (maxSteps := 1000000) -implicitDefEqProofs only [go_sem, Nat.reduceAdd, Nat.reduceSub, Nat.reduceMul, Nat.reduceLeDiff, Nat.reduceEqDiff, Nat.reduceGT, Nat.reduceBEq, reduceCtorEq, ↓reduceIte, Int.reduceToNat, Int.reduceLE, Int.reduceLT, Int.reduceNe, Int.reduceEq]
    have hH := Has_upd2' (b := s.n) (l := lb.n) hT [.acc lb.n (pre ++ [x]).length] (.arr 2 ((pre ++ [x]).map dHp))
    have hK : ∀ v o, Kp ⟨(s.n, [.acc lb.n pre.length]) :: S.box, (lb.n, .arr 2 (pre.map dHp)) :: S.acc⟩ T ⟨up T.box s.n v, up T.acc lb.n o⟩ := fun v o => Kp_up2' (by simp (maxDischargeDepth := 12) (maxSteps := 1000000) -implicitDefEqProofs only [go_sem, Nat.reduceAdd, Nat.reduceSub, Nat.reduceMul, Nat.reduceLeDiff, Nat.reduceEqDiff, Nat.reduceGT, Nat.reduceBEq, reduceCtorEq, ↓reduceIte, Int.reduceToNat, Int.reduceLE, Int.reduceLT, Int.reduceNe, Int.reduceEq]) (by simp (maxDischargeDepth := 12) (maxSteps := 1000000) -implicitDefEqProofs only [go_sem, Nat.reduceAdd, Nat.reduceSub, Nat.reduceMul, Nat.reduceLeDiff, Nat.reduceEqDiff, Nat.reduceGT, Nat.reduceBEq, reduceCtorEq, ↓reduceIte, Int.reduceToNat, Int.reduceLE, Int.reduceLT, Int.reduceNe, Int.reduceEq])
    simp only [setPs]
    simp (maxDischargeDepth := 12) (maxSteps := 1000000) -implicitDefEqProofs only [go_sem, Nat.reduceAdd, Nat.reduceSub, Nat.reduceMul, Nat.reduceLeDiff, Nat.reduceEqDiff, Nat.reduceGT, Nat.reduceBEq, reduceCtorEq, ↓reduceIte, Int.reduceToNat, Int.reduceLE, Int.reduceLT, Int.reduceNe, Int.reduceEq, t1, u1, hm8]
    have hmap : (pre ++ [x]).map dHp = pre.map dHp ++ [dHp x] := by simp
    have hlen' : (pre ++ [x]).length = pre.length + 1 := by simp
    rw [hu, hmap, hlen'] at hH
    rw [hmap]
    intro bk
    have hbn : lk (up T.box s.n [.acc lb.n (pre.length + 1)]) bk.n = none := by
      rw [lk_upB', fn_lk bk]; split <;> rfl
    exact ⟨by omega, by omega, hasN6 hH hbn _ rfl, kpN6 (hK _ _) hbn _ rfl⟩
  · intro V hV
    simp (maxDischargeDepth := 12) (maxSteps := 1000000) -implicitDefEqProofs only [go_sem, Nat.reduceAdd, Nat.reduceSub, Nat.reduceMul, Nat.reduceLeDiff, Nat.reduceEqDiff, Nat.reduceGT, Nat.reduceBEq, reduceCtorEq, ↓reduceIte, Int.reduceToNat, Int.reduceLE, Int.reduceLT, Int.reduceNe, Int.reduceEq]
    exact ⟨_, _, .refl _, (Sub.refl _).consB, V, lb, hV, rfl, rfl⟩
theorem collectWH (w0 : W0) {b m clk : Nat} {es : List (Value × DV × Nat)} {S : St} (hb : lk S.box b = some [.mp m]) (hm : lk S.acc m = some (.xo (.mp (.st [.i64, .i64]) es clk))) (hok : MapOk (.st [.i64, .i64]) es clk) (hlen : es.length ≤ 1048576) :
    ACall Try.prog w0 33 [.v (.func (.func 35) #[] #[.pointer (some ⟨b, 0, none⟩)])] S (fun d S' => ∃ (V : List (Int × Int)) (r : FN S.acc), FinKH es V ∧ d = .acc r.n V.length ∧ S' = ⟨S.box, (r.n, .arr 2 (V.map dHp)) :: S.acc⟩) := by
  refine fnO [] mx Try.func33 rfl rfl (by kernel_rfl) ?_; simp (maxDischargeDepth := 12) (maxSteps := 1000000) -implicitDefEqProofs only [Try.ntmps33, go_sem, Nat.reduceAdd, Nat.reduceSub, Nat.reduceMul, Nat.reduceLeDiff, Nat.reduceEqDiff, Nat.reduceGT, Nat.reduceBEq, reduceCtorEq, ↓reduceIte, Int.reduceToNat, Int.reduceLE, Int.reduceLT, Int.reduceNe, Int.reduceEq]
  refine useK (appendSeqWH w0 hb hm hok hlen) ?_
  rintro _ _ ⟨V, r, hV, rfl, rfl⟩
  simp (maxDischargeDepth := 12) (maxSteps := 1000000) -implicitDefEqProofs only [go_sem, Nat.reduceAdd, Nat.reduceSub, Nat.reduceMul, Nat.reduceLeDiff, Nat.reduceEqDiff, Nat.reduceGT, Nat.reduceBEq, reduceCtorEq, ↓reduceIte, Int.reduceToNat, Int.reduceLE, Int.reduceLT, Int.reduceNe, Int.reduceEq]
  exact ⟨V, r, hV, rfl, rfl⟩
theorem keysWH (w0 : W0) {m : Nat} (S : St) : ACall Try.prog w0 27 [.mp m] S (fun d S' => ∃ b : FN S.box, d = .v (.func (.func 35) #[] #[.pointer (some ⟨b.n, 0, none⟩)]) ∧ S' = ⟨(b.n, [.mp m]) :: S.box, S.acc⟩) := by
  refine fnO [] mx Try.func27 rfl rfl (by kernel_rfl) ?_; simp (maxDischargeDepth := 12) (maxSteps := 1000000) -implicitDefEqProofs only [Try.ntmps27, go_sem, Nat.reduceAdd, Nat.reduceSub, Nat.reduceMul, Nat.reduceLeDiff, Nat.reduceEqDiff, Nat.reduceGT, Nat.reduceBEq, reduceCtorEq, ↓reduceIte, Int.reduceToNat, Int.reduceLE, Int.reduceLT, Int.reduceNe, Int.reduceEq]
  intro b
  exact ⟨b, rfl, rfl⟩
end Go.Proofs.Ytodndiioekjjoaa

namespace Go.Proofs.Ytodndiioekjjoaa
open Aml Go
set_option linter.unusedVariables false
set_option linter.unusedSimpArgs false
set_option maxRecDepth 100000
def cmpI (x y : Int) : Int := if x < y then -1 else if y < x then 1 else 0
def cmpH (a b : Int × Int) : Int := if cmpI a.1 b.1 = 0 then cmpI a.2 b.2 else cmpI a.1 b.1
set_option maxHeartbeats 400000 in
theorem nanP (w0 : W0) (a : Int) (S : St) : ACall Try.prog w0 36 [dI a] S (fun d S' => d = dB false ∧ S' = S) := by
  refine fnS [] mx Try.func36 rfl rfl (by kernel_rfl) ?_; simp (maxDischargeDepth := 12) (maxSteps := 1000000) -implicitDefEqProofs only [Try.ntmps36, go_sem, Nat.reduceAdd, Nat.reduceSub, Nat.reduceMul, Nat.reduceLeDiff, Nat.reduceEqDiff, Nat.reduceGT, Nat.reduceBEq, reduceCtorEq, ↓reduceIte, Int.reduceToNat, Int.reduceLE, Int.reduceLT, Int.reduceNe, Int.reduceEq]
set_option maxHeartbeats 400000 in
theorem compareP (w0 : W0) (x y : Int) (S : St) : ACall Try.prog w0 30 [dI x, dI y] S (fun d S' => d = dI (cmpI x y) ∧ S' = S) := by
  unfold cmpI
  refine fnS [] mx Try.func30 rfl rfl (by kernel_rfl) ?_; simp (maxDischargeDepth := 12) (maxSteps := 1000000) -implicitDefEqProofs only [Try.ntmps30, go_sem, Nat.reduceAdd, Nat.reduceSub, Nat.reduceMul, Nat.reduceLeDiff, Nat.reduceEqDiff, Nat.reduceGT, Nat.reduceBEq, reduceCtorEq, ↓reduceIte, Int.reduceToNat, Int.reduceLE, Int.reduceLT, Int.reduceNe, Int.reduceEq]
  refine use1 (nanP w0 x _) ?_
  simp (maxDischargeDepth := 12) (maxSteps := 1000000) -implicitDefEqProofs only [go_sem, Nat.reduceAdd, Nat.reduceSub, Nat.reduceMul, Nat.reduceLeDiff, Nat.reduceEqDiff, Nat.reduceGT, Nat.reduceBEq, reduceCtorEq, ↓reduceIte, Int.reduceToNat, Int.reduceLE, Int.reduceLT, Int.reduceNe, Int.reduceEq]
  refine use1 (nanP w0 y _) ?_
  simp (maxDischargeDepth := 12) (maxSteps := 1000000) -implicitDefEqProofs only [go_sem, Nat.reduceAdd, Nat.reduceSub, Nat.reduceMul, Nat.reduceLeDiff, Nat.reduceEqDiff, Nat.reduceGT, Nat.reduceBEq, reduceCtorEq, ↓reduceIte, Int.reduceToNat, Int.reduceLE, Int.reduceLT, Int.reduceNe, Int.reduceEq]
  refine ⟨fun h => by rw [if_pos h], fun h => ⟨fun k => by rw [if_neg h, if_pos k], fun k => by rw [if_neg h, if_neg k]⟩⟩
set_option maxHeartbeats 400000 in
theorem orP (w0 : W0) (a b : Int) (S : St) : ACall Try.prog w0 29 [.sl 1 false [dI a, dI b]] S (fun d S' => d = dI (if a = 0 then b else a) ∧ S' = S) := by
  refine fnS [] mx Try.func29 rfl rfl (by kernel_rfl) ?_; simp (maxDischargeDepth := 12) (maxSteps := 1000000) -implicitDefEqProofs only [Try.ntmps29, go_sem, Nat.reduceAdd, Nat.reduceSub, Nat.reduceMul, Nat.reduceLeDiff, Nat.reduceEqDiff, Nat.reduceGT, Nat.reduceBEq, reduceCtorEq, ↓reduceIte, Int.reduceToNat, Int.reduceLE, Int.reduceLT, Int.reduceNe, Int.reduceEq]
  refine loopN [] 2 [3, 6, 7, 8] (fun k => [(8, dI k)]) (fun _ => S) (fun k => 1 ≤ k → a = 0 ∧ (2 ≤ k → b = 0)) mx (by kernel_rfl) ?_ ?_
  · simp (maxDischargeDepth := 12) (maxSteps := 1000000) -implicitDefEqProofs only [go_sem, Nat.reduceAdd, Nat.reduceSub, Nat.reduceMul, Nat.reduceLeDiff, Nat.reduceEqDiff, Nat.reduceGT, Nat.reduceBEq, reduceCtorEq, ↓reduceIte, Int.reduceToNat, Int.reduceLE, Int.reduceLT, Int.reduceNe, Int.reduceEq]
  · intro k hk hinv
    have : k = 0 ∨ k = 1 ∨ k = 2 := by omega
    rcases this with rfl | rfl | rfl
    · simp (maxDischargeDepth := 12) (maxSteps := 1000000) -implicitDefEqProofs only [go_sem, Nat.reduceAdd, Nat.reduceSub, Nat.reduceMul, Nat.reduceLeDiff, Nat.reduceEqDiff, Nat.reduceGT, Nat.reduceBEq, reduceCtorEq, ↓reduceIte, Int.reduceToNat, Int.reduceLE, Int.reduceLT, Int.reduceNe, Int.reduceEq]
      exact ⟨fun h => by rw [if_neg h], fun h => ⟨Decidable.not_not.1 h, by decide⟩⟩
    · have h0 := (hinv (Nat.le_refl _)).1
      simp (maxDischargeDepth := 12) (maxSteps := 1000000) -implicitDefEqProofs only [go_sem, Nat.reduceAdd, Nat.reduceSub, Nat.reduceMul, Nat.reduceLeDiff, Nat.reduceEqDiff, Nat.reduceGT, Nat.reduceBEq, reduceCtorEq, ↓reduceIte, Int.reduceToNat, Int.reduceLE, Int.reduceLT, Int.reduceNe, Int.reduceEq]
      exact ⟨fun h => by rw [if_pos h0], fun h => ⟨⟨h0, Decidable.not_not.1 h⟩, by decide⟩⟩
    · obtain ⟨h0, h1⟩ := hinv (by omega)
      simp (maxDischargeDepth := 12) (maxSteps := 1000000) -implicitDefEqProofs only [go_sem, Nat.reduceAdd, Nat.reduceSub, Nat.reduceMul, Nat.reduceLeDiff, Nat.reduceEqDiff, Nat.reduceGT, Nat.reduceBEq, reduceCtorEq, ↓reduceIte, Int.reduceToNat, Int.reduceLE, Int.reduceLT, Int.reduceNe, Int.reduceEq]
      rw [if_pos h0, h1 (Nat.le_refl _)]
set_option maxHeartbeats 4000000 in
theorem all1P (w0 : W0) (a b : Int × Int) (S : St) : ACall Try.prog w0 28 [dHp a, dHp b] S (fun d S' => d = dI (cmpH a b) ∧ S' = S) := by
  unfold cmpH
  refine fnS [] mx Try.func28 rfl rfl (by kernel_rfl) ?_; simp (maxDischargeDepth := 12) (maxSteps := 1000000) -implicitDefEqProofs only [Try.ntmps28, go_sem, Nat.reduceAdd, Nat.reduceSub, Nat.reduceMul, Nat.reduceLeDiff, Nat.reduceEqDiff, Nat.reduceGT, Nat.reduceBEq, reduceCtorEq, ↓reduceIte, Int.reduceToNat, Int.reduceLE, Int.reduceLT, Int.reduceNe, Int.reduceEq]
  intro b1 b2
  refine useQ (compareP w0 a.1 b.1 _) ?_
  simp (maxDischargeDepth := 12) (maxSteps := 1000000) -implicitDefEqProofs only [go_sem, Nat.reduceAdd, Nat.reduceSub, Nat.reduceMul, Nat.reduceLeDiff, Nat.reduceEqDiff, Nat.reduceGT, Nat.reduceBEq, reduceCtorEq, ↓reduceIte, Int.reduceToNat, Int.reduceLE, Int.reduceLT, Int.reduceNe, Int.reduceEq]
  refine useQ (compareP w0 a.2 b.2 _) ?_
  simp (maxDischargeDepth := 12) (maxSteps := 1000000) -implicitDefEqProofs only [go_sem, Nat.reduceAdd, Nat.reduceSub, Nat.reduceMul, Nat.reduceLeDiff, Nat.reduceEqDiff, Nat.reduceGT, Nat.reduceBEq, reduceCtorEq, ↓reduceIte, Int.reduceToNat, Int.reduceLE, Int.reduceLT, Int.reduceNe, Int.reduceEq]
  refine useQ (orP w0 _ _ _) ?_ ⟨.full _ _ _, trivial⟩
  simp (maxDischargeDepth := 12) (maxSteps := 1000000) -implicitDefEqProofs only [go_sem, Nat.reduceAdd, Nat.reduceSub, Nat.reduceMul, Nat.reduceLeDiff, Nat.reduceEqDiff, Nat.reduceGT, Nat.reduceBEq, reduceCtorEq, ↓reduceIte, Int.reduceToNat, Int.reduceLE, Int.reduceLT, Int.reduceNe, Int.reduceEq]
end Go.Proofs.Ytodndiioekjjoaa

namespace Go.Proofs
open Go.Shelf
def Try.l34_ren : Go.Shelf.Ren := ⟨fun | 6 => 34 | 15 => 42 | 14 => 41 | 28 => 53 | 29 => 54 | 20 => 45 | 21 => 46 | 22 => 47 | 23 => 48 | 24 => 49 | 25 => 50 | 26 => 51 | 27 => 52 | 46 => 64 | 47 => 65 | 48 => 66 | 49 => 67 | 50 => 68 | 57 => 72 | n => n, fun | 22 => 41 | 24 => 30 | 25 => 68 | 3 => 3 | 39 => 80 | 0 => 0 | 53 => 92 | 55 => 94 | 4 => 4 | 46 => 85 | 45 => 84 | 50 => 89 | 5 => 5 | 9 => 9 | 66 => 101 | 70 => 105 | 76 => 109 | 77 => 110 | n => n, fun | n => n⟩
theorem Try.l34 : Go.Proofs.SlLaysF0.n6 Try.prog Try.l34_ren := {
  mixed := by kernel_rfl
  f6 := ⟨Try.f34.name, by decide, Try.func34.trans (congrArg some (by kernel_rfl))⟩
  f14 := ⟨Try.f41.name, by decide, Try.func41.trans (congrArg some (by kernel_rfl))⟩
  f15 := Try.func42.trans (congrArg some (by kernel_rfl))
  f20 := ⟨Try.f45.name, by decide, Try.func45.trans (congrArg some (by kernel_rfl))⟩
  f21 := ⟨Try.f46.name, by decide, Try.func46.trans (congrArg some (by kernel_rfl))⟩
  f22 := ⟨Try.f47.name, by decide, Try.func47.trans (congrArg some (by kernel_rfl))⟩
  f23 := ⟨Try.f48.name, by decide, Try.func48.trans (congrArg some (by kernel_rfl))⟩
  f24 := ⟨Try.f49.name, by decide, Try.func49.trans (congrArg some (by kernel_rfl))⟩
  f25 := ⟨Try.f50.name, by decide, Try.func50.trans (congrArg some (by kernel_rfl))⟩
  f26 := ⟨Try.f51.name, by decide, Try.func51.trans (congrArg some (by kernel_rfl))⟩
  f27 := ⟨Try.f52.name, by decide, Try.func52.trans (congrArg some (by kernel_rfl))⟩
  f28 := Try.func53.trans (congrArg some (by kernel_rfl))
  f29 := Try.func54.trans (congrArg some (by kernel_rfl))
  f46 := ⟨Try.f64.name, by decide, Try.func64.trans (congrArg some (by kernel_rfl))⟩
  f47 := Try.func65.trans (congrArg some (by kernel_rfl))
  f48 := Try.func66.trans (congrArg some (by kernel_rfl))
  f49 := ⟨Try.f67.name, by decide, Try.func67.trans (congrArg some (by kernel_rfl))⟩
  f50 := ⟨Try.f68.name, by decide, Try.func68.trans (congrArg some (by kernel_rfl))⟩
  f57 := ⟨Try.f72.name, by decide, Try.func72.trans (congrArg some (by kernel_rfl))⟩
  t0 := Try.underlying0
  a0 := Try.isAgg0
  z0 := Try.sizeOf0
  v0 := Try.zeroValue0
  t3 := Try.underlying3
  a3 := Try.isAgg3
  z3 := Try.sizeOf3
  v3 := Try.zeroValue3
  t4 := Try.underlying4
  a4 := Try.isAgg4
  z4 := Try.sizeOf4
  v4 := Try.zeroValue4
  t5 := Try.underlying5
  a5 := Try.isAgg5
  z5 := Try.sizeOf5
  v5 := Try.zeroValue5
  t9 := Try.underlying9
  a9 := Try.isAgg9
  z9 := Try.sizeOf9
  v9 := Try.zeroValue9
  t22 := Try.underlying41
  a22 := Try.isAgg41
  z22 := Try.sizeOf41
  v22 := Try.zeroValue41
  t25 := Try.underlying68
  a25 := Try.isAgg68
  z25 := Try.sizeOf68
  v25 := Try.zeroValue68
  t39 := Try.underlying80
  a39 := Try.isAgg80
  z39 := Try.sizeOf80
  v39 := Try.zeroValue80
  t45 := Try.underlying84
  a45 := Try.isAgg84
  z45 := Try.sizeOf84
  v45 := Try.zeroValue84
  t46 := Try.underlying85
  a46 := Try.isAgg85
  z46 := Try.sizeOf85
  v46 := Try.zeroValue85
  t50 := Try.underlying89
  a50 := Try.isAgg89
  z50 := Try.sizeOf89
  v50 := Try.zeroValue89
  t53 := Try.underlying92
  a53 := Try.isAgg92
  z53 := Try.sizeOf92
  v53 := Try.zeroValue92
  t55 := Try.underlying94
  a55 := Try.isAgg94
  z55 := Try.sizeOf94
  v55 := Try.zeroValue94
  t66 := Try.underlying101
  a66 := Try.isAgg101
  z66 := Try.sizeOf101
  v66 := Try.zeroValue101
  t70 := Try.underlying105
  a70 := Try.isAgg105
  z70 := Try.sizeOf105
  v70 := Try.zeroValue105
  t76 := Try.underlying109
  a76 := Try.isAgg109
  z76 := Try.sizeOf109
  v76 := Try.zeroValue109
  t77 := Try.underlying110
  a77 := Try.isAgg110
  z77 := Try.sizeOf110
  v77 := Try.zeroValue110 }
open Go.RowKit Go.Sort in
/-- slices.SortFunc at no element. (LAID: no walk: one application.) -/
theorem Try.sortFunc_none (p : Option Addr) (cap : Nat) (fv : Value) (w : World) :
    Calls Try.prog 34 #[.slice p 0 cap, fv] w fun e w' => e = .returned (.tuple #[]) ∧ w' = w := AnyF.slices_SortFunc_none Try.l34 p cap fv w
end Go.Proofs

namespace Go.Proofs.Ytodndiioekjjoaa
open Aml Go Go.RowKit Go.ChangeShapes
set_option linter.unusedVariables false
set_option linter.unusedSimpArgs false

/-- All that is there at the start stays. -/
def gW (W : World) : Gh := ⟨fun b i => W.cell? ⟨b, i, none⟩, fun _ _ => none, fun _ => none⟩
theorem rel_start (W : World) : Rel W (gW W) ⟨[], []⟩ W :=
  ⟨⟨Bel.refl _ _, fun _ _ h => (by cases h), ⟨fun _ _ _ h => (by cases h), fun _ _ _ h => (by cases h), fun _ _ h => (by cases h)⟩⟩, fun _ _ _ h => h, by simp, by simp, fun _ _ _ h => (by cases h), ⟨0, fun _ _ _ => rfl⟩, fun _ _ h => (by cases h), fun _ => none, fun _ _ h => (by cases h), fun _ _ h => (by cases h)⟩

/-- A type's data, read as a Lean type. -/
def Rd (P : Program) (W : World) (t : TypeId) {α : Type} (en : α → List DV) (sz : α → Nat) (ok : α → Prop) : Prop :=
  ∀ (H : Type) (enc : TypeId × Value → H) (n : Nat) (cs : List Value) (x : DataW H × List MemPlace), DataW.trod enc P W 0 (fun _ => true) true n t cs = some x →
    ∃ a, ok a ∧ sz a ≤ Rows.uptoBulk x.1 ∧ RepL (gW W) (en a) cs ∧ ∀ u, u ∈ cs → u.oneCell' = true

section
variable {P : Program} {W : World}
theorem Rd.conv {t : TypeId} {α β : Type} {en : α → List DV} {sz : α → Nat} {ok : α → Prop} {en' : β → List DV} {sz' : β → Nat} {ok' : β → Prop} (h : Rd P W t en sz ok) (f : α → β) (he : ∀ a, en a = en' (f a)) (hs : ∀ a, sz' (f a) ≤ sz a) (ho : ∀ a, ok a → ok' (f a)) : Rd P W t en' sz' ok' :=
  fun H enc n cs x hx => let ⟨a, h1, h2, h3, h4⟩ := h H enc n cs x hx; ⟨f a, ho a h1, Nat.le_trans (hs a) h2, by rw [← he]; exact h3, h4⟩
theorem rd_int {t : TypeId} (k : IntKind) (ht : P.underlying t = some (.int k)) : Rd P W t (fun n : Int => [.v (.int k n)]) (fun _ => 1) (fun n => (Lit.int k n).wf = true) := by
  intro H enc n cs x hx
  obtain ⟨m, rfl, rfl, hw⟩ := DataW.trod_int ht hx
  exact ⟨m, hw, by simp [Rows.uptoBulk], RepL.cons (.v _ rfl) (RepL.nil _), by simp [Value.oneCell']⟩
theorem rd_i64 {t : TypeId} (ht : P.underlying t = some (.int .i64)) : Rd P W t (fun n : Int => [dI n]) (fun _ => 1) (fun n => -9223372036854775808 ≤ n ∧ n ≤ 9223372036854775807) :=
  (rd_int .i64 ht).conv id (fun _ => rfl) (fun _ => Nat.le_refl _) fun _ h => bounds_i64 h
theorem rd_u64 {t : TypeId} (ht : P.underlying t = some (.int .u64)) : Rd P W t (fun n : Int => [dU n]) (fun _ => 1) (fun n => 0 ≤ n ∧ n ≤ 18446744073709551615) :=
  (rd_int .u64 ht).conv id (fun _ => rfl) (fun _ => Nat.le_refl _) fun _ h => bounds_u64 h
theorem rd_u8 {t : TypeId} (ht : P.underlying t = some (.int .u8)) : Rd P W t (fun n : Int => [dY n]) (fun _ => 1) (fun n => 0 ≤ n ∧ n ≤ 255) :=
  (rd_int .u8 ht).conv id (fun _ => rfl) (fun _ => Nat.le_refl _) fun _ h => bounds_u8 h
theorem rd_bool {t : TypeId} (ht : P.underlying t = some .bool) : Rd P W t (fun b : Bool => [dB b]) (fun _ => 1) (fun _ => True) := by
  intro H enc n cs x hx
  obtain ⟨m, rfl, rfl⟩ := DataW.trod_bool ht hx
  exact ⟨m, trivial, by simp [Rows.uptoBulk], RepL.cons (.v _ rfl) (RepL.nil _), by simp [Value.oneCell']⟩
theorem rd_str {t : TypeId} (ht : P.underlying t = some .string) : Rd P W t (fun s : ByteArray => [dS s]) (fun s => s.size + 1) (fun _ => True) := by
  intro H enc n cs x hx
  obtain ⟨s, rfl, rfl, hs⟩ := DataW.trod_string ht hx
  exact ⟨s, trivial, (show s.size + 1 ≤ s.data.toList.length + 1 by rw [Array.length_toList]; exact Nat.le_refl _), RepL.cons (.v _ rfl) (RepL.nil _), by simp [Value.oneCell']⟩

theorem pick_list {α : Type} {Q : Nat → α → Prop} : ∀ (n : Nat), (∀ i, i < n → ∃ a, Q i a) → ∃ l : List α, l.length = n ∧ ∀ (i : Nat) (a : α), l[i]? = some a → Q i a
  | 0, _ => ⟨[], rfl, by simp⟩
  | n + 1, h => by
    obtain ⟨l, h1, h2⟩ := pick_list n fun i hi => h i (by omega)
    obtain ⟨a, ha⟩ := h n (by omega)
    refine ⟨l ++ [a], by simp [h1], fun i b hb => ?_⟩
    by_cases hi : i < n
    · rw [List.getElem?_append_left (by omega)] at hb; exact h2 i b hb
    · have hlt : i < (l ++ [a]).length := (List.getElem?_eq_some_iff.1 hb).1
      have : i = n := by simp at hlt; omega
      subst this
      rw [List.getElem?_append_right (by omega), h1] at hb
      simp at hb; subst hb; exact ha
theorem bulk_sum {H α : Type} {sz : α → Nat} : ∀ {l : List α} {es : List (DataW H)}, l.length = es.length → (∀ (i : Nat) (a : α) (e : DataW H), l[i]? = some a → es[i]? = some e → sz a ≤ Rows.uptoBulk e) → (l.map sz).sum ≤ Rows.uptoBulkAll es
  | [], [], _, _ => by simp [Rows.uptoBulkAll]
  | [], _ :: _, h, _ => by simp at h
  | _ :: _, [], h, _ => by simp at h
  | a :: l, e :: es, h, hs => by
    have h1 := hs 0 a e rfl rfl
    have h2 := bulk_sum (l := l) (es := es) (by simpa using h) fun i a e x y => hs (i + 1) a e (by simpa using x) (by simpa using y)
    simp only [List.map_cons, List.sum_cons, Rows.uptoBulkAll]
    omega
theorem cells_read {a : Addr} {k : Nat} {cs : List Value} (h : W.cells? 0 a k = some cs) : cs.length = k ∧ ∀ j, j < k → W.cell? (a.add j) = cs[j]? := by
  unfold World.cells? at h
  rw [if_pos (Nat.zero_le _)] at h
  exact ⟨by simpa using mapM_some_length h, fun j hj => mapM_some_get h j j (by simp [hj])⟩

theorem rd_sliceG {t e : TypeId} {α : Type} {en : α → List DV} {sz : α → Nat} {ok : α → Prop} (h : Rd P W e en sz ok) (ht : P.underlying t = some (.slice e)) {k : Nat} (hk : P.cellsOf e = k) (hk0 : 0 < k) (enE : α → DV) (mk : List Value → Value)
    (hmk : ∀ a cs, RepL (gW W) (en a) cs → (∀ u, u ∈ cs → u.oneCell' = true) → cs.length = k → Rep (gW W) (enE a) (mk cs) ∧ (mk cs).cells.toList = cs) :
    Rd P W t (fun l : List α => [.sl k false (l.map enE)]) (fun l => (l.map sz).sum + 1) (fun l => ∀ a, a ∈ l → ok a) := by
  intro H enc n cs x hx
  rcases DataW.trod_slice ht hx with ⟨rfl, rfl⟩ | ⟨a, len, cap, elems, rest, n', rfl, rfl, rfl, -, hlc, hcm, hel, hget, -, -⟩
  · exact ⟨[], by simp, by simp [Rows.uptoBulk], RepL.cons (.nil _ _ _ _ (by simp)) (RepL.nil _), by simp [Value.oneCell']⟩
  · have hq : ∀ i, i < len → ∃ p : α × List Value, ok p.1 ∧ (∀ y, elems[i]? = some y → sz p.1 ≤ Rows.uptoBulk y.1) ∧ W.cells? 0 (a.add (i * k)) k = some p.2 ∧ RepL (gW W) (en p.1) p.2 ∧ ∀ u, u ∈ p.2 → u.oneCell' = true := by
      intro i hi
      have h1 := hget i hi
      rw [hk] at h1
      have h2 : elems[i]? = some elems[i] := List.getElem?_eq_getElem (by omega)
      rw [h2, Option.bind_eq_some_iff] at h1
      obtain ⟨ci, hc, htr⟩ := h1
      obtain ⟨b, b1, b2, b3, b4⟩ := h H enc n' ci _ htr
      exact ⟨(b, ci), b1, fun y hy => by rw [h2] at hy; cases hy; exact b2, hc, b3, b4⟩
    obtain ⟨ps, hpl, hps⟩ := pick_list len hq
    refine ⟨ps.map (·.1), fun b hb => ?_, ?_, ?_, by simp [Value.oneCell']⟩
    · obtain ⟨p, hp, rfl⟩ := List.mem_map.1 hb
      obtain ⟨i, hi⟩ := List.getElem?_of_mem hp
      exact (hps i p hi).1
    · have := bulk_sum (sz := sz) (l := ps.map (·.1)) (es := elems.map (·.1)) (by simp [hpl, hel]) fun i b e x y => by
        rw [List.getElem?_map, Option.map_eq_some_iff] at x y
        obtain ⟨p, hp, rfl⟩ := x
        obtain ⟨y, hy, rfl⟩ := y
        exact (hps i p hp).2.1 y hy
      simp only [Rows.uptoBulk]
      omega
    · refine RepL.cons ?_ (RepL.nil _)
      by_cases h0 : len = 0
      · subst h0
        have : ps = [] := List.eq_nil_of_length_eq_zero hpl
        subst this
        exact .nil _ _ _ _ (by simp)
      · have hspot : a.spot = none := by
          obtain ⟨p, hp⟩ : ∃ p, ps[0]? = some p := ⟨_, List.getElem?_eq_getElem (by omega)⟩
          obtain ⟨hl, hc⟩ := cells_read (hps 0 p hp).2.2.1
          have := hc 0 (by omega)
          rw [List.getElem?_eq_getElem (by omega)] at this
          simp only [Nat.zero_mul, Addr.add, if_true] at this
          unfold World.cell? at this
          split at this
          · split at this
            · cases this
            · rename_i hs; simpa using hs
          · cases this
        obtain ⟨b, o, sp⟩ := a
        simp only at hspot
        subst hspot
        have hus : (ps.map fun p => mk p.2).length = len := by simp [hpl]
        have hmk' : ∀ (i : Nat) (p : α × List Value), ps[i]? = some p → Rep (gW W) (enE p.1) (mk p.2) ∧ (mk p.2).cells.toList = p.2 ∧ p.2.length = k := fun i p hp => by
          have hc := (cells_read (hps i p hp).2.2.1).1
          have := hmk p.1 p.2 (hps i p hp).2.2.2.1 (hps i p hp).2.2.2.2 hc
          exact ⟨this.1, this.2, hc⟩
        have := Rep.sl (g := gW W) k false ((ps.map (·.1)).map enE) b o cap (ps.map fun p => mk p.2) (by simp) (by simp) (by rw [hus]; exact hlc) hcm
          (fun i d u hd hu => by
            simp only [List.map_map, List.getElem?_map, Option.map_eq_some_iff] at hd hu
            obtain ⟨p, hp, rfl⟩ := hd
            obtain ⟨q, hq, rfl⟩ := hu
            rw [hp] at hq; cases hq
            exact (hmk' i p hp).1)
          (fun i u hu => by
            rw [List.getElem?_map, Option.map_eq_some_iff] at hu
            obtain ⟨p, hp, rfl⟩ := hu
            have := hmk' i p hp
            rw [← Array.length_toList, this.2.1, this.2.2])
          (fun u hu x hx => by
            obtain ⟨p, hp, rfl⟩ := List.mem_map.1 hu
            obtain ⟨i, hi⟩ := List.getElem?_of_mem hp
            rw [(hmk' i p hi).2.1] at hx
            exact (hps i p hi).2.2.2.2 x hx)
          (fun i u j x hu hx => by
            rw [List.getElem?_map, Option.map_eq_some_iff] at hu
            obtain ⟨p, hp, rfl⟩ := hu
            have hm := hmk' i p hp
            have hc := (cells_read (hps i p hp).2.2.1).2
            rw [← Array.getElem?_toList, hm.2.1] at hx
            have hj : j < k := by rw [← hm.2.2]; exact (List.getElem?_eq_some_iff.1 hx).1
            have := hc j hj
            rw [hx] at this
            show W.cell? ⟨b, o + i * k + j, none⟩ = some x
            have e : (Addr.add ⟨b, o, none⟩ (i * k)).add j = ⟨b, o + i * k + j, none⟩ := by
              unfold Addr.add
              split <;> split <;> simp_all
            rw [← e]; exact this)
        rw [hus] at this
        exact this
theorem rd_slice1 {t e : TypeId} {α : Type} {en : α → DV} {sz : α → Nat} {ok : α → Prop} (h : Rd P W e (fun a => [en a]) sz ok) (ht : P.underlying t = some (.slice e)) (hk : P.cellsOf e = 1) :
    Rd P W t (fun l : List α => [.sl 1 false (l.map en)]) (fun l => (l.map sz).sum + 1) (fun l => ∀ a, a ∈ l → ok a) :=
  rd_sliceG h ht hk (by omega) en (fun cs => cs.headD undef) fun a cs hr h1 hl => by
    obtain ⟨u, us, rfl, r1, r2⟩ := hr.uncons
    have : us = [] := List.eq_nil_of_length_eq_zero (by simpa using hl)
    subst this
    have hu := h1 u List.mem_cons_self
    refine ⟨r1, ?_⟩
    cases u <;> simp_all [Value.cells, Value.oneCell']
theorem rd_sliceA {t e : TypeId} {α : Type} {en : α → List DV} {sz : α → Nat} {ok : α → Prop} (h : Rd P W e en sz ok) (ht : P.underlying t = some (.slice e)) {k : Nat} (hk : P.cellsOf e = k) (hk0 : 0 < k) :
    Rd P W t (fun l : List α => [.sl k false (l.map fun a => .agg (en a))]) (fun l => (l.map sz).sum + 1) (fun l => ∀ a, a ∈ l → ok a) :=
  rd_sliceG h ht hk hk0 (fun a => .agg (en a)) (fun cs => .agg cs.toArray) fun a cs hr h1 hl => ⟨.agg _ _ hr.len hr.at_ h1, rfl⟩

/-- The fields from one on. -/
def RdF (P : Program) (W : World) (total off : Nat) (fs : List Field) {α : Type} (en : α → List DV) (sz : α → Nat) (ok : α → Prop) : Prop :=
  ∀ (H : Type) (enc : TypeId × Value → H) (n : Nat) (cs : List Value) (xs : List (DataW H × List MemPlace)), cs.length = total → xs.length = fs.length →
    (∀ (i : Nat) (f : Field), fs[i]? = some f → DataW.trod enc P W 0 (fun _ => true) true n f.type ((cs.drop f.offset).take (P.cellsOf f.type)) = xs[i]?) →
    ∃ a, ok a ∧ sz a ≤ Rows.uptoBulkAll (xs.map (·.1)) ∧ RepL (gW W) (en a) (cs.drop off) ∧ ∀ u, u ∈ cs.drop off → u.oneCell' = true
theorem rdF_nil {total : Nat} : RdF P W total total [] (fun _ : Unit => []) (fun _ => 0) (fun _ => True) := by
  intro H enc n cs xs hc hx hg
  refine ⟨(), trivial, Nat.zero_le _, ?_, ?_⟩
  · rw [List.drop_eq_nil_of_le (by omega)]; exact RepL.nil _
  · rw [List.drop_eq_nil_of_le (by omega)]; simp
theorem rdF_cons {total off k : Nat} {f : Field} {fs : List Field} {α β : Type} {en : α → List DV} {sz : α → Nat} {ok : α → Prop} {en' : β → List DV} {sz' : β → Nat} {ok' : β → Prop} (h : Rd P W f.type en sz ok) (hf : f.offset = off) (hk : P.cellsOf f.type = k) (h' : RdF P W total (off + k) fs en' sz' ok') :
    RdF P W total off (f :: fs) (fun p : α × β => en p.1 ++ en' p.2) (fun p => sz p.1 + sz' p.2) (fun p => ok p.1 ∧ ok' p.2) := by
  intro H enc n cs xs hc hx hg
  cases xs with
  | nil => simp at hx
  | cons x xs =>
    have h0 := hg 0 f rfl
    rw [hf, hk] at h0
    obtain ⟨a, a1, a2, a3, a4⟩ := h H enc n _ x h0
    obtain ⟨b, b1, b2, b3, b4⟩ := h' H enc n cs xs hc (by simpa using hx) fun i f hf => by have := hg (i + 1) f (by simpa using hf); simpa using this
    have e : cs.drop off = (cs.drop off).take k ++ cs.drop (off + k) := by rw [← List.drop_drop, List.take_append_drop]
    refine ⟨(a, b), ⟨a1, b1⟩, ?_, ?_, ?_⟩
    · simp only [List.map_cons, Rows.uptoBulkAll]; omega
    · rw [e]; exact a3.append b3
    · intro u hu
      rw [e, List.mem_append] at hu
      exact hu.elim (a4 u) (b4 u)
theorem rd_struct {t : TypeId} {fs : Array Field} {α : Type} {en : α → List DV} {sz : α → Nat} {ok : α → Prop} (ht : P.underlying t = some (.struct fs)) {total : Nat} (hc : P.cellsOf t = total) {fl : List Field} (hfl : fs.toList = fl) (h : RdF P W total 0 fl en sz ok) :
    Rd P W t en (fun a => sz a + 1) ok := by
  intro H enc n cs x hx
  subst hfl
  obtain ⟨xs, n', rfl, rfl, h1, h2, h3⟩ := DataW.trod_struct ht hx
  obtain ⟨a, a1, a2, a3, a4⟩ := h H enc n' cs xs (by rw [h1, hc]) (by simpa using h2) fun i f hf => h3 i f (by simpa using hf)
  exact ⟨a, a1, by simp only [Rows.uptoBulk]; omega, by simpa using a3, by simpa using a4⟩

/-- Arguments, one by one. -/
def RdA (P : Program) (W : World) (ts : List TypeId) {α : Type} (en : α → List DV) (sz : α → Nat) (ok : α → Prop) : Prop :=
  ∀ (H : Type) (enc : TypeId × Value → H) (base : Nat) (vs : List Value) (ds : List (DataW H)) (p : List MemPlace), (∀ (j : Nat) t v, ts[j]? = some t → vs[j]? = some v → Value.okWide P W .any base t v) → DataW.TrodAll enc P W 0 (fun _ => true) true ts vs ds p →
    ∃ a, ok a ∧ sz a ≤ Rows.uptoBulkAll ds ∧ RepL (gW W) (en a) vs
theorem rdA_nil : RdA P W [] (fun _ : Unit => []) (fun _ => 0) (fun _ => True) := by
  intro H enc base vs ds p hv h
  obtain ⟨rfl, rfl, rfl⟩ := trodAll_nil h
  exact ⟨(), trivial, Nat.zero_le _, RepL.nil _⟩
def oneT (P : Program) (t : TypeId) : Bool := match P.underlying t with
  | some .bool | some .string | some (.int _) | some (.slice _) => true
  | _ => false
theorem okWide_one {t : TypeId} (ht : oneT P t = true) {base : Nat} {v : Value} (h : Value.okWide P W .any base t v) : v.cells = #[v] ∧ v.oneCell' = true := by
  unfold oneT at ht
  unfold Value.okWide Cell.okWide Cell.ok at h
  split at ht
  · rename_i hu; rw [hu] at h; cases v <;> simp_all [Value.cells, Value.oneCell']
  · rename_i hu; rw [hu] at h; cases v <;> simp_all [Value.cells, Value.oneCell']
  · rename_i hu; rw [hu] at h; cases v <;> simp_all [Value.cells, Value.oneCell']
  · rename_i hu; rw [hu] at h; cases v <;> simp_all [Value.cells, Value.oneCell']
  · cases ht
theorem rdA_one {t : TypeId} {ts : List TypeId} {α β : Type} {en : α → DV} {sz : α → Nat} {ok : α → Prop} {en' : β → List DV} {sz' : β → Nat} {ok' : β → Prop} (h : Rd P W t (fun a => [en a]) sz ok) (ht : oneT P t = true) (h' : RdA P W ts en' sz' ok') :
    RdA P W (t :: ts) (fun p : α × β => en p.1 :: en' p.2) (fun p => sz p.1 + sz' p.2) (fun p => ok p.1 ∧ ok' p.2) := by
  intro H enc base vs ds p hv hA
  obtain ⟨v, vs', d, ds', p1, q1, rfl, rfl, rfl, h1, h2⟩ := trodAll_cons hA
  obtain ⟨b, b1, b2, b3⟩ := h' H enc base vs' ds' q1 (fun j t v x y => hv (j + 1) t v (by simpa using x) (by simpa using y)) h2
  obtain ⟨n, hn⟩ := h1
  obtain ⟨a, a1, a2, a3, a4⟩ := h H enc n _ _ hn
  obtain ⟨hc, ho⟩ := okWide_one ht (hv 0 t v rfl rfl)
  rw [hc] at a3
  refine ⟨(a, b), ⟨a1, b1⟩, by simp only [Rows.uptoBulkAll]; simp only at a2; omega, RepL.cons ?_ b3⟩
  obtain ⟨u, us, he, r1, r2⟩ := a3.uncons
  simp only [List.cons.injEq] at he
  rw [he.1]; exact r1
theorem rdA_agg {t : TypeId} {ts : List TypeId} {fs : Array Field} {α β : Type} {en : α → List DV} {sz : α → Nat} {ok : α → Prop} {en' : β → List DV} {sz' : β → Nat} {ok' : β → Prop} (h : Rd P W t en sz ok) (ht : P.underlying t = some (.struct fs)) (h' : RdA P W ts en' sz' ok') :
    RdA P W (t :: ts) (fun p : α × β => .agg (en p.1) :: en' p.2) (fun p => sz p.1 + sz' p.2) (fun p => ok p.1 ∧ ok' p.2) := by
  intro H enc base vs ds p hv hA
  obtain ⟨v, vs', d, ds', p1, q1, rfl, rfl, rfl, h1, h2⟩ := trodAll_cons hA
  obtain ⟨b, b1, b2, b3⟩ := h' H enc base vs' ds' q1 (fun j t v x y => hv (j + 1) t v (by simpa using x) (by simpa using y)) h2
  obtain ⟨n, hn⟩ := h1
  obtain ⟨a, a1, a2, a3, a4⟩ := h H enc n _ _ hn
  have ho := hv 0 t v rfl rfl
  unfold Value.okWide at ho
  rw [ht] at ho
  obtain ⟨cs, rfl, _, _⟩ := ho
  refine ⟨(a, b), ⟨a1, b1⟩, by simp only [Rows.uptoBulkAll]; simp only at a2; omega, RepL.cons ?_ b3⟩
  have : (Value.agg cs) = .agg cs.toList.toArray := by simp
  rw [this]
  exact .agg _ _ (by simpa [Value.cells] using a3.len) (by simpa [Value.cells] using a3.at_) (by simpa [Value.cells] using a4)

/-- Behind the call each argument reads as it did. -/
theorem trodAll_stays {H : Type} {enc : TypeId × Value → H} (hl : laidOutB P = true) {W' : World} (hb : Below W.heap.size W W') {sp : Nat → Bool} : ∀ {ts : List TypeId} {vs : List Value} {ds : List (DataW H)} {ps : List MemPlace}, (∀ t, t ∈ ts → P.readableRec t = true ∧ t < P.types.size) →
    DataW.TrodAll enc P W 0 (fun _ => true) true ts vs ds ps → (∀ p, p ∈ ps → p.block < W.heap.size ∧ sp p.block = true) → DataW.TrodAll enc P W' 0 sp true ts vs ds ps
  | [], vs, ds, ps, _, h, _ => by
    obtain ⟨rfl, rfl, rfl⟩ := trodAll_nil h
    exact rfl
  | t :: ts, vs, ds, ps, ht, h, hp => by
    obtain ⟨v, vs', d, ds', p1, q1, rfl, rfl, rfl, h1, h2⟩ := trodAll_cons h
    exact ⟨p1, q1, WideElems.Trod_stays hl (ht t List.mem_cons_self).1 (ht t List.mem_cons_self).2 h1 (fun x hx => hb.same (hp x (List.mem_append_left _ hx)).1) (fun x hx => (hp x (List.mem_append_left _ hx)).2),
      trodAll_stays hl hb (fun t' ht' => ht t' (List.mem_cons_of_mem _ ht')) h2 fun x hx => hp x (List.mem_append_right _ hx), rfl⟩

/-- THE LAW's CONTRACT, out of a walked call. -/
theorem law_contract {H : Type} (enc : TypeId × Value → H) {f : FuncId} {fn : Func} {s : ChangeSpec} {ts : List TypeId} {α : Type} {en : α → List DV} {sz : α → Nat} {ok : α → Prop} {tb : TypeId} (hr : RdA P W ts en sz ok) (hts : fn.params = ts.toArray) (hres : fn.resultTypes = #[tb]) (htb : P.underlying tb = some .bool) (hvars : s.vars = [])
    (hl : laidOutB P = true) (hT : ∀ t, t ∈ ts → P.readableRec t = true ∧ t < P.types.size) (hspec : ∀ ds : List (DataW H), ds.length = ts.length → s.fn H ds = { results := [.lit (.bool true)], args := ds })
    (hcall : ∀ a, ok a → sz a ≤ 1048576 → ACall P W f (en a) ⟨[], []⟩ fun d _ => d = dB true)
    (base : Nat) (args : Array Value) (ds gs : List (DataW H)) (before : List MemPlace) (hval : ∀ (j : Nat) t v, fn.params[j]? = some t → args[j]? = some v → Value.okWide P W .any base t v)
    (hW : DataW.Whole enc P fn.params.toList s.vars false W args.toList ds gs before) (hk : Rows.uptoBulkAll (ds ++ gs) ≤ 1048576) :
    Calls P f args W fun e W' => ∃ v, e = .returned v ∧ s.post enc P fn false true false false W args v W' := by
  have hW' := hW
  obtain ⟨p, q, hA, hV, rfl, hfz, hnd⟩ := hW
  rw [hvars] at hV
  have hgs : gs = [] ∧ q = [] := by
    cases gs with
    | nil => exact ⟨rfl, hV⟩
    | cons g gs => exact hV.elim
  obtain ⟨rfl, rfl⟩ := hgs
  rw [hts] at hA
  simp only [List.append_nil] at hk
  obtain ⟨a, a1, a2, a3⟩ := hr H enc base args.toList ds p (fun j t v x y => hval j t v (by rw [hts]; simpa using x) (by simpa using y)) (by simpa using hA)
  have hc := hcall a a1 (Nat.le_trans a2 hk) (gW W) args W (rel_start W) a3
  refine hc.mono ?_
  rintro e W' ⟨r, g', d, S', rfl, hle, hR, hd, rfl⟩
  have hb := hR.below.base.below
  have hrv : r = .bool true := rep_bool hd
  subst hrv
  have hlen : ds.length = ts.length := by
    have : ∀ {ts : List TypeId} {vs : List Value} {ds : List (DataW H)} {ps : List MemPlace}, DataW.TrodAll enc P W 0 (fun _ => true) true ts vs ds ps → ds.length = ts.length := by
      intro ts
      induction ts with
      | nil => intro vs ds ps h; obtain ⟨rfl, rfl, rfl⟩ := trodAll_nil h; rfl
      | cons t ts ih =>
        intro vs ds ps h
        obtain ⟨v, vs', d, ds', p1, q1, rfl, rfl, rfl, h1, h2⟩ := trodAll_cons h
        simp [ih h2]
    exact this (by simpa using hA)
  have hsp := hspec ds hlen
  have hold : ∀ x, x ∈ p → x.block < W.heap.size := fun x hx => hW'.lt x (by simpa using hx)
  have hres' : ∀ (b : Nat) (sp : Nat → Bool) (hd : Bool), DataW.TrodAll enc P W' b sp hd fn.resultTypes.toList ((Value.bool true).resultList fn.resultTypes.size) (s.fn H (ds ++ [])).results [] := by
    intro b sp hd
    rw [List.append_nil, hsp, hres]
    exact trodAll_cons_mk (shut_bool htb _) trodAll_mk0
  have hargs' : ∀ sp : Nat → Bool, (∀ x, x ∈ p → sp x.block = true) → DataW.TrodAll enc P W' 0 sp true fn.params.toList args.toList (s.fn H (ds ++ [])).args p := by
    intro sp hs
    rw [List.append_nil, hsp, hts]
    exact trodAll_stays hl hb hT (by simpa using hA) fun x hx => ⟨hold x hx, hs x hx⟩
  have hvars' : ∀ sp : Nat → Bool, DataW.TrodVars enc P W' sp s.vars (s.fn H (ds ++ [])).vars [] := by
    intro sp
    rw [List.append_nil, hsp, hvars]
    exact rfl
  refine ⟨.bool true, rfl, ds, [], p ++ [], [], p, [], hW', hres' _ _ _, hargs' _ (fun x hx => by simpa using hold x hx), hvars' _, World.keptBut_mono (fun x hx => ⟨hx, .inr (by simpa using hx)⟩) (hb.frame _), fun _ => ?_⟩
  refine ⟨?_, _, _, ([] ++ p) ++ [], ⟨[] ++ p, [], trodAll_append (hargs' _ (fun _ _ => rfl)) (hres' _ _ _), hvars' _, rfl, ?_, ?_⟩, ?_⟩
  · exact ok_one hres rfl (okWide_bool_mk htb _)
  · intro b off hp
    have hp : MemPlace.cell b off ∈ p := by simpa using hp
    rw [hb.frozen (hold _ hp)]
    exact hfz b off (by simpa using hp)
  · intro ha; cases ha
  · intro x hx _
    simpa using hx
end
end Go.Proofs.Ytodndiioekjjoaa

namespace Go.Proofs.Ytodndiioekjjoaa
open Aml Go
set_option linter.unusedVariables false
set_option linter.unusedSimpArgs false
set_option maxRecDepth 100000
def encH (a : Int × Int) : List Value := [.int .i64 a.1, .int .i64 a.2]
theorem cmpI_lt {x y : Int} : cmpI x y < 0 ↔ x < y := by unfold cmpI; split <;> (try split) <;> omega
theorem cmpI_eq {x y : Int} : cmpI x y = 0 ↔ x = y := by unfold cmpI; split <;> (try split) <;> omega
theorem cmpH_lt {a b : Int × Int} : cmpH a b < 0 ↔ a.1 < b.1 ∨ (a.1 = b.1 ∧ a.2 < b.2) := by
  unfold cmpH
  split
  · rename_i h
    rw [cmpI_eq] at h
    rw [cmpI_lt]; omega
  · rename_i h
    rw [cmpI_eq] at h
    rw [cmpI_lt]; omega
theorem ltOf_iff {a b : Int × Int} : ltOf cmpH a b = true ↔ a.1 < b.1 ∨ (a.1 = b.1 ∧ a.2 < b.2) := by
  unfold ltOf; rw [decide_eq_true_eq, cmpH_lt]
theorem swoH : Go.Sort.SWO (ltOf cmpH) where
  irrefl := fun x => by rw [← Bool.not_eq_true, ltOf_iff]; omega
  trans := fun x y z h k => by rw [ltOf_iff] at *; omega
  ntrans := fun x y z h k => by rw [← Bool.not_eq_true, ltOf_iff] at *; omega
theorem totH (x y : Int × Int) (h : ltOf cmpH x y = false) (k : ltOf cmpH y x = false) : x = y := by
  rw [← Bool.not_eq_true, ltOf_iff] at h k
  exact Prod.ext (by omega) (by omega)
/-- A call of no memory of its own: what it hands back, and how the world grows. -/
theorem grown_of (w : World) (a b : Int × Int) : Calls Try.prog 28 #[.agg (encH a).toArray, .agg (encH b).toArray] w fun e w' => e = .returned (.int .i64 (cmpH a b)) ∧ ∃ q os', w' = Go.Sort.grow (w.drewN q) os' := by
  have h := all1P (W0.mk w ⟨fun _ _ => none, fun _ _ => none, fun _ => none⟩) a b ⟨[], []⟩
  have hr : ∀ (g : Gh) (x : Int × Int), Rep g (dHp x) (.agg (encH x).toArray) := fun g x =>
    .agg _ _ rfl (fun i d u h1 h2 => by
      match i, h1, h2 with
      | 0, h1, h2 => cases h1; cases h2; exact .v _ rfl
      | 1, h1, h2 => cases h1; cases h2; exact .v _ rfl
      | i + 2, h1, h2 => simp at h1) (fun u hu => by
      unfold encH at hu
      simp at hu
      rcases hu with rfl | rfl <;> rfl)
  refine (h (gW w) _ w (rel_start w) (RepL.cons (hr _ a) (RepL.cons (hr _ b) (RepL.nil _)))).mono ?_
  rintro e w' ⟨r, g', d, S', rfl, _, hR, hd, rfl, rfl⟩
  have hb : Bel w.heap.size w w' := hR.below.base
  refine ⟨by rw [rep_v hd], w'.drawn - w.drawn, w'.heap.extract w.heap.size w'.heap.size, ?_⟩
  have hheap : w'.heap = w.heap ++ w'.heap.extract w.heap.size w'.heap.size := by
    refine Array.ext_getElem? fun k => ?_
    by_cases hk : k < w.heap.size
    · rw [Array.getElem?_append_left hk]
      exact hb.block k hk
    · rw [Array.getElem?_append_right (by omega), Array.getElem?_extract]
      have := hb.size
      split
      · rw [show w.heap.size + (k - w.heap.size) = k by omega]
      · rw [Array.getElem?_eq_none (by omega)]
  have h1 := hb.os
  have h2 := hb.tape
  have h3 := hb.output
  have h4 := hb.drawn
  clear hb hR hd
  obtain ⟨he, ta, dr, oss, out⟩ := w
  obtain ⟨he', ta', dr', oss', out'⟩ := w'
  simp only at h1 h2 h3 h4 hheap
  subst h1; subst h2; subst h3
  have e : dr + (dr' - dr) = dr' := by omega
  show World.mk he' ta' dr' oss' out' = World.mk (he ++ he'.extract he.size he'.size) ta' (dr + (dr' - dr)) oss' out'
  rw [e, ← hheap]
theorem cmpLaysH (blk off size : Nat) (w : World) : CmpLays Try.prog 28 #[] encH 2 cmpH blk off size w := fun m os dk _ x y => by
  have := grown_of (Go.Proofs.sortWorldK encH 2 w blk off m dk os) x y
  exact this
end Go.Proofs.Ytodndiioekjjoaa

namespace Go.Proofs.Ytodndiioekjjoaa
open Aml Go
set_option linter.unusedVariables false
set_option linter.unusedSimpArgs false
set_option maxRecDepth 100000
/-- Handles, rising. -/
def srtH (l : List (Int × Int)) : List (Int × Int) := l.mergeSort fun x y => !(ltOf cmpH) y x
theorem srtH_length (l : List (Int × Int)) : (srtH l).length = l.length := List.length_mergeSort l
theorem get_bangH {l : List (Int × Int)} {j : Nat} {a : Int × Int} (h : l[j]? = some a) : l.toArray[j]! = a := by
  obtain ⟨hlt, rfl⟩ := List.getElem?_eq_some_iff.1 h
  rw [getElem!_pos l.toArray j (by simpa using hlt)]
  simp
theorem flatH_at {l : List (Int × Int)} {i c : Nat} {a : Int × Int} (h : l[i]? = some a) (hc : c < 2) : (Go.Sort.flatK encH 2 l.toArray)[i * 2 + c]! = (encH a)[c]! := by
  have hlt : i < l.length := (List.getElem?_eq_some_iff.1 h).1
  rw [Go.Sort.get_flatK encH 2 _ _ (by simp; omega), show (i * 2 + c) / 2 = i by omega, show (i * 2 + c) % 2 = c by omega, get_bangH h]
theorem sorted_heapH {w : World} {n b e : Nat} {cs : Array Value} {zs : List (Int × Int)} {os : Array Obj} (hb : w.heap[b]? = some (.cells cs e (0, 0))) (hn : zs.length * 2 ≤ cs.size) :
    ∃ cs', (Go.Proofs.sortWorldK encH 2 w b 0 n zs.toArray os).heap[b]? = some (.cells cs' e (0, 0)) ∧ cs'.size = cs.size ∧ (∀ (i : Nat) (a : Int × Int) (c : Nat), zs[i]? = some a → c < 2 → cs'[i * 2 + c]? = (encH a)[c]?) ∧ ∀ x, x ∈ cs'.toList → x ∈ cs.toList ∨ ∃ a, x = .int .i64 a := by
  refine ⟨Go.Sort.putCells id 0 (Go.Sort.flatK encH 2 zs.toArray) cs, ?_, by simp [Go.Sort.putCells], fun i a c hi hc2 => ?_, fun x hx => ?_⟩
  · unfold Go.Proofs.sortWorldK
    rw [Go.Sort.heap_grow_old _ _ (by have := (Array.getElem?_eq_some_iff.1 hb).1; simpa [Go.Sort.putRowK] using this)]
    simp only [Go.Sort.putRowK, Go.Sort.putRow, Go.Sort.mapBlock, Go.Sort.heap_ahead, Array.getElem?_modify, if_true, hb, Option.map_some, Go.Sort.onCells]
  · have hlt : i < zs.length := (List.getElem?_eq_some_iff.1 hi).1
    have hc : cs[i * 2 + c]? = some cs[i * 2 + c] := Array.getElem?_eq_getElem (by omega)
    simp only [Go.Sort.putCells, Array.getElem?_mapIdx, hc, Option.map_some]
    rw [if_pos (by simp; omega)]
    simp only [Nat.sub_zero]
    rw [flatH_at hi hc2]
    match c, hc2 with
    | 0, _ => rfl
    | 1, _ => rfl
  · obtain ⟨i, hi⟩ := List.mem_iff_getElem?.1 hx
    rw [Array.getElem?_toList] at hi
    simp only [Go.Sort.putCells, Array.getElem?_mapIdx, Option.map_eq_some_iff] at hi
    obtain ⟨y, hy, rfl⟩ := hi
    split
    · rename_i hh
      have h2 : i < zs.length * 2 := by have := hh.2; simpa using this
      have hq : zs[i / 2]? = some zs[i / 2] := List.getElem?_eq_getElem (by omega)
      have := flatH_at (c := i % 2) hq (by omega)
      rw [show i / 2 * 2 + i % 2 = i by omega] at this
      refine .inr ?_
      rw [Nat.sub_zero, this]
      rcases (show i % 2 = 0 ∨ i % 2 = 1 by omega) with h | h <;> rw [h] <;> exact ⟨_, rfl⟩
    · exact .inl (Array.mem_toList_iff.2 (Array.mem_of_getElem? hy))
theorem rep_dHp {g : Gh} {a : Int × Int} {u : Value} (h : Rep g (dHp a) u) : u = .agg (encH a).toArray := by
  unfold dHp at h
  cases h
  rename_i us h1 hl hr
  match us, hl, hr with
  | [x, y], _, hr =>
    have e1 := rep_v (hr 0 _ _ rfl rfl)
    have e2 := rep_v (hr 1 _ _ rfl rfl)
    rw [e1, e2]; rfl
set_option maxHeartbeats 400000 in
/-- slices.SortFunc at handles, of a growing slice. -/
theorem sort_handles (w0 : W0) {l : Nat} {zs : List (Int × Int)} {S : St} (hl : lk S.acc l = some (.arr 2 (zs.map dHp))) (hsz : zs.length < 4611686018427387904) :
    ACall Try.prog w0 34 [.acc l zs.length, .v (.func (.func 28) #[] #[])] S (fun d S' => d = .tup [] ∧ S' = ⟨S.box, up S.acc l (.arr 2 ((srtH zs).map dHp))⟩) := by
  intro g vs w h1 h2
  obtain ⟨u, us, hvs, hr, h3⟩ := h2.uncons
  obtain ⟨u2, us2, hvs2, hr2, h4⟩ := h3.uncons
  have hus : us2 = [] := List.eq_nil_of_length_eq_zero (by have := h4.len; simpa using this.symm)
  subst hus
  have hvs' : vs = #[u, u2] := by rw [← Array.toArray_toList (xs := vs), hvs, hvs2]
  subst hvs'
  obtain ⟨o, c, hv, ha⟩ := rep_acc hr
  subst hv
  have hv2 := rep_v hr2
  subst hv2
  by_cases hz : zs = []
  · subst hz
    refine (Try.sortFunc_none o c _ w).mono ?_
    rintro e w' ⟨rfl, rfl⟩
    refine ⟨_, g, .tup [], _, rfl, .refl g, ?_, .tup [] [] rfl (by intro i d u h; simp at h), rfl, rfl⟩
    have : srtH [] = [] := by simp [srtH]
    rw [this, up_self hl]
    exact h1
  · have hpos : 0 < zs.length := List.length_pos_iff.2 hz
    obtain ⟨ow, hO⟩ := h1.open_
    obtain ⟨hs, ⟨he, o2, _⟩ | ⟨b, c2, cs, e, q1, q2, q3, q4, q5, q6, q7, q8, q8x, us, q9, q10, q11, q12⟩⟩ := hO.acc l _ (lk_mem hl)
    · exact absurd (by simpa using he) hz
    · rw [List.length_map] at q1 q7
      have q1' := q1
      rw [ha] at q1
      simp only [Option.some.injEq, Value.slice.injEq, true_and] at q1
      obtain ⟨rfl, rfl⟩ := q1
      have hul : us.length = zs.length := by have := q9.len; simpa using this.symm
      have hus : ∀ (i : Nat) (a : Int × Int), zs[i]? = some a → us[i]? = some (.agg (encH a).toArray) := by
        intro i a hi
        have hlt : i < us.length := by rw [hul]; exact (List.getElem?_eq_some_iff.1 hi).1
        have hu : us[i]? = some us[i] := List.getElem?_eq_getElem hlt
        have := q9.at_ i (dHp a) _ (by simp [hi]) hu
        have := rep_dHp this
        rw [hu, this]
      have hcell : ∀ (a : Int × Int) (j : Nat), (Value.agg (encH a).toArray).cells[j]? = (encH a)[j]? := fun a j => by
        have e : (Value.agg (encH a).toArray).cells = (encH a).toArray := rfl
        rw [e]; simp
      have hcs : ∀ (i : Nat) (a : Int × Int) (j : Nat), zs[i]? = some a → j < 2 → cs[i * 2 + j]? = (encH a)[j]? := by
        intro i a j hi hj
        have hx : (encH a)[j]? = some ((encH a)[j]'(by unfold encH; simpa using hj)) := List.getElem?_eq_getElem _
        rw [hx]
        exact q12 i _ j _ (hus i a hi) (by rw [hcell, hx])
      have hH : Go.Sort.HoldsK encH 2 w b 0 zs.toArray := by
        intro j hj
        have hj' : j < zs.length * 2 := by
          have : (Go.Sort.flatK encH 2 zs.toArray).size = zs.length * 2 := by simp [Go.Sort.flatK]
          omega
        have hi : zs[j / 2]? = some zs[j / 2] := List.getElem?_eq_getElem (by omega)
        have hf := flatH_at (c := j % 2) hi (by omega)
        have hk := hcs (j / 2) _ (j % 2) hi (by omega)
        rw [show j / 2 * 2 + j % 2 = j by omega] at hf hk
        constructor
        · rw [cells_at q5, Nat.zero_add, hk, hf]
          rcases (show j % 2 = 0 ∨ j % 2 = 1 by omega) with h | h <;> rw [h] <;> rfl
        · simp [World.frozen?, q5]
      refine (AnyQ.slices_SortFunc_total Try.l34 2 (fun _ => rfl) (fun _ => rfl) encH (fun _ => rfl) (fun x v hv => by
        unfold encH at hv
        simp at hv
        rcases hv with rfl | rfl <;> rfl) cmpH swoH 28 #[] b 0 c zs.toArray w (fun _ _ => rfl) (cmpLaysH b 0 _ w) hH (lt_of_heap q5) (by simpa using hsz) totH).mono ?_
      rintro ex w' ⟨rfl, n, os, rfl⟩
      have hss : (zs.toArray.toList.mergeSort fun x y => !(ltOf cmpH) y x) = srtH zs := by simp [srtH]
      rw [hss]
      obtain ⟨cs', h5, h6, h7, h8⟩ := sorted_heapH (n := n) (os := os) (zs := srtH zs) q5 (by rw [srtH_length]; omega)
      have hold : ∀ k, k < w.heap.size → k ≠ b → (Go.Proofs.sortWorldK encH 2 w b 0 n (srtH zs).toArray os).heap[k]? = w.heap[k]? := fun k hk hne => by
        unfold Go.Proofs.sortWorldK
        rw [Go.Sort.heap_grow_old _ _ (by simp [Go.Sort.putRowK]; exact hk)]
        have : b ≠ k := fun e => hne e.symm
        simp [Go.Sort.putRowK, Go.Sort.putRow, Go.Sort.mapBlock, Array.getElem?_modify, this]
      have hgs : w.heap.size ≤ (Go.Proofs.sortWorldK encH 2 w b 0 n (srtH zs).toArray os).heap.size := by
        unfold Go.Proofs.sortWorldK
        simp [Go.Sort.putRowK]
      refine ⟨_, g, .tup [], _, rfl, .refl g, ?_, .tup [] [] rfl (by intro i d u h; simp at h), rfl, rfl⟩
      refine h1.rearr (us := (srtH zs).map fun a => Value.agg (encH a).toArray) (b := b) (c := c) (e := e) (cs := cs') hl (by rw [List.length_map]; exact ha) (by simp [srtH_length]) (by omega) h5 (by omega) ?_ hgs hold ?_ ?_ ?_ ?_ fun x hx => (h8 x hx).elim (q8x x) fun ⟨a, e⟩ => by rw [e]; rfl
      · refine h1.below.step ⟨rfl, rfl, rfl, hgs, fun k hk => ?_, Nat.le_add_right _ _⟩ b (nc_cells q5) fun k hk hne => hold k hk hne
        have := h1.below.size
        exact hold k (by omega) (by omega)
      · exact ⟨by simp, fun i d u a1 a2 => by
          simp only [List.getElem?_map, Option.map_eq_some_iff] at a1 a2
          obtain ⟨x, hx, rfl⟩ := a1
          obtain ⟨y, hy, rfl⟩ := a2
          rw [hx] at hy; cases hy
          exact .agg _ _ rfl (fun i d u h1 h2 => by
            match i, h1, h2 with
            | 0, h1, h2 => cases h1; cases h2; exact .v _ rfl
            | 1, h1, h2 => cases h1; cases h2; exact .v _ rfl
            | i + 2, h1, h2 => simp at h1) (fun u hu => by
            unfold encH at hu
            simp at hu
            rcases hu with rfl | rfl <;> rfl)⟩
      · intro i u hi
        simp only [List.getElem?_map, Option.map_eq_some_iff] at hi
        obtain ⟨x, _, rfl⟩ := hi; rfl
      · intro u hu x hx
        obtain ⟨a, _, rfl⟩ := List.mem_map.1 hu
        have e : (Value.agg (encH a).toArray).cells = (encH a).toArray := rfl
        rw [e] at hx
        unfold encH at hx
        simp at hx
        rcases hx with rfl | rfl <;> rfl
      · intro i u j x hi hj
        simp only [List.getElem?_map, Option.map_eq_some_iff] at hi
        obtain ⟨a, ha', rfl⟩ := hi
        rw [hcell] at hj
        have hj2 : j < 2 := by
          have := (List.getElem?_eq_some_iff.1 hj).1
          simpa [encH] using this
        rw [h7 i a j ha' hj2, hj]
end Go.Proofs.Ytodndiioekjjoaa

namespace Go.Proofs.Ytodndiioekjjoaa
open Aml Go
set_option linter.unusedVariables false
set_option linter.unusedSimpArgs false
set_option maxRecDepth 100000
/-- By level, then by number. -/
def ltP (a b : Int × Int) : Prop := a.1 < b.1 ∨ (a.1 = b.1 ∧ a.2 < b.2)
theorem rise_uniqH : ∀ {a b : List (Int × Int)}, a.Pairwise ltP → b.Pairwise ltP → (∀ x, x ∈ a ↔ x ∈ b) → a = b
  | [], [], _, _, _ => rfl
  | [], y :: b, _, _, h => by have := (h y).2 (List.mem_cons_self ..); cases this
  | x :: a, [], _, _, h => by have := (h x).1 (List.mem_cons_self ..); cases this
  | x :: a, y :: b, ha, hb, h => by
    rw [List.pairwise_cons] at ha hb
    have e : x = y := by
      have h1 := (h x).1 (List.mem_cons_self ..)
      have h2 := (h y).2 (List.mem_cons_self ..)
      rcases List.mem_cons.1 h1 with q | q
      · exact q
      · rcases List.mem_cons.1 h2 with r | r
        · exact r.symm
        · have a1 := hb.1 x q
          have a2 := ha.1 y r
          unfold ltP at a1 a2
          omega
    subst e
    rw [rise_uniqH ha.2 hb.2 fun z => ?_]
    have hz := h z
    rw [List.mem_cons, List.mem_cons] at hz
    constructor
    · intro q
      rcases hz.1 (.inr q) with r | r
      · subst r
        have := ha.1 z q
        unfold ltP at this; omega
      · exact r
    · intro q
      rcases hz.2 (.inr q) with r | r
      · subst r
        have := hb.1 z q
        unfold ltP at this; omega
      · exact r
theorem srtH_rise {V : List (Int × Int)} (hn : V.Nodup) : (srtH V).Pairwise ltP := by
  have h1 : (srtH V).Pairwise fun x y => (!(ltOf cmpH) y x) = true := by
    refine List.pairwise_mergeSort (le := fun x y : Int × Int => !(ltOf cmpH) y x) (fun a b c h k => ?_) (fun a b => ?_) V
    · rw [Bool.not_eq_true', ← Bool.not_eq_true, ltOf_iff] at *
      omega
    · rw [Bool.or_eq_true, Bool.not_eq_true', Bool.not_eq_true', ← Bool.not_eq_true, ← Bool.not_eq_true, ltOf_iff, ltOf_iff]
      omega
  have h2 : (srtH V).Nodup := (List.mergeSort_perm V _).nodup_iff.2 hn
  refine (h1.and h2).imp fun {a b} h => ?_
  obtain ⟨p, q⟩ := h
  rw [Bool.not_eq_true', ← Bool.not_eq_true, ltOf_iff] at p
  unfold ltP
  rcases Classical.em (a.1 < b.1 ∨ (a.1 = b.1 ∧ a.2 < b.2)) with r | r
  · exact r
  · exact absurd (Prod.ext (by omega) (by omega)) q
theorem fin_srtH {es : List (Value × DV × Nat)} {V L : List (Int × Int)} (hV : FinKH es V) (hL : L.Pairwise ltP) (hm : ∀ a, (∃ e, e ∈ es ∧ e.1 = kH a) ↔ a ∈ L) : srtH V = L := by
  refine rise_uniqH (srtH_rise hV.1.1) hL fun x => ?_
  rw [show x ∈ srtH V ↔ x ∈ V from (List.mergeSort_perm V _).mem_iff, ← hm]
  constructor
  · exact fun h => hV.1.2 x h
  · rintro ⟨e, he, hk⟩
    obtain ⟨v, hv, e2⟩ := hV.2 e he
    rw [hk] at e2
    rw [kH_inj e2]; exact hv
theorem finH_len {es : List (Value × DV × Nat)} {V : List (Int × Int)} (hV : FinKH es V) : V.length ≤ es.length := by
  have h1 : (V.map kH).Nodup := nodup_map_inj (fun x y h => kH_inj h) hV.1.1
  have h2 : (V.map kH) ⊆ es.map (·.1) := fun u hu => by
    obtain ⟨v, hv, rfl⟩ := List.mem_map.1 hu
    obtain ⟨e', he', h3⟩ := hV.1.2 v hv
    exact List.mem_map.2 ⟨e', he', h3⟩
  have := nodup_len h1 h2
  simpa using this
theorem sortedFuncWH (w0 : W0) {b m clk : Nat} {es : List (Value × DV × Nat)} {S : St} (hb : lk S.box b = some [.mp m]) (hm : lk S.acc m = some (.xo (.mp (.st [.i64, .i64]) es clk))) (hok : MapOk (.st [.i64, .i64]) es clk) (hlen : es.length ≤ 1048576) :
    ACall Try.prog w0 26 [.v (.func (.func 35) #[] #[.pointer (some ⟨b, 0, none⟩)]), .v (.func (.func 28) #[] #[])] S (fun d S' => ∃ (V : List (Int × Int)) (r : FN S.acc), FinKH es V ∧ d = .acc r.n V.length ∧ S' = ⟨S.box, (r.n, .arr 2 ((srtH V).map dHp)) :: S.acc⟩) := by
  refine fnO [] mx Try.func26 rfl rfl (by kernel_rfl) ?_; simp (maxDischargeDepth := 12) (maxSteps := 1000000) -implicitDefEqProofs only [Try.ntmps26, go_sem, Nat.reduceAdd, Nat.reduceSub, Nat.reduceMul, Nat.reduceLeDiff, Nat.reduceEqDiff, Nat.reduceGT, Nat.reduceBEq, reduceCtorEq, ↓reduceIte, Int.reduceToNat, Int.reduceLE, Int.reduceLT, Int.reduceNe, Int.reduceEq]
  refine useK (collectWH w0 hb hm hok hlen) ?_
  rintro _ _ ⟨V, r, hV, rfl, rfl⟩
  simp (maxDischargeDepth := 12) (maxSteps := 1000000) -implicitDefEqProofs only [go_sem, Nat.reduceAdd, Nat.reduceSub, Nat.reduceMul, Nat.reduceLeDiff, Nat.reduceEqDiff, Nat.reduceGT, Nat.reduceBEq, reduceCtorEq, ↓reduceIte, Int.reduceToNat, Int.reduceLE, Int.reduceLT, Int.reduceNe, Int.reduceEq]
  have hVl := finH_len hV
  refine .inl (useK (sort_handles w0 (l := r.n) (zs := V) (S := ⟨S.box, (r.n, .arr 2 (V.map dHp)) :: S.acc⟩) (by simp [lk]) (by omega)) ?_)
  rintro _ _ ⟨rfl, rfl⟩
  simp (maxDischargeDepth := 12) (maxSteps := 1000000) -implicitDefEqProofs only [go_sem, Nat.reduceAdd, Nat.reduceSub, Nat.reduceMul, Nat.reduceLeDiff, Nat.reduceEqDiff, Nat.reduceGT, Nat.reduceBEq, reduceCtorEq, ↓reduceIte, Int.reduceToNat, Int.reduceLE, Int.reduceLT, Int.reduceNe, Int.reduceEq]
  exact ⟨V, r, hV, rfl, rfl⟩
set_option maxHeartbeats 4000000 in
theorem allP (w0 : W0) {S : St} {t l1 l2 : Nat} {es1 : List (Value × DV × Nat)} {c1 : Nat} {es2 : List (Value × DV × Nat)} {c2 : Nat} (h : TbM S t l1 l2 es1 c1 es2 c2) (hlen : es2.length ≤ 1048576) (L : List (Int × Int)) (hL : L.Pairwise ltP) (hk : ∀ a, (∃ e, e ∈ es2 ∧ e.1 = kH a) ↔ a ∈ L) :
    ACall Try.prog w0 17 [ptH t] S (fun d S' => d = .sl 2 false (L.map dHp) ∧ S' = S) := by
  have h1 := h.tb
  refine acall_mapOk h.m2 fun hok => ?_
  refine fnS [] mx Try.func17 rfl rfl (by kernel_rfl) ?_; simp (maxDischargeDepth := 12) (maxSteps := 1000000) -implicitDefEqProofs only [Try.ntmps17, go_sem, Nat.reduceAdd, Nat.reduceSub, Nat.reduceMul, Nat.reduceLeDiff, Nat.reduceEqDiff, Nat.reduceGT, Nat.reduceBEq, reduceCtorEq, ↓reduceIte, Int.reduceToNat, Int.reduceLE, Int.reduceLT, Int.reduceNe, Int.reduceEq]
  simp (maxDischargeDepth := 12) (maxSteps := 1000000) -implicitDefEqProofs only [go_sem, Nat.reduceAdd, Nat.reduceSub, Nat.reduceMul, Nat.reduceLeDiff, Nat.reduceEqDiff, Nat.reduceGT, Nat.reduceBEq, reduceCtorEq, ↓reduceIte, Int.reduceToNat, Int.reduceLE, Int.reduceLT, Int.reduceNe, Int.reduceEq, h1]
  refine useK (keysWH w0 _) ?_
  rintro _ _ ⟨b4, rfl, rfl⟩
  simp (maxDischargeDepth := 12) (maxSteps := 1000000) -implicitDefEqProofs only [go_sem, Nat.reduceAdd, Nat.reduceSub, Nat.reduceMul, Nat.reduceLeDiff, Nat.reduceEqDiff, Nat.reduceGT, Nat.reduceBEq, reduceCtorEq, ↓reduceIte, Int.reduceToNat, Int.reduceLE, Int.reduceLT, Int.reduceNe, Int.reduceEq]
  refine useK (sortedFuncWH w0 (b := b4.n) (m := l2) (clk := c2) (es := es2) (by simp [lk]) h.m2 hok hlen) ?_
  rintro _ _ ⟨V, r, hV, rfl, rfl⟩
  have hs := fin_srtH hV hL hk
  rw [hs]
  simp (maxDischargeDepth := 12) (maxSteps := 1000000) -implicitDefEqProofs only [go_sem, Nat.reduceAdd, Nat.reduceSub, Nat.reduceMul, Nat.reduceLeDiff, Nat.reduceEqDiff, Nat.reduceGT, Nat.reduceBEq, reduceCtorEq, ↓reduceIte, Int.reduceToNat, Int.reduceLE, Int.reduceLT, Int.reduceNe, Int.reduceEq]
  rw [← hs]
  exact srtH_length V
end Go.Proofs.Ytodndiioekjjoaa

namespace Go.Proofs.Ytodndiioekjjoaa
open Aml Go
set_option linter.unusedVariables false
set_option linter.unusedSimpArgs false
set_option maxRecDepth 100000
theorem findIdx_setH {α : Type} {p : α → Bool} : ∀ {l : List α} {i : Nat} {a b : α}, l[i]? = some a → p b = p a → (l.set i b).findIdx p = l.findIdx p
  | [], i, a, b, h, _ => by simp at h
  | x :: l, 0, a, b, h, e => by
    cases h
    rw [List.set_cons_zero, List.findIdx_cons, List.findIdx_cons, e]
  | x :: l, i + 1, a, b, h, e => by
    rw [List.set_cons_succ, List.findIdx_cons, List.findIdx_cons, findIdx_setH (l := l) (by simpa using h) e]
theorem countP_setH {α : Type} {p : α → Bool} : ∀ {l : List α} {i : Nat} {a b : α}, l[i]? = some a → p b = p a → (l.set i b).countP p = l.countP p
  | [], i, a, b, h, _ => by simp at h
  | x :: l, 0, a, b, h, e => by
    cases h
    rw [List.set_cons_zero, List.countP_cons, List.countP_cons, e]
  | x :: l, i + 1, a, b, h, e => by
    rw [List.set_cons_succ, List.countP_cons, List.countP_cons, countP_setH (l := l) (by simpa using h) e]
theorem cnH_mono (l : List RH) (lv : Int) {i j : Nat} (h : i ≤ j) : cnH (l.take i) lv ≤ cnH (l.take j) lv := by
  have : l.take i = (l.take j).take i := by rw [List.take_take, Nat.min_eq_left h]
  rw [this]
  exact (List.take_sublist _ _).countP_le
/-- What the document's list always is. -/
structure WOk (w : List RH) : Prop where
  num : ∀ (i : Nat) s, w[i]? = some s → s.n = (cnH (w.take i) s.lv : Int) + 1
  up : ∀ s, s ∈ w → s.sn.Pairwise (· < ·)
  inn : ∀ s, s ∈ w → ∀ x, x ∈ s.sn → 1 ≤ x ∧ x ≤ s.last
  la : ∀ s, s ∈ w → 0 ≤ s.last
theorem WOk.nil : WOk [] := ⟨fun i s h => by simp at h, fun s h => by simp at h, fun s h => by simp at h, fun s h => by simp at h⟩
theorem WOk.le {w : List RH} (h : WOk w) {i : Nat} {s : RH} (hs : w[i]? = some s) : 1 ≤ s.n ∧ s.n ≤ cnH w s.lv := by
  have h1 := h.num i s hs
  have h2 := cnH_succ (lv := s.lv) hs
  rw [if_pos rfl] at h2
  have h3 := cnH_mono w s.lv (i := i + 1) (j := w.length) (by have := (List.getElem?_eq_some_iff.1 hs).1; omega)
  rw [List.take_length] at h3
  omega
theorem WOk.uq {w : List RH} (h : WOk w) {i j : Nat} {s r : RH} (hs : w[i]? = some s) (hr : w[j]? = some r) (e1 : s.lv = r.lv) (e2 : s.n = r.n) : i = j := by
  have key : ∀ {i j : Nat} {s r : RH}, w[i]? = some s → w[j]? = some r → s.lv = r.lv → i < j → s.n < r.n := fun {i j s r} hs hr e1 hij => by
    have h1 := h.num i s hs
    have h2 := h.num j r hr
    have h3 := cnH_succ (lv := s.lv) hs
    rw [if_pos rfl] at h3
    have h4 := cnH_mono w s.lv (i := i + 1) (j := j) (by omega)
    rw [← e1] at h2
    omega
  rcases Nat.lt_trichotomy i j with q | q | q
  · have := key hs hr e1 q; omega
  · exact q
  · have := key hr hs e1.symm q; omega
theorem isH_iff {lv n : Int} {s : RH} : isH lv n s = true ↔ s.lv = lv ∧ s.n = n ∧ s.gone = false := by
  unfold isH; simp [and_assoc]
theorem ix_le (w : List RH) (lv n : Int) : ixH w lv n ≤ w.length := List.findIdx_le_length
theorem ix_some {w : List RH} {lv n : Int} {s : RH} (h : w[ixH w lv n]? = some s) : s.lv = lv ∧ s.n = n ∧ s.gone = false := by
  obtain ⟨c, hc, h2⟩ := ix_get (List.getElem?_eq_some_iff.1 h).1
  rw [h] at hc; cases hc
  exact isH_iff.1 h2
theorem ix_of {w : List RH} (hw : WOk w) {i : Nat} {s : RH} (h : w[i]? = some s) (hg : s.gone = false) : ixH w s.lv s.n = i := by
  refine ix_at h (isH_iff.2 ⟨rfl, rfl, hg⟩) fun j a hj ha => ?_
  cases hb : isH s.lv s.n a with
  | false => rfl
  | true =>
    obtain ⟨e1, e2, _⟩ := isH_iff.1 hb
    have := hw.uq ha h e1 e2
    omega
/-- All that is kept when a session is put anew, with its level and its number. -/
theorem WOk.set {w : List RH} (h : WOk w) {i : Nat} {s r : RH} (hs : w[i]? = some s) (e1 : r.lv = s.lv) (e2 : r.n = s.n) (h1 : r.sn.Pairwise (· < ·)) (h2 : ∀ x, x ∈ r.sn → 1 ≤ x ∧ x ≤ r.last) (h3 : 0 ≤ r.last) : WOk (w.set i r) := by
  have hm : ∀ a, a ∈ w.set i r → a ∈ w ∨ a = r := fun a ha => List.mem_or_eq_of_mem_set ha
  refine ⟨fun j a ha => ?_, fun a ha => (hm a ha).elim (h.up a) fun e => e ▸ h1, fun a ha => (hm a ha).elim (h.inn a) fun e => e ▸ h2, fun a ha => (hm a ha).elim (h.la a) fun e => e ▸ h3⟩
  have hc : ∀ lv, cnH ((w.set i r).take j) lv = cnH (w.take j) lv := fun lv => by
    rcases Nat.lt_or_ge i j with q | q
    · rw [List.take_set]
      refine countP_setH (a := s) (by rw [List.getElem?_take_of_lt q]; exact hs) ?_
      rw [e1]
    · rw [List.take_set_of_le q]
  rw [hc]
  by_cases q : i = j
  · subst q
    rw [List.getElem?_set_self (List.getElem?_eq_some_iff.1 hs).1] at ha
    cases ha
    rw [e2, e1]; exact h.num i s hs
  · rw [List.getElem?_set_ne q] at ha
    exact h.num j a ha
theorem WOk.op {w : List RH} (h : WOk w) (lv : Int) : WOk (opH w lv).1 := by
  have hm : ∀ a, a ∈ (opH w lv).1 → a ∈ w ∨ a = ⟨lv, (cnH w lv : Int) + 1, [], 0, false⟩ := fun a ha => by
    unfold opH at ha
    rcases List.mem_append.1 ha with q | q
    · exact .inl q
    · exact .inr (List.mem_singleton.1 q)
  refine ⟨fun j a ha => ?_, fun a ha => (hm a ha).elim (h.up a) fun e => e ▸ List.Pairwise.nil, fun a ha => (hm a ha).elim (h.inn a) fun e => e ▸ fun x hx => (by cases hx), fun a ha => (hm a ha).elim (h.la a) fun e => e ▸ Int.le_refl _⟩
  unfold opH at ha ⊢
  simp only at ha ⊢
  rcases Nat.lt_trichotomy j w.length with q | q | q
  · rw [List.getElem?_append_left q] at ha
    rw [List.take_append_of_le_length (by omega)]
    exact h.num j a ha
  · subst q
    rw [List.getElem?_append_right (Nat.le_refl _), Nat.sub_self] at ha
    cases ha
    rw [List.take_left]
  · rw [List.getElem?_append_right (by omega)] at ha
    have : ¬ j - w.length = 0 := by omega
    cases hj : j - w.length with
    | zero => omega
    | succ k => rw [hj] at ha; simp at ha
theorem WOk.cl {w : List RH} (h : WOk w) (lv n : Int) : WOk (clH w lv n).1 := by
  unfold clH
  split
  · rename_i q
    obtain ⟨s, hs, _⟩ := ix_get q
    obtain ⟨e1, e2, _⟩ := ix_some hs
    exact h.set hs e1.symm e2.symm List.Pairwise.nil (fun x hx => by cases hx) (Int.le_refl _)
  · exact h
theorem WOk.sn {w : List RH} (h : WOk w) (lv n : Int) : WOk (snH w lv n).1 := by
  unfold snH
  split
  · rename_i s hs
    have hm := List.mem_of_getElem? hs
    have h1 := h.la s hm
    refine h.set hs rfl rfl ?_ (fun x hx => ?_) (by unfold snS; simp only; omega)
    · unfold snS
      simp only
      rw [List.pairwise_append]
      exact ⟨h.up s hm, List.pairwise_singleton _ _, fun x hx y hy => by
        rw [List.mem_singleton.1 hy]
        have := (h.inn s hm x hx).2; omega⟩
    · unfold snS at hx ⊢
      simp only at hx ⊢
      rcases List.mem_append.1 hx with q | q
      · have := h.inn s hm x q; omega
      · rw [List.mem_singleton.1 q]; omega
  · exact h
theorem WOk.un {w : List RH} (h : WOk w) (lv n x : Int) : WOk (unH w lv n x).1 := by
  unfold unH
  split
  · rename_i s hs
    have hm := List.mem_of_getElem? hs
    split
    · exact h
    · exact h.set hs rfl rfl ((h.up s hm).sublist List.filter_sublist) (fun y hy => h.inn s hm y ((List.mem_filter.1 hy).1)) (h.la s hm)
  · exact h
theorem ix_op {w : List RH} (hw : WOk w) (lv lv' n' : Int) : ixH (opH w lv).1 lv' n' = if ixH w lv' n' < w.length then ixH w lv' n' else if lv' = lv ∧ n' = (cnH w lv : Int) + 1 then w.length else w.length + 1 := by
  unfold opH ixH
  simp only
  rw [List.findIdx_append]
  split
  · rfl
  · rw [List.findIdx_cons, List.findIdx_nil]
    by_cases q : lv' = lv ∧ n' = (cnH w lv : Int) + 1
    · rw [if_pos q]
      have : isH lv' n' ⟨lv, (cnH w lv : Int) + 1, [], 0, false⟩ = true := isH_iff.2 ⟨q.1.symm, q.2.symm, rfl⟩
      rw [this]; simp
    · rw [if_neg q]
      have : isH lv' n' ⟨lv, (cnH w lv : Int) + 1, [], 0, false⟩ = false := by
        rw [← Bool.not_eq_true, isH_iff]
        exact fun ⟨a, b, _⟩ => q ⟨a.symm, b.symm⟩
      rw [this]; simp; omega
theorem ix_new {w : List RH} (hw : WOk w) (lv : Int) : ixH w lv ((cnH w lv : Int) + 1) = w.length := by
  refine ix_none fun j a ha => ?_
  rw [← Bool.not_eq_true, isH_iff]
  rintro ⟨e1, e2, _⟩
  have := (hw.le ha).2
  rw [e1] at this; omega
theorem ix_same {w : List RH} {i : Nat} {s r : RH} (hs : w[i]? = some s) (e1 : r.lv = s.lv) (e2 : r.n = s.n) (e3 : r.gone = s.gone) (lv n : Int) : ixH (w.set i r) lv n = ixH w lv n :=
  findIdx_setH hs (by unfold isH; rw [e1, e2, e3])
theorem ix_cl {w : List RH} (hw : WOk w) {lv n : Int} (h : ixH w lv n < w.length) (lv' n' : Int) : ixH (clH w lv n).1 lv' n' = if lv' = lv ∧ n' = n then w.length else ixH w lv' n' := by
  unfold clH
  rw [if_pos h]
  obtain ⟨s, hs, _⟩ := ix_get h
  obtain ⟨e1, e2, e3⟩ := ix_some hs
  simp only
  split
  · rename_i q
    obtain ⟨rfl, rfl⟩ := q
    have hl : w.length = (w.set (ixH w lv' n') ⟨lv', n', [], 0, true⟩).length := by rw [List.length_set]
    rw [hl]
    refine ix_none fun j a ha => ?_
    rw [← Bool.not_eq_true, isH_iff]
    rintro ⟨a1, a2, a3⟩
    by_cases q : ixH w lv' n' = j
    · rw [← q, List.getElem?_set_self h] at ha
      cases ha; cases a3
    · rw [List.getElem?_set_ne q] at ha
      exact q (hw.uq hs ha (by rw [e1, a1]) (by rw [e2, a2]))
  · rename_i q
    refine findIdx_setH hs ?_
    have x1 : isH lv' n' ⟨lv, n, [], 0, true⟩ = false := by
      rw [← Bool.not_eq_true, isH_iff]
      rintro ⟨_, _, q3⟩; cases q3
    have x2 : isH lv' n' s = false := by
      rw [← Bool.not_eq_true, isH_iff]
      rintro ⟨q1, q2, _⟩
      exact q ⟨by rw [← q1, e1], by rw [← q2, e2]⟩
    rw [x1, x2]
theorem cn_set {w : List RH} {i : Nat} {s r : RH} (hs : w[i]? = some s) (e1 : r.lv = s.lv) (lv : Int) : cnH (w.set i r) lv = cnH w lv := countP_setH hs (by rw [e1])
theorem cn_op (w : List RH) (lv lv' : Int) : cnH (opH w lv).1 lv' = cnH w lv' + if lv = lv' then 1 else 0 := by
  unfold opH cnH
  simp only
  rw [List.countP_append]
  congr 1
  by_cases e : lv = lv' <;> simp [e]
theorem cn_cl (w : List RH) (lv n lv' : Int) : cnH (clH w lv n).1 lv' = cnH w lv' := by
  unfold clH
  split
  · rename_i q
    obtain ⟨s, hs, _⟩ := ix_get q
    exact cn_set hs (ix_some hs).1.symm _
  · rfl
theorem cn_sn (w : List RH) (lv n lv' : Int) : cnH (snH w lv n).1 lv' = cnH w lv' := by
  unfold snH
  split
  · rename_i s hs
    exact cn_set (r := snS s) hs rfl _
  · rfl
theorem cn_un (w : List RH) (lv n x lv' : Int) : cnH (unH w lv n x).1 lv' = cnH w lv' := by
  unfold unH
  split
  · rename_i s hs
    split
    · rfl
    · exact cn_set (r := ⟨s.lv, s.n, lfL x s.sn, s.last, s.gone⟩) hs rfl _
  · rfl
theorem opH_len (w : List RH) (lv : Int) : (opH w lv).1.length = w.length + 1 := by unfold opH; simp
theorem clH_len (w : List RH) (lv n : Int) : (clH w lv n).1.length = w.length := by unfold clH; split <;> simp
theorem snH_len (w : List RH) (lv n : Int) : (snH w lv n).1.length = w.length := by unfold snH; split <;> simp
theorem unH_len (w : List RH) (lv n x : Int) : (unH w lv n x).1.length = w.length := by
  unfold unH
  split
  · split <;> simp
  · rfl
/-- How far snapshots were counted. -/
def LaB (w : List RH) (k : Int) : Prop := ∀ s, s ∈ w → s.last ≤ k
theorem LaB.op {w : List RH} {k : Int} (h : LaB w k) (hk : 0 ≤ k) (lv : Int) : LaB (opH w lv).1 (k + 1) := fun a ha => by
  unfold opH at ha
  rcases List.mem_append.1 ha with q | q
  · have := h a q; omega
  · rw [List.mem_singleton.1 q]; show (0 : Int) ≤ k + 1; omega
theorem LaB.set {w : List RH} {k : Int} (h : LaB w k) {i : Nat} {r : RH} (hr : r.last ≤ k + 1) : LaB (w.set i r) (k + 1) := fun a ha => by
  rcases List.mem_or_eq_of_mem_set ha with q | q
  · have := h a q; omega
  · rw [q]; exact hr
theorem LaB.up {w : List RH} {k : Int} (h : LaB w k) : LaB w (k + 1) := fun a ha => by have := h a ha; omega
theorem LaB.cl {w : List RH} {k : Int} (h : LaB w k) (hk : 0 ≤ k) (lv n : Int) : LaB (clH w lv n).1 (k + 1) := by
  unfold clH
  split
  · exact h.set (by show (0 : Int) ≤ k + 1; omega)
  · exact h.up
theorem LaB.sn {w : List RH} {k : Int} (h : LaB w k) (lv n : Int) : LaB (snH w lv n).1 (k + 1) := by
  unfold snH
  split
  · rename_i s hs
    have := h s (List.mem_of_getElem? hs)
    exact h.set (by unfold snS; simp only; omega)
  · exact h.up
theorem LaB.un {w : List RH} {k : Int} (h : LaB w k) (lv n x : Int) : LaB (unH w lv n x).1 (k + 1) := by
  unfold unH
  split
  · rename_i s hs
    have := h s (List.mem_of_getElem? hs)
    split
    · exact h.up
    · exact h.set (by simp only; omega)
  · exact h.up
end Go.Proofs.Ytodndiioekjjoaa

namespace Go.Proofs.Ytodndiioekjjoaa
open Aml Go
set_option linter.unusedVariables false
set_option linter.unusedSimpArgs false
set_option maxRecDepth 100000
/-- Where a table lies: its box, its maps, and the box and the map of each session. -/
structure TbG where
  t : Nat
  l1 : Nat
  l2 : Nat
  ids : List (Nat × Nat)
def TbG.bx (θ : TbG) : List Nat := θ.t :: θ.ids.map (·.1)
def TbG.ax (θ : TbG) : List Nat := θ.l1 :: θ.l2 :: θ.ids.map (·.2)
def SesI (S : St) (p : Nat × Nat) (s : RH) : Prop := ∃ es c, lk S.box p.1 = some [dI s.last, .mp p.2] ∧ lk S.acc p.2 = some (.xo (.mp (.int .i64) es c)) ∧ ∀ x, mGet es (kI x) = if x ∈ s.sn then some (dI 1) else none
/-- The store's table is the document's list. -/
structure TI (S : St) (θ : TbG) (w : List RH) : Prop where
  ok : WOk w
  len : θ.ids.length = w.length
  ndb : θ.bx.Nodup
  nda : θ.ax.Nodup
  inb : ∀ c, c ∈ θ.bx → lk S.box c ≠ none
  ina : ∀ c, c ∈ θ.ax → lk S.acc c ≠ none
  tb : ∃ es1 c1 es2 c2, TbM S θ.t θ.l1 θ.l2 es1 c1 es2 c2 ∧ (∀ lv, mGet es1 (.int .i64 lv) = if cnH w lv = 0 then none else some (dI (cnH w lv))) ∧ ∀ lv n, mGet es2 (kyH lv n) = (θ.ids[ixH w lv n]?).map fun p => ptH p.1
  ses : ∀ (i : Nat) s p, w[i]? = some s → s.gone = false → θ.ids[i]? = some p → SesI S p s
theorem TI.mono {S S' : St} {θ : TbG} {w : List RH} (h : TI S θ w) (hb : ∀ c x, c ∈ θ.bx → lk S.box c = some x → lk S'.box c = some x) (ha : ∀ c x, c ∈ θ.ax → lk S.acc c = some x → lk S'.acc c = some x) : TI S' θ w := by
  obtain ⟨es1, c1, es2, c2, h1, h2, h3⟩ := h.tb
  have nn : ∀ {α : Type} {o : Option α}, o ≠ none → ∃ x, o = some x := fun {α o} q => by cases o with
    | none => exact absurd rfl q
    | some x => exact ⟨x, rfl⟩
  refine ⟨h.ok, h.len, h.ndb, h.nda, fun c hc => ?_, fun c hc => ?_, ⟨es1, c1, es2, c2, ⟨hb _ _ (List.mem_cons_self ..) h1.tb, ha _ _ (List.mem_cons_self ..) h1.m1, ha _ _ (List.mem_cons_of_mem _ (List.mem_cons_self ..)) h1.m2⟩, h2, h3⟩, fun i s p hs hg hp => ?_⟩
  · obtain ⟨x, hx⟩ := nn (h.inb c hc)
    rw [hb c x hc hx]; exact fun q => by cases q
  · obtain ⟨x, hx⟩ := nn (h.ina c hc)
    rw [ha c x hc hx]; exact fun q => by cases q
  · obtain ⟨es, c, q1, q2, q3⟩ := h.ses i s p hs hg hp
    have hm := List.mem_of_getElem? hp
    exact ⟨es, c, hb _ _ (List.mem_cons_of_mem _ (List.mem_map_of_mem hm)) q1, ha _ _ (List.mem_cons_of_mem _ (List.mem_cons_of_mem _ (List.mem_map_of_mem hm))) q2, q3⟩
theorem lk_consH {α : Type} {L : List (Nat × α)} {b c : Nat} {x y : α} (hb : lk L b = none) (h : lk L c = some x) : lk ((b, y) :: L) c = some x := by
  simp only [lk]
  rw [if_neg (fun e => by rw [e, h] at hb; cases hb)]; exact h
theorem lk_consN {α : Type} {L : List (Nat × α)} {b c : Nat} {y : α} (hb : ¬ b = c) (h : lk L c = none) : lk ((b, y) :: L) c = none := by
  simp only [lk]
  rw [if_neg hb]; exact h
theorem TI.consB {B : List (Nat × List DV)} {A : List (Nat × Ob)} {θ : TbG} {w : List RH} (h : TI ⟨B, A⟩ θ w) {b : Nat} (hb : lk B b = none) (ds : List DV) : TI ⟨(b, ds) :: B, A⟩ θ w := h.mono (fun c x _ hc => lk_consH hb hc) fun c x _ hc => hc
/-- What a call at a table leaves as it was. -/
structure FrT (S S' : St) (θ θ' : TbG) : Prop where
  t : θ'.t = θ.t
  box : ∀ c x, c ∉ θ.bx → lk S.box c = some x → lk S'.box c = some x
  acc : ∀ c x, c ∉ θ.ax → lk S.acc c = some x → lk S'.acc c = some x
  nb : ∀ c, c ∈ θ'.bx → c ∈ θ.bx ∨ lk S.box c = none
  na : ∀ c, c ∈ θ'.ax → c ∈ θ.ax ∨ lk S.acc c = none
theorem FrT.refl (S : St) (θ : TbG) : FrT S S θ θ := ⟨rfl, fun _ _ _ h => h, fun _ _ _ h => h, fun _ h => .inl h, fun _ h => .inl h⟩
/-- Two tables that lie apart. -/
structure Dj (θ φ : TbG) : Prop where
  b : ∀ c, c ∈ θ.bx → c ∉ φ.bx
  a : ∀ c, c ∈ θ.ax → c ∉ φ.ax
theorem Dj.symm {θ φ : TbG} (h : Dj θ φ) : Dj φ θ := ⟨fun c h1 h2 => h.b c h2 h1, fun c h1 h2 => h.a c h2 h1⟩
theorem Dj.step {θ θ' φ : TbG} {S S' : St} {w : List RH} (h : Dj θ φ) (hf : FrT S S' θ θ') (hφ : TI S φ w) : Dj θ' φ := ⟨fun c h1 h2 => (hf.nb c h1).elim (fun q => h.b c q h2) fun q => hφ.inb c h2 q, fun c h1 h2 => (hf.na c h1).elim (fun q => h.a c q h2) fun q => hφ.ina c h2 q⟩
theorem TI.other {θ θ' φ : TbG} {S S' : St} {w : List RH} (hφ : TI S φ w) (h : Dj θ φ) (hf : FrT S S' θ θ') : TI S' φ w := hφ.mono (fun c x hc => hf.box c x fun q => h.b c q hc) fun c x hc => hf.acc c x fun q => h.a c q hc
theorem kyH_inj {lv n lv' n' : Int} (h : kyH lv n = kyH lv' n') : lv = lv' ∧ n = n' := by
  unfold kyH at h
  simpa using h
theorem TI.get {S : St} {θ : TbG} {w : List RH} (h : TI S θ w) (lv n : Int) : (∃ s p, w[ixH w lv n]? = some s ∧ θ.ids[ixH w lv n]? = some p ∧ ixH w lv n < w.length) ∨ (w[ixH w lv n]? = none ∧ θ.ids[ixH w lv n]? = none ∧ ¬ ixH w lv n < w.length) := by
  have hl := h.len
  rcases Nat.lt_or_ge (ixH w lv n) w.length with q | q
  · exact .inl ⟨_, _, List.getElem?_eq_getElem q, List.getElem?_eq_getElem (by omega), q⟩
  · exact .inr ⟨List.getElem?_eq_none q, List.getElem?_eq_none (by omega), by omega⟩
set_option maxHeartbeats 1000000 in
theorem hasT (w0 : W0) {S : St} {θ : TbG} {w : List RH} (h : TI S θ w) (lv n : Int) : ACall Try.prog w0 19 [ptH θ.t, dHd lv n] S (fun d S' => d = dB (decide (ixH w lv n < w.length)) ∧ S' = S) := by
  obtain ⟨es1, c1, es2, c2, h1, h2, h3⟩ := h.tb
  rcases h.get lv n with ⟨s, p, q1, q2, q3⟩ | ⟨q1, q2, q3⟩
  · have := hasP w0 h1 lv n (some p.1) (by rw [h3, q2]; rfl)
    rw [decide_eq_true q3]; exact this
  · have := hasP w0 h1 lv n none (by rw [h3, q2]; rfl)
    rw [decide_eq_false q3]; exact this
theorem sn_len {S : St} {θ : TbG} {w : List RH} {k : Int} (h : TI S θ w) (hk : LaB w k) {s : RH} (hs : s ∈ w) : (s.sn.length : Int) ≤ k := by
  have h1 : ∀ (l : List Int) (a b : Int), l.Pairwise (· < ·) → a ≤ b + 1 → (∀ x, x ∈ l → a ≤ x ∧ x ≤ b) → (l.length : Int) ≤ b - a + 1 := fun l => by
    induction l with
    | nil => intro a b _ h1 _; simp only [List.length_nil]; omega
    | cons y l ih =>
      intro a b hp _ hx
      rw [List.pairwise_cons] at hp
      have hy := hx y (List.mem_cons_self ..)
      have := ih (y + 1) b hp.2 (by omega) fun x hx' => ⟨by have := hp.1 x hx'; omega, (hx x (List.mem_cons_of_mem _ hx')).2⟩
      simp only [List.length_cons]
      omega
  have := h1 s.sn 1 s.last (h.ok.up s hs) (by have := h.ok.la s hs; omega) (h.ok.inn s hs)
  have := hk s hs
  omega
set_option maxHeartbeats 1000000 in
theorem snapsT (w0 : W0) {S : St} {θ : TbG} {w : List RH} (h : TI S θ w) {k : Int} (hk : LaB w k) (hk2 : k ≤ 1000000) (lv n : Int) : ACall Try.prog w0 22 [ptH θ.t, dHd lv n] S (fun d S' => d = dL (ssH w lv n) ∧ S' = S) := by
  obtain ⟨es1, c1, es2, c2, h1, h2, h3⟩ := h.tb
  unfold ssH
  rcases h.get lv n with ⟨s, p, q1, q2, q3⟩ | ⟨q1, q2, q3⟩
  · obtain ⟨es, c, r1, r2, r3⟩ := h.ses _ s p q1 (ix_some q1).2.2 q2
    have hm := List.mem_of_getElem? q1
    rw [q1]
    refine acall_mapOk r2 fun hok => ?_
    have hle : es.length ≤ s.sn.length := by
      have : es.map (·.1) ⊆ s.sn.map kI := fun u hu => by
        obtain ⟨e, he, rfl⟩ := List.mem_map.1 hu
        obtain ⟨a, ha⟩ := isKey_uI (hok.key e he)
        have := r3 a
        by_cases q : a ∈ s.sn
        · rw [ha]; exact List.mem_map_of_mem q
        · rw [if_neg q] at this
          exact absurd ha (mGet_none.1 this e he)
      have := nodup_len hok.nd this
      simpa using this
    have := sn_len h hk hm
    exact snapsP w0 h1 lv n p.1 p.2 (by rw [h3, q2]; rfl) s.last es c r1 r2 s.sn r3 (h.ok.up s hm) (by omega)
  · rw [q1]
    exact snapsP0 w0 h1 lv n (by rw [h3, q2]; rfl)
theorem newT (w0 : W0) (S : St) : ACall Try.prog w0 7 [] S (fun d S' => ∃ θ, d = ptH θ.t ∧ TI S' θ [] ∧ (∀ c x, lk S.box c = some x → lk S'.box c = some x) ∧ (∀ c x, lk S.acc c = some x → lk S'.acc c = some x) ∧ (∀ c, c ∈ θ.bx → lk S.box c = none) ∧ ∀ c, c ∈ θ.ax → lk S.acc c = none) := by
  refine (newP w0 S).mono ?_
  rintro d S' ⟨l1, l2, t, rfl, rfl⟩
  have f1 := fn_lk l1
  have f2 := fn_lk l2
  have f3 := fn_lk t
  have hne : ¬ l1.n = l2.n := fun e => by rw [← e] at f2; simp [lk] at f2
  have hne' : ¬ l2.n = l1.n := fun e => hne e.symm
  have f4 : lk S.acc l2.n = none := by
    simp only [lk] at f2
    rw [if_neg hne] at f2; exact f2
  refine ⟨⟨t.n, l1.n, l2.n, []⟩, rfl, ⟨WOk.nil, rfl, ?_, ?_, ?_, ?_, ⟨[], 0, [], 0, ⟨?_, ?_, ?_⟩, fun lv => by simp [cnH, mGet], fun lv n => by simp [mGet]⟩, fun i s p hs => by simp at hs⟩, fun c x hc => lk_consH f3 hc, fun c x hc => lk_consH (lk_consN hne f4) (lk_consH f1 hc), ?_, ?_⟩
  · simp [TbG.bx]
  · simp [TbG.ax, hne]
  · intro c hc
    simp [TbG.bx] at hc
    subst hc; simp [lk]
  · intro c hc
    simp [TbG.ax] at hc
    rcases hc with rfl | rfl <;> simp [lk, hne']
  · simp [lk]
  · simp [lk, hne']
  · simp [lk]
  · intro c hc
    simp [TbG.bx] at hc
    subst hc; exact f3
  · intro c hc
    simp [TbG.ax] at hc
    rcases hc with rfl | rfl
    · exact f1
    · exact f4
end Go.Proofs.Ytodndiioekjjoaa

namespace Go.Proofs.Ytodndiioekjjoaa
open Aml Go
set_option linter.unusedVariables false
set_option linter.unusedSimpArgs false
set_option maxRecDepth 100000
theorem nd_tH {θ : TbG} (h : θ.bx.Nodup) {p : Nat × Nat} (hp : p ∈ θ.ids) : ¬ p.1 = θ.t := fun e => by
  unfold TbG.bx at h
  rw [List.nodup_cons] at h
  exact h.1 (e ▸ List.mem_map_of_mem hp)
theorem nd_l1H {θ : TbG} (h : θ.ax.Nodup) {p : Nat × Nat} (hp : p ∈ θ.ids) : ¬ p.2 = θ.l1 := fun e => by
  unfold TbG.ax at h
  rw [List.nodup_cons] at h
  exact h.1 (e ▸ List.mem_cons_of_mem _ (List.mem_map_of_mem hp))
theorem nd_l2H {θ : TbG} (h : θ.ax.Nodup) {p : Nat × Nat} (hp : p ∈ θ.ids) : ¬ p.2 = θ.l2 := fun e => by
  unfold TbG.ax at h
  rw [List.nodup_cons, List.nodup_cons] at h
  exact h.2.1 (e ▸ List.mem_map_of_mem hp)
theorem nd_l12H {θ : TbG} (h : θ.ax.Nodup) : ¬ θ.l1 = θ.l2 := fun e => by
  unfold TbG.ax at h
  rw [List.nodup_cons] at h
  exact h.1 (e ▸ List.mem_cons_self ..)
theorem nd_atH {α β : Type} {f : α → β} {l : List α} (h : (l.map f).Nodup) {i j : Nat} {p q : α} (hi : l[i]? = some p) (hj : l[j]? = some q) (e : f p = f q) : i = j := by
  have h1 : (l.map f)[i]? = some (f p) := by rw [List.getElem?_map, hi]; rfl
  have h2 : (l.map f)[j]? = some (f p) := by rw [List.getElem?_map, hj, e]; rfl
  obtain ⟨a1, b1⟩ := List.getElem?_eq_some_iff.1 h1
  obtain ⟨a2, b2⟩ := List.getElem?_eq_some_iff.1 h2
  exact (List.getElem_inj h).1 (b1.trans b2.symm)
theorem up_neH {α : Type} {L : List (Nat × α)} {b c : Nat} {v : α} (h : ¬ lk L c = none) : ¬ lk (up L b v) c = none := fun e => h (lk_of_up e)
theorem ct_mem (w : List RH) (lv n : Int) : 0 ≤ cnH w lv := Nat.zero_le _
set_option maxHeartbeats 1000000 in
theorem openT (w0 : W0) {S : St} {θ : TbG} {w : List RH} (h : TI S θ w) (hk : w.length ≤ 1000000) (lv : Int) : ACall Try.prog w0 9 [ptH θ.t, dI lv] S (fun d S' => d = dI (opH w lv).2 ∧ ∃ θ', TI S' θ' (opH w lv).1 ∧ FrT S S' θ θ') := by
  obtain ⟨es1, c1, es2, c2, h1, h2, h3⟩ := h.tb
  have hne := nd_l12H h.nda
  have hcl := cnH_le w lv
  refine (openP w0 h1 hne lv (cnH w lv) (by omega) (h2 lv)).mono ?_
  rintro d S' ⟨b, m, fb, fm, rfl, rfl⟩
  have bt : ¬ b = θ.t := fun e => h.inb _ (List.mem_cons_self ..) (e ▸ fb)
  have ml1 : ¬ m = θ.l1 := fun e => h.ina _ (List.mem_cons_self ..) (e ▸ fm)
  have ml2 : ¬ m = θ.l2 := fun e => h.ina _ (List.mem_cons_of_mem _ (List.mem_cons_self ..)) (e ▸ fm)
  have fr : FrT S ⟨(b, [dI 0, .mp m]) :: S.box, (m, .xo (.mp (.int .i64) [] 0)) :: up (up S.acc θ.l1 (.xo (.mp (.int .i64) (mSet es1 c1 (.int .i64 lv) (dI ((cnH w lv : Int) + 1))) (mClk es1 c1 (.int .i64 lv))))) θ.l2 (.xo (.mp (.st [.i64, .i64]) (mSet es2 c2 (kyH lv ((cnH w lv : Int) + 1)) (ptH b)) (mClk es2 c2 (kyH lv ((cnH w lv : Int) + 1)))))⟩ θ ⟨θ.t, θ.l1, θ.l2, θ.ids ++ [(b, m)]⟩ := by
    refine ⟨rfl, fun c x _ hc => lk_consH fb hc, fun c x hn hc => ?_, fun c hc => ?_, fun c hc => ?_⟩
    · unfold TbG.ax at hn
      rw [List.mem_cons, List.mem_cons, not_or, not_or] at hn
      refine lk_consH ?_ ?_
      · rw [lk_up_ne (fun e => ml2 e.symm), lk_up_ne (fun e => ml1 e.symm)]; exact fm
      · rw [lk_up_ne (fun e => hn.2.1 e.symm), lk_up_ne (fun e => hn.1 e.symm)]; exact hc
    · unfold TbG.bx at hc ⊢
      rw [List.mem_cons] at hc ⊢
      rcases hc with q | q
      · exact .inl (.inl q)
      · rw [List.map_append, List.mem_append] at q
        rcases q with q | q
        · exact .inl (.inr q)
        · rw [List.map_singleton, List.mem_singleton] at q
          exact .inr (q ▸ fb)
    · unfold TbG.ax at hc ⊢
      rw [List.mem_cons, List.mem_cons] at hc ⊢
      rcases hc with q | q | q
      · exact .inl (.inl q)
      · exact .inl (.inr (.inl q))
      · rw [List.map_append, List.mem_append] at q
        rcases q with q | q
        · exact .inl (.inr (.inr q))
        · rw [List.map_singleton, List.mem_singleton] at q
          exact .inr (q ▸ fm)
  refine ⟨rfl, ⟨θ.t, θ.l1, θ.l2, θ.ids ++ [(b, m)]⟩, ?_, fr⟩
  have fm' : ∀ v v', lk (up (up S.acc θ.l1 v) θ.l2 v') m = none := fun v v' => by
    rw [lk_up_ne (fun e => ml2 e.symm), lk_up_ne (fun e => ml1 e.symm)]; exact fm
  refine ⟨h.ok.op lv, by rw [opH_len, List.length_append, h.len]; rfl, ?_, ?_, ?_, ?_, ⟨mSet es1 c1 (.int .i64 lv) (dI ((cnH w lv : Int) + 1)), mClk es1 c1 (.int .i64 lv), mSet es2 c2 (kyH lv ((cnH w lv : Int) + 1)) (ptH b), mClk es2 c2 (kyH lv ((cnH w lv : Int) + 1)), ⟨lk_consH fb h1.tb, lk_consH (fm' _ _) ?_, lk_consH (fm' _ _) ?_⟩, fun lv' => ?_, fun lv' n' => ?_⟩, fun i s p hs hg hp => ?_⟩
  · have h4 := h.ndb
    unfold TbG.bx at h4 ⊢
    rw [List.map_append]
    rw [← List.cons_append, List.nodup_append]
    refine ⟨h4, by simp, fun a ha y hy => ?_⟩
    rw [List.map_singleton, List.mem_singleton] at hy
    rintro rfl
    exact h.inb a ha (hy ▸ fb)
  · have h4 := h.nda
    unfold TbG.ax at h4 ⊢
    rw [List.map_append]
    rw [← List.cons_append, ← List.cons_append, List.nodup_append]
    refine ⟨h4, by simp, fun a ha y hy => ?_⟩
    rw [List.map_singleton, List.mem_singleton] at hy
    rintro rfl
    exact h.ina a ha (hy ▸ fm)
  · intro c hc
    show lk ((b, _) :: S.box) c ≠ none
    simp only [lk]
    split
    · exact fun e => by cases e
    · rename_i q
      rcases fr.nb c hc with q2 | q2
      · exact h.inb c q2
      · exfalso
        unfold TbG.bx at hc
        rw [List.mem_cons, List.map_append, List.mem_append, List.map_singleton, List.mem_singleton] at hc
        rcases hc with q3 | q3 | q3
        · exact h.inb c (q3 ▸ List.mem_cons_self ..) q2
        · exact h.inb c (List.mem_cons_of_mem _ q3) q2
        · exact q q3.symm
  · intro c hc
    show lk ((m, _) :: up (up S.acc _ _) _ _) c ≠ none
    simp only [lk]
    split
    · exact fun e => by cases e
    · rename_i q
      refine up_neH (up_neH ?_)
      rcases fr.na c hc with q2 | q2
      · exact h.ina c q2
      · exfalso
        unfold TbG.ax at hc
        rw [List.mem_cons, List.mem_cons, List.map_append, List.mem_append, List.map_singleton, List.mem_singleton] at hc
        rcases hc with q3 | q3 | q3 | q3
        · exact h.ina c (q3 ▸ List.mem_cons_self ..) q2
        · exact h.ina c (q3 ▸ List.mem_cons_of_mem _ (List.mem_cons_self ..)) q2
        · exact h.ina c (List.mem_cons_of_mem _ (List.mem_cons_of_mem _ q3)) q2
        · exact q q3.symm
  · rw [lk_up_ne (fun e => hne e.symm), lk_up_same, h1.m1]; rfl
  · rw [lk_up_same, lk_up_ne hne, h1.m2]; rfl
  · rw [cn_op]
    by_cases q : lv = lv'
    · subst q
      rw [mGet_set_same, if_pos rfl, if_neg (by omega)]
      rfl
    · rw [mGet_set_ne _ _ (k := .int .i64 lv) (k' := .int .i64 lv') (fun e => q (by cases e; rfl)), if_neg q, h2]; rfl
  · show _ = ((θ.ids ++ [(b, m)])[ixH (opH w lv).1 lv' n']?).map fun p => ptH p.1
    rw [ix_op h.ok]
    by_cases q : lv' = lv ∧ n' = (cnH w lv : Int) + 1
    · obtain ⟨rfl, rfl⟩ := q
      rw [mGet_set_same, if_neg (by rw [ix_new h.ok]; omega), if_pos ⟨rfl, rfl⟩, ← h.len, List.getElem?_append_right (Nat.le_refl _), Nat.sub_self]
      rfl
    · rw [mGet_set_ne _ _ (fun e => q (kyH_inj e)), h3, if_neg q]
      have := h.len
      split
      · rw [List.getElem?_append_left (by omega)]
      · rw [List.getElem?_eq_none (by omega), List.getElem?_eq_none (by rw [List.length_append]; simp; omega)]
  · have hl := h.len
    unfold opH at hs
    rcases Nat.lt_or_ge i w.length with q | q
    · rw [List.getElem?_append_left q] at hs
      have hp' : θ.ids[i]? = some p := by
        have : (θ.ids ++ [(b, m)])[i]? = some p := hp
        rwa [List.getElem?_append_left (by omega)] at this
      obtain ⟨es, c, q1, q2, q3⟩ := h.ses i s p hs hg hp'
      have hm := List.mem_of_getElem? hp'
      exact ⟨es, c, lk_consH fb q1, lk_consH (fm' _ _) (by rw [lk_up_ne (fun e => nd_l2H h.nda hm e.symm), lk_up_ne (fun e => nd_l1H h.nda hm e.symm)]; exact q2), q3⟩
    · have hi : i = w.length := by
        have := (List.getElem?_eq_some_iff.1 hs).1
        simp at this; omega
      subst hi
      rw [List.getElem?_append_right (Nat.le_refl _), Nat.sub_self] at hs
      cases hs
      have hp' : (θ.ids ++ [(b, m)])[w.length]? = some p := hp
      rw [← hl, List.getElem?_append_right (Nat.le_refl _), Nat.sub_self] at hp'
      cases hp'
      exact ⟨[], 0, by simp [lk], by simp [lk], fun x => by simp [mGet]⟩
set_option maxHeartbeats 1000000 in
theorem closeT (w0 : W0) {S : St} {θ : TbG} {w : List RH} (h : TI S θ w) (lv n : Int) : ACall Try.prog w0 11 [ptH θ.t, dHd lv n] S (fun d S' => d = dB (clH w lv n).2 ∧ TI S' θ (clH w lv n).1 ∧ FrT S S' θ θ) := by
  obtain ⟨es1, c1, es2, c2, h1, h2, h3⟩ := h.tb
  have hne := nd_l12H h.nda
  have hcn := cn_cl w lv n
  have hok := h.ok.cl lv n
  have hle := clH_len w lv n
  rcases h.get lv n with ⟨s, p, q1, q2, q3⟩ | ⟨q1, q2, q3⟩
  · refine (closeP w0 h1 lv n (some p.1) (by rw [h3, q2]; rfl)).mono ?_
    rintro d S' ⟨rfl, rfl⟩
    have hix := ix_cl h.ok q3
    have e2 : (clH w lv n).2 = true := by unfold clH; rw [if_pos q3]
    have e1 : (clH w lv n).1 = w.set (ixH w lv n) ⟨lv, n, [], 0, true⟩ := by unfold clH; rw [if_pos q3]
    rw [e2]
    refine ⟨rfl, ?_, rfl, fun c x _ hc => hc, fun c x hn hc => ?_, fun _ hc => .inl hc, fun _ hc => .inl hc⟩
    · refine ⟨hok, by rw [hle]; exact h.len, h.ndb, h.nda, h.inb, fun c hc => up_neH (h.ina c hc), ⟨es1, c1, mDel es2 (kyH lv n), c2, ⟨h1.tb, ?_, ?_⟩, fun lv' => ?_, fun lv' n' => ?_⟩, fun i a b ha hg hb => ?_⟩
      · show lk (up S.acc _ _) θ.l1 = _
        rw [lk_up_ne (fun e => hne e.symm)]; exact h1.m1
      · show lk (up S.acc _ _) θ.l2 = _
        rw [lk_up_same, h1.m2]; rfl
      · rw [hcn]; exact h2 lv'
      · rw [hix]
        by_cases q : lv' = lv ∧ n' = n
        · rw [if_pos q, q.1, q.2, mGet_del_same, List.getElem?_eq_none (by have := h.len; omega)]; rfl
        · rw [if_neg q, mGet_del_ne _ (fun e => q (kyH_inj e))]; exact h3 lv' n'
      · rw [e1] at ha
        by_cases q : ixH w lv n = i
        · rw [← q, List.getElem?_set_self q3] at ha
          cases ha; cases hg
        · rw [List.getElem?_set_ne q] at ha
          obtain ⟨es, c, r1, r2, r3⟩ := h.ses i a b ha hg hb
          exact ⟨es, c, r1, by
            show lk (up S.acc _ _) b.2 = _
            rw [lk_up_ne (fun e => nd_l2H h.nda (List.mem_of_getElem? hb) e.symm)]; exact r2, r3⟩
    · unfold TbG.ax at hn
      rw [List.mem_cons, List.mem_cons, not_or, not_or] at hn
      show lk (up S.acc _ _) c = _
      rw [lk_up_ne (fun e => hn.2.1 e.symm)]; exact hc
  · refine (closeP w0 h1 lv n none (by rw [h3, q2]; rfl)).mono ?_
    rintro d S' ⟨rfl, rfl⟩
    have e : clH w lv n = (w, false) := by unfold clH; rw [if_neg q3]
    rw [e]
    exact ⟨rfl, h, FrT.refl _ _⟩
/-- A session put anew: its box and its map. -/
theorem TI.put {S S' : St} {θ : TbG} {w : List RH} (h : TI S θ w) {i : Nat} {s r : RH} {p : Nat × Nat} (hs : w[i]? = some s) (hp : θ.ids[i]? = some p) (hok : WOk (w.set i r)) (e1 : r.lv = s.lv) (e2 : r.n = s.n) (e3 : r.gone = s.gone)
    (hb : ∀ c, c ≠ p.1 → lk S'.box c = lk S.box c) (ha : ∀ c, c ≠ p.2 → lk S'.acc c = lk S.acc c) (hr : SesI S' p r) : TI S' θ (w.set i r) ∧ FrT S S' θ θ := by
  obtain ⟨es1, c1, es2, c2, h1, h2, h3⟩ := h.tb
  have hm := List.mem_of_getElem? hp
  have nt := nd_tH h.ndb hm
  have n1 := nd_l1H h.nda hm
  have n2 := nd_l2H h.nda hm
  obtain ⟨es, c, r1, r2, r3⟩ := hr
  refine ⟨⟨hok, by rw [List.length_set]; exact h.len, h.ndb, h.nda, fun c hc => ?_, fun c hc => ?_, ⟨es1, c1, es2, c2, ⟨?_, ?_, ?_⟩, fun lv' => ?_, fun lv' n' => ?_⟩, fun j a b hja hg hjb => ?_⟩, rfl, fun c x hn hc => ?_, fun c x hn hc => ?_, fun _ hc => .inl hc, fun _ hc => .inl hc⟩
  · by_cases q : c = p.1
    · rw [q, r1]; exact fun e => by cases e
    · rw [hb c q]; exact h.inb c hc
  · by_cases q : c = p.2
    · rw [q, r2]; exact fun e => by cases e
    · rw [ha c q]; exact h.ina c hc
  · rw [hb _ (fun e => nt e.symm)]; exact h1.tb
  · rw [ha _ (fun e => n1 e.symm)]; exact h1.m1
  · rw [ha _ (fun e => n2 e.symm)]; exact h1.m2
  · rw [cn_set hs e1]; exact h2 lv'
  · rw [ix_same hs e1 e2 e3]; exact h3 lv' n'
  · by_cases q : i = j
    · subst q
      rw [List.getElem?_set_self (List.getElem?_eq_some_iff.1 hs).1] at hja
      cases hja
      rw [hp] at hjb; cases hjb
      exact ⟨es, c, r1, r2, r3⟩
    · rw [List.getElem?_set_ne q] at hja
      obtain ⟨es', c', q1, q2, q3⟩ := h.ses j a b hja hg hjb
      have hndb : (θ.ids.map (·.1)).Nodup := (List.nodup_cons.1 h.ndb).2
      have hnda : (θ.ids.map (·.2)).Nodup := (List.nodup_cons.1 (List.nodup_cons.1 h.nda).2).2
      exact ⟨es', c', by rw [hb _ (fun e => q (nd_atH hndb hp hjb e.symm))]; exact q1, by rw [ha _ (fun e => q (nd_atH hnda hp hjb e.symm))]; exact q2, q3⟩
  · rw [hb c (fun e => hn (by rw [e]; exact List.mem_cons_of_mem _ (List.mem_map_of_mem hm)))]; exact hc
  · rw [ha c (fun e => hn (by rw [e]; exact List.mem_cons_of_mem _ (List.mem_cons_of_mem _ (List.mem_map_of_mem hm))))]; exact hc
set_option maxHeartbeats 1000000 in
theorem snapT (w0 : W0) {S : St} {θ : TbG} {w : List RH} (h : TI S θ w) {k : Int} (hk : LaB w k) (hk2 : k ≤ 1000000) (lv n : Int) : ACall Try.prog w0 13 [ptH θ.t, dHd lv n] S (fun d S' => d = dI (snH w lv n).2 ∧ TI S' θ (snH w lv n).1 ∧ FrT S S' θ θ) := by
  obtain ⟨es1, c1, es2, c2, h1, h2, h3⟩ := h.tb
  have hok := h.ok.sn lv n
  unfold snH at hok ⊢
  rcases h.get lv n with ⟨s, p, q1, q2, q3⟩ | ⟨q1, q2, q3⟩
  · obtain ⟨es, c, r1, r2, r3⟩ := h.ses _ s p q1 (ix_some q1).2.2 q2
    have hm := List.mem_of_getElem? q1
    have hla := h.ok.la s hm
    have hlk := hk s hm
    have hnn : mGet es (kI (s.last + 1)) = none := by
      rw [r3, if_neg fun q => by have := (h.ok.inn s hm _ q).2; omega]
    rw [q1] at hok ⊢
    simp only at hok ⊢
    refine (snapP w0 h1 lv n p.1 p.2 (by rw [h3, q2]; rfl) s.last es c r1 r2 hnn hla (by omega)).mono ?_
    rintro d S' ⟨rfl, rfl⟩
    refine ⟨rfl, h.put (r := snS s) q1 q2 hok rfl rfl rfl (fun c hc => lk_up_ne (fun e => hc e.symm) _ _) (fun c hc => lk_up_ne (fun e => hc e.symm) _ _) ⟨mSet es c (.int .i64 (s.last + 1)) (dI 1), mClk es c (.int .i64 (s.last + 1)), ?_, ?_, fun x => ?_⟩⟩
    · show lk (up S.box _ _) p.1 = _
      rw [lk_up_same, r1]; rfl
    · show lk (up S.acc _ _) p.2 = _
      rw [lk_up_same, r2]; rfl
    · unfold snS
      simp only [List.mem_append, List.mem_singleton]
      by_cases q : x = s.last + 1
      · subst q
        rw [show kI (s.last + 1) = Value.int .i64 (s.last + 1) from rfl, mGet_set_same, if_pos (.inr rfl)]
      · rw [mGet_set_ne _ _ (k := .int .i64 (s.last + 1)) (k' := kI x) (fun e => q (by unfold kI at e; cases e; rfl)), r3]
        simp [q]
  · rw [q1] at hok ⊢
    refine (snapP0 w0 h1 lv n (by rw [h3, q2]; rfl)).mono ?_
    rintro d S' ⟨rfl, rfl⟩
    exact ⟨rfl, h, FrT.refl _ _⟩
theorem lfL_same {x : Int} {l : List Int} : (lfL x l).length = l.length ↔ ¬ x ∈ l := by
  unfold lfL
  rw [List.length_filter_eq_length_iff]
  constructor
  · intro h hx
    have := h x hx
    simp at this
  · intro h a ha
    simp only [Bool.not_eq_true', decide_eq_false_iff_not]
    exact fun e => h (e ▸ ha)
set_option maxHeartbeats 1000000 in
theorem unsnapT (w0 : W0) {S : St} {θ : TbG} {w : List RH} (h : TI S θ w) (lv n x : Int) : ACall Try.prog w0 15 [ptH θ.t, dHd lv n, dI x] S (fun d S' => d = dB (unH w lv n x).2 ∧ TI S' θ (unH w lv n x).1 ∧ FrT S S' θ θ) := by
  obtain ⟨es1, c1, es2, c2, h1, h2, h3⟩ := h.tb
  have hok := h.ok.un lv n x
  unfold unH at hok ⊢
  rcases h.get lv n with ⟨s, p, q1, q2, q3⟩ | ⟨q1, q2, q3⟩
  · obtain ⟨es, c, r1, r2, r3⟩ := h.ses _ s p q1 (ix_some q1).2.2 q2
    have hm := List.mem_of_getElem? q1
    rw [q1] at hok ⊢
    simp only at hok ⊢
    have hx := r3 x
    by_cases q : x ∈ s.sn
    · rw [if_pos q] at hx
      rw [if_neg (fun e => lfL_same.1 e q)] at hok ⊢
      refine (unsnapP w0 h1 lv n x p.1 p.2 (by rw [h3, q2]; rfl) s.last es c r1 r2 true hx).mono ?_
      rintro d S' ⟨rfl, rfl⟩
      refine ⟨rfl, h.put (r := ⟨s.lv, s.n, lfL x s.sn, s.last, s.gone⟩) q1 q2 hok rfl rfl rfl (fun c hc => rfl) (fun c hc => lk_up_ne (fun e => hc e.symm) _ _) ⟨mDel es (.int .i64 x), c, ?_, ?_, fun y => ?_⟩⟩
      · exact r1
      · show lk (up S.acc _ _) p.2 = _
        rw [lk_up_same, r2]; rfl
      · unfold lfL
        simp only [List.mem_filter, Bool.not_eq_true', decide_eq_false_iff_not]
        by_cases q5 : y = x
        · subst q5
          rw [show kI y = Value.int .i64 y from rfl, mGet_del_same, if_neg fun e => e.2 rfl]
        · rw [mGet_del_ne _ (k := .int .i64 x) (k' := kI y) (fun e => q5 (by unfold kI at e; cases e; rfl)), r3]
          simp [q5]
    · rw [if_neg q] at hx
      rw [if_pos (lfL_same.2 q)] at hok ⊢
      refine (unsnapP w0 h1 lv n x p.1 p.2 (by rw [h3, q2]; rfl) s.last es c r1 r2 false hx).mono ?_
      rintro d S' ⟨rfl, rfl⟩
      exact ⟨rfl, h, FrT.refl _ _⟩
  · rw [q1] at hok ⊢
    refine (unsnapP0 w0 h1 lv n x (by rw [h3, q2]; rfl)).mono ?_
    rintro d S' ⟨rfl, rfl⟩
    exact ⟨rfl, h, FrT.refl _ _⟩
set_option maxHeartbeats 1000000 in
theorem resetT (w0 : W0) {S : St} {θ : TbG} {w : List RH} (h : TI S θ w) : ACall Try.prog w0 16 [ptH θ.t] S (fun d S' => ∃ θ', TI S' θ' [] ∧ FrT S S' θ θ') := by
  obtain ⟨es1, c1, es2, c2, h1, h2, h3⟩ := h.tb
  have hne := nd_l12H h.nda
  refine (resetP w0 h1 hne).mono ?_
  rintro d S' rfl
  refine ⟨⟨θ.t, θ.l1, θ.l2, []⟩, ⟨WOk.nil, rfl, by simp [TbG.bx], by simp [TbG.ax, hne], fun c hc => ?_, fun c hc => ?_, ⟨[], c1, [], c2, ⟨h1.tb, ?_, ?_⟩, fun lv => by simp [cnH, mGet], fun lv n => by simp [mGet]⟩, fun i s p hs => by simp at hs⟩, rfl, fun c x _ hc => hc, fun c x hn hc => ?_, fun c hc => .inl ?_, fun c hc => .inl ?_⟩
  · simp [TbG.bx] at hc
    subst hc
    exact h.inb _ (List.mem_cons_self ..)
  · simp [TbG.ax] at hc
    refine up_neH (up_neH ?_)
    rcases hc with rfl | rfl
    · exact h.ina _ (List.mem_cons_self ..)
    · exact h.ina _ (List.mem_cons_of_mem _ (List.mem_cons_self ..))
  · show lk (up (up S.acc _ _) _ _) θ.l1 = _
    rw [lk_up_ne (fun e => hne e.symm), lk_up_same, h1.m1]; rfl
  · show lk (up (up S.acc _ _) _ _) θ.l2 = _
    rw [lk_up_same, lk_up_ne hne, h1.m2]; rfl
  · unfold TbG.ax at hn
    rw [List.mem_cons, List.mem_cons, not_or, not_or] at hn
    show lk (up (up S.acc _ _) _ _) c = _
    rw [lk_up_ne (fun e => hn.2.1 e.symm), lk_up_ne (fun e => hn.1 e.symm)]; exact hc
  · simp [TbG.bx] at hc
    subst hc
    exact List.mem_cons_self ..
  · simp [TbG.ax] at hc
    rcases hc with rfl | rfl
    · exact List.mem_cons_self ..
    · exact List.mem_cons_of_mem _ (List.mem_cons_self ..)
end Go.Proofs.Ytodndiioekjjoaa
