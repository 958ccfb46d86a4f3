/-
  All sessions that are open, rising: the table's and the list's are the same; What the functions of pools compute; Rows of pages; rooms; what is the same; Sessions: the example holds; what the statements share. By an AI agent.
-/
import Derived.Test.YtodndiioekjjoaaMH5
namespace Go.Proofs.Ytodndiioekjjoaa
open Aml Go
set_option linter.unusedVariables false
set_option linter.unusedSimpArgs false
set_option maxRecDepth 100000
def hdR (s : RH) : Int × Int := (s.lv, s.n)
def hdA (w : List RH) : List (Int × Int) := (allH w).map hdR
theorem ltH_iff {a b : RH} : ltH a b = true ↔ ltP (hdR a) (hdR b) := by
  unfold ltH ltP hdR
  simp
theorem ltP_trans {a b c : Int × Int} (h : ltP a b) (k : ltP b c) : ltP a c := by
  unfold ltP at *; omega
theorem ltP_tot {a b : Int × Int} (h : ¬ ltP a b) (hn : a ≠ b) : ltP b a := by
  unfold ltP at *
  have : ¬ (a.1 = b.1 ∧ a.2 = b.2) := fun e => hn (Prod.ext e.1 e.2)
  omega
theorem mem_insH {l : List RH} {c s : RH} : s ∈ insH l c ↔ s ∈ l ∨ s = c := by
  unfold insH
  rw [List.mem_append, List.mem_cons]
  have h : s ∈ l ↔ s ∈ l.take (atH l c) ∨ s ∈ l.drop (atH l c) := by
    rw [← List.mem_append, List.take_append_drop]
  rw [h]
  constructor
  · rintro (q | q | q)
    · exact .inl (.inl q)
    · exact .inr q
    · exact .inl (.inr q)
  · rintro ((q | q) | q)
    · exact .inl q
    · exact .inr (.inr q)
    · exact .inr (.inl q)
theorem insH_rise {l : List RH} {c : RH} (h : (l.map hdR).Pairwise ltP) (hn : ∀ s, s ∈ l → hdR s ≠ hdR c) : ((insH l c).map hdR).Pairwise ltP := by
  rw [List.pairwise_map] at h ⊢
  unfold insH
  have hd : l.take (atH l c) ++ l.drop (atH l c) = l := List.take_append_drop _ _
  have ht : ∀ s, s ∈ l.take (atH l c) → ltP (hdR s) (hdR c) := fun s hs => by
    obtain ⟨j, hj⟩ := List.mem_iff_getElem?.1 hs
    have hlt : j < atH l c := by
      have := (List.getElem?_eq_some_iff.1 hj).1
      rw [List.length_take] at this; omega
    rw [List.getElem?_take_of_lt hlt] at hj
    have := List.not_of_lt_findIdx (xs := l) (p := fun a => !ltH a c) hlt
    obtain ⟨hl, e⟩ := List.getElem?_eq_some_iff.1 hj
    rw [e] at this
    exact ltH_iff.1 (by simpa using this)
  have hge : ∀ s, s ∈ l.drop (atH l c) → ltP (hdR c) (hdR s) := fun s hs => by
    have hlt : atH l c < l.length := by
      rcases Nat.lt_or_ge (atH l c) l.length with q | q
      · exact q
      · rw [List.drop_eq_nil_of_le q] at hs; cases hs
    have h1 : l.drop (atH l c) = l[atH l c] :: l.drop (atH l c + 1) := List.drop_eq_getElem_cons hlt
    have h2 : (!ltH l[atH l c] c) = true := List.findIdx_getElem (w := hlt)
    have h3 : ltP (hdR c) (hdR l[atH l c]) := by
      refine ltP_tot (fun q => ?_) (hn _ (List.getElem_mem hlt))
      rw [← ltH_iff] at q
      rw [q] at h2; cases h2
    rw [h1] at hs
    rcases List.mem_cons.1 hs with q | q
    · rw [q]; exact h3
    · have hp : (l.drop (atH l c)).Pairwise fun a b => ltP (hdR a) (hdR b) := h.sublist (List.drop_sublist _ _)
      rw [h1, List.pairwise_cons] at hp
      exact ltP_trans h3 (hp.1 s q)
  rw [List.pairwise_append]
  refine ⟨h.sublist (List.take_sublist _ _), List.pairwise_cons.2 ⟨hge, h.sublist (List.drop_sublist _ _)⟩, fun a ha b hb => ?_⟩
  rcases List.mem_cons.1 hb with q | q
  · rw [q]; exact ht a ha
  · exact ltP_trans (ht a ha) (hge b q)
theorem mem_allH {w : List RH} {s : RH} : ∀ k, s ∈ allH (w.take k) ↔ s ∈ w.take k ∧ s.gone = false
  | 0 => by simp [allH]
  | k + 1 => by
    have ih := mem_allH (w := w) (s := s) k
    cases h : w[k]? with
    | none =>
      have := List.getElem?_eq_none_iff.1 h
      rw [List.take_of_length_le (by omega)] at ih ⊢
      exact ih
    | some c =>
      rw [allH_succ h, List.take_add_one, h, Option.toList_some, List.mem_append, List.mem_singleton]
      unfold stepA
      by_cases q : c.gone = true
      · rw [if_pos q, ih]
        constructor
        · exact fun ⟨a, b⟩ => ⟨.inl a, b⟩
        · rintro ⟨a | a, b⟩
          · exact ⟨a, b⟩
          · rw [a, q] at b; cases b
      · rw [if_neg q, mem_insH, ih]
        constructor
        · rintro (⟨a, b⟩ | a)
          · exact ⟨.inl a, b⟩
          · exact ⟨.inr a, by rw [a]; simpa using q⟩
        · rintro ⟨a | a, b⟩
          · exact .inl ⟨a, b⟩
          · exact .inr a
theorem allH_rise {w : List RH} (hw : WOk w) : ∀ k, ((allH (w.take k)).map hdR).Pairwise ltP
  | 0 => by simp [allH]
  | k + 1 => by
    have ih := allH_rise hw k
    cases h : w[k]? with
    | none =>
      have := List.getElem?_eq_none_iff.1 h
      rw [List.take_of_length_le (by omega)] at ih ⊢
      exact ih
    | some c =>
      rw [allH_succ h]
      unfold stepA
      split
      · exact ih
      · refine insH_rise ih fun s hs e => ?_
        have hm := ((mem_allH (s := s) k).1 hs).1
        obtain ⟨j, hj⟩ := List.mem_iff_getElem?.1 hm
        have hlt : j < k := by
          have := (List.getElem?_eq_some_iff.1 hj).1
          rw [List.length_take] at this; omega
        rw [List.getElem?_take_of_lt hlt] at hj
        unfold hdR at e
        simp only [Prod.mk.injEq] at e
        have := hw.uq hj h e.1 e.2
        omega
theorem hdA_rise {w : List RH} (hw : WOk w) : (hdA w).Pairwise ltP := by
  have := allH_rise hw w.length
  rw [List.take_length] at this
  exact this
theorem mem_hdA {w : List RH} (hw : WOk w) (lv n : Int) : (lv, n) ∈ hdA w ↔ ixH w lv n < w.length := by
  unfold hdA
  rw [List.mem_map]
  have h1 : ∀ s, s ∈ allH w ↔ s ∈ w ∧ s.gone = false := fun s => by
    have := mem_allH (w := w) (s := s) w.length
    rwa [List.take_length] at this
  constructor
  · rintro ⟨s, hs, e⟩
    obtain ⟨a, b⟩ := (h1 s).1 hs
    obtain ⟨i, hi⟩ := List.mem_iff_getElem?.1 a
    have := ix_of hw hi b
    unfold hdR at e
    simp only [Prod.mk.injEq] at e
    rw [e.1, e.2] at this
    rw [this]; exact (List.getElem?_eq_some_iff.1 hi).1
  · intro h
    obtain ⟨s, hs, _⟩ := ix_get h
    obtain ⟨e1, e2, e3⟩ := ix_some hs
    exact ⟨s, (h1 s).2 ⟨List.mem_of_getElem? hs, e3⟩, by unfold hdR; rw [e1, e2]⟩
theorem allH_length (w : List RH) : ∀ k, (allH (w.take k)).length = (w.take k).countP fun s => !s.gone
  | 0 => by simp [allH]
  | k + 1 => by
    have ih := allH_length w k
    cases h : w[k]? with
    | none =>
      have := List.getElem?_eq_none_iff.1 h
      rw [List.take_of_length_le (by omega)] at ih ⊢
      exact ih
    | some c =>
      rw [allH_succ h, List.take_add_one, h, Option.toList_some, List.countP_append, ← ih]
      unfold stepA
      cases q : c.gone with
      | true => simp [q]
      | false =>
        have : atH (allH (w.take k)) c ≤ (allH (w.take k)).length := List.findIdx_le_length
        simp only [insH, List.length_append, List.length_cons, List.length_take, List.length_drop, List.countP_singleton, q, Bool.not_false, if_true, Bool.false_eq_true, if_false]
        omega
theorem hdA_length (w : List RH) : (hdA w).length = w.countP fun s => !s.gone := by
  have := allH_length w w.length
  rw [List.take_length] at this
  unfold hdA
  rw [List.length_map]; exact this
theorem hdA_le (w : List RH) : (hdA w).length ≤ w.length := by
  rw [hdA_length]; exact List.countP_le_length
set_option maxHeartbeats 1000000 in
theorem allT (w0 : W0) {S : St} {θ : TbG} {w : List RH} (h : TI S θ w) (hk : w.length ≤ 1000000) : ACall Try.prog w0 17 [ptH θ.t] S (fun d S' => d = .sl 2 false ((hdA w).map dHp) ∧ S' = S) := by
  obtain ⟨es1, c1, es2, c2, h1, h2, h3⟩ := h.tb
  refine acall_mapOk h1.m2 fun hok => ?_
  have hin : ∀ a, (∃ e, e ∈ es2 ∧ e.1 = kH a) ↔ a ∈ hdA w := fun a => by
    rw [show a ∈ hdA w ↔ (a.1, a.2) ∈ hdA w from Iff.rfl, mem_hdA h.ok]
    have h4 := h3 a.1 a.2
    have hl := h.len
    constructor
    · rintro ⟨e, he, hk⟩
      refine Classical.byContradiction fun q => ?_
      rw [List.getElem?_eq_none (by omega)] at h4
      exact mGet_none.1 h4 e he hk
    · intro q
      rw [List.getElem?_eq_getElem (by omega)] at h4
      obtain ⟨b, hb⟩ := mGet_mem h4
      exact ⟨_, hb, rfl⟩
  have hle : es2.length ≤ (hdA w).length := by
    have : es2.map (·.1) ⊆ (hdA w).map kH := fun u hu => by
      obtain ⟨e, he, rfl⟩ := List.mem_map.1 hu
      obtain ⟨a, ha⟩ := isKey_uH (hok.key e he)
      rw [ha]
      exact List.mem_map_of_mem ((hin a).1 ⟨e, he, ha⟩)
    have := nodup_len hok.nd this
    simpa using this
  have := hdA_le w
  exact allP w0 h1 (by omega) (hdA w) (hdA_rise h.ok) hin
end Go.Proofs.Ytodndiioekjjoaa

namespace Go.Proofs.Ytodndiioekjjoaa
open Aml Go
set_option linter.unusedVariables false
set_option linter.unusedSimpArgs false
set_option maxRecDepth 100000

/-- Pages that wait; a pool. -/
structure Wt where
  txn : Int
  pages : List Int
  deriving DecidableEq
structure Pl where
  high : Int
  free : List Int
  wait : List Wt
  deriving DecidableEq
@[go_sem] def dW (w : Wt) : DV := .agg [dU w.txn, .sl 1 false (w.pages.map dI)]
@[go_sem] def dP (p : Pl) : DV := .agg [dI p.high, .sl 1 false (p.free.map dI), .sl 2 false (p.wait.map dW)]
def nW (l : List Wt) : Nat := (l.map fun w => w.pages.length).sum

theorem nW_succ {l : List Wt} {k : Nat} {a : Wt} (h : l[k]? = some a) : nW (l.take (k + 1)) = nW (l.take k) + a.pages.length := by
  unfold nW
  rw [List.take_add_one, h]
  simp
theorem nW_le (l : List Wt) (k : Nat) : nW (l.take k) ≤ nW l := by
  have : nW l = nW (l.take k) + nW (l.drop k) := by
    unfold nW
    rw [← List.sum_append, ← List.map_append, List.take_append_drop]
  omega

end Go.Proofs.Ytodndiioekjjoaa

namespace Go.Proofs.Ytodndiioekjjoaa
open Aml Go
set_option linter.unusedVariables false
set_option linter.unusedSimpArgs false
set_option maxRecDepth 100000


/-- The first k of a row are pages below a bound, rising. -/
def RowUp (l : List Int) (high : Int) (k : Nat) : Prop := ∀ (i : Nat) (a : Int), i < k → l[i]? = some a → 2 ≤ a ∧ a < high ∧ ∀ b, 0 < i → l[i - 1]? = some b → b < a
def Row (l : List Int) (high : Int) : Prop := RowUp l high l.length
theorem rowUp_succ {l : List Int} {high : Int} {k : Nat} {a : Int} (h : RowUp l high k) (ha : l[k]? = some a) (h1 : 2 ≤ a) (h2 : a < high) (h3 : ∀ b, 0 < k → l[k - 1]? = some b → b < a) : RowUp l high (k + 1) := by
  intro i c hi hc
  by_cases e : i = k
  · subst e; cases getE ha hc; exact ⟨h1, h2, h3⟩
  · exact h i c (by omega) hc
theorem row_at {l : List Int} {high : Int} {k : Nat} {a : Int} (h : Row l high) (ha : l[k]? = some a) : 2 ≤ a ∧ a < high ∧ ∀ b, 0 < k → l[k - 1]? = some b → b < a :=
  h k a (List.getElem?_eq_some_iff.1 ha).1 ha

theorem eq_of_take {α : Type} {a b : List α} {k : Nat} (h : a.take k = b.take k) (hl : ¬ ¬ a.length = b.length) (hk : ¬ k < a.length) : a = b := by
  rw [List.take_of_length_le (by omega), List.take_of_length_le (by omega)] at h; exact h
theorem take_eq_succ {α : Type} {a b : List α} {k : Nat} {x y : α} (h : a.take k = b.take k) (hx : a[k]? = some x) (hy : b[k]? = some y) (e : x = y) : a.take (k + 1) = b.take (k + 1) := by
  rw [List.take_add_one, List.take_add_one, h, hx, hy, e]
set_option maxHeartbeats 1000000 in
theorem ints3 (w0 : W0) (a b : List Int) (S : St) (h0 : a.length ≤ 4611686018427387904) : ACall Try.prog w0 21 [dL a, dL b] S (fun d S' => d = dB (decide (a = b)) ∧ S' = S) := by
  refine fnS [] mx Try.func21 rfl rfl (by kernel_rfl) ?_; simp (maxDischargeDepth := 12) (maxSteps := 1000000) -implicitDefEqProofs only [Try.ntmps21, go_sem, Nat.reduceAdd, Nat.reduceSub, Nat.reduceMul, Nat.reduceLeDiff, Nat.reduceEqDiff, Nat.reduceGT, Nat.reduceBEq, reduceCtorEq, ↓reduceIte, Int.reduceToNat, Int.reduceLE, Int.reduceLT, Int.reduceNe, Int.reduceEq]
  refine ⟨fun hne e => hne (by rw [e]), fun he => ?_⟩
  refine loopN [] a.length [0, 1, 5] (fun k => [(5, dI k)]) (fun _ => S) (fun k => a.take k = b.take k) mx (by kernel_rfl) ?_ ?_
  · simp (maxDischargeDepth := 12) (maxSteps := 1000000) -implicitDefEqProofs only [go_sem, Nat.reduceAdd, Nat.reduceSub, Nat.reduceMul, Nat.reduceLeDiff, Nat.reduceEqDiff, Nat.reduceGT, Nat.reduceBEq, reduceCtorEq, ↓reduceIte, Int.reduceToNat, Int.reduceLE, Int.reduceLT, Int.reduceNe, Int.reduceEq]
  · intro k hk hup
    simp (maxDischargeDepth := 12) (maxSteps := 1000000) -implicitDefEqProofs only [go_sem, Nat.reduceAdd, Nat.reduceSub, Nat.reduceMul, Nat.reduceLeDiff, Nat.reduceEqDiff, Nat.reduceGT, Nat.reduceBEq, reduceCtorEq, ↓reduceIte, Int.reduceToNat, Int.reduceLE, Int.reduceLT, Int.reduceNe, Int.reduceEq]
    simp +contextual (disch := first | omega | assumption) only [w64, wu64, wu8, Option.some.injEq, forall_eq, forall_eq', forall_eq_apply_imp_iff, true_and, and_true, forall_const, true_implies, implies_true, not_true_eq_false, not_false_eq_true, false_implies, and_self, Int.toNat_natCast]
    exact ⟨fun hlt x hx => ⟨by omega, fun y hy => ⟨fun hxy e => hxy (getE (e ▸ hx) hy), fun hxy => ⟨take_eq_succ hup hx hy (by omega), by omega⟩⟩⟩, fun hge => eq_of_take hup he hge⟩

/-- How many pages can be taken. -/
def roomZ (p : Pl) (q : Int) : Int := p.free.length + if p.high < q then q - p.high else 0
end Go.Proofs.Ytodndiioekjjoaa

namespace Go.Proofs.Ytodndiioekjjoaa
open Aml Go Go.RowKit Go.ChangeShapes Go.WideShapes Go.ChangeAt
set_option linter.unusedVariables false
set_option linter.unusedSimpArgs false
set_option maxRecDepth 100000
section
variable (w0 : W0) {S : St} {θ : TbG} {w : List RH} {t : Nat} (h : TI S θ w) (e : θ.t = t)
include h e
theorem hasU (lv n : Int) : ACall Try.prog w0 19 [ptH t, dHd lv n] S (fun d S' => d = dB (decide (ixH w lv n < w.length)) ∧ S' = S) := e ▸ hasT w0 h lv n
theorem snapsU {k : Int} (hk : LaB w k) (hk2 : k ≤ 1000000) (lv n : Int) : ACall Try.prog w0 22 [ptH t, dHd lv n] S (fun d S' => d = dL (ssH w lv n) ∧ S' = S) := e ▸ snapsT w0 h hk hk2 lv n
theorem allU (hk : w.length ≤ 1000000) : ACall Try.prog w0 17 [ptH t] S (fun d S' => d = .sl 2 false ((hdA w).map dHp) ∧ S' = S) := e ▸ allT w0 h hk
theorem openU (hk : w.length ≤ 1000000) (lv : Int) : ACall Try.prog w0 9 [ptH t, dI lv] S (fun d S' => d = dI (opH w lv).2 ∧ ∃ θ', TI S' θ' (opH w lv).1 ∧ FrT S S' θ θ' ∧ θ'.t = t) := e ▸ (openT w0 h hk lv).mono fun d S' ⟨a, θ', b, c⟩ => ⟨a, θ', b, c, c.t⟩
theorem closeU (lv n : Int) : ACall Try.prog w0 11 [ptH t, dHd lv n] S (fun d S' => d = dB (clH w lv n).2 ∧ TI S' θ (clH w lv n).1 ∧ FrT S S' θ θ) := e ▸ closeT w0 h lv n
theorem snapU {k : Int} (hk : LaB w k) (hk2 : k ≤ 1000000) (lv n : Int) : ACall Try.prog w0 13 [ptH t, dHd lv n] S (fun d S' => d = dI (snH w lv n).2 ∧ TI S' θ (snH w lv n).1 ∧ FrT S S' θ θ) := e ▸ snapT w0 h hk hk2 lv n
theorem unsnapU (lv n x : Int) : ACall Try.prog w0 15 [ptH t, dHd lv n, dI x] S (fun d S' => d = dB (unH w lv n x).2 ∧ TI S' θ (unH w lv n x).1 ∧ FrT S S' θ θ) := e ▸ unsnapT w0 h lv n x
theorem resetU : ACall Try.prog w0 16 [ptH t] S (fun d S' => ∃ θ', TI S' θ' [] ∧ FrT S S' θ θ' ∧ θ'.t = t) := e ▸ (resetT w0 h).mono fun d S' ⟨θ', b, c⟩ => ⟨θ', b, c, c.t⟩
end
theorem loc_nin {S : St} {θ : TbG} {w : List RH} (h : TI S θ w) {c : Nat} (hc : lk S.box c = none) : c ∉ θ.bx := fun q => h.inb c q hc
theorem sub0 (S : St) : Aml.Sub ⟨[], []⟩ S := ⟨List.nil_sublist _, List.nil_sublist _⟩
theorem n1H (k : Nat) : LaB [] k := fun s hs => by cases hs
set_option maxHeartbeats 4000000 in
theorem awakeH (w0 : W0) : ACall Try.prog w0 6 [] ⟨[], []⟩ (fun d S' => d = dB true ∧ S' = ⟨[], []⟩) := by
  refine fnS [] mx Try.func6 rfl rfl (by kernel_rfl) ?_; simp (maxDischargeDepth := 12) (maxSteps := 1000000) -implicitDefEqProofs only [Try.ntmps6, go_sem, Nat.reduceAdd, Nat.reduceSub, Nat.reduceMul, Nat.reduceLeDiff, Nat.reduceEqDiff, Nat.reduceGT, Nat.reduceBEq, reduceCtorEq, ↓reduceIte, Int.reduceToNat, Int.reduceLE, Int.reduceLT, Int.reduceNe, Int.reduceEq]
  refine useK (newT w0 _) ?_
  rintro _ T0 ⟨θ0, rfl, h0, -⟩
  simp (maxDischargeDepth := 12) (maxSteps := 1000000) -implicitDefEqProofs only [go_sem, Nat.reduceAdd, Nat.reduceSub, Nat.reduceMul, Nat.reduceLeDiff, Nat.reduceEqDiff, Nat.reduceGT, Nat.reduceBEq, reduceCtorEq, ↓reduceIte, Int.reduceToNat, Int.reduceLE, Int.reduceLT, Int.reduceNe, Int.reduceEq]
  refine useK (openU w0 h0 rfl (by decide) 2) ?_
  rintro _ T1 ⟨rfl, θ1, h1, -, e1⟩
  simp (maxDischargeDepth := 12) (maxSteps := 1000000) -implicitDefEqProofs only [go_sem, Nat.reduceAdd, Nat.reduceSub, Nat.reduceMul, Nat.reduceLeDiff, Nat.reduceEqDiff, Nat.reduceGT, Nat.reduceBEq, reduceCtorEq, ↓reduceIte, Int.reduceToNat, Int.reduceLE, Int.reduceLT, Int.reduceNe, Int.reduceEq]
  refine useK (openU w0 h1 e1 (by decide) 2) ?_
  rintro _ T2 ⟨rfl, θ2, h2, -, e2⟩
  simp (maxDischargeDepth := 12) (maxSteps := 1000000) -implicitDefEqProofs only [go_sem, Nat.reduceAdd, Nat.reduceSub, Nat.reduceMul, Nat.reduceLeDiff, Nat.reduceEqDiff, Nat.reduceGT, Nat.reduceBEq, reduceCtorEq, ↓reduceIte, Int.reduceToNat, Int.reduceLE, Int.reduceLT, Int.reduceNe, Int.reduceEq]
  refine useK (openU w0 h2 e2 (by decide) 1) ?_
  rintro _ T3 ⟨rfl, θ3, h3, -, e3⟩
  simp (maxDischargeDepth := 12) (maxSteps := 1000000) -implicitDefEqProofs only [go_sem, Nat.reduceAdd, Nat.reduceSub, Nat.reduceMul, Nat.reduceLeDiff, Nat.reduceEqDiff, Nat.reduceGT, Nat.reduceBEq, reduceCtorEq, ↓reduceIte, Int.reduceToNat, Int.reduceLE, Int.reduceLT, Int.reduceNe, Int.reduceEq]
  have l3 : LaB (opH (opH (opH [] 2).1 2).1 1).1 3 := fun s hs => by
    have : s.last = 0 := by
      simp [opH] at hs
      rcases hs with rfl | rfl | rfl <;> rfl
    omega
  refine useK (snapU w0 h3 e3 l3 (by decide) 1 1) ?_
  rintro _ T4 ⟨rfl, h4, -⟩
  simp (maxDischargeDepth := 12) (maxSteps := 1000000) -implicitDefEqProofs only [go_sem, Nat.reduceAdd, Nat.reduceSub, Nat.reduceMul, Nat.reduceLeDiff, Nat.reduceEqDiff, Nat.reduceGT, Nat.reduceBEq, reduceCtorEq, ↓reduceIte, Int.reduceToNat, Int.reduceLE, Int.reduceLT, Int.reduceNe, Int.reduceEq]
  refine useK (closeU w0 h4 e3 2 1) ?_
  rintro _ T5 ⟨rfl, h5, -⟩
  have l5 : LaB (clH (snH (opH (opH (opH [] 2).1 2).1 1).1 1 1).1 2 1).1 5 := (l3.sn 1 1).cl (by decide) 2 1
  have v1 : (opH [] 2).2 = 1 := by decide
  have v2 : (opH (opH [] 2).1 2).2 = 2 := by decide
  have v3 : (opH (opH (opH [] 2).1 2).1 1).2 = 1 := by decide
  have v4 : (snH (opH (opH (opH [] 2).1 2).1 1).1 1 1).2 = 1 := by decide
  have v5 : (clH (snH (opH (opH (opH [] 2).1 2).1 1).1 1 1).1 2 1).2 = true := by decide
  have v6 := hasU w0 h5 e3 2 1
  have v7 := hasU w0 h5 e3 2 2
  have v8 := allU w0 h5 e3 (by decide)
  have v9 := snapsU w0 h5 e3 l5 (by decide) 1 1
  generalize hW : (clH (snH (opH (opH (opH [] 2).1 2).1 1).1 1 1).1 2 1).1 = W at *
  have u6 : decide (ixH W 2 1 < W.length) = false := by subst hW; decide
  have u7 : decide (ixH W 2 2 < W.length) = true := by subst hW; decide
  have u8 : (hdA W).length = 2 := by subst hW; decide
  have u9 : (ssH W 1 1).length = 1 := by subst hW; decide
  rw [v1, v2, v3, v4, v5]
  rw [u6] at v6
  rw [u7] at v7
  simp (maxDischargeDepth := 12) (maxSteps := 1000000) -implicitDefEqProofs only [go_sem, Nat.reduceAdd, Nat.reduceSub, Nat.reduceMul, Nat.reduceLeDiff, Nat.reduceEqDiff, Nat.reduceGT, Nat.reduceBEq, reduceCtorEq, ↓reduceIte, Int.reduceToNat, Int.reduceLE, Int.reduceLT, Int.reduceNe, Int.reduceEq]
  refine use1 v6 ?_
  simp (maxDischargeDepth := 12) (maxSteps := 1000000) -implicitDefEqProofs only [go_sem, Nat.reduceAdd, Nat.reduceSub, Nat.reduceMul, Nat.reduceLeDiff, Nat.reduceEqDiff, Nat.reduceGT, Nat.reduceBEq, reduceCtorEq, ↓reduceIte, Int.reduceToNat, Int.reduceLE, Int.reduceLT, Int.reduceNe, Int.reduceEq]
  refine use1 v7 ?_
  simp (maxDischargeDepth := 12) (maxSteps := 1000000) -implicitDefEqProofs only [go_sem, Nat.reduceAdd, Nat.reduceSub, Nat.reduceMul, Nat.reduceLeDiff, Nat.reduceEqDiff, Nat.reduceGT, Nat.reduceBEq, reduceCtorEq, ↓reduceIte, Int.reduceToNat, Int.reduceLE, Int.reduceLT, Int.reduceNe, Int.reduceEq]
  refine use1 v8 ?_
  simp (maxDischargeDepth := 12) (maxSteps := 1000000) -implicitDefEqProofs only [go_sem, Nat.reduceAdd, Nat.reduceSub, Nat.reduceMul, Nat.reduceLeDiff, Nat.reduceEqDiff, Nat.reduceGT, Nat.reduceBEq, reduceCtorEq, ↓reduceIte, Int.reduceToNat, Int.reduceLE, Int.reduceLT, Int.reduceNe, Int.reduceEq, u8]
  refine use1 v9 ?_
  simp (maxDischargeDepth := 12) (maxSteps := 1000000) -implicitDefEqProofs only [go_sem, Nat.reduceAdd, Nat.reduceSub, Nat.reduceMul, Nat.reduceLeDiff, Nat.reduceEqDiff, Nat.reduceGT, Nat.reduceBEq, reduceCtorEq, ↓reduceIte, Int.reduceToNat, Int.reduceLE, Int.reduceLT, Int.reduceNe, Int.reduceEq, u9]
  exact sub0 _
/-- A step, as the statements have it. -/
structure StH where
  kind : Int
  lv : Int
  n : Int
  sn : Int
@[go_sem] def dStH (s : StH) : DV := .agg [dI s.kind, dI s.lv, dI s.n, dI s.sn]
theorem sum_oneH {α : Type} (l : List α) : (l.map fun _ => 1).sum = l.length := by
  induction l with
  | nil => rfl
  | cons a l ih => simp only [List.map_cons, List.sum_cons, List.length_cons, ih]; omega
theorem rdStH {W : World} : Rd Try.prog W 28 (fun s : StH => [dI s.kind, dI s.lv, dI s.n, dI s.sn]) (fun _ => 1) (fun _ => True) := by
  have h := rd_struct (W := W) Try.underlying28 (total := 4) (by kernel_rfl) rfl (rdF_cons (k := 1) (rd_i64 Try.underlying3) rfl (by kernel_rfl) (rdF_cons (k := 1) (rd_i64 Try.underlying3) rfl (by kernel_rfl) (rdF_cons (k := 1) (rd_i64 Try.underlying3) rfl (by kernel_rfl) (rdF_cons (k := 1) (rd_i64 Try.underlying3) rfl (by kernel_rfl) rdF_nil))))
  exact h.conv (fun x => ⟨x.1, x.2.1, x.2.2.1, x.2.2.2.1⟩) (fun _ => rfl) (fun x => by omega) fun _ h => trivial
theorem rdStHs {W : World} : Rd Try.prog W 22 (fun l : List StH => [.sl 4 false (l.map dStH)]) (fun l => l.length) (fun _ => True) :=
  (rd_sliceA rdStH Try.underlying22 (k := 4) (by kernel_rfl) (by omega)).conv id (fun _ => rfl) (fun l => by simp only [id, sum_oneH]; omega) fun _ _ => trivial
end Go.Proofs.Ytodndiioekjjoaa
