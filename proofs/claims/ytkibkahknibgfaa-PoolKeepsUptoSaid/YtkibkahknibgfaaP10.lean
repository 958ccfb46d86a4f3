/-
  The plain laws of what is released. By an AI agent.
-/
import Derived.Test.YtkibkahknibgfaaP7
namespace Go.Proofs.Ytkibkahknibgfaa
open Aml Go
set_option linter.unusedVariables false
set_option linter.unusedSimpArgs false

/-- All pages of a row of waits. -/
def pgF (l : List Wt) : List Int := (pgs l).flatten
theorem flat_cons (f : List Int) (l : List Wt) : flat (f :: pgs l) = f ++ pgF l := rfl
theorem pgF_cons (a : Wt) (l : List Wt) : pgF (a :: l) = a.pages ++ pgF l := rfl
theorem pgF_len (l : List Wt) : (pgF l).length = nW l := by have := flat_pgs [] l; rw [flat_cons] at this; simpa using this
theorem listed_eq (p : Pl) : listed p = srt (p.free ++ pgF p.wait) := rfl
theorem keepW_cons (o : Int) (h : Bool) (a : Wt) (l : List Wt) : keepW o h (a :: l) = if h && decide (o < a.txn) then a :: keepW o h l else keepW o h l := by simp [keepW, List.filter_cons]
theorem goW_cons (o : Int) (h : Bool) (a : Wt) (l : List Wt) : goW o h (a :: l) = if h && decide (o < a.txn) then goW o h l else a :: goW o h l := by
  unfold goW; rw [List.filter_cons]
  cases hb : (h && decide (o < a.txn)) <;> rfl
/-- What goes and what stays are all. -/
theorem part_perm (o : Int) (h : Bool) (l : List Wt) : (pgF (goW o h l) ++ pgF (keepW o h l)).Perm (pgF l) := by
  induction l with
  | nil => exact .refl _
  | cons a l ih =>
    rw [keepW_cons, goW_cons, pgF_cons]
    cases hb : (h && decide (o < a.txn)) with
    | true =>
      simp only [if_true]
      rw [pgF_cons]
      have h1 : (pgF (goW o h l) ++ (a.pages ++ pgF (keepW o h l))).Perm (a.pages ++ (pgF (goW o h l) ++ pgF (keepW o h l))) := by
        rw [← List.append_assoc, ← List.append_assoc]; exact List.perm_append_comm.append_right _
      exact h1.trans (ih.append_left _)
    | false =>
      simp only [Bool.false_eq_true, if_false]
      rw [pgF_cons, List.append_assoc]
      exact ih.append_left _
theorem go_two {a b : Int} (hab : a ≤ b) (l : List Wt) : (pgF (goW a true l) ++ pgF (goW b true (keepW a true l))).Perm (pgF (goW b true l)) := by
  induction l with
  | nil => exact .refl _
  | cons w l ih =>
    rw [goW_cons a, keepW_cons a, goW_cons b]
    by_cases h1 : a < w.txn
    · by_cases h2 : b < w.txn
      · simp only [h1, h2, decide_true, Bool.and_self, if_true]
        rw [goW_cons]
        simp only [h2, decide_true, Bool.and_self, if_true]
        exact ih
      · simp only [h1, h2, decide_true, decide_false, Bool.and_self, Bool.and_false, if_true, Bool.false_eq_true, if_false]
        rw [goW_cons]
        simp only [h2, decide_false, Bool.and_false, Bool.false_eq_true, if_false]
        rw [pgF_cons, pgF_cons]
        have h1 : (pgF (goW a true l) ++ (w.pages ++ pgF (goW b true (keepW a true l)))).Perm (w.pages ++ (pgF (goW a true l) ++ pgF (goW b true (keepW a true l)))) := by
          rw [← List.append_assoc, ← List.append_assoc]; exact List.perm_append_comm.append_right _
        exact h1.trans (ih.append_left _)
    · have h2 : ¬ b < w.txn := by omega
      simp only [h1, h2, decide_false, Bool.and_false, Bool.false_eq_true, if_false]
      rw [pgF_cons, pgF_cons, List.append_assoc]
      exact ih.append_left _
theorem keep_two {a b : Int} (hab : a ≤ b) (l : List Wt) : keepW b true (keepW a true l) = keepW b true l := by
  unfold keepW
  rw [List.filter_filter]
  congr 1
  funext w
  by_cases h : b < w.txn
  · simp [h]; omega
  · simp [h]
theorem release_two {a b : Int} (hab : a ≤ b) (p : Pl) : release (release p a true) b true = release p b true := by
  unfold release
  simp only [keep_two hab, flat_cons]
  congr 1
  refine srt_congr ?_
  exact ((srt_perm _).append_right _).trans (by rw [List.append_assoc]; exact (go_two hab _).append_left _)
theorem release_len (p : Pl) (o : Int) (h : Bool) : (release p o h).free.length + nW (release p o h).wait = p.free.length + nW p.wait := by
  have := (part_perm o h p.wait).length_eq
  rw [List.length_append, pgF_len, pgF_len, pgF_len] at this
  unfold release
  simp only [srt_length, flat_pgs]
  omega
theorem listed_len (p : Pl) : (listed p).length = p.free.length + nW p.wait := by rw [listed_eq, srt_length, List.length_append, pgF_len]
theorem release_listed (p : Pl) (o : Int) (h : Bool) : listed (release p o h) = listed p := by
  rw [listed_eq, listed_eq]
  refine srt_congr ?_
  unfold release
  simp only [flat_cons]
  exact ((srt_perm _).append_right _).trans (by rw [List.append_assoc]; exact (part_perm o h _).append_left _)
theorem keep_less {a b : Int} (hab : a ≤ b) (l : List Wt) : nW (keepW b true l) ≤ nW (keepW a true l) := by
  rw [← keep_two hab]; exact nW_filter _ _
theorem release_all (p : Pl) (o : Int) : (release p o false).wait = [] ∧ (release p o false).free.length = p.free.length + nW p.wait := by
  have h1 : (release p o false).wait = [] := by simp [release, keepW]
  have := release_len p o false
  rw [h1] at this
  exact ⟨h1, by simpa [nW] using this⟩

/-- Rows by their elements. -/
theorem pair_adj {α : Type} {R : α → α → Prop} (ht : ∀ a b c, R a b → R b c → R a c) {l : List α} (h : ∀ (i : Nat) a c, 0 < i → l[i]? = some a → l[i - 1]? = some c → R c a) : l.Pairwise R := by
  induction l with
  | nil => exact .nil
  | cons x l ih =>
    have ih' := ih fun i a c h0 ha hc => h (i + 1) a c (by omega) (by simpa using ha) (by
      have e : i + 1 - 1 = (i - 1) + 1 := by omega
      rw [e]; simpa using hc)
    refine List.pairwise_cons.2 ⟨fun y hy => ?_, ih'⟩
    cases l with
    | nil => cases hy
    | cons z l =>
      have hxz : R x z := h 1 z x (by omega) rfl rfl
      rcases List.mem_cons.1 hy with rfl | hy
      · exact hxz
      · exact ht _ _ _ hxz ((List.pairwise_cons.1 ih').1 y hy)
theorem adj_pair {α : Type} {R : α → α → Prop} {l : List α} (h : l.Pairwise R) : ∀ (i : Nat) a c, 0 < i → l[i]? = some a → l[i - 1]? = some c → R c a := by
  intro i a c h0 ha hc
  obtain ⟨h1, rfl⟩ := List.getElem?_eq_some_iff.1 ha
  obtain ⟨h2, rfl⟩ := List.getElem?_eq_some_iff.1 hc
  exact List.pairwise_iff_getElem.1 h _ _ h2 h1 (by omega)
theorem row_iff (l : List Int) (high : Int) : Row l high ↔ (∀ a, a ∈ l → 2 ≤ a ∧ a < high) ∧ l.Pairwise (· < ·) := by
  constructor
  · intro h
    refine ⟨fun a ha => ?_, pair_adj (R := fun (x y : Int) => x < y) (fun _ _ _ h k => Int.lt_trans h k) fun i a c h0 ha hc => (row_at h ha).2.2 c h0 hc⟩
    obtain ⟨i, hi⟩ := List.getElem?_of_mem ha
    exact ⟨(row_at h hi).1, (row_at h hi).2.1⟩
  · rintro ⟨h1, h2⟩ i a hi ha
    have := h1 a (List.mem_of_getElem? ha)
    exact ⟨this.1, this.2, fun b h0 hb => adj_pair h2 i a b h0 ha hb⟩
theorem lt_of_nodup {l : List Int} (h1 : l.Pairwise (· ≤ ·)) (h2 : l.Nodup) : l.Pairwise (· < ·) := by
  induction l with
  | nil => exact .nil
  | cons a l ih =>
    obtain ⟨p1, p2⟩ := List.pairwise_cons.1 h1
    obtain ⟨q1, q2⟩ := List.nodup_cons.1 h2
    refine List.pairwise_cons.2 ⟨fun b hb => ?_, ih p2 q2⟩
    have := p1 b hb
    have : a ≠ b := fun e => q1 (e ▸ hb)
    omega
theorem nodup_of_lt {l : List Int} (h : l.Pairwise (· < ·)) : l.Nodup := h.imp fun h e => by omega
/-- In order, a row is one just if none is there twice. -/
theorem row_srt (l : List Int) (high : Int) : Row (srt l) high ↔ (∀ a, a ∈ l → 2 ≤ a ∧ a < high) ∧ l.Nodup := by
  rw [row_iff]
  constructor
  · rintro ⟨h1, h2⟩
    exact ⟨fun a ha => h1 a ((srt_perm l).mem_iff.2 ha), (srt_perm l).nodup_iff.1 (nodup_of_lt h2)⟩
  · rintro ⟨h1, h2⟩
    exact ⟨fun a ha => h1 a ((srt_perm l).mem_iff.1 ha), lt_of_nodup (srt_up l) ((srt_perm l).nodup_iff.2 h2)⟩
theorem go_sub (o : Int) (h : Bool) (l : List Wt) : (pgF (goW o h l)).Sublist (pgF l) := by
  induction l with
  | nil => exact .refl _
  | cons a l ih =>
    rw [goW_cons, pgF_cons]
    split
    · exact ih.trans (List.sublist_append_right _ _)
    · rw [pgF_cons]; exact (List.Sublist.refl _).append ih
theorem release_chk (p : Pl) (o : Int) (h : Bool) (q : Int) (hc : Chk p q) : Chk (release p o h) q := by
  obtain ⟨c1, c2, c3, c4, c5, c6⟩ := hc
  have c6' := c6
  rw [listed_eq, row_srt] at c6
  refine ⟨?_, fun w hw => c2 w (List.mem_filter.1 hw).1, c3, c4, ?_, ?_⟩
  · refine adj_pair (R := fun (c a : Wt) => c.txn < a.txn) ?_
    exact (pair_adj (R := fun (c a : Wt) => c.txn < a.txn) (fun _ _ _ h k => Int.lt_trans h k) c1).filter _
  · show Row (srt (flat _)) p.high
    rw [row_srt, flat_cons]
    have hs : (p.free ++ pgF (goW o h p.wait)).Sublist (p.free ++ pgF p.wait) := (List.Sublist.refl _).append (go_sub o h _)
    exact ⟨fun a ha => c6.1 a (hs.subset ha), c6.2.sublist hs⟩
  · rw [release_listed]; exact c6'
end Go.Proofs.Ytkibkahknibgfaa
