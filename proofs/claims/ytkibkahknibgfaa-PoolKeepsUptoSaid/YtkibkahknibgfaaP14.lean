/-
  The plain laws of pages that are had. By an AI agent.
-/
import Derived.Test.YtkibkahknibgfaaP12
namespace Go.Proofs.Ytkibkahknibgfaa
open Aml Go
set_option linter.unusedVariables false
set_option linter.unusedSimpArgs false

/-- All pages that are free, or wait. -/
def allP (p : Pl) : List Int := p.free ++ pgF p.wait
def upd (h : Nat → Bool) (i : Nat) (b : Bool) : Nat → Bool := fun j => if j = i then b else h j
def had (n : Nat) (h : Nat → Bool) : List Int := ((List.range n).filter h).map fun (i : Nat) => (i : Int)
/-- Behind each step: a pool that may be; what is had, free or waits are all below High. -/
structure Keep (top : Nat) (p : Pl) (h : Nat → Bool) (txn : Int) : Prop where
  chk : Chk p top
  own : ∀ i, h i = true → 2 ≤ i ∧ (i : Int) < p.high ∧ (i : Int) ∉ allP p
  all : ∀ x : Int, 2 ≤ x → x < p.high → x ∈ allP p ∨ h x.toNat = true
  old : ∀ w, w ∈ p.wait → w.txn < txn
theorem chk_all {p : Pl} {q : Int} (h : Chk p q) : (∀ x, x ∈ allP p → 2 ≤ x ∧ x < p.high) ∧ (allP p).Nodup := by
  have := h.2.2.2.2.2; rw [listed_eq, row_srt] at this; exact this
theorem had_mem {n : Nat} {h : Nat → Bool} {x : Int} : x ∈ had n h ↔ 0 ≤ x ∧ x < n ∧ h x.toNat = true := by
  unfold had
  simp only [List.mem_map, List.mem_filter, List.mem_range]
  constructor
  · rintro ⟨i, ⟨h1, h2⟩, rfl⟩
    exact ⟨by omega, by omega, by simpa using h2⟩
  · rintro ⟨h1, h2, h3⟩
    exact ⟨x.toNat, ⟨by omega, h3⟩, by omega⟩
theorem had_nodup (n : Nat) (h : Nat → Bool) : (had n h).Nodup := by
  unfold had
  have h1 : ((List.range n).filter h).Nodup := (List.nodup_range).sublist List.filter_sublist
  unfold List.Nodup at *
  rw [List.pairwise_map]
  exact h1.imp fun hne e => hne (Int.ofNat.inj e)
/-- The count. -/
theorem keep_count {top : Nat} {p : Pl} {h : Nat → Bool} {txn : Int} (k : Keep top p h txn) : ((listed p).length : Int) + (had top h).length = p.high - 2 := by
  obtain ⟨c1, c2⟩ := chk_all k.chk
  have hq := k.chk.2.2.2.1
  have h2 := k.chk.2.2.1
  have hn : (allP p ++ had top h).Nodup := by
    rw [List.nodup_append]
    refine ⟨c2, had_nodup _ _, fun a ha b hb e => ?_⟩
    subst e
    obtain ⟨g1, g2, g3⟩ := had_mem.1 hb
    have := (k.own a.toNat g3).2.2
    rw [Int.toNat_of_nonneg g1] at this
    exact this ha
  have hp : (allP p ++ had top h).Perm (rise 2 (p.high - 2).toNat) := by
    refine (List.perm_ext_iff_of_nodup hn (nodup_of_lt (rise_lt _ _))).2 fun x => ?_
    rw [List.mem_append, rise_mem, had_mem]
    constructor
    · rintro (hx | ⟨g1, g2, g3⟩)
      · have := c1 x hx; omega
      · have := k.own _ g3; omega
    · rintro ⟨g1, g2⟩
      rcases k.all x g1 (by omega) with hx | hx
      · exact .inl hx
      · exact .inr ⟨by omega, by omega, hx⟩
  have := hp.length_eq
  rw [List.length_append, rise_len] at this
  have e : (listed p).length = (allP p).length := by rw [listed_eq, srt_length]; rfl
  rw [e]; omega
theorem keep_release {top : Nat} {p : Pl} {h : Nat → Bool} {txn : Int} (k : Keep top p h txn) (o : Int) (b : Bool) : Keep top (release p o b) h txn := by
  have hp : (allP (release p o b)).Perm (allP p) := by
    have h1 := release_listed p o b
    rw [listed_eq, listed_eq] at h1
    exact (srt_perm _).symm.trans (h1 ▸ srt_perm _)
  refine ⟨release_chk p o b _ k.chk, fun i hi => ?_, fun x h1 h2 => ?_, fun w hw => k.old w (List.mem_filter.1 hw).1⟩
  · have := k.own i hi
    exact ⟨this.1, this.2.1, fun hx => this.2.2 (hp.mem_iff.1 hx)⟩
  · exact (k.all x h1 h2).imp (fun hx => hp.mem_iff.2 hx) id
/-- What has all of a row. -/
def marks (h : Nat → Bool) (l : List Int) : Nat → Bool := fun i => h i || decide ((i : Int) ∈ l)
theorem take_chk {p : Pl} {q m : Int} (hc : Chk p q) (hm : may p q m) : Chk (take p m) q := by
  obtain ⟨d1, d2⟩ := all_nodup hc m
  obtain ⟨f1, f2, f3⟩ := free_sorted hc
  have hh := (room_take hc.2.2.2.1 hm).2
  have hhi : (take p m).high = p.high + ((m.toNat - oldN p m : Nat) : Int) := rfl
  have h2 := hc.2.2.1
  refine ⟨hc.1, fun w hw hr => hc.2.1 w hw ?_, by omega, hh, ?_, ?_⟩
  · refine hr.imp id fun hr hrow => hr ?_
    rw [row_iff] at *
    exact ⟨fun a ha => by have := hrow.1 a ha; omega, hrow.2⟩
  · rw [row_iff]
    refine ⟨fun a ha => d1 a (List.mem_append_right _ (List.mem_append_left _ ha)), ?_⟩
    show ((srt p.free).drop (oldN p m)).Pairwise (· < ·)
    rw [f1]; exact f3.sublist (List.drop_sublist _ _)
  · rw [listed_eq, row_srt]
    exact ⟨fun x hx => d1 x (List.mem_append_right _ hx), (List.nodup_append.1 d2).2.1⟩
theorem take_all (p : Pl) (m x : Int) : (x ∈ took p m ∨ x ∈ allP (take p m)) ↔ (x ∈ allP p ∨ (p.high ≤ x ∧ x < (take p m).high)) := by
  have h1 := (take_perm p m).mem_iff (a := x)
  rw [List.mem_append, List.mem_append, rise_mem] at h1
  have hhi : (take p m).high = p.high + ((m.toNat - oldN p m : Nat) : Int) := rfl
  unfold allP
  rw [List.mem_append, List.mem_append, hhi]
  have e : (take p m).wait = p.wait := rfl
  rw [e]
  constructor
  · rintro (h | h | h)
    · rcases h1.1 (.inl h) with h | h
      · exact .inl (.inl h)
      · exact .inr h
    · rcases h1.1 (.inr h) with h | h
      · exact .inl (.inl h)
      · exact .inr h
    · exact .inl (.inr h)
  · rintro ((h | h) | h)
    · rcases h1.2 (.inl h) with h | h
      · exact .inl h
      · exact .inr (.inl h)
    · exact .inr (.inr h)
    · rcases h1.2 (.inr h) with h | h
      · exact .inl h
      · exact .inr (.inl h)
/-- What is taken was not had. -/
theorem keep_took {top : Nat} {p : Pl} {h : Nat → Bool} {txn m : Int} (k : Keep top p h txn) (hm : may p top m) : (∀ x, x ∈ took p m → 2 ≤ x ∧ x < top ∧ h x.toNat = false) ∧ (took p m).Nodup ∧ Keep top (take p m) (marks h (took p m)) txn := by
  obtain ⟨d1, d2⟩ := all_nodup k.chk m
  obtain ⟨c1, c2⟩ := chk_all k.chk
  have hh := (room_take k.chk.2.2.2.1 hm).2
  have hhi : (take p m).high = p.high + ((m.toNat - oldN p m : Nat) : Int) := rfl
  refine ⟨fun x hx => ?_, (List.nodup_append.1 d2).1, take_chk k.chk hm, fun i hi => ?_, fun x h1 h2 => ?_, k.old⟩
  · have g := d1 x (List.mem_append_left _ hx)
    refine ⟨g.1, by omega, ?_⟩
    cases hv : h x.toNat with
    | false => rfl
    | true =>
      obtain ⟨o1, o2, o3⟩ := k.own _ hv
      rw [Int.toNat_of_nonneg (by omega)] at o2 o3
      rcases (take_all p m x).1 (.inl hx) with h | h
      · exact absurd h o3
      · omega
  · unfold marks at hi
    rw [Bool.or_eq_true, decide_eq_true_eq] at hi
    rcases hi with hi | hi
    · obtain ⟨o1, o2, o3⟩ := k.own _ hi
      refine ⟨o1, by omega, fun hx => ?_⟩
      rcases (take_all p m i).1 (.inr hx) with h | h
      · exact o3 h
      · omega
    · have g := d1 i (List.mem_append_left _ hi)
      exact ⟨by omega, g.2, fun hx => (List.nodup_append.1 d2).2.2 _ hi _ hx rfl⟩
  · unfold marks
    rw [Bool.or_eq_true, decide_eq_true_eq, Int.toNat_of_nonneg (by omega)]
    by_cases hx : x < p.high
    · rcases k.all x h1 hx with h | h
      · rcases (take_all p m x).2 (.inl h) with h | h
        · exact .inr (.inr h)
        · exact .inl h
      · exact .inr (.inl h)
    · rcases (take_all p m x).2 (.inr ⟨by omega, h2⟩) with h | h
      · exact .inr (.inr h)
      · exact .inl h
/-- What is had, and given. -/
theorem keep_give {top : Nat} {p : Pl} {h : Nat → Bool} {txn : Int} (k : Keep top p h txn) {l : List Int} (h1 : ∀ x, x ∈ l → 0 ≤ x ∧ h x.toNat = true) (h2 : l.Nodup) : Keep top (give p txn l) (fun i => h i && !decide ((i : Int) ∈ l)) (txn + 1) := by
  obtain ⟨c1, c2⟩ := chk_all k.chk
  have hb : ∀ x, x ∈ l → 2 ≤ x ∧ x < p.high ∧ x ∉ allP p := fun x hx => by
    obtain ⟨g1, g2⟩ := h1 x hx
    have := k.own _ g2
    rw [Int.toNat_of_nonneg g1] at this
    exact ⟨by omega, this.2.1, this.2.2⟩
  by_cases hl : l = []
  · subst hl
    rw [show give p txn [] = p from if_pos rfl]
    refine ⟨k.chk, fun i hi => k.own i (by simpa using hi), fun x a b => (k.all x a b).imp id fun h => by simpa using h, fun w hw => by have := k.old w hw; omega⟩
  · have hg : give p txn l = ⟨p.high, p.free, p.wait ++ [⟨txn, srt l⟩]⟩ := give_new hl fun w hw e => by
      have := k.old w (List.mem_of_getElem? hw); omega
    rw [hg]
    have hA : ∀ x, x ∈ allP ⟨p.high, p.free, p.wait ++ [⟨txn, srt l⟩]⟩ ↔ x ∈ allP p ∨ x ∈ l := by
      intro x
      unfold allP pgF
      simp only [pgs_app, List.flatten_append, List.mem_append]
      have : (pgs [(⟨txn, srt l⟩ : Wt)]).flatten = srt l := by simp [pgs]
      rw [this, (srt_perm l).mem_iff]
      constructor
      · rintro (h | h | h)
        · exact .inl (.inl h)
        · exact .inl (.inr h)
        · exact .inr h
      · rintro ((h | h) | h)
        · exact .inl h
        · exact .inr (.inl h)
        · exact .inr (.inr h)
    have hP : (allP ⟨p.high, p.free, p.wait ++ [⟨txn, srt l⟩]⟩).Perm (allP p ++ l) := by
      unfold allP pgF
      simp only [pgs_app, List.flatten_append]
      have : (pgs [(⟨txn, srt l⟩ : Wt)]).flatten = srt l := by simp [pgs]
      rw [this, ← List.append_assoc]
      exact (srt_perm l).append_left _
    have hN : (allP p ++ l).Nodup := by
      rw [List.nodup_append]
      exact ⟨c2, h2, fun a ha b hb' e => (hb b hb').2.2 (e ▸ ha)⟩
    refine ⟨⟨?_, fun w hw => ?_, k.chk.2.2.1, k.chk.2.2.2.1, k.chk.2.2.2.2.1, ?_⟩, fun i hi => ?_, fun x a b => ?_, fun w hw => ?_⟩
    · refine adj_pair (R := fun (c a : Wt) => c.txn < a.txn) ?_
      rw [List.pairwise_append]
      refine ⟨pair_adj (R := fun (c a : Wt) => c.txn < a.txn) (fun _ _ _ h k => Int.lt_trans h k) k.chk.1, List.pairwise_cons.2 ⟨fun _ h => by simp at h, .nil⟩, fun a ha b hb => ?_⟩
      simp only [List.mem_singleton] at hb
      subst hb
      exact k.old a ha
    · rcases List.mem_append.1 hw with hw | hw
      · exact k.chk.2.1 w hw
      · simp only [List.mem_singleton] at hw
        subst hw
        rintro (h | h)
        · exact hl (List.eq_nil_of_length_eq_zero (by rw [← srt_length]; exact congrArg List.length h))
        · exact h ((row_srt _ _).2 ⟨fun x hx => ⟨(hb x hx).1, (hb x hx).2.1⟩, h2⟩)
    · rw [listed_eq, row_srt]
      exact ⟨fun x hx => by
        rcases (hA x).1 hx with h | h
        · exact c1 x h
        · exact ⟨(hb x h).1, (hb x h).2.1⟩, hP.nodup_iff.2 hN⟩
    · rw [Bool.and_eq_true, Bool.not_eq_true', decide_eq_false_iff_not] at hi
      have := k.own i hi.1
      refine ⟨this.1, this.2.1, fun hx => ?_⟩
      rcases (hA _).1 hx with h | h
      · exact this.2.2 h
      · exact hi.2 h
    · rw [Bool.and_eq_true, Bool.not_eq_true', decide_eq_false_iff_not, Int.toNat_of_nonneg (by omega)]
      by_cases hx : x ∈ l
      · exact .inl ((hA x).2 (.inr hx))
      · exact (k.all x a b).imp (fun h => (hA x).2 (.inl h)) fun h => ⟨h, hx⟩
    · rcases List.mem_append.1 hw with hw | hw
      · have := k.old w hw; omega
      · simp only [List.mem_singleton] at hw
        subst hw; simp only; omega
theorem keep_start (top : Nat) (h : 2 ≤ top) : Keep top ⟨2, [], []⟩ (fun _ => false) 1 := by
  have hr : Row (listed ⟨2, [], []⟩) 2 := by
    rw [listed_eq, row_srt]
    exact ⟨fun x hx => by simp [pgF, pgs] at hx, by simp [pgF, pgs]⟩
  refine ⟨⟨fun i a c h0 ha => ?_, fun w hw => ?_, Int.le_refl _, ?_, fun i a hi => ?_, hr⟩, fun i hi => ?_, fun x a b => ?_, fun w hw => ?_⟩
  · simp at ha
  · simp at hw
  · show (2 : Int) ≤ top; omega
  · simp at hi
  · cases hi
  · exact absurd b (by show ¬ x < 2; omega)
  · simp at hw
end Go.Proofs.Ytkibkahknibgfaa
