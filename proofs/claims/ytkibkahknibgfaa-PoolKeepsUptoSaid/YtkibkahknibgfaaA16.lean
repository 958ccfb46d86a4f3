/-
  Loops by a state; forgetting slots; growing slices out of nil. By an AI agent.
-/
import Derived.Test.YtkibkahknibgfaaA15
namespace Aml
open Go Go.RowKit
set_option linter.unusedVariables false
set_option linter.unusedSimpArgs false

/-- Slots from i on: those that live stay, the others are forgotten. -/
def wkA : List DV → Nat → List Nat → List DV
  | [], _, _ => []
  | _ :: ds, i, [] => .any :: wkA ds (i + 1) []
  | d :: ds, i, j :: js => if i = j then d :: wkA ds (i + 1) js else .any :: wkA ds (i + 1) (j :: js)
def wk (live : List Nat) (fr : List DV) : List DV := wkA fr 0 live
def upds (fr : List DV) : List (Nat × DV) → List DV
  | [] => fr
  | (i, d) :: us => upds (fr.set i d) us

theorem repL_any {g : Gh} : ∀ {ds es : List DV} {us : List Value}, RepL g ds us → ds.length = es.length → (∀ (i : Nat) (d e : DV), ds[i]? = some d → es[i]? = some e → e = d ∨ e = .any) → RepL g es us :=
  fun {ds es us} h hl hs => ⟨by rw [← hl]; exact h.len, fun i e u h1 h2 => by
    have hi : i < ds.length := by rw [hl]; exact (List.getElem?_eq_some_iff.1 h1).1
    rcases hs i _ e (List.getElem?_eq_getElem hi) h1 with rfl | rfl
    · exact h.at_ i _ u (List.getElem?_eq_getElem hi) h2
    · exact .any u⟩
theorem wkA_spec : ∀ (ds : List DV) (k : Nat) (js : List Nat), (wkA ds k js).length = ds.length ∧ ∀ (i : Nat) (d e : DV), ds[i]? = some d → (wkA ds k js)[i]? = some e → e = d ∨ e = .any
  | [], k, js => ⟨by simp [wkA], fun i d e h => by simp at h⟩
  | d :: ds, k, [] => by
    obtain ⟨h1, h2⟩ := wkA_spec ds (k + 1) []
    refine ⟨by simp [wkA, h1], fun i d' e a b => ?_⟩
    cases i with
    | zero => simp [wkA] at b; exact .inr b.symm
    | succ i => simp [wkA] at a b; exact h2 i d' e a b
  | d :: ds, k, j :: js => by
    simp only [wkA]
    split
    · obtain ⟨h1, h2⟩ := wkA_spec ds (k + 1) js
      refine ⟨by simp [h1], fun i d' e a b => ?_⟩
      cases i with
      | zero => simp at a b; exact .inl (b.symm.trans a)
      | succ i => simp at a b; exact h2 i d' e a b
    · obtain ⟨h1, h2⟩ := wkA_spec ds (k + 1) (j :: js)
      refine ⟨by simp [h1], fun i d' e a b => ?_⟩
      cases i with
      | zero => simp at b; exact .inr b.symm
      | succ i => simp at a b; exact h2 i d' e a b
theorem repL_wk {g : Gh} {fr : List DV} {us : List Value} (live : List Nat) (h : RepL g fr us) : RepL g (wk live fr) us :=
  repL_any h (wkA_spec fr 0 live).1.symm (wkA_spec fr 0 live).2

section
variable {P : Program} {w0 : World}

theorem awp_wk (live : List Nat) {c : Code} {fr : List DV} {S : St} {Q : Exit → List DV → St → Prop} (h : AWp P w0 c (wk live fr) S Q) : AWp P w0 c fr S Q :=
  fun g a w h1 h2 h3 => h g a w h1 (repL_wk live h2) h3

/-- A loop, by a state. -/
theorem awp_loopS {σ : Type} (live : List Nat) (vals : σ → List (Nat × DV)) (st : σ → St) (inv : σ → Prop) (meas : σ → Nat) (s0 : σ) {c : Code} {fr : List DV} {S : St} {Q : Exit → List DV → St → Prop}
    (h0 : inv s0 ∧ upds (wk live fr) (vals s0) = wk live fr ∧ st s0 = S)
    (round : ∀ s, inv s → AWp P w0 c (upds (wk live fr) (vals s)) (st s) (thenQ (fun fr' S' => ∃ s', inv s' ∧ meas s' < meas s ∧ wk live fr' = upds (wk live fr) (vals s') ∧ st s' = S') Q)) :
    AWp P w0 (.loop c) fr S Q := by
  intro g a w h1 h2 h3
  refine wp_loop_ind (fun m a w => a.defers = [] ∧ ∃ g' s, g.le g' ∧ Rel w0 g' (st s) w ∧ RepL g' (upds (wk live fr) (vals s)) a.tmps.toList ∧ inv s ∧ meas s = m) (m := meas s0) ⟨h3, g, s0, .refl g, by rw [h0.2.2]; exact h1, by rw [h0.2.1]; exact repL_wk live h2, h0.1, rfl⟩ ?_
  rintro m a w ⟨hd, g', s, k1, k2, k3, k4, rfl⟩
  refine wp_mono (round s k4 g' a w k2 k3 hd) ?_
  rintro e a' w' ⟨hd', g'', fr'', S'', q1, q2, q3, q4⟩
  cases e with
  | normal =>
    obtain ⟨s', hi, hm, hf, hS⟩ := q4
    exact ⟨meas s', hm, hd', g'', s', k1.trans q1, by rw [hS]; exact q2, by rw [← hf]; exact repL_wk live q3, hi, rfl⟩
  | exit n => exact ⟨hd', g'', fr'', S'', k1.trans q1, q2, q3, q4⟩
  | goto n => exact ⟨hd', g'', fr'', S'', k1.trans q1, q2, q3, q4⟩
  | ret => exact ⟨hd', g'', fr'', S'', k1.trans q1, q2, q3, q4⟩
  | panic ch => exact ⟨hd', g'', fr'', S'', k1.trans q1, q2, q3, q4⟩
  | outgrown => exact ⟨hd', g'', fr'', S'', k1.trans q1, q2, q3, q4⟩

/-- A nil slice in a slot becomes one that grows. -/
theorem awp_grow (i s : Nat) (hs : 0 < s) {c : Code} {fr : List DV} {S : St} {Q : Exit → List DV → St → Prop} {s0 : Nat} (hi : fr[i]? = some (.sl s0 true []))
    (h : ∀ l, nin S.acc l → AWp P w0 c (fr.set i (.acc l 0)) ⟨S.box, (l, .arr s []) :: S.acc⟩ Q) : AWp P w0 c fr S Q := by
  intro g a w h1 h2 h3
  have hlt : i < a.tmps.toList.length := by rw [← h2.len]; exact (List.getElem?_eq_some_iff.1 hi).1
  have hr := h2.at_ i _ _ hi (List.getElem?_eq_getElem hlt)
  have hr' : Rep g (.sl s true []) a.tmps.toList[i] := by obtain ⟨o', ho'⟩ := rep_full_nil hr; rw [ho']; exact .nil _ _ _ _ fun _ => rfl
  obtain ⟨l, g', hle, hne, hR, hA⟩ := h1.newAcc hs hr' (.arr s []) (.inr ⟨rfl, rfl⟩)
  have hfr := repL_same (h2.mono hle) (List.getElem?_eq_getElem hlt) hA
  exact wp_mono (h l (nin_of hne) g' a w hR hfr h3) fun _ _ _ k => k.of_le hle
end
end Aml
