/-
  Append. By an AI agent.
-/
import Derived.Test.YtkibkahknibgfaaA10
namespace Aml
open Go Go.RowKit
set_option linter.unusedVariables false
set_option linter.unusedSimpArgs false

/-- What a slice holds, wherever it lies. -/
def contK (S : St) (d : DV) (K : Nat → List DV → Prop) : Prop := match d with
  | .sl s _ xs => K s xs
  | .acc l n => match lk S.acc l with
    | some (.arr s xs) => xs.length = n ∧ K s xs
    | some (.tl s xs) => xs.length = n ∧ K s xs
    | none => False
  | .v (.string b) => K 1 (b.data.toList.map fun c => .v (.int .u8 c.toNat))
  | _ => False

section
variable {P : Program} {w0 : World}

theorem rep_sl_parts {g : Gh} {s : Nat} {f : Bool} {xs : List DV} {x : Value} {w : World} (r : Rep g (.sl s f xs) x) (him : ∀ b i u, g.imm b i = some u → w.cell? ⟨b, i, none⟩ = some u) :
    ∃ us a c, x = .slice a xs.length c ∧ RepL g xs us ∧ (∀ (i : Nat) (u : Value), us[i]? = some u → u.cells.size = s) ∧ (∀ (u : Value), u ∈ us → ∀ x, x ∈ u.cells.toList → x.oneCell' = true) ∧ (f = true → c = xs.length) ∧ xs.length ≤ c ∧
      ((xs = []) ∨ ∃ b o, a = some ⟨b, o, none⟩ ∧ c ≤ maxLen ∧ ∀ (i : Nat) (u : Value) (j : Nat) (x : Value), us[i]? = some u → u.cells[j]? = some x → w.cell? ⟨b, o + i * s + j, none⟩ = some x) := by
  rcases rep_sl r with ⟨he, o', c, hv, hf⟩ | ⟨b, o', c', us, hv', hr, hfl, hlc, hcm, hzz, hone, hc⟩
  · exact ⟨[], o', c, by rw [hv, he]; rfl, by rw [he]; exact RepL.nil g, by simp, by simp, fun e => by rw [he]; simpa using hf e, by rw [he]; simp, .inl he⟩
  · exact ⟨us, _, c', hv', hr, hzz, hone, hfl, hlc, .inr ⟨b, o', rfl, hcm, fun i u j x h1 h2 => him _ _ _ (hc i u j x h1 h2)⟩⟩

/-- The cells of a growing slice, and its value. -/
theorem RelO.acc_parts {ow : Nat → Option Key} {g : Gh} {S : St} {w : World} (h : RelO w0 ow g S w) {l : Nat} {ob : Ob} {s : Nat} {xs : List DV} (hl : lk S.acc l = some ob) (hob : ob = .arr s xs ∨ ob = .tl s xs) {x : Value} (hx : g.acc l xs.length = some x) :
    0 < s ∧ ∃ us a c, x = .slice a xs.length c ∧ RepL g xs us ∧ (∀ (i : Nat) (u : Value), us[i]? = some u → u.cells.size = s) ∧ (∀ (u : Value), u ∈ us → ∀ x, x ∈ u.cells.toList → x.oneCell' = true) ∧ xs.length ≤ c ∧
      ((xs = []) ∨ ∃ b o, a = some ⟨b, o, none⟩ ∧ c ≤ maxLen ∧ ∀ (i : Nat) (u : Value) (j : Nat) (x : Value), us[i]? = some u → u.cells[j]? = some x → w.cell? ⟨b, o + i * s + j, none⟩ = some x) ∧
      (c = xs.length ∨ ∃ b cs e, a = some ⟨b, 0, none⟩ ∧ ow b = some (.a l) ∧ w0.heap.size ≤ b ∧ w.heap[b]? = some (.cells cs e (0, 0)) ∧ cs.size = c * s ∧ c ≤ maxLen ∧
        (∀ (i : Nat) (u : Value) (j : Nat) (x : Value), us[i]? = some u → u.cells[j]? = some x → cs[i * s + j]? = some x) ∧ (∀ i u, g.imm b i = some u → ob = .tl s xs ∧ i < xs.length * s)) := by
  have hok := h.acc l ob (lk_mem hl)
  rcases hob with rfl | rfl
  · obtain ⟨hs, ⟨he, o, ha⟩ | ⟨b, c, cs, e, h1, h2, h3, h4, h5, h6, h7, h8, us, h9, h10, h11, h12⟩⟩ := hok
    · subst he
      rw [show ([] : List DV).length = 0 from rfl, ha] at hx
      exact ⟨hs, [], o, 0, (Option.some.inj hx).symm, RepL.nil g, by simp, by simp, by simp, .inl rfl, .inl rfl⟩
    · rw [h1] at hx
      refine ⟨hs, us, _, c, (Option.some.inj hx).symm, h9, h10, h11, h7, .inr ⟨b, 0, rfl, h8, fun i u j x a1 a2 => ?_⟩, .inr ⟨b, cs, e, rfl, h2, h3, h5, h6, h8, h12, fun i u hu => ?_⟩⟩
      · rw [cells_at h5, Nat.zero_add]; exact h12 i u j x a1 a2
      · rw [h4] at hu; cases hu
  · obtain ⟨hs, ⟨u, ha, r⟩ | ⟨b, c, cs, e, h1, h2, h3, h4, h5, h6, h7, h8, r⟩⟩ := hok
    · rw [ha] at hx
      cases hx
      obtain ⟨us, a, c, q1, q2, q3, q4, q5, q6, q7⟩ := rep_sl_parts (w := w) r h.imm
      exact ⟨hs, us, a, c, q1, q2, q3, q4, q6, q7, .inl (q5 rfl)⟩
    · rw [h1] at hx
      cases hx
      obtain ⟨us, a', c', q1, q2, q3, q4, q5, q6, q7⟩ := rep_sl_parts (w := w) r h.imm
      simp only [Value.slice.injEq, true_and] at q1
      obtain ⟨rfl, rfl⟩ := q1
      refine ⟨hs, us, _, _, rfl, q2, q3, q4, q6, q7, .inr ⟨b, cs, e, rfl, h2, h3, h5, h6, h8, fun i u j x a1 a2 => ?_, fun i u hu => ⟨rfl, ?_⟩⟩⟩
      · rcases q7 with q7 | ⟨b', o', e1, _, q7⟩
        · have := q2.len; rw [q7] at this
          have : us = [] := List.eq_nil_of_length_eq_zero this.symm
          subst this; simp at a1
        · simp only [Option.some.injEq, Addr.mk.injEq, and_true] at e1
          obtain ⟨rfl, rfl⟩ := e1
          have := q7 i u j x a1 a2
          rw [cells_at h5, Nat.zero_add] at this
          exact this
      · rcases Nat.lt_or_ge i (xs.length * s) with h' | h'
        · exact h'
        · rw [h4 i h'] at hu; cases hu

theorem first_ok {w : World} {s n c : Nat} {us : List Value} {a : Option Addr} {xs : List DV} (hlen : us.length = n) (hz : ∀ (i : Nat) (u : Value), us[i]? = some u → u.cells.size = s)
    (h : us = [] ∨ ∃ b o, a = some ⟨b, o, none⟩ ∧ ∀ (i : Nat) (u : Value) (j : Nat) (x : Value), us[i]? = some u → u.cells[j]? = some x → w.cell? ⟨b, o + i * s + j, none⟩ = some x) :
    ∀ w', (∀ p, w'.cell? p = w.cell? p) → ∀ z, (z = s ∨ us = []) → (Builtin.firstCells z n (.slice a n c)).run P w' = .ok (fl us).toArray w' := by
  intro w' hw' z hz'
  by_cases hu : us = []
  · subst hu
    have hn : n = 0 := by simpa using hlen.symm
    subst hn
    cases a with
    | none => simp [Builtin.firstCells, fl]
    | some a => simp [Builtin.firstCells, loadCells, loadCellsFrom, fl]
  · obtain ⟨b, o, rfl, hc⟩ := h.resolve_left hu
    obtain rfl := hz'.resolve_right hu
    refine run_firstCells_some (P := P) w' z n _ n c (fl us) (by rw [fl_length hz, hlen]) (fun j v hv => ?_)
    obtain ⟨i, u, j', h1, h2, rfl⟩ := fl_inv hz hv
    rw [add_plain, hw', ← Nat.add_assoc]
    exact hc i u j' v h1 h2

theorem cont_ok {g : Gh} {S : St} {w : World} {d : DV} {x : Value} {K : Nat → List DV → Prop} (h : Rel w0 g S w) (r : Rep g d x) (hk : contK S d K) :
    ∃ s ys us, K s ys ∧ RepL g ys us ∧ (∀ (i : Nat) (u : Value), us[i]? = some u → u.cells.size = s) ∧ (∀ (u : Value), u ∈ us → ∀ x, x ∈ u.cells.toList → x.oneCell' = true) ∧
      (∀ w' : World, (Builtin.lenOf x).run P w' = .ok ys.length w') ∧ ∀ w', (∀ p, w'.cell? p = w.cell? p) → ∀ z, (z = s ∨ ys = []) → (Builtin.firstCells z ys.length x).run P w' = .ok (fl us).toArray w' := by
  obtain ⟨ow, ho⟩ := h.open_
  have acc : ∀ {l : Nat} {ob : Ob} {s : Nat} {xs : List DV}, lk S.acc l = some ob → (ob = .arr s xs ∨ ob = .tl s xs) → Rep g (.acc l xs.length) x → K s xs →
    ∃ s ys us, K s ys ∧ RepL g ys us ∧ (∀ (i : Nat) (u : Value), us[i]? = some u → u.cells.size = s) ∧ (∀ (u : Value), u ∈ us → ∀ x, x ∈ u.cells.toList → x.oneCell' = true) ∧
      (∀ w' : World, (Builtin.lenOf x).run P w' = .ok ys.length w') ∧ ∀ w', (∀ p, w'.cell? p = w.cell? p) → ∀ z, (z = s ∨ ys = []) → (Builtin.firstCells z ys.length x).run P w' = .ok (fl us).toArray w' := by
    intro l ob s xs hl hob hr hK
    obtain ⟨o, c, hv, ha⟩ := rep_acc hr
    obtain ⟨hs, us, a, c', q1, q2, q3, q4, q5, q6, _⟩ := ho.acc_parts hl hob ha
    simp only [Value.slice.injEq, true_and] at q1
    obtain ⟨rfl, rfl⟩ := q1
    have hlen : us.length = xs.length := q2.len.symm
    have e1 : us = [] ↔ xs = [] := by rw [← List.length_eq_zero_iff, ← List.length_eq_zero_iff, hlen]
    refine ⟨s, xs, us, hK, q2, q3, q4, fun w' => by rw [hv]; rfl, ?_⟩
    rw [hv]
    intro w' hw' z hz
    exact first_ok (xs := xs) hlen q3 (by rcases q6 with q6 | ⟨b, o', e, _, q6⟩; exact .inl (e1.2 q6); exact .inr ⟨b, o', e, q6⟩) w' hw' z (hz.imp id e1.2)
  unfold contK at hk
  split at hk
  · rename_i s f xs
    obtain ⟨us, a, c, q1, q2, q3, q4, q5, q6, q7⟩ := rep_sl_parts (w := w) r h.imm
    have hlen : us.length = xs.length := q2.len.symm
    have e1 : us = [] ↔ xs = [] := by rw [← List.length_eq_zero_iff, ← List.length_eq_zero_iff, hlen]
    refine ⟨s, xs, us, hk, q2, q3, q4, fun w' => by rw [q1]; rfl, ?_⟩
    rw [q1]
    intro w' hw' z hz
    exact first_ok (xs := xs) hlen q3 (by rcases q7 with q6 | ⟨b, o', e, _, q6⟩; exact .inl (e1.2 q6); exact .inr ⟨b, o', e, q6⟩) w' hw' z (hz.imp id e1.2)
  · rename_i l n
    split at hk
    · rename_i s xs hl
      obtain ⟨rfl, hk⟩ := hk
      exact acc hl (.inl rfl) r hk
    · rename_i s xs hl
      obtain ⟨rfl, hk⟩ := hk
      exact acc hl (.inr rfl) r hk
    · exact hk.elim
  · rename_i b
    have hv := rep_v r
    subst hv
    refine ⟨1, _, b.data.toList.map fun c => Value.int .u8 c.toNat, hk, ⟨by simp, fun i d u h1 h2 => ?_⟩, fun i u hu => ?_, fun u hu x hx => ?_, fun w' => ?_, fun w' hw' z hz => ?_⟩
    · simp only [List.getElem?_map, Option.map_eq_some_iff] at h1 h2
      obtain ⟨c, hc, rfl⟩ := h1
      obtain ⟨c', hc', rfl⟩ := h2
      rw [hc] at hc'
      cases hc'
      exact .v _ rfl
    · simp only [List.getElem?_map, Option.map_eq_some_iff] at hu
      obtain ⟨c, hc, rfl⟩ := hu
      rfl
    · obtain ⟨c, hc, rfl⟩ := List.mem_map.1 hu
      simp [Value.cells] at hx
      rw [hx]; rfl
    · simp [Builtin.lenOf]
    · have : (b.extract 0 b.size) = b := by simp
      have e2 : fl (b.data.toList.map fun c => Value.int .u8 c.toNat) = b.data.toList.map fun c => Value.int .u8 c.toNat := by
        simp only [fl]
        rw [List.flatMap_map]
        induction b.data.toList with
        | nil => rfl
        | cons c l ih => simp only [List.flatMap_cons, List.map_cons, ih]; rfl
      rw [e2]
      simp only [Builtin.firstCells, List.length_map, Array.length_toList]
      rw [show b.data.size = b.size from rfl, this]
      simp
      apply Array.ext'
      simp
  · exact hk.elim
end
end Aml
