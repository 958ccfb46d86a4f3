/-
  Slices of the call's own, made, written and cut in place. By an AI agent.
-/
import Derived.Test.YtkibkahknibgfaaA14
namespace Aml
open Go Go.RowKit
set_option linter.unusedVariables false
set_option linter.unusedSimpArgs false

section
variable {P : Program} {w0 : World}

/-- A new block as a growing slice. -/
theorem Rel.newArr {g : Gh} {S : St} {w w' : World} (h : Rel w0 g S w) (k : Below w.heap.size w w') {s : Nat} (hs : 0 < s) {xs : List DV} {us : List Value} {b c e : Nat} {cs : Array Value} (hge : w.heap.size ≤ b) (hb : w'.heap[b]? = some (.cells cs e (0, 0)))
    (hsz : cs.size = c * s) (hn : xs.length ≤ c) (hm : c ≤ maxLen) (hr : RepL g xs us) (hz : ∀ (i : Nat) (u : Value), us[i]? = some u → u.cells.size = s) (hone : ∀ (u : Value), u ∈ us → ∀ x, x ∈ u.cells.toList → x.oneCell' = true)
    (hc : ∀ (i : Nat) (u : Value) (j : Nat) (x : Value), us[i]? = some u → u.cells[j]? = some x → cs[i * s + j]? = some x) :
    ∃ l g', g.le g' ∧ (∀ p, p ∈ S.acc → p.1 ≠ l) ∧ Rel w0 g' ⟨S.box, (l, .arr s xs) :: S.acc⟩ w' ∧ Rep g' (.acc l xs.length) (.slice (some ⟨b, 0, none⟩) xs.length c) := by
  obtain ⟨ow, h⟩ := h.open_
  have hnow : ow b = none := by
    cases ho : ow b with
    | none => rfl
    | some q => have := h.owb b q ho; omega
  have h' := h.grow k
  obtain ⟨m, hm'⟩ := h'.fresh
  have hnone : ∀ i, g.imm b i = none := by
    intro i
    cases hi : g.imm b i with
    | none => rfl
    | some u => have := World.block_lt_of_cell? w _ (h.imm _ _ _ hi); simp at this; omega
  have hne : ∀ p, p ∈ S.acc → p.1 ≠ m := by
    rintro ⟨l', o'⟩ hp rfl
    obtain ⟨u, hu⟩ := (h'.acc _ _ hp).has
    rw [hm' _ _ (Nat.le_refl _)] at hu; cases hu
  let v : Value := .slice (some ⟨b, 0, none⟩) xs.length c
  have hle : g.le (g.setAcc m xs.length v) := Gh.le_setAcc (.inl (hm' _ _ (Nat.le_refl _)))
  have hself : (g.setAcc m xs.length v).acc m xs.length = some v := by simp [Gh.setAcc]
  refine ⟨m, g.setAcc m xs.length v, hle, hne, RelO.close (ow := fun x => if x = b then some (.a m) else ow x) ⟨h'.below, h'.imm, h'.nb, ?_, ?_, ?_, ?_, ?_, ?_, ?_⟩, .acc _ _ _ _ hself⟩
  · simp only [List.map_cons, List.nodup_cons]
    refine ⟨fun hx => ?_, h'.na⟩
    obtain ⟨p, hp, e⟩ := List.mem_map.1 hx
    exact hne p hp e
  · intro l' n u hu
    simp only [Gh.setAcc] at hu
    split at hu
    · rename_i e; obtain ⟨rfl, rfl⟩ := e; exact ⟨_, _, (Option.some.inj hu).symm, .inr ⟨b, 0, rfl⟩⟩
    · exact h'.accw _ _ _ hu
  · refine ⟨m + 1, fun l n hl => ?_⟩
    simp only [Gh.setAcc]
    rw [if_neg (by omega)]
    exact hm' _ _ (by omega)
  · intro l o hl k hk
    simp only [Gh.setAcc]
    rcases List.mem_cons.1 hl with e | hl
    · simp only [Prod.mk.injEq] at e
      obtain ⟨rfl, rfl⟩ := e
      simp only [Ob.len] at hk
      rw [if_neg (by omega)]
      exact hm' _ _ (Nat.le_refl _)
    · rw [if_neg (fun e => hne _ hl e.1)]
      exact h'.top _ _ hl k hk
  · intro b' ds hb'
    refine (h'.box b' ds hb').step hle fun ho => ⟨?_, rfl, fun _ hi => hi⟩
    split
    · rename_i e; subst e; exact absurd (hnow.symm.trans ho) (by simp)
    · exact ho
  · intro l o hl
    rcases List.mem_cons.1 hl with e' | hl
    · simp only [Prod.mk.injEq] at e'
      obtain ⟨rfl, rfl⟩ := e'
      exact ⟨hs, .inr ⟨b, c, cs, e, hself, if_pos rfl, Nat.le_trans h.below.size hge, hnone, hb, hsz, hn, hm, us, hr.mono hle, hz, hone, hc⟩⟩
    · refine (h'.acc l o hl).step hle fun b' ho => ⟨?_, rfl, fun _ hi => hi⟩
      split
      · rename_i e; subst e; exact absurd (hnow.symm.trans ho) (by simp)
      · exact ho
  · intro b' q hq
    split at hq
    · rename_i e; subst e; exact lt_of_heap hb
    · exact h'.owb _ _ hq

/-- A growing slice's elements are written over. -/
theorem Rel.rearr {g : Gh} {S : St} {w w' : World} (h : Rel w0 g S w) {l s : Nat} {xs ys : List DV} {us : List Value} {b c e : Nat} {cs : Array Value} (hl : lk S.acc l = some (.arr s xs)) (hv : g.acc l xs.length = some (.slice (some ⟨b, 0, none⟩) xs.length c)) (hlen : ys.length = xs.length) (hpos : 0 < c)
    (hb : w'.heap[b]? = some (.cells cs e (0, 0))) (hsz : cs.size = c * s) (hbel : Below w0.heap.size w0 w') (hsize : w.heap.size ≤ w'.heap.size) (hsame : ∀ k, k < w.heap.size → k ≠ b → w'.heap[k]? = w.heap[k]?)
    (hr : RepL g ys us) (hz : ∀ (i : Nat) (u : Value), us[i]? = some u → u.cells.size = s) (hone : ∀ (u : Value), u ∈ us → ∀ x, x ∈ u.cells.toList → x.oneCell' = true)
    (hc : ∀ (i : Nat) (u : Value) (j : Nat) (x : Value), us[i]? = some u → u.cells[j]? = some x → cs[i * s + j]? = some x) : Rel w0 g ⟨S.box, up S.acc l (.arr s ys)⟩ w' := by
  obtain ⟨ow, h⟩ := h.open_
  have hmem := lk_mem hl
  obtain ⟨hs, ⟨he, o, ha⟩ | ⟨b', c', cs', e', h1, h2, h3, h4, h5, h6, h7, h8, us', h9, h10, h11, h12⟩⟩ := h.acc l _ hmem
  · exfalso
    subst he
    rw [show ([] : List DV).length = 0 from rfl, ha] at hv
    simp only [Option.some.injEq, Value.slice.injEq] at hv
    omega
  · rw [hv] at h1
    simp only [Option.some.injEq, Value.slice.injEq, Addr.mk.injEq, true_and, and_true] at h1
    obtain ⟨rfl, rfl⟩ := h1
    have hbne : ∀ b' q, ow b' = some q → q ≠ .a l → b' ≠ b := by
      rintro b' q hq hne rfl
      rw [h2] at hq; exact hne (Option.some.inj hq).symm
    refine RelO.close (ow := ow) ⟨hbel, ?_, h.nb, ?_, h.accw, h.fresh, ?_, ?_, ?_, ?_⟩
    · intro b' i u hu
      have hne : b' ≠ b := by rintro rfl; rw [h4] at hu; cases hu
      have h1 := h.imm _ _ _ hu
      have hblt := World.block_lt_of_cell? w _ h1
      have := World.cell?_of_block (w := w) (w' := w') (a := ⟨b', i, none⟩) (hsame b' hblt hne)
      rw [this]; exact h1
    · rw [map_up]; exact h.na
    · intro l' o' hl' k hk
      rcases mem_up h.na hl' with e | ⟨hm', hne⟩
      · simp only [Prod.mk.injEq] at e
        obtain ⟨rfl, rfl⟩ := e
        refine h.top _ _ hmem k ?_
        simp only [Ob.len] at hk ⊢
        omega
      · exact h.top _ _ hm' k hk
    · intro b' ds hb'
      have hob' := (h.box _ _ hb').1
      have hne := hbne b' _ hob' (by simp)
      exact (h.box b' ds hb').step (.refl g) fun x => ⟨x, hsame b' (h.owb _ _ x) hne, fun i hi => hi⟩
    · intro l' o' hl'
      rcases mem_up h.na hl' with e' | ⟨hm', hne⟩
      · simp only [Prod.mk.injEq] at e'
        obtain ⟨rfl, rfl⟩ := e'
        exact ⟨hs, .inr ⟨b, c, cs, e, by rw [hlen]; exact hv, h2, h3, h4, hb, hsz, by omega, h8, us, hr, hz, hone, hc⟩⟩
      · refine (h.acc l' o' hm').step (.refl g) fun b' ho => ?_
        have hne' := hbne b' _ ho (by simp; exact hne)
        exact ⟨ho, hsame b' (h.owb _ _ ho) hne', fun i hi => hi⟩
    · intro b' q hq
      exact Nat.lt_of_lt_of_le (h.owb _ _ hq) hsize

/-- One name for another. -/
def ren : List (Nat × Ob) → Nat → Nat × Ob → List (Nat × Ob)
  | [], _, _ => []
  | (k, x) :: t, n, p => if k = n then p :: t else (k, x) :: ren t n p
theorem mem_ren {l : List (Nat × Ob)} {n : Nat} {p : Nat × Ob} (hn : (l.map (·.1)).Nodup) {q : Nat × Ob} (h : q ∈ ren l n p) : q = p ∨ (q ∈ l ∧ q.1 ≠ n) := by
  induction l with
  | nil => cases h
  | cons r t ih =>
    obtain ⟨k, x⟩ := r
    simp only [List.map_cons, List.nodup_cons] at hn
    simp only [ren] at h
    split at h
    · rename_i e
      subst e
      rcases List.mem_cons.1 h with rfl | h
      · exact .inl rfl
      · refine .inr ⟨List.mem_cons_of_mem _ h, fun e => hn.1 ?_⟩
        rw [← e]; exact List.mem_map_of_mem h
    · rename_i e
      rcases List.mem_cons.1 h with rfl | h
      · exact .inr ⟨List.mem_cons_self, e⟩
      · rcases ih hn.2 h with h | h
        · exact .inl h
        · exact .inr ⟨List.mem_cons_of_mem _ h.1, h.2⟩
theorem nodup_ren {l : List (Nat × Ob)} {n : Nat} {p : Nat × Ob} (hn : (l.map (·.1)).Nodup) (hp : ∀ q, q ∈ l → q.1 ≠ p.1) : ((ren l n p).map (·.1)).Nodup := by
  induction l with
  | nil => exact hn
  | cons r t ih =>
    obtain ⟨k, x⟩ := r
    simp only [List.map_cons, List.nodup_cons] at hn
    simp only [ren]
    split
    · simp only [List.map_cons, List.nodup_cons]
      refine ⟨fun h => ?_, hn.2⟩
      obtain ⟨q, hq, e⟩ := List.mem_map.1 h
      exact hp q (List.mem_cons_of_mem _ hq) e
    · simp only [List.map_cons, List.nodup_cons]
      refine ⟨fun h => ?_, ih hn.2 fun q hq => hp q (List.mem_cons_of_mem _ hq)⟩
      obtain ⟨q, hq, e⟩ := List.mem_map.1 h
      rcases mem_ren hn.2 hq with rfl | ⟨h1, _⟩
      · exact hp (k, x) List.mem_cons_self e.symm
      · refine hn.1 ?_
        rw [← e]; exact List.mem_map_of_mem h1

/-- A growing slice is cut: its row under another name. -/
theorem Rel.cut {g : Gh} {S : St} {w : World} (h : Rel w0 g S w) {l s : Nat} {xs : List DV} (hl : lk S.acc l = some (.arr s xs)) {n : Nat} (hn : n ≤ xs.length) {a : Option Addr} {c : Nat} (hv : g.acc l xs.length = some (.slice a xs.length c)) :
    ∃ l' g', g.le g' ∧ (∀ p, p ∈ S.acc → p.1 ≠ l') ∧ Rel w0 g' ⟨S.box, ren S.acc l (l', .arr s (xs.take n))⟩ w ∧ Rep g' (.acc l' n) (.slice a n c) := by
  obtain ⟨ow, h⟩ := h.open_
  have hmem := lk_mem hl
  obtain ⟨m, hm'⟩ := h.fresh
  have hne : ∀ p, p ∈ S.acc → p.1 ≠ m := by
    rintro ⟨l', o'⟩ hp rfl
    obtain ⟨u, hu⟩ := (h.acc _ _ hp).has
    rw [hm' _ _ (Nat.le_refl _)] at hu; cases hu
  have htl : (xs.take n).length = n := by simp; omega
  have hle : g.le (g.setAcc m n (.slice a n c)) := Gh.le_setAcc (.inl (hm' _ _ (Nat.le_refl _)))
  have hself : (g.setAcc m n (.slice a n c)).acc m n = some (.slice a n c) := by simp [Gh.setAcc]
  have hlm : l ≠ m := hne _ hmem
  refine ⟨m, g.setAcc m n (.slice a n c), hle, hne, RelO.close (ow := fun x => if ow x = some (.a l) then some (.a m) else ow x) ⟨h.below, h.imm, h.nb, nodup_ren h.na hne, ?_, ?_, ?_, ?_, ?_, ?_⟩, .acc _ _ _ _ hself⟩
  · intro l' n' u hu
    simp only [Gh.setAcc] at hu
    split at hu
    · rename_i e
      obtain ⟨rfl, rfl⟩ := e
      obtain ⟨o', c', q1, q2⟩ := h.accw _ _ _ hv
      simp only [Value.slice.injEq, true_and] at q1
      refine ⟨_, _, (Option.some.inj hu).symm, ?_⟩
      rcases q2 with q2 | q2
      · exact .inl (by omega)
      · exact .inr (by rw [q1.1]; exact q2)
    · exact h.accw _ _ _ hu
  · refine ⟨m + 1, fun l' n' hl' => ?_⟩
    simp only [Gh.setAcc]
    rw [if_neg (by omega)]
    exact hm' _ _ (by omega)
  · intro l' o' hl' k hk
    simp only [Gh.setAcc]
    rcases mem_ren h.na hl' with e | ⟨hm2, hne2⟩
    · simp only [Prod.mk.injEq] at e
      obtain ⟨rfl, rfl⟩ := e
      simp only [Ob.len, htl] at hk
      rw [if_neg (by omega)]
      exact hm' _ _ (Nat.le_refl _)
    · rw [if_neg (fun e => hne _ hm2 e.1)]
      exact h.top _ _ hm2 k hk
  · intro b' ds hb'
    refine (h.box b' ds hb').step hle fun ho => ⟨?_, rfl, fun _ hi => hi⟩
    rw [if_neg (by rw [ho]; simp)]
    exact ho
  · intro l' o' hl'
    rcases mem_ren h.na hl' with e | ⟨hm2, hne2⟩
    · simp only [Prod.mk.injEq] at e
      obtain ⟨rfl, rfl⟩ := e
      obtain ⟨hs, ⟨he, o, ha⟩ | ⟨b', c', cs', e', h1, h2, h3, h4, h5, h6, h7, h8, us', h9, h10, h11, h12⟩⟩ := h.acc l _ hmem
      · subst he
        have hn0 : n = 0 := by simpa using hn
        subst hn0
        rw [show ([] : List DV).length = 0 from rfl, ha] at hv
        simp only [Option.some.injEq, Value.slice.injEq, true_and] at hv
        obtain ⟨rfl, rfl⟩ := hv
        exact ⟨hs, .inl ⟨rfl, _, hself⟩⟩
      · rw [hv] at h1
        simp only [Option.some.injEq, Value.slice.injEq, true_and] at h1
        obtain ⟨rfl, rfl⟩ := h1
        refine ⟨hs, .inr ⟨b', _, cs', e', by rw [htl]; exact hself, if_pos h2, h3, h4, h5, h6, by omega, h8, us'.take n, (h9.mono hle).take n, fun i u hi => ?_, fun u hu => h11 u (List.mem_of_mem_take hu), fun i u j x hi hj => ?_⟩⟩
        · rw [List.getElem?_take] at hi
          split at hi
          · exact h10 i u hi
          · cases hi
        · rw [List.getElem?_take] at hi
          split at hi
          · exact h12 i u j x hi hj
          · cases hi
    · refine (h.acc l' o' hm2).step hle fun b' ho => ⟨?_, rfl, fun _ hi => hi⟩
      rw [if_neg (by rw [ho]; simp; exact hne2)]
      exact ho
  · intro b' q hq
    split at hq
    · rename_i e; exact h.owb _ _ e
    · exact h.owb _ _ hq
end
end Aml
