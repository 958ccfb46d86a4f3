/-
  Growing slices: how they come to be, grow, are written and frozen. By an AI agent.
-/
import Derived.Test.YtkibkahknibgfaaA8
namespace Aml
open Go Go.RowKit
set_option linter.unusedVariables false
set_option linter.unusedSimpArgs false

section
variable {w0 : World}

theorem rep_full_nil {g : Gh} {s : Nat} {u : Value} (r : Rep g (.sl s true []) u) : ∃ o, u = .slice o 0 0 := by
  rcases rep_sl r with ⟨_, o, c, hv, hf⟩ | ⟨b, o, c, us, hv, _, hf, _⟩
  · exact ⟨o, by rw [hv, hf rfl]⟩
  · exact ⟨_, by rw [hv, hf rfl]; rfl⟩
theorem AccOk.has {ow : Nat → Option Key} {B : Nat} {g : Gh} {w : World} {l : Nat} {o : Ob} (h : AccOk ow B g w l o) : ∃ u, g.acc l o.len = some u := by
  cases o with
  | arr s xs =>
    obtain ⟨_, ⟨he, o, ha⟩ | ⟨b, c, cs, e, h1, _⟩⟩ := h
    · exact ⟨_, by simpa [Ob.len, he] using ha⟩
    · exact ⟨_, h1⟩
  | tl s xs =>
    obtain ⟨_, ⟨u, ha, r⟩ | ⟨b, c, cs, e, h1, _⟩⟩ := h
    · exact ⟨_, ha⟩
    · exact ⟨_, h1⟩

/-- A slice without spare room begins to grow. -/
theorem Rel.newAcc {g : Gh} {S : St} {w : World} (h : Rel w0 g S w) {s : Nat} (hs : 0 < s) {xs : List DV} {u : Value} (r : Rep g (.sl s true xs) u) (o : Ob) (ho : o = .tl s xs ∨ (o = .arr s xs ∧ xs = [])) :
    ∃ l g', g.le g' ∧ (∀ p, p ∈ S.acc → p.1 ≠ l) ∧ Rel w0 g' ⟨S.box, (l, o) :: S.acc⟩ w ∧ Rep g' (.acc l xs.length) u := by
  obtain ⟨ow, h⟩ := h.open_
  obtain ⟨m, hm⟩ := h.fresh
  have hlen : o.len = xs.length := by rcases ho with rfl | ⟨rfl, _⟩ <;> rfl
  have hne : ∀ p, p ∈ S.acc → p.1 ≠ m := by
    rintro ⟨l, o'⟩ hp rfl
    obtain ⟨u, hu⟩ := (h.acc _ _ hp).has
    rw [hm _ _ (Nat.le_refl _)] at hu; cases hu
  obtain ⟨a, c, hu⟩ := rep_sl_len r
  have hle : g.le (g.setAcc m xs.length u) := Gh.le_setAcc (.inl (hm _ _ (Nat.le_refl _)))
  have hself : (g.setAcc m xs.length u).acc m xs.length = some u := by simp [Gh.setAcc]
  refine ⟨m, g.setAcc m xs.length u, hle, hne, RelO.close (ow := ow) ⟨h.below, h.imm, h.nb, ?_, ?_, ⟨m + 1, ?_⟩, ?_, ?_, ?_, h.owb⟩, ?_⟩
  · simp only [List.map_cons, List.nodup_cons]
    refine ⟨fun hm' => ?_, h.na⟩
    obtain ⟨p, hp, e⟩ := List.mem_map.1 hm'
    exact hne p hp e
  · intro l n v hv
    simp only [Gh.setAcc] at hv
    split at hv
    · rename_i e
      obtain ⟨rfl, rfl⟩ := e
      simp only [Option.some.injEq] at hv
      subst hv
      rcases rep_sl r with ⟨he, o', c', hv', _⟩ | ⟨b, o', c', us, hv', _⟩
      · exact ⟨o', c', by rw [hv', he]; rfl, .inl (by rw [he]; rfl)⟩
      · exact ⟨_, _, hv', .inr ⟨b, o', rfl⟩⟩
    · exact h.accw _ _ _ hv
  · intro l n hl
    simp only [Gh.setAcc]
    split
    · rename_i e; omega
    · exact hm _ _ (by omega)
  · intro l o' hl k hk
    rcases List.mem_cons.1 hl with e | hl
    · simp only [Prod.mk.injEq] at e
      obtain ⟨rfl, rfl⟩ := e
      simp only [Gh.setAcc]
      rw [if_neg (by omega)]
      exact hm _ _ (Nat.le_refl _)
    · have := hne _ hl
      simp only [Gh.setAcc]
      rw [if_neg (fun e => this e.1)]
      exact h.top _ _ hl k hk
  · intro b ds hb; exact (h.box b ds hb).step hle fun x => ⟨x, rfl, fun _ hi => hi⟩
  · intro l o' hl
    rcases List.mem_cons.1 hl with e | hl
    · simp only [Prod.mk.injEq] at e
      obtain ⟨rfl, rfl⟩ := e
      rcases ho with rfl | ⟨rfl, rfl⟩
      · exact ⟨hs, .inl ⟨u, hself, r.mono hle⟩⟩
      · obtain ⟨o'', ho''⟩ := rep_full_nil r
        exact ⟨hs, .inl ⟨rfl, o'', by rw [← ho'']; exact hself⟩⟩
    · exact (h.acc l o' hl).step hle fun b x => ⟨x, rfl, fun _ hi => hi⟩
  · have r' := hself
    rw [hu] at r' ⊢
    exact .acc _ _ _ _ r'

/-- What an object of this make holds: exclusive or only its tail. -/
def mkO (ex : Bool) (s : Nat) (xs : List DV) : Ob := if ex then .arr s xs else .tl s xs
theorem mkO_len (ex : Bool) (s : Nat) (xs : List DV) : (mkO ex s xs).len = xs.length := by cases ex <;> rfl

/-- A growing slice lies in a row, anew or still. -/
theorem RelO.regrow {ow : Nat → Option Key} {g : Gh} {S : St} {w w' : World} (h : RelO w0 ow g S w) {l s : Nat} (hs : 0 < s) {o : Ob} (hl : lk S.acc l = some o) (ex : Bool) {xs : List DV} {us : List Value}
    {b c e : Nat} {cs : Array Value} (hlt : o.len < xs.length) (hw : w0.heap.size ≤ b) (hob : ow b = some (.a l) ∨ w.heap.size ≤ b) (hh : w'.heap[b]? = some (.cells cs e (0, 0))) (hsz : cs.size = c * s) (hn : xs.length ≤ c) (hm : c ≤ maxLen)
    (hr : RepL g xs us) (hz : ∀ (i : Nat) (u : Value), us[i]? = some u → u.cells.size = s) (hone : ∀ (u : Value), u ∈ us → ∀ x, x ∈ u.cells.toList → x.oneCell' = true)
    (hc : ∀ (i : Nat) (u : Value) (j : Nat) (x : Value), us[i]? = some u → u.cells[j]? = some x → cs[i * s + j]? = some x)
    (himm : ∀ i u, g.imm b i = some u → ex = false ∧ i < xs.length * s ∧ cs[i]? = some u)
    (hbel : Below w0.heap.size w0 w') (hsize : w.heap.size ≤ w'.heap.size) (hsame : ∀ k, k < w.heap.size → k ≠ b → w'.heap[k]? = w.heap[k]?) :
    ∃ g', g.le g' ∧ Rel w0 g' ⟨S.box, up S.acc l (mkO ex s xs)⟩ w' ∧ Rep g' (.acc l xs.length) (.slice (some ⟨b, 0, none⟩) xs.length c) := by
  have hmem := lk_mem hl
  let g1 := g.setAcc l xs.length (.slice (some ⟨b, 0, none⟩) xs.length c)
  let g' := if ex then g1 else g1.setImm b fun i => if i < xs.length * s then cs[i]? else none
  have hle1 : g.le g1 := Gh.le_setAcc (.inl (h.top _ _ hmem _ hlt))
  have hle : g.le g' := by
    show g.le (if ex then g1 else g1.setImm b fun i => if i < xs.length * s then cs[i]? else none)
    cases ex
    · refine hle1.trans (Gh.le_setImm fun i u hu => ?_)
      obtain ⟨_, h1, h2⟩ := himm i u hu
      rw [if_pos h1]; exact h2
    · exact hle1
  have hacc : ∀ l' n', g'.acc l' n' = g1.acc l' n' := by intro l' n'; show (if ex then g1 else _).acc l' n' = _; cases ex <;> rfl
  have himm' : ∀ b' i, b' ≠ b → g'.imm b' i = g.imm b' i := by
    intro b' i hne
    show (if ex then g1 else g1.setImm b fun i => if i < xs.length * s then cs[i]? else none).imm b' i = _
    cases ex
    · simp [Gh.setImm, hne, g1, Gh.setAcc]
    · rfl
  have hself : g'.acc l xs.length = some (.slice (some ⟨b, 0, none⟩) xs.length c) := by rw [hacc]; simp [g1, Gh.setAcc]
  have hnob : ∀ b', b' ≠ b → b' < w.heap.size → w'.heap[b']? = w.heap[b']? := fun b' h1 h2 => hsame b' h2 h1
  have hbne : ∀ b' q, ow b' = some q → q ≠ .a l → b' ≠ b := by
    rintro b' q hq hne rfl
    rcases hob with ho | ho
    · rw [ho] at hq; exact hne (Option.some.inj hq).symm
    · have := h.owb _ _ hq; omega
  refine ⟨g', hle, RelO.close (ow := fun x => if x = b then some (.a l) else ow x) ⟨hbel, ?_, h.nb, ?_, ?_, ?_, ?_, ?_, ?_, ?_⟩, .acc _ _ _ _ hself⟩
  · intro b' i u hu
    by_cases hb' : b' = b
    · subst hb'
      rw [cells_at hh]
      have hu' : (if ex then g1 else g1.setImm b' fun i => if i < xs.length * s then cs[i]? else none).imm b' i = some u := hu
      cases ex
      · simp only [Bool.false_eq_true, if_false, Gh.setImm, if_true] at hu'
        split at hu'
        · exact hu'
        · cases hu'
      · have := himm i u hu'
        exact absurd this.1 (by simp)
    · rw [himm' b' i hb'] at hu
      have h1 := h.imm _ _ _ hu
      have hblt := World.block_lt_of_cell? w _ h1
      have := World.cell?_of_block (w := w) (w' := w') (a := ⟨b', i, none⟩) (hnob b' hb' hblt)
      rw [this]; exact h1
  · rw [map_up]; exact h.na
  · intro l' n v hv
    rw [hacc] at hv
    simp only [g1, Gh.setAcc] at hv
    split at hv
    · rename_i e
      obtain ⟨rfl, rfl⟩ := e
      exact ⟨_, _, (Option.some.inj hv).symm, .inr ⟨b, 0, rfl⟩⟩
    · exact h.accw _ _ _ hv
  · obtain ⟨m, hm'⟩ := h.fresh
    obtain ⟨u, hu⟩ := (h.acc _ _ hmem).has
    have hlm : l < m := by
      rcases Nat.lt_or_ge l m with h' | h'
      · exact h'
      · rw [hm' _ _ h'] at hu; cases hu
    refine ⟨m, fun l' n hl' => ?_⟩
    rw [hacc]
    simp only [g1, Gh.setAcc]
    rw [if_neg (by omega)]
    exact hm' _ _ hl'
  · intro l' o' hl' k hk
    rw [hacc]
    simp only [g1, Gh.setAcc]
    rcases mem_up h.na hl' with e | ⟨hm', hne⟩
    · simp only [Prod.mk.injEq] at e
      obtain ⟨rfl, rfl⟩ := e
      rw [mkO_len] at hk
      rw [if_neg (by omega)]
      exact h.top _ _ hmem k (by omega)
    · rw [if_neg (fun e => hne e.1)]
      exact h.top _ _ hm' k hk
  · intro b' ds hb'
    have hob' := (h.box _ _ hb').1
    have hne := hbne b' _ hob' (by simp)
    refine (h.box b' ds hb').step hle fun x => ⟨(if_neg hne).trans x, hnob b' hne (h.owb _ _ x), fun i hi => by rw [himm' b' i hne]; exact hi⟩
  · intro l' o' hl'
    rcases mem_up h.na hl' with e | ⟨hm', hne⟩
    · simp only [Prod.mk.injEq] at e
      obtain ⟨rfl, rfl⟩ := e
      cases hex : ex
      · refine ⟨hs, .inr ⟨b, c, cs, e, hself, if_pos rfl, hw, fun i hi => ?_, hh, hsz, hn, hm, ?_⟩⟩
        · show (if ex then g1 else g1.setImm b fun i => if i < xs.length * s then cs[i]? else none).imm b i = none
          rw [hex]
          simp only [Bool.false_eq_true, if_false, Gh.setImm, if_true]
          rw [if_neg (by omega)]
        · have hl2 : xs.length = us.length := hr.len
          have := Rep.sl (g := g') s false xs b 0 c us hl2 (by simp) (by omega) hm (hr.mono hle).at_ hz hone (fun i u j x h1 h2 => by
            show (if ex then g1 else g1.setImm b fun i => if i < xs.length * s then cs[i]? else none).imm b (0 + i * s + j) = some x
            rw [hex]
            simp only [Bool.false_eq_true, if_false, Gh.setImm, if_true, Nat.zero_add]
            have hi : i < us.length := (List.getElem?_eq_some_iff.1 h1).1
            have hj : j < s := by rw [← hz i u h1]; exact (Array.getElem?_eq_some_iff.1 h2).1
            have : i * s + j < xs.length * s := by
              have h3 : (i + 1) * s ≤ xs.length * s := Nat.mul_le_mul_right s (by omega)
              rw [Nat.succ_mul] at h3
              omega
            rw [if_pos this]
            exact hc i u j x h1 h2)
          rw [← hl2] at this
          exact this
      · refine ⟨hs, .inr ⟨b, c, cs, e, hself, if_pos rfl, hw, fun i => ?_, hh, hsz, hn, hm, us, hr.mono hle, hz, hone, hc⟩⟩
        show (if ex then g1 else g1.setImm b fun i => if i < xs.length * s then cs[i]? else none).imm b i = none
        rw [hex]
        cases hi : g.imm b i with
        | none => exact hi
        | some u => have := (himm i u hi).1; rw [hex] at this; cases this
    · refine (h.acc l' o' hm').step hle fun b' ho => ?_
      have hne' := hbne b' _ ho (by simp; exact hne)
      exact ⟨(if_neg hne').trans ho, hnob b' hne' (h.owb _ _ ho), fun i hi => by rw [himm' b' i hne']; exact hi⟩
  · intro b' q hq
    split at hq
    · rename_i e; subst e; exact lt_of_heap hh
    · exact Nat.lt_of_lt_of_le (h.owb _ _ hq) hsize
end
end Aml
