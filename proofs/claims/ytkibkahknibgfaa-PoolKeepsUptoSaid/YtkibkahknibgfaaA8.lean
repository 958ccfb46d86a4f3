/-
  How the relation survives what is made and written. By an AI agent.
-/
import Derived.Test.YtkibkahknibgfaaA7
namespace Aml
open Go Go.RowKit
set_option linter.unusedVariables false
set_option linter.unusedSimpArgs false

def Gh.setImm (g : Gh) (b : Nat) (f : Nat → Option Value) : Gh := { g with imm := fun b' i => if b' = b then f i else g.imm b' i }
def Gh.setAcc (g : Gh) (l n : Nat) (u : Value) : Gh := { g with acc := fun l' n' => if l' = l ∧ n' = n then some u else g.acc l' n' }
theorem Gh.le_setImm {g : Gh} {b : Nat} {f : Nat → Option Value} (h : ∀ i u, g.imm b i = some u → f i = some u) : g.le (g.setImm b f) :=
  ⟨fun b' i u hu => by simp only [Gh.setImm]; split <;> simp_all, fun _ _ _ hu => hu⟩
theorem Gh.le_setAcc {g : Gh} {l n : Nat} {u : Value} (h : g.acc l n = none ∨ g.acc l n = some u) : g.le (g.setAcc l n u) :=
  ⟨fun _ _ _ hu => hu, fun l' n' u' hu => by
    simp only [Gh.setAcc]
    split
    · rename_i e; obtain ⟨rfl, rfl⟩ := e; rcases h with h | h <;> simp_all
    · exact hu⟩

/-- The first cells of a row of values. -/
def fl (us : List Value) : List Value := us.flatMap fun u => u.cells.toList
theorem fl_length {s : Nat} : ∀ {us : List Value}, (∀ (i : Nat) (u : Value), us[i]? = some u → u.cells.size = s) → (fl us).length = us.length * s
  | [], _ => by simp [fl]
  | u :: us, h => by
    have h0 := h 0 u (by simp)
    have ih := fl_length (us := us) (s := s) fun i v hv => h (i + 1) v (by simpa using hv)
    simp only [fl, List.flatMap_cons, List.length_append, List.length_cons] at ih ⊢
    rw [ih]
    simp [h0, Nat.succ_mul, Nat.add_comm]
theorem fl_inv {s : Nat} : ∀ {us : List Value}, (∀ (i : Nat) (u : Value), us[i]? = some u → u.cells.size = s) → ∀ {k : Nat} {v : Value}, (fl us)[k]? = some v → ∃ (i : Nat) (u : Value) (j : Nat), us[i]? = some u ∧ u.cells[j]? = some v ∧ k = i * s + j
  | [], _, k, v, h => by simp [fl] at h
  | u :: us, hz, k, v, h => by
    have h0 := hz 0 u (by simp)
    simp only [fl, List.flatMap_cons] at h
    by_cases hk : k < u.cells.toList.length
    · rw [List.getElem?_append_left hk] at h
      exact ⟨0, u, k, by simp, by simpa using h, by simp⟩
    · rw [List.getElem?_append_right (by omega)] at h
      obtain ⟨i, u', j, h1, h2, h3⟩ := fl_inv (us := us) (s := s) (fun i v hv => hz (i + 1) v (by simpa using hv)) h
      refine ⟨i + 1, u', j, by simpa using h1, h2, ?_⟩
      have : u.cells.toList.length = s := by simpa using h0
      rw [Nat.succ_mul]
      omega
theorem fl_at {s : Nat} : ∀ {us : List Value}, (∀ (i : Nat) (u : Value), us[i]? = some u → u.cells.size = s) → ∀ {i : Nat} {u : Value} {j : Nat} {v : Value}, us[i]? = some u → u.cells[j]? = some v → (fl us)[i * s + j]? = some v
  | [], _, i, u, j, v, h, _ => by simp at h
  | u0 :: us, hz, i, u, j, v, h, hj => by
    have h0 := hz 0 u0 (by simp)
    have hl : u0.cells.toList.length = s := by simpa using h0
    simp only [fl, List.flatMap_cons]
    cases i with
    | zero =>
      simp at h
      subst h
      have : j < u0.cells.toList.length := by simpa using (Array.getElem?_eq_some_iff.1 hj).1
      rw [Nat.zero_mul, Nat.zero_add, List.getElem?_append_left this]
      simpa using hj
    | succ i =>
      have := fl_at (us := us) (s := s) (fun i v hv => hz (i + 1) v (by simpa using hv)) (i := i) (by simpa using h) hj
      rw [List.getElem?_append_right (by rw [hl, Nat.succ_mul]; omega), hl]
      rw [show (i + 1) * s + j - s = i * s + j by rw [Nat.succ_mul]; omega]
      exact this
theorem fl_one {us : List Value} (h : ∀ (u : Value), u ∈ us → ∀ x, x ∈ u.cells.toList → x.oneCell' = true) : ∀ x, x ∈ fl us → x.oneCell' = true := by
  intro x hx
  obtain ⟨u, hu, hx⟩ := List.mem_flatMap.1 hx
  exact h u hu x hx

section
variable {P : Program} {w0 : World}

theorem AccOk.step {ow ow' : Nat → Option Key} {B : Nat} {g g' : Gh} {w w' : World} {l : Nat} {o : Ob} (h : AccOk ow B g w l o) (hg : g.le g')
    (how : ∀ b, ow b = some (.a l) → ow' b = some (.a l) ∧ w'.heap[b]? = w.heap[b]? ∧ ∀ i, g.imm b i = none → g'.imm b i = none) : AccOk ow' B g' w' l o := by
  cases o with
  | arr s xs =>
    obtain ⟨hs, ⟨he, o, ha⟩ | ⟨b, c, cs, e, h1, h2, h3, h4, h5, h6, h7, h8, us, h9, h10, h11, h12⟩⟩ := h
    · exact ⟨hs, .inl ⟨he, o, hg.acc _ _ _ ha⟩⟩
    · obtain ⟨q1, q2, q3⟩ := how b h2
      exact ⟨hs, .inr ⟨b, c, cs, e, hg.acc _ _ _ h1, q1, h3, fun i => q3 i (h4 i), by rw [q2]; exact h5, h6, h7, h8, us, h9.mono hg, h10, h11, h12⟩⟩
  | tl s xs =>
    obtain ⟨hs, ⟨u, ha, r⟩ | ⟨b, c, cs, e, h1, h2, h3, h4, h5, h6, h7, h8, h9⟩⟩ := h
    · exact ⟨hs, .inl ⟨u, hg.acc _ _ _ ha, r.mono hg⟩⟩
    · obtain ⟨q1, q2, q3⟩ := how b h2
      exact ⟨hs, .inr ⟨b, c, cs, e, hg.acc _ _ _ h1, q1, h3, fun i hi => q3 i (h4 i hi), by rw [q2]; exact h5, h6, h7, h8, h9.mono hg⟩⟩

def BoxOk (ow : Nat → Option Key) (B : Nat) (g : Gh) (w : World) (b : Nat) (ds : List DV) : Prop :=
  ow b = some (.b b) ∧ B ≤ b ∧ (∀ i, g.imm b i = none) ∧ ∃ us e, w.heap[b]? = some (.cells us e (0, 0)) ∧ RepL g ds us.toList ∧ ∀ u, u ∈ us.toList → u.oneCell' = true
theorem BoxOk.step {ow ow' : Nat → Option Key} {B : Nat} {g g' : Gh} {w w' : World} {b : Nat} {ds : List DV} (h : BoxOk ow B g w b ds) (hg : g.le g')
    (how : ow b = some (.b b) → ow' b = some (.b b) ∧ w'.heap[b]? = w.heap[b]? ∧ ∀ i, g.imm b i = none → g'.imm b i = none) : BoxOk ow' B g' w' b ds := by
  obtain ⟨h1, h2, h3, us, e, h4, h5, h6⟩ := h
  obtain ⟨q1, q2, q3⟩ := how h1
  exact ⟨q1, h2, fun i => q3 i (h3 i), us, e, by rw [q2]; exact h4, h5.mono hg, h6⟩

theorem lt_of_heap {w : World} {b : Nat} {o : Obj} (h : w.heap[b]? = some o) : b < w.heap.size := (Array.getElem?_eq_some_iff.1 h).1

/-- The relation with its owners laid open. -/
structure RelO (w0 : World) (ow : Nat → Option Key) (g : Gh) (S : St) (w : World) : Prop where
  below : Below w0.heap.size w0 w
  imm : ∀ b i u, g.imm b i = some u → w.cell? ⟨b, i, none⟩ = some u
  nb : (S.box.map (·.1)).Nodup
  na : (S.acc.map (·.1)).Nodup
  accw : ∀ l n u, g.acc l n = some u → ∃ o c, u = .slice o n c ∧ (n = 0 ∨ ∃ b q, o = some ⟨b, q, none⟩)
  fresh : ∃ m, ∀ l n, m ≤ l → g.acc l n = none
  top : ∀ l o, (l, o) ∈ S.acc → ∀ k, o.len < k → g.acc l k = none
  box : ∀ b ds, (b, ds) ∈ S.box → BoxOk ow w0.heap.size g w b ds
  acc : ∀ l o, (l, o) ∈ S.acc → AccOk ow w0.heap.size g w l o
  owb : ∀ b k, ow b = some k → b < w.heap.size

theorem Rel.open_ {g : Gh} {S : St} {w : World} (h : Rel w0 g S w) : ∃ ow, RelO w0 ow g S w := by
  obtain ⟨ow, h1, h2⟩ := h.own
  refine ⟨fun b => if b < w.heap.size then ow b else none, h.below, h.imm, h.nb, h.na, h.accw, h.fresh, h.top, fun b ds hb => ?_, fun l o ho => ?_, fun b k hk => ?_⟩
  · have := h1 b ds hb
    have hlt : b < w.heap.size := by obtain ⟨_, _, _, us, e, hh, _⟩ := this; exact lt_of_heap hh
    exact BoxOk.step (ow := ow) (g := g) (w := w) this (.refl g) fun ho => ⟨(if_pos hlt).trans ho, rfl, fun i hi => hi⟩
  · have := h2 l o ho
    cases o with
    | arr s xs =>
      obtain ⟨hs, ⟨he, o, ha⟩ | ⟨b, c, cs, e, q1, q2, q3, q4, q5, q6⟩⟩ := this
      · exact ⟨hs, .inl ⟨he, o, ha⟩⟩
      · exact ⟨hs, .inr ⟨b, c, cs, e, q1, (if_pos (lt_of_heap q5)).trans q2, q3, q4, q5, q6⟩⟩
    | tl s xs =>
      obtain ⟨hs, h | ⟨b, c, cs, e, q1, q2, q3, q4, q5, q6⟩⟩ := this
      · exact ⟨hs, .inl h⟩
      · exact ⟨hs, .inr ⟨b, c, cs, e, q1, (if_pos (lt_of_heap q5)).trans q2, q3, q4, q5, q6⟩⟩
  · split at hk
    · assumption
    · cases hk
theorem RelO.close {ow : Nat → Option Key} {g : Gh} {S : St} {w : World} (h : RelO w0 ow g S w) : Rel w0 g S w :=
  ⟨h.below, h.imm, h.nb, h.na, h.accw, h.fresh, h.top, ow, h.box, h.acc⟩

/-- New blocks, draws: what was there stays. -/
theorem RelO.grow {ow : Nat → Option Key} {g : Gh} {S : St} {w w' : World} (h : RelO w0 ow g S w) (k : Below w.heap.size w w') : RelO w0 ow g S w' where
  below := h.below.trans (k.mono h.below.size)
  imm := fun b i u hu => (k.cell (p := ⟨b, i, none⟩) (World.block_lt_of_cell? w _ (h.imm b i u hu))).trans (h.imm b i u hu)
  nb := h.nb
  na := h.na
  accw := h.accw
  fresh := h.fresh
  top := h.top
  box := fun b ds hb => (h.box b ds hb).step (.refl g) fun ho => ⟨ho, k.block b (h.owb _ _ ho), fun _ hi => hi⟩
  acc := fun l o ho => (h.acc l o ho).step (.refl g) fun b hb => ⟨hb, k.block b (h.owb _ _ hb), fun _ hi => hi⟩
  owb := fun b k' hb => Nat.lt_of_lt_of_le (h.owb b k' hb) k.size

theorem Rel.grow {g : Gh} {S : St} {w w' : World} (h : Rel w0 g S w) (k : Below w.heap.size w w') : Rel w0 g S w' :=
  let ⟨_, h⟩ := h.open_
  (h.grow k).close

/-- A block that nobody owns becomes known for good. -/
theorem RelO.learn {ow : Nat → Option Key} {g : Gh} {S : St} {w : World} (h : RelO w0 ow g S w) {b e : Nat} {cs : Array Value} {fr : Nat × Nat} (hb : w.heap[b]? = some (.cells cs e fr)) (ho : ow b = none) : RelO w0 ow (g.setImm b fun i => cs[i]?) S w where
  below := h.below
  imm := fun b' i u hu => by
    simp only [Gh.setImm] at hu
    split at hu
    · rename_i e; subst e; rw [cells_at hb]; exact hu
    · exact h.imm _ _ _ hu
  nb := h.nb
  na := h.na
  accw := h.accw
  fresh := h.fresh
  top := h.top
  box := fun b' ds hb' => (h.box b' ds hb').step (Gh.le_setImm fun i u hu => by have := h.imm _ _ _ hu; rw [cells_at hb] at this; exact this) fun ho' => ⟨ho', rfl, fun i hi => by
    simp only [Gh.setImm]; split
    · rename_i e; rw [e, ho] at ho'; cases ho'
    · exact hi⟩
  acc := fun l o hl => (h.acc l o hl).step (Gh.le_setImm fun i u hu => by have := h.imm _ _ _ hu; rw [cells_at hb] at this; exact this) fun b' ho' => ⟨ho', rfl, fun i hi => by
    simp only [Gh.setImm]; split
    · rename_i e; rw [e, ho] at ho'; cases ho'
    · exact hi⟩
  owb := h.owb

/-- A new block whose cells never change. -/
theorem Rel.newImm {g : Gh} {S : St} {w w' : World} (h : Rel w0 g S w) (k : Below w.heap.size w w') {b e : Nat} {cs : Array Value} {fr : Nat × Nat} (hge : w.heap.size ≤ b) (hb : w'.heap[b]? = some (.cells cs e fr)) :
    g.le (g.setImm b fun i => cs[i]?) ∧ Rel w0 (g.setImm b fun i => cs[i]?) S w' := by
  obtain ⟨ow, h⟩ := h.open_
  have hn : ow b = none := by
    cases ho : ow b with
    | none => rfl
    | some q => have := h.owb b q ho; omega
  have h' := h.grow k
  exact ⟨Gh.le_setImm fun i u hu => by have := h'.imm _ _ _ hu; rw [cells_at hb] at this; exact this, (h'.learn hb hn).close⟩

/-- A new block as a box. -/
theorem Rel.newBox {g : Gh} {S : St} {w w' : World} (h : Rel w0 g S w) (k : Below w.heap.size w w') {b e : Nat} {us : Array Value} (hge : w.heap.size ≤ b) (hb : w'.heap[b]? = some (.cells us e (0, 0))) {ds : List DV}
    (hr : RepL g ds us.toList) (h1 : ∀ u, u ∈ us.toList → u.oneCell' = true) : (∀ p, p ∈ S.box → p.1 ≠ b) ∧ Rel w0 g ⟨(b, ds) :: S.box, S.acc⟩ w' := by
  obtain ⟨ow, h⟩ := h.open_
  have hn : ow b = none := by
    cases ho : ow b with
    | none => rfl
    | some q => have := h.owb b q ho; omega
  have h' := h.grow k
  have hne : ∀ p, p ∈ S.box → p.1 ≠ b := by
    rintro ⟨b', ds'⟩ hp rfl
    have := (h.box _ _ hp).1
    simp only at hn this
    rw [hn] at this; cases this
  refine ⟨hne, RelO.close (ow := fun x => if x = b then some (.b b) else ow x) ⟨h'.below, h'.imm, ?_, h'.na, h'.accw, h'.fresh, h'.top, ?_, ?_, ?_⟩⟩
  · simp only [List.map_cons, List.nodup_cons]
    refine ⟨fun hm => ?_, h'.nb⟩
    obtain ⟨p, hp, e⟩ := List.mem_map.1 hm
    exact hne p hp e
  · intro b' ds' hm
    rcases List.mem_cons.1 hm with e | hm
    · simp only [Prod.mk.injEq] at e
      obtain ⟨rfl, rfl⟩ := e
      refine ⟨by simp, Nat.le_trans h.below.size hge, fun i => ?_, us, e, hb, hr, h1⟩
      cases hi : g.imm b' i with
      | none => rfl
      | some u => have := World.block_lt_of_cell? w _ (h.imm _ _ _ hi); simp at this; omega
    · refine (h'.box b' ds' hm).step (.refl g) fun ho => ⟨?_, rfl, fun _ hi => hi⟩
      split
      · rename_i e; subst e; exact absurd (hn.symm.trans ho) (by simp)
      · exact ho
  · intro l o hl
    refine (h'.acc l o hl).step (.refl g) fun b' ho => ⟨?_, rfl, fun _ hi => hi⟩
    split
    · rename_i e; subst e; exact absurd (hn.symm.trans ho) (by simp)
    · exact ho
  · intro b' q hq
    split at hq
    · rename_i e; subst e; exact lt_of_heap hb
    · exact h'.owb _ _ hq

/-- A box is written. -/
theorem Rel.setBox {g : Gh} {S : St} {w : World} (h : Rel w0 g S w) {b : Nat} {ds ds' : List DV} (hb : lk S.box b = some ds) :
    ∃ us e, w.heap[b]? = some (.cells us e (0, 0)) ∧ RepL g ds us.toList ∧ (∀ u, u ∈ us.toList → u.oneCell' = true) ∧
      ∀ us' : Array Value, RepL g ds' us'.toList → (∀ u, u ∈ us'.toList → u.oneCell' = true) → Rel w0 g ⟨up S.box b ds', S.acc⟩ (w.setRow b us') := by
  obtain ⟨ow, h⟩ := h.open_
  have hm := lk_mem hb
  obtain ⟨o1, o2, o3, us, e, hh, hr, hone⟩ := h.box b ds hm
  refine ⟨us, e, hh, hr, hone, fun us' hr' hone' => RelO.close (ow := ow) ⟨?_, ?_, ?_, h.na, h.accw, h.fresh, h.top, ?_, ?_, ?_⟩⟩
  · exact h.below.trans ⟨rfl, rfl, rfl, by simp, fun k hk => setRow_other w b k us' (by omega)⟩
  · intro b' i u hu
    have hne : b' ≠ b := by rintro rfl; rw [o3] at hu; cases hu
    rw [cell_setRow_other w b us' _ hne]
    exact h.imm _ _ _ hu
  · rw [map_up]; exact h.nb
  · intro b' ds'' hm'
    rcases mem_up h.nb hm' with e' | ⟨hm', hne⟩
    · simp only [Prod.mk.injEq] at e'
      obtain ⟨rfl, rfl⟩ := e'
      exact ⟨o1, o2, o3, us', e, setRow_heap w b' us us' e (0, 0) hh, hr', hone'⟩
    · exact (h.box _ _ hm').step (.refl g) fun ho => ⟨ho, setRow_other w b b' us' hne, fun _ hi => hi⟩
  · intro l o hl
    refine (h.acc l o hl).step (.refl g) fun b' ho => ⟨ho, setRow_other w b b' us' ?_, fun _ hi => hi⟩
    rintro rfl
    rw [o1] at ho; cases ho
  · intro b' q hq; simpa using h.owb b' q hq

/-- What is left of the store when parts are forgotten. -/
theorem Rel.forget {g : Gh} {S S' : St} {w : World} (h : Rel w0 g S w) (hb : S'.box.Sublist S.box) (ha : S'.acc.Sublist S.acc) : Rel w0 g S' w := by
  obtain ⟨ow, h1, h2⟩ := h.own
  exact ⟨h.below, h.imm, h.nb.sublist (hb.map _), h.na.sublist (ha.map _), h.accw, h.fresh, fun l o hl => h.top l o (ha.subset hl), ow, fun b ds hm => h1 b ds (hb.subset hm), fun l o hm => h2 l o (ha.subset hm)⟩
end
end Aml
