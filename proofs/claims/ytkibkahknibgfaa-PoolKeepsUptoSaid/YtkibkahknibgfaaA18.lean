/-
  Statements whose order Go leaves open: where each operation hands back one abstract value and leaves the store, every order serves. By an AI agent.
-/
import Derived.Test.YtkibkahknibgfaaA17
import Derived.Still
namespace Aml
open Go Go.RowKit
set_option linter.unusedVariables false
set_option linter.unusedSimpArgs false

/-- One abstract value, the store as it was. -/
def QY (P : Program) (w0 : World) (S : St) (o : Oper) (fr : List DV) (d : DV) : Prop := YieldsE P w0 o (ev fr) S fun d' S' => d' = d ∧ S' = S
/-- Is the operation wanted? -/
def wantB (ops : Array Oper) (fr : List DV) (gd : Option (Nat × Bool)) : Option Bool := match gd with
  | none => some true
  | some (j, want) => match (ops[j]?).bind (·.dst) with
    | none => some false
    | some t => match fr.getD t ud with
      | .v (.bool b) => some (b == want)
      | .tup [] => some false
      | _ => none
/-- The walk in the text's order. -/
def LQ (P : Program) (w0 : World) (S : St) (ops : Array Oper) (K : List DV → Prop) : List Oper → List DV → Prop
  | [], fr => K fr
  | o :: rest, fr => guardK ops fr o.guard (fun fr => ∃ d, QY P w0 S o fr d ∧ LQ P w0 S ops K rest (pt fr o.dst d)) (fun fr => LQ P w0 S ops K rest (pt fr o.dst ud))
def qOp (P : Program) (w0 : World) (S : St) (ops : Array Oper) (i : Nat) (K : List DV → Prop) (fr : List DV) : Prop :=
  match ops[i]? with
  | none => K fr
  | some o => (wantB ops fr o.guard = some true ∧ ∃ d, QY P w0 S o fr d ∧ K (pt fr o.dst d)) ∨ (wantB ops fr o.guard = some false ∧ K (pt fr o.dst ud))
def wpAnyD (P : Program) (w0 : World) (S : St) (md : Region.Mode) (ops : Array Oper) (K : List DV → Prop) : Nat → Array Bool → List DV → Prop
  | 0, listed, fr => Region.ready md ops listed = [] ∧ K fr
  | fuel + 1, listed, fr => (Region.ready md ops listed = [] → K fr) ∧ ∀ i ∈ Region.ready md ops listed, qOp P w0 S ops i (wpAnyD P w0 S md ops K fuel (listed.setIfInBounds i true)) fr
def YD (P : Program) (w0 : World) (S : St) (ops : Array Oper) (o : Oper) (d : DV) (fr : List DV) : Prop :=
  (wantB ops fr o.guard = some true ∧ QY P w0 S o fr d) ∨ (wantB ops fr o.guard = some false ∧ d = ud)

section
variable {P : Program} {w0 : World} {S : St} {ops : Array Oper} {md : Region.Mode}

theorem set_same {fr : List DV} {t : Nat} {d : DV} (h : fr.getD t ud = d) (hd : d ≠ ud) : fr.set t d = fr := by
  rcases Nat.lt_or_ge t fr.length with hl | hl
  · rw [List.getD_eq_getElem?_getD, List.getElem?_eq_getElem hl, Option.getD_some] at h
    rw [← h, List.set_getElem_self]
  · rw [List.getD_eq_getElem?_getD, List.getElem?_eq_none hl] at h
    exact absurd h.symm hd
theorem guardK_want {fr : List DV} {gd : Option (Nat × Bool)} {A B : List DV → Prop} (h : guardK ops fr gd A B) : (wantB ops fr gd = some true ∧ A fr) ∨ (wantB ops fr gd = some false ∧ B fr) := by
  unfold guardK at h
  unfold wantB
  split at h
  · exact .inl ⟨rfl, h⟩
  · rename_i j want
    split at h
    · rename_i hj
      exact .inr ⟨by simp only [hj], h⟩
    · rename_i t hj
      simp only [hj]
      split at h
      · rename_i b hb
        rw [hb]
        by_cases hw : b = want
        · have := h.1 hw
          rw [← hw, set_same hb (by simp [ud])] at this
          exact .inl ⟨by simp [hw], this⟩
        · have hw' : b = !want := by cases b <;> cases want <;> simp_all
          have := h.2 hw'
          rw [← hw', set_same hb (by simp [ud])] at this
          exact .inr ⟨by simp [hw], this⟩
      · rename_i hb
        rw [hb]
        exact .inr ⟨rfl, h⟩
      · exact h.elim
theorem want_guard {fr : List DV} {gd : Option (Nat × Bool)} {x : Bool} (h : wantB ops fr gd = some x) : guardK ops fr gd (fun _ => x = true) (fun _ => x = false) := by
  unfold wantB at h
  unfold guardK
  split at h
  · simpa using h.symm
  · rename_i j want
    split at h
    · rename_i hj; simp only [hj]; simpa using h.symm
    · rename_i t hj
      simp only [hj]
      split at h
      · rename_i b hb
        rw [hb]
        simp only [Option.some.injEq] at h
        exact ⟨fun e => by simp [← h, e], fun e => by simp [← h, e]⟩
      · rename_i hb; rw [hb]; simpa using h.symm
      · cases h
theorem wantB_sound {g : Gh} {fr : List DV} {a : Act} {o : Oper} {x : Bool} (hr : RepL g fr a.tmps.toList) (h : wantB ops fr o.guard = some x) : Region.wanted o (yielded ops a.tmps) = x := by
  rcases guard_sound (o := o) hr (want_guard h) with ⟨h1, _, _, h2⟩ | ⟨h1, _, _, h2⟩
  · rw [h1, h2]
  · rw [h1, h2]

theorem qOp_mono {i : Nat} {fr : List DV} {K K' : List DV → Prop} (h : ∀ fr, K fr → K' fr) (hh : qOp P w0 S ops i K fr) : qOp P w0 S ops i K' fr := by
  unfold qOp at *
  split
  · rename_i ho; simp only [ho] at hh; exact h _ hh
  · rename_i o ho
    simp only [ho] at hh
    rcases hh with ⟨h1, d, h2, h3⟩ | ⟨h1, h2⟩
    · exact .inl ⟨h1, d, h2, h _ h3⟩
    · exact .inr ⟨h1, h _ h2⟩
theorem YD.qOp {i : Nat} {o : Oper} {d : DV} {fr : List DV} (hi : ops[i]? = some o) (hy : YD P w0 S ops o d fr) {K : List DV → Prop} (h : K (pt fr o.dst d)) : qOp P w0 S ops i K fr := by
  unfold Aml.qOp
  simp only [hi]
  rcases hy with ⟨h1, h2⟩ | ⟨h1, rfl⟩
  · exact .inl ⟨h1, d, h2, h⟩
  · exact .inr ⟨h1, h⟩
theorem yd_of_qOp {i : Nat} {o : Oper} {fr : List DV} {K : List DV → Prop} (hi : ops[i]? = some o) (h : qOp P w0 S ops i K fr) : ∃ d, YD P w0 S ops o d fr ∧ K (pt fr o.dst d) := by
  unfold qOp at h
  simp only [hi] at h
  rcases h with ⟨h1, d, h2, h3⟩ | ⟨h1, h2⟩
  · exact ⟨d, .inl ⟨h1, h2⟩, h3⟩
  · exact ⟨ud, .inr ⟨h1, rfl⟩, h2⟩

theorem yields_congr {o : Oper} {ρD ρD' : Operand → DV} {K : DV → St → Prop} (h : ∀ x, x ∈ o.op.operands.toList → ρD x = ρD' x) (hy : YieldsE P w0 o ρD S K) : YieldsE P w0 o ρD' S K :=
  fun g w ρ h1 h2 h3 => hy g w ρ h1 (fun x hx => by rw [h x hx]; exact h2 x hx) h3
theorem getD_set {fr : List DV} {t t' : Nat} {d : DV} (h : t ≠ t') : (fr.set t d).getD t' ud = fr.getD t' ud := by
  simp only [List.getD_eq_getElem?_getD, List.getElem?_set, if_neg h]
theorem ev_put {fr : List DV} {dst : Option Tmp} {d : DV} {o : Oper} (h : ∀ t, dst = some t → t ∉ o.looksAt ops) : ∀ x, x ∈ o.op.operands.toList → ev (pt fr dst d) x = ev fr x := by
  intro x hx
  cases dst with
  | none => rfl
  | some t =>
    cases x with
    | tmp t' =>
      have : t ≠ t' := by
        rintro rfl
        exact h t rfl (List.mem_append_left _ (List.mem_filterMap.2 ⟨.tmp t, hx, rfl⟩))
      exact getD_set this
    | _ => rfl
theorem want_put {fr : List DV} {dst : Option Tmp} {d : DV} {o : Oper} (h : ∀ t, dst = some t → t ∉ o.looksAt ops) : wantB ops (pt fr dst d) o.guard = wantB ops fr o.guard := by
  cases dst with
  | none => rfl
  | some t =>
    unfold wantB
    cases hg : o.guard with
    | none => rfl
    | some gw =>
      obtain ⟨j, want⟩ := gw
      simp only
      cases ht : (ops[j]?).bind (·.dst) with
      | none => rfl
      | some t' =>
        have hne : t ≠ t' := fun e => h t rfl (by subst e; simp [Oper.looksAt, hg, ht])
        simp only [pt]
        rw [getD_set hne]
theorem pt_comm (fr : List DV) {x y : Option Tmp} (d e : DV) (h : ∀ t, x = some t → y ≠ some t) : pt (pt fr x d) y e = pt (pt fr y e) x d := by
  cases x with
  | none => rfl
  | some t =>
    cases y with
    | none => rfl
    | some u =>
      have hne : t ≠ u := fun he => h t rfl (he ▸ rfl)
      simp only [pt]
      exact List.set_comm _ _ hne
theorem YD.put {o : Oper} {d : DV} {fr : List DV} (hy : YD P w0 S ops o d fr) {dst : Option Tmp} {e : DV} (h : ∀ t, dst = some t → t ∉ o.looksAt ops) : YD P w0 S ops o d (pt fr dst e) := by
  unfold YD at *
  rw [want_put h]
  exact hy.imp (fun ⟨a, b⟩ => ⟨a, yields_congr (fun x hx => (ev_put (ops := ops) h x hx).symm) b⟩) id
theorem qOp_put {j : Nat} {oi oj : Oper} {d : DV} (hj : ops[j]? = some oj) (hap : oi.apart ops oj = true) {K : List DV → Prop} {fr : List DV} (hy : YD P w0 S ops oi d fr) (h : qOp P w0 S ops j K (pt fr oi.dst d)) :
    qOp P w0 S ops j (fun fr' => YD P w0 S ops oi d fr' ∧ K (pt fr' oi.dst d)) fr := by
  obtain ⟨h1, h2, h3⟩ := Oper.apart_spec hap
  unfold Aml.qOp at *
  simp only [hj] at *
  rw [want_put h1] at h
  rcases h with ⟨hw, e, hq, hk⟩ | ⟨hw, hk⟩
  · exact .inl ⟨hw, e, yields_congr (fun x hx => ev_put (ops := ops) h1 x hx) hq, hy.put h3, by rw [← pt_comm fr d e h2]; exact hk⟩
  · exact .inr ⟨hw, hy.put h3, by rw [← pt_comm fr d ud h2]; exact hk⟩

theorem wpAnyD_first {K : List DV → Prop} {i : Nat} {oi : Oper} {d : DV} (hi : ops[i]? = some oi) :
    ∀ (fuel : Nat) (listed : Array Bool) (fr : List DV),
      (∀ j oj, ops[j]? = some oj → j ≠ i → listed.getD j true = false → (∀ e ∈ oj.after, Region.binds md e = true → e.on ≠ i) → oi.apart ops oj = true) →
      i ∈ Region.ready md ops listed → YD P w0 S ops oi d fr →
      wpAnyD P w0 S md ops K fuel (listed.setIfInBounds i true) (pt fr oi.dst d) → wpAnyD P w0 S md ops K (fuel + 1) listed fr := by
  intro fuel
  induction fuel with
  | zero =>
    intro listed fr _ hr hy H
    refine ⟨fun h => (by rw [h] at hr; cases hr), fun j hj => ?_⟩
    by_cases hji : j = i
    · subst hji; exact hy.qOp hi H
    · have := ready_mono hj hji
      rw [H.1] at this
      cases this
  | succ fuel ih =>
    intro listed fr hfree hr hy H
    refine ⟨fun h => (by rw [h] at hr; cases hr), fun j hj => ?_⟩
    by_cases hji : j = i
    · subst hji; exact hy.qOp hi H
    · have h1 := H.2 j (ready_mono hj hji)
      obtain ⟨hjun, oj, hoj, hall⟩ := mem_ready.1 hj
      have hnot : ∀ e ∈ oj.after, Region.binds md e = true → e.on ≠ i := fun e he hb heq => by
        have h1 := hall e he hb
        have h0 := (mem_ready.1 hr).1
        rw [heq] at h1
        rcases Nat.lt_or_ge i listed.size with h' | h'
        · simp [h'] at h0 h1; rw [h0] at h1; cases h1
        · simp [Array.getElem?_eq_none h'] at h1
      have h2 := qOp_put hoj (hfree j oj hoj hji hjun hnot) hy h1
      have hfree' : ∀ k ok, ops[k]? = some ok → k ≠ i → (listed.setIfInBounds j true).getD k true = false →
          (∀ e ∈ ok.after, Region.binds md e = true → e.on ≠ i) → oi.apart ops ok = true := fun k ok hk hki hun hno => by
        refine hfree k ok hk hki ?_ hno
        by_cases hjk : j = k
        · subst hjk; exact hjun
        · rw [getD_set_ne true hjk] at hun; exact hun
      refine qOp_mono (fun fr' h3 => ih (listed.setIfInBounds j true) fr' hfree' (ready_mono hr (Ne.symm hji)) h3.1 ?_) h2
      rw [Array.setIfInBounds_comm _ _ hji]
      exact h3.2

theorem wpAnyD_lex {K : List DV → Prop} : ∀ (l : List Oper) (k : Nat) (listed : Array Bool) (fr : List DV), (∀ j, l[j]? = ops[k + j]?) →
    Region.lexFrom md ops l.length k listed = true → LQ P w0 S ops K l fr → wpAnyD P w0 S md ops K l.length listed fr
  | [], _, _, _, _, hB, h => ⟨by simpa [Region.lexFrom] using hB, h⟩
  | o :: l, k, listed, fr, hl, hB, h => by
    have h0 : ops[k]? = some o := by simpa using (hl 0).symm
    simp only [List.length_cons, Region.lexFrom, Bool.and_eq_true] at hB
    obtain ⟨⟨hr, hf⟩, hB'⟩ := hB
    have hst : qOp P w0 S ops k (LQ P w0 S ops K l) fr := by
      unfold qOp
      simp only [h0]
      exact guardK_want h
    obtain ⟨d, hy, hK⟩ := yd_of_qOp h0 hst
    exact wpAnyD_first h0 l.length listed fr (Region.free_spec h0 hf) (by simpa using hr) hy
      (wpAnyD_lex l (k + 1) _ _ (fun j => by have := hl (j + 1); simpa [Nat.add_assoc, Nat.add_comm 1 j] using this) hB' hK)

theorem wpAny_of_D {g0 : Gh} {Q : Exit → List DV → St → Prop} : ∀ (fuel : Nat) (listed : Array Bool) (fr : List DV) (g : Gh) (a : Act) (w : World), g0.le g → Rel w0 g S w → RepL g fr a.tmps.toList → a.defers = [] →
    wpAnyD P w0 S md ops (fun fr => Q .normal fr S) fuel listed fr → wpAny P md ops (Good w0 g0 Q) fuel listed a w
  | 0, listed, fr, g, a, w, k, h1, h2, h3, h => ⟨h.1, h3, g, fr, S, k, h1, h2, h.2⟩
  | fuel + 1, listed, fr, g, a, w, k, h1, h2, h3, h => by
    refine ⟨fun h0 => ⟨h3, g, fr, S, k, h1, h2, h.1 h0⟩, fun i hi => ?_⟩
    have hq := h.2 i hi
    unfold qOp at hq
    unfold wpOp
    split
    · rename_i ho; simp only [ho] at hq; exact wpAny_of_D fuel _ fr g a w k h1 h2 h3 hq
    · rename_i o ho
      simp only [ho] at hq
      rcases hq with ⟨hw, d, hy, hk⟩ | ⟨hw, hk⟩
      · have hw' := wantB_sound (o := o) h2 hw
        rw [if_pos hw']
        refine .inl ?_
        have := hy g w a.eval h1 (fun x _ => rep_ev h2 x) (fun _ => rfl)
        unfold Oper.wp Oper.upon
        split at this
        · rename_i u w' hrun
          rw [hrun]
          obtain ⟨g', d', S', k1, k2, k3, hd, hS⟩ := this
          rw [hS] at k2
          rw [hd] at k3
          exact wpAny_of_D fuel _ _ g' _ _ (k.trans k1) k2 (repL_put (h2.mono k1) _ k3) (by rw [put_defers]; exact h3) hk
        · rename_i w' hrun
          rw [hrun]
          obtain ⟨g', S', k1, k2, hd, hS⟩ := this
          rw [hS] at k2
          rw [← hd] at hk
          exact wpAny_of_D fuel _ _ g' _ _ (k.trans k1) k2 (repL_put (h2.mono k1) _ (rep_ud g')) (by rw [put_defers]; exact h3) hk
        · rename_i f args w' hrun
          rw [hrun]
          refine this.mono ?_
          rintro e w'' ⟨r, g', d', S', rfl, k1, k2, k3, hd, hS⟩
          rw [hS] at k2
          rw [hd] at k3
          exact wpAny_of_D fuel _ _ g' _ _ (k.trans k1) k2 (repL_put (h2.mono k1) _ k3) (by rw [put_defers]; exact h3) hk
        · exact this.elim
      · have hw' := wantB_sound (o := o) h2 hw
        rw [if_neg (by simp [hw'])]
        exact wpAny_of_D fuel _ _ g _ _ k h1 (repL_put h2 _ (rep_ud g)) (by rw [put_defers]; exact h3) hk

/-- A region that draws its order. -/
theorem awp_draw {id : Nat} {l : List Oper} {fr : List DV} {Q : Exit → List DV → St → Prop} (hm : P.follows .mixedOrders = true) (hB : Region.lexB .any l.toArray = true) (h : LQ P w0 S l.toArray (fun fr => Q .normal fr S) l fr) : AWp P w0 (.region id l.toArray true) fr S Q := by
  intro g a w h1 h2 h3
  simp only [Region.lexB, Bool.and_eq_true] at hB
  refine wp_region_any hm ?_
  have hR : Rel w0 g S { w with drawn := w.drawn + 1 } := h1.grow (below_drew w)
  have := wpAnyD_lex (P := P) (w0 := w0) (S := S) (md := .any) (ops := l.toArray) l 0 (Array.replicate l.toArray.size false) fr (by simp) (by simpa using hB.2) h
  have := wpAny_of_D (g0 := g) (Q := Q) _ _ fr g a _ (.refl g) hR h2 h3 this
  simpa using this
end
end Aml
