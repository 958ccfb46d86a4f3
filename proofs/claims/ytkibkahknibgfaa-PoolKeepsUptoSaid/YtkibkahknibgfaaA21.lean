/-
  Statements whose order is open but for their end: what writes comes behind all that reads. By an AI agent.
-/
import Derived.Test.YtkibkahknibgfaaA20
namespace Aml
open Go Go.RowKit
set_option linter.unusedVariables false
set_option linter.unusedSimpArgs false

def isQ : Op → Bool
  | .store .. | .box .. | .alloc .. | .makeSlice .. | .mapUpdate .. | .makeMap .. => false
  | .call c => match c.callee with
    | .builtin .append | .builtin .clear | .builtin .delete | .builtin .copy => false
    | _ => true
  | _ => true
def reachB (md : Region.Mode) (ops : Array Oper) : Nat → Nat → Nat → Bool
  | 0, _, _ => false
  | n + 1, k, i => match ops[k]? with
    | none => false
    | some o => o.after.any fun e => Region.binds md e && (e.on == i || reachB md ops n e.on i)
def backB (md : Region.Mode) (ops : Array Oper) : Bool := (List.range ops.size).all fun k => match ops[k]? with
  | none => true
  | some o => o.after.all fun e => !Region.binds md e || decide (e.on < k)
def tailB (md : Region.Mode) (ops : Array Oper) (n : Nat) : Bool := backB md ops &&
  ((List.range ops.size).all fun k => decide (k < n) || (List.range k).all fun i => reachB md ops ops.size k i) &&
  (ops.toList.take n).all fun o => match o.guard with | none => true | some (j, _) => decide (j < n)

section
variable {P : Program} {w0 : World} {ops : Array Oper} {md : Region.Mode}

theorem back_spec (h : backB md ops = true) {k : Nat} {o : Oper} (hk : ops[k]? = some o) : ∀ e ∈ o.after, Region.binds md e = true → e.on < k := by
  intro e he hb
  have hlt : k < ops.size := (Array.getElem?_eq_some_iff.1 hk).1
  have := List.all_eq_true.1 h k (List.mem_range.2 hlt)
  simp only [hk] at this
  have := Array.all_eq_true'.1 this e he
  simpa [hb] using this
/-- What is listed has what it stands behind listed. -/
def Clo (md : Region.Mode) (ops : Array Oper) (L : Array Bool) : Prop := ∀ (j : Nat) (o : Oper), ops[j]? = some o → L[j]? = some true → ∀ e ∈ o.after, Region.binds md e = true → L[e.on]? = some true
theorem reach_listed {L : Array Bool} (hc : Clo md ops L) : ∀ (n k i : Nat) (o : Oper), ops[k]? = some o → (∀ e ∈ o.after, Region.binds md e = true → L[e.on]? = some true) → reachB md ops n k i = true → L[i]? = some true
  | 0, _, _, _, _, _, h => by cases h
  | n + 1, k, i, o, hk, ha, h => by
    simp only [reachB, hk] at h
    obtain ⟨e, he, h⟩ := Array.any_eq_true'.1 h
    simp only [Bool.and_eq_true, Bool.or_eq_true, beq_iff_eq] at h
    rcases h.2 with h' | h'
    · rw [← h']; exact ha e he h.1
    · have hl := ha e he h.1
      cases ho : ops[e.on]? with
      | none => cases n <;> simp [reachB, ho] at h'
      | some o' => exact reach_listed hc n e.on i o' ho (hc e.on o' ho hl) h'
theorem getD_false {L : Array Bool} {i : Nat} : L.getD i false = true ↔ L[i]? = some true := by
  rw [Array.getD_eq_getD_getElem?]
  cases L[i]? <;> simp
theorem getD_true {L : Array Bool} {i : Nat} : L.getD i true = false ↔ L[i]? = some false := by
  rw [Array.getD_eq_getD_getElem?]
  cases L[i]? <;> simp

theorem step_op {g0 g : Gh} {Q : Exit → List DV → St → Prop} {o : Oper} {fr : List DV} {S : St} {a : Act} {w : World} {K : List DV → St → Prop} {K' : Act → World → Prop} (k : g0.le g) (h1 : Rel w0 g S w) (h2 : RepL g fr a.tmps.toList) (h3 : a.defers = [])
    (hK : ∀ fr S g a w, g0.le g → Rel w0 g S w → RepL g fr a.tmps.toList → a.defers = [] → K fr S → K' a w)
    (h : guardK ops fr o.guard (fun fr => YieldsE P w0 o (ev fr) S fun d S' => K (pt fr o.dst d) S') (fun fr => K (pt fr o.dst ud) S)) {i : Nat} (hi : ops[i]? = some o) :
    wpOp P ops (Good w0 g0 Q) i K' a w := by
  unfold wpOp
  simp only [hi]
  rcases guard_sound h2 h with ⟨hw, fr', h2', hA⟩ | ⟨hw, fr', h2', hB⟩
  · rw [if_pos hw]
    refine .inl ?_
    have := hA g w a.eval h1 (fun x _ => rep_ev h2' x) (fun _ => rfl)
    unfold Oper.wp Oper.upon
    split at this
    · rename_i u w' hrun
      rw [hrun]
      obtain ⟨g', d, S', k1, k2, k3, k4⟩ := this
      exact hK _ _ g' _ _ (k.trans k1) k2 (repL_put (h2'.mono k1) _ k3) (by rw [put_defers]; exact h3) k4
    · rename_i w' hrun
      rw [hrun]
      obtain ⟨g', S', k1, k2, k4⟩ := this
      exact hK _ _ g' _ _ (k.trans k1) k2 (repL_put (h2'.mono k1) _ (rep_ud g')) (by rw [put_defers]; exact h3) k4
    · rename_i f args w' hrun
      rw [hrun]
      refine this.mono ?_
      rintro e w'' ⟨r, g', d, S', rfl, k1, k2, k3, k4⟩
      exact hK _ _ g' _ _ (k.trans k1) k2 (repL_put (h2'.mono k1) _ k3) (by rw [put_defers]; exact h3) k4
    · exact this.elim
  · rw [if_neg (by simp [hw])]
    exact hK _ _ g _ _ k h1 (repL_put h2' _ (rep_ud g)) (by rw [put_defers]; exact h3) hB

theorem LQ_mono {S : St} {K K' : List DV → Prop} (hk : ∀ fr, K fr → K' fr) : ∀ {l : List Oper} {fr : List DV}, LQ P w0 S ops K l fr → LQ P w0 S ops K' l fr
  | [], fr, h => hk _ h
  | o :: rest, fr, h => guardK_mono (fun fr ⟨d, q1, q2⟩ => ⟨d, q1, LQ_mono hk q2⟩) (fun fr h => LQ_mono hk h) h
theorem wpAny_tail {g0 : Gh} {Q : Exit → List DV → St → Prop} {n : Nat} (hB : tailB md ops n = true) : ∀ (l : List Oper) (k fuel : Nat) (L : Array Bool) (fr : List DV) (S : St) (g : Gh) (a : Act) (w : World),
    (∀ j, l[j]? = ops[k + j]?) → n ≤ k → k ≤ ops.size → l.length ≤ fuel → L.size = ops.size → (∀ i, i < k → L[i]? = some true) → (∀ i, k ≤ i → i < ops.size → L[i]? = some false) → g0.le g → Rel w0 g S w → RepL g fr a.tmps.toList → a.defers = [] →
    LWp P w0 ops (fun fr S => Q .normal fr S) l fr S → wpAny P md ops (Good w0 g0 Q) fuel L a w := by
  simp only [tailB, Bool.and_eq_true] at hB
  obtain ⟨⟨hb, ha⟩, -⟩ := hB
  have none_ready : ∀ (k : Nat) (L : Array Bool), ops.size ≤ k → L.size = ops.size → (∀ i, i < k → L[i]? = some true ∨ ops.size ≤ i) → ∀ i, i ∉ Region.ready md ops L := by
    intro k L hk hs hl i hi
    obtain ⟨h1, o, ho, _⟩ := mem_ready.1 hi
    rw [getD_true] at h1
    have hlt : i < ops.size := (Array.getElem?_eq_some_iff.1 ho).1
    rcases hl i (by omega) with h | h
    · rw [h] at h1; cases h1
    · omega
  intro l
  induction l with
  | nil =>
    intro k fuel L fr S g a w hl hn hk hf hs ht hu k1 h1 h2 h3 h
    have hk' : ops.size ≤ k := by
      have := hl 0
      simp only [List.getElem?_nil, Nat.add_zero] at this
      exact Array.getElem?_eq_none_iff.1 this.symm
    have hno := none_ready k L hk' hs (fun i hi => .inl (ht i hi))
    have hemp : Region.ready md ops L = [] := List.eq_nil_iff_forall_not_mem.2 hno
    cases fuel with
    | zero => exact ⟨hemp, h3, g, fr, S, k1, h1, h2, h⟩
    | succ fuel => exact ⟨fun _ => ⟨h3, g, fr, S, k1, h1, h2, h⟩, fun i hi => absurd hi (hno i)⟩
  | cons o rest ih =>
    intro k fuel L fr S g a w hl hn hk hf hs ht hu k1 h1 h2 h3 h
    have h0 : ops[k]? = some o := by simpa using (hl 0).symm
    have hklt : k < ops.size := (Array.getElem?_eq_some_iff.1 h0).1
    have hready : k ∈ Region.ready md ops L := mem_ready.2 ⟨getD_true.2 (hu k (Nat.le_refl _) hklt), o, h0, fun e he hbe => getD_false.2 (ht _ (back_spec hb h0 e he hbe))⟩
    cases fuel with
    | zero => simp at hf
    | succ fuel =>
      refine ⟨fun h => (by rw [h] at hready; cases hready), fun i hi => ?_⟩
      obtain ⟨hi1, oi, hoi, hia⟩ := mem_ready.1 hi
      rw [getD_true] at hi1
      have hilt : i < ops.size := (Array.getElem?_eq_some_iff.1 hoi).1
      have hclo : Clo md ops L := fun j oj hj hlj e he hbe => by
        have hjk : j < k := by
          rcases Nat.lt_or_ge j k with h | h
          · exact h
          · rw [hu j h (Array.getElem?_eq_some_iff.1 hj).1] at hlj; cases hlj
        exact ht _ (Nat.lt_trans (back_spec hb hj e he hbe) hjk)
      have hik : i = k := by
        rcases Nat.lt_trichotomy i k with h | h | h
        · rw [ht i h] at hi1; cases hi1
        · exact h
        · have hr := List.all_eq_true.1 ha i (List.mem_range.2 hilt)
          rw [Bool.or_eq_true] at hr
          rcases hr with hr | hr
          · have := of_decide_eq_true hr; omega
          · have hr := List.all_eq_true.1 hr k (List.mem_range.2 h)
            have := reach_listed hclo _ i k oi hoi (fun e he hbe => getD_false.1 (hia e he hbe)) hr
            rw [hu k (Nat.le_refl _) hklt] at this; cases this
      subst hik
      refine step_op (o := o) k1 h1 h2 h3 (K := LWp P w0 ops (fun fr S => Q .normal fr S) rest) ?_ h h0
      intro fr' S' g' a' w' q1 q2 q3 q4 q5
      refine ih (i + 1) fuel (L.setIfInBounds i true) fr' S' g' a' w' (fun j => by have := hl (j + 1); simpa [Nat.add_assoc, Nat.add_comm 1 j] using this) (by omega) (by omega) (by simpa using hf) (by simpa using hs) ?_ ?_ q1 q2 q3 q4 q5
      · intro j hj
        rw [Array.getElem?_setIfInBounds]
        split
        · rename_i e; rw [if_pos (by omega)]
        · exact ht j (by omega)
      · intro j hj hj'
        rw [Array.getElem?_setIfInBounds, if_neg (by omega)]
        exact hu j (by omega) hj'

theorem wpAny_pre {g0 : Gh} {Q : Exit → List DV → St → Prop} {S : St} {n : Nat} (hB : tailB md ops n = true) (hn : n ≤ ops.size) : ∀ (fuel F : Nat) (L M : Array Bool) (fr : List DV) (g : Gh) (a : Act) (w : World),
    L.size = n → M.size = ops.size → (∀ i, i < n → M[i]? = L[i]?) → (∀ i, n ≤ i → i < ops.size → M[i]? = some false) → Clo md ops M → fuel + (ops.size - n) ≤ F → g0.le g → Rel w0 g S w → RepL g fr a.tmps.toList → a.defers = [] →
    wpAnyD P w0 S md (ops.toList.take n).toArray (fun fr => LWp P w0 ops (fun fr S => Q .normal fr S) (ops.toList.drop n) fr S) fuel L fr → wpAny P md ops (Good w0 g0 Q) F M a w := by
  have hB' := hB
  simp only [tailB, Bool.and_eq_true] at hB'
  obtain ⟨⟨hb, ha⟩, hg⟩ := hB'
  have hpre : ∀ i, i < n → (ops.toList.take n).toArray[i]? = ops[i]? := fun i hi => by simp [List.getElem?_take, hi]
  have full : ∀ (L M : Array Bool), L.size = n → M.size = ops.size → (∀ i, i < n → M[i]? = L[i]?) → Region.ready md (ops.toList.take n).toArray L = [] → ∀ i, i < n → M[i]? = some true := by
    intro L M hs hM hLM hr i
    induction i using Nat.strongRecOn with
    | _ i ih =>
      intro hi
      have hlt : i < M.size := by omega
      have hsome : ∃ o, ops[i]? = some o := ⟨_, Array.getElem?_eq_getElem (by omega)⟩
      obtain ⟨o, ho⟩ := hsome
      cases hx : M[i]? with
      | none => rw [Array.getElem?_eq_getElem hlt] at hx; cases hx
      | some x =>
        cases x with
        | true => rfl
        | false =>
          have : i ∈ Region.ready md (ops.toList.take n).toArray L := mem_ready.2 ⟨getD_true.2 (by rw [← hLM i hi]; exact hx), o, by rw [hpre i hi]; exact ho, fun e he hbe => by
            have hlt' := back_spec hb ho e he hbe
            rw [getD_false, ← hLM _ (by omega)]
            exact ih _ hlt' (by omega)⟩
          rw [hr] at this; cases this
  have tail : ∀ (F : Nat) (L M : Array Bool) (fr : List DV) (g : Gh) (a : Act) (w : World), L.size = n → M.size = ops.size → (∀ i, i < n → M[i]? = L[i]?) → (∀ i, n ≤ i → i < ops.size → M[i]? = some false) → ops.size - n ≤ F → g0.le g → Rel w0 g S w → RepL g fr a.tmps.toList → a.defers = [] →
      Region.ready md (ops.toList.take n).toArray L = [] → LWp P w0 ops (fun fr S => Q .normal fr S) (ops.toList.drop n) fr S → wpAny P md ops (Good w0 g0 Q) F M a w := by
    intro F L M fr g a w hs hM hLM hM0 hF q1 q2 q3 q4 hr h
    exact wpAny_tail hB (ops.toList.drop n) n F M fr S g a w (fun j => by simp [List.getElem?_drop]) (Nat.le_refl _) hn (by simp; omega) hM (full L M hs hM hLM hr) hM0 q1 q2 q3 q4 h
  intro fuel
  induction fuel with
  | zero =>
    intro F L M fr g a w hs hM hLM hM0 hc hF q1 q2 q3 q4 h
    exact tail F L M fr g a w hs hM hLM hM0 (by omega) q1 q2 q3 q4 h.1 h.2
  | succ fuel ih =>
    intro F L M fr g a w hs hM hLM hM0 hc hF q1 q2 q3 q4 h
    by_cases hr : Region.ready md (ops.toList.take n).toArray L = []
    · exact tail F L M fr g a w hs hM hLM hM0 (by omega) q1 q2 q3 q4 hr (h.1 hr)
    · obtain ⟨F, rfl⟩ : ∃ F', F = F' + 1 := ⟨F - 1, by omega⟩
      have up : ∀ i, i ∈ Region.ready md (ops.toList.take n).toArray L → i ∈ Region.ready md ops M := by
        intro i hi
        obtain ⟨h1, o, ho, h2⟩ := mem_ready.1 hi
        have hi' : i < n := by have := (Array.getElem?_eq_some_iff.1 ho).1; simp at this; omega
        rw [hpre i hi'] at ho
        refine mem_ready.2 ⟨getD_true.2 (by rw [hLM i hi']; exact getD_true.1 h1), o, ho, fun e he hbe => ?_⟩
        have hlt := back_spec hb ho e he hbe
        rw [getD_false, hLM _ (by omega)]
        exact getD_false.1 (h2 e he hbe)
      refine ⟨fun h0 => ?_, fun i hi => ?_⟩
      · exfalso
        obtain ⟨x, xs, hx⟩ : ∃ x xs, Region.ready md (ops.toList.take n).toArray L = x :: xs := by
          cases he : Region.ready md (ops.toList.take n).toArray L with
          | nil => exact absurd he hr
          | cons x xs => exact ⟨x, xs, rfl⟩
        have := up x (by rw [hx]; exact List.mem_cons_self)
        rw [h0] at this; cases this
      · obtain ⟨hi1, oi, hoi, hia⟩ := mem_ready.1 hi
        rw [getD_true] at hi1
        have hilt : i < ops.size := (Array.getElem?_eq_some_iff.1 hoi).1
        by_cases hin : i < n
        · have hiL : i ∈ Region.ready md (ops.toList.take n).toArray L := mem_ready.2 ⟨getD_true.2 (by rw [← hLM i hin]; exact hi1), oi, by rw [hpre i hin]; exact hoi, fun e he hbe => by
            have hlt := back_spec hb hoi e he hbe
            rw [getD_false, ← hLM _ (by omega)]
            exact getD_false.1 (hia e he hbe)⟩
          have hq := h.2 i hiL
          have hgi : ∀ j want, oi.guard = some (j, want) → j < n := by
            intro j want hgj
            have hmem : oi ∈ ops.toList.take n := by
              have : (ops.toList.take n)[i]? = some oi := by rw [List.getElem?_take, if_pos hin]; simpa using hoi
              exact List.mem_of_getElem? this
            have := List.all_eq_true.1 hg oi hmem
            simpa [hgj] using this
          have hwant : ∀ fr, wantB (ops.toList.take n).toArray fr oi.guard = wantB ops fr oi.guard := by
            intro fr
            cases hgo : oi.guard with
            | none => rfl
            | some p =>
              obtain ⟨j, want⟩ := p
              simp only [wantB, hpre j (hgi j want hgo)]
          have hLs : (L.setIfInBounds i true).size = n := by simpa using hs
          have hMs : (M.setIfInBounds i true).size = ops.size := by simpa using hM
          have hLM' : ∀ j, j < n → (M.setIfInBounds i true)[j]? = (L.setIfInBounds i true)[j]? := by
            intro j hj
            rw [Array.getElem?_setIfInBounds, Array.getElem?_setIfInBounds, hLM j hj]
            split
            · rw [if_pos (by omega), if_pos (by omega)]
            · rfl
          have hM0' : ∀ j, n ≤ j → j < ops.size → (M.setIfInBounds i true)[j]? = some false := by
            intro j hj hj'
            rw [Array.getElem?_setIfInBounds, if_neg (by omega)]
            exact hM0 j hj hj'
          have hc' : Clo md ops (M.setIfInBounds i true) := by
            intro j oj hj hlj e he hbe
            rw [Array.getElem?_setIfInBounds]
            split
            · rw [if_pos (by omega)]
            · rw [Array.getElem?_setIfInBounds] at hlj
              split at hlj
              · rename_i hij
                subst hij
                rw [hoi] at hj; cases hj
                exact getD_false.1 (hia e he hbe)
              · exact hc j oj hj hlj e he hbe
          have cont : ∀ fr' g' a' w', g0.le g' → Rel w0 g' S w' → RepL g' fr' a'.tmps.toList → a'.defers = [] → wpAnyD P w0 S md (ops.toList.take n).toArray (fun fr => LWp P w0 ops (fun fr S => Q .normal fr S) (ops.toList.drop n) fr S) fuel (L.setIfInBounds i true) fr' →
              wpAny P md ops (Good w0 g0 Q) F (M.setIfInBounds i true) a' w' := fun fr' g' a' w' p1 p2 p3 p4 p5 =>
            ih F _ _ fr' g' a' w' hLs hMs hLM' hM0' hc' (by omega) p1 p2 p3 p4 p5
          unfold qOp at hq
          rw [hpre i hin] at hq
          unfold wpOp
          simp only [hoi] at hq ⊢
          rcases hq with ⟨hw, d, hy, hk⟩ | ⟨hw, hk⟩
          · rw [hwant] at hw
            have hw' := wantB_sound (o := oi) q3 hw
            rw [if_pos hw']
            refine .inl ?_
            have := hy g w a.eval q2 (fun x _ => rep_ev q3 x) (fun _ => rfl)
            unfold Oper.wp Oper.upon
            split at this
            · rename_i u w' hrun
              rw [hrun]
              obtain ⟨g', d', S', k1, k2, k3, hd, hS⟩ := this
              rw [hS] at k2
              rw [hd] at k3
              exact cont _ g' _ _ (q1.trans k1) k2 (repL_put (q3.mono k1) _ k3) (by rw [put_defers]; exact q4) hk
            · rename_i w' hrun
              rw [hrun]
              obtain ⟨g', S', k1, k2, hd, hS⟩ := this
              rw [hS] at k2
              rw [← hd] at hk
              exact cont _ g' _ _ (q1.trans k1) k2 (repL_put (q3.mono k1) _ (rep_ud g')) (by rw [put_defers]; exact q4) hk
            · rename_i f args w' hrun
              rw [hrun]
              refine this.mono ?_
              rintro e w'' ⟨r, g', d', S', rfl, k1, k2, k3, hd, hS⟩
              rw [hS] at k2
              rw [hd] at k3
              exact cont _ g' _ _ (q1.trans k1) k2 (repL_put (q3.mono k1) _ k3) (by rw [put_defers]; exact q4) hk
            · exact this.elim
          · rw [hwant] at hw
            have hw' := wantB_sound (o := oi) q3 hw
            rw [if_neg (by simp [hw'])]
            exact cont _ g _ _ q1 q2 (repL_put q3 _ (rep_ud g)) (by rw [put_defers]; exact q4) hk
        · exfalso
          have hall : ∀ j, j < n → M[j]? = some true := by
            intro j hj
            have hr' := List.all_eq_true.1 ha i (List.mem_range.2 hilt)
            rw [Bool.or_eq_true] at hr'
            rcases hr' with hr' | hr'
            · exact absurd (of_decide_eq_true hr') hin
            · have hr' := List.all_eq_true.1 hr' j (List.mem_range.2 (by omega))
              exact reach_listed hc _ i j oi hoi (fun e he hbe => getD_false.1 (hia e he hbe)) hr'
          refine hr (List.eq_nil_iff_forall_not_mem.2 fun j hj => ?_)
          obtain ⟨h1, o, ho, _⟩ := mem_ready.1 hj
          have hj' : j < n := by have := (Array.getElem?_eq_some_iff.1 ho).1; simp at this; omega
          rw [getD_true, ← hLM j hj', hall j hj'] at h1
          cases h1

def npre (l : List Oper) : Nat := (l.takeWhile fun o => isQ o.op).length

/-- A region that draws the order of what reads; what writes comes behind. -/
theorem awp_drawT {id : Nat} {l : List Oper} {fr : List DV} {S : St} {Q : Exit → List DV → St → Prop} (n : Nat) (hn : n ≤ l.length) (hm : P.follows .mixedOrders = true) (hB : Region.lexB .any (l.take n).toArray = true) (hT : tailB .any l.toArray n = true) (hs : l.all (fun o => okSl o.op) = true)
    (h : LQ P w0 S (l.take n).toArray (fun fr => vcL P w0 l.toArray (fun fr S => Q .normal fr S) (l.drop n) fr S) (l.take n) fr) : AWp P w0 (.region id l.toArray true) fr S Q := by
  intro g a w h1 h2 h3
  simp only [Region.lexB, Bool.and_eq_true] at hB
  refine wp_region_any hm ?_
  have hR : Rel w0 g S { w with drawn := w.drawn + 1 } := h1.grow (below_drew w)
  have hs1 : (l.take n).all (fun o => okSl o.op) = true := List.all_eq_true.2 fun o ho => List.all_eq_true.1 hs o (List.mem_of_mem_take ho)
  have hs2 : (l.drop n).all (fun o => okSl o.op) = true := List.all_eq_true.2 fun o ho => List.all_eq_true.1 hs o (List.mem_of_mem_drop ho)
  have hLQ : LQ P w0 S (l.take n).toArray (fun fr => LWp P w0 l.toArray (fun fr S => Q .normal fr S) (l.drop n) fr S) (l.take n) fr := by
    exact LQ_mono (fun fr h => vcL_sound _ hs2 h) h
  have := wpAnyD_lex (P := P) (w0 := w0) (S := S) (md := .any) (ops := (l.take n).toArray) (l.take n) 0 (Array.replicate (l.take n).toArray.size false) fr (by simp) (by simpa using hB.2) hLQ
  refine wpAny_pre (n := n) (S := S) hT (by simpa using hn) (l.take n).length _ (Array.replicate (l.take n).toArray.size false) _ fr g a _ (by simp; omega) (by simp) ?_ ?_ ?_ (by simp; omega) (.refl g) hR h2 h3 (by simpa using this)
  · intro i hi
    simp only [Array.getElem?_replicate, List.size_toArray, List.length_take]
    rw [if_pos (by omega), if_pos (by omega)]
  · intro i hi hi'
    simp only [Array.getElem?_replicate]
    rw [if_pos hi']
  · intro j o hj hl
    simp [Array.getElem?_replicate] at hl
end
end Aml
