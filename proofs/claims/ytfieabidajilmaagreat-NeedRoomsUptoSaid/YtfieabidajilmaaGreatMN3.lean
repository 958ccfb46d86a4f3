/-
  The rules as they are used: functions, loops; plain values; wraps; Statements whose order is open but for their end: what writes comes behind all that reads; Which parts of the walk's words the reckoning may enter: what comes behind a step is entered when the step is done; The walk by reckoning, whole; functions and loops; Less is said of a value than is known: at calls, at results, at loops; More forms of functions; Statements whose order is open, once more: what reads no store may come at any time, and so may what makes a box that nothing ahead looks at; Statements whose order is open: how the reckoning goes; Ranges over functions; A row that a statement builds, as one that grows; The end of a growing slice, cleared; Few statements whose order is open, each order walked; Statements whose order is open, with rows made and turned to texts: what is made is frozen at once. By an AI agent.
-/
import Derived.Test.YtfieabidajilmaaGreatMN2
namespace Aml
open Go Go.RowKit
set_option linter.unusedVariables false
set_option linter.unusedSimpArgs false

def dI (n : Int) : DV := .v (.int .i64 n)
def dU (n : Int) : DV := .v (.int .u64 n)
def dY (n : Int) : DV := .v (.int .u8 n)
def dB (b : Bool) : DV := .v (.bool b)
def dS (s : ByteArray) : DV := .v (.string s)

theorem wu64 {n : Int} (h0 : 0 ≤ n) (h1 : n ≤ 18446744073709551615) : IntKind.u64.wrap n = n := by
  show n % 18446744073709551616 = n
  omega
section
variable {P : Program} {w0 : W0}
end
end Aml

namespace Aml
open Go Go.RowKit
set_option linter.unusedVariables false
set_option linter.unusedSimpArgs false

def isQ : Op → Bool
  | .store .. | .box .. | .alloc .. | .makeSlice .. | .mapUpdate .. | .makeMap .. => false
  | .call c => match c.callee with
    | .builtin .append | .builtin .clear | .builtin .delete | .builtin .copy => false
    | _ => true
  | _ => true
def reachB (md : Region.Mode) (ops : Array Oper) : Nat → Nat → Nat → Bool
  | 0, _, _ => false
  | n + 1, k, i => match ops[k]? with
    | none => false
    | some o => o.after.any fun e => Region.binds md e && (e.on == i || reachB md ops n e.on i)
def backB (md : Region.Mode) (ops : Array Oper) : Bool := (List.range ops.size).all fun k => match ops[k]? with
  | none => true
  | some o => o.after.all fun e => !Region.binds md e || decide (e.on < k)
def tailB (md : Region.Mode) (ops : Array Oper) (n : Nat) : Bool := backB md ops &&
  ((List.range ops.size).all fun k => decide (k < n) || (List.range k).all fun i => reachB md ops ops.size k i) &&
  (ops.toList.take n).all fun o => match o.guard with | none => true | some (j, _) => decide (j < n)

section
variable {P : Program} {w0 : W0} {ops : Array Oper} {md : Region.Mode}

theorem back_spec (h : backB md ops = true) {k : Nat} {o : Oper} (hk : ops[k]? = some o) : ∀ e ∈ o.after, Region.binds md e = true → e.on < k := by
  intro e he hb
  have hlt : k < ops.size := (Array.getElem?_eq_some_iff.1 hk).1
  have := List.all_eq_true.1 h k (List.mem_range.2 hlt)
  simp only [hk] at this
  have := Array.all_eq_true'.1 this e he
  simpa [hb] using this
/-- What is listed has what it stands behind listed. -/
def Clo (md : Region.Mode) (ops : Array Oper) (L : Array Bool) : Prop := ∀ (j : Nat) (o : Oper), ops[j]? = some o → L[j]? = some true → ∀ e ∈ o.after, Region.binds md e = true → L[e.on]? = some true
theorem reach_listed {L : Array Bool} (hc : Clo md ops L) : ∀ (n k i : Nat) (o : Oper), ops[k]? = some o → (∀ e ∈ o.after, Region.binds md e = true → L[e.on]? = some true) → reachB md ops n k i = true → L[i]? = some true
  | 0, _, _, _, _, _, h => by cases h
  | n + 1, k, i, o, hk, ha, h => by
    simp only [reachB, hk] at h
    obtain ⟨e, he, h⟩ := Array.any_eq_true'.1 h
    simp only [Bool.and_eq_true, Bool.or_eq_true, beq_iff_eq] at h
    rcases h.2 with h' | h'
    · rw [← h']; exact ha e he h.1
    · have hl := ha e he h.1
      cases ho : ops[e.on]? with
      | none => cases n <;> simp [reachB, ho] at h'
      | some o' => exact reach_listed hc n e.on i o' ho (hc e.on o' ho hl) h'
theorem getD_false {L : Array Bool} {i : Nat} : L.getD i false = true ↔ L[i]? = some true := by
  rw [Array.getD_eq_getD_getElem?]
  cases L[i]? <;> simp
theorem getD_true {L : Array Bool} {i : Nat} : L.getD i true = false ↔ L[i]? = some false := by
  rw [Array.getD_eq_getD_getElem?]
  cases L[i]? <;> simp

theorem step_op {ro : Option Nat} {g0 g : Gh} {Q : Exit → List DV → St → Prop} {o : Oper} {fr : List DV} {S : St} {a : Act} {w : World} {K : List DV → St → Prop} {K' : Act → World → Prop} (k : g0.le g) (h1 : Rel w0 g S w) (h2 : RepL g fr a.tmps.toList) (h3 : Dk w0 g.obj a w)
    (hK : ∀ fr S g a w, g0.le g → Rel w0 g S w → RepL g fr a.tmps.toList → Dk w0 g.obj a w → K fr S → K' a w)
    (h : guardK ops fr o.guard (fun fr => YieldsE P w0 o (ev fr) S fun d S' => K (pt fr o.dst d) S') (fun fr => K (pt fr o.dst ud) S)) {i : Nat} (hi : ops[i]? = some o) :
    wpOpIn (fz ro) 0 P ops (Good w0 g0 Q) i K' a w := by
  unfold wpOpIn
  simp only [hi]
  rcases guard_sound h2 h with ⟨hw, fr', h2', hA⟩ | ⟨hw, fr', h2', hB⟩
  · rw [if_pos hw]
    refine wpIn_of_yields hA h1 (fun x _ => rep_ev h2' x) h3 fun g' d u S' w' k1 k2 k3 k4 k5 => ?_
    exact hK _ _ g' _ _ (k.trans k1) k2 (repL_put (h2'.mono k1) _ k3) (k1.dk k5) k4
  · rw [if_neg (by simp [hw])]
    exact ⟨fun _ _ => trivial, hK _ _ g _ _ k h1 (repL_put h2' _ (rep_ud g)) (h3.keep (put_defers _ _ _) fun _ _ h _ => h) hB⟩

theorem LQ_mono {S : St} {K K' : List DV → Prop} (hk : ∀ fr, K fr → K' fr) : ∀ {l : List Oper} {fr : List DV}, LQ P w0 S ops K l fr → LQ P w0 S ops K' l fr
  | [], fr, h => hk _ h
  | o :: rest, fr, h => guardK_mono (fun fr ⟨d, q1, q2⟩ => ⟨d, q1, LQ_mono hk q2⟩) (fun fr h => LQ_mono hk h) h
theorem wpAny_tail {ro : Option Nat} {g0 : Gh} {Q : Exit → List DV → St → Prop} {n : Nat} (hB : tailB md ops n = true) : ∀ (l : List Oper) (k fuel : Nat) (L : Array Bool) (fr : List DV) (S : St) (g : Gh) (a : Act) (w : World),
    (∀ j, l[j]? = ops[k + j]?) → n ≤ k → k ≤ ops.size → l.length ≤ fuel → L.size = ops.size → (∀ i, i < k → L[i]? = some true) → (∀ i, k ≤ i → i < ops.size → L[i]? = some false) → g0.le g → Rel w0 g S w → RepL g fr a.tmps.toList → Dk w0 g.obj a w →
    LWp P w0 ops (fun fr S => Q .normal fr S) l fr S → wpAnyIn (fz ro) 0 P md ops (Good w0 g0 Q) fuel L a w := by
  simp only [tailB, Bool.and_eq_true] at hB
  obtain ⟨⟨hb, ha⟩, -⟩ := hB
  have none_ready : ∀ (k : Nat) (L : Array Bool), ops.size ≤ k → L.size = ops.size → (∀ i, i < k → L[i]? = some true ∨ ops.size ≤ i) → ∀ i, i ∉ Region.ready md ops L := by
    intro k L hk hs hl i hi
    obtain ⟨h1, o, ho, _⟩ := mem_ready.1 hi
    rw [getD_true] at h1
    have hlt : i < ops.size := (Array.getElem?_eq_some_iff.1 ho).1
    rcases hl i (by omega) with h | h
    · rw [h] at h1; cases h1
    · omega
  intro l
  induction l with
  | nil =>
    intro k fuel L fr S g a w hl hn hk hf hs ht hu k1 h1 h2 h3 h
    have hk' : ops.size ≤ k := by
      have := hl 0
      simp only [List.getElem?_nil, Nat.add_zero] at this
      exact Array.getElem?_eq_none_iff.1 this.symm
    have hno := none_ready k L hk' hs (fun i hi => .inl (ht i hi))
    have hemp : Region.ready md ops L = [] := List.eq_nil_iff_forall_not_mem.2 hno
    cases fuel with
    | zero => exact ⟨hemp, k1.kd h3, g, fr, S, k1, h1, h2, h⟩
    | succ fuel => exact ⟨fun _ => ⟨k1.kd h3, g, fr, S, k1, h1, h2, h⟩, fun i hi => absurd hi (hno i)⟩
  | cons o rest ih =>
    intro k fuel L fr S g a w hl hn hk hf hs ht hu k1 h1 h2 h3 h
    have h0 : ops[k]? = some o := by simpa using (hl 0).symm
    have hklt : k < ops.size := (Array.getElem?_eq_some_iff.1 h0).1
    have hready : k ∈ Region.ready md ops L := mem_ready.2 ⟨getD_true.2 (hu k (Nat.le_refl _) hklt), o, h0, fun e he hbe => getD_false.2 (ht _ (back_spec hb h0 e he hbe))⟩
    cases fuel with
    | zero => simp at hf
    | succ fuel =>
      refine ⟨fun h => (by rw [h] at hready; cases hready), fun i hi => ?_⟩
      obtain ⟨hi1, oi, hoi, hia⟩ := mem_ready.1 hi
      rw [getD_true] at hi1
      have hilt : i < ops.size := (Array.getElem?_eq_some_iff.1 hoi).1
      have hclo : Clo md ops L := fun j oj hj hlj e he hbe => by
        have hjk : j < k := by
          rcases Nat.lt_or_ge j k with h | h
          · exact h
          · rw [hu j h (Array.getElem?_eq_some_iff.1 hj).1] at hlj; cases hlj
        exact ht _ (Nat.lt_trans (back_spec hb hj e he hbe) hjk)
      have hik : i = k := by
        rcases Nat.lt_trichotomy i k with h | h | h
        · rw [ht i h] at hi1; cases hi1
        · exact h
        · have hr := List.all_eq_true.1 ha i (List.mem_range.2 hilt)
          rw [Bool.or_eq_true] at hr
          rcases hr with hr | hr
          · have := of_decide_eq_true hr; omega
          · have hr := List.all_eq_true.1 hr k (List.mem_range.2 h)
            have := reach_listed hclo _ i k oi hoi (fun e he hbe => getD_false.1 (hia e he hbe)) hr
            rw [hu k (Nat.le_refl _) hklt] at this; cases this
      subst hik
      refine step_op (o := o) k1 h1 h2 h3 (K := LWp P w0 ops (fun fr S => Q .normal fr S) rest) ?_ h h0
      intro fr' S' g' a' w' q1 q2 q3 q4 q5
      refine ih (i + 1) fuel (L.setIfInBounds i true) fr' S' g' a' w' (fun j => by have := hl (j + 1); simpa [Nat.add_assoc, Nat.add_comm 1 j] using this) (by omega) (by omega) (by simpa using hf) (by simpa using hs) ?_ ?_ q1 q2 q3 q4 q5
      · intro j hj
        rw [Array.getElem?_setIfInBounds]
        split
        · rename_i e; rw [if_pos (by omega)]
        · exact ht j (by omega)
      · intro j hj hj'
        rw [Array.getElem?_setIfInBounds, if_neg (by omega)]
        exact hu j (by omega) hj'

theorem wpAny_pre {ro : Option Nat} {g0 : Gh} {Q : Exit → List DV → St → Prop} {S : St} {n : Nat} (hB : tailB md ops n = true) (hn : n ≤ ops.size) : ∀ (fuel F : Nat) (L M : Array Bool) (fr : List DV) (g : Gh) (a : Act) (w : World),
    L.size = n → M.size = ops.size → (∀ i, i < n → M[i]? = L[i]?) → (∀ i, n ≤ i → i < ops.size → M[i]? = some false) → Clo md ops M → fuel + (ops.size - n) ≤ F → g0.le g → Rel w0 g S w → RepL g fr a.tmps.toList → Dk w0 g.obj a w →
    wpAnyD P w0 S md (ops.toList.take n).toArray (fun fr => LWp P w0 ops (fun fr S => Q .normal fr S) (ops.toList.drop n) fr S) fuel L fr → wpAnyIn (fz ro) 0 P md ops (Good w0 g0 Q) F M a w := by
  have hB' := hB
  simp only [tailB, Bool.and_eq_true] at hB'
  obtain ⟨⟨hb, ha⟩, hg⟩ := hB'
  have hpre : ∀ i, i < n → (ops.toList.take n).toArray[i]? = ops[i]? := fun i hi => by simp [List.getElem?_take, hi]
  have full : ∀ (L M : Array Bool), L.size = n → M.size = ops.size → (∀ i, i < n → M[i]? = L[i]?) → Region.ready md (ops.toList.take n).toArray L = [] → ∀ i, i < n → M[i]? = some true := by
    intro L M hs hM hLM hr i
    induction i using Nat.strongRecOn with
    | _ i ih =>
      intro hi
      have hlt : i < M.size := by omega
      have hsome : ∃ o, ops[i]? = some o := ⟨_, Array.getElem?_eq_getElem (by omega)⟩
      obtain ⟨o, ho⟩ := hsome
      cases hx : M[i]? with
      | none => rw [Array.getElem?_eq_getElem hlt] at hx; cases hx
      | some x =>
        cases x with
        | true => rfl
        | false =>
          have : i ∈ Region.ready md (ops.toList.take n).toArray L := mem_ready.2 ⟨getD_true.2 (by rw [← hLM i hi]; exact hx), o, by rw [hpre i hi]; exact ho, fun e he hbe => by
            have hlt' := back_spec hb ho e he hbe
            rw [getD_false, ← hLM _ (by omega)]
            exact ih _ hlt' (by omega)⟩
          rw [hr] at this; cases this
  have tail : ∀ (F : Nat) (L M : Array Bool) (fr : List DV) (g : Gh) (a : Act) (w : World), L.size = n → M.size = ops.size → (∀ i, i < n → M[i]? = L[i]?) → (∀ i, n ≤ i → i < ops.size → M[i]? = some false) → ops.size - n ≤ F → g0.le g → Rel w0 g S w → RepL g fr a.tmps.toList → Dk w0 g.obj a w →
      Region.ready md (ops.toList.take n).toArray L = [] → LWp P w0 ops (fun fr S => Q .normal fr S) (ops.toList.drop n) fr S → wpAnyIn (fz ro) 0 P md ops (Good w0 g0 Q) F M a w := by
    intro F L M fr g a w hs hM hLM hM0 hF q1 q2 q3 q4 hr h
    exact wpAny_tail hB (ops.toList.drop n) n F M fr S g a w (fun j => by simp [List.getElem?_drop]) (Nat.le_refl _) hn (by simp; omega) hM (full L M hs hM hLM hr) hM0 q1 q2 q3 q4 h
  intro fuel
  induction fuel with
  | zero =>
    intro F L M fr g a w hs hM hLM hM0 hc hF q1 q2 q3 q4 h
    exact tail F L M fr g a w hs hM hLM hM0 (by omega) q1 q2 q3 q4 h.1 h.2
  | succ fuel ih =>
    intro F L M fr g a w hs hM hLM hM0 hc hF q1 q2 q3 q4 h
    by_cases hr : Region.ready md (ops.toList.take n).toArray L = []
    · exact tail F L M fr g a w hs hM hLM hM0 (by omega) q1 q2 q3 q4 hr (h.1 hr)
    · obtain ⟨F, rfl⟩ : ∃ F', F = F' + 1 := ⟨F - 1, by omega⟩
      have up : ∀ i, i ∈ Region.ready md (ops.toList.take n).toArray L → i ∈ Region.ready md ops M := by
        intro i hi
        obtain ⟨h1, o, ho, h2⟩ := mem_ready.1 hi
        have hi' : i < n := by have := (Array.getElem?_eq_some_iff.1 ho).1; simp at this; omega
        rw [hpre i hi'] at ho
        refine mem_ready.2 ⟨getD_true.2 (by rw [hLM i hi']; exact getD_true.1 h1), o, ho, fun e he hbe => ?_⟩
        have hlt := back_spec hb ho e he hbe
        rw [getD_false, hLM _ (by omega)]
        exact getD_false.1 (h2 e he hbe)
      refine ⟨fun h0 => ?_, fun i hi => ?_⟩
      · exfalso
        obtain ⟨x, xs, hx⟩ : ∃ x xs, Region.ready md (ops.toList.take n).toArray L = x :: xs := by
          cases he : Region.ready md (ops.toList.take n).toArray L with
          | nil => exact absurd he hr
          | cons x xs => exact ⟨x, xs, rfl⟩
        have := up x (by rw [hx]; exact List.mem_cons_self)
        rw [h0] at this; cases this
      · obtain ⟨hi1, oi, hoi, hia⟩ := mem_ready.1 hi
        rw [getD_true] at hi1
        have hilt : i < ops.size := (Array.getElem?_eq_some_iff.1 hoi).1
        by_cases hin : i < n
        · have hiL : i ∈ Region.ready md (ops.toList.take n).toArray L := mem_ready.2 ⟨getD_true.2 (by rw [← hLM i hin]; exact hi1), oi, by rw [hpre i hin]; exact hoi, fun e he hbe => by
            have hlt := back_spec hb hoi e he hbe
            rw [getD_false, ← hLM _ (by omega)]
            exact getD_false.1 (hia e he hbe)⟩
          have hq := h.2 i hiL
          have hgi : ∀ j want, oi.guard = some (j, want) → j < n := by
            intro j want hgj
            have hmem : oi ∈ ops.toList.take n := by
              have : (ops.toList.take n)[i]? = some oi := by rw [List.getElem?_take, if_pos hin]; simpa using hoi
              exact List.mem_of_getElem? this
            have := List.all_eq_true.1 hg oi hmem
            simpa [hgj] using this
          have hwant : ∀ fr, wantB (ops.toList.take n).toArray fr oi.guard = wantB ops fr oi.guard := by
            intro fr
            cases hgo : oi.guard with
            | none => rfl
            | some p =>
              obtain ⟨j, want⟩ := p
              simp only [wantB, hpre j (hgi j want hgo)]
          have hLs : (L.setIfInBounds i true).size = n := by simpa using hs
          have hMs : (M.setIfInBounds i true).size = ops.size := by simpa using hM
          have hLM' : ∀ j, j < n → (M.setIfInBounds i true)[j]? = (L.setIfInBounds i true)[j]? := by
            intro j hj
            rw [Array.getElem?_setIfInBounds, Array.getElem?_setIfInBounds, hLM j hj]
            split
            · rw [if_pos (by omega), if_pos (by omega)]
            · rfl
          have hM0' : ∀ j, n ≤ j → j < ops.size → (M.setIfInBounds i true)[j]? = some false := by
            intro j hj hj'
            rw [Array.getElem?_setIfInBounds, if_neg (by omega)]
            exact hM0 j hj hj'
          have hc' : Clo md ops (M.setIfInBounds i true) := by
            intro j oj hj hlj e he hbe
            rw [Array.getElem?_setIfInBounds]
            split
            · rw [if_pos (by omega)]
            · rw [Array.getElem?_setIfInBounds] at hlj
              split at hlj
              · rename_i hij
                subst hij
                rw [hoi] at hj; cases hj
                exact getD_false.1 (hia e he hbe)
              · exact hc j oj hj hlj e he hbe
          have cont : ∀ fr' g' a' w', g0.le g' → Rel w0 g' S w' → RepL g' fr' a'.tmps.toList → Dk w0 g'.obj a' w' → wpAnyD P w0 S md (ops.toList.take n).toArray (fun fr => LWp P w0 ops (fun fr S => Q .normal fr S) (ops.toList.drop n) fr S) fuel (L.setIfInBounds i true) fr' →
              wpAnyIn (fz ro) 0 P md ops (Good w0 g0 Q) F (M.setIfInBounds i true) a' w' := fun fr' g' a' w' p1 p2 p3 p4 p5 =>
            ih F _ _ fr' g' a' w' hLs hMs hLM' hM0' hc' (by omega) p1 p2 p3 p4 p5
          unfold qOp at hq
          rw [hpre i hin] at hq
          unfold wpOpIn
          simp only [hoi] at hq ⊢
          rcases hq with ⟨hw, d, hy, hk⟩ | ⟨hw, hk⟩
          · rw [hwant] at hw
            have hw' := wantB_sound (o := oi) q3 hw
            rw [if_pos hw']
            refine wpIn_of_yields hy q2 (fun x _ => rep_ev q3 x) q4 fun g' d' u S' w' k1 k2 k3 k4 k5 => ?_
            obtain ⟨hd, hS⟩ := k4
            rw [hS] at k2
            rw [hd] at k3
            exact cont _ g' _ _ (q1.trans k1) k2 (repL_put (q3.mono k1) _ k3) (k1.dk k5) hk
          · rw [hwant] at hw
            have hw' := wantB_sound (o := oi) q3 hw
            rw [if_neg (by simp [hw'])]
            exact ⟨fun _ _ => trivial, cont _ g _ _ q1 q2 (repL_put q3 _ (rep_ud g)) (q4.keep (put_defers _ _ _) fun _ _ h _ => h) hk⟩
        · exfalso
          have hall : ∀ j, j < n → M[j]? = some true := by
            intro j hj
            have hr' := List.all_eq_true.1 ha i (List.mem_range.2 hilt)
            rw [Bool.or_eq_true] at hr'
            rcases hr' with hr' | hr'
            · exact absurd (of_decide_eq_true hr') hin
            · have hr' := List.all_eq_true.1 hr' j (List.mem_range.2 (by omega))
              exact reach_listed hc _ i j oi hoi (fun e he hbe => getD_false.1 (hia e he hbe)) hr'
          refine hr (List.eq_nil_iff_forall_not_mem.2 fun j hj => ?_)
          obtain ⟨h1, o, ho, _⟩ := mem_ready.1 hj
          have hj' : j < n := by have := (Array.getElem?_eq_some_iff.1 ho).1; simp at this; omega
          rw [getD_true, ← hLM j hj', hall j hj'] at h1
          cases h1

def npre (l : List Oper) : Nat := (l.takeWhile fun o => isQ o.op).length

/-- A region that draws the order of what reads; what writes comes behind. -/
theorem awp_drawT {id : Nat} {l : List Oper} {fr : List DV} {S : St} {Q : Exit → List DV → St → Prop} (n : Nat) (hn : n ≤ l.length) (hm : P.follows .mixedOrders = true) (hB : Region.lexB .any (l.take n).toArray = true) (hT : tailB .any l.toArray n = true) (hs : l.all (fun o => okSl o.op) = true)
    (h : LQ P w0 S (l.take n).toArray (fun fr => vcL P w0 l.toArray (fun fr S => Q .normal fr S) (l.drop n) fr S) (l.take n) fr) : AWp P w0 (.region id l.toArray true) fr S Q := by
  intro g a w h1 h2 h3
  simp only [Region.lexB, Bool.and_eq_true] at hB
  refine wpA_region_any hm fun ro => ?_
  have hR : Rel w0 g S { w with drawn := w.drawn + 1 } := h1.grow (below_drew w)
  have hs1 : (l.take n).all (fun o => okSl o.op) = true := List.all_eq_true.2 fun o ho => List.all_eq_true.1 hs o (List.mem_of_mem_take ho)
  have hs2 : (l.drop n).all (fun o => okSl o.op) = true := List.all_eq_true.2 fun o ho => List.all_eq_true.1 hs o (List.mem_of_mem_drop ho)
  have hLQ : LQ P w0 S (l.take n).toArray (fun fr => LWp P w0 l.toArray (fun fr S => Q .normal fr S) (l.drop n) fr S) (l.take n) fr := by
    exact LQ_mono (fun fr h => vcL_sound _ hs2 h) h
  have := wpAnyD_lex (P := P) (w0 := w0) (S := S) (md := .any) (ops := (l.take n).toArray) (l.take n) 0 (Array.replicate (l.take n).toArray.size false) fr (by simp) (by simpa using hB.2) hLQ
  refine wpAny_pre (n := n) (S := S) hT (by simpa using hn) (l.take n).length _ (Array.replicate (l.take n).toArray.size false) _ fr g a _ (by simp; omega) (by simp) ?_ ?_ ?_ (by simp; omega) (.refl g) hR h2 (h3.keep rfl fun _ _ h _ => h) (by simpa using this)
  · intro i hi
    simp only [Array.getElem?_replicate, List.size_toArray, List.length_take]
    rw [if_pos (by omega), if_pos (by omega)]
  · intro i hi hi'
    simp only [Array.getElem?_replicate]
    rw [if_pos hi']
  · intro j o hj hl
    simp [Array.getElem?_replicate] at hl
end
end Aml

namespace Aml
open Go Go.RowKit
set_option linter.unusedVariables false
set_option linter.unusedSimpArgs false

@[congr] theorem c_condD {d : DV} {d' : DV} {A : Prop} {B : Prop} (hd : d = d') : condD d A B = condD d' A B := by cases hd; rfl
@[congr] theorem c_hdK {ds : List DV} {ds' : List DV} {K : DV → Prop} (hds : ds = ds') : hdK ds K = hdK ds' K := by cases hds; rfl
@[congr] theorem c_ldK {k : TK} {k' : TK} {ds : List DV} {ds' : List DV} {K : DV → Prop} (hk : k = k') (hds : ds = ds') : ldK k ds K = ldK k' ds' K := by cases hk; cases hds; rfl
@[congr] theorem c_vPick {c : DV} {c' : DV} {a : DV} {a' : DV} {b : DV} {b' : DV} {K : DV → Prop} (hc : c = c') (ha : a = a') (hb : b = b') : vPick c a b K = vPick c' a' b' K := by cases hc; cases ha; cases hb; rfl
@[congr] theorem c_vLoad {k : TK} {k' : TK} {S : St} {S' : St} {x : DV} {x' : DV} {K : DV → Prop} (hk : k = k') (hS : S = S') (hx : x = x') : vLoad k S x K = vLoad k' S' x' K := by cases hk; cases hS; cases hx; rfl
@[congr] theorem c_vField {k : TK} {k' : TK} {f : Nat} {f' : Nat} {x : DV} {x' : DV} {K : DV → Prop} (hk : k = k') (hf : f = f') (hx : x = x') : vField k f x K = vField k' f' x' K := by cases hk; cases hf; cases hx; rfl
@[congr] theorem c_vIndexAddr {k : TK} {k' : TK} {x : DV} {x' : DV} {i : DV} {i' : DV} {K : DV → Prop} (hk : k = k') (hx : x = x') (hi : i = i') : vIndexAddr k x i K = vIndexAddr k' x' i' K := by cases hk; cases hx; cases hi; rfl
@[congr] theorem c_vExtract {i : Nat} {i' : Nat} {x : DV} {x' : DV} {K : DV → Prop} (hi : i = i') (hx : x = x') : vExtract i x K = vExtract i' x' K := by cases hi; cases hx; rfl
@[congr] theorem c_vFieldV {k : TK} {k' : TK} {f : Nat} {f' : Nat} {x : DV} {x' : DV} {K : DV → Prop} (hk : k = k') (hf : f = f') (hx : x = x') : vFieldV k f x K = vFieldV k' f' x' K := by cases hk; cases hf; cases hx; rfl
@[congr] theorem c_vBinI {op : BinOp} {k : IntKind} {m : Int} {m' : Int} {n : Int} {n' : Int} {K : DV → Prop} (hm : m = m') (hn : n = n') : vBinI op k m n K = vBinI op k m' n' K := by cases hm; cases hn; rfl
@[congr] theorem c_vBinS {op : BinOp} {x : ByteArray} {x' : ByteArray} {y : ByteArray} {y' : ByteArray} {K : DV → Prop} (hx : x = x') (hy : y = y') : vBinS op x y K = vBinS op x' y' K := by cases hx; cases hy; rfl
@[congr] theorem c_vBin {op : BinOp} {t : TK} {t' : TK} {cx : Bool} {cx' : Bool} {cy : Bool} {cy' : Bool} {x : DV} {x' : DV} {y : DV} {y' : DV} {K : DV → Prop} (ht : t = t') (hcx : cx = cx') (hcy : cy = cy') (hx : x = x') (hy : y = y') : vBin op t cx cy x y K = vBin op t' cx' cy' x' y' K := by cases ht; cases hcx; cases hcy; cases hx; cases hy; rfl
@[congr] theorem c_vAggEq {o : Option (List FK)} {o' : Option (List FK)} {op : BinOp} {al : List DV} {al' : List DV} {y : DV} {y' : DV} {K : DV → Prop} (ho : o = o') (hal : al = al') (hy : y = y') : vAggEq o op al y K = vAggEq o' op al' y' K := by cases ho; cases hal; cases hy; rfl
@[congr] theorem c_aggK {ks : List FK} {al : List DV} {al' : List DV} {bs : List DV} {bs' : List DV} {r : Bool} {r' : Bool} {F : Bool → Prop} (hal : al = al') (hbs : bs = bs') (hr : r = r') : aggK ks al bs r F = aggK ks al' bs' r' F := by cases hal; cases hbs; cases hr; rfl
@[congr] theorem c_vUn {op : UnOp} {x : DV} {x' : DV} {K : DV → Prop} (hx : x = x') : vUn op x K = vUn op x' K := by cases hx; rfl
@[congr] theorem c_vConv {a : TK} {a' : TK} {b : TK} {b' : TK} {x : DV} {x' : DV} {K : DV → Prop} (ha : a = a') (hb : b = b') (hx : x = x') : vConv a b x K = vConv a' b' x' K := by cases ha; cases hb; cases hx; rfl
@[congr] theorem c_vConvS {a : TK} {a' : TK} {b : TK} {b' : TK} {ke : TK} {ke' : TK} {S : St} {S' : St} {x : DV} {x' : DV} {K : DV → Prop} (ha : a = a') (hb : b = b') (hke : ke = ke') (hS : S = S') (hx : x = x') : vConvS a b ke S x K = vConvS a' b' ke' S' x' K := by cases ha; cases hb; cases hke; cases hS; cases hx; rfl
@[congr] theorem c_vIndex {k : TK} {k' : TK} {x : DV} {x' : DV} {i : DV} {i' : DV} {K : DV → Prop} (hk : k = k') (hx : x = x') (hi : i = i') : vIndex k x i K = vIndex k' x' i' K := by cases hk; cases hx; cases hi; rfl
@[congr] theorem c_bnd {d : Option DV} {d' : Option DV} {z : Int} {z' : Int} {K : Int → Prop} (hd : d = d') (hz : z = z') : bnd d z K = bnd d' z' K := by cases hd; cases hz; rfl
@[congr] theorem c_vSlice {k : TK} {k' : TK} {x : DV} {x' : DV} {lo : Option DV} {lo' : Option DV} {hi : Option DV} {hi' : Option DV} {mx : Option DV} {mx' : Option DV} {K : DV → Prop} (hk : k = k') (hx : x = x') (hlo : lo = lo') (hhi : hi = hi') (hmx : mx = mx') : vSlice k x lo hi mx K = vSlice k' x' lo' hi' mx' K := by cases hk; cases hx; cases hlo; cases hhi; cases hmx; rfl
@[congr] theorem c_vLen {k : TK} {k' : TK} {x : DV} {x' : DV} {K : DV → Prop} (hk : k = k') (hx : x = x') : vLen k x K = vLen k' x' K := by cases hk; cases hx; rfl
@[congr] theorem c_vCap {k : TK} {k' : TK} {x : DV} {x' : DV} {K : DV → Prop} (hk : k = k') (hx : x = x') : vCap k x K = vCap k' x' K := by cases hk; cases hx; rfl
@[congr] theorem c_vMin {x : DV} {x' : DV} {y : DV} {y' : DV} {K : DV → Prop} (hx : x = x') (hy : y = y') : vMin x y K = vMin x' y' K := by cases hx; cases hy; rfl
@[congr] theorem c_vMax {x : DV} {x' : DV} {y : DV} {y' : DV} {K : DV → Prop} (hx : x = x') (hy : y = y') : vMax x y K = vMax x' y' K := by cases hx; cases hy; rfl
@[congr] theorem c_vStore {n : Nat} {n' : Nat} {S : St} {S' : St} {x : DV} {x' : DV} {y : DV} {y' : DV} {K : St → Prop} (hn : n = n') (hS : S = S') (hx : x = x') (hy : y = y') : vStore n S x y K = vStore n' S' x' y' K := by cases hn; cases hS; cases hx; cases hy; rfl
@[congr] theorem c_vStoreX {n : Nat} {n' : Nat} {S : St} {S' : St} {x : DV} {x' : DV} {y : DV} {y' : DV} {K : St → Prop} (hn : n = n') (hS : S = S') (hx : x = x') (hy : y = y') : vStoreX n S x y K = vStoreX n' S' x' y' K := by cases hn; cases hS; cases hx; cases hy; rfl
@[congr] theorem c_vBuildSlice {k : TK} {k' : TK} {z : DV} {z' : DV} {len : Nat} {len' : Nat} {parts : List (Nat × DV)} {parts' : List (Nat × DV)} {K : DV → Prop} (hk : k = k') (hz : z = z') (hlen : len = len') (hparts : parts = parts') : vBuildSlice k z len parts K = vBuildSlice k' z' len' parts' K := by cases hk; cases hz; cases hlen; cases hparts; rfl
@[congr] theorem c_contK {S : St} {S' : St} {d : DV} {d' : DV} {K : Nat → List DV → Prop} (hS : S = S') (hd : d = d') : contK S d K = contK S' d' K := by cases hS; cases hd; rfl
@[congr] theorem c_vApp {s : Nat} {s' : Nat} {b : Nat} {b' : Nat} {S : St} {S' : St} {x : DV} {x' : DV} {ys : List DV} {ys' : List DV} {K : DV → St → Prop} (hs : s = s') (hb : b = b') (hS : S = S') (hx : x = x') (hys : ys = ys') : vApp s b S x ys K = vApp s' b' S' x' ys' K := by cases hs; cases hb; cases hS; cases hx; cases hys; rfl
@[congr] theorem c_vAppend {k : TK} {k' : TK} {k2 : TK} {k2' : TK} {S : St} {S' : St} {x : DV} {x' : DV} {y : DV} {y' : DV} {K : DV → St → Prop} (hk : k = k') (hk2 : k2 = k2') (hS : S = S') (hx : x = x') (hy : y = y') : vAppend k k2 S x y K = vAppend k' k2' S' x' y' K := by cases hk; cases hk2; cases hS; cases hx; cases hy; rfl
@[congr] theorem c_vAppInt {k : TK} {k' : TK} {z : DV} {z' : DV} {S : St} {S' : St} {x : DV} {x' : DV} {y : DV} {y' : DV} {K : DV → St → Prop} (hk : k = k') (hz : z = z') (hS : S = S') (hx : x = x') (hy : y = y') : vAppInt k z S x y K = vAppInt k' z' S' x' y' K := by cases hk; cases hz; cases hS; cases hx; cases hy; rfl
@[congr] theorem c_vAppC {k : TK} {k' : TK} {k2 : TK} {k2' : TK} {S : St} {S' : St} {x : DV} {x' : DV} {y : DV} {y' : DV} {K : DV → St → Prop} (hk : k = k') (hk2 : k2 = k2') (hS : S = S') (hx : x = x') (hy : y = y') : vAppC k k2 S x y K = vAppC k' k2' S' x' y' K := by cases hk; cases hk2; cases hS; cases hx; cases hy; rfl
@[congr] theorem c_vAppZ {k : TK} {k' : TK} {z : DV} {z' : DV} {S : St} {S' : St} {x : DV} {x' : DV} {y : DV} {y' : DV} {K : DV → St → Prop} (hk : k = k') (hz : z = z') (hS : S = S') (hx : x = x') (hy : y = y') : vAppZ k z S x y K = vAppZ k' z' S' x' y' K := by cases hk; cases hz; cases hS; cases hx; cases hy; rfl
@[congr] theorem c_vCopy {k : TK} {k' : TK} {S : St} {S' : St} {x : DV} {x' : DV} {y : DV} {y' : DV} {K : DV → St → Prop} (hk : k = k') (hS : S = S') (hx : x = x') (hy : y = y') : vCopy k S x y K = vCopy k' S' x' y' K := by cases hk; cases hS; cases hx; cases hy; rfl
@[congr] theorem c_vClear {k : TK} {k' : TK} {z : DV} {z' : DV} {S : St} {S' : St} {x : DV} {x' : DV} {K : DV → St → Prop} (hk : k = k') (hz : z = z') (hS : S = S') (hx : x = x') : vClear k z S x K = vClear k' z' S' x' K := by cases hk; cases hz; cases hS; cases hx; rfl
@[congr] theorem c_copyK {S : St} {S' : St} {s : Nat} {s' : Nat} {ds : List DV} {ds' : List DV} {o : Nat} {o' : Nat} {b : Nat} {n : Nat} {n' : Nat} {y : DV} {y' : DV} {K : DV → St → Prop} (hS : S = S') (hs : s = s') (hds : ds = ds') (ho : o = o') (hn : n = n') (hy : y = y') : copyK S s ds o b n y K = copyK S' s' ds' o' b n' y' K := by cases hS; cases hs; cases hds; cases ho; cases hn; cases hy; rfl
@[congr] theorem c_rowsK {S : St} {S' : St} {s : Nat} {s' : Nat} {y : DV} {y' : DV} {F : Nat → List DV → Prop} (hS : S = S') (hs : s = s') (hy : y = y') : rowsK S s y F = rowsK S' s' y' F := by cases hS; cases hs; cases hy; rfl
@[congr] theorem c_vNilEq {op : BinOp} {k : TK} {k' : TK} {x : DV} {x' : DV} {K : DV → Prop} (hk : k = k') (hx : x = x') : vNilEq op k x K = vNilEq op k' x' K := by cases hk; cases hx; rfl
@[congr] theorem c_vCut0 {S : St} {S' : St} {x : DV} {x' : DV} {z : Nat} {z' : Nat} {K : DV → St → Prop} (hS : S = S') (hx : x = x') (hz : z = z') : vCut0 S x z K = vCut0 S' x' z' K := by cases hS; cases hx; cases hz; rfl
@[congr] theorem c_vSliceX {k : TK} {k' : TK} {S : St} {S' : St} {x : DV} {x' : DV} {lo : Option DV} {lo' : Option DV} {hi : Option DV} {hi' : Option DV} {mx : Option DV} {mx' : Option DV} {K : DV → St → Prop} (hk : k = k') (hS : S = S') (hx : x = x') (hlo : lo = lo') (hhi : hi = hi') (hmx : mx = mx') : vSliceX k S x lo hi mx K = vSliceX k' S' x' lo' hi' mx' K := by cases hk; cases hS; cases hx; cases hlo; cases hhi; cases hmx; rfl
@[congr] theorem c_vSliceS {k : TK} {k' : TK} {S : St} {S' : St} {x : DV} {x' : DV} {lo : Option DV} {lo' : Option DV} {hi : Option DV} {hi' : Option DV} {mx : Option DV} {mx' : Option DV} {K : DV → St → Prop} (hk : k = k') (hS : S = S') (hx : x = x') (hlo : lo = lo') (hhi : hi = hi') (hmx : mx = mx') : vSliceS k S x lo hi mx K = vSliceS k' S' x' lo' hi' mx' K := by cases hk; cases hS; cases hx; cases hlo; cases hhi; cases hmx; rfl
@[congr] theorem c_vMakeSlice {k : TK} {k' : TK} {z : DV} {z' : DV} {x : DV} {x' : DV} {y : DV} {y' : DV} {S : St} {S' : St} {K : DV → St → Prop} (hk : k = k') (hz : z = z') (hx : x = x') (hy : y = y') (hS : S = S') : vMakeSlice k z x y S K = vMakeSlice k' z' x' y' S' K := by cases hk; cases hz; cases hx; cases hy; cases hS; rfl
@[congr] theorem c_shr1 {S : St} {S' : St} {d : DV} {d' : DV} {K : DV → St → Prop} (hS : S = S') (hd : d = d') : shr1 S d K = shr1 S' d' K := by cases hS; cases hd; rfl
@[congr] theorem c_shr1s {S : St} {S' : St} {d : List DV} {d' : List DV} {K : List DV → St → Prop} (hS : S = S') (hd : d = d') : shr1s S d K = shr1s S' d' K := by cases hS; cases hd; rfl
@[congr] theorem c_shr {S : St} {S' : St} {d : DV} {d' : DV} {K : DV → St → Prop} (hS : S = S') (hd : d = d') : shr S d K = shr S' d' K := by cases hS; cases hd; rfl
@[congr] theorem c_shrs {S : St} {S' : St} {d : List DV} {d' : List DV} {K : List DV → St → Prop} (hS : S = S') (hd : d = d') : shrs S d K = shrs S' d' K := by cases hS; cases hd; rfl
@[congr] theorem c_shrT {S : St} {S' : St} {d : DV} {d' : DV} {K : DV → St → Prop} (hS : S = S') (hd : d = d') : shrT S d K = shrT S' d' K := by cases hS; cases hd; rfl
@[congr] theorem c_callK {S : St} {S' : St} {d : List DV} {d' : List DV} {F : List DV → St → Prop} (hS : S = S') (hd : d = d') : callK S d F = callK S' d' F := by cases hS; cases hd; rfl
@[congr] theorem c_fiK {p : Option (Nat × Nat × Bool)} {p' : Option (Nat × Nat × Bool)} {x : DV} {x' : DV} {K : DV → Prop} (hp : p = p') (hx : x = x') : fiK p x K = fiK p' x' K := by cases hp; cases hx; rfl
@[congr] theorem c_fvK {p : Option (Nat × Nat × Bool)} {p' : Option (Nat × Nat × Bool)} {ds : List DV} {ds' : List DV} {K : DV → Prop} (hp : p = p') (hds : ds = ds') : fvK p ds K = fvK p' ds' K := by cases hp; cases hds; rfl
@[congr] theorem c_gD {t : Nat} {t' : Nat} {d : DV} {d' : DV} {fr : List DV} {fr' : List DV} {want : Bool} {want' : Bool} {A : List DV → Prop} {B : List DV → Prop} (ht : t = t') (hd : d = d') (hfr : fr = fr') (hwant : want = want') : gD t d fr want A B = gD t' d' fr' want' A B := by cases ht; cases hd; cases hfr; cases hwant; rfl
@[congr] theorem c_gK {t : Option Tmp} {t' : Option Tmp} {fr : List DV} {fr' : List DV} {want : Bool} {want' : Bool} {A : List DV → Prop} {B : List DV → Prop} (ht : t = t') (hfr : fr = fr') (hwant : want = want') : gK t fr want A B = gK t' fr' want' A B := by cases ht; cases hfr; cases hwant; rfl
@[congr] theorem c_guardK {ops : Array Oper} {fr : List DV} {fr' : List DV} {gd : Option (Nat × Bool)} {gd' : Option (Nat × Bool)} {A : List DV → Prop} {B : List DV → Prop} (hfr : fr = fr') (hgd : gd = gd') : guardK ops fr gd A B = guardK ops fr' gd' A B := by cases hfr; cases hgd; rfl
@[congr] theorem c_buK {k : TK} {k' : TK} {z : DV} {z' : DV} {parts : List (Nat × DV)} {parts' : List (Nat × DV)} {K : DV → Prop} (hk : k = k') (hz : z = z') (hparts : parts = parts') : buK k z parts K = buK k' z' parts' K := by cases hk; cases hz; cases hparts; rfl
@[congr] theorem c_elK {xs : List DV} {xs' : List DV} {i : Nat} {i' : Nat} {F : DV → Prop} (hxs : xs = xs') (hi : i = i') : elK xs i F = elK xs' i' F := by cases hxs; cases hi; rfl
@[congr] theorem c_exK {xs : List DV} {xs' : List DV} {i : Nat} {i' : Nat} {F : DV → Prop} (hxs : xs = xs') (hi : i = i') : exK xs i F = exK xs' i' F := by cases hxs; cases hi; rfl
@[congr] theorem c_bK {o : Option Ob} {o' : Option Ob} {F : Nat → List DV → Prop} {G : Nat → List DV → Prop} (ho : o = o') : bK o F G = bK o' F G := by cases ho; rfl
@[congr] theorem c_xK {o : Option Ob} {o' : Option Ob} {F : KK → List (Value × DV × Nat) → Nat → Prop} (ho : o = o') : xK o F = xK o' F := by cases ho; rfl
@[congr] theorem c_iK {o : Option Ob} {o' : Option Ob} {F : Nat → Nat → List Nat → Nat → Prop} (ho : o = o') : iK o F = iK o' F := by cases ho; rfl
@[congr] theorem c_goK {o : Option DV} {o' : Option DV} {F : DV → Prop} {G : Prop} (ho : o = o') : goK o F G = goK o' F G := by cases ho; rfl
@[congr] theorem c_vLookup {m : Option (KK × DV)} {m' : Option (KK × DV)} {S : St} {S' : St} {x : DV} {x' : DV} {y : DV} {y' : DV} {ok : Bool} {ok' : Bool} {K : DV → Prop} (hm : m = m') (hS : S = S') (hx : x = x') (hy : y = y') (hok : ok = ok') : vLookup m S x y ok K = vLookup m' S' x' y' ok' K := by cases hm; cases hS; cases hx; cases hy; cases hok; rfl
@[congr] theorem c_vMapUpd {m : Option (KK × DV)} {m' : Option (KK × DV)} {S : St} {S' : St} {x : DV} {x' : DV} {y : DV} {y' : DV} {d : DV} {d' : DV} {K : St → Prop} (hm : m = m') (hS : S = S') (hx : x = x') (hy : y = y') (hd : d = d') : vMapUpd m S x y d K = vMapUpd m' S' x' y' d' K := by cases hm; cases hS; cases hx; cases hy; cases hd; rfl
@[congr] theorem c_vDelete {m : Option (KK × DV)} {m' : Option (KK × DV)} {S : St} {S' : St} {x : DV} {x' : DV} {y : DV} {y' : DV} {K : St → Prop} (hm : m = m') (hS : S = S') (hx : x = x') (hy : y = y') : vDelete m S x y K = vDelete m' S' x' y' K := by cases hm; cases hS; cases hx; cases hy; rfl
@[congr] theorem c_vRange {m : Option (KK × DV)} {m' : Option (KK × DV)} {S : St} {S' : St} {x : DV} {x' : DV} {K : DV → St → Prop} (hm : m = m') (hS : S = S') (hx : x = x') : vRange m S x K = vRange m' S' x' K := by cases hm; cases hS; cases hx; rfl
@[congr] theorem c_vMakeMap {m : Option (KK × DV)} {m' : Option (KK × DV)} {r : Option Operand} {S : St} {S' : St} {K : DV → St → Prop} (hm : m = m') (hS : S = S') : vMakeMap m r S K = vMakeMap m' r S' K := by cases hm; cases hS; rfl
@[congr] theorem c_vNext {S : St} {S' : St} {x : DV} {x' : DV} {s : Bool} {s' : Bool} {K : DV → St → Prop} (hS : S = S') (hx : x = x') (hs : s = s') : vNext S x s K = vNext S' x' s' K := by cases hS; cases hx; cases hs; rfl
@[congr] theorem c_vEntry {S : St} {S' : St} {x : DV} {x' : DV} {K : DV → Prop} (hS : S = S') (hx : x = x') : vEntry S x K = vEntry S' x' K := by cases hS; cases hx; rfl
@[congr] theorem c_oK {α : Type} {o o' : Option α} {F : α → Prop} (h : o = o') : oK o F = oK o' F := by cases h; rfl
@[congr] theorem c_vcOp {P : Program} {w0 : W0} {op : Op} {fr : List DV} {fr' : List DV} {S : St} {S' : St} {K : DV → St → Prop} (hfr : fr = fr') (hS : S = S') : vcOp P w0 op fr S K = vcOp P w0 op fr' S' K := by cases hfr; cases hS; rfl
@[congr] theorem c_vcOpQ {P : Program} {w0 : W0} {op : Op} {fr : List DV} {fr' : List DV} {S : St} {S' : St} {K : DV → Prop} (hfr : fr = fr') (hS : S = S') : vcOpQ P w0 op fr S K = vcOpQ P w0 op fr' S' K := by cases hfr; cases hS; rfl
@[congr] theorem c_vCall {P : Program} {w0 : W0} {cal : DV} {cal' : DV} {ds : List DV} {ds' : List DV} {S : St} {S' : St} {K : DV → St → Prop} (hcal : cal = cal') (hds : ds = ds') (hS : S = S') : vCall P w0 cal ds S K = vCall P w0 cal' ds' S' K := by cases hcal; cases hds; cases hS; rfl
@[congr] theorem c_vCallQ {P : Program} {w0 : W0} {cal : DV} {cal' : DV} {ds : List DV} {ds' : List DV} {S : St} {S' : St} {K : DV → Prop} (hcal : cal = cal') (hds : ds = ds') (hS : S = S') : vCallQ P w0 cal ds S K = vCallQ P w0 cal' ds' S' K := by cases hcal; cases hds; cases hS; rfl
@[congr] theorem c_vcL {P : Program} {w0 : W0} {ops : Array Oper} {K : List DV → St → Prop} {l : List Oper} {fr : List DV} {fr' : List DV} {S : St} {S' : St} (hfr : fr = fr') (hS : S = S') : vcL P w0 ops K l fr S = vcL P w0 ops K l fr' S' := by cases hfr; cases hS; rfl
@[congr] theorem c_vBinA {P : Program} {op : BinOp} {t : TypeId} {cx : Bool} {cx' : Bool} {cy : Bool} {cy' : Bool} {x : DV} {x' : DV} {y : DV} {y' : DV} {K : DV → Prop} (hcx : cx = cx') (hcy : cy = cy') (hx : x = x') (hy : y = y') : vBinA P op t cx cy x y K = vBinA P op t cx' cy' x' y' K := by cases hcx; cases hcy; cases hx; cases hy; rfl
@[congr] theorem c_vBuild {P : Program} {t : TypeId} {parts : List (Nat × DV)} {parts' : List (Nat × DV)} {K : DV → Prop} (hparts : parts = parts') : vBuild P t parts K = vBuild P t parts' K := by cases hparts; rfl
@[congr] theorem c_vAssert {P : Program} {t : TypeId} {ok : Bool} {ok' : Bool} {x : DV} {x' : DV} {K : DV → Prop} (hok : ok = ok') (hx : x = x') : vAssert P t ok x K = vAssert P t ok' x' K := by cases hok; cases hx; rfl
@[congr] theorem c_resK1 {P : Program} {fr : List DV} {fr' : List DV} {S : St} {S' : St} {K : DV → Prop} {r : ResultVar} (hfr : fr = fr') (hS : S = S') : resK1 P fr S K r = resK1 P fr' S' K r := by cases hfr; cases hS; rfl
@[congr] theorem c_resKs {P : Program} {fr : List DV} {fr' : List DV} {S : St} {S' : St} {r : List ResultVar} {K : List DV → Prop} (hfr : fr = fr') (hS : S = S') : resKs P fr S r K = resKs P fr' S' r K := by cases hfr; cases hS; rfl
@[congr] theorem c_resK {P : Program} {fr : List DV} {fr' : List DV} {S : St} {S' : St} {r : List ResultVar} {K : DV → Prop} (hfr : fr = fr') (hS : S = S') : resK P fr S r K = resK P fr' S' r K := by cases hfr; cases hS; rfl

def selK (b : Bool) (A B : Prop) : Prop := match b with
  | true => A
  | false => B
theorem n_sel_t (A B : Prop) : selK true A B = A := rfl
theorem n_sel_f (A B : Prop) : selK false A B = B := rfl
@[congr] theorem c_selK {b b' : Bool} {A B : Prop} (h : b = b') : selK b A B = selK b' A B := by cases h; rfl
theorem n_callK (S : St) (ds : List DV) (F : List DV → St → Prop) : callK S ds F = selK (hasAcc ds) (F ds S ∨ shrs S ds F) (shrs S ds F) := by
  unfold callK selK; cases hasAcc ds <;> rfl
attribute [go_sem ↓] n_sel_t n_sel_f n_callK
/-- A new box. -/
def bxK (S : St) (d : DV) (K : DV → St → Prop) : Prop := ∀ b, nin S.box b → K (.v (.pointer (some ⟨b, 0, none⟩))) ⟨(b, cd d) :: S.box, S.acc⟩
@[congr] theorem c_bxK {S S' : St} {d d' : DV} {K : DV → St → Prop} (h1 : S = S') (h2 : d = d') : bxK S d K = bxK S' d' K := by cases h1; cases h2; rfl
theorem e_isQ_move (x : Operand) : isQ (.move x) = true := rfl
theorem e_isQ_assign (x : Operand) : isQ (.assign x) = true := rfl
theorem e_isQ_pick (c a b : Operand) : isQ (.pick c a b) = true := rfl
theorem e_isQ_load (t : TypeId) (x : Operand) : isQ (.load t x) = true := rfl
theorem e_isQ_fieldAddr (t : TypeId) (x : Operand) (f : Nat) : isQ (.fieldAddr t x f) = true := rfl
theorem e_isQ_indexAddr (t : TypeId) (x i : Operand) : isQ (.indexAddr t x i) = true := rfl
theorem e_isQ_binOp (b : BinOp) (t : TypeId) (x y : Operand) (t' : TypeId) : isQ (.binOp b t x y t') = true := rfl
theorem e_isQ_unOp (b : UnOp) (t : TypeId) (x : Operand) : isQ (.unOp b t x) = true := rfl
theorem e_isQ_convert (s d : TypeId) (x : Operand) : isQ (.convert s d x) = true := rfl
theorem e_isQ_build (t : TypeId) (parts : Array (Nat × Operand)) : isQ (.build t parts) = true := rfl
theorem e_isQ_buildSlice (t : TypeId) (len : Nat) (parts : Array (Nat × Operand)) : isQ (.buildSlice t len parts) = true := rfl
theorem e_isQ_slice (t : TypeId) (x : Operand) (lo hi mx : Option Operand) : isQ (.slice t x lo hi mx) = true := rfl
theorem e_isQ_store (t : TypeId) (x y : Operand) : isQ (.store t x y) = false := rfl
theorem e_isQ_val (x : Operand) (a : Array Operand) (ts : Array TypeId) : isQ (.call ⟨.value x, a, ts⟩) = true := rfl
theorem e_isQ_b_len (a : Array Operand) (ts : Array TypeId) : isQ (.call ⟨.builtin .len, a, ts⟩) = true := rfl
theorem e_isQ_b_append (a : Array Operand) (ts : Array TypeId) : isQ (.call ⟨.builtin .append, a, ts⟩) = false := rfl
theorem e_isQ_b_copy (a : Array Operand) (ts : Array TypeId) : isQ (.call ⟨.builtin .copy, a, ts⟩) = false := rfl
theorem e_ev_tmp (fr : List DV) (t : Nat) : ev fr (.tmp t) = fr.getD t ud := rfl
theorem e_ev_const (fr : List DV) (u : Value) : ev fr (.const u) = cv u := rfl
theorem e_ev_func (fr : List DV) (f : FuncId) : ev fr (.func f) = .v (.func (.func f) #[] #[]) := rfl
theorem e_pt_some (fr : List DV) (t : Nat) (d : DV) : pt fr (some t) d = fr.set t d := rfl
theorem e_pt_none (fr : List DV) (d : DV) : pt fr none d = fr := rfl
theorem e_cv_int (k : IntKind) (n : Int) : cv (.int k n) = .v (.int k n) := rfl
theorem e_cv_bool (b : Bool) : cv (.bool b) = .v (.bool b) := rfl
theorem e_cv_str (s : ByteArray) : cv (.string s) = .v (.string s) := rfl
theorem e_cv_nil  : cv (.slice none 0 0) = .sl 0 true [] := rfl
theorem e_cv_nfn  : cv (.nilFunc) = .v .nilFunc := rfl
theorem e_isIfc_str  : isIfc (.str ) = false := rfl
theorem e_intK_int (k : IntKind) : intK (.int k) = true := rfl
theorem e_intK_sl (e s b : Nat) (i : Bool) : intK (.sl e s b i) = false := rfl
theorem e_notInt_sl (e s b : Nat) (i : Bool) : notInt (.sl e s b i) = true := rfl
theorem e_nacc_v (u : Value) : nacc (.v u) = true := rfl
theorem e_nacc_sl (s : Nat) (f : Bool) (xs : List DV) : nacc (.sl s f xs) = true := rfl
theorem e_naccA_v (u : Value) : naccA (.v u) = true := rfl
theorem e_naccA_sl (s : Nat) (f : Bool) (xs : List DV) : naccA (.sl s f xs) = true := rfl
theorem e_naccA_agg (ds : List DV) : naccA (.agg ds) = ds.all nacc := rfl
theorem e_isC_tmp (t : Nat) : isC (.tmp t) = false := rfl
theorem e_isC_const (u : Value) : isC (.const u) = true := rfl
theorem e_vals_nil : vals [] = some [] := rfl
theorem e_vals_v (u : Value) (ds : List DV) : vals (.v u :: ds) = (vals ds).map (u :: ·) := rfl
theorem e_fillD_nil (fs : List (Nat × Nat × Bool)) (ds : List DV) : fillD fs ds [] = some ds := rfl
def fd1 (p : Option (Nat × Nat × Bool)) (fs : List (Nat × Nat × Bool)) (d : DV) (ds : List DV) (rest : List (Nat × DV)) : Option (List DV) := match p with
  | none => none
  | some (off, sz, _) => if okE d && (cd d).length == sz && decide (off + sz ≤ ds.length) then fillD fs (setAll ds off (cd d)) rest else none
theorem e_fillD_cons (fs : List (Nat × Nat × Bool)) (ds : List DV) (i : Nat) (d : DV) (rest : List (Nat × DV)) : fillD fs ds ((i, d) :: rest) = fd1 (fs[i]?) fs d ds rest := by rw [fillD]; unfold fd1; cases fs[i]? <;> rfl
theorem e_fd1 (off sz : Nat) (ag : Bool) (fs : List (Nat × Nat × Bool)) (d : DV) (ds : List DV) (rest : List (Nat × DV)) : fd1 (some (off, sz, ag)) fs d ds rest = if okE d && (cd d).length == sz && decide (off + sz ≤ ds.length) then fillD fs (setAll ds off (cd d)) rest else none := rfl
theorem e_fillE_nil (s : Nat) (ds : List DV) : fillE s ds [] = some ds := rfl
theorem e_fillE_cons (s : Nat) (ds : List DV) (i : Nat) (d : DV) (rest : List (Nat × DV)) : fillE s ds ((i, d) :: rest) = if okE d && (cd d).length == s && decide (i < ds.length) then fillE s (ds.set i d) rest else none := rfl
theorem e_setAll_nil (ds : List DV) (o : Nat) : setAll ds o [] = ds := rfl
theorem e_setAll_cons (ds : List DV) (o : Nat) (c : DV) (cs : List DV) : setAll ds o (c :: cs) = setAll (ds.set o c) (o + 1) cs := rfl
theorem e_elSet_all (d : DV) (n : Nat) (y : DV) : elSet d 0 n n y = some y := by simp [elSet]
theorem e_elSet_agg (ds : List DV) (o n s : Nat) (y : DV) : elSet (.agg ds) o n s y = if o = 0 ∧ n = s then some y else some (.agg (setAll ds o (cd y))) := rfl
theorem e_ren_same (k : Nat) (x : Ob) (t : List (Nat × Ob)) (p : Nat × Ob) : ren ((k, x) :: t) k p = p :: t := by simp [ren]
theorem e_same_add (k : IntKind) : sameKind .add k k = true := by simp [sameKind]
theorem e_same_sub (k : IntKind) : sameKind .sub k k = true := by simp [sameKind]
theorem e_same_mul (k : IntKind) : sameKind .mul k k = true := by simp [sameKind]
theorem e_same_quo (k : IntKind) : sameKind .quo k k = true := by simp [sameKind]
theorem e_same_rem (k : IntKind) : sameKind .rem k k = true := by simp [sameKind]
theorem e_same_xor (k : IntKind) : sameKind .xor k k = true := by simp [sameKind]
theorem e_same_eql (k : IntKind) : sameKind .eql k k = true := by simp [sameKind]
theorem e_same_neq (k : IntKind) : sameKind .neq k k = true := by simp [sameKind]
theorem e_same_lss (k : IntKind) : sameKind .lss k k = true := by simp [sameKind]
theorem e_same_leq (k : IntKind) : sameKind .leq k k = true := by simp [sameKind]
theorem e_same_gtr (k : IntKind) : sameKind .gtr k k = true := by simp [sameKind]
theorem e_same_geq (k : IntKind) : sameKind .geq k k = true := by simp [sameKind]
theorem e_same_shr (k k' : IntKind) : sameKind .shr k k' = true := rfl
theorem e_replicate_0 {α : Type} (a : α) : List.replicate 0 a = [] := rfl
theorem e_replicate_s {α : Type} (n : Nat) (a : α) : List.replicate (n + 1) a = a :: List.replicate n a := rfl
theorem e_set_0 {α : Type} (a b : α) (l : List α) : (a :: l).set 0 b = b :: l := rfl
theorem e_set_s {α : Type} (a b : α) (l : List α) (n : Nat) : (a :: l).set (n + 1) b = a :: l.set n b := rfl
theorem e_wk (live : List Nat) (fr : List DV) : wk live fr = foldF (wkA fr 0 live) := rfl
theorem e_wkA_nil (i : Nat) (js : List Nat) : wkA [] i js = [] := rfl
theorem e_wkA_n (d : DV) (ds : List DV) (i : Nat) : wkA (d :: ds) i [] = .any :: wkA ds (i + 1) [] := rfl
theorem e_wkA_c (d : DV) (ds : List DV) (i j : Nat) (js : List Nat) : wkA (d :: ds) i (j :: js) = if i = j then d :: wkA ds (i + 1) js else .any :: wkA ds (i + 1) (j :: js) := rfl
theorem e_upds_nil (fr : List DV) : upds fr [] = fr := rfl
theorem e_upds_cons (fr : List DV) (i : Nat) (d : DV) (us : List (Nat × DV)) : upds fr ((i, d) :: us) = upds (fr.set i d) us := rfl
theorem e_app_nil {α : Type} (l : List α) : List.append [] l = l := rfl
theorem e_app_cons {α : Type} (a : α) (l m : List α) : List.append (a :: l) m = a :: List.append l m := rfl
theorem v_move {P : Program} {w0 : W0} {fr : List DV} {S : St} {K : DV → St → Prop} (x : Operand) : vcOp P w0 (.move x) fr S K = (K (ev fr x) S) := rfl
theorem v_assign {P : Program} {w0 : W0} {fr : List DV} {S : St} {K : DV → St → Prop} (x : Operand) : vcOp P w0 (.assign x) fr S K = (K (ev fr x) S) := rfl
theorem v_pick {P : Program} {w0 : W0} {fr : List DV} {S : St} {K : DV → St → Prop} (c a b : Operand) : vcOp P w0 (.pick c a b) fr S K = (vPick (ev fr c) (ev fr a) (ev fr b) (K · S)) := rfl
theorem v_load {P : Program} {w0 : W0} {fr : List DV} {S : St} {K : DV → St → Prop} (t : TypeId) (x : Operand) : vcOp P w0 (.load t x) fr S K = (vLoad (tk P t) S (ev fr x) (K · S)) := rfl
theorem v_fieldAddr {P : Program} {w0 : W0} {fr : List DV} {S : St} {K : DV → St → Prop} (t : TypeId) (x : Operand) (f : Nat) : vcOp P w0 (.fieldAddr t x f) fr S K = (vField (tk P t) f (ev fr x) (K · S)) := rfl
theorem v_indexAddr {P : Program} {w0 : W0} {fr : List DV} {S : St} {K : DV → St → Prop} (t : TypeId) (x i : Operand) : vcOp P w0 (.indexAddr t x i) fr S K = (vIndexAddr (tk P t) (ev fr x) (ev fr i) (K · S)) := rfl
theorem v_index {P : Program} {w0 : W0} {fr : List DV} {S : St} {K : DV → St → Prop} (t : TypeId) (x i : Operand) : vcOp P w0 (.index t x i) fr S K = (vIndex (tk P t) (ev fr x) (ev fr i) (K · S)) := rfl
theorem v_extract {P : Program} {w0 : W0} {fr : List DV} {S : St} {K : DV → St → Prop} (x : Operand) (i : Nat) : vcOp P w0 (.extract x i) fr S K = (vExtract i (ev fr x) (K · S)) := rfl
theorem v_nilCheck {P : Program} {w0 : W0} {fr : List DV} {S : St} {K : DV → St → Prop} (x : Operand) : vcOp P w0 (.nilCheck x) fr S K = (notNil (ev fr x) = true ∧ K (ev fr x) S) := rfl
theorem v_binOp {P : Program} {w0 : W0} {fr : List DV} {S : St} {K : DV → St → Prop} (b : BinOp) (t : TypeId) (x y : Operand) (t' : TypeId) : vcOp P w0 (.binOp b t x y t') fr S K = (selK (isNilC y) (vNilEq b (tk P t) (ev fr x) (K · S)) (vBinA P b t (isC x) (isC y) (ev fr x) (ev fr y) (K · S))) := by simp only [vcOp]; unfold selK; cases isNilC y <;> rfl
theorem v_unOp {P : Program} {w0 : W0} {fr : List DV} {S : St} {K : DV → St → Prop} (b : UnOp) (t : TypeId) (x : Operand) : vcOp P w0 (.unOp b t x) fr S K = (vUn b (ev fr x) (K · S)) := rfl
theorem v_convert {P : Program} {w0 : W0} {fr : List DV} {S : St} {K : DV → St → Prop} (s d : TypeId) (x : Operand) : vcOp P w0 (.convert s d x) fr S K = (vConvS (tk P s) (tk P d) (tk P (elT P s)) S (ev fr x) (K · S)) := rfl
theorem v_mkIfc {P : Program} {w0 : W0} {fr : List DV} {S : St} {K : DV → St → Prop} (t : TypeId) (x : Operand) : vcOp P w0 (.makeInterface t x) fr S K = (isIfc (tk P t) = false ∧ shr S (ev fr x) fun d S => K (.ifc t d) S) := rfl
theorem v_build {P : Program} {w0 : W0} {fr : List DV} {S : St} {K : DV → St → Prop} (t : TypeId) (parts : List (Nat × Operand)) : vcOp P w0 (.build t parts.toArray) fr S K = (shrs S (parts.map fun p => ev fr p.2) fun ds S => vBuild P t ((parts.map (·.1)).zip ds) (K · S)) := rfl
theorem v_buildSlice {P : Program} {w0 : W0} {fr : List DV} {S : St} {K : DV → St → Prop} (t : TypeId) (len : Nat) (parts : List (Nat × Operand)) : vcOp P w0 (.buildSlice t len parts.toArray) fr S K = (shrs S (parts.map fun p => ev fr p.2) fun ds S => vBuildSlice (tk P t) (zD P (elT P t)) len ((parts.map (·.1)).zip ds) (K · S)) := rfl
theorem v_makeFunc {P : Program} {w0 : W0} {fr : List DV} {S : St} {K : DV → St → Prop} (fn : Fn) (a b : List Operand) : vcOp P w0 (.makeFunc fn a.toArray b.toArray) fr S K = (vFunc fn (a.map (ev fr)) (b.map (ev fr)) (K · S)) := rfl
theorem v_slice {P : Program} {w0 : W0} {fr : List DV} {S : St} {K : DV → St → Prop} (t : TypeId) (x : Operand) (lo hi mx : Option Operand) : vcOp P w0 (.slice t x lo hi mx) fr S K = ((mx.isSome = true → hi.isSome = true) ∧ vSliceX (tk P t) S (ev fr x) (lo.map (ev fr)) (hi.map (ev fr)) (mx.map (ev fr)) K) := rfl
theorem v_box {P : Program} {w0 : W0} {fr : List DV} {S : St} {K : DV → St → Prop} (t : TypeId) (x : Operand) : vcOp P w0 (.box t x) fr S K = (okE (ev fr x) = true ∧ bxK S (ev fr x) K) := rfl
theorem v_alloc {P : Program} {w0 : W0} {fr : List DV} {S : St} {K : DV → St → Prop} (t : TypeId) : vcOp P w0 (.alloc t) fr S K = (okE (zD P t) = true ∧ bxK S (zD P t) K) := rfl
theorem v_store {P : Program} {w0 : W0} {fr : List DV} {S : St} {K : DV → St → Prop} (t : TypeId) (x y : Operand) : vcOp P w0 (.store t x y) fr S K = ((P.info? t).isSome = true ∧ vStoreX (P.cellsOf t) S (ev fr x) (ev fr y) (K ud)) := rfl
theorem v_makeSlice {P : Program} {w0 : W0} {fr : List DV} {S : St} {K : DV → St → Prop} (t : TypeId) (x y : Operand) : vcOp P w0 (.makeSlice t x y) fr S K = (vMakeSlice (tk P t) (zD P (elT P t)) (ev fr x) (ev fr y) S K) := rfl
theorem v_len {P : Program} {w0 : W0} {fr : List DV} {S : St} {K : DV → St → Prop} (x : Operand) (t : TypeId) : vcOp P w0 (.call ⟨.builtin .len, #[x], #[t]⟩) fr S K = (vLen (tk P t) (ev fr x) (K · S)) := rfl
theorem v_cap {P : Program} {w0 : W0} {fr : List DV} {S : St} {K : DV → St → Prop} (x : Operand) (t : TypeId) : vcOp P w0 (.call ⟨.builtin .cap, #[x], #[t]⟩) fr S K = (vCap (tk P t) (ev fr x) (K · S)) := rfl
theorem v_append {P : Program} {w0 : W0} {fr : List DV} {S : St} {K : DV → St → Prop} (x y : Operand) (t t' : TypeId) : vcOp P w0 (.call ⟨.builtin .append, #[x, y], #[t, t']⟩) fr S K = (selK (isRow (ev fr x)) (selK (intK (tk P t')) (vAppZ (tk P t) (zD P (elT P t)) S (ev fr x) (ev fr y) K) (vAppC (tk P t) (tk P t') S (ev fr x) (ev fr y) K)) (selK (intK (tk P t')) (vAppInt (tk P t) (zD P (elT P t)) S (ev fr x) (ev fr y) K) (vAppend (tk P t) (tk P t') S (ev fr x) (ev fr y) K))) := by simp only [vcOp]; unfold selK; cases isRow (ev fr x) <;> cases intK (tk P t') <;> rfl
theorem v_copy {P : Program} {w0 : W0} {fr : List DV} {S : St} {K : DV → St → Prop} (x y : Operand) (t t' : TypeId) : vcOp P w0 (.call ⟨.builtin .copy, #[x, y], #[t, t']⟩) fr S K = (vCopy (tk P t) S (ev fr x) (ev fr y) K) := rfl
theorem v_min {P : Program} {w0 : W0} {fr : List DV} {S : St} {K : DV → St → Prop} (x y : Operand) (ts : Array TypeId) : vcOp P w0 (.call ⟨.builtin .min, #[x, y], ts⟩) fr S K = (vMin (ev fr x) (ev fr y) (K · S)) := rfl
theorem v_max {P : Program} {w0 : W0} {fr : List DV} {S : St} {K : DV → St → Prop} (x y : Operand) (ts : Array TypeId) : vcOp P w0 (.call ⟨.builtin .max, #[x, y], ts⟩) fr S K = (vMax (ev fr x) (ev fr y) (K · S)) := rfl
theorem v_call {P : Program} {w0 : W0} {fr : List DV} {S : St} {K : DV → St → Prop} (cal : Operand) (a : List Operand) (ts : Array TypeId) : vcOp P w0 (.call ⟨.value cal, a.toArray, ts⟩) fr S K = (vCall P w0 (ev fr cal) (a.map (ev fr)) S K) := rfl
theorem w_move {P : Program} {w0 : W0} {fr : List DV} {S : St} {K : DV → Prop} (x : Operand) : vcOpQ P w0 (.move x) fr S K = (K (ev fr x)) := rfl
theorem w_assign {P : Program} {w0 : W0} {fr : List DV} {S : St} {K : DV → Prop} (x : Operand) : vcOpQ P w0 (.assign x) fr S K = (K (ev fr x)) := rfl
theorem w_pick {P : Program} {w0 : W0} {fr : List DV} {S : St} {K : DV → Prop} (c a b : Operand) : vcOpQ P w0 (.pick c a b) fr S K = (vPick (ev fr c) (ev fr a) (ev fr b) K) := rfl
theorem w_load {P : Program} {w0 : W0} {fr : List DV} {S : St} {K : DV → Prop} (t : TypeId) (x : Operand) : vcOpQ P w0 (.load t x) fr S K = (vLoad (tk P t) S (ev fr x) K) := rfl
theorem w_fieldAddr {P : Program} {w0 : W0} {fr : List DV} {S : St} {K : DV → Prop} (t : TypeId) (x : Operand) (f : Nat) : vcOpQ P w0 (.fieldAddr t x f) fr S K = (vField (tk P t) f (ev fr x) K) := rfl
theorem w_indexAddr {P : Program} {w0 : W0} {fr : List DV} {S : St} {K : DV → Prop} (t : TypeId) (x i : Operand) : vcOpQ P w0 (.indexAddr t x i) fr S K = (vIndexAddr (tk P t) (ev fr x) (ev fr i) K) := rfl
theorem w_extract {P : Program} {w0 : W0} {fr : List DV} {S : St} {K : DV → Prop} (x : Operand) (i : Nat) : vcOpQ P w0 (.extract x i) fr S K = (vExtract i (ev fr x) K) := rfl
theorem w_nilCheck {P : Program} {w0 : W0} {fr : List DV} {S : St} {K : DV → Prop} (x : Operand) : vcOpQ P w0 (.nilCheck x) fr S K = (notNil (ev fr x) = true ∧ K (ev fr x)) := rfl
theorem w_binOp {P : Program} {w0 : W0} {fr : List DV} {S : St} {K : DV → Prop} (b : BinOp) (t : TypeId) (x y : Operand) (t' : TypeId) : vcOpQ P w0 (.binOp b t x y t') fr S K = (isNilC y = false ∧ vBinA P b t (isC x) (isC y) (ev fr x) (ev fr y) K) := rfl
theorem w_unOp {P : Program} {w0 : W0} {fr : List DV} {S : St} {K : DV → Prop} (b : UnOp) (t : TypeId) (x : Operand) : vcOpQ P w0 (.unOp b t x) fr S K = (vUn b (ev fr x) K) := rfl
theorem w_convert {P : Program} {w0 : W0} {fr : List DV} {S : St} {K : DV → Prop} (s d : TypeId) (x : Operand) : vcOpQ P w0 (.convert s d x) fr S K = (vConv (tk P s) (tk P d) (ev fr x) K) := rfl
theorem w_slice {P : Program} {w0 : W0} {fr : List DV} {S : St} {K : DV → Prop} (t : TypeId) (x : Operand) (lo hi mx : Option Operand) : vcOpQ P w0 (.slice t x lo hi mx) fr S K = ((mx.isSome = true → hi.isSome = true) ∧ nacc (ev fr x) = true ∧ vSlice (tk P t) (ev fr x) (lo.map (ev fr)) (hi.map (ev fr)) (mx.map (ev fr)) K) := rfl
theorem w_build {P : Program} {w0 : W0} {fr : List DV} {S : St} {K : DV → Prop} (t : TypeId) (parts : List (Nat × Operand)) : vcOpQ P w0 (.build t parts.toArray) fr S K = ((parts.map fun p => ev fr p.2).all naccA = true ∧ vBuild P t ((parts.map (·.1)).zip (parts.map fun p => ev fr p.2)) K) := rfl
theorem w_buildSlice {P : Program} {w0 : W0} {fr : List DV} {S : St} {K : DV → Prop} (t : TypeId) (len : Nat) (parts : List (Nat × Operand)) : vcOpQ P w0 (.buildSlice t len parts.toArray) fr S K = ((parts.map fun p => ev fr p.2).all naccA = true ∧ vBuildSlice (tk P t) (zD P (elT P t)) len ((parts.map (·.1)).zip (parts.map fun p => ev fr p.2)) K) := rfl
theorem w_len {P : Program} {w0 : W0} {fr : List DV} {S : St} {K : DV → Prop} (x : Operand) (t : TypeId) : vcOpQ P w0 (.call ⟨.builtin .len, #[x], #[t]⟩) fr S K = (vLen (tk P t) (ev fr x) K) := rfl
theorem w_max {P : Program} {w0 : W0} {fr : List DV} {S : St} {K : DV → Prop} (x y : Operand) (ts : Array TypeId) : vcOpQ P w0 (.call ⟨.builtin .max, #[x, y], ts⟩) fr S K = (vMax (ev fr x) (ev fr y) K) := rfl
theorem w_call {P : Program} {w0 : W0} {fr : List DV} {S : St} {K : DV → Prop} (cal : Operand) (a : List Operand) (ts : Array TypeId) : vcOpQ P w0 (.call ⟨.value cal, a.toArray, ts⟩) fr S K = (vCallQ P w0 (ev fr cal) (a.map (ev fr)) S K) := rfl
attribute [go_sem ↓] v_move v_assign v_pick v_load v_fieldAddr v_indexAddr v_index v_extract v_nilCheck v_binOp v_unOp v_convert v_mkIfc v_build v_buildSlice v_makeFunc v_slice v_box v_alloc v_store v_makeSlice v_len v_cap v_append v_copy v_min v_max v_call w_move w_assign
attribute [go_sem ↓] w_pick w_load w_fieldAddr w_indexAddr w_extract w_nilCheck w_binOp w_unOp w_convert w_slice w_build w_buildSlice w_len w_max w_call
attribute [go_sem] e_isQ_move e_isQ_assign e_isQ_pick e_isQ_load e_isQ_fieldAddr e_isQ_indexAddr e_isQ_binOp e_isQ_unOp e_isQ_convert e_isQ_build e_isQ_buildSlice e_isQ_slice e_isQ_store e_isQ_val e_isQ_b_len e_isQ_b_append e_isQ_b_copy e_ev_tmp
attribute [go_sem] e_ev_const e_ev_func e_pt_some e_pt_none e_cv_int e_cv_bool e_cv_str e_cv_nil e_cv_nfn e_isIfc_str e_intK_int e_intK_sl
attribute [go_sem] e_notInt_sl e_nacc_v e_nacc_sl e_naccA_v e_naccA_sl e_naccA_agg e_isC_tmp e_isC_const e_vals_nil e_vals_v e_fillD_nil e_fillD_cons e_fd1 e_fillE_nil
attribute [go_sem] e_fillE_cons e_setAll_nil e_setAll_cons e_elSet_all e_elSet_agg e_ren_same e_same_add e_same_sub e_same_mul e_same_quo e_same_rem e_same_xor e_same_eql e_same_neq e_same_lss e_same_leq e_same_gtr e_same_geq e_same_shr e_replicate_0 e_replicate_s e_set_0 e_set_s e_wk e_wkA_nil e_wkA_n e_wkA_c e_upds_nil e_upds_cons e_app_nil e_app_cons
section
variable {P : Program} {w0 : W0} {K : DV → Prop} {A B : Prop} {F G : List DV → Prop}
/- Tests: what is known is gone by; what can't be known parts the way. -/
theorem n_cond_t : condD (.v (.bool true)) A B = A := by simp [condD]
theorem n_cond_f : condD (.v (.bool false)) A B = B := by simp [condD]
theorem n_cond_d (p : Prop) [Decidable p] : condD (.v (.bool (decide p))) A B = ((p → A) ∧ (¬ p → B)) := by simp [condD]
theorem n_cond_n (b : Bool) : condD (.v (.bool (!b))) A B = condD (.v (.bool b)) B A := by
  simp only [condD, Bool.not_eq_eq_eq_not, Bool.not_true, Bool.not_false]
  exact propext ⟨fun h => ⟨h.2, h.1⟩, fun h => ⟨h.2, h.1⟩⟩
theorem n_cond_b (b : Bool) : condD (.v (.bool b)) A B = ((b = true → A) ∧ (b = false → B)) := rfl
theorem n_pick_t (a b : DV) : vPick (.v (.bool true)) a b K = K a := by simp [vPick]
theorem n_pick_f (a b : DV) : vPick (.v (.bool false)) a b K = K b := by simp [vPick]
/- A choice between what is known is the test itself. -/
theorem n_gD_tt (t : Nat) (fr : List DV) : gD t (.v (.bool true)) fr true F G = F (fr.set t (.v (.bool true))) := by simp [gD]
theorem n_gD_tf (t : Nat) (fr : List DV) : gD t (.v (.bool true)) fr false F G = G (fr.set t (.v (.bool true))) := by simp [gD]
theorem n_gD_ft (t : Nat) (fr : List DV) : gD t (.v (.bool false)) fr true F G = G (fr.set t (.v (.bool false))) := by simp [gD]
theorem n_gD_ff (t : Nat) (fr : List DV) : gD t (.v (.bool false)) fr false F G = F (fr.set t (.v (.bool false))) := by simp [gD]
theorem n_gD_dt (p : Prop) [Decidable p] (t : Nat) (fr : List DV) : gD t (.v (.bool (decide p))) fr true F G = ((p → F (fr.set t (.v (.bool true)))) ∧ (¬ p → G (fr.set t (.v (.bool false))))) := by simp [gD]
theorem n_gD_df (p : Prop) [Decidable p] (t : Nat) (fr : List DV) : gD t (.v (.bool (decide p))) fr false F G = ((p → G (fr.set t (.v (.bool true)))) ∧ (¬ p → F (fr.set t (.v (.bool false))))) := by
  simp only [gD, decide_eq_false_iff_not, Bool.not_false, decide_eq_true_eq]
  exact propext ⟨fun h => ⟨h.2, h.1⟩, fun h => ⟨h.2, h.1⟩⟩
theorem n_gD_bt (b : Bool) (t : Nat) (fr : List DV) : gD t (.v (.bool b)) fr true F G = ((b = true → F (fr.set t (.v (.bool true)))) ∧ (b = false → G (fr.set t (.v (.bool false))))) := by simp [gD]
theorem n_gD_bf (b : Bool) (t : Nat) (fr : List DV) : gD t (.v (.bool b)) fr false F G = ((b = true → G (fr.set t (.v (.bool true)))) ∧ (b = false → F (fr.set t (.v (.bool false))))) := by
  simp only [gD, Bool.not_false]
  exact propext ⟨fun h => ⟨h.2, h.1⟩, fun h => ⟨h.2, h.1⟩⟩
end
attribute [go_sem ↓] n_cond_t n_cond_f n_cond_d n_cond_n n_pick_t n_pick_f n_gD_tt n_gD_tf n_gD_ft n_gD_ff n_gD_dt n_gD_df
attribute [go_sem ↓ low] n_cond_b n_gD_bt n_gD_bf
attribute [go_sem] List.length_cons List.length_nil List.length_map List.cons_append List.nil_append List.map_cons List.map_nil List.zip_cons_cons List.zip_nil_right
section
variable {P : Program} {w0 : W0} {ops : Array Oper} {K : List DV → St → Prop} {fr : List DV} {S : St} {rest : List Oper} {dst : Option Tmp} {op : Op} {ty : TypeId} {pos : String} {aft : Array Edge}
theorem n_vcL_nil : vcL P w0 ops K [] fr S = K fr S := rfl
theorem n_vcL_none : vcL P w0 ops K (⟨dst, op, ty, pos, aft, none⟩ :: rest) fr S = vcOp P w0 op fr S fun d S' => vcL P w0 ops K rest (pt fr dst d) S' := rfl
theorem n_vcL_some (j : Nat) (want : Bool) : vcL P w0 ops K (⟨dst, op, ty, pos, aft, some (j, want)⟩ :: rest) fr S = gK ((ops[j]?).bind (·.dst)) fr want (fun fr => vcOp P w0 op fr S fun d S' => vcL P w0 ops K rest (pt fr dst d) S') (fun fr => vcL P w0 ops K rest (pt fr dst ud) S) := q_guard _ _ _ _ _ _
end
/-- A call that hands back one value. -/
def QC (P : Program) (w0 : W0) (f : FuncId) (ds : List DV) (S : St) [K : Cn (DV → Prop)] : Prop := ∃ d, ACall P w0 f ds S (fun d' S' => d' = d ∧ S' = S) ∧ K.k d
theorem n_callQ {P : Program} {w0 : W0} (f : FuncId) (a cap : Array Value) (ds : List DV) (S : St) (K : DV → Prop) : vCallQ P w0 (.v (.func (.func f) a cap)) ds S K = (a.size = 0 ∧ okF P f = true ∧ cap.toList.all (fun u => u.oneCell') = true ∧ ds.all naccA = true ∧ @QC P w0 f (ds ++ cap.toList.map .v) S ⟨K⟩) := rfl
attribute [go_sem ↓] n_vcL_nil n_vcL_none n_vcL_some n_callQ thenQ blockQ vBinI vSliceS resKs vCut0
attribute [go_sem] List.getD_cons_succ List.getD_cons_zero List.getElem?_cons_succ List.getElem?_cons_zero List.getElem?_toArray Option.bind_some List.all_cons List.all_nil Bool.and_self Bool.and_true
attribute [go_sem] Nat.zero_add true_and and_true List.drop_zero List.drop_succ_cons List.take_succ_cons List.take_zero Option.map_some Option.map_none Option.isSome_some Option.isSome_none Option.isNone_none Option.isNone_some
attribute [go_sem] Bool.false_eq_true if_true if_false or_true true_or false_or or_false forall_const false_implies imp_self Bool.not_true Bool.not_false beq_self_eq_true decide_eq_true_eq decide_eq_false_iff_not decide_true decide_false
attribute [go_sem] Int.toNat_natCast Int.natCast_nonneg Int.ofNat_lt Int.ofNat_le Int.natCast_inj List.getElem?_map Option.map_eq_some_iff forall_exists_index and_imp forall_apply_eq_imp_iff₂ forall_eq_apply_imp_iff ne_eq not_false_eq_true not_true_eq_false
attribute [go_sem] List.size_toArray List.append_nil Int.le_refl Nat.le_refl List.drop_nil List.take_nil Int.toNat_zero Int.natCast_zero Int.natCast_one Int.cast_ofNat_Int Bool.or_true Bool.or_false Bool.true_or Bool.false_or Bool.false_and Bool.and_false Bool.true_and List.isEmpty_nil List.isEmpty_cons
attribute [go_sem] dI dU dY dB dS Nat.lt_add_one forall_eq forall_eq' true_implies implies_true Option.some.injEq

/-- A name that a store doesn't have. -/
structure FN {α : Type} (l : List (Nat × α)) where
  m : Nat
  h : nin l m
def FN.n {α : Type} {l : List (Nat × α)} (b : FN l) : Nat := b.m
theorem n_fresh {α : Type} (l : List (Nat × α)) (F : Nat → Prop) : (∀ b, nin l b → F b) = ∀ b : FN l, F b.n := propext ⟨fun h b => h b.n b.h, fun h b hb => h ⟨b, hb⟩⟩
theorem nin_lk {α : Type} : ∀ {l : List (Nat × α)} {b : Nat}, nin l b → lk l b = none
  | [], _, _ => rfl
  | (k, x) :: t, b, h => by
    simp only [nin] at h
    unfold lk
    rw [if_neg (by first | exact fun e => h.1 e | exact fun e => h.1 e.symm)]
    exact nin_lk (by first | exact h.2 | exact h.2.2)
theorem fn_lk {α : Type} {l : List (Nat × α)} (b : FN l) : lk l b.n = none := nin_lk b.h
theorem n_fn_ne {α : Type} {l : List (Nat × α)} (b : FN l) (c : Nat) (h : (lk l c).isSome = true) : (b.n = c) = False := by
  refine eq_false fun e => ?_
  subst e; rw [show lk l b.n = none from nin_lk b.h] at h; cases h
theorem n_fn_ne' {α : Type} {l : List (Nat × α)} (b : FN l) (c : Nat) (h : (lk l c).isSome = true) : (c = b.n) = False := by
  refine eq_false fun e => ?_
  subst e; rw [show lk l b.n = none from nin_lk b.h] at h; cases h
section
variable {S : St} {K : DV → St → Prop}
theorem n_bx (d : DV) : bxK S d K = ∀ b : FN S.box, K (.v (.pointer (some ⟨b.n, 0, none⟩))) ⟨(b.n, cd d) :: S.box, S.acc⟩ := n_fresh S.box fun b => K (.v (.pointer (some ⟨b, 0, none⟩))) ⟨(b, cd d) :: S.box, S.acc⟩
theorem n_bx_agg (ds : List DV) : bxK S (.agg ds) K = ∀ b : FN S.box, K (.v (.pointer (some ⟨b.n, 0, none⟩))) ⟨(b.n, ds) :: S.box, S.acc⟩ := n_bx _
theorem n_bx_v (u : Value) : bxK S (.v u) K = ∀ b : FN S.box, K (.v (.pointer (some ⟨b.n, 0, none⟩))) ⟨(b.n, [.v u]) :: S.box, S.acc⟩ := n_bx _
theorem n_bx_sl (s : Nat) (f : Bool) (xs : List DV) : bxK S (.sl s f xs) K = ∀ b : FN S.box, K (.v (.pointer (some ⟨b.n, 0, none⟩))) ⟨(b.n, [.sl s f xs]) :: S.box, S.acc⟩ := n_bx _
end
attribute [go_sem ↓] n_fresh n_bx_agg n_bx_v n_bx_sl
attribute [go_sem] n_fn_ne n_fn_ne' Option.isSome_some

theorem n_td (P : Prop) [Decidable P] : (true = decide P) = P := (propext eq_comm).trans decide_eq_true_eq
theorem n_fd (P : Prop) [Decidable P] : (false = decide P) = ¬ P := (propext eq_comm).trans (propext decide_eq_false_iff_not)
attribute [go_sem] n_td n_fd

theorem n_map_take {α β : Type} (f : α → β) (n : Nat) (l : List α) : List.take n (List.map f l) = List.map f (List.take n l) := List.map_take.symm
theorem n_map_drop {α β : Type} (f : α → β) (n : Nat) (l : List α) : List.drop n (List.map f l) = List.map f (List.drop n l) := List.map_drop.symm
theorem n_map_app {α β : Type} (f : α → β) (a b : List α) : List.map f a ++ List.map f b = List.map f (a ++ b) := List.map_append.symm
attribute [go_sem] n_map_take n_map_drop n_map_app List.length_append List.length_take List.length_drop List.take_length List.drop_length Nat.min_self

theorem n_dd (P Q : Prop) [Decidable P] [Decidable Q] : (decide P = decide Q) = (P ↔ Q) := propext decide_eq_decide
attribute [go_sem] n_dd

theorem n_not_d (P : Prop) [Decidable P] : (!decide P) = decide (¬ P) := (decide_not).symm
attribute [go_sem] n_not_d Bool.not_eq_true' Bool.not_eq_false'

attribute [go_sem] Value.oneCell' false_and and_false and_self List.length_set
attribute [go_sem] gX_t gX_f
attribute [go_sem ↓] q_binA_v q_binA_agg q_aggN q_aggK_nil q_aggK_i q_aggK_s q_aggK_b

attribute [go_sem ↓] q_el_map q_el_zero q_ex_map q_ex_nil q_ld_int q_ld_one q_ld_fn q_ld_str q_ld_sl q_ld_st q_load_ip q_ia_sl q_ia_acc q_index q_bin_ii q_bin_ss q_bin_bn q_un_not q_conv_i q_shr1_v q_shr1_sl q_shr1s_nil q_shr1s_cons q_shr_v q_shr_sl q_shr_acc q_shr_agg q_shrs_nil q_shrs_cons q_shrT_v q_shrT_sl q_shrT_acc q_shrT_agg q_shrT_tup q_bnd_none q_bnd_some q_slice_sl q_slice_str q_len_sl q_len_acc q_len_str q_min q_max q_sliceX_sl q_sliceX_v q_sliceX_acc q_atZ q_nilEq_sl q_appInt q_storeX_v q_makeSlice q_cap q_cont_sl q_append q_app_nil q_call q_res_tmp q_res_cell q_resK_one q_resK_nil q_resK_two q_oK_some q_bK_arr q_bK_tl q_load_box q_load_ap q_slice_row q_len_row q_cap_row q_rows_sl q_copy q_copyK_row q_copyK_sl q_appC q_appZ q_field q_fi_ptr q_fi_ip q_fi_ap q_extract q_shr1_acc q_store q_storeX_ap q_cont_acc q_app_acc q_guard q_gK_some q_gD_ud q_func q_build q_bu q_bsl
attribute [go_sem] q_okE_v q_okE_sl q_okE_agg q_okE_acc q_cd_v q_cd_sl q_cd_agg q_cd_acc q_lk_same q_lk_ne q_up_same q_up_ne q_nn_ptr q_isZ q_isZ_n q_isNilC_t q_isNilC_i q_isNilC_s q_isNilC_n q_hasAcc_nil q_hasAcc_acc q_hasAcc_v q_hasAcc_sl q_hasAcc_agg q_isRow_row q_isRow_sl q_isRow_acc
theorem rc_get_s (r : R16) (l : List DV) (n : Nat) (d : DV) : (rc r l).getD (n + 16) d = l.getD n d := rfl
theorem rc_set_s (r : R16) (l : List DV) (n : Nat) (d : DV) : (rc r l).set (n + 16) d = rc r (l.set n d) := rfl
theorem rc_get_0 (a0 a1 a2 a3 a4 a5 a6 a7 a8 a9 a10 a11 a12 a13 a14 a15 : DV) (l : List DV) (d : DV) : (rc ⟨a0, a1, a2, a3, a4, a5, a6, a7, a8, a9, a10, a11, a12, a13, a14, a15⟩ l).getD 0 d = a0 := rfl
theorem rc_set_0 (a0 a1 a2 a3 a4 a5 a6 a7 a8 a9 a10 a11 a12 a13 a14 a15 : DV) (l : List DV) (d : DV) : (rc ⟨a0, a1, a2, a3, a4, a5, a6, a7, a8, a9, a10, a11, a12, a13, a14, a15⟩ l).set 0 d = rc ⟨d, a1, a2, a3, a4, a5, a6, a7, a8, a9, a10, a11, a12, a13, a14, a15⟩ l := rfl
theorem rc_get_1 (a0 a1 a2 a3 a4 a5 a6 a7 a8 a9 a10 a11 a12 a13 a14 a15 : DV) (l : List DV) (d : DV) : (rc ⟨a0, a1, a2, a3, a4, a5, a6, a7, a8, a9, a10, a11, a12, a13, a14, a15⟩ l).getD 1 d = a1 := rfl
theorem rc_set_1 (a0 a1 a2 a3 a4 a5 a6 a7 a8 a9 a10 a11 a12 a13 a14 a15 : DV) (l : List DV) (d : DV) : (rc ⟨a0, a1, a2, a3, a4, a5, a6, a7, a8, a9, a10, a11, a12, a13, a14, a15⟩ l).set 1 d = rc ⟨a0, d, a2, a3, a4, a5, a6, a7, a8, a9, a10, a11, a12, a13, a14, a15⟩ l := rfl
theorem rc_get_2 (a0 a1 a2 a3 a4 a5 a6 a7 a8 a9 a10 a11 a12 a13 a14 a15 : DV) (l : List DV) (d : DV) : (rc ⟨a0, a1, a2, a3, a4, a5, a6, a7, a8, a9, a10, a11, a12, a13, a14, a15⟩ l).getD 2 d = a2 := rfl
theorem rc_set_2 (a0 a1 a2 a3 a4 a5 a6 a7 a8 a9 a10 a11 a12 a13 a14 a15 : DV) (l : List DV) (d : DV) : (rc ⟨a0, a1, a2, a3, a4, a5, a6, a7, a8, a9, a10, a11, a12, a13, a14, a15⟩ l).set 2 d = rc ⟨a0, a1, d, a3, a4, a5, a6, a7, a8, a9, a10, a11, a12, a13, a14, a15⟩ l := rfl
theorem rc_get_3 (a0 a1 a2 a3 a4 a5 a6 a7 a8 a9 a10 a11 a12 a13 a14 a15 : DV) (l : List DV) (d : DV) : (rc ⟨a0, a1, a2, a3, a4, a5, a6, a7, a8, a9, a10, a11, a12, a13, a14, a15⟩ l).getD 3 d = a3 := rfl
theorem rc_set_3 (a0 a1 a2 a3 a4 a5 a6 a7 a8 a9 a10 a11 a12 a13 a14 a15 : DV) (l : List DV) (d : DV) : (rc ⟨a0, a1, a2, a3, a4, a5, a6, a7, a8, a9, a10, a11, a12, a13, a14, a15⟩ l).set 3 d = rc ⟨a0, a1, a2, d, a4, a5, a6, a7, a8, a9, a10, a11, a12, a13, a14, a15⟩ l := rfl
theorem rc_at_3 (a0 a1 a2 a3 a4 a5 a6 a7 a8 a9 a10 a11 a12 a13 a14 a15 : DV) (l : List DV) : (rc ⟨a0, a1, a2, a3, a4, a5, a6, a7, a8, a9, a10, a11, a12, a13, a14, a15⟩ l)[3]? = some a3 := rfl
theorem rc_get_4 (a0 a1 a2 a3 a4 a5 a6 a7 a8 a9 a10 a11 a12 a13 a14 a15 : DV) (l : List DV) (d : DV) : (rc ⟨a0, a1, a2, a3, a4, a5, a6, a7, a8, a9, a10, a11, a12, a13, a14, a15⟩ l).getD 4 d = a4 := rfl
theorem rc_set_4 (a0 a1 a2 a3 a4 a5 a6 a7 a8 a9 a10 a11 a12 a13 a14 a15 : DV) (l : List DV) (d : DV) : (rc ⟨a0, a1, a2, a3, a4, a5, a6, a7, a8, a9, a10, a11, a12, a13, a14, a15⟩ l).set 4 d = rc ⟨a0, a1, a2, a3, d, a5, a6, a7, a8, a9, a10, a11, a12, a13, a14, a15⟩ l := rfl
theorem rc_get_5 (a0 a1 a2 a3 a4 a5 a6 a7 a8 a9 a10 a11 a12 a13 a14 a15 : DV) (l : List DV) (d : DV) : (rc ⟨a0, a1, a2, a3, a4, a5, a6, a7, a8, a9, a10, a11, a12, a13, a14, a15⟩ l).getD 5 d = a5 := rfl
theorem rc_set_5 (a0 a1 a2 a3 a4 a5 a6 a7 a8 a9 a10 a11 a12 a13 a14 a15 : DV) (l : List DV) (d : DV) : (rc ⟨a0, a1, a2, a3, a4, a5, a6, a7, a8, a9, a10, a11, a12, a13, a14, a15⟩ l).set 5 d = rc ⟨a0, a1, a2, a3, a4, d, a6, a7, a8, a9, a10, a11, a12, a13, a14, a15⟩ l := rfl
theorem rc_get_6 (a0 a1 a2 a3 a4 a5 a6 a7 a8 a9 a10 a11 a12 a13 a14 a15 : DV) (l : List DV) (d : DV) : (rc ⟨a0, a1, a2, a3, a4, a5, a6, a7, a8, a9, a10, a11, a12, a13, a14, a15⟩ l).getD 6 d = a6 := rfl
theorem rc_set_6 (a0 a1 a2 a3 a4 a5 a6 a7 a8 a9 a10 a11 a12 a13 a14 a15 : DV) (l : List DV) (d : DV) : (rc ⟨a0, a1, a2, a3, a4, a5, a6, a7, a8, a9, a10, a11, a12, a13, a14, a15⟩ l).set 6 d = rc ⟨a0, a1, a2, a3, a4, a5, d, a7, a8, a9, a10, a11, a12, a13, a14, a15⟩ l := rfl
theorem rc_get_7 (a0 a1 a2 a3 a4 a5 a6 a7 a8 a9 a10 a11 a12 a13 a14 a15 : DV) (l : List DV) (d : DV) : (rc ⟨a0, a1, a2, a3, a4, a5, a6, a7, a8, a9, a10, a11, a12, a13, a14, a15⟩ l).getD 7 d = a7 := rfl
theorem rc_set_7 (a0 a1 a2 a3 a4 a5 a6 a7 a8 a9 a10 a11 a12 a13 a14 a15 : DV) (l : List DV) (d : DV) : (rc ⟨a0, a1, a2, a3, a4, a5, a6, a7, a8, a9, a10, a11, a12, a13, a14, a15⟩ l).set 7 d = rc ⟨a0, a1, a2, a3, a4, a5, a6, d, a8, a9, a10, a11, a12, a13, a14, a15⟩ l := rfl
theorem rc_at_7 (a0 a1 a2 a3 a4 a5 a6 a7 a8 a9 a10 a11 a12 a13 a14 a15 : DV) (l : List DV) : (rc ⟨a0, a1, a2, a3, a4, a5, a6, a7, a8, a9, a10, a11, a12, a13, a14, a15⟩ l)[7]? = some a7 := rfl
theorem rc_get_8 (a0 a1 a2 a3 a4 a5 a6 a7 a8 a9 a10 a11 a12 a13 a14 a15 : DV) (l : List DV) (d : DV) : (rc ⟨a0, a1, a2, a3, a4, a5, a6, a7, a8, a9, a10, a11, a12, a13, a14, a15⟩ l).getD 8 d = a8 := rfl
theorem rc_set_8 (a0 a1 a2 a3 a4 a5 a6 a7 a8 a9 a10 a11 a12 a13 a14 a15 : DV) (l : List DV) (d : DV) : (rc ⟨a0, a1, a2, a3, a4, a5, a6, a7, a8, a9, a10, a11, a12, a13, a14, a15⟩ l).set 8 d = rc ⟨a0, a1, a2, a3, a4, a5, a6, a7, d, a9, a10, a11, a12, a13, a14, a15⟩ l := rfl
theorem rc_at_8 (a0 a1 a2 a3 a4 a5 a6 a7 a8 a9 a10 a11 a12 a13 a14 a15 : DV) (l : List DV) : (rc ⟨a0, a1, a2, a3, a4, a5, a6, a7, a8, a9, a10, a11, a12, a13, a14, a15⟩ l)[8]? = some a8 := rfl
theorem rc_get_9 (a0 a1 a2 a3 a4 a5 a6 a7 a8 a9 a10 a11 a12 a13 a14 a15 : DV) (l : List DV) (d : DV) : (rc ⟨a0, a1, a2, a3, a4, a5, a6, a7, a8, a9, a10, a11, a12, a13, a14, a15⟩ l).getD 9 d = a9 := rfl
theorem rc_set_9 (a0 a1 a2 a3 a4 a5 a6 a7 a8 a9 a10 a11 a12 a13 a14 a15 : DV) (l : List DV) (d : DV) : (rc ⟨a0, a1, a2, a3, a4, a5, a6, a7, a8, a9, a10, a11, a12, a13, a14, a15⟩ l).set 9 d = rc ⟨a0, a1, a2, a3, a4, a5, a6, a7, a8, d, a10, a11, a12, a13, a14, a15⟩ l := rfl
theorem rc_get_10 (a0 a1 a2 a3 a4 a5 a6 a7 a8 a9 a10 a11 a12 a13 a14 a15 : DV) (l : List DV) (d : DV) : (rc ⟨a0, a1, a2, a3, a4, a5, a6, a7, a8, a9, a10, a11, a12, a13, a14, a15⟩ l).getD 10 d = a10 := rfl
theorem rc_set_10 (a0 a1 a2 a3 a4 a5 a6 a7 a8 a9 a10 a11 a12 a13 a14 a15 : DV) (l : List DV) (d : DV) : (rc ⟨a0, a1, a2, a3, a4, a5, a6, a7, a8, a9, a10, a11, a12, a13, a14, a15⟩ l).set 10 d = rc ⟨a0, a1, a2, a3, a4, a5, a6, a7, a8, a9, d, a11, a12, a13, a14, a15⟩ l := rfl
theorem rc_get_11 (a0 a1 a2 a3 a4 a5 a6 a7 a8 a9 a10 a11 a12 a13 a14 a15 : DV) (l : List DV) (d : DV) : (rc ⟨a0, a1, a2, a3, a4, a5, a6, a7, a8, a9, a10, a11, a12, a13, a14, a15⟩ l).getD 11 d = a11 := rfl
theorem rc_set_11 (a0 a1 a2 a3 a4 a5 a6 a7 a8 a9 a10 a11 a12 a13 a14 a15 : DV) (l : List DV) (d : DV) : (rc ⟨a0, a1, a2, a3, a4, a5, a6, a7, a8, a9, a10, a11, a12, a13, a14, a15⟩ l).set 11 d = rc ⟨a0, a1, a2, a3, a4, a5, a6, a7, a8, a9, a10, d, a12, a13, a14, a15⟩ l := rfl
theorem rc_get_12 (a0 a1 a2 a3 a4 a5 a6 a7 a8 a9 a10 a11 a12 a13 a14 a15 : DV) (l : List DV) (d : DV) : (rc ⟨a0, a1, a2, a3, a4, a5, a6, a7, a8, a9, a10, a11, a12, a13, a14, a15⟩ l).getD 12 d = a12 := rfl
theorem rc_set_12 (a0 a1 a2 a3 a4 a5 a6 a7 a8 a9 a10 a11 a12 a13 a14 a15 : DV) (l : List DV) (d : DV) : (rc ⟨a0, a1, a2, a3, a4, a5, a6, a7, a8, a9, a10, a11, a12, a13, a14, a15⟩ l).set 12 d = rc ⟨a0, a1, a2, a3, a4, a5, a6, a7, a8, a9, a10, a11, d, a13, a14, a15⟩ l := rfl
theorem rc_at_12 (a0 a1 a2 a3 a4 a5 a6 a7 a8 a9 a10 a11 a12 a13 a14 a15 : DV) (l : List DV) : (rc ⟨a0, a1, a2, a3, a4, a5, a6, a7, a8, a9, a10, a11, a12, a13, a14, a15⟩ l)[12]? = some a12 := rfl
theorem rc_get_13 (a0 a1 a2 a3 a4 a5 a6 a7 a8 a9 a10 a11 a12 a13 a14 a15 : DV) (l : List DV) (d : DV) : (rc ⟨a0, a1, a2, a3, a4, a5, a6, a7, a8, a9, a10, a11, a12, a13, a14, a15⟩ l).getD 13 d = a13 := rfl
theorem rc_set_13 (a0 a1 a2 a3 a4 a5 a6 a7 a8 a9 a10 a11 a12 a13 a14 a15 : DV) (l : List DV) (d : DV) : (rc ⟨a0, a1, a2, a3, a4, a5, a6, a7, a8, a9, a10, a11, a12, a13, a14, a15⟩ l).set 13 d = rc ⟨a0, a1, a2, a3, a4, a5, a6, a7, a8, a9, a10, a11, a12, d, a14, a15⟩ l := rfl
theorem rc_get_14 (a0 a1 a2 a3 a4 a5 a6 a7 a8 a9 a10 a11 a12 a13 a14 a15 : DV) (l : List DV) (d : DV) : (rc ⟨a0, a1, a2, a3, a4, a5, a6, a7, a8, a9, a10, a11, a12, a13, a14, a15⟩ l).getD 14 d = a14 := rfl
theorem rc_set_14 (a0 a1 a2 a3 a4 a5 a6 a7 a8 a9 a10 a11 a12 a13 a14 a15 : DV) (l : List DV) (d : DV) : (rc ⟨a0, a1, a2, a3, a4, a5, a6, a7, a8, a9, a10, a11, a12, a13, a14, a15⟩ l).set 14 d = rc ⟨a0, a1, a2, a3, a4, a5, a6, a7, a8, a9, a10, a11, a12, a13, d, a15⟩ l := rfl
theorem rc_get_15 (a0 a1 a2 a3 a4 a5 a6 a7 a8 a9 a10 a11 a12 a13 a14 a15 : DV) (l : List DV) (d : DV) : (rc ⟨a0, a1, a2, a3, a4, a5, a6, a7, a8, a9, a10, a11, a12, a13, a14, a15⟩ l).getD 15 d = a15 := rfl
theorem rc_set_15 (a0 a1 a2 a3 a4 a5 a6 a7 a8 a9 a10 a11 a12 a13 a14 a15 : DV) (l : List DV) (d : DV) : (rc ⟨a0, a1, a2, a3, a4, a5, a6, a7, a8, a9, a10, a11, a12, a13, a14, a15⟩ l).set 15 d = rc ⟨a0, a1, a2, a3, a4, a5, a6, a7, a8, a9, a10, a11, a12, a13, a14, d⟩ l := rfl
theorem rc_wkA (a0 a1 a2 a3 a4 a5 a6 a7 a8 a9 a10 a11 a12 a13 a14 a15 : DV) (l : List DV) (i : Nat) (js : List Nat) : wkA (rc ⟨a0, a1, a2, a3, a4, a5, a6, a7, a8, a9, a10, a11, a12, a13, a14, a15⟩ l) i js = wkA (a0 :: a1 :: a2 :: a3 :: a4 :: a5 :: a6 :: a7 :: a8 :: a9 :: a10 :: a11 :: a12 :: a13 :: a14 :: a15 :: l) i js := rfl
theorem fold_s (a0 a1 a2 a3 a4 a5 a6 a7 a8 a9 a10 a11 a12 a13 a14 a15 : DV) (l : List DV) : foldF (a0 :: a1 :: a2 :: a3 :: a4 :: a5 :: a6 :: a7 :: a8 :: a9 :: a10 :: a11 :: a12 :: a13 :: a14 :: a15 :: l) = rc ⟨a0, a1, a2, a3, a4, a5, a6, a7, a8, a9, a10, a11, a12, a13, a14, a15⟩ (foldF l) := rfl
theorem fold_0  : foldF [] = [] := rfl
theorem fold_1 (a0 : DV) : foldF [a0] = [a0] := rfl
theorem fold_2 (a0 a1 : DV) : foldF [a0, a1] = [a0, a1] := rfl
theorem fold_3 (a0 a1 a2 : DV) : foldF [a0, a1, a2] = [a0, a1, a2] := rfl
theorem fold_4 (a0 a1 a2 a3 : DV) : foldF [a0, a1, a2, a3] = [a0, a1, a2, a3] := rfl
theorem fold_5 (a0 a1 a2 a3 a4 : DV) : foldF [a0, a1, a2, a3, a4] = [a0, a1, a2, a3, a4] := rfl
theorem fold_6 (a0 a1 a2 a3 a4 a5 : DV) : foldF [a0, a1, a2, a3, a4, a5] = [a0, a1, a2, a3, a4, a5] := rfl
theorem fold_7 (a0 a1 a2 a3 a4 a5 a6 : DV) : foldF [a0, a1, a2, a3, a4, a5, a6] = [a0, a1, a2, a3, a4, a5, a6] := rfl
theorem fold_8 (a0 a1 a2 a3 a4 a5 a6 a7 : DV) : foldF [a0, a1, a2, a3, a4, a5, a6, a7] = [a0, a1, a2, a3, a4, a5, a6, a7] := rfl
theorem fold_9 (a0 a1 a2 a3 a4 a5 a6 a7 a8 : DV) : foldF [a0, a1, a2, a3, a4, a5, a6, a7, a8] = [a0, a1, a2, a3, a4, a5, a6, a7, a8] := rfl
theorem fold_10 (a0 a1 a2 a3 a4 a5 a6 a7 a8 a9 : DV) : foldF [a0, a1, a2, a3, a4, a5, a6, a7, a8, a9] = [a0, a1, a2, a3, a4, a5, a6, a7, a8, a9] := rfl
theorem fold_11 (a0 a1 a2 a3 a4 a5 a6 a7 a8 a9 a10 : DV) : foldF [a0, a1, a2, a3, a4, a5, a6, a7, a8, a9, a10] = [a0, a1, a2, a3, a4, a5, a6, a7, a8, a9, a10] := rfl
theorem fold_12 (a0 a1 a2 a3 a4 a5 a6 a7 a8 a9 a10 a11 : DV) : foldF [a0, a1, a2, a3, a4, a5, a6, a7, a8, a9, a10, a11] = [a0, a1, a2, a3, a4, a5, a6, a7, a8, a9, a10, a11] := rfl
theorem fold_13 (a0 a1 a2 a3 a4 a5 a6 a7 a8 a9 a10 a11 a12 : DV) : foldF [a0, a1, a2, a3, a4, a5, a6, a7, a8, a9, a10, a11, a12] = [a0, a1, a2, a3, a4, a5, a6, a7, a8, a9, a10, a11, a12] := rfl
theorem fold_14 (a0 a1 a2 a3 a4 a5 a6 a7 a8 a9 a10 a11 a12 a13 : DV) : foldF [a0, a1, a2, a3, a4, a5, a6, a7, a8, a9, a10, a11, a12, a13] = [a0, a1, a2, a3, a4, a5, a6, a7, a8, a9, a10, a11, a12, a13] := rfl
theorem fold_15 (a0 a1 a2 a3 a4 a5 a6 a7 a8 a9 a10 a11 a12 a13 a14 : DV) : foldF [a0, a1, a2, a3, a4, a5, a6, a7, a8, a9, a10, a11, a12, a13, a14] = [a0, a1, a2, a3, a4, a5, a6, a7, a8, a9, a10, a11, a12, a13, a14] := rfl
attribute [go_sem] rc_get_s rc_set_s rc_get_0 rc_set_0 rc_get_1 rc_set_1 rc_get_2 rc_set_2 rc_get_3 rc_set_3 rc_at_3 rc_get_4 rc_set_4 rc_get_5 rc_set_5 rc_get_6 rc_set_6 rc_get_7 rc_set_7 rc_at_7 rc_get_8 rc_set_8 rc_at_8 rc_get_9 rc_set_9 rc_get_10 rc_set_10 rc_get_11 rc_set_11 rc_get_12 rc_set_12 rc_at_12 rc_get_13 rc_set_13 rc_get_14 rc_set_14 rc_get_15 rc_set_15 rc_wkA fold_s fold_0 fold_1 fold_2 fold_3 fold_4 fold_5 fold_6 fold_7 fold_8 fold_9 fold_10 fold_11 fold_12 fold_13 fold_14 fold_15

end Aml

namespace Aml
open Go Go.RowKit
set_option linter.unusedVariables false
set_option linter.unusedSimpArgs false

/-- A region whose order is open: what reads, then what writes. -/
def vcLT (P : Program) (w0 : W0) (S : St) (ops : Array Oper) (K : List DV → St → Prop) : List Oper → List DV → Prop
  | [], fr => K fr S
  | o :: rest, fr => selK (isQ o.op)
    (guardK ops fr o.guard (fun fr => vcOpQ P w0 o.op fr S fun d => vcLT P w0 S ops K rest (pt fr o.dst d)) (fun fr => vcLT P w0 S ops K rest (pt fr o.dst ud)))
    (vcL P w0 ops K (o :: rest) fr S)

section
variable {P : Program} {w0 : W0}
theorem vcLT_split {S : St} {ops : Array Oper} {K : List DV → St → Prop} : ∀ {l : List Oper} {fr : List DV}, l.all (fun o => okSl o.op) = true → vcLT P w0 S ops K l fr → LQ P w0 S ops (fun fr => vcL P w0 ops K (l.drop (npre l)) fr S) (l.take (npre l)) fr
  | [], fr, _, h => h
  | o :: rest, fr, hs, h => by
    simp only [List.all_cons, Bool.and_eq_true] at hs
    unfold vcLT selK at h
    cases hq : isQ o.op with
    | true =>
      rw [hq] at h
      simp only at h
      have e : npre (o :: rest) = npre rest + 1 := by simp [npre, List.takeWhile_cons, hq]
      rw [e, List.take_succ_cons, List.drop_succ_cons]
      refine guardK_mono (fun fr h => ?_) (fun fr h => vcLT_split hs.2 h) h
      obtain ⟨d, q1, q2⟩ := vcOpQ_sound hs.1 h
      exact ⟨d, q1, vcLT_split hs.2 q2⟩
    | false =>
      rw [hq] at h
      have e : npre (o :: rest) = 0 := by simp [npre, List.takeWhile_cons, hq]
      rw [e]
      exact h
theorem LQ_arr {S : St} {a b : Array Oper} {K : List DV → Prop} : ∀ {l : List Oper} {fr : List DV}, (∀ o, o ∈ l → ∀ j want, o.guard = some (j, want) → a[j]? = b[j]?) → LQ P w0 S a K l fr → LQ P w0 S b K l fr
  | [], fr, _, h => h
  | o :: rest, fr, hg, h => by
    have h' : guardK a fr o.guard (fun fr => ∃ d, QY P w0 S o fr d ∧ LQ P w0 S b K rest (pt fr o.dst d)) (fun fr => LQ P w0 S b K rest (pt fr o.dst ud)) :=
      guardK_mono (fun fr ⟨d, q1, q2⟩ => ⟨d, q1, LQ_arr (fun o ho => hg o (List.mem_cons_of_mem _ ho)) q2⟩) (fun fr h => LQ_arr (fun o ho => hg o (List.mem_cons_of_mem _ ho)) h) h
    unfold guardK at h'
    show guardK b fr o.guard _ _
    unfold guardK
    cases hgo : o.guard with
    | none => rw [hgo] at h'; exact h'
    | some p =>
      obtain ⟨j, want⟩ := p
      rw [hgo] at h'
      simp only at h' ⊢
      rw [← hg o List.mem_cons_self j want hgo]
      exact h'

/-- A region that draws the order of what reads; what writes comes behind. -/
theorem awp_drawX {id : Nat} {l : List Oper} {fr : List DV} {S : St} {Q : Exit → List DV → St → Prop} (hm : P.follows .mixedOrders = true) (hB : Region.lexB .any (l.take (npre l)).toArray = true) (hT : tailB .any l.toArray (npre l) = true) (hs : l.all (fun o => okSl o.op) = true)
    (h : vcLT P w0 S l.toArray (fun fr S => Q .normal fr S) l fr) : AWp P w0 (.region id l.toArray true) fr S Q := by
  have hn : npre l ≤ l.length := by
    unfold npre
    exact List.Sublist.length_le (List.takeWhile_sublist _)
  refine awp_drawT (npre l) hn hm hB hT hs (LQ_arr ?_ (vcLT_split hs h))
  intro o ho j want hg
  simp only [tailB, Bool.and_eq_true] at hT
  have := List.all_eq_true.1 hT.2 o (by simpa using ho)
  simp only [hg, decide_eq_true_eq] at this
  simp [List.getElem?_take, this]

/-- A loop, left as it is. -/
def AL (P : Program) (w0 : W0) (fr : List DV) (S : St) [c : Cn (Code × (Exit → List DV → St → Prop))] : Prop := AWp P w0 c.k.1 fr S c.k.2
/-- The walk. -/
def vw (P : Program) (w0 : W0) (ss : List Nat) : Code → List DV → St → (Exit → List DV → St → Prop) → Prop
  | .skip, fr, S, Q => Q .normal fr S
  | .seq x y, fr, S, Q => vw P w0 ss x fr S (thenQ (fun fr S => vw P w0 ss y fr S Q) Q)
  | .cond c x y, fr, S, Q => condD (ev fr c) (vw P w0 ss x fr S Q) (vw P w0 ss y fr S Q)
  | .block n c, fr, S, Q => selK (ss.contains (n + 1000)) (@AL P w0 fr S ⟨((.block n c), Q)⟩) (vw P w0 ss c fr S (blockQ n Q))
  | .exit n, fr, S, Q => Q (.exit n) fr S
  | .ret, fr, S, Q => Q .ret fr S
  | .region n ops dr, fr, S, Q => selK (ss.contains n) (@AL P w0 fr S ⟨((.region n ops dr), Q)⟩)
    (selK dr (vcLT P w0 S ops (fun fr S => Q .normal fr S) ops.toList fr) (vcL P w0 ops (fun fr S => Q .normal fr S) ops.toList fr S))
  | c, fr, S, Q => @AL P w0 fr S ⟨(c, Q)⟩
/- How it goes. -/
section
variable {P : Program} {w0 : W0} {ss : List Nat} {fr : List DV} {S : St} {Q : Exit → List DV → St → Prop}
theorem n_vw_skip : vw P w0 ss .skip fr S Q = Q .normal fr S := rfl
theorem n_vw_seq (x y : Code) : vw P w0 ss (.seq x y) fr S Q = vw P w0 ss x fr S (thenQ (fun fr S => vw P w0 ss y fr S Q) Q) := rfl
theorem n_vw_cond (c : Operand) (x y : Code) : vw P w0 ss (.cond c x y) fr S Q = condD (ev fr c) (vw P w0 ss x fr S Q) (vw P w0 ss y fr S Q) := rfl
theorem n_vw_block (n : Nat) (c : Code) : vw P w0 ss (.block n c) fr S Q = selK (ss.contains (n + 1000)) (@AL P w0 fr S ⟨((.block n c), Q)⟩) (vw P w0 ss c fr S (blockQ n Q)) := rfl
theorem n_vw_exit (n : Nat) : vw P w0 ss (.exit n) fr S Q = Q (.exit n) fr S := rfl
theorem n_vw_ret : vw P w0 ss .ret fr S Q = Q .ret fr S := rfl
def normF (fr : List DV) (F : List DV → Prop) : Prop := F fr
@[congr] theorem c_normF {fr fr' : List DV} {F : List DV → Prop} (h : fr = fr') : normF fr F = normF fr' F := by cases h; rfl
theorem n_normF (d : DV) (fr : List DV) (F : List DV → Prop) : normF (d :: fr) F = F (d :: fr) := rfl
theorem n_normF_rc (r : R16) (fr : List DV) (F : List DV → Prop) : normF (rc r fr) F = F (rc r fr) := rfl
attribute [go_sem ↓] n_normF n_normF_rc
theorem n_vw_regF (n : Nat) (l : List Oper) : vw P w0 ss (.region n l.toArray false) fr S Q = selK (ss.contains n) (@AL P w0 fr S ⟨((.region n l.toArray false), Q)⟩) (vcL P w0 l.toArray (fun fr S => normF fr fun fr => Q .normal fr S) l fr S) := by simp [vw, selK, normF]
theorem n_vw_regT (n : Nat) (l : List Oper) : vw P w0 ss (.region n l.toArray true) fr S Q = selK (ss.contains n) (@AL P w0 fr S ⟨((.region n l.toArray true), Q)⟩) (vcLT P w0 S l.toArray (fun fr S => normF fr fun fr => Q .normal fr S) l fr) := by simp [vw, selK, normF]
section
variable {ops : Array Oper} {K : List DV → St → Prop} {rest : List Oper} {dst : Option Tmp} {op : Op} {ty : TypeId} {pos : String} {aft : Array Edge}
theorem n_LT_nil : vcLT P w0 S ops K [] fr = K fr S := rfl
theorem n_LT_none : vcLT P w0 S ops K (⟨dst, op, ty, pos, aft, none⟩ :: rest) fr = selK (isQ op) (vcOpQ P w0 op fr S fun d => vcLT P w0 S ops K rest (pt fr dst d)) (vcL P w0 ops K (⟨dst, op, ty, pos, aft, none⟩ :: rest) fr S) := rfl
theorem n_LT_some (j : Nat) (want : Bool) : vcLT P w0 S ops K (⟨dst, op, ty, pos, aft, some (j, want)⟩ :: rest) fr = selK (isQ op) (gK ((ops[j]?).bind (·.dst)) fr want (fun fr => vcOpQ P w0 op fr S fun d => vcLT P w0 S ops K rest (pt fr dst d)) (fun fr => vcLT P w0 S ops K rest (pt fr dst ud))) (vcL P w0 ops K (⟨dst, op, ty, pos, aft, some (j, want)⟩ :: rest) fr S) := by
  rw [← q_guard]; rfl
end
def normL (l : List Oper) (F : List Oper → Prop) : Prop := F l
@[congr] theorem c_normL {l l' : List Oper} {F : List Oper → Prop} (h : l = l') : normL l F = normL l' F := by cases h; rfl
theorem n_normL (l : List Oper) (F : List Oper → Prop) : normL l F = F l := rfl
theorem n_vw_regA (n : Nat) (l1 l2 : List Oper) (dr : Bool) : vw P w0 ss (.region n (l1.append l2).toArray dr) fr S Q = normL (l1.append l2) (fun l => vw P w0 ss (.region n l.toArray dr) fr S Q) := rfl
theorem n_vw_loop (c : Code) : vw P w0 ss (.loop c) fr S Q = @AL P w0 fr S ⟨((.loop c), Q)⟩ := rfl
@[congr] theorem c_vw {c : Code} {fr' : List DV} {S' : St} (h1 : fr = fr') (h2 : S = S') : vw P w0 ss c fr S Q = vw P w0 ss c fr' S' Q := by cases h1; cases h2; rfl
@[congr] theorem c_vcLT {ops : Array Oper} {K : List DV → St → Prop} {l : List Oper} {fr' : List DV} {S' : St} (h1 : fr = fr') (h2 : S = S') : vcLT P w0 S ops K l fr = vcLT P w0 S' ops K l fr' := by cases h1; cases h2; rfl
@[congr] theorem c_AWp {c : Code} {fr' : List DV} {S' : St} (h1 : fr = fr') (h2 : S = S') : AWp P w0 c fr S Q = AWp P w0 c fr' S' Q := by cases h1; cases h2; rfl
end
attribute [go_sem] n_normL List.contains_nil List.contains_cons
attribute [go_sem ↓] n_LT_nil n_LT_none n_LT_some n_vw_skip n_vw_seq n_vw_cond n_vw_block n_vw_exit n_vw_ret n_vw_regF n_vw_regT n_vw_loop
attribute [go_sem ↓ high] n_vw_regA
section
variable {md : Region.Mode} {ops : Array Oper}
/-- The text's order serves: told step by step. -/
def lexG (md : Region.Mode) (ops : Array Oper) : Nat → List Oper → Bool
  | _, [] => true
  | k, o :: l => o.after.toList.all (fun e => !Region.binds md e || decide (e.on < k)) && l.all (fun oj => oj.after.toList.any (fun e => Region.binds md e && e.on == k) || o.apart ops oj) && lexG md ops (k + 1) l
theorem lexFrom_of : ∀ (l : List Oper) (k : Nat) (listed : Array Bool), (∀ j, l[j]? = ops[k + j]?) → listed.size = ops.size → (∀ i, i < k → listed[i]? = some true) → (∀ i, k ≤ i → i < ops.size → listed[i]? = some false) → lexG md ops k l = true → Region.lexFrom md ops l.length k listed = true
  | [], k, listed, hl, hs, h1, h2, _ => by
    simp only [List.length_nil, Region.lexFrom]
    have : Region.ready md ops listed = [] := List.eq_nil_iff_forall_not_mem.2 fun i hi => by
      obtain ⟨hun, o, ho, _⟩ := mem_ready.1 hi
      rw [getD_true] at hun
      rcases Nat.lt_or_ge i k with h | h
      · rw [h1 i h] at hun; cases hun
      · have := hl (i - k)
        rw [show k + (i - k) = i by omega, ho] at this
        simp at this
    rw [this]; rfl
  | o :: l, k, listed, hl, hs, h1, h2, hG => by
    have h0 : ops[k]? = some o := by simpa using (hl 0).symm
    have hk : k < ops.size := (Array.getElem?_eq_some_iff.1 h0).1
    simp only [lexG, Bool.and_eq_true] at hG
    obtain ⟨⟨ha, hb⟩, hc⟩ := hG
    simp only [List.length_cons, Region.lexFrom, Bool.and_eq_true]
    have hr : k ∈ Region.ready md ops listed := mem_ready.2 ⟨getD_true.2 (h2 k (Nat.le_refl _) hk), o, h0, fun e he hbind => by
      have := List.all_eq_true.1 ha e (Array.mem_toList_iff.2 he)
      rw [hbind] at this
      simp at this
      exact getD_false.2 (h1 _ this)⟩
    refine ⟨⟨by simpa using hr, ?_⟩, ?_⟩
    · unfold Region.free
      rw [h0]
      simp only [List.all_eq_true, List.mem_range]
      intro j hj
      rcases Nat.lt_trichotomy j k with h | h | h
      · have : listed.getD j true = true := by rw [Array.getD_eq_getD_getElem?, h1 j h]; rfl
        simp [this]
      · simp [h]
      · have hj2 := hl (j - k)
        rw [show k + (j - k) = j by omega, show j - k = (j - k - 1) + 1 by omega, List.getElem?_cons_succ] at hj2
        rw [← hj2]
        cases hq : l[j - k - 1]? with
        | none => simp
        | some oj =>
          have := List.all_eq_true.1 hb oj (List.mem_of_getElem? hq)
          simp only [Bool.or_eq_true] at this ⊢
          refine .inr ?_
          rcases this with h | h
          · refine .inl ?_
            obtain ⟨e, he, h⟩ := List.any_eq_true.1 h
            exact Array.any_eq_true'.2 ⟨e, Array.mem_toList_iff.1 he, h⟩
          · exact .inr h
    · refine lexFrom_of l (k + 1) _ (fun j => ?_) (by simpa using hs) (fun i hi => ?_) (fun i hi hi2 => ?_) hc
      · have := hl (j + 1)
        simpa [Nat.add_assoc, Nat.add_comm 1 j] using this
      · rw [Array.getElem?_setIfInBounds]
        by_cases h : k = i
        · subst h; rw [if_pos rfl, if_pos (by omega)]
        · rw [if_neg h]; exact h1 i (by omega)
      · rw [Array.getElem?_setIfInBounds, if_neg (by omega)]
        exact h2 i (by omega) hi2
theorem lexG_sound {l : List Oper} (hs : Region.noSelect l.toArray = true) (h : lexG md l.toArray 0 l = true) : Region.lexB md l.toArray = true := by
  unfold Region.lexB
  rw [hs, Bool.true_and]
  have := lexFrom_of (md := md) (ops := l.toArray) l 0 (Array.replicate l.toArray.size false) (fun j => by simp) (by simp) (fun i hi => absurd hi (by omega)) (fun i _ hi => by rw [Array.getElem?_replicate, if_pos hi]) h
  simpa using this
end
/-- What of it can be seen of the code alone. -/
def okC (ss : List Nat) : Code → Bool
  | .seq x y => okC ss x && okC ss y
  | .cond _ x y => okC ss x && okC ss y
  | .block n c => ss.contains (n + 1000) || okC ss c
  | .region n ops false => ss.contains n || ops.toList.all (fun o => okSl o.op)
  | .region n ops true => ss.contains n || (ops.toList.all (fun o => okSl o.op) && Region.noSelect (ops.toList.take (npre ops.toList)).toArray && lexG .any (ops.toList.take (npre ops.toList)).toArray 0 (ops.toList.take (npre ops.toList)) && tailB .any ops (npre ops.toList))
  | _ => true
theorem vw_sound {ss : List Nat} (hm : P.follows .mixedOrders = true) : ∀ (c : Code) {fr : List DV} {S : St} {Q : Exit → List DV → St → Prop}, okC ss c = true → vw P w0 ss c fr S Q → AWp P w0 c fr S Q
  | .skip, fr, S, Q, _, h => awp_skip h
  | .seq x y, fr, S, Q, ho, h => by
    simp only [okC, Bool.and_eq_true] at ho
    exact awp_seq ((vw_sound hm x ho.1 h).mono fun e fr S hq => by cases e <;> first | exact vw_sound hm y ho.2 hq | exact hq)
  | .cond c x y, fr, S, Q, ho, h => by
    simp only [okC, Bool.and_eq_true] at ho
    exact awp_cond (condD_mono (fun h => vw_sound hm x ho.1 h) (fun h => vw_sound hm y ho.2 h) h)
  | .block n c, fr, S, Q, ho, h => by
    unfold vw selK at h
    unfold okC at ho
    split at h
    · exact h
    · rename_i hn
      rw [hn, Bool.false_or] at ho
      exact awp_block (vw_sound hm c ho h)
  | .exit n, fr, S, Q, _, h => awp_exit h
  | .ret, fr, S, Q, _, h => awp_ret h
  | .region n ops false, fr, S, Q, ho, h => by
    unfold vw at h
    unfold selK at h
    unfold okC at ho
    split at h
    · exact h
    rename_i hn
    rw [hn, Bool.false_or] at ho
    simp only at h
    have := vcL_sound _ ho h
    have := awp_region (id := n) (l := ops.toList) this
    simpa using this
  | .region n ops true, fr, S, Q, ho, h => by
    unfold vw at h
    unfold selK at h
    unfold okC at ho
    split at h
    · exact h
    rename_i hn
    rw [hn, Bool.false_or] at ho
    simp only [Bool.and_eq_true] at ho
    simp only at h
    have := awp_drawX (id := n) (l := ops.toList) (fr := fr) (S := S) (Q := Q) hm (lexG_sound ho.1.1.2 ho.1.2) ho.2 ho.1.1.1 h
    simpa using this
  | .loop c, fr, S, Q, _, h => h
  | .rangeFunc f ps a b, fr, S, Q, _, h => h
  | .scope c, fr, S, Q, _, h => h
  | .label l, fr, S, Q, _, h => h
  | .goto l, fr, S, Q, _, h => h
  | .refuse w, fr, S, Q, _, h => h

/-- The same, its result as it is. -/
theorem fnO (ss : List Nat) {f : FuncId} {fn : Func} {c : Code} {rs : List ResultVar} {args : List DV} {S : St} {K : DV → St → Prop} (hm : P.follows .mixedOrders = true) (hf : P.funcs[f]? = some fn) (hb : fn.body = some c) (hrs : fn.results = rs.toArray) (hc : okC ss c = true)
    (h : vw P w0 ss c (foldF (args ++ List.replicate (fn.ntmps - args.length) ud)) S fun e fr S' => (e = .normal ∨ e = .ret) ∧ resK P fr S' rs fun d => K d S') : ACall P w0 f args S K :=
  acall_of hf hb hrs (vw_sound hm c hc h)

end
end Aml

namespace Aml
open Go Go.RowKit
set_option linter.unusedVariables false
set_option linter.unusedSimpArgs false

/-- What is d is e, too. -/
def Wk (d e : DV) : Prop := ∀ g u, Rep g d u → Rep g e u
def WkL : List DV → List DV → Prop
  | [], [] => True
  | d :: ds, e :: es => Wk d e ∧ WkL ds es
  | _, _ => False
theorem Wk.refl (d : DV) : Wk d d := fun _ _ h => h
theorem Wk.trans {a b c : DV} (h : Wk a b) (k : Wk b c) : Wk a c := fun g u r => k g u (h g u r)
theorem Wk.any (d : DV) : Wk d .any := fun g u _ => .any u
theorem Wk.nil (s s' : Nat) (f : Bool) : Wk (.sl s true []) (.sl s' f []) := fun g u r => by
  obtain ⟨o, h⟩ := rep_full_nil r
  rw [h]; exact .nil _ _ _ _ fun _ => rfl
theorem Wk.full (s : Nat) (f : Bool) (xs : List DV) : Wk (.sl s f xs) (.sl s false xs) := fun g u r => by
  cases r with
  | nil _ _ o c hc => exact .nil _ _ _ _ (by simp)
  | sl _ _ _ b o c us hl hf hc hm hr hz h1 hi => exact .sl _ _ _ _ _ _ us hl (by simp) hc hm hr hz h1 hi
theorem WkL.refl : ∀ ds, WkL ds ds
  | [] => trivial
  | d :: ds => ⟨.refl d, WkL.refl ds⟩
theorem WkL.spec : ∀ {ds es : List DV}, WkL ds es → ∀ {g : Gh} {us : List Value}, RepL g ds us → RepL g es us
  | [], [], _, _, _, r => r
  | d :: ds, e :: es, h, g, us, r => by
    obtain ⟨u, us', rfl, r1, r2⟩ := r.uncons
    exact RepL.cons (h.1 _ _ r1) (WkL.spec h.2 r2)
theorem WkL.length : ∀ {ds es : List DV}, WkL ds es → ds.length = es.length
  | [], [], _ => rfl
  | d :: ds, e :: es, h => by simp [WkL.length h.2]
theorem WkL.trans : ∀ {a b c : List DV}, WkL a b → WkL b c → WkL a c
  | [], [], [], _, _ => trivial
  | _ :: _, _ :: _, _ :: _, h, k => ⟨h.1.trans k.1, h.2.trans k.2⟩
theorem Wk.agg {ds es : List DV} (h : WkL ds es) : Wk (.agg ds) (.agg es) := fun g u r => by
  cases r with
  | agg _ us hl hr h1 =>
    have := h.spec (g := g) (us := us) ⟨hl, hr⟩
    exact .agg _ _ this.len this.at_ h1
theorem Wk.tup {ds es : List DV} (h : WkL ds es) : Wk (.tup ds) (.tup es) := fun g u r => by
  cases r with
  | tup _ us hl hr =>
    have := h.spec (g := g) (us := us) ⟨hl, hr⟩
    exact .tup _ _ this.len this.at_
theorem Wk.ifc {t : TypeId} {d e : DV} (h : Wk d e) : Wk (.ifc t d) (.ifc t e) := fun g u r => by
  cases r with
  | ifc _ _ u r => exact .ifc _ _ _ (h _ _ r)
/-- Elements, too. -/
theorem Wk.sl {s : Nat} {f : Bool} {xs ys : List DV} (h : WkL xs ys) : Wk (.sl s f xs) (.sl s f ys) := fun g u r => by
  cases r with
  | nil _ _ o c hc =>
    cases ys with
    | nil => exact .nil _ _ _ _ hc
    | cons y ys => exact h.elim
  | sl _ _ _ b o c us hl hf hc hm hr hz h1 hi =>
    have := h.spec (g := g) (us := us) ⟨hl, hr⟩
    exact .sl _ _ _ _ _ _ us this.len hf hc hm this.at_ hz h1 hi
theorem Wk_tup {ds es : List DV} (h : WkL ds es) : Wk (.tup ds) (.tup es) = True := eq_true (Wk.tup h)
theorem Wk_agg {ds es : List DV} (h : WkL ds es) : Wk (.agg ds) (.agg es) = True := eq_true (Wk.agg h)
theorem WkL.map {α : Type} {f g : α → DV} (h : ∀ a, Wk (f a) (g a)) : ∀ (l : List α), WkL (l.map f) (l.map g)
  | [] => trivial
  | a :: l => ⟨h a, WkL.map h l⟩
theorem WkL.nil : WkL [] [] := trivial
theorem WkL.cons {d e : DV} {ds es : List DV} (h : Wk d e) (k : WkL ds es) : WkL (d :: ds) (e :: es) := ⟨h, k⟩

theorem WkL_cons (d e : DV) (ds es : List DV) : WkL (d :: ds) (e :: es) = (Wk d e ∧ WkL ds es) := rfl
theorem WkL_nil : WkL [] [] = True := rfl
theorem WkL_rc (a0 a1 a2 a3 a4 a5 a6 a7 a8 a9 a10 a11 a12 a13 a14 a15 : DV) (b0 b1 b2 b3 b4 b5 b6 b7 b8 b9 b10 b11 b12 b13 b14 b15 : DV) (l m : List DV) : WkL (rc ⟨a0, a1, a2, a3, a4, a5, a6, a7, a8, a9, a10, a11, a12, a13, a14, a15⟩ l) (rc ⟨b0, b1, b2, b3, b4, b5, b6, b7, b8, b9, b10, b11, b12, b13, b14, b15⟩ m) = (Wk a0 b0 ∧ Wk a1 b1 ∧ Wk a2 b2 ∧ Wk a3 b3 ∧ Wk a4 b4 ∧ Wk a5 b5 ∧ Wk a6 b6 ∧ Wk a7 b7 ∧ Wk a8 b8 ∧ Wk a9 b9 ∧ Wk a10 b10 ∧ Wk a11 b11 ∧ Wk a12 b12 ∧ Wk a13 b13 ∧ Wk a14 b14 ∧ Wk a15 b15 ∧ WkL l m) := rfl

theorem Wk.eq {d e : DV} (h : d = e) : Wk d e := h ▸ .refl d
theorem Wk_self (d : DV) : Wk d d = True := eq_true (.refl d)
theorem Wk_any (d : DV) : Wk d .any = True := eq_true (.any d)
theorem Wk_v {u u' : Value} (h : u.oneCell' = true) : Wk (.v u) (.v u') ↔ u = u' :=
  ⟨fun k => by have := k ⟨fun _ _ => none, fun _ _ => none, fun _ => none⟩ u (.v u h); cases this; rfl, fun e => e ▸ .refl _⟩
theorem Wk_int (k : IntKind) (a b : Int) : Wk (.v (.int k a)) (.v (.int k b)) = (a = b) := propext ((Wk_v rfl).trans ⟨fun h => (Value.int.inj h).2, fun h => by rw [h]⟩)
theorem Wk_bool (a b : Bool) : Wk (.v (.bool a)) (.v (.bool b)) = (a = b) := propext ((Wk_v rfl).trans ⟨fun h => Value.bool.inj h, fun h => by rw [h]⟩)
theorem Wk_str (a b : ByteArray) : Wk (.v (.string a)) (.v (.string b)) = (a = b) := propext ((Wk_v rfl).trans ⟨fun h => Value.string.inj h, fun h => by rw [h]⟩)
theorem Wk_full (s : Nat) (f : Bool) (xs : List DV) : Wk (.sl s f xs) (.sl s false xs) = True := eq_true (.full s f xs)
theorem Wk_nil (s s' : Nat) (f : Bool) : Wk (.sl s true []) (.sl s' f []) = True := eq_true (.nil s s' f)

section
variable {P : Program} {w0 : W0}
/-- A contract is used. -/
theorem acall_use {f : FuncId} {args args' : List DV} {S : St} {K K' : DV → St → Prop} (h : ACall P w0 f args' S K') (ha : WkL args args') (hk : ∀ d S', K' d S' → ∃ e, Wk d e ∧ K e S') : ACall P w0 f args S K :=
  fun g vs w h1 h2 => (h g vs w h1 (ha.spec h2)).mono fun e w' ⟨r, g', d, S', q1, q2, q3, q4, q5⟩ =>
    let ⟨e', k1, k2⟩ := hk _ _ q5
    ⟨r, g', e', S', q1, q2, q3, k1 _ _ q4, k2⟩
/-- One that hands back one value and leaves the store. -/
theorem acall_one {f : FuncId} {args args' : List DV} {S : St} {K : DV → St → Prop} {r : DV} (h : ACall P w0 f args' S (fun d S' => d = r ∧ S' = S)) (ha : WkL args args') (hk : K r S) : ACall P w0 f args S K :=
  acall_use h ha fun d S' ⟨h1, h2⟩ => ⟨d, .refl d, by rw [h1, h2]; exact hk⟩
/-- The same, as they are used. -/
theorem use1 {f : FuncId} {args args' : List DV} {S : St} {K : DV → St → Prop} {r : DV} (h : ACall P w0 f args' S (fun d S' => d = r ∧ S' = S)) (hk : K r S) (ha : WkL args args' := by exact WkL.refl _) : @AC P w0 f args S ⟨K⟩ := acall_one h ha hk
theorem useK {f : FuncId} {args args' : List DV} {S : St} {K K' : DV → St → Prop} (h : ACall P w0 f args' S K') (hk : ∀ d S', K' d S' → K d S') (ha : WkL args args' := by exact WkL.refl _) : @AC P w0 f args S ⟨K⟩ := acall_use h ha fun d S' q => ⟨d, .refl d, hk d S' q⟩
theorem useQ {f : FuncId} {args args' : List DV} {S : St} {K : DV → Prop} {r : DV} (h : ACall P w0 f args' S (fun d S' => d = r ∧ S' = S)) (hk : K r) (ha : WkL args args' := by exact WkL.refl _) : @QC P w0 f args S ⟨K⟩ :=
  ⟨r, acall_one h ha ⟨rfl, rfl⟩, hk⟩
/-- A store that is part of another. -/
structure Sub (S S' : St) : Prop where
  box : S.box.Sublist S'.box
  acc : S.acc.Sublist S'.acc
theorem Sub.refl (S : St) : Sub S S := ⟨List.Sublist.refl _, List.Sublist.refl _⟩
theorem Sub.consB {S : St} {B : List (Nat × List DV)} {A : List (Nat × Ob)} {x : Nat × List DV} (h : Sub S ⟨B, A⟩) : Sub S ⟨x :: B, A⟩ := ⟨h.box.cons _, h.acc⟩
theorem Sub.consA {S : St} {B : List (Nat × List DV)} {A : List (Nat × Ob)} {x : Nat × Ob} (h : Sub S ⟨B, A⟩) : Sub S ⟨B, x :: A⟩ := ⟨h.box, h.acc.cons _⟩
theorem Sub.bothB {B B' : List (Nat × List DV)} {A A' : List (Nat × Ob)} {x : Nat × List DV} (h : Sub ⟨B, A⟩ ⟨B', A'⟩) : Sub ⟨x :: B, A⟩ ⟨x :: B', A'⟩ := ⟨h.box.cons_cons _, h.acc⟩
theorem Sub.bothA {B B' : List (Nat × List DV)} {A A' : List (Nat × Ob)} {x : Nat × Ob} (h : Sub ⟨B, A⟩ ⟨B', A'⟩) : Sub ⟨B, x :: A⟩ ⟨B', x :: A'⟩ := ⟨h.box, h.acc.cons_cons _⟩

theorem Sub_refl (S : St) : Sub S S = True := eq_true (.refl S)
theorem Sub_bA {B B' : List (Nat × List DV)} {A A' : List (Nat × Ob)} (x : Nat × Ob) (h : Sub ⟨B, A⟩ ⟨B', A'⟩) : Sub ⟨B, x :: A⟩ ⟨B', x :: A'⟩ = True := eq_true h.bothA
theorem Sub_cB (S : St) {B : List (Nat × List DV)} {A : List (Nat × Ob)} (x : Nat × List DV) (h : Sub S ⟨B, A⟩) : Sub S ⟨x :: B, A⟩ = True := eq_true h.consB
theorem Sub_cA (S : St) {B : List (Nat × List DV)} {A : List (Nat × Ob)} (x : Nat × Ob) (h : Sub S ⟨B, A⟩) : Sub S ⟨B, x :: A⟩ = True := eq_true h.consA
/-- Some slots frozen. -/
def shrAt : List Nat → List DV → St → (List DV → St → Prop) → Prop
  | [], fr, S, K => K fr S
  | i :: is, fr, S, K => oK (fr[i]?) fun d => shr S d fun d S => shrAt is (fr.set i d) S K
theorem shrAt_nil (fr : List DV) (S : St) (K : List DV → St → Prop) : shrAt [] fr S K = K fr S := rfl
theorem shrAt_cons (i : Nat) (is : List Nat) (fr : List DV) (S : St) (K : List DV → St → Prop) : shrAt (i :: is) fr S K = oK (fr[i]?) fun d => shr S d fun d S => shrAt is (fr.set i d) S K := rfl
theorem shrAt_ok {K : List DV → St → Prop} : ∀ (is : List Nat) {fr : List DV} {S : St} {g : Gh} {w : World} {us : List Value}, Rel w0 g S w → RepL g fr us → shrAt is fr S K → ∃ g' fr' S', g.le g' ∧ Rel w0 g' S' w ∧ RepL g' fr' us ∧ K fr' S'
  | [], fr, S, g, w, us, h1, h2, h => ⟨g, fr, S, .refl g, h1, h2, h⟩
  | i :: is, fr, S, g, w, us, h1, h2, h => by
    unfold shrAt at h
    cases hi : fr[i]? with
    | none => rw [hi] at h; exact h.elim
    | some d =>
      rw [hi, q_oK_some] at h
      have hlt : i < us.length := by rw [← h2.len]; exact (List.getElem?_eq_some_iff.1 hi).1
      have hr := h2.at_ i _ _ hi (List.getElem?_eq_getElem hlt)
      obtain ⟨g1, d', S1, k1, k2, k3, k4⟩ := shr_ok h1 hr h
      obtain ⟨g2, fr2, S2, q1, q2, q3, q4⟩ := shrAt_ok is k2 (repL_same (h2.mono k1) (List.getElem?_eq_getElem hlt) k3) k4
      exact ⟨g2, fr2, S2, k1.trans q1, q2, q3, q4⟩

/-- A loop; at its head less is said, and parts of the store are forgotten. -/
theorem loopA {σ : Type} (live : List Nat) (vals : σ → List (Nat × DV)) (st : σ → St) (inv : σ → Prop) (meas : σ → Nat) (s0 : σ) {c : Code} {fr : List DV} {S : St} {Q : Exit → List DV → St → Prop}
    (h0 : inv s0 ∧ WkL (wk live fr) (upds (wk live fr) (vals s0)) ∧ Sub (st s0) S)
    (round : ∀ s, inv s → AWp P w0 c (upds (wk live fr) (vals s)) (st s) (thenQ (fun fr' S' => ∃ s', inv s' ∧ meas s' < meas s ∧ WkL (wk live fr') (upds (wk live fr) (vals s')) ∧ Sub (st s') S') Q)) :
    AWp P w0 (.loop c) fr S Q := by
  intro g a w h1 h2 h3
  refine wpA_loop_ind (fun m a w => Dk w0 g.obj a w ∧ ∃ g' s, g.le g' ∧ Rel w0 g' (st s) w ∧ RepL g' (upds (wk live fr) (vals s)) a.tmps.toList ∧ inv s ∧ meas s = m) (m := meas s0) ⟨h3, g, s0, .refl g, h1.forget h0.2.2.box h0.2.2.acc, h0.2.1.spec (repL_wk live h2), h0.1, rfl⟩ ?_
  rintro m a w ⟨hd, g', s, k1, k2, k3, k4, rfl⟩
  refine wpA_mono (round s k4 g' a w k2 k3 (k1.dk hd)) ?_
  rintro e a' w' ⟨hd', g'', fr'', S'', q1, q2, q3, q4⟩
  cases e with
  | normal =>
    obtain ⟨s', hi, hm, hf, hS⟩ := q4
    exact ⟨meas s', hm, k1.kd hd', g'', s', k1.trans q1, q2.forget hS.box hS.acc, hf.spec (repL_wk live q3), hi, rfl⟩
  | exit n => exact ⟨k1.kd hd', g'', fr'', S'', k1.trans q1, q2, q3, q4⟩
  | goto n => exact ⟨k1.kd hd', g'', fr'', S'', k1.trans q1, q2, q3, q4⟩
  | ret => exact ⟨k1.kd hd', g'', fr'', S'', k1.trans q1, q2, q3, q4⟩
  | panic ch => exact ⟨k1.kd hd', g'', fr'', S'', k1.trans q1, q2, q3, q4⟩
  | outgrown => exact ⟨k1.kd hd', g'', fr'', S'', k1.trans q1, q2, q3, q4⟩
/-- The same, walked. -/
theorem loopK {σ : Type} (ss : List Nat := []) (live : List Nat) (vals : σ → List (Nat × DV)) (st : σ → St) (inv : σ → Prop) (meas : σ → Nat) (s0 : σ) {c : Code} {fr : List DV} {S : St} {Q : Exit → List DV → St → Prop} (hm : P.follows .mixedOrders = true) (hc : okC ss c = true)
    (h0 : inv s0 ∧ WkL (wk live fr) (upds (wk live fr) (vals s0)) ∧ Sub (st s0) S)
    (round : ∀ s, inv s → vw P w0 ss c (upds (wk live fr) (vals s)) (st s) (thenQ (fun fr' S' => ∃ s', inv s' ∧ meas s' < meas s ∧ WkL (wk live fr') (upds (wk live fr) (vals s')) ∧ Sub (st s') S') Q)) :
    AWp P w0 (.loop c) fr S Q := loopA live vals st inv meas s0 h0 fun s hs => vw_sound hm c hc (round s hs)

/-- A piece of code, walked; behind it the frame is said once more. -/
theorem cutK {σ : Type} (ss : List Nat := []) (live : List Nat) (vals : σ → List (Nat × DV)) (st : σ → St) (inv : σ → Prop) {c : Code} {fr : List DV} {S : St} {Q : Exit → List DV → St → Prop} (hm : P.follows .mixedOrders = true) (hc : okC ss c = true)
    (h1 : vw P w0 ss c fr S (thenQ (fun fr' S' => ∃ s, inv s ∧ WkL (wk live fr') (upds (wk live fr) (vals s)) ∧ Sub (st s) S') Q))
    (h2 : ∀ s, inv s → Q .normal (upds (wk live fr) (vals s)) (st s)) : AWp P w0 c fr S Q := by
  intro g a w q1 q2 q3
  refine wpA_mono (vw_sound hm c hc h1 g a w q1 q2 q3) ?_
  rintro e a' w' ⟨hd, g', fr', S', k1, k2, k3, k4⟩
  cases e with
  | normal =>
    obtain ⟨s, hi, hw, hS⟩ := k4
    exact ⟨hd, g', _, _, k1, k2.forget hS.box hS.acc, hw.spec (repL_wk live k3), h2 s hi⟩
  | exit n => exact ⟨hd, g', fr', S', k1, k2, k3, k4⟩
  | goto n => exact ⟨hd, g', fr', S', k1, k2, k3, k4⟩
  | ret => exact ⟨hd, g', fr', S', k1, k2, k3, k4⟩
  | panic ch => exact ⟨hd, g', fr', S', k1, k2, k3, k4⟩
  | outgrown => exact ⟨hd, g', fr', S', k1, k2, k3, k4⟩
/-- A loop that counts: s is how many rounds were; at its head less is said, and parts of the store are forgotten. -/
theorem loopN (ss : List Nat := []) (n : Nat) (live : List Nat) (vals : Nat → List (Nat × DV)) (st : Nat → St) (inv : Nat → Prop) {c : Code} {fr : List DV} {S : St} {Q : Exit → List DV → St → Prop} (hm : P.follows .mixedOrders = true) (hc : okC ss c = true)
    (h0 : inv 0 ∧ WkL (wk live fr) (upds (wk live fr) (vals 0)) ∧ Sub (st 0) S)
    (round : ∀ k, k ≤ n → inv k → vw P w0 ss c (upds (wk live fr) (vals k)) (st k) (thenQ (fun fr' S' => k < n ∧ inv (k + 1) ∧ WkL (wk live fr') (upds (wk live fr) (vals (k + 1))) ∧ Sub (st (k + 1)) S') Q)) :
    AWp P w0 (.loop c) fr S Q := by
  refine loopA live vals st (fun k => k ≤ n ∧ inv k) (fun k => n - k) 0 ⟨⟨Nat.zero_le _, h0.1⟩, h0.2⟩ ?_
  rintro k ⟨h1, h2⟩
  refine (vw_sound hm c hc (round k h1 h2)).mono ?_
  intro e fr' S' q
  cases e with
  | normal =>
    obtain ⟨q1, q2, q3, q4⟩ := q
    exact ⟨k + 1, ⟨q1, q2⟩, by omega, q3, q4⟩
  | exit n => exact q
  | goto n => exact q
  | ret => exact q
  | panic ch => exact q
  | outgrown => exact q

/-- A loop that counts; at its head some slots are frozen, less is said, and parts of the store are forgotten. -/
theorem loopNZ (ss : List Nat := []) (fz : List Nat) (n : Nat) (live : List Nat) (vals : Nat → List (Nat × DV)) (st : Nat → St) (inv : Nat → Prop) {c : Code} {fr : List DV} {S : St} {Q : Exit → List DV → St → Prop} (hm : P.follows .mixedOrders = true) (hc : okC ss c = true)
    (h0 : inv 0 ∧ shrAt fz (wk live fr) S fun fr' S' => WkL fr' (upds (wk live fr) (vals 0)) ∧ Sub (st 0) S')
    (round : ∀ k, k ≤ n → inv k → vw P w0 ss c (upds (wk live fr) (vals k)) (st k) (thenQ (fun fr' S' => k < n ∧ inv (k + 1) ∧ shrAt fz (wk live fr') S' fun fr' S' => WkL fr' (upds (wk live fr) (vals (k + 1))) ∧ Sub (st (k + 1)) S') Q)) :
    AWp P w0 (.loop c) fr S Q := by
  intro g a w h1 h2 h3
  obtain ⟨g0, f0, S0, r1, r2, r3, r4, r5⟩ := shrAt_ok fz h1 (repL_wk live h2) h0.2
  refine wpA_loop_ind (fun m a w => Dk w0 g.obj a w ∧ ∃ g' k, g.le g' ∧ Rel w0 g' (st k) w ∧ RepL g' (upds (wk live fr) (vals k)) a.tmps.toList ∧ (k ≤ n ∧ inv k) ∧ n - k = m) (m := n - 0) ⟨h3, g0, 0, r1, r2.forget r5.box r5.acc, r4.spec r3, ⟨Nat.zero_le _, h0.1⟩, rfl⟩ ?_
  rintro m a w ⟨hd, g', k, k1, k2, k3, k4, rfl⟩
  refine wpA_mono (vw_sound hm c hc (round k k4.1 k4.2) g' a w k2 k3 (k1.dk hd)) ?_
  rintro e a' w' ⟨hd', g'', fr'', S'', q1, q2, q3, q4⟩
  cases e with
  | normal =>
    obtain ⟨hlt, hi, hf⟩ := q4
    obtain ⟨g3, f3, S3, p1, p2, p3, p4, p5⟩ := shrAt_ok fz q2 (repL_wk live q3) hf
    exact ⟨n - (k + 1), by omega, k1.kd hd', g3, k + 1, (k1.trans q1).trans p1, p2.forget p5.box p5.acc, p4.spec p3, ⟨hlt, hi⟩, rfl⟩
  | exit n => exact ⟨k1.kd hd', g'', fr'', S'', k1.trans q1, q2, q3, q4⟩
  | goto n => exact ⟨k1.kd hd', g'', fr'', S'', k1.trans q1, q2, q3, q4⟩
  | ret => exact ⟨k1.kd hd', g'', fr'', S'', k1.trans q1, q2, q3, q4⟩
  | panic ch => exact ⟨k1.kd hd', g'', fr'', S'', k1.trans q1, q2, q3, q4⟩
  | outgrown => exact ⟨k1.kd hd', g'', fr'', S'', k1.trans q1, q2, q3, q4⟩
/-- A function, walked: its result frozen, what it made beside it forgotten. -/
theorem fnS (ss : List Nat := []) {f : FuncId} {fn : Func} {c : Code} {rs : List ResultVar} {args : List DV} {S : St} {r : DV} (hm : P.follows .mixedOrders = true) (hf : P.funcs[f]? = some fn) (hb : fn.body = some c) (hrs : fn.results = rs.toArray) (hc : okC ss c = true)
    (h : vw P w0 ss c (foldF (args ++ List.replicate (fn.ntmps - args.length) ud)) S fun e fr S' => (e = .normal ∨ e = .ret) ∧ resK P fr S' rs fun d => shrT S' d fun d S'' => Wk d r ∧ Sub S S'') : ACall P w0 f args S (fun d S' => d = r ∧ S' = S) := by
  have h1 : ACall P w0 f args S (fun d S' => shrT S' d fun d S'' => Wk d r ∧ Sub S S'') := acall_of hf hb hrs (vw_sound hm c hc h)
  intro g vs w k1 k2
  refine (h1 g vs w k1 k2).mono ?_
  rintro e w' ⟨v, g', d, S', q1, q2, q3, q4, q5⟩
  obtain ⟨g2, d', S2, p1, p2, p3, p4, p5⟩ := shrT_ok q3 q4 q5
  exact ⟨v, g2, r, S, q1, q2.trans p1, p2.forget p5.box p5.acc, p4 _ _ p3, rfl, rfl⟩
/-- Less is said of what a box holds. -/
theorem _root_.Aml.Rel.wkBox {g : Gh} {S : St} {w : World} (h : Rel w0 g S w) {b : Nat} {ds ds' : List DV} (hl : lk S.box b = some ds) (hw : ∀ us e, w.heap[b]? = some (.cells us e (0, 0)) → RepL g ds us.toList → RepL g ds' us.toList) : Rel w0 g ⟨up S.box b ds', S.acc⟩ w := by
  refine ⟨h.below, h.imm, by rw [map_up]; exact h.nb, h.na, h.accw, h.fresh, h.top, ?_⟩
  obtain ⟨ow, o1, o2⟩ := h.own
  refine ⟨ow, fun b' e hm => ?_, o2⟩
  rcases mem_up h.nb hm with he | ⟨hm, _⟩
  · cases he
    obtain ⟨q1, q2, q3, us, e, q4, q5, q6⟩ := o1 _ _ (lk_mem hl)
    exact ⟨q1, q2, q3, us, e, q4, hw _ _ q4 q5, q6⟩
  · exact o1 _ _ hm
/-- A nil slice in a box becomes one that grows. -/
theorem awp_growB (b j s : Nat) (hs : 0 < s) {c : Code} {fr : List DV} {S : St} {Q : Exit → List DV → St → Prop} {ds : List DV} {s0 : Nat} (hb : lk S.box b = some ds) (hi : ds[j]? = some (.sl s0 true []))
    (h : ∀ l : FN S.acc, AWp P w0 c fr ⟨up S.box b (ds.set j (.acc l.n 0)), (l.n, .arr s []) :: S.acc⟩ Q) : AWp P w0 c fr S Q := by
  intro g a w h1 h2 h3
  obtain ⟨ow, o1, o2⟩ := h1.own
  obtain ⟨q1, q2, q3, us, e, q4, q5, q6⟩ := o1 _ _ (lk_mem hb)
  have hlt : j < us.toList.length := by rw [← q5.len]; exact (List.getElem?_eq_some_iff.1 hi).1
  have hr := q5.at_ j _ _ hi (List.getElem?_eq_getElem hlt)
  have hr' : Rep g (.sl s true []) us.toList[j] := by obtain ⟨o', ho'⟩ := rep_full_nil hr; rw [ho']; exact .nil _ _ _ _ fun _ => rfl
  obtain ⟨l, g', hle, hne, hR, hA⟩ := h1.newAcc hs hr' (.arr s []) (.inr ⟨rfl, rfl⟩)
  have hR' := hR.wkBox (ds' := ds.set j (.acc l 0)) (b := b) hb ?_
  · exact wpA_mono (h ⟨l, nin_of hne⟩ g' a w hR' (h2.mono hle) (hle.dk h3)) fun _ _ _ k => k.of_le hle
  · intro us' e' hh hr2
    rw [hh] at q4
    cases q4
    exact repL_same hr2 (List.getElem?_eq_getElem hlt) hA
theorem growK (i s : Nat) {c : Code} {fr : List DV} {S : St} {Q : Exit → List DV → St → Prop} {s0 : Nat} (hi : fr[i]? = some (.sl s0 true [])) (hs : 0 < s)
    (h : ∀ l : FN S.acc, AWp P w0 c (fr.set i (.acc l.n 0)) ⟨S.box, (l.n, .arr s []) :: S.acc⟩ Q) : AWp P w0 c fr S Q := awp_grow i s hs hi fun l hl => h ⟨l, hl⟩
/-- Some slots are frozen; then the walk. -/
theorem shrK (ss : List Nat := []) (is : List Nat) {c : Code} {fr : List DV} {S : St} {Q : Exit → List DV → St → Prop} (hm : P.follows .mixedOrders = true) (hc : okC ss c = true) (h : shrAt is fr S fun fr S => vw P w0 ss c fr S Q) : AWp P w0 c fr S Q := by
  intro g a w h1 h2 h3
  obtain ⟨g', f', S', k1, k2, k3, k4⟩ := shrAt_ok is h1 h2 h
  exact wpA_mono (vw_sound hm c hc k4 g' a w k2 k3 (k1.dk h3)) fun _ _ _ k => k.of_le k1
/-- A nil slice that comes back may be one that grows. -/
theorem acall_nil {f : FuncId} {args : List DV} {S : St} {K K' : DV → St → Prop} (h : ACall P w0 f args S K') (s : Nat) (hs : 0 < s)
    (hk : ∀ d S', K' d S' → K d S' ∨ ((∃ s0, d = .sl s0 true []) ∧ ∀ l, nin S'.acc l → K (.acc l 0) ⟨S'.box, (l, .arr s []) :: S'.acc⟩)) : ACall P w0 f args S K := by
  intro g vs w h1 h2
  refine (h g vs w h1 h2).mono ?_
  rintro e w' ⟨r, g', d, S', q1, q2, q3, q4, q5⟩
  rcases hk d S' q5 with h | ⟨⟨s0, rfl⟩, h⟩
  · exact ⟨r, g', d, S', q1, q2, q3, q4, h⟩
  · have hr' : Rep g' (.sl s true []) r := by obtain ⟨o', ho'⟩ := rep_full_nil q4; rw [ho']; exact .nil _ _ _ _ fun _ => rfl
    obtain ⟨l, g2, hle, hne, hR, hA⟩ := q3.newAcc hs hr' (.arr s []) (.inr ⟨rfl, rfl⟩)
    exact ⟨r, g2, _, _, q1, q2.trans hle, hR, hA, h l (nin_of hne)⟩
/-- A nil slice that comes back is one that grows. -/
theorem nilK {f : FuncId} {args : List DV} {S : St} {xs : List DV} (s : Nat) (hs : 0 < s) (h : ACall P w0 f args S fun d S' => (xs = [] ∧ (∃ s0, d = .sl s0 true []) ∧ S' = S) ∨ ∃ l : FN S.acc, d = .acc l.n xs.length ∧ S' = ⟨S.box, (l.n, .arr s xs) :: S.acc⟩) :
    ACall P w0 f args S fun d S' => ∃ l : FN S.acc, d = .acc l.n xs.length ∧ S' = ⟨S.box, (l.n, .arr s xs) :: S.acc⟩ := by
  refine acall_nil h s hs ?_
  rintro d S' (⟨rfl, ⟨s0, rfl⟩, rfl⟩ | h)
  · exact .inr ⟨⟨s0, rfl⟩, fun l hl => ⟨⟨l, hl⟩, rfl, rfl⟩⟩
  · exact .inl h
end
attribute [go_sem high] Sub_refl Sub_bA
attribute [go_sem low] Wk_tup Wk_agg
attribute [go_sem] WkL_rc Sub_cB Sub_cA WkL_cons WkL_nil Wk_self Wk_any Wk_int Wk_bool Wk_str Wk_full Wk_nil
attribute [go_sem ↓] shrAt_nil shrAt_cons
/-- The reckoning, as one step: what is left of a goal; with more equations. (As a structure, so that a goal is not unfolded when it is met.) -/
structure Wr (P : Prop) : Prop where
  h : P
theorem goW (P : Prop) (w : Wr P) : P := w.h
theorem goS {P Q : Prop}  (q : Q) (e : (P ↔ Q) := by simp (maxDischargeDepth := 12) (maxSteps := 1000000) -implicitDefEqProofs only [go_sem, Nat.reduceAdd, Nat.reduceSub, Nat.reduceMul, Nat.reduceLeDiff, Nat.reduceEqDiff, Nat.reduceGT, Nat.reduceBEq, reduceCtorEq, ↓reduceIte, Int.reduceToNat, Int.reduceLE, Int.reduceLT, Int.reduceNe, Int.reduceEq] <;> exact Iff.rfl) : Wr P := ⟨Iff.mpr e q⟩
theorem goT {P : Prop}  (e : (P ↔ True) := by simp (maxDischargeDepth := 12) (maxSteps := 1000000) -implicitDefEqProofs only [go_sem, Nat.reduceAdd, Nat.reduceSub, Nat.reduceMul, Nat.reduceLeDiff, Nat.reduceEqDiff, Nat.reduceGT, Nat.reduceBEq, reduceCtorEq, ↓reduceIte, Int.reduceToNat, Int.reduceLE, Int.reduceLT, Int.reduceNe, Int.reduceEq]) : Wr P := ⟨of_iff_true e⟩
theorem goS1 {X1 P Q : Prop} (x1 : X1) (q : Q) (e : X1 → (P ↔ Q) := by intro z1; simp (maxDischargeDepth := 12) (maxSteps := 1000000) -implicitDefEqProofs only [go_sem, Nat.reduceAdd, Nat.reduceSub, Nat.reduceMul, Nat.reduceLeDiff, Nat.reduceEqDiff, Nat.reduceGT, Nat.reduceBEq, reduceCtorEq, ↓reduceIte, Int.reduceToNat, Int.reduceLE, Int.reduceLT, Int.reduceNe, Int.reduceEq, z1] <;> exact Iff.rfl) : Wr P := ⟨Iff.mpr (e x1) q⟩
theorem goT1 {X1 P : Prop} (x1 : X1) (e : X1 → (P ↔ True) := by intro z1; simp (maxDischargeDepth := 12) (maxSteps := 1000000) -implicitDefEqProofs only [go_sem, Nat.reduceAdd, Nat.reduceSub, Nat.reduceMul, Nat.reduceLeDiff, Nat.reduceEqDiff, Nat.reduceGT, Nat.reduceBEq, reduceCtorEq, ↓reduceIte, Int.reduceToNat, Int.reduceLE, Int.reduceLT, Int.reduceNe, Int.reduceEq, z1]) : Wr P := ⟨of_iff_true (e x1)⟩
theorem goS2 {X1 X2 P Q : Prop} (x1 : X1) (x2 : X2) (q : Q) (e : X1 → X2 → (P ↔ Q) := by intro z1 z2; simp (maxDischargeDepth := 12) (maxSteps := 1000000) -implicitDefEqProofs only [go_sem, Nat.reduceAdd, Nat.reduceSub, Nat.reduceMul, Nat.reduceLeDiff, Nat.reduceEqDiff, Nat.reduceGT, Nat.reduceBEq, reduceCtorEq, ↓reduceIte, Int.reduceToNat, Int.reduceLE, Int.reduceLT, Int.reduceNe, Int.reduceEq, z1, z2] <;> exact Iff.rfl) : Wr P := ⟨Iff.mpr (e x1 x2) q⟩
theorem goT2 {X1 X2 P : Prop} (x1 : X1) (x2 : X2) (e : X1 → X2 → (P ↔ True) := by intro z1 z2; simp (maxDischargeDepth := 12) (maxSteps := 1000000) -implicitDefEqProofs only [go_sem, Nat.reduceAdd, Nat.reduceSub, Nat.reduceMul, Nat.reduceLeDiff, Nat.reduceEqDiff, Nat.reduceGT, Nat.reduceBEq, reduceCtorEq, ↓reduceIte, Int.reduceToNat, Int.reduceLE, Int.reduceLT, Int.reduceNe, Int.reduceEq, z1, z2]) : Wr P := ⟨of_iff_true (e x1 x2)⟩
theorem goS3 {X1 X2 X3 P Q : Prop} (x1 : X1) (x2 : X2) (x3 : X3) (q : Q) (e : X1 → X2 → X3 → (P ↔ Q) := by intro z1 z2 z3; simp (maxDischargeDepth := 12) (maxSteps := 1000000) -implicitDefEqProofs only [go_sem, Nat.reduceAdd, Nat.reduceSub, Nat.reduceMul, Nat.reduceLeDiff, Nat.reduceEqDiff, Nat.reduceGT, Nat.reduceBEq, reduceCtorEq, ↓reduceIte, Int.reduceToNat, Int.reduceLE, Int.reduceLT, Int.reduceNe, Int.reduceEq, z1, z2, z3] <;> exact Iff.rfl) : Wr P := ⟨Iff.mpr (e x1 x2 x3) q⟩
theorem goS4 {X1 X2 X3 X4 P Q : Prop} (x1 : X1) (x2 : X2) (x3 : X3) (x4 : X4) (q : Q) (e : X1 → X2 → X3 → X4 → (P ↔ Q) := by intro z1 z2 z3 z4; simp (maxDischargeDepth := 12) (maxSteps := 1000000) -implicitDefEqProofs only [go_sem, Nat.reduceAdd, Nat.reduceSub, Nat.reduceMul, Nat.reduceLeDiff, Nat.reduceEqDiff, Nat.reduceGT, Nat.reduceBEq, reduceCtorEq, ↓reduceIte, Int.reduceToNat, Int.reduceLE, Int.reduceLT, Int.reduceNe, Int.reduceEq, z1, z2, z3, z4] <;> exact Iff.rfl) : Wr P := ⟨Iff.mpr (e x1 x2 x3 x4) q⟩
theorem goS5 {X1 X2 X3 X4 X5 P Q : Prop} (x1 : X1) (x2 : X2) (x3 : X3) (x4 : X4) (x5 : X5) (q : Q) (e : X1 → X2 → X3 → X4 → X5 → (P ↔ Q) := by intro z1 z2 z3 z4 z5; simp (maxDischargeDepth := 12) (maxSteps := 1000000) -implicitDefEqProofs only [go_sem, Nat.reduceAdd, Nat.reduceSub, Nat.reduceMul, Nat.reduceLeDiff, Nat.reduceEqDiff, Nat.reduceGT, Nat.reduceBEq, reduceCtorEq, ↓reduceIte, Int.reduceToNat, Int.reduceLE, Int.reduceLT, Int.reduceNe, Int.reduceEq, z1, z2, z3, z4, z5] <;> exact Iff.rfl) : Wr P := ⟨Iff.mpr (e x1 x2 x3 x4 x5) q⟩
theorem goS6 {X1 X2 X3 X4 X5 X6 P Q : Prop} (x1 : X1) (x2 : X2) (x3 : X3) (x4 : X4) (x5 : X5) (x6 : X6) (q : Q) (e : X1 → X2 → X3 → X4 → X5 → X6 → (P ↔ Q) := by intro z1 z2 z3 z4 z5 z6; simp (maxDischargeDepth := 12) (maxSteps := 1000000) -implicitDefEqProofs only [go_sem, Nat.reduceAdd, Nat.reduceSub, Nat.reduceMul, Nat.reduceLeDiff, Nat.reduceEqDiff, Nat.reduceGT, Nat.reduceBEq, reduceCtorEq, ↓reduceIte, Int.reduceToNat, Int.reduceLE, Int.reduceLT, Int.reduceNe, Int.reduceEq, z1, z2, z3, z4, z5, z6] <;> exact Iff.rfl) : Wr P := ⟨Iff.mpr (e x1 x2 x3 x4 x5 x6) q⟩
end Aml

namespace Aml
open Go Go.RowKit
set_option linter.unusedVariables false
set_option linter.unusedSimpArgs false
section
variable {P : Program} {w0 : W0}
/-- A function, walked: less may be said of its result, and parts of the store are forgotten. -/
theorem fnP (ss : List Nat := []) {f : FuncId} {fn : Func} {c : Code} {rs : List ResultVar} {args : List DV} {S : St} {K : DV → St → Prop} (hm : P.follows .mixedOrders = true) (hf : P.funcs[f]? = some fn) (hb : fn.body = some c) (hrs : fn.results = rs.toArray) (hc : okC ss c = true)
    (h : vw P w0 ss c (foldF (args ++ List.replicate (fn.ntmps - args.length) ud)) S fun e fr S' => (e = .normal ∨ e = .ret) ∧ resK P fr S' rs fun d => ∃ d' S'', Wk d d' ∧ Sub S'' S' ∧ K d' S'') : ACall P w0 f args S K := by
  have h1 : ACall P w0 f args S (fun d S' => ∃ d' S'', Wk d d' ∧ Sub S'' S' ∧ K d' S'') := acall_of hf hb hrs (vw_sound hm c hc h)
  intro g vs w k1 k2
  refine (h1 g vs w k1 k2).mono ?_
  rintro e w' ⟨v, g', d, S', q1, q2, q3, q4, d', S'', p1, p2, p3⟩
  exact ⟨v, g', d', S'', q1, q2, q3.forget p2.box p2.acc, p1 _ _ q4, p3⟩
/-- Less is said of what a box holds. -/
theorem wkBoxK (b : Nat) (ds' : List DV) {ds : List DV} {c : Code} {fr : List DV} {S : St} {Q : Exit → List DV → St → Prop} (hb : lk S.box b = some ds) (hw : WkL ds ds') (h : AWp P w0 c fr ⟨up S.box b ds', S.acc⟩ Q) : AWp P w0 c fr S Q :=
  fun g a w h1 h2 h3 => h g a w (h1.wkBox hb fun _ _ _ r => hw.spec r) h2 h3
end
end Aml

namespace Aml
open Go Go.RowKit
set_option linter.unusedVariables false
set_option linter.unusedSimpArgs false

/-- 0: looks at no store; 1: reads; 2: makes a box; 3: else. -/
def kX : Op → Nat
  | .load .. => 1
  | .alloc _ => 2
  | .call c => match c.callee with
    | .value _ => 1
    | .builtin .len => 0
    | .builtin .cap => 0
    | .builtin .min => 0
    | .builtin .max => 0
    | _ => 3
  | .move _ => 0
  | .assign _ => 0
  | .pick .. => 0
  | .fieldAddr .. => 0
  | .indexAddr .. => 0
  | .index .. => 0
  | .field .. => 0
  | .extract .. => 0
  | .nilCheck _ => 0
  | .binOp .. => 0
  | .unOp .. => 0
  | .convert .. => 0
  | .makeInterface .. => 0
  | .makeFunc .. => 0
  | .slice .. => 0
  | .build .. => 0
  | .buildSlice .. => 0
  | _ => 3
def Fr (S : St) (B : List (Nat × List DV)) : Prop := ∀ x, x ∈ B → nin S.box x.1
def bodyX (P : Program) (w0 : W0) (o : Oper) (fr : List DV) (S : St) (K : List DV → St → Prop) : Prop :=
  (kX o.op = 0 ∧ ∃ d, (∀ S', QY P w0 S' o fr d) ∧ K (pt fr o.dst d) S) ∨
  (kX o.op = 1 ∧ ∃ d, (∀ B, Fr S B → QY P w0 ⟨B ++ S.box, S.acc⟩ o fr d) ∧ K (pt fr o.dst d) S) ∨
  (kX o.op = 2 ∧ ∃ t, o.op = .alloc t ∧ okE (zD P t) = true ∧ ∀ b, nin S.box b → K (pt fr o.dst (.v (.pointer (some ⟨b, 0, none⟩)))) ⟨(b, cd (zD P t)) :: S.box, S.acc⟩) ∨
  (kX o.op = 3 ∧ YieldsE P w0 o (ev fr) S fun d S' => K (pt fr o.dst d) S')
def tauX (P : Program) (w0 : W0) (ops : Array Oper) (o : Oper) (fr : List DV) (S : St) (K : List DV → St → Prop) : Prop :=
  (wantB ops fr o.guard = some true ∧ bodyX P w0 o fr S K) ∨ (wantB ops fr o.guard = some false ∧ K (pt fr o.dst ud) S)
/-- May two that have no order change places? -/
def okP (a b : Nat) : Bool := a == 0 || (a == 1 && decide (b < 3))

section
variable {P : Program} {w0 : W0} {ops : Array Oper} {md : Region.Mode}
theorem bodyX_mono {o : Oper} {fr : List DV} {S : St} {K K' : List DV → St → Prop} (h : ∀ fr S, K fr S → K' fr S) (b : bodyX P w0 o fr S K) : bodyX P w0 o fr S K' := by
  rcases b with ⟨c, d, q, k⟩ | ⟨c, d, q, k⟩ | ⟨c, t, ht, hz, k⟩ | ⟨c, q⟩
  · exact .inl ⟨c, d, q, h _ _ k⟩
  · exact .inr (.inl ⟨c, d, q, h _ _ k⟩)
  · exact .inr (.inr (.inl ⟨c, t, ht, hz, fun b hb => h _ _ (k b hb)⟩))
  · exact .inr (.inr (.inr ⟨c, yields_mono (fun d S hk => h _ _ hk) q⟩))
theorem tauX_mono {o : Oper} {fr : List DV} {S : St} {K K' : List DV → St → Prop} (h : ∀ fr S, K fr S → K' fr S) (b : tauX P w0 ops o fr S K) : tauX P w0 ops o fr S K' :=
  b.imp (fun ⟨a, b⟩ => ⟨a, bodyX_mono h b⟩) fun ⟨a, b⟩ => ⟨a, h _ _ b⟩
/-- What another one puts elsewhere is not seen. -/
theorem bodyX_put {o : Oper} {fr : List DV} {S : St} {K : List DV → St → Prop} {dst : Option Tmp} {e : DV} (h1 : ∀ t, dst = some t → t ∉ o.looksAt ops) (h2 : ∀ t, dst = some t → o.dst ≠ some t) :
    bodyX P w0 o (pt fr dst e) S K ↔ bodyX P w0 o fr S fun fr' S' => K (pt fr' dst e) S' := by
  have hq : ∀ S d, QY P w0 S o (pt fr dst e) d ↔ QY P w0 S o fr d := fun S d =>
    ⟨yields_congr (fun x hx => ev_put (ops := ops) h1 x hx), yields_congr (fun x hx => (ev_put (ops := ops) h1 x hx).symm)⟩
  have hc : ∀ d, pt (pt fr dst e) o.dst d = pt (pt fr o.dst d) dst e := fun d => pt_comm fr e d h2
  have hy : ∀ K, YieldsE P w0 o (ev (pt fr dst e)) S K ↔ YieldsE P w0 o (ev fr) S K := fun K =>
    ⟨yields_congr (fun x hx => ev_put (ops := ops) h1 x hx), yields_congr (fun x hx => (ev_put (ops := ops) h1 x hx).symm)⟩
  unfold bodyX
  simp only [hq, hc, hy]
theorem tauX_put {o : Oper} {fr : List DV} {S : St} {K : List DV → St → Prop} {dst : Option Tmp} {e : DV} (h1 : ∀ t, dst = some t → t ∉ o.looksAt ops) (h2 : ∀ t, dst = some t → o.dst ≠ some t) :
    tauX P w0 ops o (pt fr dst e) S K ↔ tauX P w0 ops o fr S fun fr' S' => K (pt fr' dst e) S' := by
  unfold tauX
  rw [want_put h1, bodyX_put h1 h2, pt_comm fr e ud h2]
theorem bodyX_monoP {o : Oper} {fr : List DV} {S : St} {K K' : List DV → St → Prop} (h : ∀ e S, K (pt fr o.dst e) S → K' (pt fr o.dst e) S) (b : bodyX P w0 o fr S K) : bodyX P w0 o fr S K' := by
  rcases b with ⟨c, d, q, k⟩ | ⟨c, d, q, k⟩ | ⟨c, t, ht, hz, k⟩ | ⟨c, q⟩
  · exact .inl ⟨c, d, q, h _ _ k⟩
  · exact .inr (.inl ⟨c, d, q, h _ _ k⟩)
  · exact .inr (.inr (.inl ⟨c, t, ht, hz, fun b hb => h _ _ (k b hb)⟩))
  · exact .inr (.inr (.inr ⟨c, yields_mono (fun d S hk => h _ _ hk) q⟩))
theorem tauX_monoP {o : Oper} {fr : List DV} {S : St} {K K' : List DV → St → Prop} (h : ∀ e S, K (pt fr o.dst e) S → K' (pt fr o.dst e) S) (b : tauX P w0 ops o fr S K) : tauX P w0 ops o fr S K' :=
  b.imp (fun ⟨a, b⟩ => ⟨a, bodyX_monoP h b⟩) fun ⟨a, b⟩ => ⟨a, h _ _ b⟩
/-- Two that are apart change places. -/
theorem tauX_comm {x y : Oper} (hap : x.apart ops y = true) (hk : okP (kX x.op) (kX y.op) = true) {fr : List DV} {S : St} {K : List DV → St → Prop} (h : tauX P w0 ops x fr S fun fr S => tauX P w0 ops y fr S K) :
    tauX P w0 ops y fr S fun fr S => tauX P w0 ops x fr S K := by
  obtain ⟨b1, b2, b3⟩ := Oper.apart_spec hap
  have hw : ∀ e, wantB ops (pt fr y.dst e) x.guard = wantB ops fr x.guard := fun e => want_put b3
  have hq : ∀ {S d e}, QY P w0 S x fr d → QY P w0 S x (pt fr y.dst e) d := fun {S d e} q => yields_congr (fun z hz => (ev_put (ops := ops) b3 z hz).symm) q
  rcases h with ⟨hg, hb⟩ | ⟨hg, hb⟩
  · rcases hb with ⟨c, d, q, k⟩ | ⟨c, d, q, k⟩ | ⟨c, -⟩ | ⟨c, -⟩
    · rw [tauX_put b1 b2] at k
      exact tauX_monoP (fun e S' hk => .inl ⟨by rw [hw]; exact hg, .inl ⟨c, d, fun S'' => hq (q S''), hk⟩⟩) k
    · rw [tauX_put b1 b2] at k
      rcases k with ⟨g2, k⟩ | ⟨g2, k⟩
      · rcases k with ⟨c2, d2, q2, k⟩ | ⟨c2, d2, q2, k⟩ | ⟨c2, t, ht, hz, k⟩ | ⟨c2, -⟩
        · exact .inl ⟨g2, .inl ⟨c2, d2, q2, .inl ⟨by rw [hw]; exact hg, .inr (.inl ⟨c, d, fun B hB => hq (q B hB), k⟩)⟩⟩⟩
        · exact .inl ⟨g2, .inr (.inl ⟨c2, d2, q2, .inl ⟨by rw [hw]; exact hg, .inr (.inl ⟨c, d, fun B hB => hq (q B hB), k⟩)⟩⟩)⟩
        · refine .inl ⟨g2, .inr (.inr (.inl ⟨c2, t, ht, hz, fun b hb => .inl ⟨by rw [hw]; exact hg, .inr (.inl ⟨c, d, fun B hB => hq ?_, k b hb⟩)⟩⟩))⟩
          have := q (B ++ [(b, cd (zD P t))]) fun z hz' => by
            rcases List.mem_append.1 hz' with h | h
            · exact (hB z h).2.2
            · simp only [List.mem_singleton] at h; subst h; exact hb
          rw [List.append_assoc] at this
          exact this
        · rw [c, c2] at hk; exact absurd hk (by decide)
      · exact .inr ⟨g2, .inl ⟨by rw [hw]; exact hg, .inr (.inl ⟨c, d, fun B hB => hq (q B hB), k⟩)⟩⟩
    · rw [c] at hk; simp [okP] at hk
    · rw [c] at hk; simp [okP] at hk
  · rw [tauX_put b1 b2] at hb
    exact tauX_monoP (fun e S' hk => .inr ⟨by rw [hw]; exact hg, hk⟩) hb

def tauI (P : Program) (w0 : W0) (ops : Array Oper) (i : Nat) (fr : List DV) (S : St) (K : List DV → St → Prop) : Prop := match ops[i]? with
  | none => K fr S
  | some o => tauX P w0 ops o fr S K
def wpX (P : Program) (w0 : W0) (md : Region.Mode) (ops : Array Oper) (K : List DV → St → Prop) : Nat → Array Bool → List DV → St → Prop
  | 0, listed, fr, S => Region.ready md ops listed = [] ∧ K fr S
  | fuel + 1, listed, fr, S => (Region.ready md ops listed = [] → K fr S) ∧ ∀ i ∈ Region.ready md ops listed, tauI P w0 ops i fr S (wpX P w0 md ops K fuel (listed.setIfInBounds i true))
theorem wpX_first {K : List DV → St → Prop} {i : Nat} {oi : Oper} (hi : ops[i]? = some oi) :
    ∀ (fuel : Nat) (listed : Array Bool) (fr : List DV) (S : St),
      (∀ j oj, ops[j]? = some oj → j ≠ i → listed.getD j true = false → (∀ e ∈ oj.after, Region.binds md e = true → e.on ≠ i) → oi.apart ops oj = true ∧ okP (kX oi.op) (kX oj.op) = true) →
      (∀ l : List Nat, l.Nodup → (∀ k, k ∈ l → listed.getD k true = false) → l.length ≤ fuel + 1) →
      i ∈ Region.ready md ops listed → tauX P w0 ops oi fr S (wpX P w0 md ops K fuel (listed.setIfInBounds i true)) → wpX P w0 md ops K (fuel + 1) listed fr S := by
  intro fuel
  induction fuel with
  | zero =>
    intro listed fr S _ hcnt hr H
    refine ⟨fun h => (by rw [h] at hr; cases hr), fun j hj => ?_⟩
    by_cases hji : j = i
    · subst hji; unfold tauI; simp only [hi]; exact H
    · exfalso
      have := hcnt [i, j] (by simp [Ne.symm hji]) fun k hk => by
        simp only [List.mem_cons, List.not_mem_nil, or_false] at hk
        rcases hk with rfl | rfl
        · exact (mem_ready.1 hr).1
        · exact (mem_ready.1 hj).1
      simp at this
  | succ fuel ih =>
    intro listed fr S hfree hcnt hr H
    refine ⟨fun h => (by rw [h] at hr; cases hr), fun j hj => ?_⟩
    by_cases hji : j = i
    · subst hji; unfold tauI; simp only [hi]; exact H
    · obtain ⟨hjun, oj, hoj, hall⟩ := mem_ready.1 hj
      have hnot : ∀ e ∈ oj.after, Region.binds md e = true → e.on ≠ i := fun e he hb heq => by
        have h1 := hall e he hb
        have h0 := (mem_ready.1 hr).1
        rw [heq] at h1
        rcases Nat.lt_or_ge i listed.size with h' | h'
        · simp [h'] at h0 h1; rw [h0] at h1; cases h1
        · simp [Array.getElem?_eq_none h'] at h1
      have h1 : tauX P w0 ops oi fr S fun fr S => tauX P w0 ops oj fr S (wpX P w0 md ops K fuel ((listed.setIfInBounds i true).setIfInBounds j true)) :=
        tauX_mono (fun fr S h => by
          have := h.2 j (ready_mono hj hji)
          unfold tauI at this; simp only [hoj] at this; exact this) H
      have hc := hfree j oj hoj hji hjun hnot
      have h2 := tauX_comm hc.1 hc.2 h1
      have hfree' : ∀ k ok, ops[k]? = some ok → k ≠ i → (listed.setIfInBounds j true).getD k true = false →
          (∀ e ∈ ok.after, Region.binds md e = true → e.on ≠ i) → oi.apart ops ok = true ∧ okP (kX oi.op) (kX ok.op) = true := fun k ok hk hki hun hno => by
        refine hfree k ok hk hki ?_ hno
        by_cases hjk : j = k
        · subst hjk; exact hjun
        · rw [getD_set_ne true hjk] at hun; exact hun
      unfold tauI
      simp only [hoj]
      have hcnt' : ∀ l : List Nat, l.Nodup → (∀ k, k ∈ l → (listed.setIfInBounds j true).getD k true = false) → l.length ≤ fuel + 1 := by
        intro l hn hl
        have hjs : j < listed.size := by
          rcases Nat.lt_or_ge j listed.size with h | h
          · exact h
          · rw [Array.getD_eq_getD_getElem?, Array.getElem?_eq_none h] at hjun; cases hjun
        have hjl : j ∉ l := fun hj => by
          have := hl j hj
          rw [Array.getD_eq_getD_getElem?, Array.getElem?_setIfInBounds] at this
          simp [hjs] at this
        have := hcnt (j :: l) (List.nodup_cons.2 ⟨hjl, hn⟩) fun k hk => by
          rcases List.mem_cons.1 hk with rfl | hk
          · exact hjun
          · have := hl k hk
            rw [getD_set_ne true (show j ≠ k from fun e => hjl (e ▸ hk))] at this
            exact this
        simp at this; omega
      refine tauX_mono (fun fr S h => ih (listed.setIfInBounds j true) fr S hfree' hcnt' (ready_mono hr (Ne.symm hji)) ?_) h2
      rw [Array.setIfInBounds_comm _ _ hji]
      exact h
/-- Is an operation free to come first? -/
def freeX (md : Region.Mode) (ops : Array Oper) (listed : Array Bool) (i : Nat) : Bool := (List.range ops.size).all fun j => match ops[i]?, ops[j]? with
  | some oi, some oj => j == i || listed.getD j true || oj.after.any (fun e => Region.binds md e && e.on == i) || (oi.apart ops oj && okP (kX oi.op) (kX oj.op))
  | _, _ => false
def lexX (md : Region.Mode) (ops : Array Oper) : Nat → Nat → Array Bool → Bool
  | 0, _, listed => (Region.ready md ops listed).isEmpty
  | n + 1, k, listed => (Region.ready md ops listed).contains k && freeX md ops listed k && lexX md ops n (k + 1) (listed.setIfInBounds k true)
theorem freeX_spec {listed : Array Bool} {i : Nat} {oi : Oper} (hi : ops[i]? = some oi) (h : freeX md ops listed i = true) : ∀ j oj, ops[j]? = some oj → j ≠ i → listed.getD j true = false → (∀ e ∈ oj.after, Region.binds md e = true → e.on ≠ i) → oi.apart ops oj = true ∧ okP (kX oi.op) (kX oj.op) = true := by
  intro j oj hj hji hun hno
  have hlt : j < ops.size := (Array.getElem?_eq_some_iff.1 hj).1
  have := List.all_eq_true.1 h j (List.mem_range.2 hlt)
  simp only [hi, hj, hun, Bool.or_false, Bool.or_eq_true, beq_iff_eq, Bool.and_eq_true] at this
  rcases this with (h | h) | h
  · exact absurd h hji
  · exfalso
    obtain ⟨e, he, h⟩ := Array.any_eq_true'.1 h
    simp only [Bool.and_eq_true, beq_iff_eq] at h
    exact hno e he h.1 h.2
  · exact h
/-- In the text's order. -/
def LX (P : Program) (w0 : W0) (ops : Array Oper) (K : List DV → St → Prop) : List Oper → List DV → St → Prop
  | [], fr, S => K fr S
  | o :: rest, fr, S => tauX P w0 ops o fr S (LX P w0 ops K rest)
theorem wpX_lex {K : List DV → St → Prop} : ∀ (l : List Oper) (k : Nat) (listed : Array Bool) (fr : List DV) (S : St), (∀ j, l[j]? = ops[k + j]?) →
    (∀ l' : List Nat, l'.Nodup → (∀ k, k ∈ l' → listed.getD k true = false) → l'.length ≤ l.length) →
    lexX md ops l.length k listed = true → LX P w0 ops K l fr S → wpX P w0 md ops K l.length listed fr S
  | [], _, _, _, _, _, _, hB, h => ⟨by simpa [lexX] using hB, h⟩
  | o :: l, k, listed, fr, S, hl, hcnt, hB, h => by
    have h0 : ops[k]? = some o := by simpa using (hl 0).symm
    simp only [List.length_cons, lexX, Bool.and_eq_true] at hB
    obtain ⟨⟨hr, hf⟩, hB'⟩ := hB
    have hr' : k ∈ Region.ready md ops listed := by simpa using hr
    have hun := (mem_ready.1 hr').1
    refine wpX_first h0 l.length listed fr S (freeX_spec h0 hf) (by simpa using hcnt) hr' ?_
    refine tauX_mono (fun fr S h => wpX_lex l (k + 1) _ fr S (fun j => by have := hl (j + 1); simpa [Nat.add_assoc, Nat.add_comm 1 j] using this) ?_ hB' h) h
    intro l' hn hl'
    have hks : k < listed.size := by
      rcases Nat.lt_or_ge k listed.size with h | h
      · exact h
      · rw [Array.getD_eq_getD_getElem?, Array.getElem?_eq_none h] at hun; cases hun
    have hkl : k ∉ l' := fun hk => by
      have := hl' k hk
      rw [Array.getD_eq_getD_getElem?, Array.getElem?_setIfInBounds] at this
      simp [hks] at this
    have := hcnt (k :: l') (List.nodup_cons.2 ⟨hkl, hn⟩) fun m hm => by
      rcases List.mem_cons.1 hm with rfl | hm
      · exact hun
      · have := hl' m hm
        rw [getD_set_ne true (show k ≠ m from fun e => hkl (e ▸ hm))] at this
        exact this
    simp at this; omega
theorem bodyX_yields {o : Oper} {fr : List DV} {S : St} {K : List DV → St → Prop} (h : bodyX P w0 o fr S K) : YieldsE P w0 o (ev fr) S fun d S' => K (pt fr o.dst d) S' := by
  rcases h with ⟨c, d, q, k⟩ | ⟨c, d, q, k⟩ | ⟨c, t, ht, hz, k⟩ | ⟨c, q⟩
  · exact yields_mono (fun d' S' h => by rw [h.1, h.2]; exact k) (q S)
  · have := q [] (fun x hx => by cases hx)
    exact yields_mono (fun d' S' h => by rw [h.1, h.2]; exact k) this
  · exact y_alloc ht ⟨hz, k⟩
  · exact q
theorem wpAny_of_X {ro : Option Nat} {g0 : Gh} {Q : Exit → List DV → St → Prop} : ∀ (fuel : Nat) (listed : Array Bool) (fr : List DV) (S : St) (g : Gh) (a : Act) (w : World), g0.le g → Rel w0 g S w → RepL g fr a.tmps.toList → Dk w0 g.obj a w →
    wpX P w0 md ops (fun fr S => Q .normal fr S) fuel listed fr S → wpAnyIn (fz ro) 0 P md ops (Good w0 g0 Q) fuel listed a w
  | 0, listed, fr, S, g, a, w, k, h1, h2, h3, h => ⟨h.1, k.kd h3, g, fr, S, k, h1, h2, h.2⟩
  | fuel + 1, listed, fr, S, g, a, w, k, h1, h2, h3, h => by
    refine ⟨fun h0 => ⟨k.kd h3, g, fr, S, k, h1, h2, h.1 h0⟩, fun i hi => ?_⟩
    have hq := h.2 i hi
    unfold tauI at hq
    unfold wpOpIn
    split
    · rename_i ho; simp only [ho] at hq; exact wpAny_of_X fuel _ fr S g a w k h1 h2 h3 hq
    · rename_i o ho
      simp only [ho] at hq
      rcases hq with ⟨hw, hb⟩ | ⟨hw, hk⟩
      · have hw' := wantB_sound (o := o) h2 hw
        rw [if_pos hw']
        refine wpIn_of_yields (bodyX_yields hb) h1 (fun x _ => rep_ev h2 x) h3 fun g' d' u S' w' k1 k2 k3 k4 k5 => ?_
        exact wpAny_of_X fuel _ _ _ g' _ _ (k.trans k1) k2 (repL_put (h2.mono k1) _ k3) (k1.dk k5) k4
      · have hw' := wantB_sound (o := o) h2 hw
        rw [if_neg (by simp [hw'])]
        exact ⟨fun _ _ => trivial, wpAny_of_X fuel _ _ _ g _ _ k h1 (repL_put h2 _ (rep_ud g)) (h3.keep (put_defers _ _ _) fun _ _ h _ => h) hk⟩
/-- A region that draws its order, where the text's order serves. -/
theorem awp_drawL {id : Nat} {l : List Oper} {fr : List DV} {S : St} {Q : Exit → List DV → St → Prop} (hm : P.follows .mixedOrders = true) (hB : lexX .any l.toArray l.length 0 (Array.replicate l.length false) = true) (h : LX P w0 l.toArray (fun fr S => Q .normal fr S) l fr S) : AWp P w0 (.region id l.toArray true) fr S Q := by
  intro g a w h1 h2 h3
  refine wpA_region_any hm fun ro => ?_
  have hR : Rel w0 g S { w with drawn := w.drawn + 1 } := h1.grow (below_drew w)
  have hcnt : ∀ l' : List Nat, l'.Nodup → (∀ k, k ∈ l' → (Array.replicate l.length false).getD k true = false) → l'.length ≤ l.length := by
    intro l' hn hl
    have hsub : ∀ k, k ∈ l' → k ∈ List.range l.length := fun k hk => by
      have := hl k hk
      rw [List.mem_range]
      rcases Nat.lt_or_ge k l.length with h | h
      · exact h
      · rw [Array.getD_eq_getD_getElem?, Array.getElem?_eq_none (by simpa using h)] at this; cases this
    have := hn.length_le_of_subset (l₂ := List.range l.length) hsub
    simpa using this
  have := wpX_lex (P := P) (w0 := w0) (md := .any) (ops := l.toArray) l 0 (Array.replicate l.length false) fr S (by simp) hcnt hB h
  have := wpAny_of_X (ro := ro) (g0 := g) (Q := Q) _ _ fr S g a _ (.refl g) hR h2 (h3.keep rfl fun _ _ h _ => h) this
  simpa using this

/-- What looks at no store: one value, at every store. -/
theorem pure_det {op : Op} (hk : kX op = 0) {fr : List DV} {S : St} {K : DV → Prop} (h : vcOpQ P w0 op fr S K) : ∃ d, (∀ S', vcOpQ P w0 op fr S' (· = d)) ∧ K d := by
  cases op with
  | move x => exact ⟨_, fun _ => rfl, h⟩
  | assign x => exact ⟨_, fun _ => rfl, h⟩
  | pick c a b => obtain ⟨d, q1, q2⟩ := det_pick h; exact ⟨d, fun _ => q1, q2⟩
  | fieldAddr t x f => obtain ⟨d, q1, q2⟩ := det_field h; exact ⟨d, fun _ => q1, q2⟩
  | indexAddr t x i => obtain ⟨d, q1, q2⟩ := det_indexAddr h; exact ⟨d, fun _ => q1, q2⟩
  | index t x i => obtain ⟨d, q1, q2⟩ := det_index h; exact ⟨d, fun _ => q1, q2⟩
  | field t x f => obtain ⟨d, q1, q2⟩ := det_fieldV h; exact ⟨d, fun _ => q1, q2⟩
  | extract x i => obtain ⟨d, q1, q2⟩ := det_extract h; exact ⟨d, fun _ => q1, q2⟩
  | nilCheck x => exact ⟨_, fun _ => ⟨h.1, rfl⟩, h.2⟩
  | binOp b t x y t' => obtain ⟨d, q1, q2⟩ := det_binA h.2; exact ⟨d, fun _ => ⟨h.1, q1⟩, q2⟩
  | unOp b t x => obtain ⟨d, q1, q2⟩ := det_un h; exact ⟨d, fun _ => q1, q2⟩
  | convert s d x => obtain ⟨d, q1, q2⟩ := det_conv h; exact ⟨d, fun _ => q1, q2⟩
  | makeInterface t x => exact ⟨_, fun _ => ⟨h.1, h.2.1, rfl⟩, h.2.2⟩
  | makeFunc fn a b => obtain ⟨d, q1, q2⟩ := det_func h; exact ⟨d, fun _ => q1, q2⟩
  | slice t x lo hi mx => obtain ⟨d, q1, q2⟩ := det_slice h.2.2; exact ⟨d, fun _ => ⟨h.1, h.2.1, q1⟩, q2⟩
  | build t parts => obtain ⟨d, q1, q2⟩ := det_build h.2; exact ⟨d, fun _ => ⟨h.1, q1⟩, q2⟩
  | buildSlice t len parts => obtain ⟨d, q1, q2⟩ := det_buildSlice h.2; exact ⟨d, fun _ => ⟨h.1, q1⟩, q2⟩
  | call c =>
    obtain ⟨callee, args, ts⟩ := c
    simp only [vcOpQ] at h ⊢
    split at h
    · split at h
      · obtain ⟨d, q1, q2⟩ := det_len h
        exact ⟨d, fun _ => by simpa using q1, q2⟩
      · exact h.elim
    · split at h
      · obtain ⟨d, q1, q2⟩ := det_cap h
        exact ⟨d, fun _ => by simpa using q1, q2⟩
      · exact h.elim
    · split at h
      · obtain ⟨d, q1, q2⟩ := det_min h
        exact ⟨d, fun _ => by simpa using q1, q2⟩
      · exact h.elim
    · split at h
      · obtain ⟨d, q1, q2⟩ := det_max h
        exact ⟨d, fun _ => by simpa using q1, q2⟩
      · exact h.elim
    · cases hk
    · exact h.elim
  | _ => first | exact h.elim | cases hk
theorem lk_ext {S : St} {B : List (Nat × List DV)} (hB : Fr S B) {b : Nat} {ds : List DV} (h : lk S.box b = some ds) : lk (B ++ S.box) b = some ds := by
  induction B with
  | nil => exact h
  | cons x B ih =>
    have h1 := hB x List.mem_cons_self
    have hne : ¬ x.1 = b := fun e => by rw [e] at h1; rw [nin_lk h1] at h; cases h
    obtain ⟨k, y⟩ := x
    show lk ((k, y) :: (B ++ S.box)) b = _
    rw [q_lk_ne hne]
    exact ih fun z hz => hB z (List.mem_cons_of_mem _ hz)
theorem load_ext {k : TK} {S : St} {x : DV} {K : DV → Prop} {B : List (Nat × List DV)} (hB : Fr S B) (h : vLoad k S x K) : vLoad k ⟨B ++ S.box, S.acc⟩ x K := by
  unfold vLoad at *
  split at h
  · split at h
    · rename_i ds hb
      simp only [lk_ext hB hb]
      exact h
    · exact h.elim
  · exact h
  · exact h
  · exact h.elim
end
/-- A call that hands back one value, whatever boxes were made beside it. -/
def QX (P : Program) (w0 : W0) (f : FuncId) (ds : List DV) (S : St) [K : Cn (DV → Prop)] : Prop := ∃ d, (∀ B, Fr S B → ACall P w0 f ds ⟨B ++ S.box, S.acc⟩ fun d' S' => d' = d ∧ S' = ⟨B ++ S.box, S.acc⟩) ∧ K.k d
def vCallX (P : Program) (w0 : W0) (cal : DV) (ds : List DV) (S : St) (K : DV → Prop) : Prop := match cal with
  | .v (.func (.func f) a cap) => a.size = 0 ∧ okF P f = true ∧ cap.toList.all (fun u => u.oneCell') = true ∧ ds.all naccA = true ∧ @QX P w0 f (ds ++ cap.toList.map .v) S ⟨K⟩
  | _ => False
def opX (P : Program) (w0 : W0) (op : Op) (fr : List DV) (S : St) (K : DV → St → Prop) : Prop := match op with
  | .load t x => vLoad (tk P t) S (ev fr x) (K · S)
  | .alloc t => okE (zD P t) = true ∧ bxK S (zD P t) K
  | .call ⟨.value cal, args, _⟩ => vCallX P w0 (ev fr cal) (args.toList.map (ev fr)) S (K · S)
  | op => selK (kX op == 0) (vcOpQ P w0 op fr S (K · S)) (vcOp P w0 op fr S K)
def vcLX (P : Program) (w0 : W0) (ops : Array Oper) (K : List DV → St → Prop) : List Oper → List DV → St → Prop
  | [], fr, S => K fr S
  | o :: rest, fr, S => guardK ops fr o.guard (fun fr => opX P w0 o.op fr S fun d S' => vcLX P w0 ops K rest (pt fr o.dst d) S') (fun fr => vcLX P w0 ops K rest (pt fr o.dst ud) S)
section
variable {P : Program} {w0 : W0} {ops : Array Oper} {md : Region.Mode}
theorem opX_sound {o : Oper} {fr : List DV} {S : St} {K : List DV → St → Prop} (hs : okSl o.op = true) (h : opX P w0 o.op fr S fun d S' => K (pt fr o.dst d) S') : bodyX P w0 o fr S K := by
  have gen : ∀ (h : selK (kX o.op == 0) (vcOpQ P w0 o.op fr S fun d => K (pt fr o.dst d) S) (vcOp P w0 o.op fr S fun d S' => K (pt fr o.dst d) S')), kX o.op = 0 ∨ kX o.op = 3 → bodyX P w0 o fr S K := by
    intro h hk
    rcases hk with hk | hk
    · rw [hk] at h
      obtain ⟨d, q1, q2⟩ := pure_det hk (show vcOpQ P w0 o.op fr S fun d => K (pt fr o.dst d) S from h)
      exact .inl ⟨hk, d, fun S' => by
        obtain ⟨d', k1, k2⟩ := vcOpQ_sound hs (q1 S')
        subst k2; exact k1, q2⟩
    · rw [hk] at h
      exact .inr (.inr (.inr ⟨hk, vcOp_sound hs h⟩))
  cases hop : o.op with
  | load t x =>
    rw [hop] at h hs
    obtain ⟨d, q1, q2⟩ := det_load (show vLoad (tk P t) S (ev fr x) (fun d => K (pt fr o.dst d) S) from h)
    refine .inr (.inl ⟨by rw [hop]; rfl, d, fun B hB => ?_, q2⟩)
    exact vcOp_sound (by rw [hop]; exact hs) (by rw [hop]; simpa [vcOp] using load_ext hB q1)
  | alloc t =>
    rw [hop] at h
    exact .inr (.inr (.inl ⟨by rw [hop]; rfl, t, hop, h.1, h.2⟩))
  | call c =>
    obtain ⟨callee, args, ts⟩ := c
    cases callee with
    | value cal =>
      rw [hop] at h hs
      simp only [opX, vCallX] at h
      split at h
      · rename_i f a cap hcal
        obtain ⟨h1, h2, h3, h4, d, h5, h6⟩ := h
        refine .inr (.inl ⟨by rw [hop]; rfl, d, fun B hB => ?_, h6⟩)
        exact vcOp_sound (by rw [hop]; exact hs) (by rw [hop]; simp only [vcOp, vCall, hcal]; exact ⟨h1, h3, by rw [h2, gX_t]; exact callK_id h4 (h5 B hB)⟩)
      · exact h.elim
    | builtin b =>
      refine gen (by rw [hop] at h ⊢; exact h) ?_
      rw [hop]
      cases b <;> first | exact .inl rfl | exact .inr rfl
    | invoke r m =>
      refine gen (by rw [hop] at h ⊢; exact h) ?_
      rw [hop]; exact .inr rfl
  | _ => refine gen (by rw [hop] at h ⊢; exact h) ?_; rw [hop]; first | exact .inl rfl | exact .inr rfl
theorem vcLX_sound {K : List DV → St → Prop} : ∀ (l : List Oper) {fr : List DV} {S : St}, l.all (fun o => okSl o.op) = true → vcLX P w0 ops K l fr S → LX P w0 ops K l fr S
  | [], fr, S, _, h => h
  | o :: rest, fr, S, hs, h => by
    simp only [List.all_cons, Bool.and_eq_true] at hs
    rcases guardK_want h with ⟨hw, ha⟩ | ⟨hw, hb⟩
    · exact .inl ⟨hw, bodyX_mono (fun fr S h => vcLX_sound rest hs.2 h) (opX_sound hs.1 ha)⟩
    · exact .inr ⟨hw, vcLX_sound rest hs.2 hb⟩
/-- What such a region asks. -/
def okL (l : List Oper) : Bool := l.all (fun o => okSl o.op) && lexX .any l.toArray l.length 0 (Array.replicate l.length false)
theorem lexK {id : Nat} {l : List Oper} {fr : List DV} {S : St} {Q : Exit → List DV → St → Prop} (hm : P.follows .mixedOrders = true) (hB : okL l = true) (h : vcLX P w0 l.toArray (fun fr S => normF fr fun fr => Q .normal fr S) l fr S) : AWp P w0 (.region id l.toArray true) fr S Q := by
  simp only [okL, Bool.and_eq_true] at hB
  exact awp_drawL hm hB.2 (vcLX_sound l hB.1 h)
theorem useX {f : FuncId} {args args' : List DV} {S : St} {K : DV → Prop} {r : DV} (h : ∀ B, Fr S B → ACall P w0 f args' ⟨B ++ S.box, S.acc⟩ (fun d S' => d = r ∧ S' = ⟨B ++ S.box, S.acc⟩)) (hk : K r) (ha : WkL args args' := by exact WkL.refl _) : @QX P w0 f args S ⟨K⟩ :=
  ⟨r, fun B hB => acall_one (h B hB) ha ⟨rfl, rfl⟩, hk⟩
end
end Aml

namespace Aml
open Go Go.RowKit
set_option linter.unusedVariables false
set_option linter.unusedSimpArgs false
section
variable {P : Program} {w0 : W0} {ops : Array Oper} {fr : List DV} {S : St} {rest : List Oper} {dst : Option Tmp} {op : Op} {ty : TypeId} {pos : String} {aft : Array Edge}
section
variable {K : List DV → St → Prop}
theorem x_nil : vcLX P w0 ops K [] fr S = K fr S := rfl
theorem x_none : vcLX P w0 ops K (⟨dst, op, ty, pos, aft, none⟩ :: rest) fr S = opX P w0 op fr S fun d S' => vcLX P w0 ops K rest (pt fr dst d) S' := rfl
end
variable {K : DV → St → Prop}
theorem x_load (t : TypeId) (x : Operand) : opX P w0 (.load t x) fr S K = vLoad (tk P t) S (ev fr x) (K · S) := rfl
theorem x_call (cal : Operand) (a : List Operand) (ts : Array TypeId) : opX P w0 (.call ⟨.value cal, a.toArray, ts⟩) fr S K = vCallX P w0 (ev fr cal) (a.map (ev fr)) S (K · S) := rfl
theorem x_callF (f : FuncId) (a cap : Array Value) (ds : List DV) (K : DV → Prop) : vCallX P w0 (.v (.func (.func f) a cap)) ds S K = (a.size = 0 ∧ okF P f = true ∧ cap.toList.all (fun u => u.oneCell') = true ∧ ds.all naccA = true ∧ @QX P w0 f (ds ++ cap.toList.map .v) S ⟨K⟩) := rfl
@[congr] theorem c_vCallX {cal cal' : DV} {ds ds' : List DV} {S' : St} {K : DV → Prop} (h1 : cal = cal') (h2 : ds = ds') (h3 : S = S') : vCallX P w0 cal ds S K = vCallX P w0 cal' ds' S' K := by cases h1; cases h2; cases h3; rfl
theorem x_move (x : Operand) : opX P w0 (.move x) fr S K = vcOpQ P w0 (.move x) fr S (K · S) := rfl
theorem x_assign (x : Operand) : opX P w0 (.assign x) fr S K = vcOpQ P w0 (.assign x) fr S (K · S) := rfl
theorem x_fieldAddr (t : TypeId) (x : Operand) (f : Nat) : opX P w0 (.fieldAddr t x f) fr S K = vcOpQ P w0 (.fieldAddr t x f) fr S (K · S) := rfl
theorem x_indexAddr (t : TypeId) (x i : Operand) : opX P w0 (.indexAddr t x i) fr S K = vcOpQ P w0 (.indexAddr t x i) fr S (K · S) := rfl
theorem x_extract (x : Operand) (i : Nat) : opX P w0 (.extract x i) fr S K = vcOpQ P w0 (.extract x i) fr S (K · S) := rfl
theorem x_binOp (b : BinOp) (t : TypeId) (x y : Operand) (t' : TypeId) : opX P w0 (.binOp b t x y t') fr S K = vcOpQ P w0 (.binOp b t x y t') fr S (K · S) := rfl
theorem x_build (t : TypeId) (parts : Array (Nat × Operand)) : opX P w0 (.build t parts) fr S K = vcOpQ P w0 (.build t parts) fr S (K · S) := rfl
theorem x_buildSlice (t : TypeId) (len : Nat) (parts : Array (Nat × Operand)) : opX P w0 (.buildSlice t len parts) fr S K = vcOpQ P w0 (.buildSlice t len parts) fr S (K · S) := rfl
theorem x_store (t : TypeId) (x y : Operand) : opX P w0 (.store t x y) fr S K = vcOp P w0 (.store t x y) fr S K := rfl
theorem x_b_len (a : Array Operand) (ts : Array TypeId) : opX P w0 (.call ⟨.builtin .len, a, ts⟩) fr S K = vcOpQ P w0 (.call ⟨.builtin .len, a, ts⟩) fr S (K · S) := rfl
end
attribute [go_sem ↓] x_nil x_none x_load x_call x_callF x_move x_assign x_fieldAddr x_indexAddr x_extract x_binOp x_build x_buildSlice x_store x_b_len
theorem n_f_beq (b : Bool) : (b == false) = !b := by cases b <;> rfl
attribute [go_sem] n_f_beq
end Aml

namespace Aml
open Go Go.RowKit
set_option linter.unusedVariables false
set_option linter.unusedSimpArgs false

/-- The caller's store lies in the whole one. -/
structure Has (X T : St) : Prop where
  box : ∀ b x, lk X.box b = some x → lk T.box b = some x
  acc : ∀ l o, lk X.acc l = some o → lk T.acc l = some o
/-- What isn't the caller's is as it was. -/
structure Kp (X T T' : St) : Prop where
  box : ∀ b x, lk X.box b = none → lk T.box b = some x → lk T'.box b = some x
  acc : ∀ l o, lk X.acc l = none → lk T.acc l = some o → lk T'.acc l = some o
theorem Has.refl (X : St) : Has X X := ⟨fun _ _ h => h, fun _ _ h => h⟩
theorem Kp.refl (X T : St) : Kp X T T := ⟨fun _ _ _ h => h, fun _ _ _ h => h⟩
theorem lk_of_mem {α : Type} {l : List (Nat × α)} (hn : (l.map (·.1)).Nodup) {n : Nat} {x : α} (h : (n, x) ∈ l) : lk l n = some x := by
  induction l with
  | nil => cases h
  | cons p t ih =>
    obtain ⟨k, y⟩ := p
    simp only [List.map_cons, List.nodup_cons] at hn
    simp only [lk]
    rcases List.mem_cons.1 h with e | h
    · cases e; simp
    · have : k ≠ n := by rintro rfl; exact hn.1 (List.mem_map_of_mem (f := (·.1)) h)
      rw [if_neg this]; exact ih hn.2 h

/-- A frame with slots set. -/
def setPs : List Tmp → List DV → List DV → List DV
  | p :: ps, d :: ds, fr => setPs ps ds (fr.set p d)
  | _, _, fr => fr
section
variable {P : Program} {w0 : W0}
theorem Rel.has {g : Gh} {S T : St} {w : World} (h : Rel w0 g T w) (hs : Has S T) (nb : (S.box.map (·.1)).Nodup) (na : (S.acc.map (·.1)).Nodup) : Rel w0 g S w := by
  obtain ⟨ow, o1, o2⟩ := h.own
  exact ⟨h.below, h.imm, nb, na, h.accw, h.fresh, fun l o hl => h.top l o (lk_mem (hs.acc _ _ (lk_of_mem na hl))), ow, fun b ds hb => o1 b ds (lk_mem (hs.box _ _ (lk_of_mem nb hb))), fun l o hl => o2 l o (lk_mem (hs.acc _ _ (lk_of_mem na hl)))⟩
theorem repL_setPs {g : Gh} : ∀ (ps : List Tmp) (ds : List DV) (vs : List Value) {fr : List DV} {us : Array Value}, RepL g fr us.toList → RepL g ds vs →
    RepL g (setPs ps ds fr) (((ps.zip vs).foldl (fun t (p, v) => t.setIfInBounds p v) us).toList)
  | [], ds, vs, fr, us, h, _ => by simpa [setPs] using h
  | p :: ps, ds, vs, fr, us, h, r => by
    cases ds with
    | nil => have := r.len; simp at this; obtain rfl : vs = [] := List.eq_nil_of_length_eq_zero this.symm; simpa [setPs] using h
    | cons d ds =>
      obtain ⟨v, vs', rfl, hd, hr⟩ := r.uncons
      simp only [setPs, List.zip_cons_cons, List.foldl_cons]
      exact repL_setPs ps ds vs' (by simpa using h.set p hd) hr

/-- What a loop's rounds do, as an iterator needs it: V is all that comes. -/
def YKo (P : Program) (w0 : W0) {α : Type} (l : Nat) (X : List α → St) (enc : α → List DV) (Ok : List α → Prop) : Prop :=
  ∀ pre x T, Ok (pre ++ [x]) → Has (X pre) T → YCall P w0 l (enc x) T fun d T' => d = .v (.bool true) ∧ Has (X (pre ++ [x])) T' ∧ Kp (X pre) T T'
/-- .. where it is known. -/
def YK (P : Program) (w0 : W0) {α : Type} (l : Nat) (X : List α → St) (enc : α → List DV) (V : List α) : Prop :=
  ∀ pre x T, (pre ++ [x]) <+: V → Has (X pre) T → YCall P w0 l (enc x) T fun d T' => d = .v (.bool true) ∧ Has (X (pre ++ [x])) T' ∧ Kp (X pre) T T'
/-- A range over a function that isn't left ahead of its end. -/
theorem awp_rangeFuncO {α : Type} (X : List α → St) (enc : α → List DV) (Ok Fin : List α → Prop) {fo : Operand} {ps : Array Tmp} {assign body : Code} {fr : List DV} {S : St} {Q : Exit → List DV → St → Prop} {gf : FuncId} {cap : Array Value}
    (hf : ev fr fo = .v (.func (.func gf) #[] cap)) (hok : okF P gf = true) (hcap : cap.toList.all (fun u => u.oneCell') = true) (hrf : (noRF assign && noRF body) = true)
    (h0 : X [] = S) (hdb : ∀ pre, (X pre).box.map (·.1) = (X []).box.map (·.1)) (hda : ∀ pre, (X pre).acc.map (·.1) = (X []).acc.map (·.1)) (hps : ∀ x, (enc x).length = ps.size)
    (hbody : ∀ pre x T, Ok (pre ++ [x]) → Has (X pre) T → AWp P w0 assign (setPs ps.toList (enc x) fr) T (thenQ (fun fr1 T1 => AWp P w0 body fr1 T1 (thenQ (fun _ T' => Has (X (pre ++ [x])) T' ∧ Kp (X pre) T T') fun _ _ _ => False)) fun _ _ _ => False))
    (hit : ∀ (l : Nat) (w1 : W0), YKo P w1 l X enc Ok → ∀ T, Has (X []) T → ACall P w1 gf (.v (.func (.yield l) #[] #[]) :: cap.toList.map .v) T fun _ T' => ∃ V, Fin V ∧ Has (X V) T')
    (hdone : ∀ V, Fin V → Q .normal fr (X V)) : AWp P w0 (.rangeFunc fo ps assign body) fr S Q := by
  intro g a w h1 h2 h3 ro hro
  have hro : ro = none := hro.resolve_right (by simp [noRF])
  subst hro
  simp only [Bool.and_eq_true] at hrf
  subst h0
  refine wpIn_rangeFunc ?_
  intro fn hfn
  have hfo := rep_ev h2 fo
  rw [hf] at hfo
  have hg : a.eval fo = .func (.func gf) #[] cap := rep_v hfo
  obtain ⟨rec, hrec⟩ : ∃ rec : LoopState → Option Code → Loop, rec = fun st pe => { state := st, pending := pe, fn, tmps := a.tmps, params := ps, assign, body, defers := w.heap.size } := ⟨_, rfl⟩
  obtain ⟨W1, hW1⟩ : ∃ W1, (w.alloc (.deferred (some []))).alloc (.loop (rec .ready none)) = W1 := ⟨_, rfl⟩
  have hL1 : W1.heap[w.heap.size + 1]? = some (.loop (rec .ready none)) := by
    rw [← hW1]; have := World.alloc_heap_new (w.alloc (.deferred (some []))) (.loop (rec .ready none)); rwa [World.size_alloc] at this
  have hK1 : W1.heap[w.heap.size]? = some (.deferred (some [])) := by
    rw [← hW1]; exact (Below.heap_alloc _ _ _ (by simp)).trans (World.alloc_heap_new w _)
  have hb1 : Below w.heap.size w W1 := by
    rw [← hW1]; exact ((Below.refl _ w).alloc (Nat.le_refl _) _).alloc (by simp) _
  have hob : ∀ k o, g.obj k = some o → k < w.heap.size := fun k o hk => (Array.getElem?_eq_some_iff.1 (h1.below.obj k o hk).1).1
  have hgl : ∀ k, w.heap.size ≤ k → g.obj k = none := fun k hk => by
    cases hx : g.obj k with
    | none => rfl
    | some o => have := hob k o hx; omega
  have hwl : ∀ k, w.heap.size ≤ k → w0.gh.obj k = none := fun k hk => by
    cases hx : w0.gh.obj k with
    | none => rfl
    | some o => have := hob k o (h1.below.req.obj k o hx); omega
  have hsz := h1.below.size
  -- the walk of the iterator knows the record
  let w1 : W0 := ⟨w0.w, { g with obj := fun k => if k = w.heap.size + 1 then some (.loop (rec .ready none)) else w0.gh.obj k }⟩
  have R1 : Rel w1 (g.withObj (ncs W1)) (X []) W1 := by
    refine (h1.grow hb1).withObj rfl (fun _ _ h => ncs_spec h) ⟨fun _ _ _ h => h, fun _ _ _ h => h, fun k o hk => ?_⟩
    simp only [w1] at hk
    split at hk
    · rename_i e; subst e; cases hk; exact ncs_mk hL1 rfl
    · have := (h1.grow hb1).below.obj k o (h1.below.req.obj k o hk)
      exact ncs_mk this.1 this.2
  have nb : ∀ pre, ((X pre).box.map (·.1)).Nodup := fun pre => by rw [hdb]; exact h1.nb
  have na : ∀ pre, ((X pre).acc.map (·.1)).Nodup := fun pre => by rw [hda]; exact h1.na
  have h2k : RepL (g.withObj (ncs W1)) fr a.tmps.toList := h2.withObj
  have hcapR : ∀ g : Gh, RepL g (cap.toList.map .v) cap.toList := fun g => ⟨by simp, fun i d u a1 a2 => by
    simp only [List.getElem?_map, Option.map_eq_some_iff] at a1
    obtain ⟨u', a1, rfl⟩ := a1
    rw [a2] at a1; cases a1
    exact .v _ (List.all_eq_true.1 hcap _ (List.mem_of_getElem? a2))⟩
  have hYK : YKo P w1 (w.heap.size + 1) X enc Ok := by
    intro pre x T hV hT g3 vs w3 r3 hvs
    have hl3g : g3.obj (w.heap.size + 1) = some (.loop (rec .ready none)) := r3.below.req.obj _ _ (by simp [w1])
    have hl3 := (r3.below.obj _ _ hl3g).1
    have hy := run_yield (P := P) (args := vs) hl3 (by rw [hrec]; have := hvs.len; simp at this; rw [← this]; exact hps x)
    rw [hrec] at hy
    dsimp only at hy
    refine ⟨_, _, _, _, hy, fun ro => roundIn_of_wpIn (F := fz ro) (n := 0) trivial ?_⟩
    have hsub0 : w0.gh.sub g3 := ⟨fun _ _ _ h => r3.below.req.imm _ _ _ (h1.below.req.imm _ _ _ h), fun _ _ _ h => r3.below.req.acc _ _ _ (h1.below.req.acc _ _ _ h), fun k o hk => r3.below.req.obj k o (by
        simp only [w1]
        split
        · rename_i e; subst e; rw [hwl _ (by omega)] at hk; cases hk
        · exact hk)⟩
    have R3 : Rel w0 g3 T w3 := r3.withObj (w0' := w0) (ob := g3.obj) rfl r3.below.obj hsub0
    have hfr0 : RepL g3 fr a.tmps.toList := ⟨h2.len, fun i d u a1 a2 => Rep.of (g := g) (fun b i u hu => r3.below.req.imm b i u hu) (fun l n u hu => r3.below.req.acc l n u hu) (h2.at_ i d u a1 a2)⟩
    have hfr : RepL g3 (setPs ps.toList (enc x) fr) (((ps.zip vs).foldl (fun t (p, v) => t.setIfInBounds p v) a.tmps).toList) := by
      have := repL_setPs (g := g3) ps.toList (enc x) vs.toList (fr := fr) (us := a.tmps) hfr0 hvs
      rw [← Array.toList_zip, Array.foldl_toList] at this
      exact this
    refine wpIn_mono (hbody pre x T hV hT g3 { tmps := _, defers := [] } w3 R3 hfr (.nil rfl) (some (w.heap.size + 1)) (.inr hrf.1)) ?_
    rintro e a4 w4 ⟨hd4, g4, fr4, T4, k1, k2, k3, k4⟩
    cases e with
    | normal =>
      have hl4g : g4.obj (w.heap.size + 1) = some (.loop (rec .ready none)) := by rw [k1.obj]; exact hl3g
      have hl4 := (k2.below.obj _ _ hl4g).1
      refine ⟨_, run_beginRound hl4 (by rw [hrec]), ?_⟩
      have hlt4 : w.heap.size + 1 < w4.heap.size := (Array.getElem?_eq_some_iff.1 hl4).1
      have hbz : ({ rec .ready none with state := .busy } : Loop) = rec .busy none := by rw [hrec]
      rw [hbz]
      have hwl0 := hwl (w.heap.size + 1) (by omega)
      have hne0 : ∀ k o, w0.gh.obj k = some o → k ≠ w.heap.size + 1 := by rintro k o hk rfl; rw [hwl0] at hk; cases hk
      have R4x : Rel w0 (g4.withObj fun k => if k = w.heap.size + 1 then none else g4.obj k) T4 w4 := k2.withObj rfl (fun k o hk => by
        split at hk
        · cases hk
        · exact k2.below.obj k o hk) ⟨k2.below.req.imm, k2.below.req.acc, fun k o hk => by
          show (if k = w.heap.size + 1 then none else g4.obj k) = some o
          rw [if_neg (hne0 k o hk)]; exact k2.below.req.obj k o hk⟩
      have hh5 : ∀ k, k ≠ w.heap.size + 1 → (w4.putObj (w.heap.size + 1) (.loop (rec .busy none))).heap[k]? = w4.heap[k]? := fun k hk => World.putObj_heap_other hk
      have R4y := R4x.putObj (o' := .loop (rec .busy none)) hl4 rfl (by show (if _ then none else _) = none; rw [if_pos rfl]) (by omega)
      have R5 : Rel w0 ((g4.withObj fun k => if k = w.heap.size + 1 then none else g4.obj k).withObj fun k => if k = w.heap.size + 1 then some (.loop (rec .busy none)) else g4.obj k) T4 (w4.putObj (w.heap.size + 1) (.loop (rec .busy none))) := R4y.withObj rfl (fun k o hk => by
        split at hk
        · rename_i e; subst e; cases hk; exact ⟨World.putObj_heap_same hlt4, rfl⟩
        · rename_i e; rw [hh5 k e]; exact k2.below.obj k o hk) ⟨k2.below.req.imm, k2.below.req.acc, fun k o hk => by
          show (if k = w.heap.size + 1 then some (.loop (rec .busy none)) else g4.obj k) = some o
          rw [if_neg (hne0 k o hk)]; exact k2.below.req.obj k o hk⟩
      have hD5 : Dk w0 (fun k => if k = w.heap.size + 1 then some (.loop (rec .busy none)) else g4.obj k) a4 (w4.putObj (w.heap.size + 1) (.loop (rec .busy none))) := by
        refine ⟨hd4.1, fun d hd => ?_⟩
        obtain ⟨D, e1, e2, e3, e4⟩ := hd4.2 d hd
        have hne : D ≠ w.heap.size + 1 := by rintro rfl; rw [hl4] at e2; cases e2
        exact ⟨D, e1, (hh5 D hne).trans e2, by show (if D = w.heap.size + 1 then _ else g4.obj D) = none; rw [if_neg hne, k1.obj]; exact e3, e4⟩
      refine wpIn_mono (k4 _ a4 _ R5 k3.withObj.withObj hD5 (some (w.heap.size + 1)) (.inr hrf.2)) ?_
      rintro e a6 w6 ⟨_, g6, fr6, T6, q1, q2, q3, q4⟩
      cases e with
      | normal =>
        have hg6 : g6.obj = fun k => if k = w.heap.size + 1 then some (.loop (rec .busy none)) else g4.obj k := q1.obj
        have hl6 := (q2.below.obj (w.heap.size + 1) (.loop (rec .busy none)) (by rw [hg6]; simp)).1
        have hlt6 : w.heap.size + 1 < w6.heap.size := (Array.getElem?_eq_some_iff.1 hl6).1
        have hbr : ({ rec .busy none with state := if (none : Option Code).isNone then .ready else .done, pending := none } : Loop) = rec .ready none := by rw [hrec]; rfl
        have he := run_endRound (P := P) none hl6
        rw [hbr] at he
        have he : (Instr.endRound (w.heap.size + 1) none).run P w6 = .ok (.bool true) (w6.putObj (w.heap.size + 1) (.loop (rec .ready none))) := he
        have h34 : ∀ k, k ≠ w.heap.size + 1 → g6.obj k = g3.obj k := fun k hk => by rw [hg6]; simp only [if_neg hk]; rw [k1.obj]
        have R6x : Rel w0 (g6.withObj fun k => if k = w.heap.size + 1 then none else g3.obj k) T6 w6 := q2.withObj rfl (fun k o hk => by
          split at hk
          · cases hk
          · rename_i e; exact q2.below.obj k o (by rw [h34 k e]; exact hk)) ⟨q2.below.req.imm, q2.below.req.acc, fun k o hk => by
            show (if k = w.heap.size + 1 then none else g3.obj k) = some o
            rw [if_neg (hne0 k o hk)]; exact hsub0.obj k o hk⟩
        have hh7 : ∀ k, k ≠ w.heap.size + 1 → (w6.putObj (w.heap.size + 1) (.loop (rec .ready none))).heap[k]? = w6.heap[k]? := fun k hk => World.putObj_heap_other hk
        have R6y := R6x.putObj (o' := .loop (rec .ready none)) hl6 rfl (by show (if _ then none else _) = none; rw [if_pos rfl]) (by omega)
        have R7 : Rel w1 ((g6.withObj fun k => if k = w.heap.size + 1 then none else g3.obj k).withObj g3.obj) T6 (w6.putObj (w.heap.size + 1) (.loop (rec .ready none))) := R6y.withObj rfl (fun k o hk => by
          by_cases e : k = w.heap.size + 1
          · subst e; rw [hl3g] at hk; cases hk; exact ⟨World.putObj_heap_same hlt6, rfl⟩
          · rw [hh7 k e]; exact q2.below.obj k o (by rw [h34 k e]; exact hk)) ⟨fun b i u hu => q1.imm _ _ _ (k1.imm _ _ _ (r3.below.req.imm _ _ _ hu)), fun l n u hu => q1.acc _ _ _ (k1.acc _ _ _ (r3.below.req.acc _ _ _ hu)), r3.below.req.obj⟩
        exact ⟨.bool true, _, he, .bool true, (g6.withObj fun k => if k = w.heap.size + 1 then none else g3.obj k).withObj g3.obj, .v (.bool true), T6, rfl, ⟨fun b i u hu => q1.imm _ _ _ (k1.imm _ _ _ hu), fun l n u hu => q1.acc _ _ _ (k1.acc _ _ _ hu), rfl⟩, R7, .v _ rfl, rfl, q4.1, q4.2⟩
      | exit n => exact q4.elim
      | goto n => exact q4.elim
      | ret => exact q4.elim
      | panic ch => exact q4.elim
      | outgrown => exact q4.elim
    | exit n => exact k4.elim
    | goto n => exact k4.elim
    | ret => exact k4.elim
    | panic ch => exact k4.elim
    | outgrown => exact k4.elim
  refine ⟨w.heap.size + 1, [{ target := .collected w.heap.size, args := #[] }], W1, { target := .fn (.func gf) cap, args := #[.func (.yield (w.heap.size + 1)) #[] #[]] }, W1, gf, #[.func (.yield (w.heap.size + 1)) #[] #[]] ++ cap, W1, ?_, ?_, fun _ _ => trivial, ?_, fun h => by simp [fz, Fence.wide] at h, ?_⟩
  · rw [← hW1, hrec]; exact run_enterLoop_outer _ _ _ _ _
  · simp only [resolve, hg]
    simp [go_sem]
  · unfold okF at hok
    split at hok
    · rename_i fn' hfn'
      simp only [Bool.and_eq_true, Bool.not_eq_true'] at hok
      obtain ⟨hb, hname⟩ := hok
      have hbn : ¬ fn'.body = none := by intro e; simp [e] at hb
      have hname' : ¬ fn'.name = "runtime.NumGoroutine" := by simpa using hname
      simp [invoke, callFunc, hfn', hname', hbn]
    · cases hok
  · refine callsIn_fz.2 ((hit _ w1 hYK (X []) (.refl _) (g.withObj (ncs W1)) _ W1 R1 ?_).mono ?_)
    · have : RepL (g.withObj (ncs W1)) ([.v (.func (.yield (w.heap.size + 1)) #[] #[])] ++ cap.toList.map .v) ([.func (.yield (w.heap.size + 1)) #[] #[]] ++ cap.toList) := (RepL.cons (.v _ rfl) (RepL.nil _)).append (hcapR _)
      simpa using this
    · rintro e w2 ⟨r, g2, d, S2, rfl, k1, k2, k3, V, kV, k4⟩
      have hg2 : g2.obj = ncs W1 := k1.obj
      have hkeep : ∀ (k : Nat) (o : Obj), W1.heap[k]? = some o → nc o = true → w2.heap[k]? = some o := fun k o h1 h2 => (k2.below.obj k o (by rw [hg2]; exact ncs_mk h1 h2)).1
      have hl2 := hkeep _ _ hL1 rfl
      have hK2 := hkeep _ _ hK1 rfl
      have hpend : (rec .ready none).pending = none := by rw [hrec]
      obtain ⟨o', hend⟩ : ∃ o', (Instr.endLoop (w.heap.size + 1)).run P w2 = .ok none (w2.putObj (w.heap.size + 1) o') := ⟨_, by
        have := run_endLoop (P := P) hl2 (by rw [hrec]; simp)
        rw [hpend] at this
        exact this⟩
      refine ⟨none, _, hend, ?_⟩
      have hoth : ∀ k, k ≠ w.heap.size + 1 → (w2.putObj (w.heap.size + 1) o').heap[k]? = w2.heap[k]? := fun k hk => World.putObj_heap_other hk
      have RV : Rel w1 g2 (X V) w2 := k2.has k4 (nb _) (na _)
      have Rb : Rel w0 (g2.withObj g.obj) (X V) w2 := RV.withObj rfl (fun k o hk => by
        obtain ⟨p1, p2⟩ := h1.below.obj k o hk
        exact ⟨hkeep k o ((hb1.block k (Array.getElem?_eq_some_iff.1 p1).1).trans p1) p2, p2⟩) ⟨fun b i u hu => k1.imm _ _ _ (h1.below.req.imm _ _ _ hu), fun l n u hu => k1.acc _ _ _ (h1.below.req.acc _ _ _ hu), h1.below.req.obj⟩
      refine ⟨?_, g2.withObj g.obj, fr, X V, ⟨k1.imm, k1.acc, rfl⟩, Rb.putObj hl2 rfl (hgl _ (by omega)) (by omega), ?_, hdone V kV⟩
      · refine ⟨?_, ?_⟩
        · show ({ target := .collected w.heap.size, args := #[] } :: a.defers : List Deferred).Nodup
          rw [List.nodup_cons]
          refine ⟨fun hm => ?_, h3.1⟩
          obtain ⟨D, e1, e2, _⟩ := h3.2 _ hm
          have : w.heap.size = D := by injection e1 with e1 _; injection e1
          subst this
          have := (Array.getElem?_eq_some_iff.1 e2).1
          omega
        · intro d hd
          rcases List.mem_cons.1 hd with rfl | hd
          · exact ⟨_, rfl, (hoth _ (by omega)).trans hK2, hgl _ (Nat.le_refl _), by omega⟩
          · obtain ⟨D, e1, e2, e3, e4⟩ := h3.2 d hd
            have hlt := (Array.getElem?_eq_some_iff.1 e2).1
            exact ⟨D, e1, (hoth D (by omega)).trans (hkeep D _ ((hb1.block D hlt).trans e2) rfl), e3, e4⟩
      · have : RepL g2 fr a.tmps.toList := h2k.mono k1
        exact this.withObj
theorem awp_rangeFunc {α : Type} (X : List α → St) (enc : α → List DV) (V : List α) {fo : Operand} {ps : Array Tmp} {assign body : Code} {fr : List DV} {S : St} {Q : Exit → List DV → St → Prop} {gf : FuncId} {cap : Array Value}
    (hf : ev fr fo = .v (.func (.func gf) #[] cap)) (hok : okF P gf = true) (hcap : cap.toList.all (fun u => u.oneCell') = true) (hrf : (noRF assign && noRF body) = true)
    (h0 : X [] = S) (hdb : ∀ pre, (X pre).box.map (·.1) = (X []).box.map (·.1)) (hda : ∀ pre, (X pre).acc.map (·.1) = (X []).acc.map (·.1)) (hps : ∀ x, (enc x).length = ps.size)
    (hbody : ∀ pre x T, (pre ++ [x]) <+: V → Has (X pre) T → AWp P w0 assign (setPs ps.toList (enc x) fr) T (thenQ (fun fr1 T1 => AWp P w0 body fr1 T1 (thenQ (fun _ T' => Has (X (pre ++ [x])) T' ∧ Kp (X pre) T T') fun _ _ _ => False)) fun _ _ _ => False))
    (hit : ∀ (l : Nat) (w1 : W0), YK P w1 l X enc V → ∀ T, Has (X []) T → ACall P w1 gf (.v (.func (.yield l) #[] #[]) :: cap.toList.map .v) T fun _ T' => Has (X V) T')
    (hdone : Q .normal fr (X V)) : AWp P w0 (.rangeFunc fo ps assign body) fr S Q :=
  awp_rangeFuncO X enc (· <+: V) (· = V) hf hok hcap hrf h0 hdb hda hps hbody (fun l w1 hy T hT => (hit l w1 hy T hT).mono fun _ _ h => ⟨V, rfl, h⟩) fun V' e => e ▸ hdone
/-- The same, walked. -/
theorem rangeK {α : Type} (ss : List Nat := []) (X : List α → St) (enc : α → List DV) (V : List α) {fo : Operand} {ps : Array Tmp} {assign body : Code} {fr : List DV} {S : St} {Q : Exit → List DV → St → Prop} {gf : FuncId} {cap : Array Value}
    (hm : P.follows .mixedOrders = true) (hc : (okC ss assign && okC ss body && noRF assign && noRF body && okF P gf) = true) (hf : ev fr fo = .v (.func (.func gf) #[] cap)) (hcap : cap.toList.all (fun u => u.oneCell') = true)
    (h0 : X [] = S) (hdb : ∀ pre, (X pre).box.map (·.1) = (X []).box.map (·.1)) (hda : ∀ pre, (X pre).acc.map (·.1) = (X []).acc.map (·.1)) (hps : ∀ x, (enc x).length = ps.size)
    (hit : ∀ (l : Nat) (w1 : W0), YK P w1 l X enc V → ∀ T, Has (X []) T → ACall P w1 gf (.v (.func (.yield l) #[] #[]) :: cap.toList.map .v) T fun _ T' => Has (X V) T')
    (hbody : ∀ pre x T, (pre ++ [x]) <+: V → Has (X pre) T → vw P w0 ss assign (setPs ps.toList (enc x) fr) T (thenQ (fun fr1 T1 => vw P w0 ss body fr1 T1 (thenQ (fun _ T' => Has (X (pre ++ [x])) T' ∧ Kp (X pre) T T') fun _ _ _ => False)) fun _ _ _ => False))
    (hdone : Q .normal fr (X V)) : AWp P w0 (.rangeFunc fo ps assign body) fr S Q := by
  simp only [Bool.and_eq_true] at hc
  obtain ⟨⟨⟨⟨c1, c2⟩, c3⟩, c4⟩, c5⟩ := hc
  refine awp_rangeFunc X enc V hf c5 hcap (by rw [c3, c4]; rfl) h0 hdb hda hps (fun pre x T hV hT => ?_) hit hdone
  refine (vw_sound hm assign c1 (hbody pre x T hV hT)).mono ?_
  intro e fr' S' h
  cases e <;> first | exact vw_sound hm body c2 h | exact h
theorem n_vw_rangeFunc {ss : List Nat} {fr : List DV} {S : St} {Q : Exit → List DV → St → Prop} (f : Operand) (ps : Array Tmp) (a b : Code) : vw P w0 ss (.rangeFunc f ps a b) fr S Q = @AL P w0 fr S ⟨((.rangeFunc f ps a b), Q)⟩ := rfl
theorem n_callY (l : Nat) (ds : List DV) (S : St) (K : DV → St → Prop) : vCall P w0 (.v (.func (.yield l) #[] #[])) ds S K = shrs S ds fun ds S => @YC P w0 l ds S ⟨K⟩ := by
  simp [vCall]
@[congr] theorem c_YC {l : Nat} {ds ds' : List DV} {S S' : St} [K : Cn (DV → St → Prop)] (h1 : ds = ds') (h2 : S = S') : YC P w0 l ds S = YC P w0 l ds' S' := by cases h1; cases h2; rfl
theorem useY {l : Nat} {args args' : List DV} {S : St} {K K' : DV → St → Prop} (h : YCall P w0 l args' S K') (hk : ∀ d S', K' d S' → K d S') (ha : WkL args args' := by exact WkL.refl _) : @YC P w0 l args S ⟨K⟩ := by
  intro g vs w h1 h2
  obtain ⟨fn, t, a, b, q1, q2⟩ := h g vs w h1 (ha.spec h2)
  refine ⟨fn, t, a, b, q1, fun ro => (q2 ro).mono ?_⟩
  rintro e w' ⟨r, g', d, S', rfl, x1, x2, x3, x4⟩
  exact ⟨r, g', d, S', rfl, x1, x2, x3, hk _ _ x4⟩
theorem lk_up_same {α : Type} (l : List (Nat × α)) (b : Nat) (v : α) : lk (up l b v) b = (lk l b).map fun _ => v := by
  induction l with
  | nil => rfl
  | cons p t ih => obtain ⟨k, x⟩ := p; simp only [up, lk]; split <;> simp_all [lk]
theorem lk_up_ne {α : Type} {b c : Nat} (h : ¬ b = c) (l : List (Nat × α)) (v : α) : lk (up l b v) c = lk l c := by
  induction l with
  | nil => rfl
  | cons p t ih =>
    obtain ⟨k, x⟩ := p
    simp only [up]
    split
    · rename_i e; subst e; simp [lk, h]
    · simp only [lk, ih]
theorem up_up {α : Type} (l : List (Nat × α)) (b : Nat) (v v' : α) : up (up l b v) b v' = up l b v' := by
  induction l with
  | nil => rfl
  | cons p t ih => obtain ⟨k, x⟩ := p; simp only [up]; split <;> simp_all [up]
theorem Has.consB {X T : St} (h : Has X T) (b : FN T.box) (ds : List DV) {A : List (Nat × Ob)} (hA : A = T.acc) : Has X ⟨(b.n, ds) :: T.box, A⟩ := ⟨fun c x hc => by
  have := h.box c x hc
  simp only [lk]
  rw [if_neg (fun e => by rw [← e, fn_lk b] at this; cases this)]; exact this, fun l o hl => by rw [hA]; exact h.acc l o hl⟩
/-- A box is another one's of what is said. -/
theorem Has.up {b : Nat} {x v : List DV} {R : List (Nat × List DV)} {A : List (Nat × Ob)} {T : St} (h : Has ⟨(b, x) :: R, A⟩ T) : Has ⟨(b, v) :: R, A⟩ ⟨up T.box b v, T.acc⟩ := ⟨fun c y hc => by
  have hb := h.box b x (by simp [lk])
  simp only [lk] at hc
  split at hc
  · rename_i e; subst e; cases hc; rw [lk_up_same, hb]; rfl
  · rename_i e
    rw [lk_up_ne e]
    exact h.box c y (by simp only [lk, if_neg e]; exact hc), h.acc⟩
theorem Kp.up {b : Nat} {v : List DV} {X T : St} (h : (lk X.box b).isSome = true) : Kp X T ⟨up T.box b v, T.acc⟩ := ⟨fun c x hc hx => by
  have : ¬ b = c := by rintro rfl; rw [hc] at h; cases h
  rw [lk_up_ne this]; exact hx, fun _ _ _ h => h⟩
theorem Kp.trans {X X' T1 T2 T3 : St} (h : Kp X T1 T2) (k : Kp X' T2 T3) (hb : ∀ b, lk X.box b = none → lk X'.box b = none) (ha : ∀ l, lk X.acc l = none → lk X'.acc l = none) : Kp X T1 T3 :=
  ⟨fun b x h1 h2 => k.box b x (hb b h1) (h.box b x h1 h2), fun l o h1 h2 => k.acc l o (ha l h1) (h.acc l o h1 h2)⟩
theorem Kp.consB {X T T' : St} (h : Kp X T T') (b : FN T'.box) (ds : List DV) {A : List (Nat × Ob)} (hA : A = T'.acc) : Kp X T ⟨(b.n, ds) :: T'.box, A⟩ := ⟨fun c x hc hx => by
  have := h.box c x hc hx
  simp only [lk]
  rw [if_neg (fun e => by rw [← e, fn_lk b] at this; cases this)]; exact this, fun l o h1 h2 => by rw [hA]; exact h.acc l o h1 h2⟩
theorem n_convS_i (k0 : IntKind) (b ke : TK) (S : St) (x : DV) (K : DV → Prop) : vConvS (.int k0) b ke S x K = vConv (.int k0) b x K := rfl
theorem n_convS_b (e s b : Nat) (i : Bool) (ke : TK) (S : St) (x : DV) (K : DV → Prop) : vConvS (.sl e s b i) .str ke S x K = (ke = .int .u8 ∧ notV x = true ∧ contK S x fun s xs => s = 1 ∧ okBy xs = true ∧ K (.v (.string (strOfNums (byD xs))))) := rfl
theorem n_notV_acc (l n : Nat) : notV (.acc l n) = true := rfl
theorem n_notV_sl (s : Nat) (f : Bool) (xs : List DV) : notV (.sl s f xs) = true := rfl
theorem n_byD_rep (n : Nat) (a : Int) : byD (List.replicate n (DV.v (.int .u8 a))) = List.replicate n a := (by_rep n a).1
theorem n_okBy_rep (n : Nat) (a : Int) : okBy (List.replicate n (DV.v (.int .u8 a))) = true := (by_rep n a).2
theorem Wk_slE {s : Nat} {f : Bool} {xs ys : List DV} (h : WkL xs ys) : Wk (.sl s f xs) (.sl s false ys) = True := eq_true ((Wk.full s f xs).trans (Wk.sl h))
/-- A growing slice that a box holds is frozen. -/
theorem shrB (b j : Nat) {c : Code} {fr : List DV} {S : St} {Q : Exit → List DV → St → Prop} {ds : List DV} {l s : Nat} {xs : List DV} (hb : lk S.box b = some ds) (hj : ds[j]? = some (.acc l xs.length)) (hl : lk S.acc l = some (.arr s xs))
    (h : AWp P w0 c fr ⟨Aml.up S.box b (ds.set j (.sl s false xs)), Aml.up S.acc l (.tl s xs)⟩ Q) : AWp P w0 c fr S Q := by
  intro g a w h1 h2 h3
  obtain ⟨ow, o1, o2⟩ := h1.own
  obtain ⟨q1, q2, q3, us, e, q4, q5, q6⟩ := o1 _ _ (lk_mem hb)
  have hlt : j < us.toList.length := by rw [← q5.len]; exact (List.getElem?_eq_some_iff.1 hj).1
  have hr := q5.at_ j _ _ hj (List.getElem?_eq_getElem hlt)
  obtain ⟨o, c', hu⟩ : ∃ o c', us.toList[j] = .slice o xs.length c' ∧ g.acc l xs.length = some (.slice o xs.length c') := by
    generalize us.toList[j] = u at hr
    cases hr with
    | acc _ _ o c h => exact ⟨o, c, rfl, h⟩
  obtain ⟨g', hle, hR, hrep⟩ := h1.freeze hl hu.2
  have hR' := hR.wkBox (ds' := ds.set j (.sl s false xs)) (b := b) hb ?_
  · exact wpA_mono (h g' a w hR' (h2.mono hle) (hle.dk h3)) fun _ _ _ k => k.of_le hle
  · intro us' e' hh hr2
    rw [hh] at q4
    cases q4
    exact repL_same hr2 (List.getElem?_eq_getElem hlt) (by rw [hu.1]; exact hrep)
end
attribute [go_sem ↓] n_convS_i n_convS_b n_vw_rangeFunc
attribute [go_sem] n_notV_acc n_notV_sl n_byD_rep n_okBy_rep Wk_slE n_callY lk_up_same lk_up_ne up_up Option.map_some
end Aml

namespace Aml
open Go Go.RowKit
set_option linter.unusedVariables false
set_option linter.unusedSimpArgs false

/-- A row, as one that grows. -/
def arrK (d : DV) (S : St) (K : DV → St → Prop) : Prop := match d with
  | .sl s true xs => ∀ l, nin S.acc l → K (.acc l xs.length) ⟨S.box, (l, .arr s xs) :: S.acc⟩
  | _ => False
section
variable {P : Program} {w0 : W0}
theorem buildSlice_arr {g : Gh} {S : St} {w : World} (h1 : Rel w0 g S w) {t len : Nat} {parts : List (Nat × DV)} {vs : List (Nat × Value)} (hx : parts.map (·.1) = vs.map (·.1)) (hR : RepL g (parts.map (·.2)) (vs.map (·.2))) {K : DV → St → Prop}
    {e : Nat} (hte : ∀ e' s b i, tk P t = .sl e' s b i → e' = e) (h : vBuildSlice (tk P t) (zD P e) len parts fun d => arrK d S K) :
    ∃ d u w' g' S', (Instr.buildSlice t len vs.toArray).run P w = .ok u w' ∧ g.le g' ∧ Rel w0 g' S' w' ∧ Rep g' d u ∧ K d S' := by
  unfold vBuildSlice at h
  split at h
  · rename_i e' s by' hk
    obtain rfl := hte _ _ _ _ hk
    obtain ⟨hok, hzl, hbig, h⟩ := h
    obtain ⟨hu, hs, _, hei⟩ := tk_sl hk
    obtain ⟨ti, z, hi, hz, hzs, hpos⟩ := okEl_spec hei
    have hsz : ti.size = s := by simpa [Program.cellsOf, hi] using hs
    have hzD : zD P e' = cv z := by simp [zD, hi, hz]
    have hrz : Rep g (zD P e') z := hzD ▸ rep_cv g z
    split at h
    · rename_i xs hf
      have hpw := pw_made (z := z) (s := s) (n := len) (by omega) (by omega)
      obtain ⟨cs', us', q1, q2, q3, q4, q5⟩ := fillE_ok (g := g) (s := s) parts vs (List.replicate len (zD P e')) (List.replicate len z) ((Array.range (len * s)).map (z.cells[· % z.cells.size]!)) xs hx hR
        ⟨by simp, fun i d u a b => by
          rw [List.getElem?_replicate] at a b
          split at a
          · rename_i hlt; rw [if_pos hlt] at b; simp only [Option.some.injEq] at a b; subst a; subst b; exact hrz
          · cases a⟩ hpw (fun u hu x hx => by rw [List.eq_of_mem_replicate hu] at hx; exact hrz.one hok x hx) hf
      have hlen : xs.length = len := by simpa using q5
      have hlu : us'.length = len := by rw [← q2.len]; exact hlen
      have hrun : (Instr.buildSlice t len vs.toArray).run P w = .ok (.slice (some ⟨w.heap.size, 0, none⟩) len len) (w.alloc (.cells cs' e')) := by
        have hb : ¬ (len * s > 2 ^ 24) := by omega
        simp only [Instr.buildSlice]
        by_cases hls : len * s = 0
        · have hl0 : len = 0 := by rcases Nat.mul_eq_zero.1 hls with h' | h' <;> omega
          have hcs : ((Array.range (len * s)).map (z.cells[· % z.cells.size]!)) = #[] := by simp [hls]
          rw [hcs] at q1
          have hr0 : ∀ f : Nat → Value, (Array.range 0).map f = #[] := fun f => by simp
          simp only [run_underlying hu, Go.sizeOf, typeInfo, hi, hsz, hls, newRow, Sem.run_bind, Sem.run_pure, Result.andThen_ok, run_program, hr0, if_true]
          rw [q1]
          simp [hl0]
        · simp [run_underlying hu, Go.sizeOf, typeInfo, hi, hsz, hls, hb, zeroValue, hz, q1, newRow]
      have hlm : len ≤ maxLen := by
        have : len * 1 ≤ len * s := Nat.mul_le_mul_left len (by omega)
        unfold maxLen; omega
      have hcsz : cs'.size = len * s := by
        have := q3.size
        rw [hlu] at this
        simpa using this
      obtain ⟨l, g', hle, hne, hRel, hA⟩ := h1.newArr (s := s) (xs := xs) (us := us') (c := len) (below_alloc w (.cells cs' e')) (by omega) (Nat.le_refl _) (heap_alloc_new w _) hcsz (by omega) hlm q2 q3.each q4 (fun i u j x a b => by have := q3.at_ i u j x a b; simpa using this) (one_of_rows (by omega) (by rw [Array.length_toList, hcsz, hlu]) q3.each q4 (fun i u j x a b => by have := q3.at_ i u j x a b; simpa using this))
      rw [hlen] at hA
      have h' := h l (nin_of hne)
      rw [hlen] at h'
      exact ⟨_, _, _, _, _, hrun, hle, hRel, hA, h'⟩
    · exact h.elim
  · exact h.elim
theorem y_buildArr {o : Oper} {t len : Nat} {parts : List (Nat × Operand)} (ho : o.op = .buildSlice t len parts.toArray) {ρD : Operand → DV} {S : St} {K : DV → St → Prop}
    (h : shrs S (parts.map fun p => ρD p.2) fun ds S => vBuildSlice (tk P t) (zD P (elT P t)) len ((parts.map (·.1)).zip ds) fun d => arrK d S K) : YieldsE P w0 o ρD S K := by
  intro g w ρ h1 h2 hcst
  have hR := repL_of_ops (g := g) (ρD := ρD) (ρ := ρ) parts (fun p hp => h2 p.2 (by simp only [ho, Op.operands]; simp; exact ⟨p.1, hp⟩))
  obtain ⟨g', ds, S', l1, R1, r1, k1⟩ := shrs_ok _ h1 hR h
  have hlen : (parts.map (·.1)).length = ds.length := by have := r1.len; simpa using this.symm
  obtain ⟨d, u, w', g2, S2, e1, l2, R2, e2, e3⟩ := buildSlice_arr (P := P) R1 (t := t) (len := len) (parts := (parts.map (·.1)).zip ds) (vs := parts.map fun p => (p.1, ρ p.2)) (by rw [zip_fst hlen]; simp) (by rw [zip_snd hlen]; simpa [Function.comp_def] using r1)
    (e := elT P t) (fun e' s b i hk => by simp [elT, hk]) k1
  have hrun : (execOp ρ o).run P w = .ok (.value u) w' := by
    have e : (parts.toArray.map fun (i, x) => (i, ρ x)) = (parts.map fun p => (p.1, ρ p.2)).toArray := by simp
    simp only [execOp, ho, Sem.run_bind]
    rw [e, e1]
    rfl
  rw [hrun]
  exact ⟨g2, d, S2, l1.trans l2, R2, e2, e3⟩
def opA (P : Program) (w0 : W0) (op : Op) (fr : List DV) (S : St) (K : DV → St → Prop) : Prop := match op with
  | .buildSlice t len parts => shrs S (parts.toList.map fun p => ev fr p.2) fun ds S => vBuildSlice (tk P t) (zD P (elT P t)) len ((parts.toList.map (·.1)).zip ds) fun d => arrK d S K
  | op => vcOp P w0 op fr S K
def vcLA (P : Program) (w0 : W0) (ops : Array Oper) (K : List DV → St → Prop) : List Oper → List DV → St → Prop
  | [], fr, S => K fr S
  | o :: rest, fr, S => guardK ops fr o.guard (fun fr => opA P w0 o.op fr S fun d S' => vcLA P w0 ops K rest (pt fr o.dst d) S') (fun fr => vcLA P w0 ops K rest (pt fr o.dst ud) S)
theorem opA_sound {o : Oper} {fr : List DV} {S : St} {K : DV → St → Prop} (hs : okSl o.op = true) (h : opA P w0 o.op fr S K) : YieldsE P w0 o (ev fr) S K := by
  cases hop : o.op with
  | buildSlice t len parts => rw [hop] at h; exact y_buildArr (parts := parts.toList) (by simpa using hop) h
  | _ => rw [hop] at h; exact vcOp_sound hs (by rw [hop]; exact h)
theorem vcLA_sound {ops : Array Oper} {K : List DV → St → Prop} : ∀ (l : List Oper) {fr : List DV} {S : St}, l.all (fun o => okSl o.op) = true → vcLA P w0 ops K l fr S → LWp P w0 ops K l fr S
  | [], fr, S, _, h => h
  | o :: rest, fr, S, hs, h => by
    simp only [List.all_cons, Bool.and_eq_true] at hs
    refine guardK_mono (fun fr h => ?_) (fun fr h => vcLA_sound rest hs.2 h) h
    exact yields_mono (fun d S h => vcLA_sound rest hs.2 h) (opA_sound hs.1 h)
/-- A region in which what is built may grow. -/
theorem arrR {id : Nat} {l : List Oper} {fr : List DV} {S : St} {Q : Exit → List DV → St → Prop} (hs : l.all (fun o => okSl o.op) = true) (h : vcLA P w0 l.toArray (fun fr S => normF fr fun fr => Q .normal fr S) l fr S) : AWp P w0 (.region id l.toArray false) fr S Q :=
  awp_region (vcLA_sound l hs h)
section
variable {ops : Array Oper} {fr : List DV} {S : St} {rest : List Oper} {dst : Option Tmp} {op : Op} {ty : TypeId} {pos : String} {aft : Array Edge} {K : List DV → St → Prop} {K2 : DV → St → Prop}
theorem a_nil : vcLA P w0 ops K [] fr S = K fr S := rfl
theorem a_none : vcLA P w0 ops K (⟨dst, op, ty, pos, aft, none⟩ :: rest) fr S = opA P w0 op fr S fun d S' => vcLA P w0 ops K rest (pt fr dst d) S' := rfl
theorem a_load (t : TypeId) (x : Operand) : opA P w0 (.load t x) fr S K2 = vcOp P w0 (.load t x) fr S K2 := rfl
theorem a_assign (x : Operand) : opA P w0 (.assign x) fr S K2 = vcOp P w0 (.assign x) fr S K2 := rfl
theorem a_buildSlice (t : TypeId) (len : Nat) (parts : List (Nat × Operand)) : opA P w0 (.buildSlice t len parts.toArray) fr S K2 = (shrs S (parts.map fun p => ev fr p.2) fun ds S => vBuildSlice (tk P t) (zD P (elT P t)) len ((parts.map (·.1)).zip ds) fun d => arrK d S K2) := rfl
theorem a_arrK (s : Nat) (xs : List DV) : arrK (.sl s true xs) S K2 = ∀ l : FN S.acc, K2 (.acc l.n xs.length) ⟨S.box, (l.n, .arr s xs) :: S.acc⟩ := n_fresh S.acc fun l => K2 (.acc l xs.length) ⟨S.box, (l, .arr s xs) :: S.acc⟩
@[congr] theorem c_opA {fr' : List DV} {S' : St} (h1 : fr = fr') (h2 : S = S') : opA P w0 op fr S K2 = opA P w0 op fr' S' K2 := by cases h1; cases h2; rfl
@[congr] theorem c_vcLA {l : List Oper} {fr' : List DV} {S' : St} (h1 : fr = fr') (h2 : S = S') : vcLA P w0 ops K l fr S = vcLA P w0 ops K l fr' S' := by cases h1; cases h2; rfl
@[congr] theorem c_arrK {d d' : DV} {S' : St} (h1 : d = d') (h2 : S = S') : arrK d S K2 = arrK d' S' K2 := by cases h1; cases h2; rfl
end
end
attribute [go_sem ↓] a_nil a_none a_load a_assign a_buildSlice a_arrK
end Aml

namespace Aml
open Go Go.RowKit
set_option linter.unusedVariables false
set_option linter.unusedSimpArgs false
section
variable {P : Program} {w0 : W0}
theorem clear_ok {g : Gh} {S : St} {w : World} (h1 : Rel w0 g S w) {l : Nat} {xs : List DV} (hl : lk S.acc l = some (.arr 1 xs)) {b c : Nat} (hval : g.acc l xs.length = some (.slice (some ⟨b, 0, none⟩) xs.length c)) {k : Nat} (hk : k < xs.length)
    {t e ty : TypeId} {z : Value} (hu : P.underlying t = some (.slice e)) (hv : ∀ w, (zeroValue e).run P w = .ok z w) (hz : z.cells = #[z]) (hz1 : z.oneCell' = true) {zd : DV} (hrz : Rep g zd z) (c' : Nat) :
    ∃ w', (Builtin.clear_ #[t] ty #[.slice (some ⟨b, k, none⟩) (xs.length - k) c']).run P w = .ok (.tuple #[]) w' ∧ Rel w0 g ⟨S.box, up S.acc l (.arr 1 (xs.take k ++ List.replicate (xs.length - k) zd))⟩ w' := by
  obtain ⟨ow, hO⟩ := h1.open_
  obtain ⟨hs, ⟨he, o2, ha⟩ | ⟨b', c0, cs, e0, q1, q2, q3, q4, q5, q6, q7, q8, qA, us, q9, q10, q11, q12⟩⟩ := hO.acc l _ (lk_mem hl)
  · rw [he] at hk; simp at hk
  have hval' := hval
  rw [q1] at hval'
  simp only [Option.some.injEq, Value.slice.injEq, Addr.mk.injEq, true_and, and_true] at hval'
  obtain ⟨rfl, rfl⟩ := hval'
  have hzc : (Builtin.zeroCells z.cells (xs.length - k)).toList = List.replicate (xs.length - k) z := by
    rw [hz]
    simp [Builtin.zeroCells]
    apply List.ext_getElem
    · simp
    · intro i h1 h2
      simp [Nat.mod_one]
  obtain ⟨m, hm⟩ : ∃ m, m + 1 = xs.length - k := ⟨xs.length - k - 1, by omega⟩
  have hul : us.length = xs.length := q9.len.symm
  have hst := run_storeCells_at (P := P) b' k e0 (List.replicate (xs.length - k) z) 0 cs w q5 (by simp; omega) (fun u hu => by rw [List.eq_of_mem_replicate hu]; exact hz1)
  have hle2 : k + (List.replicate (xs.length - k) z).length ≤ cs.toList.length := by simp; omega
  refine ⟨w.setRow b' (setAllV cs.toList k (List.replicate (xs.length - k) z)).toArray, ?_, ?_⟩
  · rw [setAllV_eq _ _ _ hle2]
    simp only [Nat.add_zero] at hst
    rw [← hm] at hst hzc ⊢
    simp [Builtin.clear_, run_underlying hu, hv, hzc, hst]
  · have hxs : (xs.take k ++ List.replicate (xs.length - k) zd).length = xs.length := by simp; omega
    refine h1.rearr (ys := xs.take k ++ List.replicate (xs.length - k) zd) (us := us.take k ++ List.replicate (xs.length - k) z) (b := b') (c := c0) (e := e0) (cs := (setAllV cs.toList k (List.replicate (xs.length - k) z)).toArray) hl hval hxs (by omega) ?_ ?_ ?_ ?_ ?_ ?_ ?_ ?_ ?_ ?_
    · exact setRow_heap w b' cs _ e0 (0, 0) q5
    · rw [List.size_toArray, setAllV_eq _ _ _ hle2]
      simp only [List.length_append, List.length_take, List.length_drop, Array.length_toList]
      simp only [Array.length_toList] at hle2
      rw [← q6]; omega
    · exact h1.below.step ⟨rfl, rfl, rfl, by simp, fun k hk => setRow_other w b' k _ (by omega)⟩ b' (nc_cells q5) fun k _ hne => setRow_other w b' k _ hne
    · simp
    · intro k _ hkb; exact setRow_other w b' k _ hkb
    · refine RepL.append ?_ ?_
      · exact ⟨by simp [hul], fun i d u a1 a2 => by
          rw [List.getElem?_take] at a1 a2
          split at a1
          · rename_i hlt; rw [if_pos hlt] at a2; exact q9.at_ i d u a1 a2
          · cases a1⟩
      · exact ⟨by simp, fun i d u a1 a2 => by
          rw [List.getElem?_replicate] at a1 a2
          split at a1
          · rename_i hlt; rw [if_pos hlt] at a2; cases a1; cases a2; exact hrz
          · cases a1⟩
    · intro j u hj
      rcases List.mem_append.1 (List.mem_of_getElem? hj) with hu | hu
      · obtain ⟨i, hi⟩ := List.mem_iff_getElem?.1 (List.mem_of_mem_take hu)
        exact q10 i u hi
      · rw [List.eq_of_mem_replicate hu, hz]; rfl
    · intro u hu x hx
      rcases List.mem_append.1 hu with hu | hu
      · exact q11 u (List.mem_of_mem_take hu) x hx
      · rw [List.eq_of_mem_replicate hu, hz] at hx
        simp only [List.mem_singleton] at hx
        subst hx; exact hz1
    · intro i u j x hi2 hj
      rw [List.getElem?_toArray, get_setAllV hle2]
      rcases Nat.lt_or_ge i k with hik | hik
      · rw [List.getElem?_append_left (by simp; omega), List.getElem?_take, if_pos hik] at hi2
        have hjs : j < 1 := by rw [← q10 i u hi2]; exact (Array.getElem?_eq_some_iff.1 hj).1
        rw [if_neg (by simp; omega)]
        simpa using q12 i u j x hi2 hj
      · have hlk : (us.take k).length = k := by simp; omega
        rw [List.getElem?_append_right (by omega), hlk, List.getElem?_replicate] at hi2
        split at hi2
        · rename_i hlt
          cases hi2
          rw [hz] at hj
          have hj0 : j = 0 := by
            have := (Array.getElem?_eq_some_iff.1 hj).1
            simp at this; omega
          subst hj0
          rw [if_pos (by simp; omega), List.getElem?_replicate, if_pos (by omega)]
          simpa using hj
        · cases hi2
    · intro x hx
      rw [List.toList_toArray, setAllV_eq _ _ _ hle2] at hx
      rcases List.mem_append.1 hx with hx | hx
      · rcases List.mem_append.1 hx with hx | hx
        · exact qA x (List.mem_of_mem_take hx)
        · rw [List.eq_of_mem_replicate hx]; exact hz1
      · exact qA x (List.mem_of_mem_drop hx)
/-- 'clear(s[k:])' of a growing slice. -/
theorem clearR {id : Nat} {i p q r j : Nat} {t t1 t2 t3 t4 : TypeId} {s1 s2 s3 s4 : String} {a1 a2 a3 a4 : Array Edge} {fr : List DV} {S : St} {Q : Exit → List DV → St → Prop} {l k : Nat} {xs : List DV} {kk : IntKind} {e by' : Nat} {zd : Value}
    (hk : tk P t = .sl e 1 by' true) (hz : zD P e = .v zd) (hi : fr[i]? = some (.acc l xs.length)) (hj : fr[j]? = some (.v (.int kk k))) (hl : lk S.acc l = some (.arr 1 xs)) (hkx : k < xs.length)
    (hs : (decide (j ≠ i) && decide (j ≠ p) && decide (q ≠ p) && decide (i ≠ p) && decide (i ≠ q) && decide (i ≠ r)) = true) (hp : p < fr.length) (hq : q < fr.length) (hr : r < fr.length)
    (h : ∀ v u, Q .normal (((((fr.set i (.v v)).set p (.v v)).set q (.v (.int kk k))).set r (.v u)).set i (.acc l xs.length)) ⟨S.box, up S.acc l (.arr 1 (xs.take k ++ List.replicate (xs.length - k) (.v zd)))⟩) :
    AWp P w0 (.region id #[⟨some p, .move (.tmp i), t1, s1, a1, none⟩, ⟨some q, .move (.tmp j), t2, s2, a2, none⟩, ⟨some r, .slice t (.tmp p) (some (.tmp q)) none none, t3, s3, a3, none⟩, ⟨none, .call ⟨.builtin .clear, #[.tmp r], #[t]⟩, t4, s4, a4, none⟩] false) fr S Q := by
  simp only [Bool.and_eq_true, decide_eq_true_eq] at hs
  obtain ⟨⟨⟨⟨⟨n1, n2⟩, n3⟩, n4⟩, n5⟩, n6⟩ := hs
  intro g a w h1 h2 h3
  have hilt : i < fr.length := (List.getElem?_eq_some_iff.1 hi).1
  have hjlt : j < fr.length := (List.getElem?_eq_some_iff.1 hj).1
  have hlen : fr.length = a.tmps.toList.length := h2.len
  have hri := h2.at_ i _ _ hi (List.getElem?_eq_getElem (by omega))
  obtain ⟨v, hv⟩ : ∃ v, v = a.tmps.toList[i]'(by omega) := ⟨_, rfl⟩
  rw [← hv] at hri
  obtain ⟨b, c, hval, hve⟩ : ∃ b c, g.acc l xs.length = some (.slice (some ⟨b, 0, none⟩) xs.length c) ∧ v = .slice (some ⟨b, 0, none⟩) xs.length c ∧ xs.length ≤ c := by
    obtain ⟨ow, hO⟩ := h1.open_
    obtain ⟨hs, ⟨he, o2, ha⟩ | ⟨b', c0, cs, e0, q1, q2, q3, q4, q5, q6, q7, q8, qA, us, q9, q10, q11, q12⟩⟩ := hO.acc l _ (lk_mem hl)
    · rw [he] at hkx; simp at hkx
    · refine ⟨b', c0, q1, ?_, q7⟩
      cases hri with
      | acc _ _ o c h => rw [q1] at h; exact (Option.some.inj h).symm
  obtain ⟨hve, hnc⟩ := hve
  let w1 : W0 := ⟨w0.w, g⟩
  have hsub : ∀ (g : Gh), g.sub g := fun g => ⟨fun _ _ _ h => h, fun _ _ _ h => h, fun _ _ h => h⟩
  have R1 : Rel w1 g S w := h1.withObj (w0' := w1) (ob := g.obj) rfl h1.below.obj (hsub g)
  have ho : v.oneCell' = true := by rw [hve]; rfl
  have h2' : RepL g (fr.set i (.v v)) a.tmps.toList := repL_same h2 (by rw [hv]; exact List.getElem?_eq_getElem (by omega)) (.v _ ho)
  obtain ⟨hu, hss, _, hei⟩ := tk_sl hk
  obtain ⟨ti, z, hii, hzz, hzs, hpos⟩ := okEl_spec hei
  have hsz : ti.size = 1 := by simpa [Program.cellsOf, hii] using hss
  have hzD : zD P e = cv z := by simp [zD, hii, hzz]
  have hzv : z = zd := by
    have hr := rep_cv g z
    rw [← hzD, hz] at hr
    exact rep_v hr
  have hz1 : zd.oneCell' = true ∧ zd.cells = #[zd] := by
    have hr := rep_cv g z
    rw [← hzD, hz] at hr
    have hone := hr.one rfl
    rw [← hzv]
    rw [hsz] at hzs
    cases hr with
    | v _ h => rw [hzv]; exact ⟨h, by cases zd <;> first | rfl | cases h⟩
  have hrun := fun (w : World) => (show (zeroValue e).run P w = .ok zd w by simp [zeroValue, typeInfo, hii, hzz, hzv])
  have hsize : ∀ w, (Go.sizeOf e).run P w = .ok 1 w := fun w => by simp [Go.sizeOf, typeInfo, hii, hsz]
  -- the walk
  have g1 : (fr.set i (.v v)).getD i ud = .v v := by simp [List.getD_eq_getElem?_getD, hilt]
  have g2 : ((fr.set i (.v v)).set p (.v v)).getD j ud = .v (.int kk k) := by
    rw [List.getD_eq_getElem?_getD, List.getElem?_set_ne (fun e => n2 e.symm), List.getElem?_set_ne (fun e => n1 e.symm), hj]; rfl
  have g3 : (((fr.set i (.v v)).set p (.v v)).set q (.v (.int kk k))).getD p ud = .v v := by
    rw [List.getD_eq_getElem?_getD, List.getElem?_set_ne n3, List.getElem?_set_self (by simpa using hp)]; rfl
  have g4 : (((fr.set i (.v v)).set p (.v v)).set q (.v (.int kk k))).getD q ud = .v (.int kk k) := by
    rw [List.getD_eq_getElem?_getD, List.getElem?_set_self (by simpa using hq)]; rfl
  have g5 : ∀ x, ((((fr.set i (.v v)).set p (.v v)).set q (.v (.int kk k))).set r x).getD r ud = x := fun x => by
    rw [List.getD_eq_getElem?_getD, List.getElem?_set_self (by simpa using hr)]; rfl
  have L : ∀ ops : Array Oper, LWp P w1 ops (fun fr' S' => fr'[i]? = some (.v v) ∧ Q .normal (fr'.set i (.acc l xs.length)) S') [⟨some p, .move (.tmp i), t1, s1, a1, none⟩, ⟨some q, .move (.tmp j), t2, s2, a2, none⟩, ⟨some r, .slice t (.tmp p) (some (.tmp q)) none none, t3, s3, a3, none⟩, ⟨none, .call ⟨.builtin .clear, #[.tmp r], #[t]⟩, t4, s4, a4, none⟩] (fr.set i (.v v)) S := by
    intro ops
    refine y_move (P := P) rfl ?_
    show LWp P w1 ops _ _ ((fr.set i (.v v)).set p ((fr.set i (.v v)).getD i ud)) S
    rw [g1]
    refine y_move (P := P) rfl ?_
    show LWp P w1 ops _ _ (((fr.set i (.v v)).set p (.v v)).set q (((fr.set i (.v v)).set p (.v v)).getD j ud)) S
    rw [g2]
    show YieldsE P w1 _ _ S _
    intro ga wa ρ ra rb rc
    have hx := rb (.tmp p) (by simp [Op.operands])
    have hy := rb (.tmp q) (by simp [Op.operands])
    change Rep ga ((((fr.set i (.v v)).set p (.v v)).set q (.v (.int kk k))).getD p ud) _ at hx
    change Rep ga ((((fr.set i (.v v)).set p (.v v)).set q (.v (.int kk k))).getD q ud) _ at hy
    rw [g3] at hx
    rw [g4] at hy
    have hx := rep_v hx
    have hy := rep_v hy
    have hb : (Instr.sliceBounds true xs.length c (some (.int kk (k : Int))) none none).run P wa = .ok (k, xs.length, c) wa := by
      have : (Instr.sliceBound (.int kk (k : Int)) xs.length .sliceB).run P wa = .ok k wa := by
        have := run_bound (P := P) (k := kk) (i := (k : Int)) (y := xs.length) (code := .sliceB) (w := wa) (by omega) (by omega)
        simpa using this
      simp [Instr.sliceBounds, this]
    have hck : ¬ c = k := by omega
    have hrun3 : (execOp ρ ⟨some r, .slice t (.tmp p) (some (.tmp q)) none none, t3, s3, a3, none⟩).run P wa = .ok (.value (.slice (some ⟨b, k, none⟩) (xs.length - k) (c - k))) wa := by
      simp [execOp, hx, hve, Instr.sliceAt, Instr.slice, run_underlying hu, hy, hb, hsize, hck, Addr.add] <;> omega
    rw [hrun3]
    refine ⟨ga, .v (.slice (some ⟨b, k, none⟩) (xs.length - k) (c - k)), S, .refl ga, ra, .v _ rfl, ?_⟩
    show YieldsE P w1 _ _ S _
    intro gb wb ρ2 ra2 rb2 rc2
    have hx2 := rb2 (.tmp r) (by simp [Op.operands, Call.operands])
    change Rep gb (((((fr.set i (.v v)).set p (.v v)).set q (.v (.int kk k))).set r _).getD r ud) _ at hx2
    rw [g5] at hx2
    have hx2 := rep_v hx2
    obtain ⟨w', e1, e2⟩ := clear_ok (P := P) (ty := t4) ra2 hl (ra2.below.req.acc _ _ _ hval) hkx hu hrun hz1.2 hz1.1 (zd := .v zd) (.v _ hz1.1) (c - k)
    have hrun4 : (execOp ρ2 ⟨none, .call ⟨.builtin .clear, #[.tmp r], #[t]⟩, t4, s4, a4, none⟩).run P wb = .ok (.value (.tuple #[])) w' := by
      simp [execOp, resolve, invoke, builtin, hx2, e1]
    rw [hrun4]
    refine ⟨gb, .any, _, .refl gb, e2, .any _, ?_, h _ _⟩
    show (((((fr.set i (.v v)).set p (.v v)).set q (.v (.int kk k))).set r _)[i]? : Option DV) = _
    rw [List.getElem?_set_ne (fun e => n6 e.symm), List.getElem?_set_ne (fun e => n5 e.symm), List.getElem?_set_ne (fun e => n4 e.symm), List.getElem?_set_self hilt]
  refine wpA_mono (wpA_region_lit fun ro => lwp_sound (w0 := w1) (Q := fun e fr' S' => fr'[i]? = some (.v v) ∧ Q e (fr'.set i (.acc l xs.length)) S') _ _ S g a w (.refl g) R1 h2' h3 (L _)) ?_
  rintro e' a' w' ⟨hd, g', fr', S', k1, k2, k3, k5, k4⟩
  have hb0 : w0.gh.sub g' := ⟨fun _ _ _ h => k2.below.req.imm _ _ _ (h1.below.req.imm _ _ _ h), fun _ _ _ h => k2.below.req.acc _ _ _ (h1.below.req.acc _ _ _ h), fun _ _ h => k2.below.req.obj _ _ (h1.below.req.obj _ _ h)⟩
  refine ⟨hd, g', fr'.set i (.acc l xs.length), S', k1, k2.withObj (w0' := w0) (ob := g'.obj) rfl k2.below.obj hb0, ?_, k4⟩
  have hlt' : i < a'.tmps.toList.length := by rw [← k3.len]; exact (List.getElem?_eq_some_iff.1 k5).1
  have hu' := List.getElem?_eq_getElem hlt'
  have hvi := rep_v (k3.at_ i _ _ k5 hu')
  refine repL_same k3 hu' ?_
  rw [hvi, hve]
  exact .acc _ _ _ _ (k1.acc _ _ _ hval)
end
end Aml

namespace Aml
open Go Go.RowKit
set_option linter.unusedVariables false
set_option linter.unusedSimpArgs false

/-- Which of the remaining ones may come: the first, the second, either. -/
inductive Tr where
  | leaf | head (t : Tr) | snd (t : Tr) | both (t u : Tr)
def vwT (P : Program) (w0 : W0) (K : List DV → St → Prop) : Tr → List Oper → List DV → St → Prop
  | .leaf, [], fr, S => K fr S
  | .head t, o :: r, fr, S => vcOp P w0 o.op fr S fun d S' => vwT P w0 K t r (pt fr o.dst d) S'
  | .snd t, p :: o :: r, fr, S => vcOp P w0 o.op fr S fun d S' => vwT P w0 K t (p :: r) (pt fr o.dst d) S'
  | .both t u, p :: o :: r, fr, S => (vcOp P w0 p.op fr S fun d S' => vwT P w0 K t (o :: r) (pt fr p.dst d) S') ∧ vcOp P w0 o.op fr S fun d S' => vwT P w0 K u (p :: r) (pt fr o.dst d) S'
  | _, _, _, _ => False
section
variable {P : Program} {w0 : W0}
section
variable {K : List DV → St → Prop} {fr : List DV} {S : St} {t u : Tr} {o p : Oper} {r : List Oper} {dst dst2 : Option Tmp} {op op2 : Op} {ty ty2 : TypeId} {pos pos2 : String} {aft aft2 : Array Edge}
@[congr] theorem c_vwT {fr' : List DV} {S' : St} (h1 : fr = fr') (h2 : S = S') : vwT P w0 K t r fr S = vwT P w0 K t r fr' S' := by cases h1; cases h2; rfl
end
end
end Aml

namespace Aml
open Go Go.RowKit
set_option linter.unusedVariables false
set_option linter.unusedSimpArgs false
section
variable {P : Program} {w0 : W0}
/-- What is made is frozen, its own objects forgotten. -/
theorem yields_q {o : Oper} {ρD : Operand → DV} {S : St} {r : DV} (h : YieldsE P w0 o ρD S fun d S' => shr S' d fun d' S'' => d' = r ∧ Sub S S'') : YieldsE P w0 o ρD S fun d S' => d = r ∧ S' = S := by
  intro g w ρ h1 h2 hcst
  have := h g w ρ h1 h2 hcst
  split at this
  · obtain ⟨g', d, S', a, b, c, e⟩ := this
    obtain ⟨g2, d2, S2, q1, q2, q3, q4, q5⟩ := shr_ok b c e
    exact ⟨g2, d2, S, a.trans q1, q2.forget q5.box q5.acc, q3, q4, rfl⟩
  · obtain ⟨g', S', a, b, e⟩ := this
    have e : ud = r ∧ Sub S S' := e
    exact ⟨g', S, a, b.forget e.2.box e.2.acc, e.1, rfl⟩
  · refine this.mono ?_
    rintro e w'' ⟨r', g', d, S', a, b, c, x, y⟩
    obtain ⟨g2, d2, S2, q1, q2, q3, q4, q5⟩ := shr_ok c x y
    exact ⟨r', g2, d2, S, a, b.trans q1, q2.forget q5.box q5.acc, q3, q4, rfl⟩
  · refine fun ro => (this ro).mono ?_
    rintro e w'' ⟨r', g', d, S', a, b, c, x, y⟩
    obtain ⟨g2, d2, S2, q1, q2, q3, q4, q5⟩ := shr_ok c x y
    exact ⟨r', g2, d2, S, a, b.trans q1, q2.forget q5.box q5.acc, q3, q4, rfl⟩
  · exact this
def vMakeQ (k : TK) (z x y : DV) (K : DV → Prop) : Prop := match k, x, y with
  | .sl _ s by' true, .v (.int _ n), .v (.int _ m) => okE z = true ∧ 0 ≤ n ∧ n ≤ m ∧ m * by' ≤ 140737488355328 ∧ m ≤ 9223372036854775807 ∧ K (.sl s false (List.replicate n.toNat z))
  | _, _, _ => False
def vConvZ (a b ke : TK) (x : DV) (K : DV → Prop) : Prop := match a, b, x with
  | .sl _ _ _ _, .str, .sl s _ xs => ke = .int .u8 ∧ s = 1 ∧ okBy xs = true ∧ K (.v (.string (strOfNums (byD xs))))
  | a, b, x => vConv a b x K
def opZ (P : Program) (w0 : W0) (op : Op) (fr : List DV) (S : St) (K : DV → Prop) : Prop := match op with
  | .makeSlice t x y => vMakeQ (tk P t) (zD P (elT P t)) (ev fr x) (ev fr y) K
  | .convert s d x => vConvZ (tk P s) (tk P d) (tk P (elT P s)) (ev fr x) K
  | op => vcOpQ P w0 op fr S K
def isQZ : Op → Bool
  | .makeSlice .. => true
  | op => isQ op
def LZ (P : Program) (w0 : W0) (S : St) (ops : Array Oper) (K : List DV → St → Prop) : List Oper → List DV → Prop
  | [], fr => K fr S
  | o :: rest, fr => selK (isQZ o.op) (guardK ops fr o.guard (fun fr => opZ P w0 o.op fr S fun d => LZ P w0 S ops K rest (pt fr o.dst d)) (fun fr => LZ P w0 S ops K rest (pt fr o.dst ud))) (vcL P w0 ops K (o :: rest) fr S)
theorem opZ_sound {o : Oper} {fr : List DV} {S : St} {K : DV → Prop} (hs : okSl o.op = true) (h : opZ P w0 o.op fr S K) : ∃ d, QY P w0 S o fr d ∧ K d := by
  cases hop : o.op with
  | makeSlice t x y =>
    rw [hop] at h
    simp only [opZ, vMakeQ] at h
    split at h
    · rename_i e s by' k1 n k2 m hk hx hy
      obtain ⟨q1, q2, q3, q4, q5, q6⟩ := h
      refine ⟨_, yields_q (y_makeSlice hop ?_), q6⟩
      rw [hk, hx, hy]
      refine ⟨q1, q2, q3, q4, q5, fun l hl => ?_⟩
      show shr _ _ _
      unfold shr shr1
      simp only [lk, if_true, List.length_replicate, true_and]
      exact ⟨List.Sublist.refl _, by show List.Sublist S.acc (up _ _ _); simp only [up, if_true]; exact List.sublist_cons_self _ _⟩
    · exact h.elim
  | convert s d x =>
    rw [hop] at h hs
    simp only [opZ, vConvZ] at h
    split at h
    · rename_i e c b i s0 f xs hk hd hx
      obtain ⟨q1, q2, q3, q4⟩ := h
      refine ⟨_, y_convS (K := fun d S' => d = _ ∧ S' = S) hop ?_, q4⟩
      rw [hk, hd, hx]
      exact ⟨q1, rfl, q2, q3, rfl, rfl⟩
    · exact vcOpQ_sound (by rw [hop]; exact hs) (by rw [hop]; exact h)
  | _ => rw [hop] at h hs; exact vcOpQ_sound (by rw [hop]; exact hs) (by rw [hop]; exact h)
section
variable {ops : Array Oper} {K : List DV → St → Prop} {K2 : DV → Prop} {fr : List DV} {S : St} {r : List Oper} {dst : Option Tmp} {op : Op} {ty : TypeId} {pos : String} {aft : Array Edge}
theorem z_make (t : TypeId) (x y : Operand) : opZ P w0 (.makeSlice t x y) fr S K2 = vMakeQ (tk P t) (zD P (elT P t)) (ev fr x) (ev fr y) K2 := rfl
theorem z_conv (s d : TypeId) (x : Operand) : opZ P w0 (.convert s d x) fr S K2 = vConvZ (tk P s) (tk P d) (tk P (elT P s)) (ev fr x) K2 := rfl
theorem z_vmake (e s b : Nat) (z : DV) (k1 k2 : IntKind) (n m : Int) : vMakeQ (.sl e s b true) z (.v (.int k1 n)) (.v (.int k2 m)) K2 = (okE z = true ∧ 0 ≤ n ∧ n ≤ m ∧ m * b ≤ 140737488355328 ∧ m ≤ 9223372036854775807 ∧ K2 (.sl s false (List.replicate n.toNat z))) := rfl
theorem z_vconv (e c b : Nat) (i : Bool) (ke : TK) (s : Nat) (f : Bool) (xs : List DV) : vConvZ (.sl e c b i) .str ke (.sl s f xs) K2 = (ke = .int .u8 ∧ s = 1 ∧ okBy xs = true ∧ K2 (.v (.string (strOfNums (byD xs))))) := rfl
@[congr] theorem c_LZ {fr' : List DV} (h1 : fr = fr') : LZ P w0 S ops K r fr = LZ P w0 S ops K r fr' := by cases h1; rfl
@[congr] theorem c_opZ {fr' : List DV} (h1 : fr = fr') : opZ P w0 op fr S K2 = opZ P w0 op fr' S K2 := by cases h1; rfl
@[congr] theorem c_vMakeQ {k k' : TK} {z z' x x' y y' : DV} (h1 : k = k') (h2 : z = z') (h3 : x = x') (h4 : y = y') : vMakeQ k z x y K2 = vMakeQ k' z' x' y' K2 := by cases h1; cases h2; cases h3; cases h4; rfl
@[congr] theorem c_vConvZ {k k' q q' ke ke' : TK} {x x' : DV} (h1 : k = k') (h2 : q = q') (h3 : ke = ke') (h4 : x = x') : vConvZ k q ke x K2 = vConvZ k' q' ke' x' K2 := by cases h1; cases h2; cases h3; cases h4; rfl
end
end
attribute [go_sem ↓] z_make z_conv
attribute [go_sem] z_vmake z_vconv isQZ
end Aml
