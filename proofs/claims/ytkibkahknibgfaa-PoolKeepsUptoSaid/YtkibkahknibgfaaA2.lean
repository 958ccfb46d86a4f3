/-
  The abstract walk: what a piece of code does to abstract frames and stores; rules for control, regions and calls. By an AI agent.
-/
import Derived.Test.YtkibkahknibgfaaA1
namespace Aml
open Go Go.RowKit
set_option linter.unusedVariables false
set_option linter.unusedSimpArgs false

def cv0 : Value → DV
  | .slice none 0 0 => .sl 0 true []
  | .agg _ => .any
  | .tuple _ => .any
  | u => .v u
def cv : Value → DV
  | .agg cs => if cs.toList.all (fun u => u.oneCell') then .agg (cs.toList.map cv0) else .any
  | .tuple _ => .any
  | u => cv0 u
theorem rep_cv0 (g : Gh) (u : Value) : Rep g (cv0 u) u := by
  unfold cv0
  split
  · exact .nil _ _ _ _ (fun _ => rfl)
  · exact .any _
  · exact .any _
  · rename_i h1 h2 h3
    refine .v _ ?_
    cases u <;> simp_all [Value.oneCell']
theorem repL_cv0 (g : Gh) (us : List Value) : RepL g (us.map cv0) us := by
  induction us with
  | nil => exact RepL.nil g
  | cons u us ih => exact RepL.cons (rep_cv0 g u) ih
theorem rep_cv (g : Gh) (u : Value) : Rep g (cv u) u := by
  unfold cv
  split
  · rename_i cs
    split
    · rename_i h
      have := Rep.agg (g := g) (cs.toList.map cv0) cs.toList (by simp) (repL_cv0 g cs.toList).at_ (fun u hu => List.all_eq_true.1 h u hu)
      simpa using this
    · exact .any _
  · exact .any _
  · exact rep_cv0 g _

/-- What an operand is. -/
def ev (fr : List DV) : Operand → DV
  | .tmp t => fr.getD t ud
  | .const u => cv u
  | .global n => .v (.pointer (some ⟨n, 0, none⟩))
  | .func f => .v (.func (.func f) #[] #[])
def pt (fr : List DV) : Option Tmp → DV → List DV
  | some t, d => fr.set t d
  | none, _ => fr

theorem rep_ev {g : Gh} {fr : List DV} {a : Act} (h : RepL g fr a.tmps.toList) (x : Operand) : Rep g (ev fr x) (a.eval x) := by
  cases x with
  | tmp t =>
    have := h.getD t
    simpa [ev, Act.eval] using this
  | const u => exact rep_cv g u
  | global n => exact .v _ rfl
  | func f => exact .v _ rfl
theorem repL_put {g : Gh} {fr : List DV} {a : Act} (h : RepL g fr a.tmps.toList) (t : Option Tmp) {d : DV} {u : Value} (r : Rep g d u) : RepL g (pt fr t d) (a.put t u).tmps.toList := by
  cases t with
  | none => exact h
  | some t => simpa [pt, Act.put] using h.set t r
theorem put_defers (a : Act) (t : Option Tmp) (u : Value) : (a.put t u).defers = a.defers := by cases t <;> rfl

theorem rep_bool {g : Gh} {b : Bool} {u : Value} (r : Rep g (.v (.bool b)) u) : u = .bool b := by cases r; rfl

section
variable (P : Program) (w0 : World)

def Good (g : Gh) (Q : Exit → List DV → St → Prop) (e : Exit) (a : Act) (w : World) : Prop :=
  a.defers = [] ∧ ∃ g' fr S, g.le g' ∧ Rel w0 g' S w ∧ RepL g' fr a.tmps.toList ∧ Q e fr S

def AWp (c : Code) (fr : List DV) (S : St) (Q : Exit → List DV → St → Prop) : Prop :=
  ∀ g a w, Rel w0 g S w → RepL g fr a.tmps.toList → a.defers = [] → c.wp P (Good w0 g Q) a w

/-- Calling f with these abstract arguments gives an abstract result and store of which K holds. -/
def ACall (f : FuncId) (args : List DV) (S : St) (K : DV → St → Prop) : Prop :=
  ∀ g (vs : Array Value) w, Rel w0 g S w → RepL g args vs.toList → Calls P f vs w fun e w' => ∃ r g' d S', e = .returned r ∧ g.le g' ∧ Rel w0 g' S' w' ∧ Rep g' d r ∧ K d S'

def thenQ (next : List DV → St → Prop) (Q : Exit → List DV → St → Prop) : Exit → List DV → St → Prop
  | .normal, fr, S => next fr S
  | e, fr, S => Q e fr S
def blockQ (id : Nat) (Q : Exit → List DV → St → Prop) : Exit → List DV → St → Prop
  | .exit id', fr, S => if id' = id then Q .normal fr S else Q (.exit id') fr S
  | e, fr, S => Q e fr S

variable {P} {w0}
theorem Good.mono {g : Gh} {Q Q' : Exit → List DV → St → Prop} (h : ∀ e fr S, Q e fr S → Q' e fr S) {e : Exit} {a : Act} {w : World} (hg : Good w0 g Q e a w) : Good w0 g Q' e a w :=
  let ⟨hd, g', fr, S, h1, h2, h3, h4⟩ := hg
  ⟨hd, g', fr, S, h1, h2, h3, h _ _ _ h4⟩
theorem Good.of_le {g g' : Gh} (k : g.le g') {Q : Exit → List DV → St → Prop} {e : Exit} {a : Act} {w : World} (hg : Good w0 g' Q e a w) : Good w0 g Q e a w :=
  let ⟨hd, g'', fr, S, h1, h2, h3, h4⟩ := hg
  ⟨hd, g'', fr, S, k.trans h1, h2, h3, h4⟩

theorem ACall.mono {f : FuncId} {args : List DV} {S : St} {K K' : DV → St → Prop} (h : ACall P w0 f args S K) (hk : ∀ d S', K d S' → K' d S') : ACall P w0 f args S K' :=
  fun g vs w h1 h2 => (h g vs w h1 h2).mono fun e w' ⟨r, g', d, S', a, b, c, x, y⟩ => ⟨r, g', d, S', a, b, c, x, hk _ _ y⟩
theorem AWp.mono {c : Code} {fr : List DV} {S : St} {Q Q' : Exit → List DV → St → Prop} (h : AWp P w0 c fr S Q) (hq : ∀ e fr S, Q e fr S → Q' e fr S) : AWp P w0 c fr S Q' :=
  fun g a w h1 h2 h3 => wp_mono (h g a w h1 h2 h3) fun e a w k => k.mono hq

theorem awp_skip {fr : List DV} {S : St} {Q : Exit → List DV → St → Prop} (h : Q .normal fr S) : AWp P w0 .skip fr S Q :=
  fun g a w h1 h2 h3 => wp_skip ⟨h3, g, fr, S, .refl g, h1, h2, h⟩
theorem awp_ret {fr : List DV} {S : St} {Q : Exit → List DV → St → Prop} (h : Q .ret fr S) : AWp P w0 .ret fr S Q :=
  fun g a w h1 h2 h3 => wp_ret ⟨h3, g, fr, S, .refl g, h1, h2, h⟩
theorem awp_exit {n : Nat} {fr : List DV} {S : St} {Q : Exit → List DV → St → Prop} (h : Q (.exit n) fr S) : AWp P w0 (.exit n) fr S Q :=
  fun g a w h1 h2 h3 => wp_exit ⟨h3, g, fr, S, .refl g, h1, h2, h⟩
theorem awp_goto {n : Nat} {fr : List DV} {S : St} {Q : Exit → List DV → St → Prop} (h : Q (.goto n) fr S) : AWp P w0 (.goto n) fr S Q :=
  fun g a w h1 h2 h3 => wp_goto ⟨h3, g, fr, S, .refl g, h1, h2, h⟩
theorem awp_seq {x y : Code} {fr : List DV} {S : St} {Q : Exit → List DV → St → Prop} (h : AWp P w0 x fr S (thenQ (fun fr S => AWp P w0 y fr S Q) Q)) : AWp P w0 (.seq x y) fr S Q := by
  intro g a w h1 h2 h3
  refine wp_seq (wp_mono (h g a w h1 h2 h3) ?_)
  intro e a' w' hg
  obtain ⟨hd, g', fr', S', k1, k2, k3, k4⟩ := hg
  cases e with
  | normal => exact wp_mono (k4 g' a' w' k2 k3 hd) fun _ _ _ k => k.of_le k1
  | exit n => exact ⟨hd, g', fr', S', k1, k2, k3, k4⟩
  | goto n => exact ⟨hd, g', fr', S', k1, k2, k3, k4⟩
  | ret => exact ⟨hd, g', fr', S', k1, k2, k3, k4⟩
  | panic ch => exact ⟨hd, g', fr', S', k1, k2, k3, k4⟩
  | outgrown => exact ⟨hd, g', fr', S', k1, k2, k3, k4⟩
theorem awp_block {n : Nat} {c : Code} {fr : List DV} {S : St} {Q : Exit → List DV → St → Prop} (h : AWp P w0 c fr S (blockQ n Q)) : AWp P w0 (.block n c) fr S Q := by
  intro g a w h1 h2 h3
  refine wp_block (wp_mono (h g a w h1 h2 h3) ?_)
  intro e a' w' hg
  obtain ⟨hd, g', fr', S', k1, k2, k3, k4⟩ := hg
  cases e with
  | normal => exact ⟨hd, g', fr', S', k1, k2, k3, k4⟩
  | exit m =>
    simp only [Exit.inBlock]
    simp only [blockQ] at k4
    split
    · rename_i e; rw [if_pos e] at k4; exact ⟨hd, g', fr', S', k1, k2, k3, k4⟩
    · rename_i e; rw [if_neg e] at k4; exact ⟨hd, g', fr', S', k1, k2, k3, k4⟩
  | goto n => exact ⟨hd, g', fr', S', k1, k2, k3, k4⟩
  | ret => exact ⟨hd, g', fr', S', k1, k2, k3, k4⟩
  | panic ch => exact ⟨hd, g', fr', S', k1, k2, k3, k4⟩
  | outgrown => exact ⟨hd, g', fr', S', k1, k2, k3, k4⟩
def condD (d : DV) (A B : Prop) : Prop := match d with
  | .v (.bool b) => (b = true → A) ∧ (b = false → B)
  | _ => False
theorem awp_cond {c : Operand} {x y : Code} {fr : List DV} {S : St} {Q : Exit → List DV → St → Prop} (h : condD (ev fr c) (AWp P w0 x fr S Q) (AWp P w0 y fr S Q)) : AWp P w0 (.cond c x y) fr S Q := by
  intro g a w h1 h2 h3
  have hr := rep_ev h2 c
  unfold condD at h
  split at h
  · rename_i b he
    rw [he] at hr
    have hv : a.eval c = .bool b := rep_bool hr
    exact wp_cond_split hv (fun hb => h.1 hb g a w h1 h2 h3) (fun hb => h.2 hb g a w h1 h2 h3)
  · exact h.elim

theorem wp_loop_ind {c : Code} {Q : Exit → Act → World → Prop} (J : Nat → Act → World → Prop) {m : Nat} {a : Act} {w : World} (h0 : J m a w)
    (round : ∀ m a w, J m a w → c.wp P (Exit.then (fun a' w' => ∃ m', m' < m ∧ J m' a' w') Q) a w) : (Code.loop c).wp P Q a w := by
  intro b k cs
  have key : ∀ n a w, J n a w → ∃ e a' w', Q e a' w' ∧ Arrives P (lone (b.at a (.code c :: .inLoop c :: k)) cs w) b k cs e a' w' := by
    intro n
    induction n using Nat.strongRecOn with
    | _ n ih =>
      intro a w hI
      obtain ⟨e, a₁, w₁, hq, harr⟩ := round n a w hI b (.inLoop c :: k) cs
      cases e with
      | normal =>
        obtain ⟨m', hlt, hI₁⟩ := hq
        obtain ⟨e₂, a₂, w₂, hq₂, harr₂⟩ := ih m' hlt a₁ w₁ hI₁
        exact ⟨e₂, a₂, w₂, hq₂, .of_steps (Steps.trans harr (.one step_inLoop)) harr₂⟩
      | exit id => exact ⟨_, a₁, w₁, hq, .pass (x := .inLoop c) rfl (fun _ _ => .inl (by simp)) harr⟩
      | goto l => exact ⟨_, a₁, w₁, hq, .pass (x := .inLoop c) rfl (fun _ _ => .inl (by simp)) harr⟩
      | ret => exact ⟨_, a₁, w₁, hq, .pass (x := .inLoop c) rfl (fun _ _ => .inl (by simp)) harr⟩
      | panic ch => exact ⟨_, a₁, w₁, hq, .pass (x := .inLoop c) rfl (fun _ _ => .inl (by simp)) harr⟩
      | outgrown => exact ⟨_, a₁, w₁, hq, .pass (x := .inLoop c) rfl (fun _ _ => .inl (by simp)) harr⟩
  obtain ⟨e, a', w', hq, harr⟩ := key m a w h0
  exact ⟨e, a', w', hq, .of_steps (.one step_loop) harr⟩

/-- A loop: I at its head, with a number that each round lowers. -/
theorem awp_loop {c : Code} {Q : Exit → List DV → St → Prop} (I : Nat → List DV → St → Prop) (m : Nat) {fr : List DV} {S : St} (h0 : I m fr S)
    (round : ∀ m fr S, I m fr S → AWp P w0 c fr S (thenQ (fun fr' S' => ∃ m', m' < m ∧ I m' fr' S') Q)) : AWp P w0 (.loop c) fr S Q := by
  intro g a w h1 h2 h3
  refine wp_loop_ind (fun m a w => a.defers = [] ∧ ∃ g' fr S, g.le g' ∧ Rel w0 g' S w ∧ RepL g' fr a.tmps.toList ∧ I m fr S) (m := m) ⟨h3, g, fr, S, .refl g, h1, h2, h0⟩ ?_
  rintro m a w ⟨hd, g', fr, S, k1, k2, k3, k4⟩
  refine wp_mono (round m fr S k4 g' a w k2 k3 hd) ?_
  rintro e a' w' ⟨hd', g'', fr'', S'', q1, q2, q3, q4⟩
  cases e with
  | normal =>
    obtain ⟨m', hm, hI⟩ := q4
    exact ⟨m', hm, hd', g'', fr'', S'', k1.trans q1, q2, q3, hI⟩
  | exit n => exact ⟨hd', g'', fr'', S'', k1.trans q1, q2, q3, q4⟩
  | goto n => exact ⟨hd', g'', fr'', S'', k1.trans q1, q2, q3, q4⟩
  | ret => exact ⟨hd', g'', fr'', S'', k1.trans q1, q2, q3, q4⟩
  | panic ch => exact ⟨hd', g'', fr'', S'', k1.trans q1, q2, q3, q4⟩
  | outgrown => exact ⟨hd', g'', fr'', S'', k1.trans q1, q2, q3, q4⟩

/-- What one operation gives. -/
def YieldsE (P : Program) (w0 : World) (o : Oper) (ρD : Operand → DV) (S : St) (K : DV → St → Prop) : Prop :=
  ∀ g w (ρ : Operand → Value), Rel w0 g S w → (∀ x, x ∈ o.op.operands.toList → Rep g (ρD x) (ρ x)) → (∀ u, ρ (.const u) = u) →
    match (execOp ρ o).run P w with
    | .ok (.value u) w' => ∃ g' d S', g.le g' ∧ Rel w0 g' S' w' ∧ Rep g' d u ∧ K d S'
    | .ok .skip w' => ∃ g' S', g.le g' ∧ Rel w0 g' S' w' ∧ K ud S'
    | .ok (.enter f args) w' => Calls P f args w' fun e w'' => ∃ r g' d S', e = .returned r ∧ g.le g' ∧ Rel w0 g' S' w'' ∧ Rep g' d r ∧ K d S'
    | _ => False

def guardK (ops : Array Oper) (fr : List DV) (gd : Option (Nat × Bool)) (A B : List DV → Prop) : Prop :=
  match gd with
  | none => A fr
  | some (j, want) => match (ops[j]?).bind (·.dst) with
    | none => B fr
    | some t => match fr.getD t ud with
      | .v (.bool b) => (b = want → A (fr.set t (.v (.bool want)))) ∧ (b = !want → B (fr.set t (.v (.bool !want))))
      | .tup [] => B fr
      | _ => False

/-- A list of operations. -/
def LWp (P : Program) (w0 : World) (ops : Array Oper) (K : List DV → St → Prop) : List Oper → List DV → St → Prop
  | [], fr, S => K fr S
  | o :: rest, fr, S => guardK ops fr o.guard (fun fr => YieldsE P w0 o (ev fr) S fun d S' => LWp P w0 ops K rest (pt fr o.dst d) S') (fun fr => LWp P w0 ops K rest (pt fr o.dst ud) S)

theorem repL_same {g : Gh} {fr : List DV} {us : List Value} (hr : RepL g fr us) {t : Nat} {d : DV} {u : Value} (hu : us[t]? = some u) (h : Rep g d u) : RepL g (fr.set t d) us := by
  obtain ⟨hlt, rfl⟩ := List.getElem?_eq_some_iff.1 hu
  have := hr.set t h
  rwa [List.set_getElem_self] at this

theorem guard_sound {ops : Array Oper} {fr : List DV} {o : Oper} {A B : List DV → Prop} {g : Gh} {a : Act} (hr : RepL g fr a.tmps.toList) (h : guardK ops fr o.guard A B) :
    (Region.wanted o (yielded ops a.tmps) = true ∧ ∃ fr', RepL g fr' a.tmps.toList ∧ A fr') ∨ (Region.wanted o (yielded ops a.tmps) = false ∧ ∃ fr', RepL g fr' a.tmps.toList ∧ B fr') := by
  unfold guardK at h
  split at h
  · rename_i hg
    exact .inl ⟨by simp [Region.wanted, hg], fr, hr, h⟩
  · rename_i j want hg
    split at h
    · rename_i hj
      refine .inr ⟨?_, fr, hr, h⟩
      simp [Region.wanted, hg, yielded, hj]
    · rename_i t hj
      have ht := hr.getD t
      have hy : yielded ops a.tmps j = (match a.tmps[t]? with | some (.bool b) => some b | _ => none) := by
        unfold yielded; rw [hj]; rfl
      have hlen : fr.length = a.tmps.size := by simpa using hr.len
      split at h
      · rename_i b hb
        have hlt : t < fr.length := by
          rcases Nat.lt_or_ge t fr.length with h' | h'
          · exact h'
          · rw [List.getD_eq_getElem?_getD, List.getElem?_eq_none h'] at hb; cases hb
        rw [hb] at ht
        have hv := rep_bool ht
        have hu : a.tmps[t]? = some (.bool b) := by
          have h2 : t < a.tmps.size := hlen ▸ hlt
          rw [List.getD_eq_getElem?_getD, Array.getElem?_toList, Array.getElem?_eq_getElem h2] at hv
          rw [Array.getElem?_eq_getElem h2]
          simpa using hv
        have hu' : a.tmps.toList[t]? = some (.bool b) := by rw [Array.getElem?_toList]; exact hu
        rw [hu] at hy
        by_cases hw : b = want
        · refine .inl ⟨by simp [Region.wanted, hg, hy, hw], _, repL_same hr hu' ?_, h.1 hw⟩
          rw [hw]; exact .v _ rfl
        · have hw' : b = !want := by cases b <;> cases want <;> simp_all
          refine .inr ⟨by simp [Region.wanted, hg, hy, hw], _, repL_same hr hu' ?_, h.2 hw'⟩
          rw [hw']; exact .v _ rfl
      · rename_i hb
        refine .inr ⟨?_, fr, hr, h⟩
        rw [hb] at ht
        have hy' : yielded ops a.tmps j = none := by
          rw [hy]
          cases hq : a.tmps[t]? with
          | none => rfl
          | some u =>
            rw [List.getD_eq_getElem?_getD, Array.getElem?_toList, hq] at ht
            simp only [Option.getD_some] at ht
            cases ht
            rfl
        simp [Region.wanted, hg, hy']
      · exact h.elim

theorem lwp_sound {ops : Array Oper} {g0 : Gh} {Q : Exit → List DV → St → Prop} : ∀ (l : List Oper) (fr : List DV) (S : St) (g : Gh) (a : Act) (w : World), g0.le g → Rel w0 g S w → RepL g fr a.tmps.toList → a.defers = [] →
    LWp P w0 ops (fun fr S => Q .normal fr S) l fr S → wpList P ops (Good w0 g0 Q) l a w
  | [], fr, S, g, a, w, k, h1, h2, h3, h => ⟨h3, g, fr, S, k, h1, h2, h⟩
  | o :: rest, fr, S, g, a, w, k, h1, h2, h3, h => by
    unfold LWp at h
    unfold wpList
    rcases guard_sound h2 h with ⟨hw, fr', h2', hA⟩ | ⟨hw, fr', h2', hB⟩
    · rw [if_pos hw]
      refine .inl ?_
      have := hA g w a.eval h1 (fun x _ => rep_ev h2' x) (fun _ => rfl)
      unfold Oper.wp Oper.upon
      split at this
      · rename_i u w' hrun
        rw [hrun]
        obtain ⟨g', d, S', k1, k2, k3, k4⟩ := this
        exact lwp_sound rest _ _ g' _ _ (k.trans k1) k2 (repL_put (h2'.mono k1) _ k3) (by rw [put_defers]; exact h3) k4
      · rename_i w' hrun
        rw [hrun]
        obtain ⟨g', S', k1, k2, k4⟩ := this
        exact lwp_sound rest _ _ g' _ _ (k.trans k1) k2 (repL_put (h2'.mono k1) _ (rep_ud g')) (by rw [put_defers]; exact h3) k4
      · rename_i f args w' hrun
        rw [hrun]
        refine this.mono ?_
        rintro e w'' ⟨r, g', d, S', rfl, k1, k2, k3, k4⟩
        exact lwp_sound rest _ _ g' _ _ (k.trans k1) k2 (repL_put (h2'.mono k1) _ k3) (by rw [put_defers]; exact h3) k4
      · exact this.elim
    · rw [if_neg (by simp [hw])]
      exact lwp_sound rest _ _ g _ _ k h1 (repL_put h2' _ (rep_ud g)) (by rw [put_defers]; exact h3) hB

theorem awp_region {id : Nat} {l : List Oper} {fr : List DV} {S : St} {Q : Exit → List DV → St → Prop} (h : LWp P w0 l.toArray (fun fr S => Q .normal fr S) l fr S) : AWp P w0 (.region id l.toArray false) fr S Q :=
  fun g a w h1 h2 h3 => wp_region_lit (lwp_sound l fr S g a w (.refl g) h1 h2 h3 h)

/-- A function's results. -/
def resD1 (fr : List DV) (S : St) (K : DV → Prop) : ResultVar → Prop
  | .tmp t => K (fr.getD t ud)
  | .cell a t => match fr.getD a ud with
    | .v (.pointer (some ⟨b, 0, none⟩)) => match lk S.box b with
      | some ds => K (.agg ds)
      | none => False
    | _ => False

end
end Aml
