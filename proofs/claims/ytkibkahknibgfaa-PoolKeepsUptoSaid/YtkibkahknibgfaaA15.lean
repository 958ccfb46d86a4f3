/-
  The walk over code by reckoning: one function over operations, one over code. By an AI agent.
-/
import Derived.Test.YtkibkahknibgfaaB3
namespace Aml
open Go Go.RowKit
set_option linter.unusedVariables false
set_option linter.unusedSimpArgs false

/-- What the reckoning leaves as it is. -/
class Cn (α : Type) where
  k : α
def AC (P : Program) (w0 : World) (f : FuncId) (ds : List DV) (S : St) [K : Cn (DV → St → Prop)] : Prop := ACall P w0 f ds S K.k
def hasAcc : List DV → Bool
  | [] => false
  | .acc _ _ :: _ => true
  | _ :: ds => hasAcc ds
/-- Arguments are shared, or, where one grows, handed as they are. -/
def callK (S : St) (ds : List DV) (F : List DV → St → Prop) : Prop := match hasAcc ds with
  | true => F ds S ∨ shrs S ds F
  | false => shrs S ds F
/-- A call of a function value. -/
def vCall (P : Program) (w0 : World) (cal : DV) (ds : List DV) (S : St) (K : DV → St → Prop) : Prop := match cal with
  | .v (.func (.func f) a cap) => a.size = 0 ∧ okF P f = true ∧ cap.toList.all (fun u => u.oneCell') = true ∧ callK S ds fun ds S => @AC P w0 f (ds ++ cap.toList.map .v) S ⟨K⟩
  | _ => False

def intK : TK → Bool
  | .int _ => true
  | _ => false
theorem intK_spec {k : TK} (h : intK k = true) : ∃ k', k = .int k' := by cases k <;> first | exact ⟨_, rfl⟩ | cases h
/-- What an operation asks. -/
def vcOp (P : Program) (w0 : World) (op : Op) (fr : List DV) (S : St) (K : DV → St → Prop) : Prop := match op with
  | .move x => K (ev fr x) S
  | .assign x => K (ev fr x) S
  | .pick c a b => vPick (ev fr c) (ev fr a) (ev fr b) (K · S)
  | .load t x => vLoad (tk P t) S (ev fr x) (K · S)
  | .fieldAddr t x f => vField (tk P t) f (ev fr x) (K · S)
  | .indexAddr t x i => vIndexAddr (tk P t) (ev fr x) (ev fr i) (K · S)
  | .index t x i => vIndex (tk P t) (ev fr x) (ev fr i) (K · S)
  | .field t x f => vFieldV (tk P t) f (ev fr x) (K · S)
  | .extract x i => vExtract i (ev fr x) (K · S)
  | .nilCheck x => notNil (ev fr x) = true ∧ K (ev fr x) S
  | .binOp b t x y _ => (match isNilC y with
    | true => vNilEq b (tk P t) (ev fr x) (K · S)
    | false => vBin b (tk P t) (isC x) (isC y) (ev fr x) (ev fr y) (K · S))
  | .unOp b _ x => vUn b (ev fr x) (K · S)
  | .convert s d x => vConv (tk P s) (tk P d) (ev fr x) (K · S)
  | .makeInterface t x => isIfc (tk P t) = false ∧ shr S (ev fr x) fun d S => K (.ifc t d) S
  | .typeAssert x _ t ok => vAssert P t ok (ev fr x) (K · S)
  | .build t parts => shrs S (parts.toList.map fun p => ev fr p.2) fun ds S => vBuild P t ((parts.toList.map (·.1)).zip ds) (K · S)
  | .buildSlice t len parts => shrs S (parts.toList.map fun p => ev fr p.2) fun ds S => vBuildSlice (tk P t) (zD P (elT P t)) len ((parts.toList.map (·.1)).zip ds) (K · S)
  | .makeFunc fn a b => vFunc fn (a.toList.map (ev fr)) (b.toList.map (ev fr)) (K · S)
  | .slice t x lo hi mx => (mx.isSome = true → hi.isSome = true) ∧ vSliceX (tk P t) S (ev fr x) (lo.map (ev fr)) (hi.map (ev fr)) (mx.map (ev fr)) K
  | .box _ x => okE (ev fr x) = true ∧ ∀ b, nin S.box b → K (.v (.pointer (some ⟨b, 0, none⟩))) ⟨(b, cd (ev fr x)) :: S.box, S.acc⟩
  | .alloc t => okE (zD P t) = true ∧ ∀ b, nin S.box b → K (.v (.pointer (some ⟨b, 0, none⟩))) ⟨(b, cd (zD P t)) :: S.box, S.acc⟩
  | .store t x y => (P.info? t).isSome = true ∧ vStoreX (P.cellsOf t) S (ev fr x) (ev fr y) (K ud)
  | .makeSlice t x y => vMakeSlice (tk P t) (zD P (elT P t)) (ev fr x) (ev fr y) S K
  | .call c => match c.callee with
    | .builtin .len => (match c.args.toList, c.argTypes.toList with
      | [x], [t] => vLen (tk P t) (ev fr x) (K · S)
      | _, _ => False)
    | .builtin .cap => (match c.args.toList, c.argTypes.toList with
      | [x], [t] => vCap (tk P t) (ev fr x) (K · S)
      | _, _ => False)
    | .builtin .append => (match c.args.toList, c.argTypes.toList with
      | [x, y], [t, t'] => (match intK (tk P t') with
        | true => vAppInt (tk P t) (zD P (elT P t)) S (ev fr x) (ev fr y) K
        | false => vAppend (tk P t) (tk P t') S (ev fr x) (ev fr y) K)
      | _, _ => False)
    | .builtin .min => (match c.args.toList with
      | [x, y] => vMin (ev fr x) (ev fr y) (K · S)
      | _ => False)
    | .builtin .max => (match c.args.toList with
      | [x, y] => vMax (ev fr x) (ev fr y) (K · S)
      | _ => False)
    | .value cal => vCall P w0 (ev fr cal) (c.args.toList.map (ev fr)) S K
    | _ => False
  | _ => False

/-- Bounds of a slice are not the slice itself. -/
def okSl : Op → Bool
  | .slice _ x lo hi mx => (match lo with | some y => !sameO y x | none => true) && (match hi with | some y => !sameO y x | none => true) && (match mx with | some y => !sameO y x | none => true)
  | _ => true
where sameO : Operand → Operand → Bool
  | .tmp a, .tmp b => a == b
  | .const _, .const _ => true
  | .global _, .global _ => true
  | .func _, .func _ => true
  | _, _ => false

section
variable {P : Program} {w0 : World}

theorem arr_of {α : Type} {a : Array α} {l : List α} (h : a.toList = l) : a = l.toArray := by rw [← h]
theorem sameO_ne {y x : Operand} (h : okSl.sameO y x = false) : y ≠ x := by
  rintro rfl
  cases y <;> simp [okSl.sameO] at h

theorem vcOp_sound {o : Oper} {fr : List DV} {S : St} {K : DV → St → Prop} (hs : okSl o.op = true) (h : vcOp P w0 o.op fr S K) : YieldsE P w0 o (ev fr) S K := by
  cases hop : o.op with
  | move x => rw [hop] at h; exact y_move hop h
  | assign x => rw [hop] at h; exact y_assign hop h
  | pick c a b => rw [hop] at h; exact y_pick hop h
  | load t x => rw [hop] at h; exact y_load hop h
  | fieldAddr t x f => rw [hop] at h; exact y_fieldAddr hop h
  | indexAddr t x i => rw [hop] at h; exact y_indexAddr hop h
  | index t x i => rw [hop] at h; exact y_index hop h
  | field t x f => rw [hop] at h; exact y_fieldV hop h
  | extract x i => rw [hop] at h; exact y_extract hop h
  | nilCheck x => rw [hop] at h; exact y_nilCheck hop h
  | binOp b t x y t' =>
    rw [hop] at h
    simp only [vcOp] at h
    cases hq : isNilC y with
    | true => rw [hq] at h; exact y_nilEq hop hq h
    | false => rw [hq] at h; exact y_binOp hop h
  | unOp b t x => rw [hop] at h; exact y_unOp hop h
  | convert s d x => rw [hop] at h; exact y_conv hop h
  | makeInterface t x => rw [hop] at h; exact y_makeIfcS hop h
  | typeAssert x t' t ok => rw [hop] at h; exact y_assert hop h
  | build t parts => rw [hop] at h; exact y_buildS (parts := parts.toList) (by simpa using hop) h
  | buildSlice t len parts => rw [hop] at h; exact y_buildSliceS (parts := parts.toList) (by simpa using hop) h
  | makeFunc fn a b => rw [hop] at h; exact y_makeFunc (a := a.toList) (b := b.toList) (by simpa using hop) h
  | slice t x lo hi mx =>
    rw [hop] at h hs
    simp only [okSl, Bool.and_eq_true] at hs
    obtain ⟨⟨s1, s2⟩, s3⟩ := hs
    refine y_sliceX hop h.1 ⟨?_, ?_, ?_⟩ h.2
    · rintro rfl; simp only [Bool.not_eq_true'] at s1; exact sameO_ne s1 rfl
    · rintro rfl; simp only [Bool.not_eq_true'] at s2; exact sameO_ne s2 rfl
    · rintro rfl; simp only [Bool.not_eq_true'] at s3; exact sameO_ne s3 rfl
  | box t x => rw [hop] at h; exact y_box hop h
  | alloc t => rw [hop] at h; exact y_alloc hop h
  | store t x y => rw [hop] at h; exact y_storeX hop h.1 h.2
  | makeSlice t x y => rw [hop] at h; exact y_makeSlice hop h
  | call c =>
    rw [hop] at h
    obtain ⟨callee, args, ts⟩ := c
    simp only [vcOp] at h
    split at h
    · split at h
      · rename_i x t e1 e2
        exact y_len (x := x) (t := t) (by rw [hop, arr_of e1, arr_of e2]) h
      · exact h.elim
    · split at h
      · rename_i x t e1 e2
        exact y_cap (x := x) (t := t) (by rw [hop, arr_of e1, arr_of e2]) h
      · exact h.elim
    · split at h
      · rename_i x y t t' e1 e2
        cases hq : intK (tk P t') with
        | true =>
          rw [hq] at h
          obtain ⟨k', hk'⟩ := intK_spec hq
          exact y_appInt (x := x) (y := y) (t := t) (t' := t') (by rw [hop, arr_of e1, arr_of e2]) hk' h
        | false =>
          rw [hq] at h
          exact y_append (x := x) (y := y) (t := t) (t' := t') (by rw [hop, arr_of e1, arr_of e2]) h
      · exact h.elim
    · split at h
      · rename_i x y e1
        exact y_min (x := x) (y := y) (ts := ts) (by rw [hop, arr_of e1]) h
      · exact h.elim
    · split at h
      · rename_i x y e1
        exact y_max (x := x) (y := y) (ts := ts) (by rw [hop, arr_of e1]) h
      · exact h.elim
    · rename_i cal
      unfold vCall at h
      split at h
      · rename_i f a cap hcal
        obtain ⟨ha, hf, hcap, h⟩ := h
        have ha' : a = #[] := by apply Array.eq_empty_of_size_eq_zero ha
        subst ha'
        refine y_callF (args := args.toList) (cal := cal) (cap := cap.toList) (ts := ts) (by simpa using hop) (by simpa using hcal) hf ?_ (List.all_eq_true.1 hcap)
        unfold callK at h
        split at h
        · exact h
        · exact .inr h
      · exact h.elim
    · exact h.elim
  | _ => rw [hop] at h; exact h.elim

/-- A list of operations. -/
def vcL (P : Program) (w0 : World) (ops : Array Oper) (K : List DV → St → Prop) : List Oper → List DV → St → Prop
  | [], fr, S => K fr S
  | o :: rest, fr, S => guardK ops fr o.guard (fun fr => vcOp P w0 o.op fr S fun d S' => vcL P w0 ops K rest (pt fr o.dst d) S') (fun fr => vcL P w0 ops K rest (pt fr o.dst ud) S)

theorem guardK_mono {ops : Array Oper} {fr : List DV} {gd : Option (Nat × Bool)} {A B A' B' : List DV → Prop} (ha : ∀ fr, A fr → A' fr) (hb : ∀ fr, B fr → B' fr) (h : guardK ops fr gd A B) : guardK ops fr gd A' B' := by
  unfold guardK at *
  split at h
  · exact ha _ h
  · split at h
    · exact hb _ h
    · split at h
      · exact ⟨fun e => ha _ (h.1 e), fun e => hb _ (h.2 e)⟩
      · exact hb _ h
      · exact h
theorem yields_mono {o : Oper} {ρD : Operand → DV} {S : St} {K K' : DV → St → Prop} (hk : ∀ d S, K d S → K' d S) (h : YieldsE P w0 o ρD S K) : YieldsE P w0 o ρD S K' := by
  intro g w ρ h1 h2 hcst
  have := h g w ρ h1 h2 hcst
  split at this
  · obtain ⟨g', d, S', a, b, c, e⟩ := this; exact ⟨g', d, S', a, b, c, hk _ _ e⟩
  · obtain ⟨g', S', a, b, e⟩ := this; exact ⟨g', S', a, b, hk _ _ e⟩
  · exact this.mono fun e w'' ⟨r, g', d, S', a, b, c, x, y⟩ => ⟨r, g', d, S', a, b, c, x, hk _ _ y⟩
  · exact this
theorem vcL_sound {ops : Array Oper} {K : List DV → St → Prop} : ∀ (l : List Oper) {fr : List DV} {S : St}, l.all (fun o => okSl o.op) = true → vcL P w0 ops K l fr S → LWp P w0 ops K l fr S
  | [], fr, S, _, h => h
  | o :: rest, fr, S, hs, h => by
    simp only [List.all_cons, Bool.and_eq_true] at hs
    refine guardK_mono (fun fr h => ?_) (fun fr h => vcL_sound rest hs.2 h) h
    exact yields_mono (fun d S h => vcL_sound rest hs.2 h) (vcOp_sound hs.1 h)

/-- What code asks. Loops stay as they are. -/
def vc (P : Program) (w0 : World) : Code → List DV → St → (Exit → List DV → St → Prop) → Prop
  | .skip, fr, S, Q => Q .normal fr S
  | .seq x y, fr, S, Q => vc P w0 x fr S (thenQ (fun fr S => vc P w0 y fr S Q) Q)
  | .cond c x y, fr, S, Q => condD (ev fr c) (vc P w0 x fr S Q) (vc P w0 y fr S Q)
  | .block n c, fr, S, Q => vc P w0 c fr S (blockQ n Q)
  | .exit n, fr, S, Q => Q (.exit n) fr S
  | .ret, fr, S, Q => Q .ret fr S
  | .region _ ops false, fr, S, Q => ops.toList.all (fun o => okSl o.op) = true ∧ vcL P w0 ops (fun fr S => Q .normal fr S) ops.toList fr S
  | c, fr, S, Q => AWp P w0 c fr S Q

theorem condD_mono {d : DV} {A B A' B' : Prop} (ha : A → A') (hb : B → B') (h : condD d A B) : condD d A' B' := by
  unfold condD at *
  split at h
  · exact ⟨fun e => ha (h.1 e), fun e => hb (h.2 e)⟩
  · exact h
theorem vc_sound : ∀ (c : Code) {fr : List DV} {S : St} {Q : Exit → List DV → St → Prop}, vc P w0 c fr S Q → AWp P w0 c fr S Q
  | .skip, fr, S, Q, h => awp_skip h
  | .seq x y, fr, S, Q, h => awp_seq ((vc_sound x h).mono fun e fr S hq => by cases e <;> first | exact vc_sound y hq | exact hq)
  | .cond c x y, fr, S, Q, h => awp_cond (condD_mono (fun h => vc_sound x h) (fun h => vc_sound y h) h)
  | .block n c, fr, S, Q, h => awp_block (vc_sound c h)
  | .exit n, fr, S, Q, h => awp_exit h
  | .ret, fr, S, Q, h => awp_ret h
  | .region n ops false, fr, S, Q, h => by
    have := vcL_sound _ h.1 h.2
    have := awp_region (id := n) (l := ops.toList) this
    simpa using this
  | .region n ops true, fr, S, Q, h => h
  | .loop c, fr, S, Q, h => h
  | .rangeFunc f ps a b, fr, S, Q, h => h
  | .scope c, fr, S, Q, h => h
  | .label l, fr, S, Q, h => h
  | .goto l, fr, S, Q, h => h
  | .refuse w, fr, S, Q, h => h
end
end Aml
