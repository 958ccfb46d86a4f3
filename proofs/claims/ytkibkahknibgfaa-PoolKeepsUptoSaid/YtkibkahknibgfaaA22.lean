/-
  The walk by reckoning, whole; functions and loops. By an AI agent.
-/
import Derived.Test.YtkibkahknibgfaaA25
namespace Aml
open Go Go.RowKit
set_option linter.unusedVariables false
set_option linter.unusedSimpArgs false

/-- A region whose order is open: what reads, then what writes. -/
def vcLT (P : Program) (w0 : World) (S : St) (ops : Array Oper) (K : List DV → St → Prop) : List Oper → List DV → Prop
  | [], fr => K fr S
  | o :: rest, fr => selK (isQ o.op)
    (guardK ops fr o.guard (fun fr => vcOpQ P w0 o.op fr S fun d => vcLT P w0 S ops K rest (pt fr o.dst d)) (fun fr => vcLT P w0 S ops K rest (pt fr o.dst ud)))
    (vcL P w0 ops K (o :: rest) fr S)

section
variable {P : Program} {w0 : World}
theorem vcLT_split {S : St} {ops : Array Oper} {K : List DV → St → Prop} : ∀ {l : List Oper} {fr : List DV}, l.all (fun o => okSl o.op) = true → vcLT P w0 S ops K l fr → LQ P w0 S ops (fun fr => vcL P w0 ops K (l.drop (npre l)) fr S) (l.take (npre l)) fr
  | [], fr, _, h => h
  | o :: rest, fr, hs, h => by
    simp only [List.all_cons, Bool.and_eq_true] at hs
    unfold vcLT selK at h
    cases hq : isQ o.op with
    | true =>
      rw [hq] at h
      simp only at h
      have e : npre (o :: rest) = npre rest + 1 := by simp [npre, List.takeWhile_cons, hq]
      rw [e, List.take_succ_cons, List.drop_succ_cons]
      refine guardK_mono (fun fr h => ?_) (fun fr h => vcLT_split hs.2 h) h
      obtain ⟨d, q1, q2⟩ := vcOpQ_sound hs.1 h
      exact ⟨d, q1, vcLT_split hs.2 q2⟩
    | false =>
      rw [hq] at h
      have e : npre (o :: rest) = 0 := by simp [npre, List.takeWhile_cons, hq]
      rw [e]
      exact h
theorem LQ_arr {S : St} {a b : Array Oper} {K : List DV → Prop} : ∀ {l : List Oper} {fr : List DV}, (∀ o, o ∈ l → ∀ j want, o.guard = some (j, want) → a[j]? = b[j]?) → LQ P w0 S a K l fr → LQ P w0 S b K l fr
  | [], fr, _, h => h
  | o :: rest, fr, hg, h => by
    have h' : guardK a fr o.guard (fun fr => ∃ d, QY P w0 S o fr d ∧ LQ P w0 S b K rest (pt fr o.dst d)) (fun fr => LQ P w0 S b K rest (pt fr o.dst ud)) :=
      guardK_mono (fun fr ⟨d, q1, q2⟩ => ⟨d, q1, LQ_arr (fun o ho => hg o (List.mem_cons_of_mem _ ho)) q2⟩) (fun fr h => LQ_arr (fun o ho => hg o (List.mem_cons_of_mem _ ho)) h) h
    unfold guardK at h'
    show guardK b fr o.guard _ _
    unfold guardK
    cases hgo : o.guard with
    | none => rw [hgo] at h'; exact h'
    | some p =>
      obtain ⟨j, want⟩ := p
      rw [hgo] at h'
      simp only at h' ⊢
      rw [← hg o List.mem_cons_self j want hgo]
      exact h'

/-- A region that draws the order of what reads; what writes comes behind. -/
theorem awp_drawX {id : Nat} {l : List Oper} {fr : List DV} {S : St} {Q : Exit → List DV → St → Prop} (hm : P.follows .mixedOrders = true) (hB : Region.lexB .any (l.take (npre l)).toArray = true) (hT : tailB .any l.toArray (npre l) = true) (hs : l.all (fun o => okSl o.op) = true)
    (h : vcLT P w0 S l.toArray (fun fr S => Q .normal fr S) l fr) : AWp P w0 (.region id l.toArray true) fr S Q := by
  have hn : npre l ≤ l.length := by
    unfold npre
    exact List.Sublist.length_le (List.takeWhile_sublist _)
  refine awp_drawT (npre l) hn hm hB hT hs (LQ_arr ?_ (vcLT_split hs h))
  intro o ho j want hg
  simp only [tailB, Bool.and_eq_true] at hT
  have := List.all_eq_true.1 hT.2 o (by simpa using ho)
  simp only [hg, decide_eq_true_eq] at this
  simp [List.getElem?_take, this]

/-- A loop, left as it is. -/
def AL (P : Program) (w0 : World) (fr : List DV) (S : St) [c : Cn (Code × (Exit → List DV → St → Prop))] : Prop := AWp P w0 c.k.1 fr S c.k.2
/-- What a region asks. -/
def vcR (P : Program) (w0 : World) (c : Code) (fr : List DV) (S : St) (Q : Exit → List DV → St → Prop) : Prop := match c with
  | .region _ ops false => vcL P w0 ops (fun fr S => Q .normal fr S) ops.toList fr S
  | .region _ ops true => vcLT P w0 S ops (fun fr S => Q .normal fr S) ops.toList fr
  | _ => False
/-- The walk. -/
def vw (P : Program) (w0 : World) (ss : List Nat) : Code → List DV → St → (Exit → List DV → St → Prop) → Prop
  | .skip, fr, S, Q => Q .normal fr S
  | .seq x y, fr, S, Q => vw P w0 ss x fr S (thenQ (fun fr S => vw P w0 ss y fr S Q) Q)
  | .cond c x y, fr, S, Q => condD (ev fr c) (vw P w0 ss x fr S Q) (vw P w0 ss y fr S Q)
  | .block n c, fr, S, Q => selK (ss.contains (n + 1000)) (@AL P w0 fr S ⟨((.block n c), Q)⟩) (vw P w0 ss c fr S (blockQ n Q))
  | .exit n, fr, S, Q => Q (.exit n) fr S
  | .ret, fr, S, Q => Q .ret fr S
  | .region n ops dr, fr, S, Q => selK (ss.contains n) (@AL P w0 fr S ⟨((.region n ops dr), Q)⟩)
    (selK dr (vcLT P w0 S ops (fun fr S => Q .normal fr S) ops.toList fr) (vcL P w0 ops (fun fr S => Q .normal fr S) ops.toList fr S))
  | c, fr, S, Q => @AL P w0 fr S ⟨(c, Q)⟩
/- How it goes. -/
section
variable {P : Program} {w0 : World} {ss : List Nat} {fr : List DV} {S : St} {Q : Exit → List DV → St → Prop}
theorem n_vw_skip : vw P w0 ss .skip fr S Q = Q .normal fr S := rfl
theorem n_vw_seq (x y : Code) : vw P w0 ss (.seq x y) fr S Q = vw P w0 ss x fr S (thenQ (fun fr S => vw P w0 ss y fr S Q) Q) := rfl
theorem n_vw_cond (c : Operand) (x y : Code) : vw P w0 ss (.cond c x y) fr S Q = condD (ev fr c) (vw P w0 ss x fr S Q) (vw P w0 ss y fr S Q) := rfl
theorem n_vw_block (n : Nat) (c : Code) : vw P w0 ss (.block n c) fr S Q = selK (ss.contains (n + 1000)) (@AL P w0 fr S ⟨((.block n c), Q)⟩) (vw P w0 ss c fr S (blockQ n Q)) := rfl
theorem n_vw_exit (n : Nat) : vw P w0 ss (.exit n) fr S Q = Q (.exit n) fr S := rfl
theorem n_vw_ret : vw P w0 ss .ret fr S Q = Q .ret fr S := rfl
def normF (fr : List DV) (F : List DV → Prop) : Prop := F fr
@[congr] theorem c_normF {fr fr' : List DV} {F : List DV → Prop} (h : fr = fr') : normF fr F = normF fr' F := by cases h; rfl
theorem n_normF (d : DV) (fr : List DV) (F : List DV → Prop) : normF (d :: fr) F = F (d :: fr) := rfl
theorem n_normF_nil (F : List DV → Prop) : normF [] F = F [] := rfl
attribute [go_sem ↓] n_normF n_normF_nil
theorem n_vw_regF (n : Nat) (l : List Oper) : vw P w0 ss (.region n l.toArray false) fr S Q = selK (ss.contains n) (@AL P w0 fr S ⟨((.region n l.toArray false), Q)⟩) (vcL P w0 l.toArray (fun fr S => normF fr fun fr => Q .normal fr S) l fr S) := by simp [vw, selK, normF]
theorem n_vw_regT (n : Nat) (l : List Oper) : vw P w0 ss (.region n l.toArray true) fr S Q = selK (ss.contains n) (@AL P w0 fr S ⟨((.region n l.toArray true), Q)⟩) (vcLT P w0 S l.toArray (fun fr S => normF fr fun fr => Q .normal fr S) l fr) := by simp [vw, selK, normF]
section
variable {ops : Array Oper} {K : List DV → St → Prop} {rest : List Oper} {dst : Option Tmp} {op : Op} {ty : TypeId} {pos : String} {aft : Array Edge}
theorem n_LT_nil : vcLT P w0 S ops K [] fr = K fr S := rfl
theorem n_LT_none : vcLT P w0 S ops K (⟨dst, op, ty, pos, aft, none⟩ :: rest) fr = selK (isQ op) (vcOpQ P w0 op fr S fun d => vcLT P w0 S ops K rest (pt fr dst d)) (vcL P w0 ops K (⟨dst, op, ty, pos, aft, none⟩ :: rest) fr S) := rfl
theorem n_LT_some (j : Nat) (want : Bool) : vcLT P w0 S ops K (⟨dst, op, ty, pos, aft, some (j, want)⟩ :: rest) fr = selK (isQ op) (gK ((ops[j]?).bind (·.dst)) fr want (fun fr => vcOpQ P w0 op fr S fun d => vcLT P w0 S ops K rest (pt fr dst d)) (fun fr => vcLT P w0 S ops K rest (pt fr dst ud))) (vcL P w0 ops K (⟨dst, op, ty, pos, aft, some (j, want)⟩ :: rest) fr S) := by
  rw [← q_guard]; rfl
end
def normL (l : List Oper) (F : List Oper → Prop) : Prop := F l
@[congr] theorem c_normL {l l' : List Oper} {F : List Oper → Prop} (h : l = l') : normL l F = normL l' F := by cases h; rfl
theorem n_normL (l : List Oper) (F : List Oper → Prop) : normL l F = F l := rfl
theorem n_vw_regA (n : Nat) (l1 l2 : List Oper) (dr : Bool) : vw P w0 ss (.region n (l1.append l2).toArray dr) fr S Q = normL (l1.append l2) (fun l => vw P w0 ss (.region n l.toArray dr) fr S Q) := rfl
theorem n_vw_loop (c : Code) : vw P w0 ss (.loop c) fr S Q = @AL P w0 fr S ⟨((.loop c), Q)⟩ := rfl
@[congr] theorem c_vw {c : Code} {fr' : List DV} {S' : St} (h1 : fr = fr') (h2 : S = S') : vw P w0 ss c fr S Q = vw P w0 ss c fr' S' Q := by cases h1; cases h2; rfl
@[congr] theorem c_vcLT {ops : Array Oper} {K : List DV → St → Prop} {l : List Oper} {fr' : List DV} {S' : St} (h1 : fr = fr') (h2 : S = S') : vcLT P w0 S ops K l fr = vcLT P w0 S' ops K l fr' := by cases h1; cases h2; rfl
@[congr] theorem c_AWp {c : Code} {fr' : List DV} {S' : St} (h1 : fr = fr') (h2 : S = S') : AWp P w0 c fr S Q = AWp P w0 c fr' S' Q := by cases h1; cases h2; rfl
end
attribute [go_sem] n_normL List.contains_nil List.contains_cons
attribute [go_sem ↓] n_LT_nil n_LT_none n_LT_some n_vw_skip n_vw_seq n_vw_cond n_vw_block n_vw_exit n_vw_ret n_vw_regF n_vw_regT n_vw_loop
attribute [go_sem ↓ high] n_vw_regA
/-- What of it can be seen of the code alone. -/
def okC (ss : List Nat) : Code → Bool
  | .seq x y => okC ss x && okC ss y
  | .cond _ x y => okC ss x && okC ss y
  | .block n c => ss.contains (n + 1000) || okC ss c
  | .region n ops false => ss.contains n || ops.toList.all (fun o => okSl o.op)
  | .region n ops true => ss.contains n || (ops.toList.all (fun o => okSl o.op) && Region.lexB .any (ops.toList.take (npre ops.toList)).toArray && tailB .any ops (npre ops.toList))
  | _ => true
theorem vw_sound {ss : List Nat} (hm : P.follows .mixedOrders = true) : ∀ (c : Code) {fr : List DV} {S : St} {Q : Exit → List DV → St → Prop}, okC ss c = true → vw P w0 ss c fr S Q → AWp P w0 c fr S Q
  | .skip, fr, S, Q, _, h => awp_skip h
  | .seq x y, fr, S, Q, ho, h => by
    simp only [okC, Bool.and_eq_true] at ho
    exact awp_seq ((vw_sound hm x ho.1 h).mono fun e fr S hq => by cases e <;> first | exact vw_sound hm y ho.2 hq | exact hq)
  | .cond c x y, fr, S, Q, ho, h => by
    simp only [okC, Bool.and_eq_true] at ho
    exact awp_cond (condD_mono (fun h => vw_sound hm x ho.1 h) (fun h => vw_sound hm y ho.2 h) h)
  | .block n c, fr, S, Q, ho, h => by
    unfold vw selK at h
    unfold okC at ho
    split at h
    · exact h
    · rename_i hn
      rw [hn, Bool.false_or] at ho
      exact awp_block (vw_sound hm c ho h)
  | .exit n, fr, S, Q, _, h => awp_exit h
  | .ret, fr, S, Q, _, h => awp_ret h
  | .region n ops false, fr, S, Q, ho, h => by
    unfold vw at h
    unfold selK at h
    unfold okC at ho
    split at h
    · exact h
    rename_i hn
    rw [hn, Bool.false_or] at ho
    simp only at h
    have := vcL_sound _ ho h
    have := awp_region (id := n) (l := ops.toList) this
    simpa using this
  | .region n ops true, fr, S, Q, ho, h => by
    unfold vw at h
    unfold selK at h
    unfold okC at ho
    split at h
    · exact h
    rename_i hn
    rw [hn, Bool.false_or] at ho
    simp only [Bool.and_eq_true] at ho
    simp only at h
    have := awp_drawX (id := n) (l := ops.toList) (fr := fr) (S := S) (Q := Q) hm ho.1.2 ho.2 ho.1.1 h
    simpa using this
  | .loop c, fr, S, Q, _, h => h
  | .rangeFunc f ps a b, fr, S, Q, _, h => h
  | .scope c, fr, S, Q, _, h => h
  | .label l, fr, S, Q, _, h => h
  | .goto l, fr, S, Q, _, h => h
  | .refuse w, fr, S, Q, _, h => h

/-- A function, walked; n boxes and m growing slices of its own are forgotten. -/
theorem fnW (ss : List Nat) (n m : Nat) {f : FuncId} {fn : Func} {c : Code} {rs : List ResultVar} {args : List DV} {S : St} {K : DV → St → Prop} (hm : P.follows .mixedOrders = true) (hf : P.funcs[f]? = some fn) (hb : fn.body = some c) (hrs : fn.results = rs.toArray) (hc : okC ss c = true)
    (h : vw P w0 ss c (args ++ List.replicate (fn.ntmps - args.length) ud) S fun e fr S' => (e = .normal ∨ e = .ret) ∧ resK P fr S' rs fun d => shrT S' d fun d S'' => K d ⟨S''.box.drop n, S''.acc.drop m⟩) : ACall P w0 f args S K :=
  acall_fin n m hf hb hrs (vw_sound hm c hc h)
/-- The same, its result as it is. -/
theorem fnO (ss : List Nat) {f : FuncId} {fn : Func} {c : Code} {rs : List ResultVar} {args : List DV} {S : St} {K : DV → St → Prop} (hm : P.follows .mixedOrders = true) (hf : P.funcs[f]? = some fn) (hb : fn.body = some c) (hrs : fn.results = rs.toArray) (hc : okC ss c = true)
    (h : vw P w0 ss c (args ++ List.replicate (fn.ntmps - args.length) ud) S fun e fr S' => (e = .normal ∨ e = .ret) ∧ resK P fr S' rs fun d => K d S') : ACall P w0 f args S K :=
  acall_of hf hb hrs (vw_sound hm c hc h)

/-- A loop, walked. -/
theorem loopW {σ : Type} (ss : List Nat) (live : List Nat) (vals : σ → List (Nat × DV)) (st : σ → St) (inv : σ → Prop) (meas : σ → Nat) (s0 : σ) {c : Code} {fr : List DV} {S : St} {Q : Exit → List DV → St → Prop} (hm : P.follows .mixedOrders = true) (hc : okC ss c = true)
    (h0 : inv s0 ∧ upds (wk live fr) (vals s0) = wk live fr ∧ st s0 = S)
    (round : ∀ s, inv s → vw P w0 ss c (upds (wk live fr) (vals s)) (st s) (thenQ (fun fr' S' => ∃ s', inv s' ∧ meas s' < meas s ∧ wk live fr' = upds (wk live fr) (vals s') ∧ st s' = S') Q)) :
    AWp P w0 (.loop c) fr S Q :=
  awp_loopS live vals st inv meas s0 h0 fun s hs => vw_sound hm c hc (round s hs)

end
end Aml
