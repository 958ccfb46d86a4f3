/-
  The last of the operations that make nothing and write nothing. By an AI agent.
-/
import Derived.Test.YtkibkahknibgfaaA6
namespace Aml
open Go Go.RowKit
set_option linter.unusedVariables false
set_option linter.unusedSimpArgs false

section
variable {P : Program} {w0 : World}

def vLen (k : TK) (x : DV) (K : DV → Prop) : Prop := match k, x with
  | .sl _ _ _ _, .sl _ _ xs => K (.v (.int .i64 xs.length))
  | .sl _ _ _ _, .acc _ n => K (.v (.int .i64 n))
  | .str, .v (.string s) => K (.v (.int .i64 s.size))
  | _, _ => False
theorem rep_sl_len {g : Gh} {s : Nat} {f : Bool} {xs : List DV} {x : Value} (r : Rep g (.sl s f xs) x) : ∃ a c, x = .slice a xs.length c := by
  rcases rep_sl r with ⟨he, o', c, hv, hf⟩ | ⟨b, o', c', us, hv', _⟩
  · exact ⟨o', c, by rw [hv, he]; rfl⟩
  · exact ⟨_, _, hv'⟩
theorem y_len {o : Oper} {t : TypeId} {x : Operand} (ho : o.op = .call { callee := .builtin .len, args := #[x], argTypes := #[t] }) {ρD : Operand → DV} {S : St} {K : DV → St → Prop} (h : vLen (tk P t) (ρD x) (K · S)) : YieldsE P w0 o ρD S K := by
  refine y_value fun g w ρ h1 h2 => ?_
  have hx := h2 x (by simp [ho, Op.operands, Call.operands])
  unfold vLen at h
  split at h
  · rename_i hk hx'
    rw [hx'] at hx
    obtain ⟨a, c, hv⟩ := rep_sl_len hx
    exact ⟨_, _, by simp [execOp, ho, resolve, invoke, builtin, hv, Builtin.len_, run_underlying (tk_sl hk).1, goInt], .v _ rfl, h⟩
  · rename_i hk hx'
    rw [hx'] at hx
    obtain ⟨a, c, hv, _⟩ := rep_acc hx
    exact ⟨_, _, by simp [execOp, ho, resolve, invoke, builtin, hv, Builtin.len_, run_underlying (tk_sl hk).1, goInt], .v _ rfl, h⟩
  · rename_i hk hx'
    rw [hx'] at hx
    exact ⟨_, _, by simp [execOp, ho, resolve, invoke, builtin, rep_v hx, Builtin.len_, run_underlying (tk_str hk), goInt], .v _ rfl, h⟩
  · exact h.elim

def vMin (x y : DV) (K : DV → Prop) : Prop := match x, y with
  | .v (.int k m), .v (.int k' n) => K (.v (.int k (if n < m then n else m)))
  | _, _ => False
theorem y_min {o : Oper} {ts : Array TypeId} {x y : Operand} (ho : o.op = .call { callee := .builtin .min, args := #[x, y], argTypes := ts }) {ρD : Operand → DV} {S : St} {K : DV → St → Prop} (h : vMin (ρD x) (ρD y) (K · S)) : YieldsE P w0 o ρD S K := by
  refine y_value fun g w ρ h1 h2 => ?_
  have hx := h2 x (by simp [ho, Op.operands, Call.operands])
  have hy := h2 y (by simp [ho, Op.operands, Call.operands])
  unfold vMin at h
  split at h
  · rename_i k m k' n e1 e2
    rw [e1] at hx; rw [e2] at hy
    exact ⟨_, _, by simp [execOp, ho, resolve, invoke, builtin, rep_v hx, rep_v hy, Builtin.min_, Builtin.min2], .v _ rfl, h⟩
  · exact h.elim
def vMax (x y : DV) (K : DV → Prop) : Prop := match x, y with
  | .v (.int k m), .v (.int k' n) => K (.v (.int k (if m < n then n else m)))
  | _, _ => False
theorem y_max {o : Oper} {ts : Array TypeId} {x y : Operand} (ho : o.op = .call { callee := .builtin .max, args := #[x, y], argTypes := ts }) {ρD : Operand → DV} {S : St} {K : DV → St → Prop} (h : vMax (ρD x) (ρD y) (K · S)) : YieldsE P w0 o ρD S K := by
  refine y_value fun g w ρ h1 h2 => ?_
  have hx := h2 x (by simp [ho, Op.operands, Call.operands])
  have hy := h2 y (by simp [ho, Op.operands, Call.operands])
  unfold vMax at h
  split at h
  · rename_i k m k' n e1 e2
    rw [e1] at hx; rw [e2] at hy
    exact ⟨_, .int k (if m < n then n else m), by simp [execOp, ho, resolve, invoke, builtin, rep_v hx, rep_v hy, Builtin.max_, Builtin.max2], .v _ rfl, h⟩
  · exact h.elim

def notNil : DV → Bool
  | .v (.pointer (some _)) => true
  | .v (.func (.func _) _ _) => true
  | .ip _ => true
  | .ap _ _ _ _ _ => true
  | .ifc _ _ => true
  | _ => false
theorem y_nilCheck {o : Oper} {x : Operand} (ho : o.op = .nilCheck x) {ρD : Operand → DV} {S : St} {K : DV → St → Prop} (h : notNil (ρD x) = true ∧ K (ρD x) S) : YieldsE P w0 o ρD S K := by
  refine y_value fun g w ρ h1 h2 => ?_
  have hx := h2 x (by simp [ho, Op.operands])
  obtain ⟨hn, hk⟩ := h
  unfold notNil at hn
  split at hn
  · rename_i a e; rw [e] at hx hk; exact ⟨_, _, by simp [execOp, ho, rep_v hx], .v _ rfl, hk⟩
  · rename_i f a b e; rw [e] at hx hk; exact ⟨_, _, by simp [execOp, ho, rep_v hx], .v _ rfl, hk⟩
  · rename_i ds e; rw [e] at hx hk
    obtain ⟨b, o', us, hv, _⟩ := rep_ip hx
    exact ⟨_, ρ x, by simp [execOp, ho, hv], hx, hk⟩
  · rename_i e; rw [e] at hx hk
    obtain ⟨b, q, c, hv, _⟩ := rep_ap hx
    exact ⟨_, ρ x, by simp [execOp, ho, hv], hx, hk⟩
  · rename_i e; rw [e] at hx hk
    obtain ⟨u, hv, _⟩ := rep_ifc hx
    exact ⟨_, ρ x, by simp [execOp, ho, hv], hx, hk⟩
  · cases hn

def isIfc : TK → Bool
  | .ifc _ => true
  | .no => true
  | _ => false
theorem tk_notIfc {t : TypeId} (h : isIfc (tk P t) = false) : ∃ d, P.underlying t = some d ∧ ∀ m, d ≠ .interface m := by
  unfold tk at h
  split at h <;> (try split at h) <;> first | (cases h; done) | exact ⟨_, by assumption, by simp⟩
theorem y_makeIfc {o : Oper} {t : TypeId} {x : Operand} (ho : o.op = .makeInterface t x) {ρD : Operand → DV} {S : St} {K : DV → St → Prop} (h : isIfc (tk P t) = false ∧ K (.ifc t (ρD x)) S) : YieldsE P w0 o ρD S K := by
  refine y_value fun g w ρ h1 h2 => ?_
  have hx := h2 x (by simp [ho, Op.operands])
  obtain ⟨d, hu, hd⟩ := tk_notIfc h.1
  refine ⟨_, _, ?_, .ifc t _ _ hx, h.2⟩
  cases d <;> first | exact absurd rfl (hd _) | simp [execOp, ho, Instr.makeInterface, run_underlying hu]

/-- The zero value of a type. -/
def zD (P : Program) (t : TypeId) : DV := match (P.info? t).bind (·.zero) with
  | some z => cv z
  | none => .any
theorem zD_run {t : TypeId} {d : DV} (h : zD P t = d) (hd : okE d = true) (w : World) : ∃ z, (zeroValue t).run P w = .ok z w ∧ ∀ g, Rep g d z := by
  unfold zD at h
  split at h
  · rename_i z hz
    obtain ⟨i, hi, hz'⟩ := Option.bind_eq_some_iff.1 hz
    exact ⟨z, by simp [zeroValue, typeInfo, hi, hz'], fun g => h ▸ rep_cv g z⟩
  · subst h; cases hd

def vAssert (P : Program) (t : TypeId) (ok : Bool) (x : DV) (K : DV → Prop) : Prop := isIfc (tk P t) = false ∧ (match x with
  | .ifc t' d => (t' = t → (if ok then K (.tup [d, .v (.bool true)]) else K d)) ∧ (t' ≠ t → ok = true ∧ okE (zD P t) = true ∧ K (.tup [zD P t, .v (.bool false)]))
  | .v .nilIface => ok = true ∧ okE (zD P t) = true ∧ K (.tup [zD P t, .v (.bool false)])
  | _ => False)
theorem repL_two {g : Gh} {d e : DV} {u v : Value} (h : Rep g d u) (k : Rep g e v) : Rep g (.tup [d, e]) (.tuple #[u, v]) :=
  let r := RepL.cons h (RepL.cons k (RepL.nil g))
  Rep.tup (g := g) [d, e] [u, v] r.len r.at_
theorem y_assert {o : Oper} {t xT : TypeId} {ok : Bool} {x : Operand} (ho : o.op = .typeAssert x xT t ok) {ρD : Operand → DV} {S : St} {K : DV → St → Prop} (h : vAssert P t ok (ρD x) (K · S)) : YieldsE P w0 o ρD S K := by
  refine y_value fun g w ρ h1 h2 => ?_
  have hx := h2 x (by simp [ho, Op.operands])
  obtain ⟨hi, h⟩ := h
  obtain ⟨dd, hu, hd⟩ := tk_notIfc hi
  split at h
  · rename_i t' d e
    rw [e] at hx
    obtain ⟨u, hv, hr⟩ := rep_ifc hx
    by_cases ht : t' = t
    · have h := h.1 ht
      cases ok
      · refine ⟨d, u, ?_, hr, h⟩
        cases dd <;> first | exact absurd rfl (hd _) | simp [execOp, ho, Instr.typeAssert, run_underlying hu, hv, ht]
      · refine ⟨_, _, ?_, repL_two hr (.v (.bool true) rfl), h⟩
        cases dd <;> first | exact absurd rfl (hd _) | simp [execOp, ho, Instr.typeAssert, run_underlying hu, hv, ht]
    · obtain ⟨rfl, hz, h⟩ := h.2 ht
      obtain ⟨z, hzr, hzz⟩ := zD_run (P := P) rfl hz w
      refine ⟨_, _, ?_, repL_two (hzz g) (.v (.bool false) rfl), h⟩
      cases dd <;> first | exact absurd rfl (hd _) | simp [execOp, ho, Instr.typeAssert, run_underlying hu, hv, ht, hzr]
  · rename_i e
    rw [e] at hx
    obtain ⟨rfl, hz, h⟩ := h
    obtain ⟨z, hzr, hzz⟩ := zD_run (P := P) rfl hz w
    refine ⟨_, _, ?_, repL_two (hzz g) (.v (.bool false) rfl), h⟩
    cases dd <;> first | exact absurd rfl (hd _) | simp [execOp, ho, Instr.typeAssert, run_underlying hu, rep_v hx, hzr]
  · exact h.elim

/-- Putting cells into a row. -/
def setAll (ds : List DV) (o : Nat) : List DV → List DV
  | [] => ds
  | c :: cs => setAll (ds.set o c) (o + 1) cs
def setAllV (ds : List Value) (o : Nat) : List Value → List Value
  | [] => ds
  | c :: cs => setAllV (ds.set o c) (o + 1) cs
theorem repL_setAll {g : Gh} : ∀ {cs : List DV} {vs : List Value} {ds : List DV} {us : List Value} {o : Nat}, RepL g ds us → RepL g cs vs → RepL g (setAll ds o cs) (setAllV us o vs)
  | [], vs, ds, us, o, h, k => by have := k.len; cases vs with | nil => exact h | cons _ _ => simp at this
  | c :: cs, vs, ds, us, o, h, k => by
    obtain ⟨u, us', rfl, hu, hk⟩ := k.uncons
    show RepL g (setAll (ds.set o c) (o + 1) cs) (setAllV (us.set o u) (o + 1) us')
    exact repL_setAll (h.set o hu) hk
theorem length_setAllV (vs : List Value) : ∀ (us : List Value) (o : Nat), (setAllV us o vs).length = us.length := by
  induction vs with
  | nil => intro us o; rfl
  | cons v vs ih => intro us o; rw [setAllV, ih]; simp
theorem mem_setAllV (vs : List Value) : ∀ (us : List Value) (o : Nat) (x : Value), x ∈ setAllV us o vs → x ∈ us ∨ x ∈ vs := by
  induction vs with
  | nil => intro us o x h; exact .inl h
  | cons v vs ih =>
    intro us o x h
    rcases ih _ _ _ h with h | h
    · rcases List.mem_or_eq_of_mem_set h with h | h
      · exact .inl h
      · exact .inr (by rw [h]; exact List.mem_cons_self)
    · exact .inr (List.mem_cons_of_mem _ h)

def fillD (fs : List (Nat × Nat × Bool)) (ds : List DV) : List (Nat × DV) → Option (List DV)
  | [] => some ds
  | (i, d) :: rest => match fs[i]? with
    | none => none
    | some (off, sz, _) => if okE d && (cd d).length == sz && decide (off + sz ≤ ds.length) then fillD fs (setAll ds off (cd d)) rest else none

theorem zip_set (off : Nat) : ∀ (vs : List Value) (j : Nat) (cs : Array Value), (vs.zipIdx j).foldl (fun cs p => cs.setIfInBounds (off + p.2) p.1) cs = (setAllV cs.toList (off + j) vs).toArray := by
  intro vs
  induction vs with
  | nil => intro j cs; simp [setAllV]
  | cons v vs ih =>
    intro j cs
    simp only [List.zipIdx_cons, List.foldl_cons]
    rw [ih]
    simp [setAllV, Nat.add_assoc]
theorem fill_ok {g : Gh} {fs : List (Nat × Nat × Bool)} {places : Nat → Option (Nat × Nat)} (hp : ∀ i, places i = (fs[i]?).map fun p => (p.1, p.2.1)) :
    ∀ (parts : List (Nat × DV)) (vs : List (Nat × Value)) (ds : List DV) (cs : Array Value) (out : List DV), parts.map (·.1) = vs.map (·.1) → RepL g (parts.map (·.2)) (vs.map (·.2)) → RepL g ds cs.toList → (∀ u, u ∈ cs.toList → u.oneCell' = true) →
      fillD fs ds parts = some out → ∃ cs', Instr.fill places cs vs = some cs' ∧ RepL g out cs'.toList ∧ ∀ u, u ∈ cs'.toList → u.oneCell' = true
  | [], vs, ds, cs, out, h1, h2, h3, h4, h => by
    cases vs with
    | nil => simp only [fillD, Option.some.injEq] at h; subst h; exact ⟨cs, rfl, h3, h4⟩
    | cons _ _ => simp at h1
  | (i, d) :: parts, vs, ds, cs, out, h1, h2, h3, h4, h => by
    cases vs with
    | nil => simp at h1
    | cons p vs =>
      obtain ⟨j, v⟩ := p
      simp only [List.map_cons, List.cons.injEq] at h1
      obtain ⟨rfl, h1⟩ := h1
      obtain ⟨u, us', he, hd, h2⟩ := RepL.uncons (ds := parts.map (·.2)) (d := d) (by simpa using h2)
      simp only [List.cons.injEq] at he
      obtain ⟨rfl, rfl⟩ := he
      simp only [fillD] at h
      cases hf : fs[i]? with
      | none => simp [hf] at h
      | some q =>
        obtain ⟨off, sz, ag⟩ := q
        simp only [hf] at h
        split at h
        · rename_i hc
          simp only [Bool.and_eq_true, beq_iff_eq, decide_eq_true_eq] at hc
          obtain ⟨⟨hok, hsz⟩, hle⟩ := hc
          have hcl := hd.cells hok
          have hlen : v.cells.size = sz := by have := hcl.len; rw [hsz] at this; simpa using this.symm
          have hcs : cs.size = ds.length := by have := h3.len; simpa using this.symm
          have hfold : v.cells.zipIdx.foldl (fun cs (c, j) => cs.setIfInBounds (off + j) c) cs = (setAllV cs.toList off v.cells.toList).toArray := by
            have := zip_set off v.cells.toList 0 cs
            rw [← Array.foldl_toList, Array.toList_zipIdx]
            simpa using this
          have step : Instr.fill places cs ((i, v) :: vs) = Instr.fill places (setAllV cs.toList off v.cells.toList).toArray vs := by
            rw [Instr.fill, hp i, hf]
            simp only [Option.map_some]
            rw [if_neg (by simp [hlen]; omega)]
            rw [hfold]
          rw [step]
          refine fill_ok hp parts vs _ _ out h1 h2 (repL_setAll h3 hcl) ?_ h
          intro u hu
          rcases mem_setAllV _ _ _ _ hu with hu | hu
          · exact h4 u hu
          · exact hd.one hok u hu
        · cases h

def vBuild (P : Program) (t : TypeId) (parts : List (Nat × DV)) (K : DV → Prop) : Prop := match tk P t, zD P t with
  | .st fs _, .agg zs => match fillD fs zs parts with
    | some ds => K (.agg ds)
    | none => False
  | _, _ => False
theorem repL_of_ops {g : Gh} {ρD : Operand → DV} {ρ : Operand → Value} : ∀ (l : List (Nat × Operand)), (∀ p, p ∈ l → Rep g (ρD p.2) (ρ p.2)) → RepL g (l.map fun p => ρD p.2) (l.map fun p => ρ p.2)
  | [], _ => RepL.nil g
  | p :: l, h => RepL.cons (h p List.mem_cons_self) (repL_of_ops l fun q hq => h q (List.mem_cons_of_mem _ hq))
theorem build_core {g : Gh} {w : World} {t : TypeId} {parts : List (Nat × DV)} {vs : List (Nat × Value)} (hx : parts.map (·.1) = vs.map (·.1)) (hR : RepL g (parts.map (·.2)) (vs.map (·.2))) {K : DV → Prop} (h : vBuild P t parts K) :
    ∃ d u, (Instr.build t vs.toArray).run P w = .ok u w ∧ Rep g d u ∧ K d := by
  unfold vBuild at h
  split at h
  · rename_i fs n zs hk hz
    obtain ⟨F, i, hu, hi, _, rfl, hall⟩ := tk_st hk
    split at h
    · rename_i ds hf
      unfold zD at hz
      split at hz
      · rename_i z hzz
        simp only [hi, Option.bind_some] at hzz
        have hrz := rep_cv g z
        rw [hz] at hrz
        obtain ⟨us, hzv, hr, hone⟩ := rep_agg hrz
        have hpl : F.toList.mapM (fun f => (P.info? f.type).map fun i => (f.offset, i.size)) = some (F.toList.map fun f => (f.offset, P.cellsOf f.type)) := by
          have : ∀ (l : List Field), (∀ f, f ∈ l → (P.info? f.type).isSome = true) → l.mapM (fun f => (P.info? f.type).map fun i => (f.offset, i.size)) = some (l.map fun f => (f.offset, P.cellsOf f.type)) := by
            intro l
            induction l with
            | nil => intro _; rfl
            | cons f l ih =>
              intro hl
              have hf := hl f List.mem_cons_self
              obtain ⟨j, hj⟩ := Option.isSome_iff_exists.1 hf
              simp [List.mapM_cons, hj, ih (fun f hf => hl f (List.mem_cons_of_mem _ hf)), Program.cellsOf]
          exact this _ fun f hf => (hall f hf).1
        obtain ⟨cs', hfill, hrep, hone'⟩ := fill_ok (g := g) (fs := F.toList.map fun f => (f.offset, P.cellsOf f.type, isAggT P f.type)) (places := ((F.toList.map fun f => (f.offset, P.cellsOf f.type)).toArray[·]?))
          (by intro i; simp [Function.comp_def]) parts vs zs us.toArray ds hx hR (by simpa using hr) (by simpa using hone) hf
        have hb : P.built t vs = some cs' := by
          unfold Program.built
          simp only [hi, hu, hzz, hpl, hzv, Value.cells]
          exact hfill
        have hrun := run_build (P := P) w t vs.toArray cs' (by simpa using hb)
        refine ⟨.agg ds, .agg cs', hrun, ?_, h⟩
        have := Rep.agg (g := g) ds cs'.toList hrep.len hrep.at_ hone'
        simpa using this
      · cases hz
    · exact h.elim
  · exact h.elim

/-- A closure over values that are plain. -/
def vals : List DV → Option (List Value)
  | [] => some []
  | .v u :: ds => (vals ds).map (u :: ·)
  | _ :: _ => none
theorem vals_rep {g : Gh} : ∀ {ds : List DV} {us vs : List Value}, vals ds = some vs → RepL g ds us → us = vs
  | [], us, vs, h, r => by simp only [vals, Option.some.injEq] at h; subst h; have := r.len; cases us <;> simp_all
  | d :: ds, us, vs, h, r => by
    obtain ⟨u, us', rfl, hu, hr⟩ := r.uncons
    unfold vals at h
    split at h
    · rename_i e; cases e
    · rename_i u' ds' e
      simp only [List.cons.injEq] at e
      obtain ⟨rfl, rfl⟩ := e
      obtain ⟨vs', hv, rfl⟩ := Option.map_eq_some_iff.1 h
      rw [rep_v hu, vals_rep hv hr]
    · cases h
def vFunc (fn : Fn) (a b : List DV) (K : DV → Prop) : Prop := match vals a, vals b with
  | some us, some vs => K (.v (.func fn us.toArray vs.toArray))
  | _, _ => False
theorem repL_of_opsA {g : Gh} {ρD : Operand → DV} {ρ : Operand → Value} : ∀ (l : List Operand), (∀ p, p ∈ l → Rep g (ρD p) (ρ p)) → RepL g (l.map ρD) (l.map ρ)
  | [], _ => RepL.nil g
  | p :: l, h => RepL.cons (h p List.mem_cons_self) (repL_of_opsA l fun q hq => h q (List.mem_cons_of_mem _ hq))
theorem y_makeFunc {o : Oper} {fn : Fn} {a b : List Operand} (ho : o.op = .makeFunc fn a.toArray b.toArray) {ρD : Operand → DV} {S : St} {K : DV → St → Prop} (h : vFunc fn (a.map ρD) (b.map ρD) (K · S)) : YieldsE P w0 o ρD S K := by
  refine y_value fun g w ρ h1 h2 => ?_
  have ha := repL_of_opsA (g := g) (ρD := ρD) (ρ := ρ) a (fun p hp => h2 p (by simp [ho, Op.operands, hp]))
  have hb := repL_of_opsA (g := g) (ρD := ρD) (ρ := ρ) b (fun p hp => h2 p (by simp [ho, Op.operands, hp]))
  unfold vFunc at h
  split at h
  · rename_i us vs e1 e2
    have ea := vals_rep e1 ha
    have eb := vals_rep e2 hb
    exact ⟨_, _, by simp [execOp, ho, Instr.makeFunc, ea, eb], .v _ rfl, h⟩
  · exact h.elim
end
end Aml
