/-
  The walk over code by reckoning. By an AI agent.
-/
import Derived.Test.YtkibkahknibgfaaA13
namespace Aml
open Go Go.RowKit
set_option linter.unusedVariables false
set_option linter.unusedSimpArgs false

/-- The element type of a slice type. -/
def elT (P : Program) (t : TypeId) : TypeId := match tk P t with
  | .sl e _ _ _ => e
  | _ => 0

section
variable {P : Program} {w0 : World}

theorem zip_fst {α β : Type} : ∀ {l : List α} {r : List β}, l.length = r.length → (l.zip r).map (·.1) = l
  | [], _, _ => by simp
  | a :: l, [], h => by simp at h
  | a :: l, b :: r, h => by simp at h; simp [zip_fst h]
theorem zip_snd {α β : Type} : ∀ {l : List α} {r : List β}, l.length = r.length → (l.zip r).map (·.2) = r
  | [], [], _ => by simp
  | [], _ :: _, h => by simp at h
  | a :: l, [], h => by simp at h
  | a :: l, b :: r, h => by simp at h; simp [zip_snd h]

theorem y_buildS {o : Oper} {t : TypeId} {parts : List (Nat × Operand)} (ho : o.op = .build t parts.toArray) {ρD : Operand → DV} {S : St} {K : DV → St → Prop}
    (h : shrs S (parts.map fun p => ρD p.2) fun ds S => vBuild P t ((parts.map (·.1)).zip ds) (K · S)) : YieldsE P w0 o ρD S K := by
  intro g w ρ h1 h2 hcst
  have hR := repL_of_ops (g := g) (ρD := ρD) (ρ := ρ) parts (fun p hp => h2 p.2 (by simp only [ho, Op.operands]; simp; exact ⟨p.1, hp⟩))
  obtain ⟨g', ds, S', l1, R1, r1, k1⟩ := shrs_ok _ h1 hR h
  have hlen : (parts.map (·.1)).length = ds.length := by have := r1.len; simpa using this.symm
  obtain ⟨d, u, e1, e2, e3⟩ := build_core (P := P) (w := w) (g := g') (t := t) (parts := (parts.map (·.1)).zip ds) (vs := parts.map fun p => (p.1, ρ p.2)) (by rw [zip_fst hlen]; simp) (by rw [zip_snd hlen]; simpa [Function.comp_def] using r1) k1
  have hrun : (execOp ρ o).run P w = .ok (.value u) w := by
    have e : (parts.toArray.map fun (i, x) => (i, ρ x)) = (parts.map fun p => (p.1, ρ p.2)).toArray := by simp
    simp only [execOp, ho, Sem.run_bind]
    rw [e, e1]
    rfl
  rw [hrun]
  exact ⟨g', d, S', l1, R1, e2, e3⟩
theorem y_buildSliceS {o : Oper} {t len : Nat} {parts : List (Nat × Operand)} (ho : o.op = .buildSlice t len parts.toArray) {ρD : Operand → DV} {S : St} {K : DV → St → Prop}
    (h : shrs S (parts.map fun p => ρD p.2) fun ds S => vBuildSlice (tk P t) (zD P (elT P t)) len ((parts.map (·.1)).zip ds) (K · S)) : YieldsE P w0 o ρD S K := by
  intro g w ρ h1 h2 hcst
  have hR := repL_of_ops (g := g) (ρD := ρD) (ρ := ρ) parts (fun p hp => h2 p.2 (by simp only [ho, Op.operands]; simp; exact ⟨p.1, hp⟩))
  obtain ⟨g', ds, S', l1, R1, r1, k1⟩ := shrs_ok _ h1 hR h
  have hlen : (parts.map (·.1)).length = ds.length := by have := r1.len; simpa using this.symm
  obtain ⟨d, u, w', g2, e1, l2, R2, e2, e3⟩ := buildSlice_core (P := P) R1 (t := t) (len := len) (parts := (parts.map (·.1)).zip ds) (vs := parts.map fun p => (p.1, ρ p.2)) (by rw [zip_fst hlen]; simp) (by rw [zip_snd hlen]; simpa [Function.comp_def] using r1)
    (e := elT P t) (fun e' s b i hk => by simp [elT, hk]) k1
  have hrun : (execOp ρ o).run P w = .ok (.value u) w' := by
    have e : (parts.toArray.map fun (i, x) => (i, ρ x)) = (parts.map fun p => (p.1, ρ p.2)).toArray := by simp
    simp only [execOp, ho, Sem.run_bind]
    rw [e, e1]
    rfl
  rw [hrun]
  exact ⟨g2, d, S', l1.trans l2, R2, e2, e3⟩
theorem y_makeIfcS {o : Oper} {t : TypeId} {x : Operand} (ho : o.op = .makeInterface t x) {ρD : Operand → DV} {S : St} {K : DV → St → Prop} (h : isIfc (tk P t) = false ∧ shr S (ρD x) fun d S => K (.ifc t d) S) : YieldsE P w0 o ρD S K := by
  intro g w ρ h1 h2 hcst
  have hx := h2 x (by simp [ho, Op.operands])
  obtain ⟨d, hu, hd⟩ := tk_notIfc h.1
  obtain ⟨g', d', S', l1, R1, r1, k1⟩ := shr_ok h1 hx h.2
  have hrun : (execOp ρ o).run P w = .ok (.value (.iface t (ρ x))) w := by
    cases d <;> first | exact absurd rfl (hd _) | simp [execOp, ho, Instr.makeInterface, run_underlying hu]
  rw [hrun]
  exact ⟨g', _, S', l1, R1, .ifc t _ _ r1, k1⟩

/-- A slice of whatever holds elements. -/
def vSliceS (k : TK) (S : St) (x : DV) (lo hi mx : Option DV) (K : DV → St → Prop) : Prop := shr1 S x fun x S => vSlice k x lo hi mx (K · S)
theorem y_sliceS {o : Oper} {t : TypeId} {x : Operand} {lo hi mx : Option Operand} (ho : o.op = .slice t x lo hi mx) {ρD : Operand → DV} {S : St} {K : DV → St → Prop}
    (hh : mx.isSome = true → hi.isSome = true) (hne : (lo ≠ some x ∧ hi ≠ some x ∧ mx ≠ some x)) (h : vSliceS (tk P t) S (ρD x) (lo.map ρD) (hi.map ρD) (mx.map ρD) K) : YieldsE P w0 o ρD S K := by
  intro g w ρ h1 h2 hcst
  have hx := h2 x (by simp [ho, Op.operands])
  classical
  obtain ⟨g', d', S', l1, R1, r1, k1⟩ := shr1_ok h1 hx h
  have e : ∀ (y : Option Operand), y ≠ some x → y.map (fun z => if z = x then d' else ρD z) = y.map ρD := by
    intro y hy
    cases y with
    | none => rfl
    | some y => simp only [Option.map_some]; rw [if_neg (fun e => hy (by rw [e]))]
  have := y_slice (P := P) (w0 := w0) ho (ρD := fun z => if z = x then d' else ρD z) (S := S') (K := K) hh (by
    simp only [if_true]
    rw [e lo hne.1, e hi hne.2.1, e mx hne.2.2]
    exact k1) g' w ρ R1 (fun z hz => by
      by_cases hzx : z = x
      · simp only [hzx, if_true]; exact r1
      · simp only [hzx, if_false]; exact (h2 z hz).mono l1) hcst
  split at this
  · obtain ⟨g2, d, S2, l2, q⟩ := this
    exact ⟨g2, d, S2, l1.trans l2, q⟩
  · obtain ⟨g2, S2, l2, q⟩ := this
    exact ⟨g2, S2, l1.trans l2, q⟩
  · exact this.mono fun e w'' ⟨r, g2, d, S2, a, b, q⟩ => ⟨r, g2, d, S2, a, l1.trans b, q⟩
  · exact this
end
end Aml
