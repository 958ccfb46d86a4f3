/-
  The operations that make nothing and write nothing: what each gives on abstract values. By an AI agent.
-/
import Derived.Test.YtkibkahknibgfaaA2
namespace Aml
open Go Go.RowKit
set_option linter.unusedVariables false
set_option linter.unusedSimpArgs false

/-- What is wanted of a type. -/
inductive TK where
  | int (k : IntKind)
  | one
  | fn
  | str
  | sl (e s bytes : Nat) (ei : Bool)
  | st (fs : List (Nat × Nat × Bool)) (n : Nat)
  | ar (len e s : Nat) (ag : Bool) (n : Nat)
  | map (k e : Nat)
  | ptr (e : Nat)
  | ifc (ms : List String)
  | no
def isAggT (P : Program) (t : TypeId) : Bool := match P.underlying t with
  | some (.struct _) => true
  | some (.array _ _) => true
  | _ => false
/-- May rows of this type be made? -/
def okEl (P : Program) (e : TypeId) : Bool := match P.info? e with
  | some i => (match i.zero with
    | some z => z.cells.size == i.size && decide (0 < i.size)
    | none => false)
  | none => false
def tk (P : Program) (t : TypeId) : TK := match P.underlying t, P.info? t with
  | some (.int k), some _ => .int k
  | some .bool, some _ => .one
  | some .string, some _ => .str
  | some (.slice e), some _ => .sl e (P.cellsOf e) (P.bytesOf e) (okEl P e)
  | some (.struct fs), some i => if fs.toList.all (fun f => (P.info? f.type).isSome && (P.underlying f.type).isSome) then .st (fs.toList.map fun f => (f.offset, P.cellsOf f.type, isAggT P f.type)) i.size else .no
  | some (.array n e), some i => .ar n e (P.cellsOf e) (isAggT P e) i.size
  | some (.map k e), some _ => .map k e
  | some (.pointer e), some _ => .ptr e
  | some (.interface ms), some _ => .ifc (ms.toList.map (·.1))
  | some (.func ..), some _ => .fn
  | _, _ => .no

theorem tk_int {P : Program} {t : TypeId} {k : IntKind} (h : tk P t = .int k) : P.underlying t = some (.int k) := by
  unfold tk at h; split at h <;> (try split at h) <;> (try cases h) <;> assumption
theorem tk_str {P : Program} {t : TypeId} (h : tk P t = .str) : P.underlying t = some .string := by
  unfold tk at h; split at h <;> (try split at h) <;> (try cases h) <;> assumption
theorem tk_sl {P : Program} {t : TypeId} {e s y : Nat} {ei : Bool} (h : tk P t = .sl e s y ei) : P.underlying t = some (.slice e) ∧ P.cellsOf e = s ∧ P.bytesOf e = y ∧ okEl P e = ei := by
  unfold tk at h; split at h <;> (try split at h) <;> (try cases h)
  exact ⟨by assumption, rfl, rfl, rfl⟩
theorem tk_st {P : Program} {t : TypeId} {fs : List (Nat × Nat × Bool)} {n : Nat} (h : tk P t = .st fs n) :
    ∃ (F : Array Field) (i : TypeInfo), P.underlying t = some (.struct F) ∧ P.info? t = some i ∧ i.size = n ∧ (fs = F.toList.map fun f => (f.offset, P.cellsOf f.type, isAggT P f.type)) ∧ ∀ f, f ∈ F.toList → (P.info? f.type).isSome = true ∧ (P.underlying f.type).isSome = true := by
  unfold tk at h; split at h <;> (try cases h)
  split at h
  · rename_i ha
    cases h
    exact ⟨_, _, by assumption, by assumption, rfl, rfl, fun f hf => by simpa using List.all_eq_true.1 ha f hf⟩
  · cases h
theorem tk_ar {P : Program} {t : TypeId} {len e s n : Nat} {ag : Bool} (h : tk P t = .ar len e s ag n) :
    ∃ (i : TypeInfo), P.underlying t = some (.array len e) ∧ P.info? t = some i ∧ i.size = n ∧ s = P.cellsOf e ∧ ag = isAggT P e := by
  unfold tk at h; split at h <;> (try split at h) <;> (try cases h)
  exact ⟨_, by assumption, by assumption, rfl, rfl, rfl⟩

theorem okEl_spec {P : Program} {e : TypeId} (h : okEl P e = true) : ∃ i z, P.info? e = some i ∧ i.zero = some z ∧ z.cells.size = i.size ∧ 0 < i.size := by
  unfold okEl at h
  split at h
  · rename_i i hi
    split at h
    · rename_i z hz
      simp only [Bool.and_eq_true, beq_iff_eq, decide_eq_true_eq] at h
      exact ⟨i, z, hi, hz, h.1, h.2⟩
    · cases h
  · cases h

def hdK (ds : List DV) (K : DV → Prop) : Prop := match ds with
  | d :: _ => K d
  | [] => False
/-- Reading a variable of a type out of cells. -/
def ldK (k : TK) (ds : List DV) (K : DV → Prop) : Prop := match k with
  | .st _ n => n ≤ ds.length ∧ K (.agg (ds.take n))
  | .ar _ _ _ _ n => n ≤ ds.length ∧ K (.agg (ds.take n))
  | .no => False
  | _ => hdK ds K

section
variable {P : Program} {w0 : World} {g : Gh}
theorem rep_v {u x : Value} (r : Rep g (.v u) x) : x = u := by cases r; rfl
theorem rep_agg {ds : List DV} {x : Value} (r : Rep g (.agg ds) x) : ∃ us : List Value, x = .agg us.toArray ∧ RepL g ds us ∧ ∀ u, u ∈ us → u.oneCell' = true := by
  cases r with
  | agg _ us hl hr h1 => exact ⟨us, rfl, ⟨hl, hr⟩, h1⟩
theorem rep_tup {ds : List DV} {x : Value} (r : Rep g (.tup ds) x) : ∃ us : List Value, x = .tuple us.toArray ∧ RepL g ds us := by
  cases r with
  | tup _ us hl hr => exact ⟨us, rfl, ⟨hl, hr⟩⟩
theorem rep_ifc {t : TypeId} {d : DV} {x : Value} (r : Rep g (.ifc t d) x) : ∃ u, x = .iface t u ∧ Rep g d u := by
  cases r with
  | ifc _ _ u h => exact ⟨u, rfl, h⟩
theorem rep_acc {l n : Nat} {x : Value} (r : Rep g (.acc l n) x) : ∃ o c, x = .slice o n c ∧ g.acc l n = some (.slice o n c) := by
  cases r with
  | acc _ _ o c h => exact ⟨o, c, rfl, h⟩
theorem rep_ip {ds : List DV} {x : Value} (r : Rep g (.ip ds) x) : ∃ b o us, x = .pointer (some ⟨b, o, none⟩) ∧ RepL g ds us ∧ (∀ u, u ∈ us → u.oneCell' = true) ∧ ∀ (j : Nat) (x : Value), us[j]? = some x → g.imm b (o + j) = some x := by
  cases r with
  | ip _ b o us hl hr h1 hi => exact ⟨b, o, us, rfl, ⟨hl, hr⟩, h1, hi⟩
theorem rep_ap {l n s i o : Nat} {x : Value} (r : Rep g (.ap l n s i o) x) : ∃ b q c, x = .pointer (some ⟨b, q + i * s + o, none⟩) ∧ g.acc l n = some (.slice (some ⟨b, q, none⟩) n c) := by
  cases r with
  | ap _ _ _ _ _ b q c h => exact ⟨b, q, c, rfl, h⟩
theorem rep_sl {s : Nat} {f : Bool} {xs : List DV} {x : Value} (r : Rep g (.sl s f xs) x) :
    (xs = [] ∧ ∃ o c, x = .slice o 0 c ∧ (f = true → c = 0)) ∨
    ∃ b o c us, x = .slice (some ⟨b, o, none⟩) xs.length c ∧ RepL g xs us ∧ (f = true → c = xs.length) ∧ xs.length ≤ c ∧ c ≤ maxLen ∧ (∀ (i : Nat) (u : Value), us[i]? = some u → u.cells.size = s) ∧ (∀ (u : Value), u ∈ us → ∀ x, x ∈ u.cells.toList → x.oneCell' = true) ∧
      (∀ (i : Nat) (u : Value) (j : Nat) (x : Value), us[i]? = some u → u.cells[j]? = some x → g.imm b (o + i * s + j) = some x) := by
  cases r with
  | nil _ _ o c hc => exact .inl ⟨rfl, o, c, rfl, hc⟩
  | sl _ _ _ b o c us hl hf hc hm hr hz h1 hi => exact .inr ⟨b, o, c, us, by rw [hl], ⟨hl, hr⟩, by rw [hl]; exact hf, by rw [hl]; exact hc, hm, hz, h1, hi⟩

theorem add_plain (b o n : Nat) : (⟨b, o, none⟩ : Addr).add n = ⟨b, o + n, none⟩ := by
  unfold Addr.add; split <;> simp_all

/-- Reading a variable where its cells are known. -/
theorem load_ok {t : TypeId} {ds : List DV} {us : List Value} {b o : Nat} {w : World} {K : DV → Prop} (hr : RepL g ds us) (h1 : ∀ u, u ∈ us → u.oneCell' = true)
    (hc : ∀ (j : Nat) (x : Value), us[j]? = some x → w.cell? ⟨b, o + j, none⟩ = some x) (h : ldK (tk P t) ds K) :
    ∃ d u, (Instr.loadAt t (.pointer (some ⟨b, o, none⟩))).run P w = .ok u w ∧ Rep g d u ∧ K d := by
  have one : ∀ (dd : TypeDesc), P.underlying t = some dd → (match dd with | .struct _ | .array _ _ => true | _ => false) = false → hdK ds K →
      ∃ d u, (Instr.loadAt t (.pointer (some ⟨b, o, none⟩))).run P w = .ok u w ∧ Rep g d u ∧ K d := by
    intro dd hu hd hk
    cases ds with
    | nil => exact hk.elim
    | cons d ds =>
      obtain ⟨u, us', rfl, hd1, _⟩ := hr.uncons
      refine ⟨d, u, ?_, hd1, hk⟩
      have := hc 0 u (by simp)
      simp only [Nat.add_zero] at this
      have hagg : (isAgg t).run P w = .ok false w := by
        unfold isAgg
        rw [Sem.run_bind, run_underlying hu w]
        cases dd <;> simp_all
      simp [Instr.loadAt, Instr.sureAddr, loadVar, hagg, this]
  have agg : ∀ (dd : TypeDesc) (i : TypeInfo), P.underlying t = some dd → P.info? t = some i → (match dd with | .struct _ | .array _ _ => true | _ => false) = true → (i.size ≤ ds.length ∧ K (.agg (ds.take i.size))) →
      ∃ d u, (Instr.loadAt t (.pointer (some ⟨b, o, none⟩))).run P w = .ok u w ∧ Rep g d u ∧ K d := by
    intro dd i hu hi hd hk
    have hl : (loadCells ⟨b, o, none⟩ (us.take i.size).length).run P w = .ok (us.take i.size).toArray w :=
      run_loadCells_list (P := P) w ⟨b, o, none⟩ (us.take i.size) (fun j v hv => by
        rw [add_plain]
        rw [List.getElem?_take] at hv
        split at hv
        · exact hc j v hv
        · cases hv)
    have hlen : (us.take i.size).length = i.size := by have := hr.len; simp; omega
    rw [hlen] at hl
    have hagg : (isAgg t).run P w = .ok true w := by
      unfold isAgg
      rw [Sem.run_bind, run_underlying hu w]
      cases dd <;> simp_all
    refine ⟨.agg (ds.take i.size), .agg (us.take i.size).toArray, ?_, ?_, hk.2⟩
    · simp [Instr.loadAt, Instr.sureAddr, loadVar, hagg, Go.sizeOf, typeInfo, hi, hl]
    · exact .agg _ _ (hr.take _).len (hr.take _).at_ (fun u hu => h1 u (List.mem_of_mem_take hu))
  unfold tk at h
  split at h <;> (try split at h) <;> simp only [ldK] at h
  all_goals first
    | exact h.elim
    | exact agg _ _ (by assumption) (by assumption) rfl h
    | exact one _ (by assumption) rfl h
end
end Aml
