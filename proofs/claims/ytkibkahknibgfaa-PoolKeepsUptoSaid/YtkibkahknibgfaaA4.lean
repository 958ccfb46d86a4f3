/-
  The operations that make nothing and write nothing, one by one. By an AI agent.
-/
import Derived.Test.YtkibkahknibgfaaA3
namespace Aml
open Go Go.RowKit
set_option linter.unusedVariables false
set_option linter.unusedSimpArgs false

section
variable {P : Program} {w0 : World}

/-- A value without a change of the store. -/
theorem y_value {o : Oper} {ρD : Operand → DV} {S : St} {K : DV → St → Prop}
    (h : ∀ g w (ρ : Operand → Value), Rel w0 g S w → (∀ x, x ∈ o.op.operands.toList → Rep g (ρD x) (ρ x)) → ∃ d u, (execOp ρ o).run P w = .ok (.value u) w ∧ Rep g d u ∧ K d S) : YieldsE P w0 o ρD S K := by
  intro g w ρ h1 h2 hcst
  obtain ⟨d, u, hr, hd, hk⟩ := h g w ρ h1 h2
  rw [hr]
  exact ⟨g, d, S, .refl g, h1, hd, hk⟩

/-- The same, where constants are what they are. -/
theorem y_valueC {o : Oper} {ρD : Operand → DV} {S : St} {K : DV → St → Prop}
    (h : ∀ g w (ρ : Operand → Value), Rel w0 g S w → (∀ x, x ∈ o.op.operands.toList → Rep g (ρD x) (ρ x)) → (∀ u, ρ (.const u) = u) → ∃ d u, (execOp ρ o).run P w = .ok (.value u) w ∧ Rep g d u ∧ K d S) : YieldsE P w0 o ρD S K := by
  intro g w ρ h1 h2 hcst
  obtain ⟨d, u, hr, hd, hk⟩ := h g w ρ h1 h2 hcst
  rw [hr]
  exact ⟨g, d, S, .refl g, h1, hd, hk⟩

theorem y_move {o : Oper} {x : Operand} (ho : o.op = .move x) {ρD : Operand → DV} {S : St} {K : DV → St → Prop} (h : K (ρD x) S) : YieldsE P w0 o ρD S K :=
  y_value fun g w ρ h1 h2 => ⟨ρD x, ρ x, by simp [execOp, ho], h2 x (by simp [ho, Op.operands]), h⟩
theorem y_assign {o : Oper} {x : Operand} (ho : o.op = .assign x) {ρD : Operand → DV} {S : St} {K : DV → St → Prop} (h : K (ρD x) S) : YieldsE P w0 o ρD S K :=
  y_value fun g w ρ h1 h2 => ⟨ρD x, ρ x, by simp [execOp, ho], h2 x (by simp [ho, Op.operands]), h⟩

def vPick (c a b : DV) (K : DV → Prop) : Prop := match c with
  | .v (.bool t) => (t = true → K a) ∧ (t = false → K b)
  | _ => False
theorem y_pick {o : Oper} {c a b : Operand} (ho : o.op = .pick c a b) {ρD : Operand → DV} {S : St} {K : DV → St → Prop} (h : vPick (ρD c) (ρD a) (ρD b) (K · S)) : YieldsE P w0 o ρD S K := by
  refine y_value fun g w ρ h1 h2 => ?_
  have hc := h2 c (by simp [ho, Op.operands])
  have ha := h2 a (by simp [ho, Op.operands])
  have hb := h2 b (by simp [ho, Op.operands])
  unfold vPick at h
  split at h
  · rename_i t hct
    rw [hct] at hc
    have hv := rep_v hc
    cases t
    · exact ⟨_, _, by simp [execOp, ho, hv, asBool], hb, h.2 rfl⟩
    · exact ⟨_, _, by simp [execOp, ho, hv, asBool], ha, h.1 rfl⟩
  · exact h.elim

/-- Loads. -/
def vLoad (k : TK) (S : St) (x : DV) (K : DV → Prop) : Prop := match x with
  | .v (.pointer (some ⟨b, o, none⟩)) => match lk S.box b with
    | some ds => ldK k (ds.drop o) K
    | none => False
  | .ip ds => ldK k ds K
  | .ap l n s i o => match lk S.acc l with
    | some (.arr s' xs) => xs.length = n ∧ s' = s ∧ ∃ d, xs[i]? = some d ∧ okE d = true ∧ ldK k ((cd d).drop o) K
    | some (.tl s' xs) => xs.length = n ∧ s' = s ∧ ∃ d, xs[i]? = some d ∧ okE d = true ∧ ldK k ((cd d).drop o) K
    | none => False
  | _ => False

theorem Rel.box_at {g : Gh} {S : St} {w : World} (h : Rel w0 g S w) {b : Nat} {ds : List DV} (hb : lk S.box b = some ds) :
    w0.heap.size ≤ b ∧ (∀ i, g.imm b i = none) ∧ ∃ us e, w.heap[b]? = some (.cells us e (0, 0)) ∧ RepL g ds us.toList ∧ ∀ u, u ∈ us.toList → u.oneCell' = true := by
  obtain ⟨ow, h1, _⟩ := h.own
  exact (h1 b ds (lk_mem hb)).2

theorem cells_at {w : World} {b e : Nat} {cs : Array Value} {fr : Nat × Nat} (h : w.heap[b]? = some (.cells cs e fr)) (j : Nat) : w.cell? ⟨b, j, none⟩ = cs[j]? := cell_of_row w b j cs e fr h

/-- Reading an element of a growing slice. -/
theorem Rel.acc_cells {g : Gh} {S : St} {w : World} (h : Rel w0 g S w) {l b q c : Nat} {ob : Ob} (hl : lk S.acc l = some ob) {s : Nat} {xs : List DV} (hob : ob = .arr s xs ∨ ob = .tl s xs)
    (ha : g.acc l xs.length = some (.slice (some ⟨b, q, none⟩) xs.length c)) {i : Nat} {d : DV} (hi : xs[i]? = some d) (hd : okE d = true) :
    ∃ us : List Value, RepL g (cd d) us ∧ (∀ u, u ∈ us → u.oneCell' = true) ∧ ∀ (j : Nat) (x : Value), us[j]? = some x → w.cell? ⟨b, q + i * s + j, none⟩ = some x := by
  obtain ⟨ow, _, h2⟩ := h.own
  have hlt : i < xs.length := (List.getElem?_eq_some_iff.1 hi).1
  have key : ∀ us : List Value, RepL g xs us → (∀ (i : Nat) (u : Value) (j : Nat) (x : Value), us[i]? = some u → u.cells[j]? = some x → w.cell? ⟨b, q + i * s + j, none⟩ = some x) →
      ∃ us : List Value, RepL g (cd d) us ∧ (∀ u, u ∈ us → u.oneCell' = true) ∧ ∀ (j : Nat) (x : Value), us[j]? = some x → w.cell? ⟨b, q + i * s + j, none⟩ = some x := by
    intro us hr hc
    have hlt' : i < us.length := by rw [← hr.len]; exact hlt
    have hu : us[i]? = some us[i] := List.getElem?_eq_getElem hlt'
    have r := hr.at_ i d _ hi hu
    exact ⟨_, r.cells hd, r.one hd, fun j x hx => hc i _ j x hu (by simpa using hx)⟩
  have imm : ∀ {f : Bool} {u : Value}, u = .slice (some ⟨b, q, none⟩) xs.length c → Rep g (.sl s f xs) u → ∃ us : List Value, RepL g (cd d) us ∧ (∀ u, u ∈ us → u.oneCell' = true) ∧ ∀ (j : Nat) (x : Value), us[j]? = some x → w.cell? ⟨b, q + i * s + j, none⟩ = some x := by
    intro f u hu r
    rcases rep_sl r with ⟨he, _⟩ | ⟨b', o', c', us, hx, hr, _, _, _, hz, _, hc⟩
    · rw [he] at hlt; exact absurd hlt (by simp)
    · rw [hu] at hx
      simp only [Value.slice.injEq, Option.some.injEq, Addr.mk.injEq] at hx
      obtain ⟨⟨rfl, rfl, _⟩, _⟩ := hx
      exact key us hr fun i u j x h1 h2 => h.imm _ _ _ (hc i u j x h1 h2)
  rcases hob with rfl | rfl
  · have := h2 l _ (lk_mem hl)
    obtain ⟨_, ⟨he, _⟩ | ⟨b', c', cs, e, h3, _, _, _, hh, _, _, _, us, hr, hz, _, hc⟩⟩ := this
    · rw [he] at hlt; exact absurd hlt (by simp)
    · rw [ha] at h3
      simp only [Option.some.injEq, Value.slice.injEq, Addr.mk.injEq, and_true, true_and] at h3
      obtain ⟨⟨rfl, rfl⟩, rfl⟩ := h3
      exact key us hr fun i u j x h1 h2 => by rw [cells_at hh, Nat.zero_add]; exact hc i u j x h1 h2
  · have := h2 l _ (lk_mem hl)
    obtain ⟨_, ⟨u, h3, r⟩ | ⟨b', c', cs, e, h3, _, _, _, hh, _, _, _, r⟩⟩ := this
    · rw [ha] at h3
      exact imm (Option.some.inj h3).symm r
    · rw [ha] at h3
      exact imm (Option.some.inj h3).symm r

theorem y_load {o : Oper} {t : TypeId} {x : Operand} (ho : o.op = .load t x) {ρD : Operand → DV} {S : St} {K : DV → St → Prop} (h : vLoad (tk P t) S (ρD x) (K · S)) : YieldsE P w0 o ρD S K := by
  refine y_value fun g w ρ h1 h2 => ?_
  have hx := h2 x (by simp [ho, Op.operands])
  have fin : ∀ {b o' : Nat} {ds : List DV} {us : List Value}, ρ x = .pointer (some ⟨b, o', none⟩) → RepL g ds us → (∀ u, u ∈ us → u.oneCell' = true) → (∀ (j : Nat) (x : Value), us[j]? = some x → w.cell? ⟨b, o' + j, none⟩ = some x) →
      ldK (tk P t) ds (K · S) → ∃ d u, (execOp ρ o).run P w = .ok (.value u) w ∧ Rep g d u ∧ K d S := by
    intro b o' ds us hv hr hone hc hk
    obtain ⟨d, u, hrun, hd, hk⟩ := load_ok hr hone hc hk
    exact ⟨d, u, by simp [execOp, ho, hv, hrun], hd, hk⟩
  unfold vLoad at h
  split at h
  · rename_i b o' hx'
    rw [hx'] at hx
    split at h
    · rename_i ds hb
      obtain ⟨_, _, us, e, hh, hr, hone⟩ := h1.box_at hb
      refine fin (rep_v hx) (hr.drop o') (fun u hu => hone u (List.mem_of_mem_drop hu)) (fun j x hj => ?_) h
      rw [cells_at hh]
      simpa using hj
    · exact h.elim
  · rename_i ds hx'
    rw [hx'] at hx
    obtain ⟨b, o', us, hv, hr, hone, hi⟩ := rep_ip hx
    exact fin hv hr hone (fun j x hj => h1.imm _ _ _ (hi j x hj)) h
  · rename_i l n s i o' hx'
    rw [hx'] at hx
    obtain ⟨b, q, c, hv, ha⟩ := rep_ap hx
    have go : ∀ (ob : Ob) (xs : List DV), lk S.acc l = some ob → (ob = .arr s xs ∨ ob = .tl s xs) → xs.length = n → (∃ d, xs[i]? = some d ∧ okE d = true ∧ ldK (tk P t) ((cd d).drop o') (K · S)) →
        ∃ d u, (execOp ρ o).run P w = .ok (.value u) w ∧ Rep g d u ∧ K d S := by
      intro ob xs hob he hn ⟨d, hd1, hd2, hk⟩
      subst hn
      obtain ⟨us, hr, hone, hc⟩ := h1.acc_cells hob he ha hd1 hd2
      refine fin hv (hr.drop o') (fun u hu => hone u (List.mem_of_mem_drop hu)) (fun j x hj => ?_) hk
      rw [Nat.add_assoc]
      exact hc _ _ (by simpa using hj)
    split at h
    · rename_i s' xs hob
      obtain ⟨hn, rfl, hk⟩ := h
      exact go _ xs hob (.inl rfl) hn hk
    · rename_i s' xs hob
      obtain ⟨hn, rfl, hk⟩ := h
      exact go _ xs hob (.inr rfl) hn hk
    · exact h.elim
  · exact h.elim

/-- A field's address. -/
def vField (k : TK) (f : Nat) (x : DV) (K : DV → Prop) : Prop := match k with
  | .st fs _ => match fs[f]? with
    | some (off, sz, _) => sz ≠ 0 ∧ (match x with
      | .v (.pointer (some ⟨b, o, none⟩)) => K (.v (.pointer (some ⟨b, o + off, none⟩)))
      | .ip ds => off ≤ ds.length ∧ K (.ip (ds.drop off))
      | .ap l n s i o => K (.ap l n s i (o + off))
      | _ => False)
    | none => False
  | _ => False
theorem y_fieldAddr {o : Oper} {t : TypeId} {x : Operand} {f : Nat} (ho : o.op = .fieldAddr t x f) {ρD : Operand → DV} {S : St} {K : DV → St → Prop} (h : vField (tk P t) f (ρD x) (K · S)) : YieldsE P w0 o ρD S K := by
  refine y_value fun g w ρ h1 h2 => ?_
  have hx := h2 x (by simp [ho, Op.operands])
  unfold vField at h
  split at h
  · rename_i fs n hk
    obtain ⟨F, i, hu, hi, _, rfl, _⟩ := tk_st hk
    split at h
    · rename_i off sz ag hf
      obtain ⟨hsz, h⟩ := h
      rw [List.getElem?_map] at hf
      obtain ⟨fd, hfd, hfe⟩ := Option.map_eq_some_iff.1 hf
      simp only [Prod.mk.injEq] at hfe
      obtain ⟨rfl, rfl, _⟩ := hfe
      have hF : F[f]? = some fd := by simpa using hfd
      have hsize : (Go.sizeOf fd.type).run P w = .ok (P.cellsOf fd.type) w := by
        unfold Program.cellsOf at hsz ⊢
        cases hq : P.info? fd.type with
        | none => simp [hq] at hsz
        | some i => simp [Go.sizeOf, typeInfo, hq]
      have run : ∀ b o', ρ x = .pointer (some ⟨b, o', none⟩) → (execOp ρ o).run P w = .ok (.value (.pointer (some ⟨b, o' + fd.offset, none⟩))) w := by
        intro b o' hv
        simp [execOp, ho, hv, Instr.fieldAt, run_underlying hu, hF, Instr.sureAddr, fieldPlace, hsize, hsz, add_plain]
      split at h
      · rename_i b o' hx'
        rw [hx'] at hx
        exact ⟨_, _, run b o' (rep_v hx), .v _ rfl, h⟩
      · rename_i ds hx'
        rw [hx'] at hx
        obtain ⟨b, o', us, hv, hr, hone, hi⟩ := rep_ip hx
        refine ⟨_, _, run b o' hv, .ip _ _ _ (us.drop fd.offset) (hr.drop _).len (hr.drop _).at_ (fun u hu => hone u (List.mem_of_mem_drop hu)) (fun j x hj => ?_), h.2⟩
        rw [Nat.add_assoc]
        exact hi _ _ (by simpa using hj)
      · rename_i l n s i o' hx'
        rw [hx'] at hx
        obtain ⟨b, q, c, hv, ha⟩ := rep_ap hx
        refine ⟨_, _, run b _ hv, ?_, h⟩
        rw [Nat.add_assoc]
        exact .ap _ _ _ _ _ _ _ _ ha
      · exact h.elim
    · exact h.elim
  · exact h.elim

/-- An element's address. -/
def vIndexAddr (k : TK) (x i : DV) (K : DV → Prop) : Prop := match k, i with
  | .sl _ s _ true, .v (.int _ z) => (match x with
    | .sl s' _ xs => s' = s ∧ 0 ≤ z ∧ z < xs.length ∧ ∀ d, xs[z.toNat]? = some d → okE d = true ∧ K (.ip (cd d))
    | .acc l n => 0 ≤ z ∧ z < n ∧ K (.ap l n s z.toNat 0)
    | _ => False)
  | _, _ => False
theorem y_indexAddr {o : Oper} {t : TypeId} {x i : Operand} (ho : o.op = .indexAddr t x i) {ρD : Operand → DV} {S : St} {K : DV → St → Prop} (h : vIndexAddr (tk P t) (ρD x) (ρD i) (K · S)) : YieldsE P w0 o ρD S K := by
  refine y_value fun g w ρ h1 h2 => ?_
  have hx := h2 x (by simp [ho, Op.operands])
  have hi := h2 i (by simp [ho, Op.operands])
  unfold vIndexAddr at h
  split at h
  · rename_i e s by' ik z hk hi'
    rw [hi'] at hi
    have hiv := rep_v hi
    obtain ⟨hu, hs, _, hei⟩ := tk_sl hk
    have hsize : (Go.sizeOf e).run P w = .ok s w := by
      obtain ⟨j, z', hq, _, _, _⟩ := okEl_spec hei
      unfold Program.cellsOf at hs
      simp [hq] at hs; simp [Go.sizeOf, typeInfo, hq, hs]
    have run : ∀ b o' n c, ρ x = .slice (some ⟨b, o', none⟩) n c → 0 ≤ z → z < n → (execOp ρ o).run P w = .ok (.value (.pointer (some ⟨b, o' + z.toNat * s, none⟩))) w := by
      intro b o' n c hv h0 hn
      simp [execOp, ho, hv, hiv, Instr.indexAt, asIntOf, run_underlying hu, h0, hn, hsize, add_plain]
    split at h
    · rename_i s' f xs hx'
      obtain ⟨rfl, h0, hlt, hd⟩ := h
      rw [hx'] at hx
      have hlt' : z.toNat < xs.length := by omega
      rcases rep_sl hx with ⟨he, _⟩ | ⟨b, o', c, us, hv, hr, _, _, _, hz, _, hc⟩
      · rw [he] at hlt'; exact absurd hlt' (by simp)
      · have hxz : xs[z.toNat]? = some xs[z.toNat] := List.getElem?_eq_getElem hlt'
        obtain ⟨hok, hK⟩ := hd _ hxz
        have hlu : z.toNat < us.length := by rw [← hr.len]; exact hlt'
        have huz : us[z.toNat]? = some us[z.toNat] := List.getElem?_eq_getElem hlu
        have r := hr.at_ _ _ _ hxz huz
        refine ⟨_, _, run b o' _ c hv h0 (by omega), .ip _ _ _ _ (r.cells hok).len (r.cells hok).at_ (r.one hok) (fun j x hj => ?_), hK⟩
        exact hc _ _ _ _ huz (by simpa using hj)
    · rename_i l n hx'
      obtain ⟨h0, hlt, hK⟩ := h
      rw [hx'] at hx
      obtain ⟨oo, c, hv, ha⟩ := rep_acc hx
      obtain ⟨o2, c2, he, hw⟩ := h1.accw _ _ _ ha
      rcases hw with hw | ⟨b, q, rfl⟩
      · omega
      · simp only [Value.slice.injEq, true_and] at he
        obtain ⟨rfl, rfl⟩ := he
        exact ⟨_, _, run b q n c hv h0 hlt, .ap l n s z.toNat 0 b q c ha, hK⟩
    · exact h.elim
  · exact h.elim
end
end Aml
