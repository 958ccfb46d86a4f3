/-
  The rule for append. By an AI agent.
-/
import Derived.Test.YtkibkahknibgfaaA11
namespace Aml
open Go Go.RowKit
set_option linter.unusedVariables false
set_option linter.unusedSimpArgs false

section
variable {P : Program} {w0 : World}

theorem app_fit {w : World} {t t' ty e : TypeId} {d' : TypeDesc} {i : TypeInfo} (ht : P.underlying t = some (.slice e)) (ht' : P.underlying t' = some d') (hd' : ∀ k, d' ≠ .int k) (hi : P.info? e = some i)
    {base : Option Addr} {n c m : Nat} {x : Value} {new : Array Value} (hl : (Builtin.lenOf x).run P w = .ok m w) (hx : (Builtin.firstCells i.size m x).run P w = .ok new w) (hfit : n + m ≤ c) :
    (Builtin.append_ #[t, t'] ty #[.slice base n c, x]).run P w = match base with
      | some a => ((storeCells (a.add (n * i.size)) new.toList).run P w).andThen fun _ w' => .ok (.slice base (n + m) c) w'
      | none => .ok (.slice none (n + m) c) w := by
  have hzz : (match d' with | .int _ => true | _ => false) = false := by cases d' <;> first | rfl | exact absurd rfl (hd' _)
  cases base with
  | none => simp [Builtin.append_, run_underlying ht, run_underlying ht', hzz, Go.sizeOf, typeInfo, hi, hl, hfit, hx]
  | some a => simp [Builtin.append_, run_underlying ht, run_underlying ht', hzz, Go.sizeOf, typeInfo, hi, hl, hfit, hx]

theorem app_grow {w : World} {t t' ty e : TypeId} {d' : TypeDesc} {i : TypeInfo} {z : Value} (ht : P.underlying t = some (.slice e)) (ht' : P.underlying t' = some d') (hd' : ∀ k, d' ≠ .int k) (hi : P.info? e = some i) (hz : i.zero = some z)
    {base : Option Addr} {n c m : Nat} {x : Value} {old new : Array Value} (hl : (Builtin.lenOf x).run P w = .ok m w) (ho : (Builtin.firstCells i.size n (.slice base n c)).run P w.drew = .ok old w.drew) (hx : (Builtin.firstCells i.size m x).run P w.drew = .ok new w.drew)
    (hg : c < n + m) (h63 : n + m ≤ maxLen) (hby : (n + m) * i.bytes ≤ 140737488355328) :
    (Builtin.append_ #[t, t'] ty #[.slice base n c, x]).run P w = .ok (.slice (some ⟨w.heap.size, 0, none⟩) (n + m) (grownCap w (n + m) c e))
      (w.drew.alloc (.cells (old ++ new ++ Builtin.zeroCells z.cells (grownCap w (n + m) c e - (n + m))) e)) := by
  have hzz : (match d' with | .int _ => true | _ => false) = false := by cases d' <;> first | rfl | exact absurd rfl (hd' _)
  have hn : ¬ (n + m ≤ c) := by omega
  have h63' : ¬ (9223372036854775807 < ((n : Int) + (m : Int))) := by unfold maxLen at h63; omega
  have hfit := growslice_fits (need := n + m) (old := c) (bytes := i.bytes) hg hby
  have h48' : ¬ (281474976710656 < Builtin.nextslicecap (n + m) c * i.bytes) := by omega
  simp [Builtin.append_, run_underlying ht, run_underlying ht', hzz, Go.sizeOf, typeInfo, zeroValue, hi, hz, hl, hn, h63', h48', Question.forced, ho, hx, newRow, grownCap]

def notInt : TK → Bool
  | .int _ => false
  | .no => false
  | _ => true
theorem tk_notInt {t : TypeId} (h : notInt (tk P t) = true) : ∃ d, P.underlying t = some d ∧ ∀ k, d ≠ .int k := by
  unfold tk at h
  split at h <;> (try split at h) <;> first | (cases h; done) | exact ⟨_, by assumption, by simp⟩

/-- The first argument of an append. -/
def vApp (s : Nat) (by' : Nat) (S : St) (x : DV) (ys : List DV) (K : DV → St → Prop) : Prop := match x with
  | .acc l n => match lk S.acc l with
    | some (.arr s' xs) => s' = s ∧ xs.length = n ∧ (xs.length + ys.length) * by' ≤ 140737488355328 ∧ xs.length + ys.length ≤ maxLen ∧ K (.acc l (xs ++ ys).length) ⟨S.box, up S.acc l (.arr s (xs ++ ys))⟩
    | some (.tl s' xs) => s' = s ∧ xs.length = n ∧ (xs.length + ys.length) * by' ≤ 140737488355328 ∧ xs.length + ys.length ≤ maxLen ∧ K (.acc l (xs ++ ys).length) ⟨S.box, up S.acc l (.tl s (xs ++ ys))⟩
    | none => False
  | .sl _ true [] => ys.length * by' ≤ 140737488355328 ∧ ys.length ≤ maxLen ∧ ∀ l, nin S.acc l → K (.acc l ys.length) ⟨S.box, (l, .arr s ys) :: S.acc⟩
  | .sl s' true xs => s' = s ∧ (xs.length + ys.length) * by' ≤ 140737488355328 ∧ xs.length + ys.length ≤ maxLen ∧ ∀ l, nin S.acc l → K (.acc l (xs ++ ys).length) ⟨S.box, (l, .tl s (xs ++ ys)) :: S.acc⟩
  | _ => False
def vAppend (k k2 : TK) (S : St) (x y : DV) (K : DV → St → Prop) : Prop := match k with
  | .sl e s by' true => notInt k2 = true ∧ contK S y fun s2 ys => (s2 = s ∨ ys = []) ∧ vApp s by' S x ys K
  | _ => False

theorem up_self {α : Type} {l : List (Nat × α)} {n : Nat} {x : α} (h : lk l n = some x) : up l n x = l := by
  induction l with
  | nil => cases h
  | cons p t ih =>
    obtain ⟨k, y⟩ := p
    simp only [lk] at h
    simp only [up]
    split at h
    · rename_i e; rw [if_pos e]; simp only [Option.some.injEq] at h; rw [h]
    · rename_i e; rw [if_neg e, ih h]

theorem fl_append (us vs : List Value) : fl (us ++ vs) = fl us ++ fl vs := by simp [fl]

/-- What was there grows by what comes: in its row, or in a new one. -/
theorem app_acc {g : Gh} {S : St} {w : World} (h : Rel w0 g S w) {l s : Nat} {ex : Bool} {xs ys : List DV} (hl : lk S.acc l = some (mkO ex s xs)) {t t' ty e : TypeId} {d' : TypeDesc} {i : TypeInfo} {z : Value}
    (ht : P.underlying t = some (.slice e)) (ht' : P.underlying t' = some d') (hd' : ∀ k, d' ≠ .int k) (hi : P.info? e = some i) (hz : i.zero = some z) (hzs : z.cells.size = i.size) (his : i.size = s)
    {sv x : Value} (hs : Rep g (.acc l xs.length) sv) {vs : List Value} (hv : RepL g ys vs) (hvz : ∀ (i : Nat) (u : Value), vs[i]? = some u → u.cells.size = s) (hv1 : ∀ (u : Value), u ∈ vs → ∀ x, x ∈ u.cells.toList → x.oneCell' = true)
    (hlx : ∀ w' : World, (Builtin.lenOf x).run P w' = .ok ys.length w') (hx : ∀ w', (∀ p, w'.cell? p = w.cell? p) → (Builtin.firstCells s ys.length x).run P w' = .ok (fl vs).toArray w')
    (hby : (xs.length + ys.length) * i.bytes ≤ 140737488355328) (hmx : xs.length + ys.length ≤ maxLen) :
    ∃ u w' g', (Builtin.append_ #[t, t'] ty #[sv, x]).run P w = .ok u w' ∧ g.le g' ∧ Rel w0 g' ⟨S.box, up S.acc l (mkO ex s (xs ++ ys))⟩ w' ∧ Rep g' (.acc l (xs ++ ys).length) u := by
  obtain ⟨ow, ho⟩ := h.open_
  obtain ⟨o, c, hv', ha⟩ := rep_acc hs
  subst hv'
  have hob : mkO ex s xs = .arr s xs ∨ mkO ex s xs = .tl s xs := by cases ex; exact .inr rfl; exact .inl rfl
  obtain ⟨hpos, us, a, c', q1, q2, q3, q4, q5, q6, q7⟩ := ho.acc_parts hl hob ha
  simp only [Value.slice.injEq, true_and] at q1
  obtain ⟨rfl, rfl⟩ := q1
  have hul : us.length = xs.length := q2.len.symm
  have hvl : vs.length = ys.length := hv.len.symm
  have hx' : (Builtin.firstCells i.size ys.length x).run P w = .ok (fl vs).toArray w := by rw [his]; exact hx w fun _ => rfl
  have hsz : ∀ (i : Nat) (u : Value), (us ++ vs)[i]? = some u → u.cells.size = s := by
    intro i u hu
    rw [List.getElem?_append] at hu
    split at hu
    · exact q3 _ _ hu
    · exact hvz _ _ hu
  have hone : ∀ (u : Value), u ∈ us ++ vs → ∀ x, x ∈ u.cells.toList → x.oneCell' = true := by
    intro u hu
    rcases List.mem_append.1 hu with hu | hu
    · exact q4 u hu
    · exact hv1 u hu
  by_cases hy0 : ys = []
  · subst hy0
    have hvs : vs = [] := List.eq_nil_of_length_eq_zero (by simpa using hvl)
    subst hvs
    have hr := app_fit (w := w) (ty := ty) (base := o) (n := xs.length) (c := c) ht ht' hd' hi (hlx w) hx' (by simpa using q5)
    refine ⟨.slice o xs.length c, w, g, ?_, .refl g, ?_, ?_⟩
    · rw [hr]
      cases o <;> simp [fl, storeCells]
    · rw [List.append_nil, up_self hl]; exact h
    · rw [List.append_nil]; exact hs
  · have hypos : 0 < ys.length := List.length_pos_iff.2 hy0
    have hlt : (mkO ex s xs).len < (xs ++ ys).length := by rw [mkO_len]; simp; omega
    have hoff : ∀ i j, i * s + j + xs.length * s = (i + xs.length) * s + j := by intro i j; rw [Nat.add_mul]; omega
    by_cases hfit : xs.length + ys.length ≤ c
    · -- in its row
      rcases q7 with q7 | ⟨b, cs, e', rfl, q8, q9, q10, q11, q12, q13, q14⟩
      · omega
      · have hr := app_fit (w := w) (ty := ty) (base := some ⟨b, 0, none⟩) (n := xs.length) (c := c) ht ht' hd' hi (hlx w) hx' hfit
        simp only [add_plain, Nat.zero_add, his] at hr
        have hfl : (fl vs).length = ys.length * s := by rw [fl_length hvz, hvl]
        have hroom : xs.length * s + (fl vs).length ≤ cs.size := by
          rw [hfl, q11, ← Nat.add_mul]; exact Nat.mul_le_mul_right s hfit
        have hst := run_storeCells_at (P := P) b (xs.length * s) e' (fl vs) 0 cs w q10 (by omega) (fl_one hv1)
        simp only [Nat.add_zero] at hst
        rw [hst] at hr
        have hrow : cs.toList.take (xs.length * s) ++ fl vs ++ cs.toList.drop (xs.length * s + (fl vs).length) = setAllV cs.toList (xs.length * s) (fl vs) := by
          rw [setAllV_eq _ _ _ (by simpa using hroom)]
        rw [hrow] at hr
        obtain ⟨g', hle, hR, hA⟩ := ho.regrow (w' := w.setRow b (setAllV cs.toList (xs.length * s) (fl vs)).toArray) hpos hl ex (xs := xs ++ ys) (us := us ++ vs) (b := b) (c := c) (e := e') (cs := (setAllV cs.toList (xs.length * s) (fl vs)).toArray)
          hlt q9 (.inl q8) (setRow_heap w b cs _ e' (0, 0) q10) (by simpa [length_setAllV] using q11) (by simpa using hfit) q12 (q2.append hv) hsz hone
          (fun i u j x h1 h2 => by
            have hj : j < s := by rw [← hsz i u h1]; exact (Array.getElem?_eq_some_iff.1 h2).1
            rw [show ((setAllV cs.toList (xs.length * s) (fl vs)).toArray)[i * s + j]? = (setAllV cs.toList (xs.length * s) (fl vs))[i * s + j]? by simp]
            rw [get_setAllV (by simpa using hroom), hfl]
            rw [List.getElem?_append] at h1
            split at h1
            · rename_i hi'
              have : i * s + j < xs.length * s := lt_mul (by omega) hj
              rw [if_neg (by omega)]
              rw [Array.getElem?_toList]
              exact q13 i u j x h1 h2
            · rename_i hi'
              have hi2 : i - us.length < vs.length := (List.getElem?_eq_some_iff.1 h1).1
              have e2 : i * s + j = xs.length * s + ((i - us.length) * s + j) := by
                have : i * s = xs.length * s + (i - us.length) * s := by rw [← Nat.add_mul]; congr 1; omega
                omega
              have e3 : (i - us.length) * s + j < ys.length * s := lt_mul (by omega) hj
              rw [if_pos ⟨by omega, by omega⟩]
              rw [show i * s + j - xs.length * s = (i - us.length) * s + j by omega]
              exact fl_at hvz h1 h2)
          (fun k u hu => by
            obtain ⟨he, hk⟩ := q14 k u hu
            have hex : ex = false := by cases ex; rfl; cases he
            have hcell := h.imm _ _ _ hu
            rw [cells_at q10] at hcell
            refine ⟨hex, by simp only [List.length_append, Nat.add_mul]; omega, ?_⟩
            rw [show ((setAllV cs.toList (xs.length * s) (fl vs)).toArray)[k]? = (setAllV cs.toList (xs.length * s) (fl vs))[k]? by simp]
            rw [get_setAllV (by simpa using hroom), if_neg (by omega), Array.getElem?_toList]
            exact hcell)
          (h.below.trans ⟨rfl, rfl, rfl, by simp, fun k hk => setRow_other w b k _ (by omega)⟩) (by simp) (fun k hk hne => setRow_other w b k _ hne)
        refine ⟨_, _, g', hr, hle, hR, ?_⟩
        have e4 : (xs ++ ys).length = xs.length + ys.length := by simp
        rw [e4] at hA ⊢
        exact hA
    · -- in a new row
      have hold : (Builtin.firstCells i.size xs.length (.slice o xs.length c)).run P w.drew = .ok (fl us).toArray w.drew := by
        rw [his]
        have e1 : us = [] ↔ xs = [] := by rw [← List.length_eq_zero_iff, ← List.length_eq_zero_iff, hul]
        exact first_ok (w := w) (xs := xs) hul q3 (by rcases q6 with q6 | ⟨b, o', e, _, q6⟩; exact .inl (e1.2 q6); exact .inr ⟨b, o', e, q6⟩) w.drew (fun _ => rfl) s (.inl rfl)
      have hnew : (Builtin.firstCells i.size ys.length x).run P w.drew = .ok (fl vs).toArray w.drew := by rw [his]; exact hx w.drew fun _ => rfl
      have hr := app_grow (w := w) (ty := ty) (base := o) (n := xs.length) (c := c) ht ht' hd' hi hz (hlx w) hold hnew (by omega) hmx hby
      have hcap := grownCap_ge w (xs.length + ys.length) c e
      have hcm := grownCap_le_maxLen w (xs.length + ys.length) c e hmx
      generalize hC : grownCap w (xs.length + ys.length) c e = C at *
      have hfl : (fl us ++ fl vs).length = (xs.length + ys.length) * s := by rw [← fl_append, fl_length hsz]; simp [hul, hvl]
      have hcells : ((fl us).toArray ++ (fl vs).toArray ++ Builtin.zeroCells z.cells (C - (xs.length + ys.length))).size = C * s := by
        have h0 : (Builtin.zeroCells z.cells (C - (xs.length + ys.length))).size = (C - (xs.length + ys.length)) * s := by rw [size_zeroCells, hzs, his]
        simp only [Array.size_append, h0, List.size_toArray]
        rw [← List.length_append, hfl, ← Nat.add_mul]
        congr 1
        omega
      obtain ⟨g', hle, hR, hA⟩ := ho.regrow (w' := w.drew.alloc (.cells ((fl us).toArray ++ (fl vs).toArray ++ Builtin.zeroCells z.cells (C - (xs.length + ys.length))) e)) hpos hl ex (xs := xs ++ ys) (us := us ++ vs) (b := w.heap.size) (c := C) (e := e)
        (cs := (fl us).toArray ++ (fl vs).toArray ++ Builtin.zeroCells z.cells (C - (xs.length + ys.length)))
        hlt h.below.size (.inr (Nat.le_refl _)) (heap_alloc_new w.drew _) hcells (by simpa using hcap) hcm (q2.append hv) hsz hone
        (fun i u j x h1 h2 => by
          have hj : j < s := by rw [← hsz i u h1]; exact (Array.getElem?_eq_some_iff.1 h2).1
          have hi2 : i < (us ++ vs).length := (List.getElem?_eq_some_iff.1 h1).1
          have hlt2 : i * s + j < (xs.length + ys.length) * s := lt_mul (by rw [List.length_append, hul, hvl] at hi2; exact hi2) hj
          have := fl_at hsz h1 h2
          rw [fl_append] at this
          rw [Array.getElem?_append_left (by simp only [Array.size_append, List.size_toArray]; rw [← List.length_append, hfl]; exact hlt2)]
          rw [← Array.getElem?_toList]
          simpa using this)
        (fun k u hu => by have := World.block_lt_of_cell? w _ (h.imm _ _ _ hu); simp at this)
        (h.below.trans ((Below.refl _ _).drew.alloc (by simpa using h.below.size) _)) (by simp) (fun k hk hne => heap_alloc_old w.drew _ hk)
      refine ⟨_, _, g', hr, hle, hR, ?_⟩
      have e4 : (xs ++ ys).length = xs.length + ys.length := by simp
      rw [e4] at hA ⊢
      exact hA

theorem y_append {o : Oper} {t t' : TypeId} {x y : Operand} (ho : o.op = .call { callee := .builtin .append, args := #[x, y], argTypes := #[t, t'] }) {ρD : Operand → DV} {S : St} {K : DV → St → Prop}
    (h : vAppend (tk P t) (tk P t') S (ρD x) (ρD y) K) : YieldsE P w0 o ρD S K := by
  intro g w ρ h1 h2 hcst
  have hx := h2 x (by simp [ho, Op.operands, Call.operands])
  have hy := h2 y (by simp [ho, Op.operands, Call.operands])
  unfold vAppend at h
  split at h
  · rename_i e s by' hk
    obtain ⟨hni, h⟩ := h
    obtain ⟨hu, hcs, hbs, hei⟩ := tk_sl hk
    obtain ⟨d', hu', hd'⟩ := tk_notInt hni
    obtain ⟨ti, z, hi, hz, hzs, hpos⟩ := okEl_spec hei
    have his : ti.size = s := by simpa [Program.cellsOf, hi] using hcs
    have hib : ti.bytes = by' := by simpa [Program.bytesOf, hi] using hbs
    obtain ⟨s2, ys, vs, ⟨hs2, hK⟩, hv, hvz, hv1, hlx, hfx⟩ := cont_ok (P := P) h1 hy h
    have hvz' : ∀ (i : Nat) (u : Value), vs[i]? = some u → u.cells.size = s := by
      rcases hs2 with rfl | rfl
      · exact hvz
      · have : vs = [] := List.eq_nil_of_length_eq_zero hv.len.symm
        subst this; simp
    have hfx' : ∀ w', (∀ p, w'.cell? p = w.cell? p) → (Builtin.firstCells s ys.length (ρ y)).run P w' = .ok (fl vs).toArray w' := fun w' hw' => hfx w' hw' s (hs2.imp Eq.symm id)
    have fin : ∀ {u : Value} {w' : World} {g' : Gh} {d : DV} {S' : St}, (Builtin.append_ #[t, t'] o.type #[ρ x, ρ y]).run P w = .ok u w' → g.le g' → Rel w0 g' S' w' → Rep g' d u → K d S' →
        match (execOp ρ o).run P w with
        | .ok (.value u) w' => ∃ g' d S', g.le g' ∧ Rel w0 g' S' w' ∧ Rep g' d u ∧ K d S'
        | .ok .skip w' => ∃ g' S', g.le g' ∧ Rel w0 g' S' w' ∧ K ud S'
        | .ok (.enter f args) w' => Calls P f args w' fun e w'' => ∃ r g' d S', e = .returned r ∧ g.le g' ∧ Rel w0 g' S' w'' ∧ Rep g' d r ∧ K d S'
        | _ => False := by
      intro u w' g' d S' hr hle hR hd hk
      have : (execOp ρ o).run P w = .ok (.value u) w' := by simp [execOp, ho, resolve, invoke, builtin, hr]
      rw [this]
      exact ⟨g', d, S', hle, hR, hd, hk⟩
    unfold vApp at hK
    split at hK
    · rename_i l n hxe
      split at hK
      · rename_i s' xs hl
        obtain ⟨rfl, rfl, hby, hmx, hK⟩ := hK
        rw [hxe] at hx
        obtain ⟨u, w', g', hr, hle, hR, hA⟩ := app_acc (P := P) (ex := true) (ty := o.type) h1 hl hu hu' hd' hi hz hzs his hx hv hvz' hv1 hlx hfx' (by rw [hib]; exact hby) hmx
        exact fin hr hle hR hA hK
      · rename_i s' xs hl
        obtain ⟨rfl, rfl, hby, hmx, hK⟩ := hK
        rw [hxe] at hx
        obtain ⟨u, w', g', hr, hle, hR, hA⟩ := app_acc (P := P) (ex := false) (ty := o.type) h1 hl hu hu' hd' hi hz hzs his hx hv hvz' hv1 hlx hfx' (by rw [hib]; exact hby) hmx
        exact fin hr hle hR hA hK
      · exact hK.elim
    · rename_i s0 hxe
      rw [hxe] at hx
      obtain ⟨hby, hmx, hK⟩ := hK
      have hx : Rep g (.sl s true []) (ρ x) := by obtain ⟨o', ho'⟩ := rep_full_nil hx; rw [ho']; exact .nil _ _ _ _ fun _ => rfl
      obtain ⟨l, g1, hle1, hne, hR1, hA1⟩ := h1.newAcc (s := s) (by omega) hx (.arr s []) (.inr ⟨rfl, rfl⟩)
      obtain ⟨u, w', g', hr, hle, hR, hA⟩ := app_acc (P := P) (ex := true) (xs := []) (ty := o.type) hR1 (by simp [lk, mkO]) hu hu' hd' hi hz hzs his hA1 (hv.mono hle1) hvz' hv1 hlx hfx' (by rw [hib]; simpa using hby) (by simpa using hmx)
      refine fin hr (hle1.trans hle) hR hA ?_
      simpa [up, mkO] using hK l (nin_of hne)
    · rename_i s0 xs _ hxe
      rw [hxe] at hx
      obtain ⟨rfl, hby, hmx, hK⟩ := hK
      obtain ⟨l, g1, hle1, hne, hR1, hA1⟩ := h1.newAcc (s := s0) (by omega) hx (.tl s0 xs) (.inl rfl)
      obtain ⟨u, w', g', hr, hle, hR, hA⟩ := app_acc (P := P) (ex := false) (xs := xs) (ty := o.type) hR1 (by simp [lk, mkO]) hu hu' hd' hi hz hzs his hA1 (hv.mono hle1) hvz' hv1 hlx hfx' (by rw [hib]; exact hby) hmx
      refine fin hr (hle1.trans hle) hR hA ?_
      simpa [up, mkO] using hK l (nin_of hne)
    · exact hK.elim
  · exact h.elim
end
end Aml
