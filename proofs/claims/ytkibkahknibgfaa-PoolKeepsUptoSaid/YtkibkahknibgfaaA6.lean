/-
  Still more of the operations that make nothing and write nothing. By an AI agent.
-/
import Derived.Test.YtkibkahknibgfaaA5
namespace Aml
open Go Go.RowKit
set_option linter.unusedVariables false
set_option linter.unusedSimpArgs false

section
variable {P : Program} {w0 : World}

def vUn (op : UnOp) (x : DV) (K : DV → Prop) : Prop := match op, x with
  | .not, .v (.bool b) => K (.v (.bool (!b)))
  | .neg, .v (.int k n) => K (.v (.int k (k.wrap (0 - n))))
  | _, _ => False
theorem y_unOp {o : Oper} {op : UnOp} {t : TypeId} {x : Operand} (ho : o.op = .unOp op t x) {ρD : Operand → DV} {S : St} {K : DV → St → Prop} (h : vUn op (ρD x) (K · S)) : YieldsE P w0 o ρD S K := by
  refine y_value fun g w ρ h1 h2 => ?_
  have hx := h2 x (by simp [ho, Op.operands])
  unfold vUn at h
  split at h
  · rename_i b e; rw [e] at hx; exact ⟨_, _, by simp [execOp, ho, rep_v hx, Op.unary], .v _ rfl, h⟩
  · rename_i k n e; rw [e] at hx; exact ⟨.v (.int k (k.wrap (0 - n))), .int k (k.wrap (0 - n)), by simp [execOp, ho, rep_v hx, Op.unary, Op.intArith], .v _ rfl, h⟩
  · exact h.elim

def vConv (a b : TK) (x : DV) (K : DV → Prop) : Prop := match a, b, x with
  | .int _, .int k, .v (.int _ n) => K (.v (.int k (k.wrap n)))
  | .str, .str, .v (.string s) => K (.v (.string s))
  | _, _, _ => False
theorem y_conv {o : Oper} {s d : TypeId} {x : Operand} (ho : o.op = .convert s d x) {ρD : Operand → DV} {S : St} {K : DV → St → Prop} (h : vConv (tk P s) (tk P d) (ρD x) (K · S)) : YieldsE P w0 o ρD S K := by
  refine y_value fun g w ρ h1 h2 => ?_
  have hx := h2 x (by simp [ho, Op.operands])
  unfold vConv at h
  split at h
  · rename_i k' k k'' n e1 e2 e; rw [e] at hx
    exact ⟨_, _, by simp [execOp, ho, rep_v hx, convert, run_underlying (tk_int e1), run_underlying (tk_int e2), Conv.intToInt], .v _ rfl, h⟩
  · rename_i s' e1 e2 e; rw [e] at hx
    exact ⟨_, _, by simp [execOp, ho, rep_v hx, convert, run_underlying (tk_str e1), run_underlying (tk_str e2)], .v _ rfl, h⟩
  · exact h.elim

def vIndex (k : TK) (x i : DV) (K : DV → Prop) : Prop := match k, x, i with
  | .str, .v (.string s), .v (.int _ z) => 0 ≤ z ∧ z < s.size ∧ ∀ c, s.data.toList[z.toNat]? = some c → K (.v (.int .u8 c.toNat))
  | _, _, _ => False
theorem y_index {o : Oper} {t : TypeId} {x i : Operand} (ho : o.op = .index t x i) {ρD : Operand → DV} {S : St} {K : DV → St → Prop} (h : vIndex (tk P t) (ρD x) (ρD i) (K · S)) : YieldsE P w0 o ρD S K := by
  refine y_value fun g w ρ h1 h2 => ?_
  have hx := h2 x (by simp [ho, Op.operands])
  have hi := h2 i (by simp [ho, Op.operands])
  unfold vIndex at h
  split at h
  · rename_i s k z e1 e2 e3
    rw [e2] at hx; rw [e3] at hi
    obtain ⟨h0, hz, hK⟩ := h
    have hlt : z.toNat < s.size := by omega
    have hget : s[z.toNat]? = some s[z.toNat] := by simp [hlt]
    exact ⟨_, .int .u8 ((s[z.toNat]'hlt).toNat), by simp [execOp, ho, rep_v hx, rep_v hi, Instr.index, asIntOf, run_underlying (tk_str e1), h0, hlt], .v _ rfl, hK (s[z.toNat]'hlt) (by
      have : z.toNat < s.data.toList.length := by simpa using hlt
      rw [List.getElem?_eq_getElem this]; simp; rfl)⟩
  · exact h.elim

theorem y_fieldV {o : Oper} {t : TypeId} {x : Operand} {f : Nat} (ho : o.op = .field t x f) {ρD : Operand → DV} {S : St} {K : DV → St → Prop} (h : vFieldV (tk P t) f (ρD x) (K · S)) : YieldsE P w0 o ρD S K := by
  refine y_value fun g w ρ h1 h2 => ?_
  have hx := h2 x (by simp [ho, Op.operands])
  unfold vFieldV at h
  split at h
  · rename_i fs n hk
    obtain ⟨F, i, hu, hi, _, rfl, hall⟩ := tk_st hk
    split at h
    · rename_i off sz ag hf
      rw [List.getElem?_map] at hf
      obtain ⟨fd, hfd, hfe⟩ := Option.map_eq_some_iff.1 hf
      simp only [Prod.mk.injEq] at hfe
      obtain ⟨rfl, rfl, rfl⟩ := hfe
      have hF : F[f]? = some fd := by simpa using hfd
      have hin := hall fd (List.mem_of_getElem? hfd)
      split at h
      · rename_i ds hx'
        rw [hx'] at hx
        obtain ⟨us, hv, hr, hone⟩ := rep_agg hx
        obtain ⟨hle, h⟩ := h
        have run : ∀ u, (part fd.type us.toArray fd.offset).run P w = .ok u w → (execOp ρ o).run P w = .ok (.value u) w := by
          intro u hp
          simp [execOp, ho, hv, Instr.field, run_underlying hu, hF, asAgg, hp]
        split at h
        · rename_i hag
          exact ⟨_, _, run _ (part_agg hag hin.1), .agg _ _ ((hr.drop _).take _).len ((hr.drop _).take _).at_ (fun u hu => hone u (List.mem_of_mem_drop (List.mem_of_mem_take hu))), h⟩
        · rename_i hag
          split at h
          · rename_i d hd
            have hlt : fd.offset < us.length := by rw [← hr.len]; exact (List.getElem?_eq_some_iff.1 hd).1
            have hu' := List.getElem?_eq_getElem hlt
            exact ⟨_, _, run _ (part_one hag hin.2 hu'), hr.at_ _ _ _ hd hu', h⟩
          · exact h.elim
      · exact h.elim
    · exact h.elim
  · exact h.elim

/-- Bounds of a slice. -/
def bnd (d : Option DV) (z : Int) (K : Int → Prop) : Prop := match d with
  | none => K z
  | some (.v (.int _ n)) => K n
  | _ => False
def vSlice (k : TK) (x : DV) (lo hi mx : Option DV) (K : DV → Prop) : Prop := match k, x with
  | .sl _ s _ true, .sl s' f xs => (s' = s ∨ xs = []) ∧ bnd lo 0 fun l => bnd hi xs.length fun h => bnd mx h fun m => 0 ≤ l ∧ l ≤ h ∧ h ≤ m ∧ m ≤ xs.length ∧
      K (.sl s (if mx.isSome then decide (m = h) else (f && (hi.isNone || xs.isEmpty))) ((xs.take h.toNat).drop l.toNat))
  | .str, .v (.string s) => mx.isNone = true ∧ bnd lo 0 fun l => bnd hi s.size fun h => 0 ≤ l ∧ l ≤ h ∧ h ≤ s.size ∧ K (.v (.string (s.extract l.toNat h.toNat)))
  | _, _ => False

theorem bnd_val {ρD : Operand → DV} {ρ : Operand → Value} {g : Gh} {x : Option Operand} {z : Int} {K : Int → Prop} (hr : ∀ y, x = some y → Rep g (ρD y) (ρ y)) (h : bnd (x.map ρD) z K) :
    (x = none ∧ K z) ∨ ∃ y k n, x = some y ∧ ρ y = .int k n ∧ K n := by
  cases x with
  | none => exact .inl ⟨rfl, h⟩
  | some y =>
    simp only [Option.map_some, bnd] at h
    have := hr y rfl
    split at h
    · rename_i e; cases e
    · rename_i k n e
      simp only [Option.some.injEq] at e
      rw [e] at this
      exact .inr ⟨y, k, n, rfl, rep_v this, h⟩
    · exact h.elim

theorem run_bound {k : IntKind} {i : Int} {y : Nat} {code : BoundsCode} {w : World} (h0 : 0 ≤ i) (h1 : i ≤ y) : (Instr.sliceBound (.int k i) y code).run P w = .ok i.toNat w := by
  simp [Instr.sliceBound, asIntOf, h0, h1]

theorem y_slice {o : Oper} {t : TypeId} {x : Operand} {lo hi mx : Option Operand} (ho : o.op = .slice t x lo hi mx) {ρD : Operand → DV} {S : St} {K : DV → St → Prop}
    (hh : mx.isSome = true → hi.isSome = true) (h : vSlice (tk P t) (ρD x) (lo.map ρD) (hi.map ρD) (mx.map ρD) (K · S)) : YieldsE P w0 o ρD S K := by
  refine y_value fun g w ρ h1 h2 => ?_
  have hx := h2 x (by simp [ho, Op.operands])
  have hlo : ∀ y, lo = some y → Rep g (ρD y) (ρ y) := fun y e => h2 y (by simp [ho, Op.operands, e])
  have hhi : ∀ y, hi = some y → Rep g (ρD y) (ρ y) := fun y e => h2 y (by simp [ho, Op.operands, e])
  have hmx : ∀ y, mx = some y → Rep g (ρD y) (ρ y) := fun y e => h2 y (by simp [ho, Op.operands, e])
  unfold vSlice at h
  split at h
  · rename_i e s by' s' f xs hk hx'
    rw [hx'] at hx
    obtain ⟨hu, hs, _, hei⟩ := tk_sl hk
    have hsize : (Go.sizeOf e).run P w = .ok s w := by
      obtain ⟨j, z', hq, _, _, _⟩ := okEl_spec hei
      unfold Program.cellsOf at hs
      simp [hq] at hs; simp [Go.sizeOf, typeInfo, hq, hs]
    obtain ⟨hst, h⟩ := h
    -- the bounds, as the machine reckons them
    have main : ∀ (l hn m : Int) (c : Nat) (a : Option Addr), 0 ≤ l → l ≤ hn → hn ≤ m → ρ x = .slice a xs.length c →
        (Instr.sliceBounds true xs.length c (lo.map ρ) (hi.map ρ) (mx.map ρ)).run P w = .ok (l.toNat, hn.toNat, m.toNat) w →
        (execOp ρ o).run P w = .ok (.value (.slice (if m.toNat = l.toNat then a else a.map (·.add (l.toNat * s))) (hn.toNat - l.toNat) (m.toNat - l.toNat))) w := by
      intro l hn m c a _ _ _ hv hb
      simp [execOp, ho, hv, Instr.sliceAt, Instr.slice, run_underlying hu, hb, hsize]
    have res : ∀ (l hn : Int) (m c : Nat) (a : Option Addr) (ff : Bool), 0 ≤ l → l ≤ hn → hn ≤ m → m ≤ c → hn ≤ xs.length → (ff = true → m = hn.toNat) → ρ x = .slice a xs.length c → 
        Rep g (.sl s ff ((xs.take hn.toNat).drop l.toNat)) (.slice (if m = l.toNat then a else a.map (·.add (l.toNat * s))) (hn.toNat - l.toNat) (m - l.toNat)) := by
      intro l hn m c a ff h0 hlh hhm hmc hhl hff hv
      by_cases hz : hn.toNat - l.toNat = 0
      · have hnil : (xs.take hn.toNat).drop l.toNat = [] := by apply List.eq_nil_of_length_eq_zero; simp; omega
        rw [hnil, hz]
        exact .nil _ _ _ _ (fun hf => by have := hff hf; omega)
      · have hne : m ≠ l.toNat := by omega
        rw [if_neg hne]
        have hxne : xs ≠ [] := by intro e; simp [e] at hhl; omega
        have hs' : s' = s := hst.resolve_right hxne
        subst hs'
        rcases rep_sl hx with ⟨he, _⟩ | ⟨b, o', c', us, hv', hr, hfl, hlc, hcm, hzz, hone, hc⟩
        · exact absurd he hxne
        · rw [hv] at hv'
          simp only [Value.slice.injEq, true_and] at hv'
          obtain ⟨rfl, rfl⟩ := hv'
          have hlen : us.length = xs.length := hr.len.symm
          have hlen' : ((us.take hn.toNat).drop l.toNat).length = hn.toNat - l.toNat := by simp; omega
          have hR := (hr.take hn.toNat).drop l.toNat
          simp only [Option.map_some, add_plain]
          rw [← hlen']
          refine .sl _ _ _ _ _ _ _ hR.len (fun hf => by rw [hlen']; have := hff hf; omega) (by rw [hlen']; omega) (by omega) hR.at_ (fun i u hu => ?_) (fun u hu => hone u (List.mem_of_mem_take (List.mem_of_mem_drop hu))) (fun i u j x hu hj => ?_)
          · rw [List.getElem?_drop, List.getElem?_take] at hu
            split at hu
            · exact hzz _ _ hu
            · cases hu
          · rw [List.getElem?_drop, List.getElem?_take] at hu
            split at hu
            · have := hc _ _ _ _ hu hj
              rw [Nat.add_mul] at this
              rw [Nat.add_assoc o' _ _, ]
              simpa [Nat.add_assoc] using this
            · cases hu
    have hcap : ∃ a c, ρ x = .slice a xs.length c ∧ xs.length ≤ c ∧ (f = true → c = xs.length) := by
      rcases rep_sl hx with ⟨he, o', c, hv, hf⟩ | ⟨b, o', c', us, hv', hr, hfl, hlc, hcm, hzz, hone, hc⟩
      · exact ⟨o', c, by rw [hv, he]; rfl, by rw [he]; simp, fun e => by rw [he]; simpa using hf e⟩
      · exact ⟨_, _, hv', hlc, hfl⟩
    obtain ⟨a, c, hv, hlc, hfc⟩ := hcap
    rcases bnd_val hlo h with ⟨el, ha⟩ | ⟨yl, kl, l, el, vl, ha⟩ <;> clear h <;> rcases bnd_val hhi ha with ⟨eh, hb⟩ | ⟨yh, kh, hn, eh, vh, hb⟩ <;> clear ha <;> rcases bnd_val hmx hb with ⟨em, hc⟩ | ⟨ym, km, m, em, vm, hc⟩ <;> clear hb <;> subst el <;> subst eh <;> subst em <;> (try (simp at hh; done))
    · obtain ⟨q1, q2, q3, q4, q5⟩ := hc
      refine ⟨_, _, main 0 xs.length c c a (by omega) (by omega) (by omega) hv (by simp [Instr.sliceBounds]), ?_, q5⟩
      exact res 0 xs.length c c a _ (by omega) (by omega) (by omega) (by omega) (by omega) (fun hf => by simp at hf; have := hfc hf; omega) hv
    · obtain ⟨q1, q2, q3, q4, q5⟩ := hc
      refine ⟨_, _, main 0 hn c c a (by omega) (by omega) (by omega) hv (by simp [Instr.sliceBounds, vh, run_bound q2 (show hn ≤ (c : Int) by omega)]), ?_, q5⟩
      exact res 0 hn c c a _ (by omega) (by omega) (by omega) (by omega) (by omega) (fun hf => by
        simp only [Option.isSome_none, Option.map_some, Option.map_none, Option.isNone_some, Bool.false_or, Bool.and_eq_true, Bool.false_eq_true, if_false, List.isEmpty_iff] at hf
        have h1 := hfc hf.1
        have h2 : xs.length = 0 := by rw [hf.2]; rfl
        omega) hv
    · obtain ⟨q1, q2, q3, q4, q5⟩ := hc
      refine ⟨_, _, main 0 hn m c a (by omega) (by omega) (by omega) hv (by simp [Instr.sliceBounds, vh, vm, run_bound (show 0 ≤ m by omega) (show m ≤ (c : Int) by omega), run_bound q2 (show hn ≤ ((m.toNat : Nat) : Int) by omega)]), ?_, q5⟩
      exact res 0 hn m.toNat c a _ (by omega) (by omega) (by omega) (by omega) (by omega) (fun hf => by simp at hf; omega) hv
    · obtain ⟨q1, q2, q3, q4, q5⟩ := hc
      refine ⟨_, _, main l xs.length c c a (by omega) (by omega) (by omega) hv (by simp [Instr.sliceBounds, vl, run_bound q1 q2]), ?_, q5⟩
      exact res l xs.length c c a _ (by omega) (by omega) (by omega) (by omega) (by omega) (fun hf => by simp at hf; have := hfc hf; omega) hv
    · obtain ⟨q1, q2, q3, q4, q5⟩ := hc
      refine ⟨_, _, main l hn c c a (by omega) (by omega) (by omega) hv (by simp [Instr.sliceBounds, vl, vh, run_bound (show 0 ≤ hn by omega) (show hn ≤ (c : Int) by omega), run_bound q1 (show l ≤ ((hn.toNat : Nat) : Int) by omega)]), ?_, q5⟩
      exact res l hn c c a _ (by omega) (by omega) (by omega) (by omega) (by omega) (fun hf => by
        simp only [Option.isSome_none, Option.map_some, Option.map_none, Option.isNone_some, Bool.false_or, Bool.and_eq_true, Bool.false_eq_true, if_false, List.isEmpty_iff] at hf
        have h1 := hfc hf.1
        have h2 : xs.length = 0 := by rw [hf.2]; rfl
        omega) hv
    · obtain ⟨q1, q2, q3, q4, q5⟩ := hc
      refine ⟨_, _, main l hn m c a (by omega) (by omega) (by omega) hv (by simp [Instr.sliceBounds, vl, vh, vm, run_bound (show 0 ≤ m by omega) (show m ≤ (c : Int) by omega), run_bound (show 0 ≤ hn by omega) (show hn ≤ ((m.toNat : Nat) : Int) by omega), run_bound q1 (show l ≤ ((hn.toNat : Nat) : Int) by omega)]), ?_, q5⟩
      exact res l hn m.toNat c a _ (by omega) (by omega) (by omega) (by omega) (by omega) (fun hf => by simp at hf; omega) hv
  · rename_i s hk hx'
    rw [hx'] at hx
    obtain ⟨hm, h⟩ := h
    have em : mx = none := by cases mx <;> simp_all
    subst em
    have hu := tk_str hk
    rcases bnd_val hlo h with ⟨el, ha⟩ | ⟨yl, kl, l, el, vl, ha⟩ <;> clear h <;> rcases bnd_val hhi ha with ⟨eh, hb⟩ | ⟨yh, kh, hn, eh, vh, hb⟩ <;> clear ha <;> subst el <;> subst eh <;> obtain ⟨q1, q2, q3, q4⟩ := hb
    · exact ⟨_, .string (s.extract (0 : Int).toNat (s.size : Int).toNat), by simp [execOp, ho, rep_v hx, Instr.sliceAt, Instr.slice, run_underlying hu, Instr.sliceBounds], .v _ rfl, q4⟩
    · exact ⟨_, .string (s.extract (0 : Int).toNat hn.toNat), by simp [execOp, ho, rep_v hx, Instr.sliceAt, Instr.slice, run_underlying hu, Instr.sliceBounds, vh, run_bound q2 q3], .v _ rfl, q4⟩
    · exact ⟨_, .string (s.extract l.toNat (s.size : Int).toNat), by simp [execOp, ho, rep_v hx, Instr.sliceAt, Instr.slice, run_underlying hu, Instr.sliceBounds, vl, run_bound q1 q2], .v _ rfl, q4⟩
    · exact ⟨_, .string (s.extract l.toNat hn.toNat), by simp [execOp, ho, rep_v hx, Instr.sliceAt, Instr.slice, run_underlying hu, Instr.sliceBounds, vl, vh, run_bound (show 0 ≤ hn by omega) q3, run_bound q1 (show l ≤ ((hn.toNat : Nat) : Int) by omega)], .v _ rfl, q4⟩
  · exact h.elim

end
end Aml
