/-
  More of the operations that make nothing and write nothing. By an AI agent.
-/
import Derived.Test.YtkibkahknibgfaaA4
namespace Aml
open Go Go.RowKit
set_option linter.unusedVariables false
set_option linter.unusedSimpArgs false

section
variable {P : Program} {w0 : World}

def vExtract (i : Nat) (x : DV) (K : DV → Prop) : Prop := match x with
  | .tup ds => match ds[i]? with
    | some d => K d
    | none => False
  | _ => False
theorem y_extract {o : Oper} {x : Operand} {i : Nat} (ho : o.op = .extract x i) {ρD : Operand → DV} {S : St} {K : DV → St → Prop} (h : vExtract i (ρD x) (K · S)) : YieldsE P w0 o ρD S K := by
  refine y_value fun g w ρ h1 h2 => ?_
  have hx := h2 x (by simp [ho, Op.operands])
  unfold vExtract at h
  split at h
  · rename_i ds hx'
    rw [hx'] at hx
    obtain ⟨us, hv, hr⟩ := rep_tup hx
    split at h
    · rename_i d hd
      have hlt : i < us.length := by rw [← hr.len]; exact (List.getElem?_eq_some_iff.1 hd).1
      exact ⟨d, us[i], by simp [execOp, ho, hv, Instr.extract, hlt], hr.at_ _ _ _ hd (List.getElem?_eq_getElem hlt), h⟩
    · exact h.elim
  · exact h.elim

/-- A struct value's field. -/
def vFieldV (k : TK) (f : Nat) (x : DV) (K : DV → Prop) : Prop := match k with
  | .st fs _ => match fs[f]? with
    | some (off, sz, ag) => (match x with
      | .agg ds => off + sz ≤ ds.length ∧ (match ag with
        | true => K (.agg ((ds.drop off).take sz))
        | false => match ds[off]? with
          | some d => K d
          | none => False)
      | _ => False)
    | none => False
  | _ => False

theorem part_agg {T : TypeId} {us : List Value} {off : Nat} {w : World} (h : isAggT P T = true) (hi : (P.info? T).isSome = true) : (part T us.toArray off).run P w = .ok (.agg ((us.drop off).take (P.cellsOf T)).toArray) w := by
  unfold isAggT at h
  cases hq : P.info? T with
  | none => simp [hq] at hi
  | some i =>
    have hc : P.cellsOf T = i.size := by simp [Program.cellsOf, hq]
    cases hu : P.underlying T with
    | none => simp [hu] at h
    | some dd =>
      have hagg : (isAgg T).run P w = .ok true w := by
        unfold isAgg
        rw [Sem.run_bind, run_underlying hu w]
        cases dd <;> simp_all
      simp [part, hagg, Go.sizeOf, typeInfo, hq, hc]
theorem part_one {T : TypeId} {us : List Value} {off : Nat} {u : Value} {w : World} (h : isAggT P T = false) (hi : (P.underlying T).isSome = true) (hu' : us[off]? = some u) : (part T us.toArray off).run P w = .ok u w := by
  unfold isAggT at h
  cases hu : P.underlying T with
  | none => simp [hu] at hi
  | some dd =>
    have hagg : (isAgg T).run P w = .ok false w := by
      unfold isAgg
      rw [Sem.run_bind, run_underlying hu w]
      cases dd <;> simp_all
    simp [part, hagg, hu']

def bitD (op : BinOp) (k : IntKind) (x y : Int) : Int :=
  let a := BitVec.ofInt k.bits x
  let b := BitVec.ofInt k.bits y
  match op with
  | .and => k.wrap (a &&& b).toNat
  | .or => k.wrap (a ||| b).toNat
  | .xor => k.wrap (a ^^^ b).toNat
  | _ => k.wrap (a &&& ~~~b).toNat

def vBinI (op : BinOp) (k : IntKind) (m n : Int) (K : DV → Prop) : Prop := match op with
  | .add => K (.v (.int k (k.wrap (m + n))))
  | .sub => K (.v (.int k (k.wrap (m - n))))
  | .mul => K (.v (.int k (k.wrap (m * n))))
  | .quo => n ≠ 0 ∧ K (.v (.int k (k.wrap (m.tdiv n))))
  | .rem => n ≠ 0 ∧ K (.v (.int k (m.tmod n)))
  | .and => K (.v (.int k (bitD .and k m n)))
  | .or => K (.v (.int k (bitD .or k m n)))
  | .xor => K (.v (.int k (bitD .xor k m n)))
  | .andNot => K (.v (.int k (bitD .andNot k m n)))
  | .eql => K (.v (.bool (decide (m = n))))
  | .neq => K (.v (.bool (decide (m ≠ n))))
  | .lss => K (.v (.bool (decide (m < n))))
  | .leq => K (.v (.bool (decide (m ≤ n))))
  | .gtr => K (.v (.bool (decide (m > n))))
  | .geq => K (.v (.bool (decide (m ≥ n))))
  | .shl => 0 ≤ n ∧ K (.v (.int k (k.wrap (m * 2 ^ (min n.toNat k.bits)))))
  | .shr => 0 ≤ n ∧ K (.v (.int k (m.fdiv (2 ^ (min n.toNat k.bits)))))
def vBinS (op : BinOp) (x y : ByteArray) (K : DV → Prop) : Prop := match op with
  | .add => x.size + y.size ≤ 9223372036854775807 ∧ K (.v (.string (x ++ y)))
  | .eql => K (.v (.bool (decide (x.data.toList = y.data.toList))))
  | .neq => K (.v (.bool (!decide (x.data.toList = y.data.toList))))
  | .lss => K (.v (.bool (Op.bytesLess x.data.toList y.data.toList)))
  | .leq => K (.v (.bool (Op.bytesLess x.data.toList y.data.toList || decide (x.data.toList = y.data.toList))))
  | .gtr => K (.v (.bool (!(Op.bytesLess x.data.toList y.data.toList || decide (x.data.toList = y.data.toList)))))
  | .geq => K (.v (.bool (!Op.bytesLess x.data.toList y.data.toList)))
  | _ => False
def sameKind (op : BinOp) (k k' : IntKind) : Bool := match op with
  | .shl => true
  | .shr => true
  | _ => k == k'
/-- A pointer, if it is surely not nil. -/
def isPtr : DV → Bool
  | .v (.pointer (some _)) => true
  | .ip _ => true
  | .ap _ _ _ _ _ => true
  | _ => false
def vBin (op : BinOp) (t : TK) (cx cy : Bool) (x y : DV) (K : DV → Prop) : Prop := match x, y with
  | .v (.int k m), .v (.int k' n) => sameKind op k k' = true ∧ vBinI op k m n K
  | .v (.string a), .v (.string b) => vBinS op a b K
  | .v (.bool a), .v (.bool b) => match t, op with
    | .one, .eql => K (.v (.bool (a == b)))
    | .one, .neq => K (.v (.bool (!(a == b))))
    | _, _ => False
  | .v .nilIface, .v .nilIface => match t, op with
    | .ifc _, .eql => (cx || cy) = true ∧ K (.v (.bool true))
    | .ifc _, .neq => (cx || cy) = true ∧ K (.v (.bool false))
    | _, _ => False
  | .ifc _ _, .v .nilIface => match t, op with
    | .ifc _, .eql => K (.v (.bool false))
    | .ifc _, .neq => K (.v (.bool true))
    | _, _ => False
  | .v (.pointer none), .v (.pointer none) => match t, op with
    | .ptr _, .eql => K (.v (.bool true))
    | .ptr _, .neq => K (.v (.bool false))
    | _, _ => False
  | d, .v (.pointer none) => match t, op with
    | .ptr _, .eql => isPtr d = true ∧ K (.v (.bool false))
    | .ptr _, .neq => isPtr d = true ∧ K (.v (.bool true))
    | _, _ => False
  | _, _ => False
def isC : Operand → Bool
  | .const _ => true
  | _ => false

theorem eqGuard_plain {op : BinOp} {t : TypeId} {x y : Operand} {a b : Value} {w : World} (h : ∀ c, a ≠ .agg c) (h' : a ≠ .nilIface ∨ b ≠ .nilIface) : (eqGuard op t x y a b).run P w = .ok () w := by
  unfold eqGuard
  cases op
  case eql | neq =>
    simp only [Bool.not_true, Bool.false_eq_true, if_false]
    split
    · simp_all
    · exact absurd rfl (h _)
    · rfl
  all_goals rfl
theorem eqGuard_nil {op : BinOp} {t : TypeId} {x y : Operand} {w : World} (h : (isC x || isC y) = true) : (eqGuard op t x y .nilIface .nilIface).run P w = .ok () w := by
  unfold eqGuard
  cases op
  case eql | neq =>
    simp only [Bool.not_true, Bool.false_eq_true, if_false]
    cases x <;> cases y <;> first | rfl | (simp [isC] at h)
  all_goals rfl

theorem beq_dec (m n : Int) : (m == n) = decide (m = n) := by by_cases h : m = n <;> simp [h]
theorem binOp_int {op : BinOp} {t : TypeId} {k k' : IntKind} {m n : Int} {w : World} {g : Gh} {K : DV → Prop} (hk : sameKind op k k' = true) (h : vBinI op k m n K) : ∃ d u, (binOp op t (.int k m) (.int k' n)).run P w = .ok u w ∧ Rep g d u ∧ K d := by
  cases op <;> simp only [vBinI, sameKind, beq_iff_eq] at h hk
  case shl => exact ⟨_, _, by simp [binOp, Op.shift, show ¬ n < 0 by omega], .v _ rfl, h.2⟩
  case shr => exact ⟨_, _, by simp [binOp, Op.shift, show ¬ n < 0 by omega], .v _ rfl, h.2⟩
  all_goals subst hk
  case quo => exact ⟨_, _, by simp [binOp, Op.intDiv, h.1], .v _ rfl, h.2⟩
  case rem => exact ⟨_, _, by simp [binOp, Op.intDiv, h.1], .v _ rfl, h.2⟩
  case and => exact ⟨_, _, by simp [binOp, Op.intBits, bitD], .v _ rfl, h⟩
  case or => exact ⟨_, _, by simp [binOp, Op.intBits, bitD], .v _ rfl, h⟩
  case xor => exact ⟨_, _, by simp [binOp, Op.intBits, bitD], .v _ rfl, h⟩
  case andNot => exact ⟨_, _, by simp [binOp, Op.intBits, bitD], .v _ rfl, h⟩
  case eql => exact ⟨_, _, by simp [binOp, Op.intCmp, beq_dec], .v _ rfl, h⟩
  case neq => exact ⟨_, _, by simp [binOp, Op.intCmp, bne, beq_dec], .v _ rfl, h⟩
  all_goals exact ⟨_, _, by simp [binOp, Op.intCmp, Op.intArith], .v _ rfl, h⟩
theorem beq_decL (m n : List UInt8) : (m == n) = decide (m = n) := by by_cases h : m = n <;> simp [h]
theorem beq_decA (m n : Array UInt8) : (m == n) = decide (m = n) := by by_cases h : m = n <;> simp [h]
theorem binOp_str {op : BinOp} {t : TypeId} {a b : ByteArray} {w : World} {g : Gh} {K : DV → Prop} (h : vBinS op a b K) : ∃ d u, (binOp op t (.string a) (.string b)).run P w = .ok u w ∧ Rep g d u ∧ K d := by
  cases op <;> simp only [vBinS] at h
  case add =>
    refine ⟨_, _, ?_, .v _ rfl, h.2⟩
    have hm : IntKind.i64.max = 9223372036854775807 := by decide
    have : ¬ (((a.size + b.size : Nat) : Int) > IntKind.i64.max) := by rw [hm]; omega
    simp only [binOp, Op.stringOp, this, if_false]
    rfl
  all_goals exact ⟨_, _, by simp [binOp, Op.stringOp, ByteArray.toList_eq, beq_decA], .v _ rfl, h⟩

theorem tk_one {P : Program} {t : TypeId} (h : tk P t = .one) : P.underlying t = some .bool := by
  unfold tk at h; split at h <;> (try split at h) <;> (try cases h) <;> assumption
theorem tk_ifc {P : Program} {t : TypeId} {ms : List String} (h : tk P t = .ifc ms) : ∃ m, P.underlying t = some (.interface m) := by
  unfold tk at h; split at h <;> (try split at h) <;> (try cases h); exact ⟨_, by assumption⟩
theorem tk_ptr {P : Program} {t : TypeId} {e : Nat} (h : tk P t = .ptr e) : P.underlying t = some (.pointer e) := by
  unfold tk at h; split at h <;> (try split at h) <;> (try cases h) <;> assumption

theorem rep_isPtr {g : Gh} {d : DV} {u : Value} (r : Rep g d u) (h : isPtr d = true) : ∃ a, u = .pointer (some a) := by
  unfold isPtr at h
  split at h
  · exact ⟨_, rep_v r⟩
  · obtain ⟨b, o, us, hv, _⟩ := rep_ip r; exact ⟨_, hv⟩
  · obtain ⟨b, q, c, hv, _⟩ := rep_ap r; exact ⟨_, hv⟩
  · cases h

theorem equal_one {t : TypeId} (x y : Value) : Op.equal t x y = Op.equalIn (9999 + 1) t x y := rfl
theorem equal_bool {t : TypeId} {a b : Bool} {w : World} (h : P.underlying t = some .bool) : (Op.equal t (.bool a) (.bool b)).run P w = .ok (a == b) w := by
  rw [equal_one, Op.equalIn, Sem.run_bind, run_underlying h]; rfl
theorem equal_nn {t : TypeId} {m : Array (String × TypeId)} {w : World} (h : P.underlying t = some (.interface m)) : (Op.equal t .nilIface .nilIface).run P w = .ok true w := by
  rw [equal_one, Op.equalIn, Sem.run_bind, run_underlying h]; rfl
theorem equal_in {t tt : TypeId} {u : Value} {m : Array (String × TypeId)} {w : World} (h : P.underlying t = some (.interface m)) : (Op.equal t (.iface tt u) .nilIface).run P w = .ok false w := by
  rw [equal_one, Op.equalIn, Sem.run_bind, run_underlying h]; rfl
theorem equal_pp {t e : TypeId} {w : World} (h : P.underlying t = some (.pointer e)) : (Op.equal t (.pointer none) (.pointer none)).run P w = .ok true w := by
  rw [equal_one, Op.equalIn, Sem.run_bind, run_underlying h]; rfl
theorem equal_pn {t e : TypeId} {a : Addr} {w : World} (h : P.underlying t = some (.pointer e)) : (Op.equal t (.pointer (some a)) (.pointer none)).run P w = .ok false w := by
  rw [equal_one, Op.equalIn, Sem.run_bind, run_underlying h]; rfl
theorem bin_eq {t : TypeId} {x y : Value} {b : Bool} {w : World} (e1 : binOp .eql t x y = (do pure (.bool (← Op.equal t x y)))) (e2 : binOp .neq t x y = (do pure (.bool !(← Op.equal t x y)))) (h : (Op.equal t x y).run P w = .ok b w) :
    (binOp .eql t x y).run P w = .ok (.bool b) w ∧ (binOp .neq t x y).run P w = .ok (.bool !b) w :=
  ⟨by rw [e1]; simp [h], by rw [e2]; simp [h]⟩

theorem y_binOp {o : Oper} {op : BinOp} {t t' : TypeId} {x y : Operand} (ho : o.op = .binOp op t x y t') {ρD : Operand → DV} {S : St} {K : DV → St → Prop} (h : vBin op (tk P t) (isC x) (isC y) (ρD x) (ρD y) (K · S)) : YieldsE P w0 o ρD S K := by
  refine y_value fun g w ρ h1 h2 => ?_
  have hx := h2 x (by simp [ho, Op.operands])
  have hy := h2 y (by simp [ho, Op.operands])
  have fin : ∀ {a b : Value}, ρ x = a → ρ y = b → (eqGuard op t x y a b).run P w = .ok () w → (∃ d u, (binOp op t a b).run P w = .ok u w ∧ Rep g d u ∧ K d S) → ∃ d u, (execOp ρ o).run P w = .ok (.value u) w ∧ Rep g d u ∧ K d S := by
    rintro a b ha hb hg ⟨d, u, hr, hd, hk⟩
    exact ⟨d, u, by simp [execOp, ho, ha, hb, hg, hr], hd, hk⟩
  unfold vBin at h
  split at h
  · rename_i k m k' n e1 e2
    rw [e1] at hx; rw [e2] at hy
    exact fin (rep_v hx) (rep_v hy) (eqGuard_plain (by simp) (by simp)) (binOp_int h.1 h.2)
  · rename_i a b e1 e2
    rw [e1] at hx; rw [e2] at hy
    exact fin (rep_v hx) (rep_v hy) (eqGuard_plain (by simp) (by simp)) (binOp_str h)
  · rename_i a b e1 e2
    rw [e1] at hx; rw [e2] at hy
    refine fin (rep_v hx) (rep_v hy) (eqGuard_plain (by simp) (by simp)) ?_
    split at h
    · rename_i hk; exact ⟨_, _, (bin_eq rfl rfl (equal_bool (tk_one hk))).1, .v _ rfl, h⟩
    · rename_i hk; exact ⟨_, _, (bin_eq rfl rfl (equal_bool (tk_one hk))).2, .v _ rfl, h⟩
    · exact h.elim
  · rename_i e1 e2
    rw [e1] at hx; rw [e2] at hy
    split at h
    · rename_i hk
      obtain ⟨m, hm⟩ := tk_ifc hk
      exact fin (rep_v hx) (rep_v hy) (eqGuard_nil h.1) ⟨_, _, (bin_eq rfl rfl (equal_nn hm)).1, .v _ rfl, h.2⟩
    · rename_i hk
      obtain ⟨m, hm⟩ := tk_ifc hk
      exact fin (rep_v hx) (rep_v hy) (eqGuard_nil h.1) ⟨_, _, (bin_eq rfl rfl (equal_nn hm)).2, .v _ rfl, h.2⟩
    · exact h.elim
  · rename_i tt d e1 e2
    rw [e1] at hx; rw [e2] at hy
    obtain ⟨u, hv, _⟩ := rep_ifc hx
    split at h
    · rename_i hk
      obtain ⟨m, hm⟩ := tk_ifc hk
      exact fin hv (rep_v hy) (eqGuard_plain (by simp) (by simp)) ⟨_, _, (bin_eq rfl rfl (equal_in hm)).1, .v _ rfl, h⟩
    · rename_i hk
      obtain ⟨m, hm⟩ := tk_ifc hk
      exact fin hv (rep_v hy) (eqGuard_plain (by simp) (by simp)) ⟨_, _, (bin_eq rfl rfl (equal_in hm)).2, .v _ rfl, h⟩
    · exact h.elim
  · rename_i e1 e2
    rw [e1] at hx; rw [e2] at hy
    split at h
    · rename_i hk
      exact fin (rep_v hx) (rep_v hy) (eqGuard_plain (by simp) (by simp)) ⟨_, _, (bin_eq rfl rfl (equal_pp (tk_ptr hk))).1, .v _ rfl, h⟩
    · rename_i hk
      exact fin (rep_v hx) (rep_v hy) (eqGuard_plain (by simp) (by simp)) ⟨_, _, (bin_eq rfl rfl (equal_pp (tk_ptr hk))).2, .v _ rfl, h⟩
    · exact h.elim
  · rename_i e2 _
    rw [e2] at hy
    split at h
    · rename_i hk
      obtain ⟨a, ha⟩ := rep_isPtr hx h.1
      exact fin ha (rep_v hy) (eqGuard_plain (by simp) (by simp)) ⟨_, _, (bin_eq rfl rfl (equal_pn (tk_ptr hk))).1, .v _ rfl, h.2⟩
    · rename_i hk
      obtain ⟨a, ha⟩ := rep_isPtr hx h.1
      exact fin ha (rep_v hy) (eqGuard_plain (by simp) (by simp)) ⟨_, _, (bin_eq rfl rfl (equal_pn (tk_ptr hk))).2, .v _ rfl, h.2⟩
    · exact h.elim
  · exact h.elim
end
end Aml
