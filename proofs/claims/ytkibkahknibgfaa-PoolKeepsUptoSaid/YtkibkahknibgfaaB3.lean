/-
  append of so many zeros; comparison of a slice with nil; a growing slice cut to nothing. By an AI agent.
-/
import Derived.Test.YtkibkahknibgfaaB2
namespace Aml
open Go Go.RowKit
set_option linter.unusedVariables false
set_option linter.unusedSimpArgs false

section
variable {P : Program} {w0 : World}

theorem app_int {w : World} {t t' ty e : TypeId} {k' : IntKind} {i : TypeInfo} {z : Value} (ht : P.underlying t = some (.slice e)) (ht' : P.underlying t' = some (.int k')) (hi : P.info? e = some i) (hz : i.zero = some z) (hpos : 0 < i.size)
    {o : Option Addr} {k : IntKind} {n : Nat} (h0 : 0 < n) (h63 : n ≤ maxLen) (hby : n * i.bytes ≤ 140737488355328) :
    (Builtin.append_ #[t, t'] ty #[.slice o 0 0, .int k n]).run P w = .ok (.slice (some ⟨w.heap.size, 0, none⟩) n (grownCap w n 0 e))
      (w.drew.alloc (.cells (Builtin.zeroCells z.cells n ++ Builtin.zeroCells z.cells (grownCap w n 0 e - n)) e)) := by
  have hw : IntKind.i64.wrap (n : Int) = n := w64 (by omega) (by unfold maxLen at h63; omega)
  have c1 : ¬ ((n : Int) < 0) := by omega
  have hbi : (n : Int) * i.bytes ≤ 140737488355328 := by rw [← Int.natCast_mul]; omega
  have c2 : ¬ (281474976710656 < (n : Int) * (i.bytes : Int)) := by omega
  have c3 : ¬ (n * i.size = 0) := by
    intro h
    rcases Nat.mul_eq_zero.1 h with h | h <;> omega
  have c4 : ¬ (9223372036854775807 < (n : Int)) := by unfold maxLen at h63; omega
  have hfit := growslice_fits (need := n) (old := 0) (bytes := i.bytes) h0 hby
  have c5 : ¬ (281474976710656 < Builtin.nextslicecap n 0 * i.bytes) := by omega
  have c6 : ¬ (n = 0) := by omega
  have c7 : ¬ (i.size = 0) := by omega
  have hfc : ∀ w' : World, (Builtin.firstCells i.size 0 (.slice o 0 0)).run P w' = .ok #[] w' := by
    intro w'
    cases o with
    | none => simp [Builtin.firstCells]
    | some a => simp [Builtin.firstCells, loadCells, loadCellsFrom]
  simp [Builtin.append_, run_underlying ht, run_underlying ht', Go.sizeOf, typeInfo, hi, zeroValue, hz, asInt, asIntOf, hw, c1, c2, c3, c4, c5, c6, c7, hfc, Question.forced, newRow, grownCap]

def vAppInt (k : TK) (z : DV) (S : St) (x y : DV) (K : DV → St → Prop) : Prop := match k, x, y with
  | .sl _ s by' true, .sl _ true [], .v (.int _ n) => okE z = true ∧ 0 < n ∧ n * by' ≤ 140737488355328 ∧ n ≤ 9223372036854775807 ∧ ∀ l, nin S.acc l → K (.acc l n.toNat) ⟨S.box, (l, .arr s (List.replicate n.toNat z)) :: S.acc⟩
  | _, _, _ => False
theorem get_zero {z : Value} {m k : Nat} (hk : k < m * z.cells.size) : (Builtin.zeroCells z.cells m)[k]? = some (z.cells[k % z.cells.size]!) := by
  simp [Builtin.zeroCells, hk]

theorem y_appInt {o : Oper} {t t' : TypeId} {x y : Operand} {k' : IntKind} (ho : o.op = .call { callee := .builtin .append, args := #[x, y], argTypes := #[t, t'] }) (hk' : tk P t' = .int k') {ρD : Operand → DV} {S : St} {K : DV → St → Prop}
    (h : vAppInt (tk P t) (zD P (elT P t)) S (ρD x) (ρD y) K) : YieldsE P w0 o ρD S K := by
  intro g w ρ h1 h2 hcst
  have hx := h2 x (by simp [ho, Op.operands, Call.operands])
  have hy := h2 y (by simp [ho, Op.operands, Call.operands])
  have hut' := tk_int hk'
  unfold vAppInt at h
  split at h
  · rename_i e s by' s0 k n hk hxe hye
    rw [hxe] at hx
    rw [hye] at hy
    obtain ⟨hok, h0, hby, h63, hK⟩ := h
    obtain ⟨hu, hs, hbs, hei⟩ := tk_sl hk
    obtain ⟨ti, z, hi, hz, hzs, hpos⟩ := okEl_spec hei
    have hsz : ti.size = s := by simpa [Program.cellsOf, hi] using hs
    have hib : ti.bytes = by' := by simpa [Program.bytesOf, hi] using hbs
    have hel : elT P t = e := by simp [elT, hk]
    have hzD : zD P (elT P t) = cv z := by rw [hel]; simp [zD, hi, hz]
    have hrz : Rep g (zD P (elT P t)) z := hzD ▸ rep_cv g z
    obtain ⟨N, rfl⟩ := Int.eq_ofNat_of_zero_le (Int.le_of_lt h0)
    have h0' : 0 < N := by omega
    have hbn : N * by' ≤ 140737488355328 := by rw [← Int.natCast_mul] at hby; omega
    have hN63 : N ≤ maxLen := by unfold maxLen; omega
    obtain ⟨o', hxv⟩ := rep_full_nil hx
    have hr := app_int (w := w) (ty := o.type) (o := o') (k := k) hu hut' hi hz hpos h0' hN63 (by rw [hib]; exact hbn)
    have hcap := grownCap_ge w N 0 e
    have hcm := grownCap_le_maxLen w N 0 e hN63
    generalize hC : grownCap w N 0 e = C at *
    have hlenN : (List.replicate N (zD P (elT P t))).length = N := by simp
    have hzc : z.cells.size = s := by omega
    have hsize : (Builtin.zeroCells z.cells N ++ Builtin.zeroCells z.cells (C - N)).size = C * s := by
      rw [Array.size_append, size_zeroCells, size_zeroCells, hzc, ← Nat.add_mul]
      congr 1; omega
    obtain ⟨l, g', hle, hne, hR, hA⟩ := h1.newArr (w' := w.drew.alloc (.cells (Builtin.zeroCells z.cells N ++ Builtin.zeroCells z.cells (C - N)) e)) (s := s) (xs := List.replicate N (zD P (elT P t))) (us := List.replicate N z) (b := w.heap.size) (c := C) (e := e)
      ((Below.refl _ _).drew.alloc (by simp) _) (by omega) (Nat.le_refl _) (heap_alloc_new w.drew _) hsize (by rw [hlenN]; exact hcap) hcm
      ⟨by simp, fun i d u a b => by
        rw [List.getElem?_replicate] at a b
        split at a
        · rename_i hlt; rw [if_pos hlt] at b; simp only [Option.some.injEq] at a b; subst a; subst b; exact hrz
        · cases a⟩ (fun i u h => by rw [List.getElem?_replicate] at h; split at h <;> simp_all) (fun u hu x hx => by rw [List.eq_of_mem_replicate hu] at hx; exact hrz.one hok x hx)
      (fun i u j x a b => by
        rw [List.getElem?_replicate] at a
        split at a
        · rename_i hlt
          cases a
          have hj : j < s := by rw [← hzc]; exact (Array.getElem?_eq_some_iff.1 b).1
          have hk := lt_mul hlt hj
          rw [Array.getElem?_append_left (by rw [size_zeroCells, hzc]; exact hk), get_zero (by rw [hzc]; exact hk), hzc]
          have : (i * s + j) % s = j := by rw [Nat.add_comm, Nat.add_mul_mod_self_right]; exact Nat.mod_eq_of_lt hj
          rw [this]
          obtain ⟨hj', hjx⟩ := Array.getElem?_eq_some_iff.1 b
          simp [hj', hjx]
        · cases a)
    rw [hlenN] at hA
    have hex : (execOp ρ o).run P w = .ok (.value (.slice (some ⟨w.heap.size, 0, none⟩) N C)) (w.drew.alloc (.cells (Builtin.zeroCells z.cells N ++ Builtin.zeroCells z.cells (C - N)) e)) := by
      simp [execOp, ho, resolve, invoke, builtin, hxv, rep_v hy, hr]
    rw [hex]
    exact ⟨g', _, _, hle, hR, hA, hK l (nin_of hne)⟩
  · exact h.elim

def isNilC : Operand → Bool
  | .const (.slice none 0 0) => true
  | _ => false
def vNilEq (op : BinOp) (k : TK) (x : DV) (K : DV → Prop) : Prop := match k, op, x with
  | .sl _ _ _ _, .eql, .sl _ _ xs => ∀ b : Bool, (xs ≠ [] → b = false) → K (.v (.bool b))
  | .sl _ _ _ _, .neq, .sl _ _ xs => ∀ b : Bool, (xs ≠ [] → b = true) → K (.v (.bool b))
  | .sl _ _ _ _, .eql, .acc _ n => ∀ b : Bool, (n ≠ 0 → b = false) → K (.v (.bool b))
  | .sl _ _ _ _, .neq, .acc _ n => ∀ b : Bool, (n ≠ 0 → b = true) → K (.v (.bool b))
  | _, _, _ => False
theorem equal_sn {t e : TypeId} {w : World} (ht : P.underlying t = some (.slice e)) (a : Option Addr) (n c : Nat) : (Op.equal t (.slice a n c) (.slice none 0 0)).run P w = .ok a.isNone w := by
  rw [equal_one, Op.equalIn, Sem.run_bind, run_underlying ht]; cases a <;> rfl
theorem y_nilEq {o : Oper} {op : BinOp} {t t' : TypeId} {x y : Operand} (ho : o.op = .binOp op t x y t') (hy : isNilC y = true) {ρD : Operand → DV} {S : St} {K : DV → St → Prop}
    (h : vNilEq op (tk P t) (ρD x) (K · S)) : YieldsE P w0 o ρD S K := by
  refine y_valueC fun g w ρ h1 h2 hcst => ?_
  have hx := h2 x (by simp [ho, Op.operands])
  have hyv : ρ y = .slice none 0 0 := by
    unfold isNilC at hy
    split at hy
    · exact hcst _
    · cases hy
  have acc : ∀ {l n : Nat}, ρD x = .acc l n → ∃ a c, ρ x = .slice a n c ∧ (n ≠ 0 → a.isNone = false) := by
    intro l n e
    rw [e] at hx
    obtain ⟨o', c, hv, ha⟩ := rep_acc hx
    obtain ⟨o2, c2, e2, e3⟩ := h1.accw _ _ _ ha
    simp only [Value.slice.injEq, true_and] at e2
    refine ⟨o', c, hv, fun hn => ?_⟩
    rcases e3 with e3 | ⟨b, q, e3⟩
    · exact absurd e3 hn
    · rw [e2.1, e3]; rfl
  have sl : ∀ {s : Nat} {f : Bool} {xs : List DV}, ρD x = .sl s f xs → ∃ a c, ρ x = .slice a xs.length c ∧ (xs ≠ [] → a.isNone = false) := by
    intro s f xs e
    rw [e] at hx
    rcases rep_sl hx with ⟨he, o', c, hv, _⟩ | ⟨b, o', c', us, hv', _⟩
    · subst he; exact ⟨o', c, hv, fun h => absurd rfl h⟩
    · exact ⟨_, _, hv', fun _ => rfl⟩
  have fin : ∀ {a : Option Addr} {n c : Nat} {e : TypeId}, P.underlying t = some (.slice e) → ρ x = .slice a n c → (op = .eql → (execOp ρ o).run P w = .ok (.value (.bool a.isNone)) w) ∧ (op = .neq → (execOp ρ o).run P w = .ok (.value (.bool (!a.isNone))) w) := by
    intro a n c e hu hv
    constructor
    · rintro rfl
      simp only [execOp, ho, hv, hyv, Sem.run_bind]
      rw [eqGuard_plain (by simp) (by simp)]
      simp only [Result.andThen_ok, (bin_eq rfl rfl (equal_sn hu a n c)).1]
      rfl
    · rintro rfl
      simp only [execOp, ho, hv, hyv, Sem.run_bind]
      rw [eqGuard_plain (by simp) (by simp)]
      simp only [Result.andThen_ok, (bin_eq rfl rfl (equal_sn hu a n c)).2]
      rfl
  unfold vNilEq at h
  split at h
  · rename_i hk e
    obtain ⟨a, c, hv, hn⟩ := sl e
    exact ⟨_, _, (fin (tk_sl hk).1 hv).1 rfl, .v _ rfl, h _ hn⟩
  · rename_i hk e
    obtain ⟨a, c, hv, hn⟩ := sl e
    exact ⟨_, _, (fin (tk_sl hk).1 hv).2 rfl, .v _ rfl, h _ fun q => by rw [hn q]; rfl⟩
  · rename_i hk e
    obtain ⟨a, c, hv, hn⟩ := acc e
    exact ⟨_, _, (fin (tk_sl hk).1 hv).1 rfl, .v _ rfl, h _ hn⟩
  · rename_i hk e
    obtain ⟨a, c, hv, hn⟩ := acc e
    exact ⟨_, _, (fin (tk_sl hk).1 hv).2 rfl, .v _ rfl, h _ fun q => by rw [hn q]; rfl⟩
  · exact h.elim

/-- A slice of whatever holds elements; a growing one may be cut to nothing, and grow anew in its row. -/
def vCut0 (S : St) (x : DV) (K : DV → St → Prop) : Prop := match x with
  | .acc l n => match lk S.acc l with
    | some (.arr s xs) => xs.length = n ∧ ∀ l', nin S.acc l' → K (.acc l' 0) ⟨S.box, ren S.acc l (l', .arr s [])⟩
    | _ => False
  | _ => False
def isZ : Option DV → Bool
  | some (.v (.int _ n)) => n == 0
  | _ => false
def vSliceX (k : TK) (S : St) (x : DV) (lo hi mx : Option DV) (K : DV → St → Prop) : Prop := match x with
  | .acc l n => (lo.isNone = true ∧ mx.isNone = true ∧ isZ hi = true ∧ (∃ e s b, k = .sl e s b true) ∧ vCut0 S (.acc l n) K) ∨ vSliceS k S (.acc l n) lo hi mx K
  | x => vSliceS k S x lo hi mx K
theorem y_sliceX {o : Oper} {t : TypeId} {x : Operand} {lo hi mx : Option Operand} (ho : o.op = .slice t x lo hi mx) {ρD : Operand → DV} {S : St} {K : DV → St → Prop}
    (hh : mx.isSome = true → hi.isSome = true) (hne : (lo ≠ some x ∧ hi ≠ some x ∧ mx ≠ some x)) (h : vSliceX (tk P t) S (ρD x) (lo.map ρD) (hi.map ρD) (mx.map ρD) K) : YieldsE P w0 o ρD S K := by
  unfold vSliceX at h
  split at h
  · rename_i l n hxe
    rcases h with ⟨e1, e2, e3, ⟨e, s, by', hk⟩, h⟩ | h
    · intro g w ρ h1 h2 hcst
      have hx := h2 x (by simp [ho, Op.operands])
      have el : lo = none := by cases lo <;> simp_all
      have em : mx = none := by cases mx <;> simp_all
      subst el; subst em
      cases hi with
      | none => simp [isZ] at e3
      | some y =>
        have hy := h2 y (by simp [ho, Op.operands])
        simp only [Option.map_some, isZ] at e3
        split at e3
        · rename_i k m hye
          simp only [Option.some.injEq] at hye
          rw [hye] at hy
          have hm : m = 0 := by simpa using e3
          subst hm
          simp only [vCut0] at h
          · split at h
            · rename_i s' xs hl
              obtain ⟨rfl, hK⟩ := h
              rw [hxe] at hx
              obtain ⟨a, c, hv, ha⟩ := rep_acc hx
              obtain ⟨l2, g', hle, hne2, hR, hA⟩ := h1.cut hl (Nat.zero_le _) ha
              obtain ⟨hu, hs, hbs, hei⟩ := tk_sl hk
              have hsize : (Go.sizeOf e).run P w = .ok s w := by
                obtain ⟨j, z', hq, _, _, _⟩ := okEl_spec hei
                unfold Program.cellsOf at hs
                simp [hq] at hs; simp [Go.sizeOf, typeInfo, hq, hs]
              have hrun : (execOp ρ o).run P w = .ok (.value (.slice a 0 c)) w := by
                have hb : (Instr.sliceBounds true xs.length c none (some (.int k 0)) none).run P w = .ok (0, 0, c) w := by
                  have : (Instr.sliceBound (.int k 0) c .sliceAcap).run P w = .ok 0 w := by
                    have := run_bound (P := P) (k := k) (i := 0) (y := c) (code := .sliceAcap) (w := w) (by omega) (by omega)
                    simpa using this
                  simp [Instr.sliceBounds, this, run_bound]
                simp [execOp, ho, hv, Instr.sliceAt, Instr.slice, run_underlying hu, rep_v hy, hb, hsize]
                cases a <;> simp [Addr.add]
              rw [hrun]
              exact ⟨g', _, _, hle, by simpa using hR, hA, hK l2 (nin_of hne2)⟩
            · exact h.elim
        · cases e3
    · exact y_sliceS ho hh hne (by rw [hxe]; exact h) 
  · exact y_sliceS ho hh hne h
end
end Aml
