/-
  make, cap, stores into elements, slices cut to nothing. By an AI agent.
-/
import Derived.Test.YtkibkahknibgfaaB1
namespace Aml
open Go Go.RowKit
set_option linter.unusedVariables false
set_option linter.unusedSimpArgs false

theorem w64 {n : Int} (h0 : -9223372036854775808 ≤ n) (h1 : n ≤ 9223372036854775807) : IntKind.i64.wrap n = n := by
  show (if (true && decide (n % 18446744073709551616 ≥ 9223372036854775808)) = true then n % 18446744073709551616 - 18446744073709551616 else n % 18446744073709551616) = n
  by_cases h : n % 18446744073709551616 ≥ 9223372036854775808
  · rw [if_pos (by simpa using h)]; omega
  · rw [if_neg (by simpa using h)]; omega
section
variable {P : Program} {w0 : World}

def vMakeSlice (k : TK) (z x y : DV) (S : St) (K : DV → St → Prop) : Prop := match k, x, y with
  | .sl _ s by' true, .v (.int _ n), .v (.int _ m) => okE z = true ∧ 0 ≤ n ∧ n ≤ m ∧ m * by' ≤ 140737488355328 ∧ m ≤ 9223372036854775807 ∧ ∀ l, nin S.acc l → K (.acc l n.toNat) ⟨S.box, (l, .arr s (List.replicate n.toNat z)) :: S.acc⟩
  | _, _, _ => False
theorem y_makeSlice {o : Oper} {t : TypeId} {x y : Operand} (ho : o.op = .makeSlice t x y) {ρD : Operand → DV} {S : St} {K : DV → St → Prop} (h : vMakeSlice (tk P t) (zD P (elT P t)) (ρD x) (ρD y) S K) : YieldsE P w0 o ρD S K := by
  intro g w ρ h1 h2 hcst
  have hx := h2 x (by simp [ho, Op.operands])
  have hy := h2 y (by simp [ho, Op.operands])
  unfold vMakeSlice at h
  split at h
  · rename_i e s by' k1 n k2 m hk hx' hy'
    rw [hx'] at hx
    rw [hy'] at hy
    obtain ⟨hok, h0, hnm, hby, hm63, hK⟩ := h
    obtain ⟨hu, hs, hbs, hei⟩ := tk_sl hk
    obtain ⟨ti, z, hi, hz, hzs, hpos⟩ := okEl_spec hei
    have hsz : ti.size = s := by simpa [Program.cellsOf, hi] using hs
    have hib : ti.bytes = by' := by simpa [Program.bytesOf, hi] using hbs
    have hel : elT P t = e := by simp [elT, hk]
    have hzD : zD P (elT P t) = cv z := by rw [hel]; simp [zD, hi, hz]
    have hrz : Rep g (zD P (elT P t)) z := hzD ▸ rep_cv g z
    obtain ⟨N, rfl⟩ := Int.eq_ofNat_of_zero_le h0
    obtain ⟨M, rfl⟩ := Int.eq_ofNat_of_zero_le (Int.le_trans h0 hnm)
    have hNM : N ≤ M := Int.ofNat_le.1 hnm
    have hM : M * by' ≤ 140737488355328 := by rw [← Int.natCast_mul] at hby; omega
    have hM63 : M ≤ maxLen := by unfold maxLen; omega
    have w1 : IntKind.i64.wrap (N : Int) = N := w64 (by omega) (by omega)
    have w2 : IntKind.i64.wrap (M : Int) = M := w64 (by omega) (by omega)
    have hpw := pw_made (z := z) (s := s) (n := M) (by omega) (by omega)
    have hrun : (Instr.makeSlice t (ρ x) (ρ y)).run P w = .ok (.slice (some ⟨w.heap.size, 0, none⟩) N M) (w.alloc (.cells ((Array.range (M * s)).map (z.cells[· % z.cells.size]!)) e)) := by
      have hby2 : ¬ (281474976710656 < (by' : Int) * (M : Int)) := by
        have : (M : Int) * by' ≤ 140737488355328 := hby
        rw [Int.mul_comm]; omega
      have c1 : ¬ ((M : Int) < 0) := by omega
      have c2 : ¬ ((N : Int) < 0) := by omega
      have c3 : ¬ ((M : Int) < (N : Int)) := by omega
      have hroom : ¬ (roomBytes < M * by') := by unfold roomBytes; omega
      simp only [rep_v hx, rep_v hy, Instr.makeSlice, asInt, asIntOf, run_underlying hu, typeInfo, hi, Sem.run_bind, Sem.run_pure, Result.andThen_ok, run_program, w1, w2, hib]
      by_cases hz0 : M * s = 0
      · have hr0 : ∀ f : Nat → Value, (Array.range 0).map f = #[] := fun f => by simp
        simp [c1, c2, c3, hby2, askRoom, hroom, Go.sizeOf, typeInfo, hi, hsz, hz0, newRow]
        rw [hr0, hr0]
      · simp [c1, c2, c3, hby2, askRoom, hroom, Go.sizeOf, typeInfo, hi, hsz, hz0, newRow, zeroValue, hz]
    have hlenN : (List.replicate N (zD P (elT P t))).length = N := by simp
    obtain ⟨l, g', hle, hne, hR, hA⟩ := h1.newArr (s := s) (xs := List.replicate N (zD P (elT P t))) (us := List.replicate N z) (c := M) (below_alloc w (.cells ((Array.range (M * s)).map (z.cells[· % z.cells.size]!)) e)) (by omega) (Nat.le_refl _) (heap_alloc_new w _) (by simp) (by rw [hlenN]; exact hNM) hM63
      ⟨by simp, fun i d u a b => by
        rw [List.getElem?_replicate] at a b
        split at a
        · rename_i hlt; rw [if_pos hlt] at b; simp only [Option.some.injEq] at a b; subst a; subst b; exact hrz
        · cases a⟩ (fun i u h => by rw [List.getElem?_replicate] at h; split at h <;> simp_all) (fun u hu x hx => by rw [List.eq_of_mem_replicate hu] at hx; exact hrz.one hok x hx)
      (fun i u j x a b => by
        have hlt : i < N := by rw [List.getElem?_replicate] at a; split at a <;> first | assumption | cases a
        have := hpw.at_ i u j x (by rw [List.getElem?_replicate] at a ⊢; rw [if_pos hlt] at a; rw [if_pos (by omega)]; exact a) b
        rwa [Array.getElem?_toList] at this)
    rw [hlenN] at hA
    have hex : (execOp ρ o).run P w = .ok (.value (.slice (some ⟨w.heap.size, 0, none⟩) N M)) (w.alloc (.cells ((Array.range (M * s)).map (z.cells[· % z.cells.size]!)) e)) := by
      simp only [execOp, ho, Sem.run_bind]
      rw [hrun]; rfl
    rw [hex]
    exact ⟨g', _, _, hle, hR, hA, hK l (nin_of hne)⟩
  · exact h.elim

def vCap (k : TK) (x : DV) (K : DV → Prop) : Prop := match k, x with
  | .sl _ _ _ _, .sl _ true xs => K (.v (.int .i64 xs.length))
  | _, _ => False
theorem y_cap {o : Oper} {t : TypeId} {x : Operand} (ho : o.op = .call { callee := .builtin .cap, args := #[x], argTypes := #[t] }) {ρD : Operand → DV} {S : St} {K : DV → St → Prop} (h : vCap (tk P t) (ρD x) (K · S)) : YieldsE P w0 o ρD S K := by
  refine y_value fun g w ρ h1 h2 => ?_
  have hx := h2 x (by simp [ho, Op.operands, Call.operands])
  unfold vCap at h
  split at h
  · rename_i hk hx'
    rw [hx'] at hx
    rename_i xs
    obtain ⟨a, hv⟩ : ∃ a, ρ x = .slice a xs.length xs.length := by
      rcases rep_sl hx with ⟨he, o', c, hv, hf⟩ | ⟨b, o', c', us, hv', hl, hfl, _⟩
      · subst he; rw [hv, hf rfl]; exact ⟨_, rfl⟩
      · rw [hv', hfl rfl]; exact ⟨_, rfl⟩
    exact ⟨_, _, by simp [execOp, ho, resolve, invoke, builtin, hv, Builtin.cap_, run_underlying (tk_sl hk).1, goInt], .v _ rfl, h⟩
  · exact h.elim

/-- An element with some of its cells anew. -/
def elSet (d : DV) (o n s : Nat) (y : DV) : Option DV := if o = 0 ∧ n = s then some y else match d with
  | .agg ds => some (.agg (setAll ds o (cd y)))
  | _ => none
/-- A store, also into an element. -/
def vStoreX (n : Nat) (S : St) (x y : DV) (K : St → Prop) : Prop := match x with
  | .ap l m s i o => okE y = true ∧ (cd y).length = n ∧ (match lk S.acc l with
    | some (.arr s' xs) => s' = s ∧ xs.length = m ∧ o + n ≤ s ∧ ∃ d, xs[i]? = some d ∧ okE d = true ∧ ∃ d', elSet d o n s y = some d' ∧ K ⟨S.box, up S.acc l (.arr s (xs.set i d'))⟩
    | _ => False)
  | x => vStore n S x y K

theorem elSet_ok {g : Gh} {d y : DV} {o n s : Nat} {d' : DV} {u v : Value} (hd : Rep g d u) (hok : okE d = true) (hus : u.cells.size = s) (hy : Rep g y v) (hoy : okE y = true) (hvn : v.cells.size = n) (hon : o + n ≤ s) (h : elSet d o n s y = some d') :
    ∃ u', Rep g d' u' ∧ u'.cells.size = s ∧ (∀ x, x ∈ u'.cells.toList → x.oneCell' = true) ∧ ∀ j, u'.cells[j]? = if o ≤ j ∧ j < o + n then v.cells[j - o]? else u.cells[j]? := by
  unfold elSet at h
  split at h
  · rename_i hc
    obtain ⟨rfl, rfl⟩ := hc
    cases h
    refine ⟨v, hy, hvn, hy.one hoy, fun j => ?_⟩
    split
    · simp
    · rename_i hj
      rw [Array.getElem?_eq_none (by omega), Array.getElem?_eq_none (by omega)]
  · split at h
    · rename_i ds
      cases h
      cases hd with
      | agg _ us hl hr h1 =>
        have hu' : (Value.agg us.toArray).cells = us.toArray := rfl
        have hcl := hy.cells hoy
        have hlu : us.length = s := by simpa [hu'] using hus
        have hR := repL_setAll (o := o) (g := g) (ds := ds) (us := us) ⟨hl, hr⟩ hcl
        have hle : o + v.cells.toList.length ≤ us.length := by simp; omega
        refine ⟨.agg (setAllV us o v.cells.toList).toArray, .agg _ _ hR.len hR.at_ (fun x hx => ?_), ?_, fun x hx => ?_, fun j => ?_⟩
        · rcases mem_setAllV _ _ _ _ hx with hx | hx
          · exact h1 x hx
          · exact hy.one hoy x hx
        · show (setAllV us o v.cells.toList).toArray.size = s
          simp only [List.size_toArray]
          rw [setAllV_eq _ _ _ hle]
          simp only [List.length_append, List.length_take, List.length_drop, Array.length_toList]
          simp only [Array.length_toList] at hle
          omega
        · have hx : x ∈ setAllV us o v.cells.toList := by simpa [Value.cells] using hx
          rcases mem_setAllV _ _ _ _ hx with hx | hx
          · exact h1 x hx
          · exact hy.one hoy x hx
        · show (setAllV us o v.cells.toList).toArray[j]? = _
          rw [List.getElem?_toArray, get_setAllV hle]
          simp [hu', hvn]
    · cases h

theorem y_storeX {o : Oper} {t : TypeId} {x y : Operand} (ho : o.op = .store t x y) {ρD : Operand → DV} {S : St} {K : DV → St → Prop} (hi : (P.info? t).isSome = true) (h : vStoreX (P.cellsOf t) S (ρD x) (ρD y) (K ud)) : YieldsE P w0 o ρD S K := by
  unfold vStoreX at h
  split at h
  · rename_i l m s i o' hxe
    intro g w ρ h1 h2 hcst
    have hx := h2 x (by simp [ho, Op.operands])
    have hy := h2 y (by simp [ho, Op.operands])
    rw [hxe] at hx
    obtain ⟨hok, hlen, h⟩ := h
    split at h
    · rename_i s' xs hl
      obtain ⟨rfl, rfl, hon, d, hd, hod, d', hes, hK⟩ := h
      have hilt : i < xs.length := (List.getElem?_eq_some_iff.1 hd).1
      obtain ⟨b, q, c0, hval, hrx⟩ : ∃ b q c0, g.acc l xs.length = some (.slice (some ⟨b, q, none⟩) xs.length c0) ∧ ρ x = .pointer (some ⟨b, q + i * s' + o', none⟩) := by
        generalize hu : ρ x = u at hx
        cases hx with
        | ap _ _ _ _ _ b q c h => exact ⟨b, q, c, h, rfl⟩
      obtain ⟨ow, hO⟩ := h1.open_
      obtain ⟨hs, ⟨he, o2, ha⟩ | ⟨b', c, cs, e, q1, q2, q3, q4, q5, q6, q7, q8, us, q9, q10, q11, q12⟩⟩ := hO.acc l _ (lk_mem hl)
      · rw [he] at hilt; simp at hilt
      · have hval' := hval
        rw [q1] at hval'
        simp only [Option.some.injEq, Value.slice.injEq, Addr.mk.injEq, true_and, and_true] at hval'
        obtain ⟨⟨rfl, rfl⟩, rfl⟩ := hval'
        simp only [Nat.zero_add] at hrx
        have hul : us.length = xs.length := q9.len.symm
        have hiu : i < us.length := by omega
        have hui : us[i]? = some us[i] := List.getElem?_eq_getElem hiu
        have hru := q9.at_ i d _ hd hui
        have husz := q10 i _ hui
        have hcl := hy.cells hok
        have hvl : (ρ y).cells.size = P.cellsOf t := by have := hcl.len; simp at this; omega
        obtain ⟨u', r1, r2, r3, r4⟩ := elSet_ok hru hod husz hy hok hvl hon hes
        have hbound : i * s' + s' ≤ cs.size := by
          rw [q6]
          have := Nat.mul_le_mul_right s' (show i + 1 ≤ c by omega)
          rw [Nat.succ_mul] at this; exact this
        have hsize : (Go.sizeOf t).run P w = .ok (P.cellsOf t) w := by
          obtain ⟨ti, hi⟩ := Option.isSome_iff_exists.1 hi
          simp [Go.sizeOf, typeInfo, hi, Program.cellsOf]
        have hst := run_storeCells_at (P := P) b' (i * s' + o') e (ρ y).cells.toList 0 cs w q5 (by simp; omega) (hy.one hok)
        have hle2 : (i * s' + o') + (ρ y).cells.toList.length ≤ cs.toList.length := by simp; omega
        have hrun : (execOp ρ o).run P w = .ok .skip (w.setRow b' (setAllV cs.toList (i * s' + o') (ρ y).cells.toList).toArray) := by
          rw [setAllV_eq _ _ _ hle2]
          simp only [Nat.add_zero] at hst
          simp [execOp, ho, hrx, Instr.storeAt, Instr.sureAddr, storeVar, hsize, hvl, hst]
        rw [hrun]
        have hxs : (xs.set i d').length = xs.length := by simp
        refine ⟨g, _, .refl g, h1.rearr (ys := xs.set i d') (us := us.set i u') (b := b') (c := c) (e := e) (cs := (setAllV cs.toList (i * s' + o') (ρ y).cells.toList).toArray) hl hval hxs (by omega) ?_ ?_ ?_ ?_ ?_ (q9.set i r1) ?_ ?_ ?_, hK⟩
        · exact setRow_heap w b' cs _ e (0, 0) q5
        · rw [List.size_toArray, setAllV_eq _ _ _ hle2]
          simp only [List.length_append, List.length_take, List.length_drop, Array.length_toList]
          simp only [Array.length_toList] at hle2
          rw [← q6]; omega
        · exact h1.below.trans ⟨rfl, rfl, rfl, by simp, fun k hk => setRow_other w b' k _ (by omega)⟩
        · simp
        · intro k _ hkb; exact setRow_other w b' k _ hkb
        · intro j u hj
          rw [List.getElem?_set] at hj
          split at hj
          · cases hj; exact r2
          · exact q10 j u hj
        · intro u hu
          rcases List.mem_or_eq_of_mem_set hu with hu | rfl
          · exact q11 u hu
          · exact r3
        · intro i2 u j x hi2 hj
          rw [List.getElem?_toArray, get_setAllV hle2]
          rw [List.getElem?_set] at hi2
          split at hi2
          · rename_i e2
            subst e2
            cases hi2
            rw [r4] at hj
            simp only [Array.length_toList, hvl]
            split at hj
            · rename_i hc
              rw [if_pos (by omega)]
              rw [show i * s' + j - (i * s' + o') = j - o' by omega]
              simpa using hj
            · rename_i hc
              rw [if_neg (by omega)]
              simpa using q12 i _ j x hui hj
          · rename_i hne
            have hjs : j < s' := by rw [← q10 i2 u hi2]; exact (Array.getElem?_eq_some_iff.1 hj).1
            rw [if_neg]
            · simpa using q12 i2 u j x hi2 hj
            · simp only [Array.length_toList, hvl]
              rintro ⟨ha, hb⟩
              rcases Nat.lt_or_gt_of_ne hne with h' | h'
              · have := Nat.mul_le_mul_right s' (show i + 1 ≤ i2 by omega)
                rw [Nat.succ_mul] at this
                omega
              · have := Nat.mul_le_mul_right s' (show i2 + 1 ≤ i by omega)
                rw [Nat.succ_mul] at this
                omega
    · exact h.elim
  · exact y_store ho hi h

end
end Aml
