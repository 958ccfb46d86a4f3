/-
  Slices of the call's own, made, written and cut in place; make, cap, stores into elements, slices cut to nothing; append of so many zeros; comparison of a slice with nil; a growing slice cut to nothing; Structs of plain cells compared; keys that are structs of numbers; Maps: what is made, put, looked up, deleted; going over one; Rows that lie in boxes: copied, cleared, put together; Rows that lie in boxes: put together; own rows as boxes, and back; Structs of plain cells compared; The walk over code by reckoning: one function over operations, one over code; Facts on the types and functions of the translation, printed by program (wip/tools/types.py); Loops by a state; forgetting slots; growing slices out of nil; The equations by which the reckoning goes: each for one form of value; Statements whose order Go leaves open: where each operation hands back one abstract value and leaves the store, every order serves; Reckoning over statements whose order is open. By an AI agent.
-/
import Derived.Test.YtfieabidajilmaaGreatMN1
import Derived.Laws.StructEq
import Derived.MapKept
import Derived.Maps.RangeRun
import Derived.Test.YtfieabidajilmaaGreatProg
import Derived.KernelRfl
import Derived.Still
namespace Aml
open Go Go.RowKit
set_option linter.unusedVariables false
set_option linter.unusedSimpArgs false

section
variable {P : Program} {w0 : W0}

/-- A new block as a growing slice. -/
theorem Rel.newArr {g : Gh} {S : St} {w w' : World} (h : Rel w0 g S w) (k : Below w.heap.size w w') {s : Nat} (hs : 0 < s) {xs : List DV} {us : List Value} {b c e : Nat} {cs : Array Value} (hge : w.heap.size ≤ b) (hb : w'.heap[b]? = some (.cells cs e (0, 0)))
    (hsz : cs.size = c * s) (hn : xs.length ≤ c) (hm : c ≤ maxLen) (hr : RepL g xs us) (hz : ∀ (i : Nat) (u : Value), us[i]? = some u → u.cells.size = s) (hone : ∀ (u : Value), u ∈ us → ∀ x, x ∈ u.cells.toList → x.oneCell' = true)
    (hc : ∀ (i : Nat) (u : Value) (j : Nat) (x : Value), us[i]? = some u → u.cells[j]? = some x → cs[i * s + j]? = some x) (hall : ∀ x, x ∈ cs.toList → x.oneCell' = true) :
    ∃ l g', g.le g' ∧ (∀ p, p ∈ S.acc → p.1 ≠ l) ∧ Rel w0 g' ⟨S.box, (l, .arr s xs) :: S.acc⟩ w' ∧ Rep g' (.acc l xs.length) (.slice (some ⟨b, 0, none⟩) xs.length c) := by
  obtain ⟨ow, h⟩ := h.open_
  have hnow : ow b = none := by
    cases ho : ow b with
    | none => rfl
    | some q => have := h.owb b q ho; omega
  have h' := h.grow k
  obtain ⟨m, hm'⟩ := h'.fresh
  have hnone : ∀ i, g.imm b i = none := by
    intro i
    cases hi : g.imm b i with
    | none => rfl
    | some u => have := World.block_lt_of_cell? w _ (h.imm _ _ _ hi); simp at this; omega
  have hne : ∀ p, p ∈ S.acc → p.1 ≠ m := by
    rintro ⟨l', o'⟩ hp rfl
    obtain ⟨u, hu⟩ := (h'.acc _ _ hp).has
    rw [hm' _ _ (Nat.le_refl _)] at hu; cases hu
  let v : Value := .slice (some ⟨b, 0, none⟩) xs.length c
  have hle : g.le (g.setAcc m xs.length v) := Gh.le_setAcc (.inl (hm' _ _ (Nat.le_refl _)))
  have hself : (g.setAcc m xs.length v).acc m xs.length = some v := by simp [Gh.setAcc]
  refine ⟨m, g.setAcc m xs.length v, hle, hne, RelO.close (ow := fun x => if x = b then some (.a m) else ow x) ⟨h'.below.le hle, h'.imm, h'.nb, ?_, ?_, ?_, ?_, ?_, ?_, ?_⟩, .acc _ _ _ _ hself⟩
  · simp only [List.map_cons, List.nodup_cons]
    refine ⟨fun hx => ?_, h'.na⟩
    obtain ⟨p, hp, e⟩ := List.mem_map.1 hx
    exact hne p hp e
  · intro l' n u hu
    simp only [Gh.setAcc] at hu
    split at hu
    · rename_i e; obtain ⟨rfl, rfl⟩ := e; exact ⟨_, _, (Option.some.inj hu).symm, .inr ⟨b, 0, rfl⟩⟩
    · exact h'.accw _ _ _ hu
  · refine ⟨m + 1, fun l n hl => ?_⟩
    simp only [Gh.setAcc]
    rw [if_neg (by omega)]
    exact hm' _ _ (by omega)
  · intro l o hl k hk
    simp only [Gh.setAcc]
    rcases List.mem_cons.1 hl with e | hl
    · simp only [Prod.mk.injEq] at e
      obtain ⟨rfl, rfl⟩ := e
      simp only [Ob.len] at hk
      rw [if_neg (by omega)]
      exact hm' _ _ (Nat.le_refl _)
    · rw [if_neg (fun e => hne _ hl e.1)]
      exact h'.top _ _ hl k hk
  · intro b' ds hb'
    refine (h'.box b' ds hb').step hle fun ho => ⟨?_, rfl, fun _ hi => hi⟩
    split
    · rename_i e; subst e; exact absurd (hnow.symm.trans ho) (by simp)
    · exact ho
  · intro l o hl
    rcases List.mem_cons.1 hl with e' | hl
    · simp only [Prod.mk.injEq] at e'
      obtain ⟨rfl, rfl⟩ := e'
      exact ⟨hs, .inr ⟨b, c, cs, e, hself, if_pos rfl, Nat.le_trans h.below.size hge, hnone, hb, hsz, hn, hm, hall, us, hr.mono hle, hz, hone, hc⟩⟩
    · refine (h'.acc l o hl).step hle fun b' ho => ⟨?_, rfl, fun _ hi => hi⟩
      split
      · rename_i e; subst e; exact absurd (hnow.symm.trans ho) (by simp)
      · exact ho
  · intro b' q hq
    split at hq
    · rename_i e; subst e; exact lt_of_heap hb
    · exact h'.owb _ _ hq

/-- A growing slice's elements are written over. -/
theorem Rel.rearr {g : Gh} {S : St} {w w' : World} (h : Rel w0 g S w) {l s : Nat} {xs ys : List DV} {us : List Value} {b c e : Nat} {cs : Array Value} (hl : lk S.acc l = some (.arr s xs)) (hv : g.acc l xs.length = some (.slice (some ⟨b, 0, none⟩) xs.length c)) (hlen : ys.length = xs.length) (hpos : 0 < c)
    (hb : w'.heap[b]? = some (.cells cs e (0, 0))) (hsz : cs.size = c * s) (hbel : BelowX w0 g w') (hsize : w.heap.size ≤ w'.heap.size) (hsame : ∀ k, k < w.heap.size → k ≠ b → w'.heap[k]? = w.heap[k]?)
    (hr : RepL g ys us) (hz : ∀ (i : Nat) (u : Value), us[i]? = some u → u.cells.size = s) (hone : ∀ (u : Value), u ∈ us → ∀ x, x ∈ u.cells.toList → x.oneCell' = true)
    (hc : ∀ (i : Nat) (u : Value) (j : Nat) (x : Value), us[i]? = some u → u.cells[j]? = some x → cs[i * s + j]? = some x) (hall : ∀ x, x ∈ cs.toList → x.oneCell' = true) : Rel w0 g ⟨S.box, up S.acc l (.arr s ys)⟩ w' := by
  obtain ⟨ow, h⟩ := h.open_
  have hmem := lk_mem hl
  obtain ⟨hs, ⟨he, o, ha⟩ | ⟨b', c', cs', e', h1, h2, h3, h4, h5, h6, h7, h8, hA, us', h9, h10, h11, h12⟩⟩ := h.acc l _ hmem
  · exfalso
    subst he
    rw [show ([] : List DV).length = 0 from rfl, ha] at hv
    simp only [Option.some.injEq, Value.slice.injEq] at hv
    omega
  · rw [hv] at h1
    simp only [Option.some.injEq, Value.slice.injEq, Addr.mk.injEq, true_and, and_true] at h1
    obtain ⟨rfl, rfl⟩ := h1
    have hbne : ∀ b' q, ow b' = some q → q ≠ .a l → b' ≠ b := by
      rintro b' q hq hne rfl
      rw [h2] at hq; exact hne (Option.some.inj hq).symm
    refine RelO.close (ow := ow) ⟨hbel, ?_, h.nb, ?_, h.accw, h.fresh, ?_, ?_, ?_, ?_⟩
    · intro b' i u hu
      have hne : b' ≠ b := by rintro rfl; rw [h4] at hu; cases hu
      have h1 := h.imm _ _ _ hu
      have hblt := World.block_lt_of_cell? w _ h1
      have := World.cell?_of_block (w := w) (w' := w') (a := ⟨b', i, none⟩) (hsame b' hblt hne)
      rw [this]; exact h1
    · rw [map_up]; exact h.na
    · intro l' o' hl' k hk
      rcases mem_up h.na hl' with e | ⟨hm', hne⟩
      · simp only [Prod.mk.injEq] at e
        obtain ⟨rfl, rfl⟩ := e
        refine h.top _ _ hmem k ?_
        simp only [Ob.len] at hk ⊢
        omega
      · exact h.top _ _ hm' k hk
    · intro b' ds hb'
      have hob' := (h.box _ _ hb').1
      have hne := hbne b' _ hob' (by simp)
      exact (h.box b' ds hb').step (.refl g) fun x => ⟨x, hsame b' (h.owb _ _ x) hne, fun i hi => hi⟩
    · intro l' o' hl'
      rcases mem_up h.na hl' with e' | ⟨hm', hne⟩
      · simp only [Prod.mk.injEq] at e'
        obtain ⟨rfl, rfl⟩ := e'
        exact ⟨hs, .inr ⟨b, c, cs, e, by rw [hlen]; exact hv, h2, h3, h4, hb, hsz, by omega, h8, hall, us, hr, hz, hone, hc⟩⟩
      · refine (h.acc l' o' hm').step (.refl g) fun b' ho => ?_
        have hne' := hbne b' _ ho (by simp; exact hne)
        exact ⟨ho, hsame b' (h.owb _ _ ho) hne', fun i hi => hi⟩
    · intro b' q hq
      exact Nat.lt_of_lt_of_le (h.owb _ _ hq) hsize

/-- One name for another. -/
def ren : List (Nat × Ob) → Nat → Nat × Ob → List (Nat × Ob)
  | [], _, _ => []
  | (k, x) :: t, n, p => if k = n then p :: t else (k, x) :: ren t n p
theorem mem_ren {l : List (Nat × Ob)} {n : Nat} {p : Nat × Ob} (hn : (l.map (·.1)).Nodup) {q : Nat × Ob} (h : q ∈ ren l n p) : q = p ∨ (q ∈ l ∧ q.1 ≠ n) := by
  induction l with
  | nil => cases h
  | cons r t ih =>
    obtain ⟨k, x⟩ := r
    simp only [List.map_cons, List.nodup_cons] at hn
    simp only [ren] at h
    split at h
    · rename_i e
      subst e
      rcases List.mem_cons.1 h with rfl | h
      · exact .inl rfl
      · refine .inr ⟨List.mem_cons_of_mem _ h, fun e => hn.1 ?_⟩
        rw [← e]; exact List.mem_map_of_mem h
    · rename_i e
      rcases List.mem_cons.1 h with rfl | h
      · exact .inr ⟨List.mem_cons_self, e⟩
      · rcases ih hn.2 h with h | h
        · exact .inl h
        · exact .inr ⟨List.mem_cons_of_mem _ h.1, h.2⟩
theorem nodup_ren {l : List (Nat × Ob)} {n : Nat} {p : Nat × Ob} (hn : (l.map (·.1)).Nodup) (hp : ∀ q, q ∈ l → q.1 ≠ p.1) : ((ren l n p).map (·.1)).Nodup := by
  induction l with
  | nil => exact hn
  | cons r t ih =>
    obtain ⟨k, x⟩ := r
    simp only [List.map_cons, List.nodup_cons] at hn
    simp only [ren]
    split
    · simp only [List.map_cons, List.nodup_cons]
      refine ⟨fun h => ?_, hn.2⟩
      obtain ⟨q, hq, e⟩ := List.mem_map.1 h
      exact hp q (List.mem_cons_of_mem _ hq) e
    · simp only [List.map_cons, List.nodup_cons]
      refine ⟨fun h => ?_, ih hn.2 fun q hq => hp q (List.mem_cons_of_mem _ hq)⟩
      obtain ⟨q, hq, e⟩ := List.mem_map.1 h
      rcases mem_ren hn.2 hq with rfl | ⟨h1, _⟩
      · exact hp (k, x) List.mem_cons_self e.symm
      · refine hn.1 ?_
        rw [← e]; exact List.mem_map_of_mem h1

/-- A growing slice is cut: its row under another name. -/
theorem Rel.cut {g : Gh} {S : St} {w : World} (h : Rel w0 g S w) {l s : Nat} {xs : List DV} (hl : lk S.acc l = some (.arr s xs)) {n : Nat} (hn : n ≤ xs.length) {a : Option Addr} {c : Nat} (hv : g.acc l xs.length = some (.slice a xs.length c)) :
    ∃ l' g', g.le g' ∧ (∀ p, p ∈ S.acc → p.1 ≠ l') ∧ Rel w0 g' ⟨S.box, ren S.acc l (l', .arr s (xs.take n))⟩ w ∧ Rep g' (.acc l' n) (.slice a n c) := by
  obtain ⟨ow, h⟩ := h.open_
  have hmem := lk_mem hl
  obtain ⟨m, hm'⟩ := h.fresh
  have hne : ∀ p, p ∈ S.acc → p.1 ≠ m := by
    rintro ⟨l', o'⟩ hp rfl
    obtain ⟨u, hu⟩ := (h.acc _ _ hp).has
    rw [hm' _ _ (Nat.le_refl _)] at hu; cases hu
  have htl : (xs.take n).length = n := by simp; omega
  have hle : g.le (g.setAcc m n (.slice a n c)) := Gh.le_setAcc (.inl (hm' _ _ (Nat.le_refl _)))
  have hself : (g.setAcc m n (.slice a n c)).acc m n = some (.slice a n c) := by simp [Gh.setAcc]
  have hlm : l ≠ m := hne _ hmem
  refine ⟨m, g.setAcc m n (.slice a n c), hle, hne, RelO.close (ow := fun x => if ow x = some (.a l) then some (.a m) else ow x) ⟨h.below.le hle, h.imm, h.nb, nodup_ren h.na hne, ?_, ?_, ?_, ?_, ?_, ?_⟩, .acc _ _ _ _ hself⟩
  · intro l' n' u hu
    simp only [Gh.setAcc] at hu
    split at hu
    · rename_i e
      obtain ⟨rfl, rfl⟩ := e
      obtain ⟨o', c', q1, q2⟩ := h.accw _ _ _ hv
      simp only [Value.slice.injEq, true_and] at q1
      refine ⟨_, _, (Option.some.inj hu).symm, ?_⟩
      rcases q2 with q2 | q2
      · exact .inl (by omega)
      · exact .inr (by rw [q1.1]; exact q2)
    · exact h.accw _ _ _ hu
  · refine ⟨m + 1, fun l' n' hl' => ?_⟩
    simp only [Gh.setAcc]
    rw [if_neg (by omega)]
    exact hm' _ _ (by omega)
  · intro l' o' hl' k hk
    simp only [Gh.setAcc]
    rcases mem_ren h.na hl' with e | ⟨hm2, hne2⟩
    · simp only [Prod.mk.injEq] at e
      obtain ⟨rfl, rfl⟩ := e
      simp only [Ob.len, htl] at hk
      rw [if_neg (by omega)]
      exact hm' _ _ (Nat.le_refl _)
    · rw [if_neg (fun e => hne _ hm2 e.1)]
      exact h.top _ _ hm2 k hk
  · intro b' ds hb'
    refine (h.box b' ds hb').step hle fun ho => ⟨?_, rfl, fun _ hi => hi⟩
    rw [if_neg (by rw [ho]; simp)]
    exact ho
  · intro l' o' hl'
    rcases mem_ren h.na hl' with e | ⟨hm2, hne2⟩
    · simp only [Prod.mk.injEq] at e
      obtain ⟨rfl, rfl⟩ := e
      obtain ⟨hs, ⟨he, o, ha⟩ | ⟨b', c', cs', e', h1, h2, h3, h4, h5, h6, h7, h8, hA, us', h9, h10, h11, h12⟩⟩ := h.acc l _ hmem
      · subst he
        have hn0 : n = 0 := by simpa using hn
        subst hn0
        rw [show ([] : List DV).length = 0 from rfl, ha] at hv
        simp only [Option.some.injEq, Value.slice.injEq, true_and] at hv
        obtain ⟨rfl, rfl⟩ := hv
        exact ⟨hs, .inl ⟨rfl, _, hself⟩⟩
      · rw [hv] at h1
        simp only [Option.some.injEq, Value.slice.injEq, true_and] at h1
        obtain ⟨rfl, rfl⟩ := h1
        refine ⟨hs, .inr ⟨b', _, cs', e', by rw [htl]; exact hself, if_pos h2, h3, h4, h5, h6, by omega, h8, hA, us'.take n, (h9.mono hle).take n, fun i u hi => ?_, fun u hu => h11 u (List.mem_of_mem_take hu), fun i u j x hi hj => ?_⟩⟩
        · rw [List.getElem?_take] at hi
          split at hi
          · exact h10 i u hi
          · cases hi
        · rw [List.getElem?_take] at hi
          split at hi
          · exact h12 i u j x hi hj
          · cases hi
    · refine (h.acc l' o' hm2).step hle fun b' ho => ⟨?_, rfl, fun _ hi => hi⟩
      rw [if_neg (by rw [ho]; simp; exact hne2)]
      exact ho
  · intro b' q hq
    split at hq
    · rename_i e; exact h.owb _ _ e
    · exact h.owb _ _ hq
end
end Aml

namespace Aml
open Go Go.RowKit
set_option linter.unusedVariables false
set_option linter.unusedSimpArgs false

theorem w64 {n : Int} (h0 : -9223372036854775808 ≤ n) (h1 : n ≤ 9223372036854775807) : IntKind.i64.wrap n = n := by
  show (if (true && decide (n % 18446744073709551616 ≥ 9223372036854775808)) = true then n % 18446744073709551616 - 18446744073709551616 else n % 18446744073709551616) = n
  by_cases h : n % 18446744073709551616 ≥ 9223372036854775808
  · rw [if_pos (by simpa using h)]; omega
  · rw [if_neg (by simpa using h)]; omega
section
variable {P : Program} {w0 : W0}

def vMakeSlice (k : TK) (z x y : DV) (S : St) (K : DV → St → Prop) : Prop := match k, x, y with
  | .sl _ s by' true, .v (.int _ n), .v (.int _ m) => okE z = true ∧ 0 ≤ n ∧ n ≤ m ∧ m * by' ≤ 140737488355328 ∧ m ≤ 9223372036854775807 ∧ ∀ l, nin S.acc l → K (.acc l n.toNat) ⟨S.box, (l, .arr s (List.replicate n.toNat z)) :: S.acc⟩
  | _, _, _ => False
theorem y_makeSlice {o : Oper} {t : TypeId} {x y : Operand} (ho : o.op = .makeSlice t x y) {ρD : Operand → DV} {S : St} {K : DV → St → Prop} (h : vMakeSlice (tk P t) (zD P (elT P t)) (ρD x) (ρD y) S K) : YieldsE P w0 o ρD S K := by
  intro g w ρ h1 h2 hcst
  have hx := h2 x (by simp [ho, Op.operands])
  have hy := h2 y (by simp [ho, Op.operands])
  unfold vMakeSlice at h
  split at h
  · rename_i e s by' k1 n k2 m hk hx' hy'
    rw [hx'] at hx
    rw [hy'] at hy
    obtain ⟨hok, h0, hnm, hby, hm63, hK⟩ := h
    obtain ⟨hu, hs, hbs, hei⟩ := tk_sl hk
    obtain ⟨ti, z, hi, hz, hzs, hpos⟩ := okEl_spec hei
    have hsz : ti.size = s := by simpa [Program.cellsOf, hi] using hs
    have hib : ti.bytes = by' := by simpa [Program.bytesOf, hi] using hbs
    have hel : elT P t = e := by simp [elT, hk]
    have hzD : zD P (elT P t) = cv z := by rw [hel]; simp [zD, hi, hz]
    have hrz : Rep g (zD P (elT P t)) z := hzD ▸ rep_cv g z
    obtain ⟨N, rfl⟩ := Int.eq_ofNat_of_zero_le h0
    obtain ⟨M, rfl⟩ := Int.eq_ofNat_of_zero_le (Int.le_trans h0 hnm)
    have hNM : N ≤ M := Int.ofNat_le.1 hnm
    have hM : M * by' ≤ 140737488355328 := by rw [← Int.natCast_mul] at hby; omega
    have hM63 : M ≤ maxLen := by unfold maxLen; omega
    have w1 : IntKind.i64.wrap (N : Int) = N := w64 (by omega) (by omega)
    have w2 : IntKind.i64.wrap (M : Int) = M := w64 (by omega) (by omega)
    have hpw := pw_made (z := z) (s := s) (n := M) (by omega) (by omega)
    have hrun : (Instr.makeSlice t (ρ x) (ρ y)).run P w = .ok (.slice (some ⟨w.heap.size, 0, none⟩) N M) (w.alloc (.cells ((Array.range (M * s)).map (z.cells[· % z.cells.size]!)) e)) := by
      have hby2 : ¬ (281474976710656 < (by' : Int) * (M : Int)) := by
        have : (M : Int) * by' ≤ 140737488355328 := hby
        rw [Int.mul_comm]; omega
      have c1 : ¬ ((M : Int) < 0) := by omega
      have c2 : ¬ ((N : Int) < 0) := by omega
      have c3 : ¬ ((M : Int) < (N : Int)) := by omega
      have hroom : ¬ (roomBytes < M * by') := by unfold roomBytes; omega
      simp only [rep_v hx, rep_v hy, Instr.makeSlice, asInt, asIntOf, run_underlying hu, typeInfo, hi, Sem.run_bind, Sem.run_pure, Result.andThen_ok, run_program, w1, w2, hib]
      by_cases hz0 : M * s = 0
      · have hr0 : ∀ f : Nat → Value, (Array.range 0).map f = #[] := fun f => by simp
        simp [c1, c2, c3, hby2, askRoom, hroom, Go.sizeOf, typeInfo, hi, hsz, hz0, newRow]
        rw [hr0, hr0]
      · simp [c1, c2, c3, hby2, askRoom, hroom, Go.sizeOf, typeInfo, hi, hsz, hz0, newRow, zeroValue, hz]
    have hlenN : (List.replicate N (zD P (elT P t))).length = N := by simp
    obtain ⟨l, g', hle, hne, hR, hA⟩ := h1.newArr (s := s) (xs := List.replicate N (zD P (elT P t))) (us := List.replicate N z) (c := M) (below_alloc w (.cells ((Array.range (M * s)).map (z.cells[· % z.cells.size]!)) e)) (by omega) (Nat.le_refl _) (heap_alloc_new w _) (by simp) (by rw [hlenN]; exact hNM) hM63
      ⟨by simp, fun i d u a b => by
        rw [List.getElem?_replicate] at a b
        split at a
        · rename_i hlt; rw [if_pos hlt] at b; simp only [Option.some.injEq] at a b; subst a; subst b; exact hrz
        · cases a⟩ (fun i u h => by rw [List.getElem?_replicate] at h; split at h <;> simp_all) (fun u hu x hx => by rw [List.eq_of_mem_replicate hu] at hx; exact hrz.one hok x hx)
      (fun i u j x a b => by
        have hlt : i < N := by rw [List.getElem?_replicate] at a; split at a <;> first | assumption | cases a
        have := hpw.at_ i u j x (by rw [List.getElem?_replicate] at a ⊢; rw [if_pos hlt] at a; rw [if_pos (by omega)]; exact a) b
        rwa [Array.getElem?_toList] at this)
      (fun x hx => zeroCells_one (okEl_one hei hi hz) M x (by unfold Builtin.zeroCells; rw [show z.cells.size = s by omega]; rwa [show z.cells.size = s by omega] at hx))
    rw [hlenN] at hA
    have hex : (execOp ρ o).run P w = .ok (.value (.slice (some ⟨w.heap.size, 0, none⟩) N M)) (w.alloc (.cells ((Array.range (M * s)).map (z.cells[· % z.cells.size]!)) e)) := by
      simp only [execOp, ho, Sem.run_bind]
      rw [hrun]; rfl
    rw [hex]
    exact ⟨g', _, _, hle, hR, hA, hK l (nin_of hne)⟩
  · exact h.elim

def vCap (k : TK) (x : DV) (K : DV → Prop) : Prop := match k, x with
  | .sl _ _ _ _, .sl _ true xs => K (.v (.int .i64 xs.length))
  | .sl _ _ _ _, .v (.slice _ _ c) => K (.v (.int .i64 c))
  | _, _ => False
theorem y_cap {o : Oper} {t : TypeId} {x : Operand} (ho : o.op = .call { callee := .builtin .cap, args := #[x], argTypes := #[t] }) {ρD : Operand → DV} {S : St} {K : DV → St → Prop} (h : vCap (tk P t) (ρD x) (K · S)) : YieldsE P w0 o ρD S K := by
  refine y_value fun g w ρ h1 h2 => ?_
  have hx := h2 x (by simp [ho, Op.operands, Call.operands])
  unfold vCap at h
  split at h
  · rename_i hk hx'
    rw [hx'] at hx
    rename_i xs
    obtain ⟨a, hv⟩ : ∃ a, ρ x = .slice a xs.length xs.length := by
      rcases rep_sl hx with ⟨he, o', c, hv, hf⟩ | ⟨b, o', c', us, hv', hl, hfl, _⟩
      · subst he; rw [hv, hf rfl]; exact ⟨_, rfl⟩
      · rw [hv', hfl rfl]; exact ⟨_, rfl⟩
    exact ⟨_, _, by simp [execOp, ho, resolve, invoke, builtin, hv, Builtin.cap_, run_underlying (tk_sl hk).1, goInt], .v _ rfl, h⟩
  · rename_i hk hx'
    rw [hx'] at hx
    exact ⟨_, _, by simp [execOp, ho, resolve, invoke, builtin, rep_v hx, Builtin.cap_, run_underlying (tk_sl hk).1, goInt], .v _ rfl, h⟩
  · exact h.elim

/-- An element with some of its cells anew. -/
def elSet (d : DV) (o n s : Nat) (y : DV) : Option DV := if o = 0 ∧ n = s then some y else match d with
  | .agg ds => some (.agg (setAll ds o (cd y)))
  | _ => none
/-- A store, also into an element. -/
def vStoreX (n : Nat) (S : St) (x y : DV) (K : St → Prop) : Prop := match x with
  | .ap l m s i o => okE y = true ∧ (cd y).length = n ∧ (match lk S.acc l with
    | some (.arr s' xs) => s' = s ∧ xs.length = m ∧ o + n ≤ s ∧ ∃ d, xs[i]? = some d ∧ okE d = true ∧ ∃ d', elSet d o n s y = some d' ∧ K ⟨S.box, up S.acc l (.arr s (xs.set i d'))⟩
    | _ => False)
  | x => vStore n S x y K

theorem elSet_ok {g : Gh} {d y : DV} {o n s : Nat} {d' : DV} {u v : Value} (hd : Rep g d u) (hok : okE d = true) (hus : u.cells.size = s) (hy : Rep g y v) (hoy : okE y = true) (hvn : v.cells.size = n) (hon : o + n ≤ s) (h : elSet d o n s y = some d') :
    ∃ u', Rep g d' u' ∧ u'.cells.size = s ∧ (∀ x, x ∈ u'.cells.toList → x.oneCell' = true) ∧ ∀ j, u'.cells[j]? = if o ≤ j ∧ j < o + n then v.cells[j - o]? else u.cells[j]? := by
  unfold elSet at h
  split at h
  · rename_i hc
    obtain ⟨rfl, rfl⟩ := hc
    cases h
    refine ⟨v, hy, hvn, hy.one hoy, fun j => ?_⟩
    split
    · simp
    · rename_i hj
      rw [Array.getElem?_eq_none (by omega), Array.getElem?_eq_none (by omega)]
  · split at h
    · rename_i ds
      cases h
      cases hd with
      | agg _ us hl hr h1 =>
        have hu' : (Value.agg us.toArray).cells = us.toArray := rfl
        have hcl := hy.cells hoy
        have hlu : us.length = s := by simpa [hu'] using hus
        have hR := repL_setAll (o := o) (g := g) (ds := ds) (us := us) ⟨hl, hr⟩ hcl
        have hle : o + v.cells.toList.length ≤ us.length := by simp; omega
        refine ⟨.agg (setAllV us o v.cells.toList).toArray, .agg _ _ hR.len hR.at_ (fun x hx => ?_), ?_, fun x hx => ?_, fun j => ?_⟩
        · rcases mem_setAllV _ _ _ _ hx with hx | hx
          · exact h1 x hx
          · exact hy.one hoy x hx
        · show (setAllV us o v.cells.toList).toArray.size = s
          simp only [List.size_toArray]
          rw [setAllV_eq _ _ _ hle]
          simp only [List.length_append, List.length_take, List.length_drop, Array.length_toList]
          simp only [Array.length_toList] at hle
          omega
        · have hx : x ∈ setAllV us o v.cells.toList := by simpa [Value.cells] using hx
          rcases mem_setAllV _ _ _ _ hx with hx | hx
          · exact h1 x hx
          · exact hy.one hoy x hx
        · show (setAllV us o v.cells.toList).toArray[j]? = _
          rw [List.getElem?_toArray, get_setAllV hle]
          simp [hu', hvn]
    · cases h

theorem y_storeX {o : Oper} {t : TypeId} {x y : Operand} (ho : o.op = .store t x y) {ρD : Operand → DV} {S : St} {K : DV → St → Prop} (hi : (P.info? t).isSome = true) (h : vStoreX (P.cellsOf t) S (ρD x) (ρD y) (K ud)) : YieldsE P w0 o ρD S K := by
  unfold vStoreX at h
  split at h
  · rename_i l m s i o' hxe
    intro g w ρ h1 h2 hcst
    have hx := h2 x (by simp [ho, Op.operands])
    have hy := h2 y (by simp [ho, Op.operands])
    rw [hxe] at hx
    obtain ⟨hok, hlen, h⟩ := h
    split at h
    · rename_i s' xs hl
      obtain ⟨rfl, rfl, hon, d, hd, hod, d', hes, hK⟩ := h
      have hilt : i < xs.length := (List.getElem?_eq_some_iff.1 hd).1
      obtain ⟨b, q, c0, hval, hrx⟩ : ∃ b q c0, g.acc l xs.length = some (.slice (some ⟨b, q, none⟩) xs.length c0) ∧ ρ x = .pointer (some ⟨b, q + i * s' + o', none⟩) := by
        generalize hu : ρ x = u at hx
        cases hx with
        | ap _ _ _ _ _ b q c h => exact ⟨b, q, c, h, rfl⟩
      obtain ⟨ow, hO⟩ := h1.open_
      obtain ⟨hs, ⟨he, o2, ha⟩ | ⟨b', c, cs, e, q1, q2, q3, q4, q5, q6, q7, q8, qA, us, q9, q10, q11, q12⟩⟩ := hO.acc l _ (lk_mem hl)
      · rw [he] at hilt; simp at hilt
      · have hval' := hval
        rw [q1] at hval'
        simp only [Option.some.injEq, Value.slice.injEq, Addr.mk.injEq, true_and, and_true] at hval'
        obtain ⟨⟨rfl, rfl⟩, rfl⟩ := hval'
        simp only [Nat.zero_add] at hrx
        have hul : us.length = xs.length := q9.len.symm
        have hiu : i < us.length := by omega
        have hui : us[i]? = some us[i] := List.getElem?_eq_getElem hiu
        have hru := q9.at_ i d _ hd hui
        have husz := q10 i _ hui
        have hcl := hy.cells hok
        have hvl : (ρ y).cells.size = P.cellsOf t := by have := hcl.len; simp at this; omega
        obtain ⟨u', r1, r2, r3, r4⟩ := elSet_ok hru hod husz hy hok hvl hon hes
        have hbound : i * s' + s' ≤ cs.size := by
          rw [q6]
          have := Nat.mul_le_mul_right s' (show i + 1 ≤ c by omega)
          rw [Nat.succ_mul] at this; exact this
        have hsize : (Go.sizeOf t).run P w = .ok (P.cellsOf t) w := by
          obtain ⟨ti, hi⟩ := Option.isSome_iff_exists.1 hi
          simp [Go.sizeOf, typeInfo, hi, Program.cellsOf]
        have hst := run_storeCells_at (P := P) b' (i * s' + o') e (ρ y).cells.toList 0 cs w q5 (by simp; omega) (hy.one hok)
        have hle2 : (i * s' + o') + (ρ y).cells.toList.length ≤ cs.toList.length := by simp; omega
        have hrun : (execOp ρ o).run P w = .ok .skip (w.setRow b' (setAllV cs.toList (i * s' + o') (ρ y).cells.toList).toArray) := by
          rw [setAllV_eq _ _ _ hle2]
          simp only [Nat.add_zero] at hst
          simp [execOp, ho, hrx, Instr.storeAt, Instr.sureAddr, storeVar, hsize, hvl, hst]
        rw [hrun]
        have hxs : (xs.set i d').length = xs.length := by simp
        refine ⟨g, _, .refl g, h1.rearr (ys := xs.set i d') (us := us.set i u') (b := b') (c := c) (e := e) (cs := (setAllV cs.toList (i * s' + o') (ρ y).cells.toList).toArray) hl hval hxs (by omega) ?_ ?_ ?_ ?_ ?_ (q9.set i r1) ?_ ?_ ?_ ?_, hK⟩
        · exact setRow_heap w b' cs _ e (0, 0) q5
        · rw [List.size_toArray, setAllV_eq _ _ _ hle2]
          simp only [List.length_append, List.length_take, List.length_drop, Array.length_toList]
          simp only [Array.length_toList] at hle2
          rw [← q6]; omega
        · exact h1.below.step ⟨rfl, rfl, rfl, by simp, fun k hk => setRow_other w b' k _ (by omega)⟩ b' (nc_cells q5) fun k _ hne => setRow_other w b' k _ hne
        · simp
        · intro k _ hkb; exact setRow_other w b' k _ hkb
        · intro j u hj
          rw [List.getElem?_set] at hj
          split at hj
          · cases hj; exact r2
          · exact q10 j u hj
        · intro u hu
          rcases List.mem_or_eq_of_mem_set hu with hu | rfl
          · exact q11 u hu
          · exact r3
        · intro i2 u j x hi2 hj
          rw [List.getElem?_toArray, get_setAllV hle2]
          rw [List.getElem?_set] at hi2
          split at hi2
          · rename_i e2
            subst e2
            cases hi2
            rw [r4] at hj
            simp only [Array.length_toList, hvl]
            split at hj
            · rename_i hc
              rw [if_pos (by omega)]
              rw [show i * s' + j - (i * s' + o') = j - o' by omega]
              simpa using hj
            · rename_i hc
              rw [if_neg (by omega)]
              simpa using q12 i _ j x hui hj
          · rename_i hne
            have hjs : j < s' := by rw [← q10 i2 u hi2]; exact (Array.getElem?_eq_some_iff.1 hj).1
            rw [if_neg]
            · simpa using q12 i2 u j x hi2 hj
            · simp only [Array.length_toList, hvl]
              rintro ⟨ha, hb⟩
              rcases Nat.lt_or_gt_of_ne hne with h' | h'
              · have := Nat.mul_le_mul_right s' (show i + 1 ≤ i2 by omega)
                rw [Nat.succ_mul] at this
                omega
              · have := Nat.mul_le_mul_right s' (show i2 + 1 ≤ i by omega)
                rw [Nat.succ_mul] at this
                omega
        · intro x hx
          rw [List.toList_toArray, setAllV_eq _ _ _ hle2] at hx
          rcases List.mem_append.1 hx with hx | hx
          · rcases List.mem_append.1 hx with hx | hx
            · exact qA x (List.mem_of_mem_take hx)
            · exact hy.one hok x hx
          · exact qA x (List.mem_of_mem_drop hx)
    · exact h.elim
  · exact y_store ho hi h

end
end Aml

namespace Aml
open Go Go.RowKit
set_option linter.unusedVariables false
set_option linter.unusedSimpArgs false

section
variable {P : Program} {w0 : W0}

theorem app_int {w : World} {t t' ty e : TypeId} {k' : IntKind} {i : TypeInfo} {z : Value} (ht : P.underlying t = some (.slice e)) (ht' : P.underlying t' = some (.int k')) (hi : P.info? e = some i) (hz : i.zero = some z) (hpos : 0 < i.size)
    {o : Option Addr} {k : IntKind} {n : Nat} (h0 : 0 < n) (h63 : n ≤ maxLen) (hby : n * i.bytes ≤ 140737488355328) :
    (Builtin.append_ #[t, t'] ty #[.slice o 0 0, .int k n]).run P w = .ok (.slice (some ⟨w.heap.size, 0, none⟩) n (grownCap w n 0 e))
      (w.drew.alloc (.cells (Builtin.zeroCells z.cells n ++ Builtin.zeroCells z.cells (grownCap w n 0 e - n)) e)) := by
  have hw : IntKind.i64.wrap (n : Int) = n := w64 (by omega) (by unfold maxLen at h63; omega)
  have c1 : ¬ ((n : Int) < 0) := by omega
  have hbi : (n : Int) * i.bytes ≤ 140737488355328 := by rw [← Int.natCast_mul]; omega
  have c2 : ¬ (281474976710656 < (n : Int) * (i.bytes : Int)) := by omega
  have c3 : ¬ (n * i.size = 0) := by
    intro h
    rcases Nat.mul_eq_zero.1 h with h | h <;> omega
  have c4 : ¬ (9223372036854775807 < (n : Int)) := by unfold maxLen at h63; omega
  have hfit := growslice_fits (need := n) (old := 0) (bytes := i.bytes) h0 hby
  have c5 : ¬ (281474976710656 < Builtin.nextslicecap n 0 * i.bytes) := by omega
  have c6 : ¬ (n = 0) := by omega
  have c7 : ¬ (i.size = 0) := by omega
  have hfc : ∀ w' : World, (Builtin.firstCells i.size 0 (.slice o 0 0)).run P w' = .ok #[] w' := by
    intro w'
    cases o with
    | none => simp [Builtin.firstCells]
    | some a => simp [Builtin.firstCells, loadCells, loadCellsFrom]
  simp [Builtin.append_, run_underlying ht, run_underlying ht', Go.sizeOf, typeInfo, hi, zeroValue, hz, asInt, asIntOf, hw, c1, c2, c3, c4, c5, c6, c7, hfc, Question.forced, newRow, grownCap]

def vAppInt (k : TK) (z : DV) (S : St) (x y : DV) (K : DV → St → Prop) : Prop := match k, x, y with
  | .sl _ s by' true, .sl _ true [], .v (.int _ n) => okE z = true ∧ 0 < n ∧ n * by' ≤ 140737488355328 ∧ n ≤ 9223372036854775807 ∧ ∀ l, nin S.acc l → K (.acc l n.toNat) ⟨S.box, (l, .arr s (List.replicate n.toNat z)) :: S.acc⟩
  | _, _, _ => False
theorem get_zero {z : Value} {m k : Nat} (hk : k < m * z.cells.size) : (Builtin.zeroCells z.cells m)[k]? = some (z.cells[k % z.cells.size]!) := by
  simp [Builtin.zeroCells, hk]

theorem y_appInt {o : Oper} {t t' : TypeId} {x y : Operand} {k' : IntKind} (ho : o.op = .call { callee := .builtin .append, args := #[x, y], argTypes := #[t, t'] }) (hk' : tk P t' = .int k') {ρD : Operand → DV} {S : St} {K : DV → St → Prop}
    (h : vAppInt (tk P t) (zD P (elT P t)) S (ρD x) (ρD y) K) : YieldsE P w0 o ρD S K := by
  intro g w ρ h1 h2 hcst
  have hx := h2 x (by simp [ho, Op.operands, Call.operands])
  have hy := h2 y (by simp [ho, Op.operands, Call.operands])
  have hut' := tk_int hk'
  unfold vAppInt at h
  split at h
  · rename_i e s by' s0 k n hk hxe hye
    rw [hxe] at hx
    rw [hye] at hy
    obtain ⟨hok, h0, hby, h63, hK⟩ := h
    obtain ⟨hu, hs, hbs, hei⟩ := tk_sl hk
    obtain ⟨ti, z, hi, hz, hzs, hpos⟩ := okEl_spec hei
    have hsz : ti.size = s := by simpa [Program.cellsOf, hi] using hs
    have hib : ti.bytes = by' := by simpa [Program.bytesOf, hi] using hbs
    have hel : elT P t = e := by simp [elT, hk]
    have hzD : zD P (elT P t) = cv z := by rw [hel]; simp [zD, hi, hz]
    have hrz : Rep g (zD P (elT P t)) z := hzD ▸ rep_cv g z
    obtain ⟨N, rfl⟩ := Int.eq_ofNat_of_zero_le (Int.le_of_lt h0)
    have h0' : 0 < N := by omega
    have hbn : N * by' ≤ 140737488355328 := by rw [← Int.natCast_mul] at hby; omega
    have hN63 : N ≤ maxLen := by unfold maxLen; omega
    obtain ⟨o', hxv⟩ := rep_full_nil hx
    have hr := app_int (w := w) (ty := o.type) (o := o') (k := k) hu hut' hi hz hpos h0' hN63 (by rw [hib]; exact hbn)
    have hcap := grownCap_ge w N 0 e
    have hcm := grownCap_le_maxLen w N 0 e hN63
    generalize hC : grownCap w N 0 e = C at *
    have hlenN : (List.replicate N (zD P (elT P t))).length = N := by simp
    have hzc : z.cells.size = s := by omega
    have hsize : (Builtin.zeroCells z.cells N ++ Builtin.zeroCells z.cells (C - N)).size = C * s := by
      rw [Array.size_append, size_zeroCells, size_zeroCells, hzc, ← Nat.add_mul]
      congr 1; omega
    obtain ⟨l, g', hle, hne, hR, hA⟩ := h1.newArr (w' := w.drew.alloc (.cells (Builtin.zeroCells z.cells N ++ Builtin.zeroCells z.cells (C - N)) e)) (s := s) (xs := List.replicate N (zD P (elT P t))) (us := List.replicate N z) (b := w.heap.size) (c := C) (e := e)
      ((Below.refl _ _).drew.alloc (by simp) _) (by omega) (Nat.le_refl _) (heap_alloc_new w.drew _) hsize (by rw [hlenN]; exact hcap) hcm
      ⟨by simp, fun i d u a b => by
        rw [List.getElem?_replicate] at a b
        split at a
        · rename_i hlt; rw [if_pos hlt] at b; simp only [Option.some.injEq] at a b; subst a; subst b; exact hrz
        · cases a⟩ (fun i u h => by rw [List.getElem?_replicate] at h; split at h <;> simp_all) (fun u hu x hx => by rw [List.eq_of_mem_replicate hu] at hx; exact hrz.one hok x hx)
      (fun i u j x a b => by
        rw [List.getElem?_replicate] at a
        split at a
        · rename_i hlt
          cases a
          have hj : j < s := by rw [← hzc]; exact (Array.getElem?_eq_some_iff.1 b).1
          have hk := lt_mul hlt hj
          rw [Array.getElem?_append_left (by rw [size_zeroCells, hzc]; exact hk), get_zero (by rw [hzc]; exact hk), hzc]
          have : (i * s + j) % s = j := by rw [Nat.add_comm, Nat.add_mul_mod_self_right]; exact Nat.mod_eq_of_lt hj
          rw [this]
          obtain ⟨hj', hjx⟩ := Array.getElem?_eq_some_iff.1 b
          simp [hj', hjx]
        · cases a)
      (fun x hx => by
        simp only [Array.toList_append, List.mem_append] at hx
        exact hx.elim (zeroCells_one (okEl_one hei hi hz) _ x) (zeroCells_one (okEl_one hei hi hz) _ x))
    rw [hlenN] at hA
    have hex : (execOp ρ o).run P w = .ok (.value (.slice (some ⟨w.heap.size, 0, none⟩) N C)) (w.drew.alloc (.cells (Builtin.zeroCells z.cells N ++ Builtin.zeroCells z.cells (C - N)) e)) := by
      simp [execOp, ho, resolve, invoke, builtin, hxv, rep_v hy, hr]
    rw [hex]
    exact ⟨g', _, _, hle, hR, hA, hK l (nin_of hne)⟩
  · exact h.elim

def isNilC : Operand → Bool
  | .const (.slice none 0 0) => true
  | _ => false
def vNilEq (op : BinOp) (k : TK) (x : DV) (K : DV → Prop) : Prop := match k, op, x with
  | .sl _ _ _ _, .eql, .sl _ _ xs => ∀ b : Bool, (xs ≠ [] → b = false) → K (.v (.bool b))
  | .sl _ _ _ _, .neq, .sl _ _ xs => ∀ b : Bool, (xs ≠ [] → b = true) → K (.v (.bool b))
  | .sl _ _ _ _, .eql, .acc _ n => ∀ b : Bool, (n ≠ 0 → b = false) → K (.v (.bool b))
  | .sl _ _ _ _, .neq, .acc _ n => ∀ b : Bool, (n ≠ 0 → b = true) → K (.v (.bool b))
  | _, _, _ => False
theorem equal_sn {t e : TypeId} {w : World} (ht : P.underlying t = some (.slice e)) (a : Option Addr) (n c : Nat) : (Op.equal t (.slice a n c) (.slice none 0 0)).run P w = .ok a.isNone w := by
  rw [equal_one, Op.equalIn, Sem.run_bind, run_underlying ht]; cases a <;> rfl
theorem y_nilEq {o : Oper} {op : BinOp} {t t' : TypeId} {x y : Operand} (ho : o.op = .binOp op t x y t') (hy : isNilC y = true) {ρD : Operand → DV} {S : St} {K : DV → St → Prop}
    (h : vNilEq op (tk P t) (ρD x) (K · S)) : YieldsE P w0 o ρD S K := by
  refine y_valueC fun g w ρ h1 h2 hcst => ?_
  have hx := h2 x (by simp [ho, Op.operands])
  have hyv : ρ y = .slice none 0 0 := by
    unfold isNilC at hy
    split at hy
    · exact hcst _
    · cases hy
  have acc : ∀ {l n : Nat}, ρD x = .acc l n → ∃ a c, ρ x = .slice a n c ∧ (n ≠ 0 → a.isNone = false) := by
    intro l n e
    rw [e] at hx
    obtain ⟨o', c, hv, ha⟩ := rep_acc hx
    obtain ⟨o2, c2, e2, e3⟩ := h1.accw _ _ _ ha
    simp only [Value.slice.injEq, true_and] at e2
    refine ⟨o', c, hv, fun hn => ?_⟩
    rcases e3 with e3 | ⟨b, q, e3⟩
    · exact absurd e3 hn
    · rw [e2.1, e3]; rfl
  have sl : ∀ {s : Nat} {f : Bool} {xs : List DV}, ρD x = .sl s f xs → ∃ a c, ρ x = .slice a xs.length c ∧ (xs ≠ [] → a.isNone = false) := by
    intro s f xs e
    rw [e] at hx
    rcases rep_sl hx with ⟨he, o', c, hv, _⟩ | ⟨b, o', c', us, hv', _⟩
    · subst he; exact ⟨o', c, hv, fun h => absurd rfl h⟩
    · exact ⟨_, _, hv', fun _ => rfl⟩
  have fin : ∀ {a : Option Addr} {n c : Nat} {e : TypeId}, P.underlying t = some (.slice e) → ρ x = .slice a n c → (op = .eql → (execOp ρ o).run P w = .ok (.value (.bool a.isNone)) w) ∧ (op = .neq → (execOp ρ o).run P w = .ok (.value (.bool (!a.isNone))) w) := by
    intro a n c e hu hv
    constructor
    · rintro rfl
      simp only [execOp, ho, hv, hyv, Sem.run_bind]
      rw [eqGuard_plain (by simp) (by simp)]
      simp only [Result.andThen_ok, (bin_eq rfl rfl (equal_sn hu a n c)).1]
      rfl
    · rintro rfl
      simp only [execOp, ho, hv, hyv, Sem.run_bind]
      rw [eqGuard_plain (by simp) (by simp)]
      simp only [Result.andThen_ok, (bin_eq rfl rfl (equal_sn hu a n c)).2]
      rfl
  unfold vNilEq at h
  split at h
  · rename_i hk e
    obtain ⟨a, c, hv, hn⟩ := sl e
    exact ⟨_, _, (fin (tk_sl hk).1 hv).1 rfl, .v _ rfl, h _ hn⟩
  · rename_i hk e
    obtain ⟨a, c, hv, hn⟩ := sl e
    exact ⟨_, _, (fin (tk_sl hk).1 hv).2 rfl, .v _ rfl, h _ fun q => by rw [hn q]; rfl⟩
  · rename_i hk e
    obtain ⟨a, c, hv, hn⟩ := acc e
    exact ⟨_, _, (fin (tk_sl hk).1 hv).1 rfl, .v _ rfl, h _ hn⟩
  · rename_i hk e
    obtain ⟨a, c, hv, hn⟩ := acc e
    exact ⟨_, _, (fin (tk_sl hk).1 hv).2 rfl, .v _ rfl, h _ fun q => by rw [hn q]; rfl⟩
  · exact h.elim

/-- A slice of whatever holds elements; a growing one may be cut to nothing, and grow anew in its row. -/
def vCut0 (S : St) (x : DV) (z : Nat) (K : DV → St → Prop) : Prop := match x with
  | .acc l n => match lk S.acc l with
    | some (.arr s xs) => xs.length = n ∧ ∀ l', nin S.acc l' → K (.acc l' z) ⟨S.box, ren S.acc l (l', .arr s (xs.take z))⟩
    | _ => False
  | _ => False
/-- Is it a number that the row may be cut at? -/
def isZ (m : Nat) : Option DV → Prop
  | some (.v (.int _ n)) => (n == 0) = true ∨ (0 ≤ n ∧ n ≤ m)
  | _ => False
def atZ : Option DV → Nat
  | some (.v (.int _ n)) => n.toNat
  | _ => 0
def vSliceX (k : TK) (S : St) (x : DV) (lo hi mx : Option DV) (K : DV → St → Prop) : Prop := match x with
  | .acc l n => (lo.isNone = true ∧ mx.isNone = true ∧ isZ n hi ∧ (∃ e s b, k = .sl e s b true) ∧ vCut0 S (.acc l n) (atZ hi) K) ∨ vSliceS k S (.acc l n) lo hi mx K
  | x => vSliceS k S x lo hi mx K
theorem y_sliceX {o : Oper} {t : TypeId} {x : Operand} {lo hi mx : Option Operand} (ho : o.op = .slice t x lo hi mx) {ρD : Operand → DV} {S : St} {K : DV → St → Prop}
    (hh : mx.isSome = true → hi.isSome = true) (hne : (lo ≠ some x ∧ hi ≠ some x ∧ mx ≠ some x)) (h : vSliceX (tk P t) S (ρD x) (lo.map ρD) (hi.map ρD) (mx.map ρD) K) : YieldsE P w0 o ρD S K := by
  unfold vSliceX at h
  split at h
  · rename_i l n hxe
    rcases h with ⟨e1, e2, e3, ⟨e, s, by', hk⟩, h⟩ | h
    · intro g w ρ h1 h2 hcst
      have hx := h2 x (by simp [ho, Op.operands])
      have el : lo = none := by cases lo <;> simp_all
      have em : mx = none := by cases mx <;> simp_all
      subst el; subst em
      cases hi with
      | none => simp [isZ] at e3
      | some y =>
        have hy := h2 y (by simp [ho, Op.operands])
        simp only [Option.map_some, isZ] at e3
        split at e3
        · rename_i k m hye
          simp only [Option.some.injEq] at hye
          rw [hye] at hy
          obtain ⟨z, rfl, hz⟩ : ∃ z : Nat, m = z ∧ z ≤ n := by
            rcases e3 with e3 | ⟨e3, e4⟩
            · exact ⟨0, by simpa using e3, Nat.zero_le _⟩
            · exact ⟨m.toNat, by omega, by omega⟩
          have hat : atZ (some (ρD y)) = z := by rw [hye]; simp [atZ]
          rw [Option.map_some, hat] at h
          simp only [vCut0] at h
          · split at h
            · rename_i s' xs hl
              obtain ⟨rfl, hK⟩ := h
              rw [hxe] at hx
              obtain ⟨a, c, hv, ha⟩ := rep_acc hx
              have hcap : xs.length ≤ c := by
                obtain ⟨ow, ho⟩ := h1.open_
                obtain ⟨_, us, a', c', q1, _, _, _, q5, _⟩ := ho.acc_parts hl (.inl rfl) ha
                simp only [Value.slice.injEq, true_and] at q1
                rw [q1.2]; exact q5
              obtain ⟨l2, g', hle, hne2, hR, hA⟩ := h1.cut hl hz ha
              obtain ⟨hu, hs, hbs, hei⟩ := tk_sl hk
              have hsize : (Go.sizeOf e).run P w = .ok s w := by
                obtain ⟨j, z', hq, _, _, _⟩ := okEl_spec hei
                unfold Program.cellsOf at hs
                simp [hq] at hs; simp [Go.sizeOf, typeInfo, hq, hs]
              have hrun : (execOp ρ o).run P w = .ok (.value (.slice a z c)) w := by
                have hb : (Instr.sliceBounds true xs.length c none (some (.int k (z : Int))) none).run P w = .ok (0, z, c) w := by
                  have : (Instr.sliceBound (.int k (z : Int)) c .sliceAcap).run P w = .ok z w := by
                    have := run_bound (P := P) (k := k) (i := (z : Int)) (y := c) (code := .sliceAcap) (w := w) (by omega) (by omega)
                    simpa using this
                  simp [Instr.sliceBounds, this, run_bound]
                simp [execOp, ho, hv, Instr.sliceAt, Instr.slice, run_underlying hu, rep_v hy, hb, hsize]
                cases a <;> simp [Addr.add]
              rw [hrun]
              exact ⟨g', _, _, hle, by simpa using hR, hA, hK l2 (nin_of hne2)⟩
            · exact h.elim
        · cases e3
    · exact y_sliceS ho hh hne (by rw [hxe]; exact h) 
  · exact y_sliceS ho hh hne h
end
end Aml

namespace Aml
open Go Go.RowKit
set_option linter.unusedVariables false
set_option linter.unusedSimpArgs false
inductive FK where
  | int (k : IntKind)
  | str
  | bool
def fkOf (P : Program) (T : TypeId) : Option FK := match P.underlying T with
  | some (.int k) => some (.int k)
  | some .string => some .str
  | some .bool => some .bool
  | _ => none
def fksOf (P : Program) : Nat → List Field → Option (List FK)
  | _, [] => some []
  | i, f :: fs => if (f.name != "_" && f.offset == i && !isAggT P f.type) = true then (match fkOf P f.type, fksOf P (i + 1) fs with
    | some k, some ks => some (k :: ks)
    | _, _ => none) else none
/-- The kinds of a struct's cells, if it can be compared by them. -/
def eqK (P : Program) (t : TypeId) : Option (List FK) := match P.underlying t with
  | some (.struct _) => if (!P.stoodInHeld t && !P.eqGuardType P.depth t) = true then fksOf P 0 (P.fieldsOf t).toList else none
  | _ => none
def aggK : List FK → List DV → List DV → Bool → (Bool → Prop) → Prop
  | [], [], [], r, F => F r
  | .int k :: ks, .v (.int k1 m) :: la, .v (.int k2 n) :: bs, r, F => k1 = k ∧ k2 = k ∧ aggK ks la bs (r && decide (m = n)) F
  | .str :: ks, .v (.string a) :: la, .v (.string b) :: bs, r, F => aggK ks la bs (r && decide (a.data.toList = b.data.toList)) F
  | .bool :: ks, .v (.bool a) :: la, .v (.bool b) :: bs, r, F => aggK ks la bs (r && (a == b)) F
  | _, _, _, _, _ => False
theorem aggK_false : ∀ {ks : List FK} {la bs : List DV} {F : Bool → Prop}, aggK ks la bs false F → F false
  | [], [], [], F, h => h
  | .int k :: ks, .v (.int k1 m) :: la, .v (.int k2 n) :: bs, F, h => aggK_false h.2.2
  | .str :: ks, .v (.string a) :: la, .v (.string b) :: bs, F, h => aggK_false (la := la) (bs := bs) h
  | .bool :: ks, .v (.bool a) :: la, .v (.bool b) :: bs, F, h => aggK_false (la := la) (bs := bs) h
theorem aggK_mono : ∀ {ks : List FK} {la bs : List DV} {r : Bool} {F G : Bool → Prop}, (∀ r, F r → G r) → aggK ks la bs r F → aggK ks la bs r G
  | [], [], [], r, F, G, hk, h => hk _ h
  | .int k :: ks, .v (.int k1 m) :: la, .v (.int k2 n) :: bs, r, F, G, hk, h => ⟨h.1, h.2.1, aggK_mono hk h.2.2⟩
  | .str :: ks, .v (.string a) :: la, .v (.string b) :: bs, r, F, G, hk, h => aggK_mono (la := la) (bs := bs) hk h
  | .bool :: ks, .v (.bool a) :: la, .v (.bool b) :: bs, r, F, G, hk, h => aggK_mono (la := la) (bs := bs) hk h
theorem aggK_det : ∀ {ks : List FK} {la bs : List DV} {r : Bool} {F : Bool → Prop}, aggK ks la bs r F → ∃ q, aggK ks la bs r (· = q) ∧ F q
  | [], [], [], r, F, h => ⟨r, rfl, h⟩
  | .int k :: ks, .v (.int k1 m) :: la, .v (.int k2 n) :: bs, r, F, h => let ⟨q, a, b⟩ := aggK_det h.2.2; ⟨q, ⟨h.1, h.2.1, a⟩, b⟩
  | .str :: ks, .v (.string a) :: la, .v (.string b) :: bs, r, F, h => let ⟨q, a, b⟩ := aggK_det (ks := ks) (la := la) (bs := bs) h; ⟨q, a, b⟩
  | .bool :: ks, .v (.bool a) :: la, .v (.bool b) :: bs, r, F, h => let ⟨q, a, b⟩ := aggK_det (ks := ks) (la := la) (bs := bs) h; ⟨q, a, b⟩
section
variable {P : Program} {w0 : W0}
def fkT : FK → TypeDesc
  | .int k => .int k
  | .str => .string
  | .bool => .bool
def cellQ : FK → DV → DV → Bool → Prop
  | .int k, a, b, q => ∃ m n, a = .v (.int k m) ∧ b = .v (.int k n) ∧ q = decide (m = n)
  | .str, a, b, q => ∃ m n, a = .v (.string m) ∧ b = .v (.string n) ∧ q = decide (m.data.toList = n.data.toList)
  | .bool, a, b, q => ∃ m n, a = .v (.bool m) ∧ b = .v (.bool n) ∧ q = (m == n)
theorem aggK_nilI : ∀ {la bs : List DV} {r : Bool} {F : Bool → Prop}, aggK [] la bs r F → F r
  | [], [], r, F, h => h
theorem aggK_consI : ∀ {k : FK} {ks : List FK} {la bs : List DV} {r : Bool} {F : Bool → Prop}, aggK (k :: ks) la bs r F → ∃ a la' b bs' q0, la = a :: la' ∧ bs = b :: bs' ∧ aggK ks la' bs' (r && q0) F ∧ cellQ k a b q0
  | .int k, ks, .v (.int k1 m) :: la, .v (.int k2 n) :: bs, r, F, ⟨h1, h2, h⟩ => ⟨_, _, _, _, _, rfl, rfl, h, m, n, by rw [h1], by rw [h2], rfl⟩
  | .str, ks, .v (.string a) :: la, .v (.string b) :: bs, r, F, h => ⟨_, _, _, _, _, rfl, rfl, h, a, b, rfl, rfl, rfl⟩
  | .bool, ks, .v (.bool a) :: la, .v (.bool b) :: bs, r, F, h => ⟨_, _, _, _, _, rfl, rfl, h, a, b, rfl, rfl, rfl⟩
theorem fkOf_spec {T : TypeId} {k : FK} (h : fkOf P T = some k) : P.underlying T = some (fkT k) := by
  unfold fkOf at h
  split at h <;> first | (cases h; assumption) | cases h
theorem aggK_ok {g : Gh} {us vs : List Value} {w : World} {d : Nat} {F : Bool → Prop} : ∀ (fs : List Field) {i : Nat} {ks : List FK} {la bs : List DV} {r : Bool}, fksOf P i fs = some ks → RepL g la (us.drop i) → RepL g bs (vs.drop i) → aggK ks la bs r F →
    ∃ q, (Op.eqFields (d + 1) us.toArray vs.toArray fs).run P w = .ok q w ∧ F (r && q)
  | [], i, ks, la, bs, r, hf, ha, hb, h => by
    simp only [fksOf, Option.some.injEq] at hf
    subst hf
    refine ⟨true, by simp [Op.eqFields], ?_⟩
    rw [Bool.and_true]
    exact aggK_nilI h
  | f :: fs, i, ks, la, bs, r, hf, ha, hb, h => by
    simp only [fksOf] at hf
    split at hf
    · rename_i hc
      simp only [Bool.and_eq_true, bne_iff_ne, ne_eq, beq_iff_eq, Bool.not_eq_true'] at hc
      obtain ⟨⟨hn, ho⟩, hag⟩ := hc
      split at hf
      · rename_i k ks' hk hks
        simp only [Option.some.injEq] at hf
        subst hf
        have hu := fkOf_spec hk
        have step : ∀ {a b : DV} {la' bs' : List DV} {q0 : Bool}, la = a :: la' → bs = b :: bs' →
            (∀ u v, Rep g a u → Rep g b v → (Op.equalIn (d + 1) f.type u v).run P w = .ok q0 w) → aggK ks' la' bs' (r && q0) F → ∃ q, (Op.eqFields (d + 1) us.toArray vs.toArray (f :: fs)).run P w = .ok q w ∧ F (r && q) := by
          rintro a b la' bs' q0 rfl rfl hq h
          obtain ⟨u, us', e1, a1, a2⟩ := ha.uncons
          obtain ⟨v, vs', e2, b1, b2⟩ := hb.uncons
          have hu1 : us[i]? = some u := by have := congrArg (·[0]?) e1; simpa [List.getElem?_drop] using this
          have hv1 : vs[i]? = some v := by have := congrArg (·[0]?) e2; simpa [List.getElem?_drop] using this
          have p1 := part_one (P := P) (w := w) (us := us) (off := f.offset) hag (by rw [hu]; rfl) (by rw [ho]; exact hu1)
          have p2 := part_one (P := P) (w := w) (us := vs) (off := f.offset) hag (by rw [hu]; rfl) (by rw [ho]; exact hv1)
          have p3 := hq u v a1 b1
          have d1 : us.drop (i + 1) = us' := by rw [← List.drop_drop, e1]; rfl
          have d2 : vs.drop (i + 1) = vs' := by rw [← List.drop_drop, e2]; rfl
          cases q0 with
          | false =>
            refine ⟨false, ?_, ?_⟩
            · simp [Op.eqFields, hn, p1, p2, p3]
            · rw [Bool.and_false] at h ⊢; exact aggK_false h
          | true =>
            rw [Bool.and_true] at h
            obtain ⟨q, r1, r2⟩ := aggK_ok (d := d) (w := w) fs hks (by rw [d1]; exact a2) (by rw [d2]; exact b2) h
            exact ⟨q, by simp [Op.eqFields, hn, p1, p2, p3, r1], r2⟩
        obtain ⟨a, la', b, bs', q0, ea, eb, h', hq⟩ := aggK_consI h
        refine step ea eb (fun u v r1 r2 => ?_) h'
        cases k with
        | int k =>
          obtain ⟨m, n, rfl, rfl, rfl⟩ := hq
          cases r1; cases r2
          rw [run_equalIn_int w d f.type _ _ m n hu, beq_dec]
        | str =>
          obtain ⟨m, n, rfl, rfl, rfl⟩ := hq
          cases r1; cases r2
          rw [run_equalIn_string w d f.type m n hu, ByteArray.toList_eq, ByteArray.toList_eq, beq_decL]
        | bool =>
          obtain ⟨m, n, rfl, rfl, rfl⟩ := hq
          cases r1; cases r2
          rw [run_equalIn_bool' w d f.type m n hu]
      · cases hf
    · cases hf
/-- Keys that are structs of numbers. -/
def kksOf : List FK → Option (List IntKind)
  | [] => some []
  | .int k :: l => (kksOf l).map (k :: ·)
  | _ => none
theorem aggK_key : ∀ {fks : List FK} {ks : List IntKind} {us vs : List Value} {r : Bool}, kksOf fks = some ks → isKeyL ks us = true → isKeyL ks vs = true → aggK fks (us.map .v) (vs.map .v) r (fun x => x = (r && @decide (us = vs) (Classical.propDecidable _)))
  | [], ks, us, vs, r, h, h1, h2 => by
    cases h
    cases us <;> cases vs <;> first | (simp [isKeyL] at h1; done) | (simp [isKeyL] at h2; done) | simp [aggK]
  | .int k :: fks, ks, us, vs, r, h, h1, h2 => by
    simp only [kksOf, Option.map_eq_some_iff] at h
    obtain ⟨ks', hk, rfl⟩ := h
    cases us with
    | nil => simp [isKeyL] at h1
    | cons u us =>
      cases vs with
      | nil => simp [isKeyL] at h2
      | cons v vs =>
        cases u <;> simp [isKeyL] at h1
        cases v <;> simp [isKeyL] at h2
        rename_i k1 a k2 b
        have := aggK_key (r := r && decide (a = b)) hk h1.2 h2.2
        simp only [List.map_cons, aggK]
        refine ⟨h1.1, h2.1, aggK_mono (fun x hx => ?_) this⟩
        rw [hx, Bool.and_assoc]
        congr 1
        obtain ⟨rfl, _⟩ := h1
        obtain ⟨rfl, _⟩ := h2
        by_cases e1 : a = b
        · by_cases e2 : us = vs
          · simp [e1, e2]
          · simp [e1, e2]
        · simp [e1]
theorem repL_vals {g : Gh} {us : List Value} (h : ∀ u, u ∈ us → u.oneCell' = true) : RepL g (us.map .v) us := ⟨by simp, fun i d u a b => by
  rw [List.getElem?_map, b] at a
  cases a
  exact .v u (h u (List.mem_of_getElem? b))⟩
theorem keyL_cells : ∀ {ks : List IntKind} {us : List Value}, isKeyL ks us = true → ∀ u, u ∈ us → u.oneCell' = true
  | [], [], _, u, hu => by cases hu
  | [], _ :: _, h, _, _ => by simp [isKeyL] at h
  | _ :: _, [], h, _, _ => by simp [isKeyL] at h
  | k :: ks, a :: us, h, u, hu => by
    cases a <;> simp [isKeyL] at h
    rcases List.mem_cons.1 hu with rfl | hu
    · rfl
    · exact keyL_cells h.2 u hu
theorem eqKey {kt : TypeId} {fks : List FK} {ks : List IntKind} (he : eqK P kt = some fks) (hk : kksOf fks = some ks) {us vs : List Value} (h1 : isKeyL ks us = true) (h2 : isKeyL ks vs = true) (w : World) :
    (Op.equal kt (.agg us.toArray) (.agg vs.toArray)).run P w = .ok (@decide (us = vs) (Classical.propDecidable _)) w := by
  unfold eqK at he
  split at he
  · rename_i fs hst
    split at he
    · rename_i hc
      simp only [Bool.and_eq_true, Bool.not_eq_true'] at hc
      have hfo : P.underlying kt = some (.struct (P.fieldsOf kt)) := by unfold Program.fieldsOf; rw [hst]
      have g : Gh := ⟨fun _ _ => none, fun _ _ => none, fun _ => none⟩
      obtain ⟨q, r1, r2⟩ := aggK_ok (P := P) (w := w) (d := 9998) (g := g) (us := us) (vs := vs) (P.fieldsOf kt).toList he (by rw [List.drop_zero]; exact repL_vals (keyL_cells h1)) (by rw [List.drop_zero]; exact repL_vals (keyL_cells h2)) (aggK_key hk h1 h2)
      rw [Bool.true_and, Bool.true_and] at r2
      show (Op.equalIn 10000 kt _ _).run P w = _
      rw [run_equalIn_struct w 9999 kt _ _ hfo hc.1, r1, r2]
    · cases he
  · cases he
theorem isKey_agg {ks : List IntKind} {k : Value} (h : isKey (.st ks) k = true) : ∃ us : List Value, k = .agg us.toArray ∧ isKeyL ks us = true := by
  cases k <;> simp [isKey] at h
  rename_i us
  exact ⟨us.toList, by simp, h⟩
theorem findKey_st {kt : TypeId} {fks : List FK} {ks : List IntKind} (he : eqK P kt = some fks) (hk : kksOf fks = some ks) {k : Value} (h1 : isKey (.st ks) k = true) (w : World) : ∀ (l : List MapEntry) (i : Nat), (∀ x, x ∈ l → isKey (.st ks) x.key = true) →
    ((Instr.findAsking kt k l i).run P w = .ok none w ∧ ∀ x, x ∈ l → x.key ≠ k) ∨ ∃ j e, (Instr.findAsking kt k l i).run P w = .ok (some (i + j, e.val)) w ∧ l[j]? = some e ∧ e.key = k
  | [], i, _ => .inl ⟨by simp [Instr.findAsking], by simp⟩
  | e :: es, i, hall => by
    obtain ⟨us, rfl, hu⟩ := isKey_agg h1
    obtain ⟨vs, hv, hv2⟩ := isKey_agg (hall e (by simp))
    have hr := eqKey he hk hu hv2 w
    by_cases hx : us = vs
    · refine .inr ⟨0, e, ?_, rfl, by rw [hv, hx]⟩
      rw [show @decide (us = vs) (Classical.propDecidable _) = true from by simp [hx]] at hr
      simp [Instr.findAsking, hv, hr]
    · rw [show @decide (us = vs) (Classical.propDecidable _) = false from by simp [hx]] at hr
      have hne : e.key ≠ .agg us.toArray := by
        rw [hv]
        intro h
        simp at h
        exact hx h.symm
      rcases findKey_st he hk h1 w es (i + 1) (fun x hx => hall x (by simp [hx])) with ⟨a, b⟩ | ⟨j, e', a, b, c⟩
      · refine .inl ⟨?_, fun x hx => ?_⟩
        · simp [Instr.findAsking, hv, hr, a]
        · rcases List.mem_cons.1 hx with rfl | hx
          · exact hne
          · exact b x hx
      · refine .inr ⟨j + 1, e', ?_, by simpa using b, c⟩
        simp [Instr.findAsking, hv, hr, a, Nat.add_assoc, Nat.add_comm 1 j]
theorem check_st {kt : TypeId} {fks : List FK} {ks : List IntKind} (he : eqK P kt = some fks) (hk : kksOf fks = some ks) {us : List Value} (h : isKeyL ks us = true) (em : Bool) (w : World) : (Instr.checkKey em 10000 kt (.agg us.toArray)).run P w = .ok () w := by
  unfold eqK at he
  split at he
  · rename_i fs0 hst
    split at he
    · have hfo : P.underlying kt = some (.struct (P.fieldsOf kt)) := by unfold Program.fieldsOf; rw [hst]
      rw [show (10000 : Nat) = 9998 + 1 + 1 from rfl, Instr.checkKey]
      simp only [Sem.run_bind, run_underlying hfo, Result.andThen_ok]
      rw [← Array.forIn_toList]
      have h' : isKeyL ks (us.drop 0) = true := by simpa using h
      clear h hst hfo
      generalize (P.fieldsOf kt).toList = L at he
      generalize (0 : Nat) = i at he h'
      induction L generalizing i fks ks with
      | nil => simp
      | cons f fs ih =>
        simp only [fksOf] at he
        split at he
        · rename_i hc
          simp only [Bool.and_eq_true, bne_iff_ne, ne_eq, beq_iff_eq, Bool.not_eq_true'] at hc
          obtain ⟨⟨hn, ho⟩, hag⟩ := hc
          split at he
          · rename_i k ks' hkf hks
            simp only [Option.some.injEq] at he
            subst he
            cases k with
            | int k =>
              simp only [kksOf, Option.map_eq_some_iff] at hk
              obtain ⟨ks2, hk2, rfl⟩ := hk
              have hu := fkOf_spec hkf
              obtain ⟨u, us', e1⟩ : ∃ u us', us.drop i = u :: us' := by
                cases hd : us.drop i with
                | nil => rw [hd] at h'; simp [isKeyL] at h'
                | cons a b => exact ⟨a, b, rfl⟩
              rw [e1] at h'
              have hu1 : us[i]? = some u := by have := congrArg (·[0]?) e1; simpa [List.getElem?_drop] using this
              have p1 := part_one (P := P) (w := w) (us := us) (off := f.offset) hag (by rw [hu]; rfl) (by rw [ho]; exact hu1)
              have d1 : us.drop (i + 1) = us' := by rw [← List.drop_drop, e1]; rfl
              cases u <;> simp [isKeyL] at h'
              obtain ⟨rfl, h'⟩ := h'
              rename_i k1 a
              have p2 : (Instr.checkKey em (9998 + 1) f.type (.int k1 a)).run P w = .ok () w := MapKept.run_checkKey hu (by simp [fkT, MapKept.IsKey]) em 9998
              simp only [List.forIn_cons, Sem.run_bind, hn, ne_eq, not_false_eq_true, if_true, Result.andThen_ok, p1, p2, Sem.run_pure]
              exact ih hk2 (i + 1) hks (by rw [d1]; exact h')
            | str => simp [kksOf] at hk
            | bool => simp [kksOf] at hk
          · cases he
        · cases he
    · cases he
  · cases he
theorem sameBits_st (n : Nat) : ∀ {ks : List IntKind} {us : List Value}, isKeyL ks us = true → ((us.zip us).all fun (x, y) => Instr.sameBits n x y) = true
  | [], [], _ => rfl
  | [], _ :: _, h => by simp [isKeyL] at h
  | _ :: _, [], h => by simp [isKeyL] at h
  | k :: ks, a :: us, h => by
    cases a <;> simp [isKeyL] at h
    have := sameBits_st n h.2
    rw [List.zip_cons_cons, List.all_cons, this, Bool.and_true]
    cases n <;> simp [Instr.sameBits]
/-- A struct type's keys: what is so of them. -/
theorem stays_st {ks : List IntKind} {us : List Value} (h : isKeyL ks us = true) (w : World) : (Instr.keyThatStays (.agg us.toArray) (.agg us.toArray)).run P w = .ok (.agg us.toArray) w := by
  have := sameBits_st 9999 h
  have h2 : Instr.sameBits 10000 (.agg us.toArray) (.agg us.toArray) = true := by
    show ((us.toArray.size == us.toArray.size) && _) = true
    simp [this]
  unfold Instr.keyThatStays
  rw [if_pos h2]
  simp
end
end Aml

namespace Aml
open Go Go.RowKit
set_option linter.unusedVariables false
set_option linter.unusedSimpArgs false

/-- What a map has at a key. -/
noncomputable def mGet (es : List (Value × DV × Nat)) (k : Value) : Option DV := (es.find? fun e => @decide (e.1 = k) (Classical.propDecidable _)).map (·.2.1)
noncomputable def mRep (k : Value) (d : DV) (e : Value × DV × Nat) : Value × DV × Nat := if @decide (e.1 = k) (Classical.propDecidable _) then (e.1, d, e.2.2) else e
noncomputable def mSet (es : List (Value × DV × Nat)) (clk : Nat) (k : Value) (d : DV) : List (Value × DV × Nat) :=
  if (mGet es k).isSome then es.map (mRep k d) else es ++ [(k, d, clk)]
noncomputable def mClk (es : List (Value × DV × Nat)) (clk : Nat) (k : Value) : Nat := if (mGet es k).isSome then clk else clk + 1
noncomputable def mDel (es : List (Value × DV × Nat)) (k : Value) : List (Value × DV × Nat) := es.filter fun e => !@decide (e.1 = k) (Classical.propDecidable _)

theorem mRep_eq {k : Value} {d : DV} {e : Value × DV × Nat} (h : e.1 = k) : mRep k d e = (e.1, d, e.2.2) := by
  unfold mRep; rw [if_pos (by simp [h])]
theorem mRep_ne {k : Value} {d : DV} {e : Value × DV × Nat} (h : e.1 ≠ k) : mRep k d e = e := by
  unfold mRep; rw [if_neg (by simp [h])]
theorem nodup_inj {α : Type} {l : List α} (h : l.Nodup) {i j : Nat} {a : α} (hi : l[i]? = some a) (hj : l[j]? = some a) : i = j := by
  obtain ⟨h1, rfl⟩ := List.getElem?_eq_some_iff.1 hi
  obtain ⟨h2, e⟩ := List.getElem?_eq_some_iff.1 hj
  rcases Nat.lt_trichotomy i j with q | q | q
  · exact absurd e.symm (List.pairwise_iff_getElem.1 h i j h1 h2 q)
  · exact q
  · exact absurd e (List.pairwise_iff_getElem.1 h j i h2 h1 q)
theorem mGet_none {es : List (Value × DV × Nat)} {k : Value} : mGet es k = none ↔ ∀ e, e ∈ es → e.1 ≠ k := by
  unfold mGet
  rw [Option.map_eq_none_iff, List.find?_eq_none]
  simp
theorem mGet_at {es : List (Value × DV × Nat)} (h : (es.map (·.1)).Nodup) {j : Nat} {e : Value × DV × Nat} (hj : es[j]? = some e) : mGet es e.1 = some e.2.1 := by
  unfold mGet
  have : es.find? (fun x => @decide (x.1 = e.1) (Classical.propDecidable _)) = some e := by
    induction es generalizing j with
    | nil => simp at hj
    | cons a es ih =>
      rw [List.map_cons, List.nodup_cons] at h
      rw [List.find?_cons]
      cases j with
      | zero => simp at hj; subst hj; simp
      | succ j =>
        simp only [List.getElem?_cons_succ] at hj
        have hne : a.1 ≠ e.1 := fun x => h.1 (by rw [x]; exact List.mem_map_of_mem (f := fun y : Value × DV × Nat => y.1) (List.mem_of_getElem? hj))
        rw [show @decide (a.1 = e.1) (Classical.propDecidable _) = false from by simp [hne]]
        exact ih h.2 hj
  rw [this]; rfl

/-- Keys that are found as they are. -/
structure KeyL (P : Program) (kt : TypeId) (kk : KK) : Prop where
  find : ∀ (k : Value) (l : List MapEntry) (w : World), isKey kk k = true → (∀ x, x ∈ l → isKey kk x.key = true) →
    ((Instr.findKey kt k l).run P w = .ok none w ∧ ∀ x, x ∈ l → x.key ≠ k) ∨ ∃ j e, (Instr.findKey kt k l).run P w = .ok (some (j, e.val)) w ∧ l[j]? = some e ∧ e.key = k
  check : ∀ (b : Bool) (k : Value) (w : World), isKey kk k = true → (Instr.checkKey b 10000 kt k).run P w = .ok () w
  stays : ∀ (k : Value) (w : World), isKey kk k = true → (Instr.keyThatStays k k).run P w = .ok k w
theorem keyL_of {P : Program} {kt : TypeId} {kk : KK} {d : TypeDesc} (hd : P.underlying kt = some d) (hk : ∀ k, isKey kk k = true → MapKept.IsKey d k) : KeyL P kt kk where
  find := fun k l w h1 h2 => by
    rcases MapKept.findNow_spec (hk k h1) l 0 (fun x hx => hk _ (h2 x hx)) with ⟨a, b⟩ | ⟨j, e, a, b, c⟩
    · exact .inl ⟨MapKept.run_findKey hd a, b⟩
    · exact .inr ⟨j, e, by have := MapKept.run_findKey (w := w) hd a; simpa using this, b, c⟩
  check := fun b k w h => MapKept.run_checkKey hd (hk k h) b 9999
  stays := fun k w h => MapKept.run_keyThatStays (hk k h)
def kkOf (P : Program) (kt : TypeId) : Option KK := match tk P kt with
  | .int k => some (.int k)
  | .str => some .str
  | .st _ _ => (eqK P kt).bind fun f => (kksOf f).map .st
  | _ => none
theorem kkOf_law {P : Program} {kt : TypeId} {kk : KK} (h : kkOf P kt = some kk) : KeyL P kt kk := by
  unfold kkOf at h
  split at h
  · rename_i k hk
    cases h
    exact keyL_of (tk_int hk) fun u hu => by cases u <;> simp_all [isKey, MapKept.IsKey]
  · rename_i hk
    cases h
    exact keyL_of (tk_str hk) fun u hu => by cases u <;> simp_all [isKey, MapKept.IsKey]
  · obtain ⟨fks, he, h⟩ := Option.bind_eq_some_iff.1 h
    obtain ⟨ks, hk, rfl⟩ := Option.map_eq_some_iff.1 h
    refine ⟨fun k l w h1 h2 => ?_, fun b k w h1 => ?_, fun k w h1 => ?_⟩
    · have hu : ∃ fs, P.underlying kt = some (.struct fs) := by
        unfold eqK at he
        split at he
        · exact ⟨_, by assumption⟩
        · cases he
      obtain ⟨fs, hu⟩ := hu
      have hf : (Instr.findKey kt k l).run P w = (Instr.findAsking kt k l 0).run P w ∨ l = [] := by
        cases l with
        | nil => exact .inr rfl
        | cons e l =>
          refine .inl ?_
          have : Instr.sameNow (.struct fs) k e.key = none := by cases k <;> rfl
          simp [Instr.findKey, run_underlying hu, Instr.findNow, this]
      rcases hf with hf | rfl
      · rcases findKey_st he hk h1 w l 0 h2 with ⟨a, b⟩ | ⟨j, e, a, b, c⟩
        · exact .inl ⟨hf.trans a, b⟩
        · exact .inr ⟨j, e, by rw [hf, a, Nat.zero_add], b, c⟩
      · exact .inl ⟨by simp [Instr.findKey, run_underlying hu, Instr.findNow], by simp⟩
    · obtain ⟨us, rfl, hu⟩ := isKey_agg h1
      exact check_st he hk hu b w
    · obtain ⟨us, rfl, hu⟩ := isKey_agg h1
      exact stays_st hu w
  · cases h
/-- A map's type: keys' kind, zero value. -/
def mpT (P : Program) (t : TypeId) : Option (KK × DV) := match tk P t with
  | .map k e => (kkOf P k).map fun kk => (kk, zD P e)
  | _ => none
theorem mpT_law {P : Program} {t : TypeId} {kk : KK} {z : DV} (h : mpT P t = some (kk, z)) : ∃ k e, P.underlying t = some (.map k e) ∧ KeyL P k kk ∧ zD P e = z := by
  unfold mpT at h
  split at h
  · rename_i k e hk
    obtain ⟨kk', h1, h2⟩ := Option.map_eq_some_iff.1 h
    cases h2
    exact ⟨k, e, by unfold tk at hk; split at hk <;> (try split at hk) <;> (try cases hk) <;> assumption, kkOf_law h1, rfl⟩
  · cases h
/-- What is looked up is asked first. -/
def oK {α : Type} : Option α → (α → Prop) → Prop
  | some a, F => F a
  | none, _ => False
/-- A key, as a value. -/
def kVal : DV → Option Value
  | .v u => some u
  | .agg ds => (vals ds).map fun us => .agg us.toArray
  | _ => none
theorem vals_rep' {g : Gh} : ∀ {ds : List DV} {us vs : List Value}, vals ds = some us → RepL g ds vs → vs = us
  | [], us, vs, h, r => by
    cases h
    exact List.eq_nil_of_length_eq_zero (by have := r.len; simpa using this.symm)
  | d :: ds, us, vs, h, r => by
    obtain ⟨u, us', rfl, r1, r2⟩ := r.uncons
    cases d with
    | v x =>
      simp only [vals, Option.map_eq_some_iff] at h
      obtain ⟨ys, hy, rfl⟩ := h
      rw [rep_v r1, vals_rep' hy r2]
    | _ => simp [vals] at h
theorem kVal_rep {g : Gh} {d : DV} {k u : Value} (h : kVal d = some k) (r : Rep g d u) : u = k := by
  cases d with
  | v x => cases h; exact rep_v r
  | agg ds =>
    simp only [kVal, Option.map_eq_some_iff] at h
    obtain ⟨us, h1, rfl⟩ := h
    obtain ⟨vs, rfl, r1, _⟩ := rep_agg r
    rw [vals_rep' h1 r1]
  | _ => cases h
/-- A key, as it is told. -/
def kD : Value → DV
  | .agg us => .agg (us.toList.map .v)
  | u => .v u
theorem kD_rep {g : Gh} {kk : KK} {k : Value} (h : isKey kk k = true) : Rep g (kD k) k := by
  cases kk <;> cases k <;> first | (simp [isKey] at h; done) | exact .v _ rfl | skip
  rename_i ks us
  have hl : ∀ (ks : List IntKind) (l : List Value), isKeyL ks l = true → ∀ u, u ∈ l → u.oneCell' = true := by
    intro ks l
    induction l generalizing ks with
    | nil => intro _ u hu; cases hu
    | cons a l ih =>
      intro h u hu
      cases ks with
      | nil => simp [isKeyL] at h
      | cons k ks =>
        cases a <;> simp [isKeyL] at h
        rcases List.mem_cons.1 hu with rfl | hu
        · rfl
        · exact ih ks h.2 u hu
  have h1 := hl ks us.toList h
  have := Rep.agg (g := g) (us.toList.map .v) us.toList (by simp) (fun i d u a b => by
    rw [List.getElem?_map, b] at a
    cases a
    exact .v u (h1 u (List.mem_of_getElem? b))) h1
  simpa [kD] using this

section
variable {P : Program} {w0 : W0}
/-- Something else that is owned changes. -/
theorem Rel.setX {g : Gh} {S : St} {w : World} (h : Rel w0 g S w) {l : Nat} {f : XO} (hl : lk S.acc l = some (.xo f)) : ∃ b o, g.acc l 0 = some (.slice (some ⟨b, 0, none⟩) 0 0) ∧ w.heap[b]? = some o ∧ XOk g f o ∧
    ∀ f' o' w', XOk g f' o' → Below b w w' → w'.heap[b]? = some o' → (∀ i, i ≠ b → w'.heap[i]? = w.heap[i]?) → Rel w0 g ⟨S.box, up S.acc l (.xo f')⟩ w' := by
  obtain ⟨ow, h⟩ := h.open_
  have hm := lk_mem hl
  obtain ⟨b, o, q1, q2, q3, q4, q5, q6⟩ := h.acc l _ hm
  refine ⟨b, o, q1, q5, q6, fun f' o' w' hx hB hb' hs => RelO.close (ow := ow) ⟨?_, ?_, h.nb, ?_, h.accw, h.fresh, ?_, ?_, ?_, ?_⟩⟩
  · exact h.below.step (hB.mono q3) b (fun x hx' => by rw [q5] at hx'; cases hx'; exact q6.nc) fun i _ hne => hs i hne
  · intro b' i u hu
    have hne : b' ≠ b := by rintro rfl; rw [q4] at hu; cases hu
    rw [World.cell?_of_block (w := w) (w' := w') (a := ⟨b', i, none⟩) (hs b' hne)]
    exact h.imm _ _ _ hu
  · rw [map_up]; exact h.na
  · intro l' o'' hm' k hk
    rcases mem_up h.na hm' with e | ⟨hm', hne⟩
    · simp only [Prod.mk.injEq] at e
      obtain ⟨rfl, rfl⟩ := e
      exact h.top _ _ hm k hk
    · exact h.top _ _ hm' k hk
  · intro b' ds hb
    refine (h.box _ _ hb).step (.refl g) fun ho => ⟨ho, hs b' ?_, fun _ hi => hi⟩
    rintro rfl
    rw [q2] at ho; cases ho
  · intro l' o'' hm'
    rcases mem_up h.na hm' with e | ⟨hm', hne⟩
    · simp only [Prod.mk.injEq] at e
      obtain ⟨rfl, rfl⟩ := e
      exact ⟨b, o', q1, q2, q3, q4, hb', hx⟩
    · refine (h.acc _ _ hm').step (.refl g) fun b' ho => ⟨ho, hs b' ?_, fun _ hi => hi⟩
      rintro rfl
      rw [q2] at ho
      simp only [Option.some.injEq, Key.a.injEq] at ho
      exact hne ho.symm
  · intro b' k hk; exact Nat.lt_of_lt_of_le (h.owb _ _ hk) hB.size
theorem Rel.getX {g : Gh} {S : St} {w : World} (h : Rel w0 g S w) {l : Nat} {f : XO} (hl : lk S.acc l = some (.xo f)) : ∃ b o, g.acc l 0 = some (.slice (some ⟨b, 0, none⟩) 0 0) ∧ w.heap[b]? = some o ∧ XOk g f o :=
  let ⟨b, o, q1, q2, q3, _⟩ := h.setX hl
  ⟨b, o, q1, q2, q3⟩
/-- Something else that is owned is made. -/
theorem Rel.newX {g : Gh} {S : St} {w w' : World} (h : Rel w0 g S w) (k : Below w.heap.size w w') {b : Nat} {o : Obj} {f : XO} (hge : w.heap.size ≤ b) (hb : w'.heap[b]? = some o) (hx : XOk g f o) :
    ∃ l g', g.le g' ∧ (∀ p, p ∈ S.acc → p.1 ≠ l) ∧ Rel w0 g' ⟨S.box, (l, .xo f) :: S.acc⟩ w' ∧ g'.acc l 0 = some (.slice (some ⟨b, 0, none⟩) 0 0) := by
  obtain ⟨ow, h⟩ := h.open_
  have hnow : ow b = none := by
    cases ho : ow b with
    | none => rfl
    | some q => have := h.owb b q ho; omega
  have h' := h.grow k
  obtain ⟨m, hm'⟩ := h'.fresh
  have hnone : ∀ i, g.imm b i = none := by
    intro i
    cases hi : g.imm b i with
    | none => rfl
    | some u => have := World.block_lt_of_cell? w _ (h.imm _ _ _ hi); simp at this; omega
  have hne : ∀ p, p ∈ S.acc → p.1 ≠ m := by
    rintro ⟨l', o'⟩ hp rfl
    obtain ⟨u, hu⟩ := (h'.acc _ _ hp).has
    rw [hm' _ _ (Nat.le_refl _)] at hu; cases hu
  let v : Value := .slice (some ⟨b, 0, none⟩) 0 0
  have hle : g.le (g.setAcc m 0 v) := Gh.le_setAcc (.inl (hm' _ _ (Nat.le_refl _)))
  have hself : (g.setAcc m 0 v).acc m 0 = some v := by simp [Gh.setAcc]
  refine ⟨m, g.setAcc m 0 v, hle, hne, RelO.close (ow := fun x => if x = b then some (.a m) else ow x) ⟨h'.below.le hle, h'.imm, h'.nb, ?_, ?_, ?_, ?_, ?_, ?_, ?_⟩, hself⟩
  · simp only [List.map_cons, List.nodup_cons]
    refine ⟨fun hx => ?_, h'.na⟩
    obtain ⟨p, hp, e⟩ := List.mem_map.1 hx
    exact hne p hp e
  · intro l' n u hu
    simp only [Gh.setAcc] at hu
    split at hu
    · rename_i e; obtain ⟨rfl, rfl⟩ := e; exact ⟨_, _, (Option.some.inj hu).symm, .inl rfl⟩
    · exact h'.accw _ _ _ hu
  · refine ⟨m + 1, fun l n hl => ?_⟩
    simp only [Gh.setAcc]
    rw [if_neg (by omega)]
    exact hm' _ _ (by omega)
  · intro l o hl k hk
    simp only [Gh.setAcc]
    rcases List.mem_cons.1 hl with e | hl
    · simp only [Prod.mk.injEq] at e
      obtain ⟨rfl, rfl⟩ := e
      simp only [Ob.len] at hk
      rw [if_neg (by omega)]
      exact hm' _ _ (Nat.le_refl _)
    · rw [if_neg (fun e => hne _ hl e.1)]
      exact h'.top _ _ hl k hk
  · intro b' ds hb'
    refine (h'.box b' ds hb').step hle fun ho => ⟨?_, rfl, fun _ hi => hi⟩
    split
    · rename_i e; subst e; exact absurd (hnow.symm.trans ho) (by simp)
    · exact ho
  · intro l o hl
    rcases List.mem_cons.1 hl with e' | hl
    · simp only [Prod.mk.injEq] at e'
      obtain ⟨rfl, rfl⟩ := e'
      exact ⟨b, _, hself, if_pos rfl, Nat.le_trans h.below.size hge, hnone, hb, hx.mono hle⟩
    · refine (h'.acc l o hl).step hle fun b' ho => ⟨?_, rfl, fun _ hi => hi⟩
      split
      · rename_i e; subst e; exact absurd (hnow.symm.trans ho) (by simp)
      · exact ho
  · intro b' q hq
    split at hq
    · rename_i e; subst e; exact lt_of_heap hb
    · exact h'.owb _ _ hq
theorem rep_mp {g : Gh} {l : Nat} {x : Value} (r : Rep g (.mp l) x) : ∃ b, x = .map (some b) ∧ g.acc l 0 = some (.slice (some ⟨b, 0, none⟩) 0 0) := by
  cases r with
  | mp _ b h => exact ⟨b, rfl, h⟩
theorem rep_it {g : Gh} {l : Nat} {x : Value} (r : Rep g (.it l) x) : ∃ b, x = .pointer (some ⟨b, 0, none⟩) ∧ g.acc l 0 = some (.slice (some ⟨b, 0, none⟩) 0 0) := by
  cases r with
  | it _ b h => exact ⟨b, rfl, h⟩
theorem below_setX (w : World) (b : Nat) (o : Obj) : Below b w { w with heap := w.heap.setIfInBounds b o } := ⟨rfl, rfl, rfl, by simp, fun k hk => by simp [Array.getElem?_setIfInBounds, Nat.ne_of_gt hk]⟩
theorem heap_setX {w : World} {b : Nat} {o o' : Obj} (h : w.heap[b]? = some o) : ({ w with heap := w.heap.setIfInBounds b o' } : World).heap[b]? = some o' ∧ ∀ i, i ≠ b → ({ w with heap := w.heap.setIfInBounds b o' } : World).heap[i]? = w.heap[i]? := MapKept.heap_set h
/-- An entry by its place. -/
theorem MapR.get {g : Gh} {es : List (Value × DV × Nat)} {es' : List MapEntry} (r : MapR g es es') {j : Nat} {e' : MapEntry} (h : es'[j]? = some e') : ∃ e, es[j]? = some e ∧ e'.key = e.1 ∧ Rep g e.2.1 e'.val ∧ e'.born = e.2.2 := by
  have hlt : j < es.length := by rw [r.len]; exact (List.getElem?_eq_some_iff.1 h).1
  have he : es[j]? = some es[j] := List.getElem?_eq_getElem hlt
  exact ⟨_, he, r.at_ j _ _ he h⟩
theorem MapR.get' {g : Gh} {es : List (Value × DV × Nat)} {es' : List MapEntry} (r : MapR g es es') {j : Nat} {e : Value × DV × Nat} (h : es[j]? = some e) : ∃ e', es'[j]? = some e' ∧ e'.key = e.1 ∧ Rep g e.2.1 e'.val ∧ e'.born = e.2.2 := by
  have hlt : j < es'.length := by rw [← r.len]; exact (List.getElem?_eq_some_iff.1 h).1
  have he : es'[j]? = some es'[j] := List.getElem?_eq_getElem hlt
  exact ⟨_, he, r.at_ j _ _ h he⟩
theorem MapR.keys {g : Gh} {es : List (Value × DV × Nat)} {es' : List MapEntry} (r : MapR g es es') {kk : KK} {clk : Nat} (h : MapOk kk es clk) : ∀ x, x ∈ es' → isKey kk x.key = true := fun x hx => by
  obtain ⟨j, hj⟩ := List.mem_iff_getElem?.1 hx
  obtain ⟨e, he, h1, _⟩ := r.get hj
  rw [h1]; exact h.key e (List.mem_of_getElem? he)
/-- What is found. -/
theorem MapR.found {g : Gh} {es : List (Value × DV × Nat)} {es' : List MapEntry} (r : MapR g es es') {kk : KK} {clk : Nat} (h : MapOk kk es clk) {kt : TypeId} (L : KeyL P kt kk) {k : Value} (hk : isKey kk k = true) (w : World) :
    ((Instr.findKey kt k es').run P w = .ok none w ∧ mGet es k = none) ∨ ∃ j e e', (Instr.findKey kt k es').run P w = .ok (some (j, e'.val)) w ∧ es'[j]? = some e' ∧ es[j]? = some e ∧ e.1 = k ∧ e'.key = k ∧ Rep g e.2.1 e'.val ∧ e'.born = e.2.2 ∧ mGet es k = some e.2.1 := by
  rcases L.find k es' w hk (r.keys h) with ⟨a, b⟩ | ⟨j, e', a, b, c⟩
  · refine .inl ⟨a, mGet_none.2 fun e he hek => ?_⟩
    obtain ⟨j, hj⟩ := List.mem_iff_getElem?.1 he
    obtain ⟨e', he', h1, _⟩ := r.get' hj
    exact b e' (List.mem_of_getElem? he') (h1.trans hek)
  · obtain ⟨e, he, h1, h2, h3⟩ := r.get b
    exact .inr ⟨j, e, e', a, b, he, h1.symm.trans c, c, h2, h3, by have := mGet_at h.nd he; rwa [h1.symm.trans c] at this⟩
/-- What is told of a look. -/
def lkD (ok : Bool) (d : DV) (is : Bool) : DV := if ok then .tup [d, .v (.bool is)] else d
def vLookup (m : Option (KK × DV)) (S : St) (x y : DV) (ok : Bool) (K : DV → Prop) : Prop := oK m fun p => okE p.2 = true ∧ oK (kVal y) fun k => isKey p.1 k = true ∧ (match x with
  | .v (.map none) => K (lkD ok p.2 false)
  | .mp l => (match lk S.acc l with
    | some (.xo (.mp kk es clk)) => kk = p.1 ∧ (match mGet es k with
      | some d => K (lkD ok d true)
      | none => K (lkD ok p.2 false))
    | _ => False)
  | _ => False)
theorem y_lookup {o : Oper} {t : TypeId} {x y : Operand} {ok : Bool} (ho : o.op = .lookup t x y ok) {ρD : Operand → DV} {S : St} {K : DV → St → Prop} (h : vLookup (mpT P t) S (ρD x) (ρD y) ok (K · S)) : YieldsE P w0 o ρD S K := by
  refine y_value fun g w ρ h1 h2 => ?_
  have hx := h2 x (by simp [ho, Op.operands])
  have hy := h2 y (by simp [ho, Op.operands])
  unfold vLookup at h
  cases hm : mpT P t with
  | none => rw [hm] at h; exact h.elim
  | some p =>
    obtain ⟨kk, z⟩ := p
    rw [hm] at h
    obtain ⟨hz, h⟩ := h
    cases hk : kVal (ρD y) with
    | none => rw [hk] at h; exact h.elim
    | some k =>
      rw [hk] at h
      obtain ⟨hkk, h⟩ := h
      have hyk := kVal_rep hk hy
      obtain ⟨kt, et, hu, L, hzd⟩ := mpT_law hm
      simp only at hz hkk h
      obtain ⟨zv, hzr, hzz⟩ := zD_run (P := P) hzd hz w
      have hlk : ∀ (d : DV) (v : Value) (is : Bool), Rep g d v → Rep g (lkD ok d is) (if ok = true then .tuple #[v, .bool is] else v) := fun d v is r => by
        unfold lkD
        cases ok
        · exact r
        · exact repL_two r (.v (.bool is) rfl)
      split at h
      · rename_i e
        rw [e] at hx
        refine ⟨_, _, ?_, hlk z zv false (hzz g), h⟩
        have hxe := rep_v hx
        have hf : (Instr.findKey kt k []).run P w = .ok none w := by
          rcases L.find k [] w hkk (fun x hx => by cases hx) with h | ⟨j, e, _, h, _⟩
          · exact h.1
          · simp at h
        simp [execOp, ho, Instr.lookup, run_underlying hu, hxe, hyk, L.check _ k w hkk, hf, hzr]
      · rename_i l e
        rw [e] at hx
        obtain ⟨b, hxb, hgb⟩ := rep_mp hx
        split at h
        · rename_i kk' es clk hl
          obtain ⟨rfl, h⟩ := h
          obtain ⟨b', o', q1, q2, es', rfl, r, hok⟩ := h1.getX hl
          rw [hgb] at q1; cases q1
          have hg := MapKept.run_getObj_map (P := P) q2
          rcases r.found hok L hkk w with ⟨f1, f2⟩ | ⟨j, e, e', f1, f2, f3, f4, f5, f6, f7, f8⟩
          · rw [f2] at h
            refine ⟨_, _, ?_, hlk z zv false (hzz g), h⟩
            simp [execOp, ho, Instr.lookup, run_underlying hu, hxb, hyk, hg, L.check _ k w hkk, f1, hzr]
          · rw [f8] at h
            refine ⟨_, _, ?_, hlk _ _ true f6, h⟩
            simp [execOp, ho, Instr.lookup, run_underlying hu, hxb, hyk, hg, L.check _ k w hkk, f1]
        · exact h.elim
      · exact h.elim
/-- A map's words at a change. -/
theorem MapR.set {g : Gh} {es : List (Value × DV × Nat)} {es' : List MapEntry} (r : MapR g es es') (hn : (es.map (·.1)).Nodup) {j : Nat} {e : Value × DV × Nat} (hj : es[j]? = some e) {d : DV} {v : Value} (hd : Rep g d v) :
    MapR g (es.map (mRep e.1 d)) (es'.modify j fun x => { x with key := e.1, val := v }) := by
  refine ⟨by rw [List.length_map, List.length_modify]; exact r.len, fun i x x' hx hx' => ?_⟩
  rw [List.getElem?_map] at hx
  rw [List.getElem?_modify] at hx'
  cases hi : es[i]? with
  | none => rw [hi] at hx; cases hx
  | some y =>
    rw [hi] at hx
    cases hx
    obtain ⟨y', hy', q1, q2, q3⟩ := r.get' hi
    rw [hy'] at hx'
    simp only [Option.map_eq_map, Option.map_some, Option.some.injEq] at hx'
    by_cases hij : j = i
    · subst hij
      rw [hj] at hi; cases hi
      simp only [if_true] at hx'
      subst hx'
      rw [mRep_eq rfl]
      exact ⟨rfl, hd, q3⟩
    · have hne : y.1 ≠ e.1 := fun he => hij (nodup_inj hn (a := e.1) (by rw [List.getElem?_map, hj]; rfl) (by rw [List.getElem?_map, hi, ← he]; rfl))
      rw [if_neg hij] at hx'
      subst hx'
      rw [mRep_ne hne]
      exact ⟨q1, q2, q3⟩
theorem mSet_keys {es : List (Value × DV × Nat)} {k : Value} {d : DV} : (es.map (mRep k d)).map (·.1) = es.map (·.1) ∧ (es.map (mRep k d)).map (·.2.2) = es.map (·.2.2) := by
  constructor
  · rw [List.map_map]
    refine List.map_congr_left fun e _ => ?_
    simp only [Function.comp, mRep]; split <;> rfl
  · rw [List.map_map]
    refine List.map_congr_left fun e _ => ?_
    simp only [Function.comp, mRep]; split <;> rfl
theorem mSet_ok {kk : KK} {es : List (Value × DV × Nat)} {clk : Nat} (h : MapOk kk es clk) {k : Value} (hk : isKey kk k = true) (d : DV) : MapOk kk (mSet es clk k d) (mClk es clk k) := by
  unfold mSet mClk
  cases hg : mGet es k with
  | some x =>
    simp only [Option.isSome_some, if_true]
    obtain ⟨e1, e2⟩ := mSet_keys (es := es) (k := k) (d := d)
    refine ⟨fun e he => ?_, by rw [e1]; exact h.nd, by rw [e2]; exact h.bn, fun e he => ?_⟩
    · have := List.mem_map_of_mem (f := fun x : Value × DV × Nat => x.1) he
      rw [e1] at this
      obtain ⟨y, hy, hye⟩ := List.mem_map.1 this
      rw [← hye]; exact h.key y hy
    · have := List.mem_map_of_mem (f := fun x : Value × DV × Nat => x.2.2) he
      rw [e2] at this
      obtain ⟨y, hy, hye⟩ := List.mem_map.1 this
      rw [← hye]; exact h.lt y hy
  | none =>
    simp only [Option.isSome_none, Bool.false_eq_true, if_false]
    have hne := mGet_none.1 hg
    refine ⟨fun e he => ?_, ?_, ?_, fun e he => ?_⟩
    · rcases List.mem_append.1 he with he | he
      · exact h.key e he
      · rw [List.mem_singleton] at he; subst he; exact hk
    · rw [List.map_append, List.nodup_append]
      refine ⟨h.nd, by simp, fun a ha b hb => ?_⟩
      obtain ⟨e, he, rfl⟩ := List.mem_map.1 ha
      simp only [List.map_cons, List.map_nil, List.mem_singleton] at hb
      rw [hb]; exact hne e he
    · rw [List.map_append, List.nodup_append]
      refine ⟨h.bn, by simp, fun a ha b hb => ?_⟩
      obtain ⟨e, he, rfl⟩ := List.mem_map.1 ha
      simp only [List.map_cons, List.map_nil, List.mem_singleton] at hb
      have := h.lt e he
      omega
    · rcases List.mem_append.1 he with he | he
      · have := h.lt e he; omega
      · rw [List.mem_singleton] at he; subst he; exact Nat.lt_succ_self _
theorem mDel_ok {kk : KK} {es : List (Value × DV × Nat)} {clk : Nat} (h : MapOk kk es clk) (k : Value) : MapOk kk (mDel es k) clk :=
  ⟨fun e he => h.key e (List.mem_filter.1 he).1, h.nd.sublist ((List.filter_sublist (l := es)).map _), h.bn.sublist ((List.filter_sublist (l := es)).map _), fun e he => h.lt e (List.mem_filter.1 he).1⟩
theorem MapR.push {g : Gh} {es : List (Value × DV × Nat)} {es' : List MapEntry} (r : MapR g es es') {k : Value} {d : DV} {v : Value} {b : Nat} (hd : Rep g d v) : MapR g (es ++ [(k, d, b)]) (es' ++ [{ key := k, val := v, born := b }]) := by
  refine ⟨by simp [r.len], fun i x x' hx hx' => ?_⟩
  rcases Nat.lt_or_ge i es.length with h | h
  · rw [List.getElem?_append_left h] at hx
    rw [List.getElem?_append_left (by rw [← r.len]; exact h)] at hx'
    exact r.at_ i x x' hx hx'
  · rw [List.getElem?_append_right h] at hx
    rw [List.getElem?_append_right (by rw [← r.len]; exact h), ← r.len] at hx'
    cases hi : i - es.length with
    | zero => rw [hi] at hx hx'; simp at hx hx'; subst hx; subst hx'; exact ⟨rfl, hd, rfl⟩
    | succ n => rw [hi] at hx; simp at hx
theorem MapR.erase {g : Gh} {es : List (Value × DV × Nat)} {es' : List MapEntry} (r : MapR g es es') (hn : (es.map (·.1)).Nodup) {j : Nat} {e : Value × DV × Nat} (hj : es[j]? = some e) : MapR g (mDel es e.1) (es'.eraseIdx j) := by
  have he : mDel es e.1 = es.eraseIdx j := by
    unfold mDel
    clear r
    induction es generalizing j with
    | nil => simp at hj
    | cons a es ih =>
      rw [List.map_cons, List.nodup_cons] at hn
      cases j with
      | zero =>
        simp at hj; subst hj
        rw [List.filter_cons, show @decide (a.1 = a.1) (Classical.propDecidable _) = true from by simp]
        simp only [Bool.not_true, Bool.false_eq_true, if_false, List.eraseIdx_zero, List.tail_cons]
        refine List.filter_eq_self.2 fun x hx => ?_
        have : x.1 ≠ a.1 := fun h => hn.1 (by rw [← h]; exact List.mem_map_of_mem (f := fun y : Value × DV × Nat => y.1) hx)
        simp [this]
      | succ j =>
        simp only [List.getElem?_cons_succ] at hj
        have hne : a.1 ≠ e.1 := fun x => hn.1 (by rw [x]; exact List.mem_map_of_mem (f := fun y : Value × DV × Nat => y.1) (List.mem_of_getElem? hj))
        rw [List.filter_cons, show @decide (a.1 = e.1) (Classical.propDecidable _) = false from by simp [hne]]
        simp only [Bool.not_false, if_true, List.eraseIdx_cons_succ]
        rw [ih hn.2 hj]
  rw [he]
  refine ⟨by rw [List.length_eraseIdx, List.length_eraseIdx, r.len], fun i x x' hx hx' => ?_⟩
  rw [List.getElem?_eraseIdx] at hx hx'
  split at hx
  · rename_i h; rw [if_pos h] at hx'; exact r.at_ _ _ _ hx hx'
  · rename_i h; rw [if_neg h] at hx'; exact r.at_ _ _ _ hx hx'
def vMapUpd (m : Option (KK × DV)) (S : St) (x y d : DV) (K : St → Prop) : Prop := oK m fun p => oK (kVal y) fun k => isKey p.1 k = true ∧ shr S d fun d S => (match x with
  | .mp l => (match lk S.acc l with
    | some (.xo (.mp kk es clk)) => kk = p.1 ∧ K ⟨S.box, up S.acc l (.xo (.mp kk (mSet es clk k d) (mClk es clk k)))⟩
    | _ => False)
  | _ => False)
theorem y_mapUpdate {o : Oper} {t : TypeId} {x y z : Operand} (ho : o.op = .mapUpdate t x y z) {ρD : Operand → DV} {S : St} {K : DV → St → Prop} (h0 : vMapUpd (mpT P t) S (ρD x) (ρD y) (ρD z) (K ud)) : YieldsE P w0 o ρD S K := by
  intro g w ρ h1 h2 hcst
  have hx0 := h2 x (by simp [ho, Op.operands])
  have hy := h2 y (by simp [ho, Op.operands])
  have hz := h2 z (by simp [ho, Op.operands])
  unfold vMapUpd at h0
  cases hm : mpT P t with
  | none => rw [hm] at h0; exact h0.elim
  | some p =>
    obtain ⟨kk, zz⟩ := p
    rw [hm] at h0
    cases hk : kVal (ρD y) with
    | none => rw [hk] at h0; exact h0.elim
    | some k =>
      rw [hk] at h0
      obtain ⟨hkk, hA⟩ := h0
      have hyk := kVal_rep hk hy
      obtain ⟨kt, et, hu, L, hzd⟩ := mpT_law hm
      simp only at hkk hA
      obtain ⟨g1, d, S1, le1, R1, hd, hB⟩ := shr_ok h1 hz hA
      have hx := hx0.mono le1
      clear hA
      split at hB
      · rename_i l e
        rw [e] at hx
        obtain ⟨b, hxb, hgb⟩ := rep_mp hx
        split at hB
        · rename_i kk' es clk hl
          obtain ⟨hkke, hC⟩ := hB
          subst hkke
          obtain ⟨b', o', q1, q2, ⟨es', rfl, r, hok⟩, hset⟩ := R1.setX hl
          rw [hgb] at q1; cases q1
          have hg := MapKept.run_getObj_map (P := P) q2
          have hm2 := mSet_ok hok hkk d
          rcases r.found hok L hkk w with ⟨f1, f2⟩ | ⟨j, e, e', f1, f2, f3, f4, f5, f6, f7, f8⟩
          · obtain ⟨s1, s2⟩ := heap_setX (o' := .map (es' ++ [({ key := k, val := ρ z, born := clk } : MapEntry)]).toArray (clk + 1)) q2
            have hrun : (execOp ρ o).run P w = .ok .skip { w with heap := w.heap.setIfInBounds b (.map (es' ++ [({ key := k, val := ρ z, born := clk } : MapEntry)]).toArray (clk + 1)) } := by
              simp [execOp, ho, Instr.mapUpdate, run_underlying hu, hxb, hyk, hg, L.check _ k w hkk, f1, MapKept.run_setObj_map _ q2]
            rw [hrun]
            have hsk : mSet es clk k d = es ++ [(k, d, clk)] ∧ mClk es clk k = clk + 1 := by unfold mSet mClk; rw [f2]; exact ⟨rfl, rfl⟩
            rw [hsk.1, hsk.2] at hC hm2
            exact ⟨g1, _, le1, hset (.mp kk' (es ++ [(k, d, clk)]) (clk + 1)) _ _ ⟨_, rfl, r.push hd, hm2⟩ (below_setX _ _ _) s1 s2, hC⟩
          · have hat : es'.toArray[j]? = some e' := by simpa using f2
            obtain ⟨s1, s2⟩ := heap_setX (o' := .map (es'.modify j fun x => { x with key := k, val := ρ z }).toArray clk) q2
            have hrun : (execOp ρ o).run P w = .ok .skip { w with heap := w.heap.setIfInBounds b (.map (es'.modify j fun x => { x with key := k, val := ρ z }).toArray clk) } := by
              simp [execOp, ho, Instr.mapUpdate, run_underlying hu, hxb, hyk, hg, L.check _ k w hkk, f1, f2, f5, L.stays k w hkk, MapKept.run_setObj_map _ q2]
            rw [hrun]
            have hsk : mSet es clk k d = es.map (mRep k d) ∧ mClk es clk k = clk := by unfold mSet mClk; rw [f8]; exact ⟨rfl, rfl⟩
            rw [hsk.1, hsk.2] at hC hm2
            have hr := r.set hok.nd f3 hd
            rw [f4] at hr
            exact ⟨g1, _, le1, hset (.mp kk' _ clk) _ _ ⟨_, rfl, hr, hm2⟩ (below_setX _ _ _) s1 s2, hC⟩
        · exact hB.elim
      · exact hB.elim
def vMakeMap (m : Option (KK × DV)) (r : Option Operand) (S : St) (K : DV → St → Prop) : Prop := r = none ∧ oK m fun p => ∀ l, nin S.acc l → K (.mp l) ⟨S.box, (l, .xo (.mp p.1 [] 0)) :: S.acc⟩
theorem y_makeMap {o : Oper} {t : TypeId} {r : Option Operand} (ho : o.op = .makeMap t r) {ρD : Operand → DV} {S : St} {K : DV → St → Prop} (h : vMakeMap (mpT P t) r S K) : YieldsE P w0 o ρD S K := by
  intro g w ρ h1 h2 hcst
  obtain ⟨rfl, h⟩ := h
  cases hm : mpT P t with
  | none => rw [hm] at h; exact h.elim
  | some p =>
    obtain ⟨kk, zz⟩ := p
    rw [hm] at h
    have hrun : (execOp ρ o).run P w = .ok (.value (.map (some w.heap.size))) (w.alloc (.map #[] 0)) := by
      simp [execOp, ho, Instr.makeMap]
    rw [hrun]
    obtain ⟨l, g', hle, hne, hR, ha⟩ := h1.newX (f := .mp kk [] 0) (below_alloc w (.map #[] 0)) (Nat.le_refl _) (heap_alloc_new w _) ⟨[], rfl, ⟨rfl, fun i e e' h => by simp at h⟩, ⟨fun e he => (by cases he), by simp, by simp, fun e he => (by cases he)⟩⟩
    exact ⟨g', _, _, hle, hR, .mp l _ ha, h l (nin_of hne)⟩
def vDelete (m : Option (KK × DV)) (S : St) (x y : DV) (K : St → Prop) : Prop := oK m fun p => oK (kVal y) fun k => isKey p.1 k = true ∧ (match x with
  | .mp l => (match lk S.acc l with
    | some (.xo (.mp kk es clk)) => kk = p.1 ∧ K ⟨S.box, up S.acc l (.xo (.mp kk (mDel es k) clk))⟩
    | _ => False)
  | _ => False)
theorem y_delete {o : Oper} {t t' : TypeId} {x y : Operand} (ho : o.op = .call { callee := .builtin .delete, args := #[x, y], argTypes := #[t, t'] }) {ρD : Operand → DV} {S : St} {K : DV → St → Prop} (h0 : vDelete (mpT P t) S (ρD x) (ρD y) (K ud)) : YieldsE P w0 o ρD S K := by
  intro g w ρ h1 h2 hcst
  have hx := h2 x (by simp [ho, Op.operands, Call.operands])
  have hy := h2 y (by simp [ho, Op.operands, Call.operands])
  unfold vDelete at h0
  cases hm : mpT P t with
  | none => rw [hm] at h0; exact h0.elim
  | some p =>
    obtain ⟨kk, zz⟩ := p
    rw [hm] at h0
    cases hk : kVal (ρD y) with
    | none => rw [hk] at h0; exact h0.elim
    | some k =>
      rw [hk] at h0
      obtain ⟨hkk, hB⟩ := h0
      have hyk := kVal_rep hk hy
      obtain ⟨kt, et, hu, L, hzd⟩ := mpT_law hm
      simp only at hkk hB
      split at hB
      · rename_i l e
        rw [e] at hx
        obtain ⟨b, hxb, hgb⟩ := rep_mp hx
        split at hB
        · rename_i kk' es clk hl
          obtain ⟨hkke, hC⟩ := hB
          subst hkke
          obtain ⟨b', o', q1, q2, ⟨es', rfl, r, hok⟩, hset⟩ := h1.setX hl
          rw [hgb] at q1; cases q1
          have hg := MapKept.run_getObj_map (P := P) q2
          have hm2 := mDel_ok hok k
          rcases r.found hok L hkk w with ⟨f1, f2⟩ | ⟨j, e, e', f1, f2, f3, f4, f5, f6, f7, f8⟩
          · obtain ⟨s1, s2⟩ := heap_setX (o' := .map es'.toArray clk) q2
            have hrun : (execOp ρ o).run P w = .ok (.value (.tuple #[])) { w with heap := w.heap.setIfInBounds b (.map es'.toArray clk) } := by
              simp [execOp, ho, resolve, invoke, builtin, Builtin.delete_, run_underlying hu, hxb, hyk, hg, L.check _ k w hkk, f1, MapKept.run_setObj_map _ q2]
            rw [hrun]
            have hd : mDel es k = es := by
              unfold mDel
              refine List.filter_eq_self.2 fun e he => ?_
              have := mGet_none.1 f2 e he
              simp [this]
            rw [hd] at hC
            exact ⟨g, _, _, .refl g, hset (.mp kk' es clk) _ _ ⟨_, rfl, r, hok⟩ (below_setX _ _ _) s1 s2, .tup [] [] rfl (by intro i d u h; simp at h), hC⟩
          · obtain ⟨s1, s2⟩ := heap_setX (o' := .map (es'.eraseIdx j).toArray clk) q2
            have hlt : j < es'.length := (List.getElem?_eq_some_iff.1 f2).1
            have her : es'.toArray.eraseIdxIfInBounds j = (es'.eraseIdx j).toArray := by simp
            have hrun : (execOp ρ o).run P w = .ok (.value (.tuple #[])) { w with heap := w.heap.setIfInBounds b (.map (es'.eraseIdx j).toArray clk) } := by
              simp [execOp, ho, resolve, invoke, builtin, Builtin.delete_, run_underlying hu, hxb, hyk, hg, L.check _ k w hkk, f1, MapKept.run_setObj_map _ q2, her]
            rw [hrun]
            have hr := r.erase hok.nd f3
            rw [f4] at hr
            exact ⟨g, _, _, .refl g, hset (.mp kk' _ clk) _ _ ⟨_, rfl, hr, hm2⟩ (below_setX _ _ _) s1 s2, .tup [] [] rfl (by intro i d u h; simp at h), hC⟩
        · exact hB.elim
      · exact hB.elim
/-- Going over a map begins. -/
def vRange (m : Option (KK × DV)) (S : St) (x : DV) (K : DV → St → Prop) : Prop := m.isSome = true ∧ (match x with
  | .mp l => (match lk S.acc l with
    | some (.xo (.mp kk es clk)) => ∀ l', nin S.acc l' → K (.it l') ⟨S.box, (l', .xo (.it l clk [] clk)) :: S.acc⟩
    | _ => False)
  | _ => False)
theorem y_range {o : Oper} {t : TypeId} {x : Operand} (ho : o.op = .range t x) {ρD : Operand → DV} {S : St} {K : DV → St → Prop} (h : vRange (mpT P t) S (ρD x) K) : YieldsE P w0 o ρD S K := by
  intro g w ρ h1 h2 hcst
  have hx := h2 x (by simp [ho, Op.operands])
  obtain ⟨hm, h⟩ := h
  obtain ⟨p, hm⟩ := Option.isSome_iff_exists.1 hm
  obtain ⟨kt, et, hu, L, hzd⟩ := mpT_law (kk := p.1) (z := p.2) hm
  split at h
  · rename_i l e
    rw [e] at hx
    obtain ⟨b, hxb, hgb⟩ := rep_mp hx
    split at h
    · rename_i kk es clk hl
      obtain ⟨b', o', q1, q2, es', rfl, r, hok⟩ := h1.getX hl
      rw [hgb] at q1; cases q1
      have hg := MapKept.run_getObj_map (P := P) q2
      have hrun : (execOp ρ o).run P w = .ok (.value (.pointer (some ⟨w.heap.size, 0, none⟩))) (w.alloc (.mapIter (some b) clk #[] clk)) := by
        simp [execOp, ho, Instr.range, run_underlying hu, hxb, hg]
      rw [hrun]
      obtain ⟨l', g', hle, hne, hR, ha⟩ := h1.newX (f := .it l clk [] clk) (below_alloc w (.mapIter (some b) clk #[] clk)) (Nat.le_refl _) (heap_alloc_new w _) ⟨b, rfl, hgb⟩
      exact ⟨g', _, _, hle, hR, .it l' _ ha, h l' (nin_of hne)⟩
    · exact h.elim
  · exact h.elim
def vNext (S : St) (x : DV) (s : Bool) (K : DV → St → Prop) : Prop := s = false ∧ (match x with
  | .it l => (match lk S.acc l with
    | some (.xo (.it m since seen last)) => (match lk S.acc m with
      | some (.xo (.mp kk es clk)) => clk = since ∧ last = since ∧ ((∀ e, e ∈ es → e.2.2 ∈ seen) → K (.tup [.v (.bool false)]) S) ∧ ∀ e, e ∈ es → e.2.2 ∉ seen → K (.tup [.v (.bool true), kD e.1, e.2.1]) ⟨S.box, up S.acc l (.xo (.it m since (seen ++ [e.2.2]) since))⟩
      | _ => False)
    | _ => False)
  | _ => False)
theorem y_next {o : Oper} {x : Operand} {s : Bool} (ho : o.op = .next x s) {ρD : Operand → DV} {S : St} {K : DV → St → Prop} (h : vNext S (ρD x) s K) : YieldsE P w0 o ρD S K := by
  intro g w ρ h1 h2 hcst
  have hx := h2 x (by simp [ho, Op.operands])
  obtain ⟨rfl, h⟩ := h
  split at h
  · rename_i l e
    rw [e] at hx
    obtain ⟨r0, hxb, hgb⟩ := rep_it hx
    split at h
    · rename_i m since seen last hl
      split at h
      · rename_i kk es clk hlm
        obtain ⟨hc1, hc2, hA, hB⟩ := h
        subst hc1
        have hc3 := hc2.symm
        subst hc3
        obtain ⟨b', o', q1, q2, ⟨bm, rfl, hbm⟩, hset⟩ := h1.setX hl
        rw [hgb] at q1; cases q1
        obtain ⟨b2, o2, p1, p2, es', rfl, r, hok⟩ := h1.getX hlm
        rw [hbm] at p1; cases p1
        have hold : ∀ y ∈ es'.toArray.toList, y.born < clk := fun y hy => by
          obtain ⟨j, hj⟩ := List.mem_iff_getElem?.1 (by simpa using hy)
          obtain ⟨e, he, _, _, h3⟩ := r.get hj
          rw [h3]; exact hok.lt e (List.mem_of_getElem? he)
        rcases run_next_at (P := P) w o.type r0 bm clk clk seen.toArray es'.toArray clk q2 p2 hold (Nat.le_refl _) with ⟨n1, n2⟩ | ⟨e', he', w1, hw1, n2⟩
        · have hrun : (execOp ρ o).run P w = .ok (.value (.tuple #[.bool false])) w := by simp [execOp, ho, hxb, n2]
          rw [hrun]
          refine ⟨g, _, _, .refl g, h1, .tup [.v (.bool false)] [.bool false] rfl (fun i d u a b => by cases i <;> simp at a b; subst a; subst b; exact .v _ rfl), hA fun e he => ?_⟩
          obtain ⟨j, hj⟩ := List.mem_iff_getElem?.1 he
          obtain ⟨e', he', _, _, h3⟩ := r.get' hj
          have hl := Array.eq_empty_of_size_eq_zero n1
          unfold leftOf at hl
          rw [Array.filter_eq_empty_iff] at hl
          have := hl e' (by simpa using List.mem_of_getElem? he')
          rw [← h3]
          simpa using this
        · unfold leftOf at he'
          have he2 : e' ∈ es' ∧ e'.born ∉ seen := by simpa using he'
          obtain ⟨j, hj⟩ := List.mem_iff_getElem?.1 he2.1
          obtain ⟨e, he, k1, k2, k3⟩ := r.get hj
          have hem := List.mem_of_getElem? he
          have hrun : (execOp ρ o).run P w = .ok (.value (.tuple #[.bool true, e'.key, e'.val])) (ChangeMaps.setBlock w1 r0 (.mapIter (some bm) clk (seen.toArray.push e'.born) clk)) := by simp [execOp, ho, hxb, n2]
          rw [hrun]
          have hw : w1.heap = w.heap ∧ Below r0 w (ChangeMaps.setBlock w1 r0 (.mapIter (some bm) clk (seen.toArray.push e'.born) clk)) := by
            rcases hw1 with rfl | rfl
            · exact ⟨rfl, below_setX _ _ _⟩
            · exact ⟨rfl, ((Below.refl r0 w).drew).trans (below_setX w.drew r0 _)⟩
          have hh : ∀ (o' : Obj), (ChangeMaps.setBlock w1 r0 o').heap = w.heap.setIfInBounds r0 o' := fun o' => by show w1.heap.setIfInBounds r0 o' = _; rw [hw.1]
          obtain ⟨s1, s2⟩ := MapKept.heap_set (o' := .mapIter (some bm) clk (seen.toArray.push e'.born) clk) q2
          refine ⟨g, _, _, .refl g, hset (.it m clk (seen ++ [e.2.2]) clk) (.mapIter (some bm) clk (seen.toArray.push e'.born) clk) _ ⟨bm, by rw [k3]; simp, hbm⟩ hw.2 (by rw [hh]; exact s1) (fun i hi => by rw [hh]; exact s2 i hi), ?_, hB e hem (by rw [← k3]; exact he2.2)⟩
          refine .tup [.v (.bool true), kD e.1, e.2.1] [.bool true, e'.key, e'.val] rfl fun i d u a b => ?_
          match i with
          | 0 => simp at a b; subst a; subst b; exact .v _ rfl
          | 1 => simp at a b; subst a; subst b; rw [k1]; exact kD_rep (hok.key e hem)
          | 2 => simp at a b; subst a; subst b; exact k2
          | n + 3 => simp at a
      · exact h.elim
    · exact h.elim
  · exact h.elim
def vEntry (S : St) (x : DV) (K : DV → Prop) : Prop := match x with
  | .it l => (match lk S.acc l with
    | some (.xo (.it m since seen last)) => (match lk S.acc m with
      | some (.xo (.mp kk es clk)) => clk = last ∧ ∃ e, e ∈ es ∧ (∃ s0, seen = s0 ++ [e.2.2]) ∧ K (.tup [kD e.1, e.2.1])
      | _ => False)
    | _ => False)
  | _ => False
theorem y_entry {o : Oper} {x : Operand} (ho : o.op = .entry x) {ρD : Operand → DV} {S : St} {K : DV → St → Prop} (h : vEntry S (ρD x) (K · S)) : YieldsE P w0 o ρD S K := by
  refine y_value fun g w ρ h1 h2 => ?_
  have hx := h2 x (by simp [ho, Op.operands])
  unfold vEntry at h
  split at h
  · rename_i l e
    rw [e] at hx
    obtain ⟨r0, hxb, hgb⟩ := rep_it hx
    split at h
    · rename_i m since seen last hl
      split at h
      · rename_i kk es clk hlm
        obtain ⟨rfl, e, hem, ⟨s0, rfl⟩, hK⟩ := h
        obtain ⟨b', o', q1, q2, bm, rfl, hbm⟩ := h1.getX hl
        rw [hgb] at q1; cases q1
        obtain ⟨b2, o2, p1, p2, es', rfl, r, hok⟩ := h1.getX hlm
        rw [hbm] at p1; cases p1
        obtain ⟨j, hj⟩ := List.mem_iff_getElem?.1 hem
        obtain ⟨e', he', k1, k2, k3⟩ := r.get' hj
        have hbn : (es'.toArray.toList.map (·.born)).Nodup := by
          have : es'.toArray.toList.map (·.born) = es.map (·.2.2) := by
            refine List.ext_getElem? fun i => ?_
            rw [List.getElem?_map, List.getElem?_map]
            simp only
            cases hi : es'[i]? with
            | none =>
              have : es[i]? = none := List.getElem?_eq_none (by rw [r.len]; exact List.getElem?_eq_none_iff.1 hi)
              rw [this]; rfl
            | some y => obtain ⟨z, hz, _, _, h3⟩ := r.get hi; rw [hz]; simp [h3]
          rw [this]; exact hok.bn
        have hrn := run_entry_at (P := P) w r0 bm since s0.toArray es'.toArray clk e' (by rw [q2, k3]; simp) p2 (by simpa using List.mem_of_getElem? he') hbn
        refine ⟨_, .tuple #[e'.key, e'.val], by simp [execOp, ho, hxb, hrn], ?_, hK⟩
        refine .tup [kD e.1, e.2.1] [e'.key, e'.val] rfl fun i d u a b => ?_
        match i with
        | 0 => simp at a b; subst a; subst b; rw [k1]; exact kD_rep (hok.key e hem)
        | 1 => simp at a b; subst a; subst b; exact k2
        | n + 2 => simp at a
      · exact h.elim
    · exact h.elim
  · exact h.elim
end
/- The words as they are reckoned out. -/
def xK (o : Option Ob) (F : KK → List (Value × DV × Nat) → Nat → Prop) : Prop := match o with
  | some (.xo (.mp kk es clk)) => F kk es clk
  | _ => False
def iK (o : Option Ob) (F : Nat → Nat → List Nat → Nat → Prop) : Prop := match o with
  | some (.xo (.it m since seen last)) => F m since seen last
  | _ => False
def goK (o : Option DV) (F : DV → Prop) (G : Prop) : Prop := match o with
  | some d => F d
  | none => G
section
variable (kk : KK) (z : DV) (S : St) (l : Nat) (y : DV)
end
end Aml

namespace Aml
open Go Go.RowKit
set_option linter.unusedVariables false
set_option linter.unusedSimpArgs false
section
variable {P : Program} {w0 : W0}
/-- Cells of which some, from one on, are others. -/
def putL (ds : List DV) (o : Nat) (cs : List DV) : List DV := ds.take o ++ cs ++ ds.drop (o + cs.length)
theorem box_put {g : Gh} {S : St} {w : World} (h : Rel w0 g S w) {b o : Nat} {ds cs : List DV} (hb : lk S.box b = some ds) {vs : List Value} (hr : RepL g cs vs) (h1 : ∀ v, v ∈ vs → v.oneCell' = true) (hle : o + cs.length ≤ ds.length) :
    ∃ w', (storeCells ⟨b, o, none⟩ vs).run P w = .ok () w' ∧ Rel w0 g ⟨up S.box b (putL ds o cs), S.acc⟩ w' := by
  obtain ⟨us, e, hh, hru, hone, hset⟩ := h.setBox (ds' := putL ds o cs) hb
  have hl : vs.length = cs.length := hr.len.symm
  have hul : us.toList.length = ds.length := hru.len.symm
  have hst := run_storeCells_at (P := P) b o e vs 0 us w hh (by simp at hul; omega) h1
  simp only [Nat.add_zero] at hst
  refine ⟨_, hst, hset _ ?_ ?_⟩
  · unfold putL
    rw [List.toList_toArray, hl]
    exact ((hru.take o).append hr).append (hru.drop _)
  · intro u hu
    rw [List.toList_toArray] at hu
    rcases List.mem_append.1 hu with hu | hu
    · rcases List.mem_append.1 hu with hu | hu
      · exact hone u (List.mem_of_mem_take hu)
      · exact h1 u hu
    · exact hone u (List.mem_of_mem_drop hu)
theorem box_get {g : Gh} {S : St} {w : World} (h : Rel w0 g S w) {b o m s : Nat} {ds : List DV} (hb : lk S.box b = some ds) (hle : o + m * s ≤ ds.length) :
    ∃ vs, RepL g ((ds.drop o).take (m * s)) vs ∧ (∀ v, v ∈ vs → v.oneCell' = true) ∧ vs.length = m * s ∧ ∀ w', (∀ p, w'.cell? p = w.cell? p) → ∀ n c, (Builtin.firstCells s m (.slice (some ⟨b, o, none⟩) n c)).run P w' = .ok vs.toArray w' := by
  obtain ⟨_, _, us, e, hh, hru, hone⟩ := h.box_at hb
  have hul : us.toList.length = ds.length := hru.len.symm
  refine ⟨(us.toList.drop o).take (m * s), (hru.drop o).take _, fun v hv => hone v (List.mem_of_mem_drop (List.mem_of_mem_take hv)), by simp at hul ⊢; omega, fun w' hw' n c => ?_⟩
  refine run_firstCells_some (P := P) w' s m _ n c _ (by simp at hul ⊢; omega) fun j v hj => ?_
  rw [List.getElem?_take] at hj
  split at hj
  · rw [List.getElem?_drop] at hj
    rw [hw', add_plain, cells_at hh]
    simpa using hj
  · cases hj
theorem repL_flat {g : Gh} : ∀ {ys : List DV} {us : List Value}, RepL g ys us → (∀ d, d ∈ ys → okE d = true) → RepL g (ys.flatMap cd) (fl us)
  | [], us, h, _ => by
    have : us = [] := List.eq_nil_of_length_eq_zero (by have := h.len; simpa using this.symm)
    subst this; exact RepL.nil g
  | d :: ys, us, h, ho => by
    obtain ⟨u, us', rfl, r1, r2⟩ := h.uncons
    have := (r1.cells (ho d List.mem_cons_self)).append (repL_flat r2 fun x hx => ho x (List.mem_cons_of_mem _ hx))
    simpa [fl] using this
/-- A row in a box. -/
def isRow : DV → Bool
  | .v (.slice (some _) _ _) => true
  | _ => false
/-- 'copy' into a row in a box. -/
def vCopy (k : TK) (S : St) (x y : DV) (K : DV → St → Prop) : Prop := match k, x with
  | .sl e s by' true, .v (.slice (some ⟨b, o, none⟩) n c) => (match lk S.box b with
    | some ds => o + n * s ≤ ds.length ∧ (match y with
      | .v (.slice (some ⟨b2, o2, none⟩) m c2) => (match lk S.box b2 with
        | some es => o2 + m * s ≤ es.length ∧ K (.v (.int .i64 (min m n : Nat))) ⟨up S.box b (putL ds o ((es.drop o2).take (min m n * s))), S.acc⟩
        | none => False)
      | y => contK S y fun s' ys => (s' = s ∨ ys = []) ∧ (∀ d, d ∈ ys → okE d = true) ∧ ys.length ≤ n ∧ K (.v (.int .i64 ys.length)) ⟨up S.box b (putL ds o (ys.flatMap cd)), S.acc⟩)
    | none => False)
  | _, _ => False
theorem y_copy {o : Oper} {t t' : TypeId} {x y : Operand} (ho : o.op = .call { callee := .builtin .copy, args := #[x, y], argTypes := #[t, t'] }) {ρD : Operand → DV} {S : St} {K : DV → St → Prop}
    (h : vCopy (tk P t) S (ρD x) (ρD y) K) : YieldsE P w0 o ρD S K := by
  intro g w ρ h1 h2 hcst
  have hx := h2 x (by simp [ho, Op.operands, Call.operands])
  have hy := h2 y (by simp [ho, Op.operands, Call.operands])
  unfold vCopy at h
  split at h
  · rename_i e s by' b of n c hk hxe
    rw [hxe] at hx
    have hxv := rep_v hx
    obtain ⟨hu, hcs, _, hei⟩ := tk_sl hk
    obtain ⟨ti, z, hi, hz, hzs, hpos⟩ := okEl_spec hei
    have his : ti.size = s := by simpa [Program.cellsOf, hi] using hcs
    split at h
    · rename_i ds hb
      obtain ⟨hle, h⟩ := h
      have fin : ∀ (m k : Nat) (vs : List Value) (cs : List DV), k = min m n → (Builtin.lenOf (ρ y)).run P w = .ok m w → (Builtin.firstCells s k (ρ y)).run P w = .ok vs.toArray w → RepL g cs vs → (∀ v, v ∈ vs → v.oneCell' = true) → vs.length = k * s →
          K (.v (.int .i64 k)) ⟨up S.box b (putL ds of cs), S.acc⟩ →
          match (execOp ρ o).run P w with
          | .ok (.value u) w' => ∃ g' d S', g.le g' ∧ Rel w0 g' S' w' ∧ Rep g' d u ∧ K d S'
          | .ok .skip w' => ∃ g' S', g.le g' ∧ Rel w0 g' S' w' ∧ K ud S'
          | .ok (.enter f args) w' => Calls P f args w' fun e w'' => ∃ r g' d S', e = .returned r ∧ g.le g' ∧ Rel w0 g' S' w'' ∧ Rep g' d r ∧ K d S'
          | .ok (.round l f tmps assign body) w' => ∀ ro, RoundIn (fz ro) 0 P l f tmps assign body w' fun e w'' => ∃ r g' d S', e = .returned r ∧ g.le g' ∧ Rel w0 g' S' w'' ∧ Rep g' d r ∧ K d S'
          | _ => False := by
        intro m k vs cs hkm hl hf hr hone hvl hK
        have hkn : k * s ≤ n * s := Nat.mul_le_mul_right s (by omega)
        obtain ⟨w', e1, e2⟩ := box_put (P := P) h1 hb (o := of) hr hone (by have := hr.len; omega)
        have hmn : Nat.min m n = k := hkm.symm
        have : (execOp ρ o).run P w = .ok (.value (.int .i64 k)) w' := by
          simp [execOp, ho, resolve, invoke, builtin, hxv, Builtin.copy_, run_underlying hu, hl, hmn, Go.sizeOf, typeInfo, hi, his, hf, e1, goInt]
        rw [this]
        exact ⟨g, _, _, .refl g, e2, .v _ rfl, hK⟩
      split at h
      · rename_i b2 o2 m c2 hye
        rw [hye] at hy
        have hyv := rep_v hy
        split at h
        · rename_i es hb2
          obtain ⟨hle2, hK⟩ := h
          have hmn : min m n * s ≤ m * s := Nat.mul_le_mul_right s (Nat.min_le_left _ _)
          obtain ⟨vs, r1, r2, r3, r4⟩ := box_get (P := P) (o := o2) (m := min m n) (s := s) h1 hb2 (by omega)
          exact fin m (min m n) vs _ rfl (by rw [hyv]; rfl) (by rw [hyv]; exact r4 w (fun _ => rfl) m c2) r1 r2 r3 hK
        · exact h.elim
      · obtain ⟨s2, ys, vs, ⟨hs2, hok, hlen, hK⟩, hv, hvz, hv1, hlx, hfx⟩ := cont_ok (P := P) h1 hy h
        have hvz' : ∀ (i : Nat) (u : Value), vs[i]? = some u → u.cells.size = s := by
          rcases hs2 with rfl | rfl
          · exact hvz
          · have : vs = [] := List.eq_nil_of_length_eq_zero hv.len.symm
            subst this; simp
        exact fin ys.length ys.length (fl vs) _ (by omega) (hlx w) (hfx w (fun _ => rfl) s (hs2.imp Eq.symm id)) (repL_flat hv hok) (fl_one hv1) (by rw [fl_length hvz', hv.len]) hK
    · exact h.elim
  · exact h.elim
/-- What is copied. -/
def copyK (S : St) (s : Nat) (ds : List DV) (o b n : Nat) (y : DV) (K : DV → St → Prop) : Prop := match y with
  | .v (.slice (some ⟨b2, o2, none⟩) m c2) => oK (lk S.box b2) fun es => o2 + m * s ≤ es.length ∧ K (.v (.int .i64 (min m n : Nat))) ⟨up S.box b (putL ds o ((es.drop o2).take (min m n * s))), S.acc⟩
  | y => contK S y fun s' ys => (s' = s ∨ ys = []) ∧ (∀ d, d ∈ ys → okE d = true) ∧ ys.length ≤ n ∧ K (.v (.int .i64 ys.length)) ⟨up S.box b (putL ds o (ys.flatMap cd)), S.acc⟩
/-- Cells of zeros. -/
def zeroL (z : DV) (n : Nat) : List DV := (List.replicate n (cd z)).flatten
theorem zeroL_len {z : DV} {s : Nat} (h : (cd z).length = s) (n : Nat) : (zeroL z n).length = n * s := by
  unfold zeroL
  induction n with
  | zero => simp
  | succ n ih => rw [List.replicate_succ, List.flatten_cons, List.length_append, ih, h, Nat.succ_mul]; omega
theorem zeroCells_succ (z : Array Value) (n : Nat) : (Builtin.zeroCells z (n + 1)).toList = z.toList ++ (Builtin.zeroCells z n).toList := by
  apply List.ext_getElem?
  intro k
  simp only [Builtin.zeroCells, Array.toList_map, Array.toList_range, List.getElem?_map]
  rcases Nat.lt_or_ge k z.size with hk | hk
  · rw [List.getElem?_append_left (by simpa using hk), List.getElem?_range (by rw [Nat.succ_mul]; omega)]
    simp [Nat.mod_eq_of_lt hk, hk]
  · rw [List.getElem?_append_right (by simpa using hk)]
    simp only [Array.length_toList, List.getElem?_map]
    rcases Nat.lt_or_ge k ((n + 1) * z.size) with h2 | h2
    · have h3 : k - z.size < n * z.size := by rw [Nat.succ_mul] at h2; omega
      rw [List.getElem?_range h2, List.getElem?_range h3]
      have e : k % z.size = (k - z.size) % z.size := by
        conv => lhs; rw [show k = (k - z.size) + z.size by omega, Nat.add_mod_right]
      simp only [Option.map_some, e]
    · have h3 : n * z.size ≤ k - z.size := by rw [Nat.succ_mul] at h2; omega
      rw [List.getElem?_eq_none (by simpa using h2), List.getElem?_eq_none (by simpa using h3)]
theorem repL_zero {g : Gh} {zd : DV} {z : Value} (hr : Rep g zd z) (hok : okE zd = true) : ∀ n, RepL g (zeroL zd n) (Builtin.zeroCells z.cells n).toList
  | 0 => by simp [zeroL, Builtin.zeroCells]; exact RepL.nil g
  | n + 1 => by
    rw [zeroCells_succ]
    have e : zeroL zd (n + 1) = cd zd ++ zeroL zd n := by unfold zeroL; rw [List.replicate_succ, List.flatten_cons]
    rw [e]
    exact (hr.cells hok).append (repL_zero hr hok n)
/-- 'clear' of a row in a box. -/
def vClear (k : TK) (z : DV) (S : St) (x : DV) (K : DV → St → Prop) : Prop := match k, x with
  | .sl e s by' true, .v (.slice (some ⟨b, o, none⟩) n c) => (match lk S.box b with
    | some ds => okE z = true ∧ o + n * s ≤ ds.length ∧ K ud ⟨up S.box b (putL ds o (zeroL z n)), S.acc⟩
    | none => False)
  | .map _ _, .mp l => (match lk S.acc l with
    | some (.xo (.mp kk es clk)) => K ud ⟨S.box, up S.acc l (.xo (.mp kk [] clk))⟩
    | _ => False)
  | _, _ => False
theorem y_clear {o : Oper} {t : TypeId} {x : Operand} (ho : o.op = .call { callee := .builtin .clear, args := #[x], argTypes := #[t] }) {ρD : Operand → DV} {S : St} {K : DV → St → Prop}
    (h : vClear (tk P t) (zD P (elT P t)) S (ρD x) K) : YieldsE P w0 o ρD S K := by
  intro g w ρ h1 h2 hcst
  have hx := h2 x (by simp [ho, Op.operands, Call.operands])
  unfold vClear at h
  split at h
  · rename_i e s by' b of n c hk hxe
    rw [hxe] at hx
    have hxv := rep_v hx
    obtain ⟨hu, hcs, _, hei⟩ := tk_sl hk
    obtain ⟨ti, z, hi, hz, hzs, hpos⟩ := okEl_spec hei
    have his : ti.size = s := by simpa [Program.cellsOf, hi] using hcs
    have hel : elT P t = e := by simp [elT, hk]
    have hzD : zD P (elT P t) = cv z := by rw [hel]; simp [zD, hi, hz]
    have hrz : Rep g (zD P (elT P t)) z := hzD ▸ rep_cv g z
    split at h
    · rename_i ds hb
      obtain ⟨hok, hle, hK⟩ := h
      have hzl : (cd (zD P (elT P t))).length = s := by
        have := (hrz.cells hok).len
        rw [this]; simp; omega
      obtain ⟨w', e1, e2⟩ := box_put (P := P) h1 hb (o := of) (repL_zero hrz hok n) (zeroCells_one (okEl_one hei hi hz) n) (by rw [zeroL_len hzl]; exact hle)
      have : (execOp ρ o).run P w = .ok (.value (.tuple #[])) w' := by
        cases n with
        | zero =>
          have hz0 : (Builtin.zeroCells z.cells 0).toList = [] := by simp [Builtin.zeroCells]
          rw [hz0] at e1
          simp [storeCells] at e1
          subst e1
          simp [execOp, ho, resolve, invoke, builtin, hxv, Builtin.clear_, run_underlying hu]
        | succ n => simp [execOp, ho, resolve, invoke, builtin, hxv, Builtin.clear_, run_underlying hu, zeroValue, typeInfo, hi, hz, e1]
      rw [this]
      exact ⟨g, _, _, .refl g, e2, rep_ud g, hK⟩
    · exact h.elim
  · rename_i kt et l hk hxe
    rw [hxe] at hx
    obtain ⟨b, hxb, hgb⟩ := rep_mp hx
    have hu : P.underlying t = some (.map kt et) := by unfold tk at hk; split at hk <;> (try split at hk) <;> (try cases hk) <;> assumption
    split at h
    · rename_i kk es clk hl
      obtain ⟨b', o', q1, q2, ⟨es', rfl, r, hok⟩, hset⟩ := h1.setX hl
      rw [hgb] at q1; cases q1
      have hg := MapKept.run_getObj_map (P := P) q2
      obtain ⟨s1, s2⟩ := heap_setX (o' := .map #[] clk) q2
      have hrun : (execOp ρ o).run P w = .ok (.value (.tuple #[])) { w with heap := w.heap.setIfInBounds b (.map #[] clk) } := by
        simp [execOp, ho, resolve, invoke, builtin, Builtin.clear_, run_underlying hu, hxb, hg, MapKept.run_setObj_map _ q2]
      rw [hrun]
      exact ⟨g, _, _, .refl g, hset (.mp kk [] clk) _ _ ⟨[], rfl, ⟨rfl, fun i e e' h => by simp at h⟩, ⟨fun e he => (by cases he), by simp, by simp, fun e he => (by cases he)⟩⟩ (below_setX _ _ _) s1 s2, rep_ud g, h⟩
    · exact h.elim
  · exact h.elim
end
end Aml

namespace Aml
open Go Go.RowKit
set_option linter.unusedVariables false
set_option linter.unusedSimpArgs false
section
variable {P : Program} {w0 : W0}
/-- What is put behind. -/
def rowsK (S : St) (s : Nat) (y : DV) (F : Nat → List DV → Prop) : Prop := match y with
  | .v (.slice (some ⟨b, o, none⟩) m c) => (match lk S.box b with
    | some es => o + m * s ≤ es.length ∧ F m ((es.drop o).take (m * s))
    | none => False)
  | y => contK S y fun s' ys => (s' = s ∨ ys = []) ∧ (∀ d, d ∈ ys → okE d = true) ∧ F ys.length (ys.flatMap cd)
theorem rows_ok {g : Gh} {S : St} {w : World} {s : Nat} {y : DV} {v : Value} {F : Nat → List DV → Prop} (h1 : Rel w0 g S w) (hy : Rep g y v) (h : rowsK S s y F) :
    ∃ m cs vs, F m cs ∧ RepL g cs vs ∧ (∀ u, u ∈ vs → u.oneCell' = true) ∧ vs.length = m * s ∧ (∀ w', (Builtin.lenOf v).run P w' = .ok m w') ∧ ∀ w', (∀ p, w'.cell? p = w.cell? p) → (Builtin.firstCells s m v).run P w' = .ok vs.toArray w' := by
  unfold rowsK at h
  split at h
  · rename_i b o m c
    have hyv := rep_v hy
    subst hyv
    split at h
    · rename_i es hb
      obtain ⟨hle, hF⟩ := h
      obtain ⟨vs, r1, r2, r3, r4⟩ := box_get (P := P) (o := o) (m := m) (s := s) h1 hb hle
      exact ⟨m, _, vs, hF, r1, r2, r3, fun w' => rfl, fun w' hw' => r4 w' hw' m c⟩
    · exact h.elim
  · obtain ⟨s2, ys, vs, ⟨hs2, hok, hF⟩, hv, hvz, hv1, hlx, hfx⟩ := cont_ok (P := P) h1 hy h
    have hvz' : ∀ (i : Nat) (u : Value), vs[i]? = some u → u.cells.size = s := by
      rcases hs2 with rfl | rfl
      · exact hvz
      · have : vs = [] := List.eq_nil_of_length_eq_zero hv.len.symm
        subst this; simp
    exact ⟨ys.length, _, fl vs, hF, repL_flat hv hok, fl_one hv1, by rw [fl_length hvz', hv.len], hlx, fun w' hw' => hfx w' hw' s (hs2.imp Eq.symm id)⟩
/-- 'append' to a row in a box. -/
def vAppC (k k2 : TK) (S : St) (x y : DV) (K : DV → St → Prop) : Prop := match k, x with
  | .sl e s by' true, .v (.slice (some ⟨b, o, none⟩) n c) => (match lk S.box b with
    | some ds => notInt k2 = true ∧ o + c * s ≤ ds.length ∧ n ≤ c ∧ rowsK S s y fun m cs =>
      (n + m ≤ c → K (.v (.slice (some ⟨b, o, none⟩) (n + m) c)) ⟨up S.box b (putL ds (o + n * s) cs), S.acc⟩) ∧
      (c < n + m → (n + m) * by' ≤ 140737488355328 ∧ n + m ≤ maxLen ∧ ∀ C, n + m ≤ C → C ≤ maxLen → ∀ b2, nin S.box b2 →
        K (.v (.slice (some ⟨b2, 0, none⟩) (n + m) C)) ⟨(b2, (ds.drop o).take (n * s) ++ cs ++ List.replicate ((C - (n + m)) * s) .any) :: S.box, S.acc⟩)
    | none => False)
  | _, _ => False
theorem repL_anyR (g : Gh) (us : List Value) : RepL g (List.replicate us.length .any) us := ⟨by simp, fun i d u a _ => by
  rw [List.getElem?_replicate] at a
  split at a
  · cases a; exact .any u
  · cases a⟩
theorem y_appC {o : Oper} {t t' : TypeId} {x y : Operand} (ho : o.op = .call { callee := .builtin .append, args := #[x, y], argTypes := #[t, t'] }) {ρD : Operand → DV} {S : St} {K : DV → St → Prop}
    (h : vAppC (tk P t) (tk P t') S (ρD x) (ρD y) K) : YieldsE P w0 o ρD S K := by
  intro g w ρ h1 h2 hcst
  have hx := h2 x (by simp [ho, Op.operands, Call.operands])
  have hy := h2 y (by simp [ho, Op.operands, Call.operands])
  unfold vAppC at h
  split at h
  · rename_i e s by' b of n c hk hxe
    rw [hxe] at hx
    have hxv := rep_v hx
    obtain ⟨hu, hcs, hbs, hei⟩ := tk_sl hk
    obtain ⟨ti, z, hi, hz, hzs, hpos⟩ := okEl_spec hei
    have his : ti.size = s := by simpa [Program.cellsOf, hi] using hcs
    have hib : ti.bytes = by' := by simpa [Program.bytesOf, hi] using hbs
    split at h
    · rename_i ds hb
      obtain ⟨hni, hle, hnc, h⟩ := h
      obtain ⟨d', hu', hd'⟩ := tk_notInt hni
      obtain ⟨m, cs, vs, ⟨hfit, hgrow⟩, r1, r2, r3, r4, r5⟩ := rows_ok (P := P) h1 hy h
      have hx' : (Builtin.firstCells ti.size m (ρ y)).run P w = .ok vs.toArray w := by rw [his]; exact r5 w fun _ => rfl
      rcases Nat.lt_or_ge c (n + m) with hcm | hcm
      · obtain ⟨hby, hmx, hK⟩ := hgrow hcm
        have hns : of + n * s ≤ ds.length := by have := Nat.mul_le_mul_right s hnc; omega
        obtain ⟨os, q1, q2, q3, q4⟩ := box_get (P := P) (o := of) (m := n) (s := s) h1 hb hns
        have hr := app_grow (w := w) (ty := o.type) (base := some ⟨b, of, none⟩) (n := n) (c := c) hu hu' hd' hi hz (r4 w) (by rw [his]; exact q4 w.drew (fun _ => rfl) n c) (by rw [his]; exact r5 w.drew fun _ => rfl) hcm hmx (by rw [hib]; exact hby)
        have hcap := grownCap_ge w (n + m) c e
        have hcmx := grownCap_le_maxLen w (n + m) c e hmx
        generalize grownCap w (n + m) c e = C at *
        have hzl : (Builtin.zeroCells z.cells (C - (n + m))).toList.length = (C - (n + m)) * s := by rw [Array.length_toList, size_zeroCells, hzs, his]
        obtain ⟨hne, hR⟩ := h1.newBox (w' := w.drew.alloc (.cells (os.toArray ++ vs.toArray ++ Builtin.zeroCells z.cells (C - (n + m))) e)) ((Below.refl _ _).drew.alloc (by simp) _) (b := w.heap.size) (Nat.le_refl _) (heap_alloc_new w.drew _)
          (ds := (ds.drop of).take (n * s) ++ cs ++ List.replicate ((C - (n + m)) * s) .any)
          (by
            simp only [Array.toList_append, List.toList_toArray]
            rw [← hzl]
            exact (q1.append r1).append (repL_anyR g _))
          (by
            intro u hu
            simp only [Array.toList_append, List.mem_append, List.toList_toArray] at hu
            rcases hu with (hu | hu) | hu
            · exact q2 u hu
            · exact r2 u hu
            · exact zeroCells_one (okEl_one hei hi hz) _ u hu)
        have : (execOp ρ o).run P w = .ok (.value (.slice (some ⟨w.heap.size, 0, none⟩) (n + m) C)) (w.drew.alloc (.cells (os.toArray ++ vs.toArray ++ Builtin.zeroCells z.cells (C - (n + m))) e)) := by
          simp [execOp, ho, resolve, invoke, builtin, hxv, hr]
        rw [this]
        exact ⟨g, _, _, .refl g, hR, .v _ rfl, hK C hcap hcmx _ (nin_of hne)⟩
      · have hK := hfit hcm
        have hroom : of + n * s + cs.length ≤ ds.length := by
          have h3 := Nat.mul_le_mul_right s hcm
          rw [Nat.add_mul] at h3
          have := r1.len
          omega
        obtain ⟨w', e1, e2⟩ := box_put (P := P) h1 hb (o := of + n * s) r1 r2 hroom
        have hr := app_fit (w := w) (ty := o.type) (base := some ⟨b, of, none⟩) (n := n) (c := c) hu hu' hd' hi (r4 w) hx' hcm
        simp only [add_plain, his, e1] at hr
        have : (execOp ρ o).run P w = .ok (.value (.slice (some ⟨b, of, none⟩) (n + m) c)) w' := by
          simp [execOp, ho, resolve, invoke, builtin, hxv, hr]
        rw [this]
        exact ⟨g, _, _, .refl g, e2, .v _ rfl, hK⟩
    · exact h.elim
  · exact h.elim
/-- 'append' of so many zeros to a row in a box, where there is no room. -/
def vAppZ (k : TK) (z : DV) (S : St) (x y : DV) (K : DV → St → Prop) : Prop := match k, x, y with
  | .sl e s by' true, .v (.slice (some ⟨b, o, none⟩) n c), .v (.int _ m) => (match lk S.box b with
    | some ds => okE z = true ∧ o + c * s ≤ ds.length ∧ n ≤ c ∧ 0 < m ∧ c < n + m.toNat ∧ (n + m.toNat) * by' ≤ 140737488355328 ∧ n + m.toNat ≤ maxLen ∧ ∀ C, n + m.toNat ≤ C → C ≤ maxLen → ∀ b2, nin S.box b2 →
        K (.v (.slice (some ⟨b2, 0, none⟩) (n + m.toNat) C)) ⟨(b2, (ds.drop o).take (n * s) ++ zeroL z m.toNat ++ List.replicate ((C - (n + m.toNat)) * s) .any) :: S.box, S.acc⟩
    | none => False)
  | _, _, _ => False
theorem app_growZ {w : World} {t t' ty e : TypeId} {k' : IntKind} {i : TypeInfo} {z : Value} (ht : P.underlying t = some (.slice e)) (ht' : P.underlying t' = some (.int k')) (hi : P.info? e = some i) (hz : i.zero = some z) (hpos : 0 < i.size)
    {base : Option Addr} {k : IntKind} {n c m : Nat} {old : Array Value} (ho : (Builtin.firstCells i.size n (.slice base n c)).run P w.drew = .ok old w.drew) (h0 : 0 < m) (hg : c < n + m) (h63 : n + m ≤ maxLen) (hby : (n + m) * i.bytes ≤ 140737488355328) :
    (Builtin.append_ #[t, t'] ty #[.slice base n c, .int k m]).run P w = .ok (.slice (some ⟨w.heap.size, 0, none⟩) (n + m) (grownCap w (n + m) c e))
      (w.drew.alloc (.cells (old ++ Builtin.zeroCells z.cells m ++ Builtin.zeroCells z.cells (grownCap w (n + m) c e - (n + m))) e)) := by
  have hw : IntKind.i64.wrap (m : Int) = m := w64 (by omega) (by unfold maxLen at h63; omega)
  have c1 : ¬ ((m : Int) < 0) := by omega
  have hmb : m * i.bytes ≤ 140737488355328 := by rw [Nat.add_mul] at hby; omega
  have hbi : (m : Int) * i.bytes ≤ 140737488355328 := by rw [← Int.natCast_mul]; omega
  have c2 : ¬ (281474976710656 < (m : Int) * (i.bytes : Int)) := by omega
  have c3 : ¬ (m * i.size = 0) := by
    intro h
    rcases Nat.mul_eq_zero.1 h with h | h <;> omega
  have c4 : ¬ (9223372036854775807 < ((n : Int) + (m : Int))) := by unfold maxLen at h63; omega
  have hfit := growslice_fits (need := n + m) (old := c) (bytes := i.bytes) hg hby
  have c5 : ¬ (281474976710656 < Builtin.nextslicecap (n + m) c * i.bytes) := by omega
  have c6 : ¬ (n + m ≤ c) := by omega
  have c7 : ¬ (i.size = 0) := by omega
  have c8 : ¬ (m = 0) := by omega
  simp [Builtin.append_, run_underlying ht, run_underlying ht', Go.sizeOf, typeInfo, hi, zeroValue, hz, asInt, asIntOf, hw, c1, c2, c3, c4, c5, c6, c7, c8, ho, Question.forced, newRow, grownCap]
theorem y_appZ {o : Oper} {t t' : TypeId} {x y : Operand} {k' : IntKind} (ho : o.op = .call { callee := .builtin .append, args := #[x, y], argTypes := #[t, t'] }) (hk' : tk P t' = .int k') {ρD : Operand → DV} {S : St} {K : DV → St → Prop}
    (h : vAppZ (tk P t) (zD P (elT P t)) S (ρD x) (ρD y) K) : YieldsE P w0 o ρD S K := by
  intro g w ρ h1 h2 hcst
  have hx := h2 x (by simp [ho, Op.operands, Call.operands])
  have hy := h2 y (by simp [ho, Op.operands, Call.operands])
  have hut' := tk_int hk'
  unfold vAppZ at h
  split at h
  · rename_i e s by' b of n c kk m hk hxe hye
    rw [hxe] at hx
    rw [hye] at hy
    have hxv := rep_v hx
    have hyv := rep_v hy
    obtain ⟨hu, hcs, hbs, hei⟩ := tk_sl hk
    obtain ⟨ti, z, hi, hz, hzs, hpos⟩ := okEl_spec hei
    have his : ti.size = s := by simpa [Program.cellsOf, hi] using hcs
    have hib : ti.bytes = by' := by simpa [Program.bytesOf, hi] using hbs
    have hel : elT P t = e := by simp [elT, hk]
    have hzD : zD P (elT P t) = cv z := by rw [hel]; simp [zD, hi, hz]
    have hrz : Rep g (zD P (elT P t)) z := hzD ▸ rep_cv g z
    split at h
    · rename_i ds hb
      obtain ⟨hok, hle, hnc, hm0, hcm, hby, hmx, hK⟩ := h
      obtain ⟨M, rfl⟩ := Int.eq_ofNat_of_zero_le (Int.le_of_lt hm0)
      simp only [Int.toNat_natCast] at *
      have hns : of + n * s ≤ ds.length := by have := Nat.mul_le_mul_right s hnc; omega
      obtain ⟨os, q1, q2, q3, q4⟩ := box_get (P := P) (o := of) (m := n) (s := s) h1 hb hns
      have hr := app_growZ (w := w) (ty := o.type) (k := kk) (base := some ⟨b, of, none⟩) (n := n) (c := c) (m := M) hu hut' hi hz hpos (by rw [his]; exact q4 w.drew (fun _ => rfl) n c) (by omega) hcm hmx (by rw [hib]; exact hby)
      have hcap := grownCap_ge w (n + M) c e
      have hcmx := grownCap_le_maxLen w (n + M) c e hmx
      generalize grownCap w (n + M) c e = C at *
      have hzl : (Builtin.zeroCells z.cells (C - (n + M))).toList.length = (C - (n + M)) * s := by rw [Array.length_toList, size_zeroCells, hzs, his]
      obtain ⟨hne, hR⟩ := h1.newBox (w' := w.drew.alloc (.cells (os.toArray ++ Builtin.zeroCells z.cells M ++ Builtin.zeroCells z.cells (C - (n + M))) e)) ((Below.refl _ _).drew.alloc (by simp) _) (b := w.heap.size) (Nat.le_refl _) (heap_alloc_new w.drew _)
        (ds := (ds.drop of).take (n * s) ++ zeroL (zD P (elT P t)) M ++ List.replicate ((C - (n + M)) * s) .any)
        (by
          simp only [Array.toList_append, List.toList_toArray]
          rw [← hzl]
          exact (q1.append (repL_zero hrz hok M)).append (repL_anyR g _))
        (by
          intro u hu
          simp only [Array.toList_append, List.mem_append, List.toList_toArray] at hu
          rcases hu with (hu | hu) | hu
          · exact q2 u hu
          · exact zeroCells_one (okEl_one hei hi hz) _ u hu
          · exact zeroCells_one (okEl_one hei hi hz) _ u hu)
      have : (execOp ρ o).run P w = .ok (.value (.slice (some ⟨w.heap.size, 0, none⟩) (n + M) C)) (w.drew.alloc (.cells (os.toArray ++ Builtin.zeroCells z.cells M ++ Builtin.zeroCells z.cells (C - (n + M))) e)) := by
        simp [execOp, ho, resolve, invoke, builtin, hxv, hyv, hr]
      rw [this]
      exact ⟨g, _, _, .refl g, hR, .v _ rfl, hK C hcap hcmx _ (nin_of hne)⟩
    · exact h.elim
  · exact h.elim
end
end Aml

namespace Aml
open Go Go.RowKit
set_option linter.unusedVariables false
set_option linter.unusedSimpArgs false
def vAggEq (o : Option (List FK)) (op : BinOp) (la : List DV) (y : DV) (K : DV → Prop) : Prop := match o, y, op with
  | some ks, .agg bs, .eql => aggK ks la bs true fun r => K (.v (.bool r))
  | some ks, .agg bs, .neq => aggK ks la bs true fun r => K (.v (.bool !r))
  | _, _, _ => False
def vBinA (P : Program) (op : BinOp) (t : TypeId) (cx cy : Bool) (x y : DV) (K : DV → Prop) : Prop := match x with
  | .agg la => vAggEq (eqK P t) op la y K
  | x => vBin op (tk P t) cx cy x y K
section
variable {P : Program} {w0 : W0}
theorem y_binA {o : Oper} {op : BinOp} {t t' : TypeId} {x y : Operand} (ho : o.op = .binOp op t x y t') {ρD : Operand → DV} {S : St} {K : DV → St → Prop} (h : vBinA P op t (isC x) (isC y) (ρD x) (ρD y) (K · S)) : YieldsE P w0 o ρD S K := by
  unfold vBinA at h
  split at h
  · rename_i la hx0
    refine y_value fun g w ρ h1 h2 => ?_
    have hx := h2 x (by simp [ho, Op.operands])
    have hy := h2 y (by simp [ho, Op.operands])
    rw [hx0] at hx
    obtain ⟨us, e1, hru, hu1⟩ := rep_agg hx
    unfold vAggEq at h
    have fin : ∀ {ks : List FK} {bs : List DV} {F : Bool → Prop}, eqK P t = some ks → ρD y = .agg bs → aggK ks la bs true F → ∃ (vs : List Value) (q : Bool), ρ y = .agg vs.toArray ∧ (∀ op, (eqGuard op t x y (.agg us.toArray) (.agg vs.toArray)).run P w = .ok () w) ∧ (Op.equalIn 10000 t (.agg us.toArray) (.agg vs.toArray)).run P w = .ok q w ∧ F q := by
      intro ks bs F he hyb hk
      rw [hyb] at hy
      obtain ⟨vs, e2, hrv, hv1⟩ := rep_agg hy
      unfold eqK at he
      split at he
      · rename_i fs hst
        split at he
        · rename_i hc
          simp only [Bool.and_eq_true, Bool.not_eq_true'] at hc
          have hfo : P.underlying t = some (.struct (P.fieldsOf t)) := by unfold Program.fieldsOf; rw [hst]
          obtain ⟨q, r1, r2⟩ := aggK_ok (P := P) (w := w) (d := 9998) (us := us) (vs := vs) (P.fieldsOf t).toList he (by rw [List.drop_zero]; exact hru) (by rw [List.drop_zero]; exact hrv) hk
          rw [Bool.true_and] at r2
          exact ⟨vs, q, e2, fun op => run_eqGuard_agg w op t x y _ _ hc.2, by rw [run_equalIn_struct w 9999 t _ _ hfo hc.1]; exact r1, r2⟩
        · cases he
      · cases he
    split at h
    · rename_i ks bs he hyb
      obtain ⟨vs, q, e2, hg, hq, hF⟩ := fin he hyb h
      exact ⟨_, .bool q, by simp [execOp, ho, e1, e2, hg, run_eql_struct w t, hq], .v _ rfl, hF⟩
    · rename_i ks bs he hyb
      obtain ⟨vs, q, e2, hg, hq, hF⟩ := fin he hyb h
      exact ⟨_, .bool !q, by simp [execOp, ho, e1, e2, hg, run_neq_struct w t, hq], .v _ rfl, hF⟩
    · exact h.elim
  · exact y_binOp ho h
end
theorem q_binA_v (P : Program) (op : BinOp) (t : TypeId) (cx cy : Bool) (u : Value) (y : DV) (K : DV → Prop) : vBinA P op t cx cy (.v u) y K = vBin op (tk P t) cx cy (.v u) y K := rfl
theorem q_binA_agg (P : Program) (op : BinOp) (t : TypeId) (cx cy : Bool) (la : List DV) (y : DV) (K : DV → Prop) : vBinA P op t cx cy (.agg la) y K = vAggEq (eqK P t) op la y K := rfl
theorem q_aggN (ks : List FK) (la bs : List DV) (K : DV → Prop) : vAggEq (some ks) .neq la (.agg bs) K = aggK ks la bs true fun r => K (.v (.bool !r)) := rfl
theorem q_aggK_nil (r : Bool) (F : Bool → Prop) : aggK [] [] [] r F = F r := rfl
theorem q_aggK_i (k k1 k2 : IntKind) (m n : Int) (ks : List FK) (la bs : List DV) (r : Bool) (F : Bool → Prop) : aggK (.int k :: ks) (.v (.int k1 m) :: la) (.v (.int k2 n) :: bs) r F = (k1 = k ∧ k2 = k ∧ aggK ks la bs (r && decide (m = n)) F) := rfl
theorem q_aggK_s (a b : ByteArray) (ks : List FK) (la bs : List DV) (r : Bool) (F : Bool → Prop) : aggK (.str :: ks) (.v (.string a) :: la) (.v (.string b) :: bs) r F = aggK ks la bs (r && decide (a.data.toList = b.data.toList)) F := rfl
theorem q_aggK_b (a b : Bool) (ks : List FK) (la bs : List DV) (r : Bool) (F : Bool → Prop) : aggK (.bool :: ks) (.v (.bool a) :: la) (.v (.bool b) :: bs) r F = aggK ks la bs (r && (a == b)) F := rfl
end Aml

namespace Aml
open Go Go.RowKit
set_option linter.unusedVariables false
set_option linter.unusedSimpArgs false

/-- What the reckoning leaves as it is. -/
class Cn (α : Type) where
  k : α
def AC (P : Program) (w0 : W0) (f : FuncId) (ds : List DV) (S : St) [K : Cn (DV → St → Prop)] : Prop := ACall P w0 f ds S K.k
def hasAcc : List DV → Bool
  | [] => false
  | .acc _ _ :: _ => true
  | _ :: ds => hasAcc ds
/-- Arguments are shared, or, where one grows, handed as they are. -/
def callK (S : St) (ds : List DV) (F : List DV → St → Prop) : Prop := match hasAcc ds with
  | true => F ds S ∨ shrs S ds F
  | false => shrs S ds F
def YC (P : Program) (w0 : W0) (l : Nat) (ds : List DV) (S : St) [K : Cn (DV → St → Prop)] : Prop := YCall P w0 l ds S K.k
/-- A call of a function without a body: the model's own entry. -/
def XC (P : Program) (w0 : W0) (f : FuncId) (ds : List DV) (S : St) [K : Cn (DV → St → Prop)] : Prop :=
  ∀ g w (us : List Value), Rel w0 g S w → RepL g ds us → ∃ v w' g' d S', (callFunc f us.toArray).run P w = .ok (.value v) w' ∧ g.le g' ∧ Rel w0 g' S' w' ∧ Rep g' d v ∧ K.k d S'
def gX (b : Bool) (A B : Prop) : Prop := match b with
  | true => A
  | false => B
theorem gX_t (A B : Prop) : gX true A B = A := rfl
theorem gX_f (A B : Prop) : gX false A B = B := rfl
@[congr] theorem c_gX {b b' : Bool} {A B : Prop} (h : b = b') : gX b A B = gX b' A B := by rw [h]
/-- A call of a function value. -/
def vCall (P : Program) (w0 : W0) (cal : DV) (ds : List DV) (S : St) (K : DV → St → Prop) : Prop := match cal with
  | .v (.func (.func f) a cap) => a.size = 0 ∧ cap.toList.all (fun u => u.oneCell') = true ∧ gX (okF P f) (callK S ds fun ds S => @AC P w0 f (ds ++ cap.toList.map .v) S ⟨K⟩) (@XC P w0 f (ds ++ cap.toList.map .v) S ⟨K⟩)
  | .v (.func (.yield l) a cap) => a.size = 0 ∧ cap.size = 0 ∧ shrs S ds fun ds S => @YC P w0 l ds S ⟨K⟩
  | _ => False

def intK : TK → Bool
  | .int _ => true
  | _ => false
theorem intK_spec {k : TK} (h : intK k = true) : ∃ k', k = .int k' := by cases k <;> first | exact ⟨_, rfl⟩ | cases h
/-- What an operation asks. -/
def vcOp (P : Program) (w0 : W0) (op : Op) (fr : List DV) (S : St) (K : DV → St → Prop) : Prop := match op with
  | .move x => K (ev fr x) S
  | .assign x => K (ev fr x) S
  | .pick c a b => vPick (ev fr c) (ev fr a) (ev fr b) (K · S)
  | .load t x => vLoad (tk P t) S (ev fr x) (K · S)
  | .fieldAddr t x f => vField (tk P t) f (ev fr x) (K · S)
  | .indexAddr t x i => vIndexAddr (tk P t) (ev fr x) (ev fr i) (K · S)
  | .index t x i => vIndex (tk P t) (ev fr x) (ev fr i) (K · S)
  | .field t x f => vFieldV (tk P t) f (ev fr x) (K · S)
  | .extract x i => vExtract i (ev fr x) (K · S)
  | .nilCheck x => notNil (ev fr x) = true ∧ K (ev fr x) S
  | .binOp b t x y _ => (match isNilC y with
    | true => vNilEq b (tk P t) (ev fr x) (K · S)
    | false => vBinA P b t (isC x) (isC y) (ev fr x) (ev fr y) (K · S))
  | .unOp b _ x => vUn b (ev fr x) (K · S)
  | .convert s d x => vConvS (tk P s) (tk P d) (tk P (elT P s)) S (ev fr x) (K · S)
  | .makeInterface t x => isIfc (tk P t) = false ∧ shr S (ev fr x) fun d S => K (.ifc t d) S
  | .typeAssert x _ t ok => vAssert P t ok (ev fr x) (K · S)
  | .build t parts => shrs S (parts.toList.map fun p => ev fr p.2) fun ds S => vBuild P t ((parts.toList.map (·.1)).zip ds) (K · S)
  | .buildSlice t len parts => shrs S (parts.toList.map fun p => ev fr p.2) fun ds S => vBuildSlice (tk P t) (zD P (elT P t)) len ((parts.toList.map (·.1)).zip ds) (K · S)
  | .makeFunc fn a b => vFunc fn (a.toList.map (ev fr)) (b.toList.map (ev fr)) (K · S)
  | .slice t x lo hi mx => (mx.isSome = true → hi.isSome = true) ∧ vSliceX (tk P t) S (ev fr x) (lo.map (ev fr)) (hi.map (ev fr)) (mx.map (ev fr)) K
  | .box _ x => okE (ev fr x) = true ∧ ∀ b, nin S.box b → K (.v (.pointer (some ⟨b, 0, none⟩))) ⟨(b, cd (ev fr x)) :: S.box, S.acc⟩
  | .alloc t => okE (zD P t) = true ∧ ∀ b, nin S.box b → K (.v (.pointer (some ⟨b, 0, none⟩))) ⟨(b, cd (zD P t)) :: S.box, S.acc⟩
  | .store t x y => (P.info? t).isSome = true ∧ vStoreX (P.cellsOf t) S (ev fr x) (ev fr y) (K ud)
  | .makeSlice t x y => vMakeSlice (tk P t) (zD P (elT P t)) (ev fr x) (ev fr y) S K
  | .lookup t x y ok => vLookup (mpT P t) S (ev fr x) (ev fr y) ok (K · S)
  | .mapUpdate t x y z => vMapUpd (mpT P t) S (ev fr x) (ev fr y) (ev fr z) (K ud)
  | .makeMap t r => vMakeMap (mpT P t) r S K
  | .range t x => vRange (mpT P t) S (ev fr x) K
  | .next x s => vNext S (ev fr x) s K
  | .entry x => vEntry S (ev fr x) (K · S)
  | .call c => match c.callee with
    | .builtin .len => (match c.args.toList, c.argTypes.toList with
      | [x], [t] => vLen (tk P t) (ev fr x) (K · S)
      | _, _ => False)
    | .builtin .cap => (match c.args.toList, c.argTypes.toList with
      | [x], [t] => vCap (tk P t) (ev fr x) (K · S)
      | _, _ => False)
    | .builtin .append => (match c.args.toList, c.argTypes.toList with
      | [x, y], [t, t'] => (match isRow (ev fr x) with
        | true => (match intK (tk P t') with
          | true => vAppZ (tk P t) (zD P (elT P t)) S (ev fr x) (ev fr y) K
          | false => vAppC (tk P t) (tk P t') S (ev fr x) (ev fr y) K)
        | false => (match intK (tk P t') with
          | true => vAppInt (tk P t) (zD P (elT P t)) S (ev fr x) (ev fr y) K
          | false => vAppend (tk P t) (tk P t') S (ev fr x) (ev fr y) K))
      | _, _ => False)
    | .builtin .copy => (match c.args.toList, c.argTypes.toList with
      | [x, y], [t, t'] => vCopy (tk P t) S (ev fr x) (ev fr y) K
      | _, _ => False)
    | .builtin .clear => (match c.args.toList, c.argTypes.toList with
      | [x], [t] => vClear (tk P t) (zD P (elT P t)) S (ev fr x) K
      | _, _ => False)
    | .builtin .delete => (match c.args.toList, c.argTypes.toList with
      | [x, y], [t, t'] => vDelete (mpT P t) S (ev fr x) (ev fr y) (K ud)
      | _, _ => False)
    | .builtin .min => (match c.args.toList with
      | [x, y] => vMin (ev fr x) (ev fr y) (K · S)
      | _ => False)
    | .builtin .max => (match c.args.toList with
      | [x, y] => vMax (ev fr x) (ev fr y) (K · S)
      | _ => False)
    | .value cal => vCall P w0 (ev fr cal) (c.args.toList.map (ev fr)) S K
    | _ => False
  | _ => False

/-- Bounds of a slice are not the slice itself. -/
def okSl : Op → Bool
  | .slice _ x lo hi mx => (match lo with | some y => !sameO y x | none => true) && (match hi with | some y => !sameO y x | none => true) && (match mx with | some y => !sameO y x | none => true)
  | _ => true
where sameO : Operand → Operand → Bool
  | .tmp a, .tmp b => a == b
  | .const _, .const _ => true
  | .global _, .global _ => true
  | .func _, .func _ => true
  | _, _ => false

section
variable {P : Program} {w0 : W0}

theorem arr_of {α : Type} {a : Array α} {l : List α} (h : a.toList = l) : a = l.toArray := by rw [← h]
theorem sameO_ne {y x : Operand} (h : okSl.sameO y x = false) : y ≠ x := by
  rintro rfl
  cases y <;> simp [okSl.sameO] at h

theorem y_callX {o : Oper} {f : FuncId} {args : List Operand} {ts : Array TypeId} {cal : Operand} (ho : o.op = .call { callee := .value cal, args := args.toArray, argTypes := ts }) {ρD : Operand → DV} {S : St} {K : DV → St → Prop}
    {cap : List Value} (hcal : ρD cal = .v (.func (.func f) #[] cap.toArray)) (h : @XC P w0 f (args.map ρD ++ cap.map .v) S ⟨K⟩) (hcap : ∀ u, u ∈ cap → u.oneCell' = true) : YieldsE P w0 o ρD S K := by
  intro g w ρ h1 h2 hcst
  have hc := h2 cal (by simp [ho, Op.operands, Call.operands])
  rw [hcal] at hc
  have hv := rep_v hc
  have hargs := repL_of_opsA (g := g) (ρD := ρD) (ρ := ρ) args (fun p hp => h2 p (by simp [ho, Op.operands, Call.operands, hp]))
  have hcapR : RepL g (cap.map .v) cap := ⟨by simp, fun i d u a1 a2 => by
    simp only [List.getElem?_map, Option.map_eq_some_iff] at a1
    obtain ⟨u', a1, rfl⟩ := a1
    rw [a2] at a1; cases a1
    exact .v _ (hcap _ (List.mem_of_getElem? a2))⟩
  obtain ⟨v, w', g', d, S', q1, q2, q3, q4, q5⟩ := h g w ((args.map ρ) ++ cap) h1 (hargs.append hcapR)
  have hrun : (execOp ρ o).run P w = .ok (.value v) w' := by
    rw [← q1]
    simp [execOp, ho, resolve, hv, Deferred.ofValue, invoke]
  rw [hrun]
  exact ⟨g', d, S', q2, q3, q4, q5⟩
theorem vcOp_sound {o : Oper} {fr : List DV} {S : St} {K : DV → St → Prop} (hs : okSl o.op = true) (h : vcOp P w0 o.op fr S K) : YieldsE P w0 o (ev fr) S K := by
  cases hop : o.op with
  | move x => rw [hop] at h; exact y_move hop h
  | assign x => rw [hop] at h; exact y_assign hop h
  | pick c a b => rw [hop] at h; exact y_pick hop h
  | load t x => rw [hop] at h; exact y_load hop h
  | fieldAddr t x f => rw [hop] at h; exact y_fieldAddr hop h
  | indexAddr t x i => rw [hop] at h; exact y_indexAddr hop h
  | index t x i => rw [hop] at h; exact y_index hop h
  | field t x f => rw [hop] at h; exact y_fieldV hop h
  | extract x i => rw [hop] at h; exact y_extract hop h
  | nilCheck x => rw [hop] at h; exact y_nilCheck hop h
  | binOp b t x y t' =>
    rw [hop] at h
    simp only [vcOp] at h
    cases hq : isNilC y with
    | true => rw [hq] at h; exact y_nilEq hop hq h
    | false => rw [hq] at h; exact y_binA hop h
  | unOp b t x => rw [hop] at h; exact y_unOp hop h
  | convert s d x => rw [hop] at h; exact y_convS hop h
  | makeInterface t x => rw [hop] at h; exact y_makeIfcS hop h
  | typeAssert x t' t ok => rw [hop] at h; exact y_assert hop h
  | build t parts => rw [hop] at h; exact y_buildS (parts := parts.toList) (by simpa using hop) h
  | buildSlice t len parts => rw [hop] at h; exact y_buildSliceS (parts := parts.toList) (by simpa using hop) h
  | makeFunc fn a b => rw [hop] at h; exact y_makeFunc (a := a.toList) (b := b.toList) (by simpa using hop) h
  | slice t x lo hi mx =>
    rw [hop] at h hs
    simp only [okSl, Bool.and_eq_true] at hs
    obtain ⟨⟨s1, s2⟩, s3⟩ := hs
    refine y_sliceX hop h.1 ⟨?_, ?_, ?_⟩ h.2
    · rintro rfl; simp only [Bool.not_eq_true'] at s1; exact sameO_ne s1 rfl
    · rintro rfl; simp only [Bool.not_eq_true'] at s2; exact sameO_ne s2 rfl
    · rintro rfl; simp only [Bool.not_eq_true'] at s3; exact sameO_ne s3 rfl
  | box t x => rw [hop] at h; exact y_box hop h
  | alloc t => rw [hop] at h; exact y_alloc hop h
  | store t x y => rw [hop] at h; exact y_storeX hop h.1 h.2
  | makeSlice t x y => rw [hop] at h; exact y_makeSlice hop h
  | lookup t x y ok => rw [hop] at h; exact y_lookup hop h
  | mapUpdate t x y z => rw [hop] at h; exact y_mapUpdate hop h
  | makeMap t r => rw [hop] at h; exact y_makeMap hop h
  | range t x => rw [hop] at h; exact y_range hop h
  | next x s => rw [hop] at h; exact y_next hop h
  | entry x => rw [hop] at h; exact y_entry hop h
  | call c =>
    rw [hop] at h
    obtain ⟨callee, args, ts⟩ := c
    simp only [vcOp] at h
    split at h
    · split at h
      · rename_i x t e1 e2
        exact y_len (x := x) (t := t) (by rw [hop, arr_of e1, arr_of e2]) h
      · exact h.elim
    · split at h
      · rename_i x t e1 e2
        exact y_cap (x := x) (t := t) (by rw [hop, arr_of e1, arr_of e2]) h
      · exact h.elim
    · split at h
      · rename_i x y t t' e1 e2
        cases hrow : isRow (ev fr x) with
        | true =>
          rw [hrow] at h
          cases hq : intK (tk P t') with
          | true =>
            rw [hq] at h
            obtain ⟨k', hk'⟩ := intK_spec hq
            exact y_appZ (x := x) (y := y) (t := t) (t' := t') (by rw [hop, arr_of e1, arr_of e2]) hk' h
          | false =>
            rw [hq] at h
            exact y_appC (x := x) (y := y) (t := t) (t' := t') (by rw [hop, arr_of e1, arr_of e2]) h
        | false =>
          rw [hrow] at h
          cases hq : intK (tk P t') with
          | true =>
            rw [hq] at h
            obtain ⟨k', hk'⟩ := intK_spec hq
            exact y_appInt (x := x) (y := y) (t := t) (t' := t') (by rw [hop, arr_of e1, arr_of e2]) hk' h
          | false =>
            rw [hq] at h
            exact y_append (x := x) (y := y) (t := t) (t' := t') (by rw [hop, arr_of e1, arr_of e2]) h
      · exact h.elim
    · split at h
      · rename_i x y t t' e1 e2
        exact y_copy (x := x) (y := y) (t := t) (t' := t') (by rw [hop, arr_of e1, arr_of e2]) h
      · exact h.elim
    · split at h
      · rename_i x t e1 e2
        exact y_clear (x := x) (t := t) (by rw [hop, arr_of e1, arr_of e2]) h
      · exact h.elim
    · split at h
      · rename_i x y t t' e1 e2
        exact y_delete (x := x) (y := y) (t := t) (t' := t') (by rw [hop, arr_of e1, arr_of e2]) h
      · exact h.elim
    · split at h
      · rename_i x y e1
        exact y_min (x := x) (y := y) (ts := ts) (by rw [hop, arr_of e1]) h
      · exact h.elim
    · split at h
      · rename_i x y e1
        exact y_max (x := x) (y := y) (ts := ts) (by rw [hop, arr_of e1]) h
      · exact h.elim
    · rename_i cal
      unfold vCall at h
      split at h
      · rename_i f a cap hcal
        obtain ⟨ha, hcap, h⟩ := h
        have ha' : a = #[] := by apply Array.eq_empty_of_size_eq_zero ha
        subst ha'
        cases hf : okF P f with
        | false =>
          rw [hf] at h
          exact y_callX (args := args.toList) (cal := cal) (cap := cap.toList) (ts := ts) (by simpa using hop) (by simpa using hcal) h (List.all_eq_true.1 hcap)
        | true => ?_
        rw [hf] at h
        simp only [gX] at h
        refine y_callF (args := args.toList) (cal := cal) (cap := cap.toList) (ts := ts) (by simpa using hop) (by simpa using hcal) hf ?_ (List.all_eq_true.1 hcap)
        unfold callK at h
        split at h
        · exact h
        · exact .inr h
      · rename_i l a cap hcal
        obtain ⟨ha, hcap, h⟩ := h
        have ha' : a = #[] := by apply Array.eq_empty_of_size_eq_zero ha
        have hc' : cap = #[] := by apply Array.eq_empty_of_size_eq_zero hcap
        subst ha'; subst hc'
        exact y_yield (args := args.toList) (cal := cal) (ts := ts) (by simpa using hop) hcal h
      · exact h.elim
    · exact h.elim
  | _ => rw [hop] at h; exact h.elim

/-- A list of operations. -/
def vcL (P : Program) (w0 : W0) (ops : Array Oper) (K : List DV → St → Prop) : List Oper → List DV → St → Prop
  | [], fr, S => K fr S
  | o :: rest, fr, S => guardK ops fr o.guard (fun fr => vcOp P w0 o.op fr S fun d S' => vcL P w0 ops K rest (pt fr o.dst d) S') (fun fr => vcL P w0 ops K rest (pt fr o.dst ud) S)

theorem guardK_mono {ops : Array Oper} {fr : List DV} {gd : Option (Nat × Bool)} {A B A' B' : List DV → Prop} (ha : ∀ fr, A fr → A' fr) (hb : ∀ fr, B fr → B' fr) (h : guardK ops fr gd A B) : guardK ops fr gd A' B' := by
  unfold guardK at *
  split at h
  · exact ha _ h
  · split at h
    · exact hb _ h
    · split at h
      · exact ⟨fun e => ha _ (h.1 e), fun e => hb _ (h.2 e)⟩
      · exact hb _ h
      · exact h
theorem yields_mono {o : Oper} {ρD : Operand → DV} {S : St} {K K' : DV → St → Prop} (hk : ∀ d S, K d S → K' d S) (h : YieldsE P w0 o ρD S K) : YieldsE P w0 o ρD S K' := by
  intro g w ρ h1 h2 hcst
  have := h g w ρ h1 h2 hcst
  split at this
  · obtain ⟨g', d, S', a, b, c, e⟩ := this; exact ⟨g', d, S', a, b, c, hk _ _ e⟩
  · obtain ⟨g', S', a, b, e⟩ := this; exact ⟨g', S', a, b, hk _ _ e⟩
  · exact this.mono fun e w'' ⟨r, g', d, S', a, b, c, x, y⟩ => ⟨r, g', d, S', a, b, c, x, hk _ _ y⟩
  · exact fun ro => (this ro).mono fun e w'' ⟨r, g', d, S', a, b, c, x, y⟩ => ⟨r, g', d, S', a, b, c, x, hk _ _ y⟩
  · exact this
theorem vcL_sound {ops : Array Oper} {K : List DV → St → Prop} : ∀ (l : List Oper) {fr : List DV} {S : St}, l.all (fun o => okSl o.op) = true → vcL P w0 ops K l fr S → LWp P w0 ops K l fr S
  | [], fr, S, _, h => h
  | o :: rest, fr, S, hs, h => by
    simp only [List.all_cons, Bool.and_eq_true] at hs
    refine guardK_mono (fun fr h => ?_) (fun fr h => vcL_sound rest hs.2 h) h
    exact yields_mono (fun d S h => vcL_sound rest hs.2 h) (vcOp_sound hs.1 h)

theorem condD_mono {d : DV} {A B A' B' : Prop} (ha : A → A') (hb : B → B') (h : condD d A B) : condD d A' B' := by
  unfold condD at *
  split at h
  · exact ⟨fun e => ha (h.1 e), fun e => hb (h.2 e)⟩
  · exact h
end
end Aml

namespace Go.Proofs.YtfieabidajilmaaGreat
open Aml
@[go_sem] theorem ty.k1 : tk Tryz.prog 1 = .fn := by kernel_rfl
@[go_sem] theorem ty.z1 : zD Tryz.prog 1 = .v .nilFunc := by kernel_rfl
@[go_sem] theorem ty.c1 : Tryz.prog.cellsOf 1 = 1 := by kernel_rfl
@[go_sem] theorem ty.i1 : (Tryz.prog.info? 1).isSome = true := by kernel_rfl
@[go_sem] theorem ty.k2 : tk Tryz.prog 2 = .int .i64 := by kernel_rfl
@[go_sem] theorem ty.z2 : zD Tryz.prog 2 = .v (.int .i64 0) := by kernel_rfl
@[go_sem] theorem ty.c2 : Tryz.prog.cellsOf 2 = 1 := by kernel_rfl
@[go_sem] theorem ty.i2 : (Tryz.prog.info? 2).isSome = true := by kernel_rfl
@[go_sem] theorem ty.k3 : tk Tryz.prog 3 = .int .i64 := by kernel_rfl
@[go_sem] theorem ty.z3 : zD Tryz.prog 3 = .v (.int .i64 0) := by kernel_rfl
@[go_sem] theorem ty.c3 : Tryz.prog.cellsOf 3 = 1 := by kernel_rfl
@[go_sem] theorem ty.i3 : (Tryz.prog.info? 3).isSome = true := by kernel_rfl
@[go_sem] theorem ty.k4 : tk Tryz.prog 4 = .one := by kernel_rfl
@[go_sem] theorem ty.z4 : zD Tryz.prog 4 = .v (.bool false) := by kernel_rfl
@[go_sem] theorem ty.c4 : Tryz.prog.cellsOf 4 = 1 := by kernel_rfl
@[go_sem] theorem ty.i4 : (Tryz.prog.info? 4).isSome = true := by kernel_rfl
@[go_sem] theorem ty.k5 : tk Tryz.prog 5 = .int .u8 := by kernel_rfl
@[go_sem] theorem ty.z5 : zD Tryz.prog 5 = .v (.int .u8 0) := by kernel_rfl
@[go_sem] theorem ty.c5 : Tryz.prog.cellsOf 5 = 1 := by kernel_rfl
@[go_sem] theorem ty.i5 : (Tryz.prog.info? 5).isSome = true := by kernel_rfl
@[go_sem] theorem ty.z6 : zD Tryz.prog 6 = .v (.int .u8 0) := by kernel_rfl
@[go_sem] theorem ty.c6 : Tryz.prog.cellsOf 6 = 1 := by kernel_rfl
@[go_sem] theorem ty.q7 : eqK Tryz.prog 7 = some [.int .i64, .int .i64, .bool, .int .u8] := by kernel_rfl
@[go_sem] theorem ty.c7 : Tryz.prog.cellsOf 7 = 4 := by kernel_rfl
@[go_sem] theorem ty.q8 : eqK Tryz.prog 8 = some [.int .i64, .int .i64, .bool, .int .u8] := by kernel_rfl
@[go_sem] theorem ty.c8 : Tryz.prog.cellsOf 8 = 4 := by kernel_rfl
@[go_sem] theorem ty.k9 : tk Tryz.prog 9 = .str := by kernel_rfl
@[go_sem] theorem ty.z9 : zD Tryz.prog 9 = .v (.string ByteArray.empty) := by kernel_rfl
@[go_sem] theorem ty.c9 : Tryz.prog.cellsOf 9 = 1 := by kernel_rfl
@[go_sem] theorem ty.i9 : (Tryz.prog.info? 9).isSome = true := by kernel_rfl
@[go_sem] theorem ty.k25 : tk Tryz.prog 25 = .sl 9 1 16 true := by kernel_rfl
@[go_sem] theorem ty.e25 : elT Tryz.prog 25 = 9 := by kernel_rfl
@[go_sem] theorem ty.z25 : zD Tryz.prog 25 = .sl 0 true [] := by kernel_rfl
@[go_sem] theorem ty.c25 : Tryz.prog.cellsOf 25 = 1 := by kernel_rfl
@[go_sem] theorem ty.i25 : (Tryz.prog.info? 25).isSome = true := by kernel_rfl
@[go_sem] theorem ty.k26 : tk Tryz.prog 26 = .sl 157 2 40 true := by kernel_rfl
@[go_sem] theorem ty.e26 : elT Tryz.prog 26 = 157 := by kernel_rfl
@[go_sem] theorem ty.z26 : zD Tryz.prog 26 = .sl 0 true [] := by kernel_rfl
@[go_sem] theorem ty.c26 : Tryz.prog.cellsOf 26 = 1 := by kernel_rfl
@[go_sem] theorem ty.i26 : (Tryz.prog.info? 26).isSome = true := by kernel_rfl
@[go_sem] theorem ty.k27 : tk Tryz.prog 27 = .sl 29 5 88 true := by kernel_rfl
@[go_sem] theorem ty.e27 : elT Tryz.prog 27 = 29 := by kernel_rfl
@[go_sem] theorem ty.z27 : zD Tryz.prog 27 = .sl 0 true [] := by kernel_rfl
@[go_sem] theorem ty.c27 : Tryz.prog.cellsOf 27 = 1 := by kernel_rfl
@[go_sem] theorem ty.i27 : (Tryz.prog.info? 27).isSome = true := by kernel_rfl
@[go_sem] theorem ty.z28 : zD Tryz.prog 28 = .agg [.v (.int .i64 0), .v (.bool false), .sl 0 true [], .sl 0 true [], .sl 0 true []] := by kernel_rfl
@[go_sem] theorem ty.k29 : tk Tryz.prog 29 = .st [(0, 1, false), (1, 1, false), (2, 1, false), (3, 1, false), (4, 1, false)] 5 := by kernel_rfl
@[go_sem] theorem ty.z29 : zD Tryz.prog 29 = .agg [.v (.int .i64 0), .v (.bool false), .sl 0 true [], .sl 0 true [], .sl 0 true []] := by kernel_rfl
@[go_sem] theorem ty.c29 : Tryz.prog.cellsOf 29 = 5 := by kernel_rfl
@[go_sem] theorem ty.i29 : (Tryz.prog.info? 29).isSome = true := by kernel_rfl
@[go_sem] theorem ty.k30 : tk Tryz.prog 30 = .sl 97 6 104 true := by kernel_rfl
@[go_sem] theorem ty.e30 : elT Tryz.prog 30 = 97 := by kernel_rfl
@[go_sem] theorem ty.c30 : Tryz.prog.cellsOf 30 = 1 := by kernel_rfl
@[go_sem] theorem ty.i30 : (Tryz.prog.info? 30).isSome = true := by kernel_rfl
@[go_sem] theorem ty.k32 : tk Tryz.prog 32 = .st [(0, 5, true), (5, 1, false)] 6 := by kernel_rfl
@[go_sem] theorem ty.z32 : zD Tryz.prog 32 = .agg [.v (.int .i64 0), .v (.bool false), .sl 0 true [], .sl 0 true [], .sl 0 true [], .sl 0 true []] := by kernel_rfl
@[go_sem] theorem ty.c32 : Tryz.prog.cellsOf 32 = 6 := by kernel_rfl
@[go_sem] theorem ty.i32 : (Tryz.prog.info? 32).isSome = true := by kernel_rfl
@[go_sem] theorem ty.k34 : tk Tryz.prog 34 = .sl 124 4 80 true := by kernel_rfl
@[go_sem] theorem ty.e34 : elT Tryz.prog 34 = 124 := by kernel_rfl
@[go_sem] theorem ty.c34 : Tryz.prog.cellsOf 34 = 1 := by kernel_rfl
@[go_sem] theorem ty.i34 : (Tryz.prog.info? 34).isSome = true := by kernel_rfl
@[go_sem] theorem ty.k36 : tk Tryz.prog 36 = .st [(0, 1, false), (1, 1, false), (2, 1, false)] 3 := by kernel_rfl
@[go_sem] theorem ty.z36 : zD Tryz.prog 36 = .agg [.v (.int .i64 0), .v (.bool false), .sl 0 true []] := by kernel_rfl
@[go_sem] theorem ty.c36 : Tryz.prog.cellsOf 36 = 3 := by kernel_rfl
@[go_sem] theorem ty.i36 : (Tryz.prog.info? 36).isSome = true := by kernel_rfl
@[go_sem] theorem ty.k37 : tk Tryz.prog 37 = .sl 81 4 56 true := by kernel_rfl
@[go_sem] theorem ty.e37 : elT Tryz.prog 37 = 81 := by kernel_rfl
@[go_sem] theorem ty.c37 : Tryz.prog.cellsOf 37 = 1 := by kernel_rfl
@[go_sem] theorem ty.i37 : (Tryz.prog.info? 37).isSome = true := by kernel_rfl
@[go_sem] theorem ty.k39 : tk Tryz.prog 39 = .st [(0, 3, true), (3, 1, false)] 4 := by kernel_rfl
@[go_sem] theorem ty.z39 : zD Tryz.prog 39 = .agg [.v (.int .i64 0), .v (.bool false), .sl 0 true [], .sl 0 true []] := by kernel_rfl
@[go_sem] theorem ty.c39 : Tryz.prog.cellsOf 39 = 4 := by kernel_rfl
@[go_sem] theorem ty.i39 : (Tryz.prog.info? 39).isSome = true := by kernel_rfl
@[go_sem] theorem ty.z51 : zD Tryz.prog 51 = .v .nilFunc := by kernel_rfl
@[go_sem] theorem ty.k64 : tk Tryz.prog 64 = .sl 128 4 48 true := by kernel_rfl
@[go_sem] theorem ty.i64 : (Tryz.prog.info? 64).isSome = true := by kernel_rfl
@[go_sem] theorem ty.k69 : tk Tryz.prog 69 = .sl 3 1 8 true := by kernel_rfl
@[go_sem] theorem ty.e69 : elT Tryz.prog 69 = 3 := by kernel_rfl
@[go_sem] theorem ty.z69 : zD Tryz.prog 69 = .sl 0 true [] := by kernel_rfl
@[go_sem] theorem ty.c69 : Tryz.prog.cellsOf 69 = 1 := by kernel_rfl
@[go_sem] theorem ty.i69 : (Tryz.prog.info? 69).isSome = true := by kernel_rfl
@[go_sem] theorem ty.k72 : tk Tryz.prog 72 = .sl 85 2 32 true := by kernel_rfl
@[go_sem] theorem ty.e72 : elT Tryz.prog 72 = 85 := by kernel_rfl
@[go_sem] theorem ty.k74 : tk Tryz.prog 74 = .st [(0, 1, false), (1, 1, false), (2, 1, false)] 3 := by kernel_rfl
@[go_sem] theorem ty.z74 : zD Tryz.prog 74 = .agg [.v (.int .i64 0), .sl 0 true [], .sl 0 true []] := by kernel_rfl
@[go_sem] theorem ty.c74 : Tryz.prog.cellsOf 74 = 3 := by kernel_rfl
@[go_sem] theorem ty.i74 : (Tryz.prog.info? 74).isSome = true := by kernel_rfl
@[go_sem] theorem ty.k81 : tk Tryz.prog 81 = .st [(0, 1, false), (1, 3, true)] 4 := by kernel_rfl
@[go_sem] theorem ty.z81 : zD Tryz.prog 81 = .agg [.v (.string ByteArray.empty), .v (.int .i64 0), .v (.bool false), .sl 0 true []] := by kernel_rfl
@[go_sem] theorem ty.k83 : tk Tryz.prog 83 = .int .u64 := by kernel_rfl
@[go_sem] theorem ty.k85 : tk Tryz.prog 85 = .st [(0, 1, false), (1, 1, false)] 2 := by kernel_rfl
@[go_sem] theorem ty.z85 : zD Tryz.prog 85 = .agg [.v (.int .u64 0), .sl 0 true []] := by kernel_rfl
@[go_sem] theorem ty.c85 : Tryz.prog.cellsOf 85 = 2 := by kernel_rfl
@[go_sem] theorem ty.i85 : (Tryz.prog.info? 85).isSome = true := by kernel_rfl
@[go_sem] theorem ty.k97 : tk Tryz.prog 97 = .st [(0, 1, false), (1, 5, true)] 6 := by kernel_rfl
@[go_sem] theorem ty.z97 : zD Tryz.prog 97 = .agg [.v (.string ByteArray.empty), .v (.int .i64 0), .v (.bool false), .sl 0 true [], .sl 0 true [], .sl 0 true []] := by kernel_rfl
@[go_sem] theorem ty.c97 : Tryz.prog.cellsOf 97 = 6 := by kernel_rfl
@[go_sem] theorem ty.i97 : (Tryz.prog.info? 97).isSome = true := by kernel_rfl
@[go_sem] theorem ty.k110 : tk Tryz.prog 110 = .sl 5 1 1 true := by kernel_rfl
@[go_sem] theorem ty.e110 : elT Tryz.prog 110 = 5 := by kernel_rfl
@[go_sem] theorem ty.k121 : tk Tryz.prog 121 = .st [(0, 1, false), (1, 1, false)] 2 := by kernel_rfl
@[go_sem] theorem ty.z121 : zD Tryz.prog 121 = .agg [.v (.string ByteArray.empty), .sl 0 true []] := by kernel_rfl
@[go_sem] theorem ty.c121 : Tryz.prog.cellsOf 121 = 2 := by kernel_rfl
@[go_sem] theorem ty.i121 : (Tryz.prog.info? 121).isSome = true := by kernel_rfl
@[go_sem] theorem ty.k122 : tk Tryz.prog 122 = .sl 36 3 40 true := by kernel_rfl
@[go_sem] theorem ty.e122 : elT Tryz.prog 122 = 36 := by kernel_rfl
@[go_sem] theorem ty.c122 : Tryz.prog.cellsOf 122 = 1 := by kernel_rfl
@[go_sem] theorem ty.i122 : (Tryz.prog.info? 122).isSome = true := by kernel_rfl
@[go_sem] theorem ty.k124 : tk Tryz.prog 124 = .st [(0, 1, false), (1, 2, true), (3, 1, false)] 4 := by kernel_rfl
@[go_sem] theorem ty.z124 : zD Tryz.prog 124 = .agg [.v (.string ByteArray.empty), .v (.string ByteArray.empty), .sl 0 true [], .sl 0 true []] := by kernel_rfl
@[go_sem] theorem ty.c124 : Tryz.prog.cellsOf 124 = 4 := by kernel_rfl
@[go_sem] theorem ty.i124 : (Tryz.prog.info? 124).isSome = true := by kernel_rfl
@[go_sem] theorem ty.k128 : tk Tryz.prog 128 = .st [(0, 1, false), (1, 1, false), (2, 1, false), (3, 1, false)] 4 := by kernel_rfl
@[go_sem] theorem ty.z128 : zD Tryz.prog 128 = .agg [.v (.int .i64 0), .v (.string ByteArray.empty), .v (.string ByteArray.empty), .v (.int .i64 0)] := by kernel_rfl
@[go_sem] theorem ty.c128 : Tryz.prog.cellsOf 128 = 4 := by kernel_rfl
@[go_sem] theorem ty.i128 : (Tryz.prog.info? 128).isSome = true := by kernel_rfl
@[go_sem] theorem ty.z131 : zD Tryz.prog 131 = .v .nilFunc := by kernel_rfl
@[go_sem] theorem ty.k139 : tk Tryz.prog 139 = .sl 69 1 24 true := by kernel_rfl
@[go_sem] theorem ty.e139 : elT Tryz.prog 139 = 69 := by kernel_rfl
@[go_sem] theorem ty.z139 : zD Tryz.prog 139 = .sl 0 true [] := by kernel_rfl
@[go_sem] theorem ty.c139 : Tryz.prog.cellsOf 139 = 1 := by kernel_rfl
@[go_sem] theorem ty.i139 : (Tryz.prog.info? 139).isSome = true := by kernel_rfl
@[go_sem] theorem ty.k157 : tk Tryz.prog 157 = .st [(0, 1, false), (1, 1, false)] 2 := by kernel_rfl
@[go_sem] theorem ty.z157 : zD Tryz.prog 157 = .agg [.v (.string ByteArray.empty), .sl 0 true []] := by kernel_rfl
@[go_sem] theorem ty.c157 : Tryz.prog.cellsOf 157 = 2 := by kernel_rfl
@[go_sem] theorem ty.i157 : (Tryz.prog.info? 157).isSome = true := by kernel_rfl
@[go_sem] theorem ty.k175 : tk Tryz.prog 175 = .sl 249 2 24 true := by kernel_rfl
@[go_sem] theorem ty.e175 : elT Tryz.prog 175 = 249 := by kernel_rfl
@[go_sem] theorem ty.c175 : Tryz.prog.cellsOf 175 = 1 := by kernel_rfl
@[go_sem] theorem ty.i175 : (Tryz.prog.info? 175).isSome = true := by kernel_rfl
@[go_sem] theorem ty.k178 : tk Tryz.prog 178 = .fn := by kernel_rfl
@[go_sem] theorem ty.z178 : zD Tryz.prog 178 = .v .nilFunc := by kernel_rfl
@[go_sem] theorem ty.c178 : Tryz.prog.cellsOf 178 = 1 := by kernel_rfl
@[go_sem] theorem ty.i178 : (Tryz.prog.info? 178).isSome = true := by kernel_rfl
@[go_sem] theorem ty.k181 : tk Tryz.prog 181 = .int .u64 := by kernel_rfl
@[go_sem] theorem ty.z182 : zD Tryz.prog 182 = .v .nilFunc := by kernel_rfl
@[go_sem] theorem ty.z183 : zD Tryz.prog 183 = .v .nilFunc := by kernel_rfl
@[go_sem] theorem ty.k198 : tk Tryz.prog 198 = .st [(0, 1, false), (1, 1, false)] 2 := by kernel_rfl
@[go_sem] theorem ty.z198 : zD Tryz.prog 198 = .agg [.sl 0 true [], .sl 0 true []] := by kernel_rfl
@[go_sem] theorem ty.k214 : tk Tryz.prog 214 = .sl 221 5 56 true := by kernel_rfl
@[go_sem] theorem ty.e214 : elT Tryz.prog 214 = 221 := by kernel_rfl
@[go_sem] theorem ty.c214 : Tryz.prog.cellsOf 214 = 1 := by kernel_rfl
@[go_sem] theorem ty.i214 : (Tryz.prog.info? 214).isSome = true := by kernel_rfl
@[go_sem] theorem ty.k216 : tk Tryz.prog 216 = .st [(0, 1, false), (1, 1, false)] 2 := by kernel_rfl
@[go_sem] theorem ty.z216 : zD Tryz.prog 216 = .agg [.v (.bool false), .sl 0 true []] := by kernel_rfl
@[go_sem] theorem ty.c216 : Tryz.prog.cellsOf 216 = 2 := by kernel_rfl
@[go_sem] theorem ty.i216 : (Tryz.prog.info? 216).isSome = true := by kernel_rfl
@[go_sem] theorem ty.z218 : zD Tryz.prog 218 = .agg [.v (.string ByteArray.empty), .v (.bool false), .v (.int .i64 0), .v (.int .i64 0)] := by kernel_rfl
@[go_sem] theorem ty.k219 : tk Tryz.prog 219 = .st [(0, 1, false), (1, 1, false), (2, 1, false), (3, 1, false)] 4 := by kernel_rfl
@[go_sem] theorem ty.q219 : eqK Tryz.prog 219 = some [.str, .bool, .int .i64, .int .i64] := by kernel_rfl
@[go_sem] theorem ty.z219 : zD Tryz.prog 219 = .agg [.v (.string ByteArray.empty), .v (.bool false), .v (.int .i64 0), .v (.int .i64 0)] := by kernel_rfl
@[go_sem] theorem ty.c219 : Tryz.prog.cellsOf 219 = 4 := by kernel_rfl
@[go_sem] theorem ty.i219 : (Tryz.prog.info? 219).isSome = true := by kernel_rfl
@[go_sem] theorem ty.k221 : tk Tryz.prog 221 = .st [(0, 1, false), (1, 4, true)] 5 := by kernel_rfl
@[go_sem] theorem ty.z221 : zD Tryz.prog 221 = .agg [.v (.string ByteArray.empty), .v (.string ByteArray.empty), .v (.bool false), .v (.int .i64 0), .v (.int .i64 0)] := by kernel_rfl
@[go_sem] theorem ty.c221 : Tryz.prog.cellsOf 221 = 5 := by kernel_rfl
@[go_sem] theorem ty.i221 : (Tryz.prog.info? 221).isSome = true := by kernel_rfl
@[go_sem] theorem ty.z222 : zD Tryz.prog 222 = .v .nilFunc := by kernel_rfl
@[go_sem] theorem ty.z229 : zD Tryz.prog 229 = .v .nilFunc := by kernel_rfl
@[go_sem] theorem ty.k234 : tk Tryz.prog 234 = .int .u32 := by kernel_rfl
@[go_sem] theorem ty.k236 : tk Tryz.prog 236 = .sl 27 1 24 true := by kernel_rfl
@[go_sem] theorem ty.e236 : elT Tryz.prog 236 = 27 := by kernel_rfl
@[go_sem] theorem ty.k238 : tk Tryz.prog 238 = .sl 25 1 24 true := by kernel_rfl
@[go_sem] theorem ty.e238 : elT Tryz.prog 238 = 25 := by kernel_rfl
@[go_sem] theorem ty.k240 : tk Tryz.prog 240 = .sl 26 1 24 true := by kernel_rfl
@[go_sem] theorem ty.e240 : elT Tryz.prog 240 = 26 := by kernel_rfl
@[go_sem] theorem ty.k249 : tk Tryz.prog 249 = .st [(0, 1, false), (1, 1, false)] 2 := by kernel_rfl
@[go_sem] theorem ty.z249 : zD Tryz.prog 249 = .agg [.v (.int .i64 0), .v (.string ByteArray.empty)] := by kernel_rfl
@[go_sem] theorem ty.f0 : okF Tryz.prog 0 = false := by kernel_rfl
@[go_sem] theorem ty.f1 : okF Tryz.prog 1 = false := by kernel_rfl
@[go_sem] theorem ty.f2 : okF Tryz.prog 2 = true := by kernel_rfl
@[go_sem] theorem ty.f3 : okF Tryz.prog 3 = true := by kernel_rfl
@[go_sem] theorem ty.f4 : okF Tryz.prog 4 = true := by kernel_rfl
@[go_sem] theorem ty.f5 : okF Tryz.prog 5 = true := by kernel_rfl
@[go_sem] theorem ty.f6 : okF Tryz.prog 6 = true := by kernel_rfl
@[go_sem] theorem ty.f7 : okF Tryz.prog 7 = true := by kernel_rfl
@[go_sem] theorem ty.f8 : okF Tryz.prog 8 = true := by kernel_rfl
@[go_sem] theorem ty.f9 : okF Tryz.prog 9 = true := by kernel_rfl
@[go_sem] theorem ty.f10 : okF Tryz.prog 10 = true := by kernel_rfl
@[go_sem] theorem ty.f11 : okF Tryz.prog 11 = true := by kernel_rfl
@[go_sem] theorem ty.f12 : okF Tryz.prog 12 = true := by kernel_rfl
@[go_sem] theorem ty.f14 : okF Tryz.prog 14 = true := by kernel_rfl
@[go_sem] theorem ty.f15 : okF Tryz.prog 15 = true := by kernel_rfl
@[go_sem] theorem ty.f17 : okF Tryz.prog 17 = true := by kernel_rfl
@[go_sem] theorem ty.f19 : okF Tryz.prog 19 = true := by kernel_rfl
@[go_sem] theorem ty.f27 : okF Tryz.prog 27 = true := by kernel_rfl
@[go_sem] theorem ty.f28 : okF Tryz.prog 28 = true := by kernel_rfl
@[go_sem] theorem ty.f29 : okF Tryz.prog 29 = true := by kernel_rfl
@[go_sem] theorem ty.f30 : okF Tryz.prog 30 = true := by kernel_rfl
@[go_sem] theorem ty.f31 : okF Tryz.prog 31 = true := by kernel_rfl
@[go_sem] theorem ty.f32 : okF Tryz.prog 32 = true := by kernel_rfl
@[go_sem] theorem ty.f33 : okF Tryz.prog 33 = true := by kernel_rfl
@[go_sem] theorem ty.f34 : okF Tryz.prog 34 = true := by kernel_rfl
@[go_sem] theorem ty.f35 : okF Tryz.prog 35 = true := by kernel_rfl
@[go_sem] theorem ty.f36 : okF Tryz.prog 36 = true := by kernel_rfl
@[go_sem] theorem ty.f37 : okF Tryz.prog 37 = true := by kernel_rfl
@[go_sem] theorem ty.f38 : okF Tryz.prog 38 = true := by kernel_rfl
@[go_sem] theorem ty.f39 : okF Tryz.prog 39 = true := by kernel_rfl
@[go_sem] theorem ty.f40 : okF Tryz.prog 40 = true := by kernel_rfl
@[go_sem] theorem ty.f41 : okF Tryz.prog 41 = true := by kernel_rfl
@[go_sem] theorem ty.f42 : okF Tryz.prog 42 = true := by kernel_rfl
@[go_sem] theorem ty.f43 : okF Tryz.prog 43 = true := by kernel_rfl
@[go_sem] theorem ty.f44 : okF Tryz.prog 44 = true := by kernel_rfl
@[go_sem] theorem ty.f45 : okF Tryz.prog 45 = true := by kernel_rfl
@[go_sem] theorem ty.f46 : okF Tryz.prog 46 = true := by kernel_rfl
@[go_sem] theorem ty.f47 : okF Tryz.prog 47 = true := by kernel_rfl
@[go_sem] theorem ty.f48 : okF Tryz.prog 48 = true := by kernel_rfl
@[go_sem] theorem ty.f51 : okF Tryz.prog 51 = true := by kernel_rfl
@[go_sem] theorem ty.f52 : okF Tryz.prog 52 = true := by kernel_rfl
@[go_sem] theorem ty.f54 : okF Tryz.prog 54 = true := by kernel_rfl
@[go_sem] theorem ty.f57 : okF Tryz.prog 57 = true := by kernel_rfl
@[go_sem] theorem ty.f63 : okF Tryz.prog 63 = true := by kernel_rfl
@[go_sem] theorem ty.f64 : okF Tryz.prog 64 = true := by kernel_rfl
@[go_sem] theorem ty.f65 : okF Tryz.prog 65 = true := by kernel_rfl
@[go_sem] theorem ty.f66 : okF Tryz.prog 66 = true := by kernel_rfl
@[go_sem] theorem ty.f67 : okF Tryz.prog 67 = true := by kernel_rfl
@[go_sem] theorem ty.f68 : okF Tryz.prog 68 = true := by kernel_rfl
@[go_sem] theorem ty.f69 : okF Tryz.prog 69 = true := by kernel_rfl
@[go_sem] theorem ty.f70 : okF Tryz.prog 70 = true := by kernel_rfl
@[go_sem] theorem ty.f71 : okF Tryz.prog 71 = true := by kernel_rfl
@[go_sem] theorem ty.f72 : okF Tryz.prog 72 = true := by kernel_rfl
@[go_sem] theorem ty.f73 : okF Tryz.prog 73 = true := by kernel_rfl
@[go_sem] theorem ty.f74 : okF Tryz.prog 74 = true := by kernel_rfl
@[go_sem] theorem ty.f75 : okF Tryz.prog 75 = true := by kernel_rfl
@[go_sem] theorem ty.f76 : okF Tryz.prog 76 = true := by kernel_rfl
@[go_sem] theorem ty.f77 : okF Tryz.prog 77 = true := by kernel_rfl
@[go_sem] theorem ty.f78 : okF Tryz.prog 78 = true := by kernel_rfl
@[go_sem] theorem ty.f79 : okF Tryz.prog 79 = true := by kernel_rfl
@[go_sem] theorem ty.f80 : okF Tryz.prog 80 = true := by kernel_rfl
@[go_sem] theorem ty.f81 : okF Tryz.prog 81 = false := by kernel_rfl
@[go_sem] theorem ty.f83 : okF Tryz.prog 83 = true := by kernel_rfl
@[go_sem] theorem ty.f84 : okF Tryz.prog 84 = true := by kernel_rfl
@[go_sem] theorem ty.f85 : okF Tryz.prog 85 = true := by kernel_rfl
@[go_sem] theorem ty.f86 : okF Tryz.prog 86 = true := by kernel_rfl
@[go_sem] theorem ty.f87 : okF Tryz.prog 87 = true := by kernel_rfl
@[go_sem] theorem ty.f90 : okF Tryz.prog 90 = true := by kernel_rfl
@[go_sem] theorem ty.f91 : okF Tryz.prog 91 = true := by kernel_rfl
@[go_sem] theorem ty.f94 : okF Tryz.prog 94 = true := by kernel_rfl
@[go_sem] theorem ty.f95 : okF Tryz.prog 95 = true := by kernel_rfl
@[go_sem] theorem ty.f96 : okF Tryz.prog 96 = true := by kernel_rfl
@[go_sem] theorem ty.f97 : okF Tryz.prog 97 = true := by kernel_rfl
@[go_sem] theorem ty.f98 : okF Tryz.prog 98 = true := by kernel_rfl
@[go_sem] theorem ty.f99 : okF Tryz.prog 99 = true := by kernel_rfl
@[go_sem] theorem ty.f103 : okF Tryz.prog 103 = true := by kernel_rfl
@[go_sem] theorem ty.f105 : okF Tryz.prog 105 = true := by kernel_rfl
@[go_sem] theorem ty.f106 : okF Tryz.prog 106 = true := by kernel_rfl
@[go_sem] theorem ty.f107 : okF Tryz.prog 107 = true := by kernel_rfl
@[go_sem] theorem ty.f108 : okF Tryz.prog 108 = true := by kernel_rfl
@[go_sem] theorem ty.f109 : okF Tryz.prog 109 = true := by kernel_rfl
@[go_sem] theorem ty.f110 : okF Tryz.prog 110 = true := by kernel_rfl
@[go_sem] theorem ty.f111 : okF Tryz.prog 111 = true := by kernel_rfl
@[go_sem] theorem ty.f112 : okF Tryz.prog 112 = true := by kernel_rfl
@[go_sem] theorem ty.f113 : okF Tryz.prog 113 = true := by kernel_rfl
@[go_sem] theorem ty.f114 : okF Tryz.prog 114 = true := by kernel_rfl
@[go_sem] theorem ty.f115 : okF Tryz.prog 115 = true := by kernel_rfl
@[go_sem] theorem ty.f117 : okF Tryz.prog 117 = true := by kernel_rfl
@[go_sem] theorem ty.f118 : okF Tryz.prog 118 = true := by kernel_rfl
@[go_sem] theorem ty.f119 : okF Tryz.prog 119 = true := by kernel_rfl
@[go_sem] theorem ty.f120 : okF Tryz.prog 120 = true := by kernel_rfl
@[go_sem] theorem ty.f121 : okF Tryz.prog 121 = true := by kernel_rfl
@[go_sem] theorem ty.f122 : okF Tryz.prog 122 = true := by kernel_rfl
@[go_sem] theorem ty.f123 : okF Tryz.prog 123 = true := by kernel_rfl
@[go_sem] theorem ty.f124 : okF Tryz.prog 124 = true := by kernel_rfl
@[go_sem] theorem ty.f125 : okF Tryz.prog 125 = true := by kernel_rfl
@[go_sem] theorem ty.f126 : okF Tryz.prog 126 = true := by kernel_rfl
@[go_sem] theorem ty.f127 : okF Tryz.prog 127 = true := by kernel_rfl
@[go_sem] theorem ty.f128 : okF Tryz.prog 128 = true := by kernel_rfl
@[go_sem] theorem ty.f129 : okF Tryz.prog 129 = true := by kernel_rfl
@[go_sem] theorem ty.f130 : okF Tryz.prog 130 = true := by kernel_rfl
@[go_sem] theorem ty.f131 : okF Tryz.prog 131 = true := by kernel_rfl
@[go_sem] theorem ty.f133 : okF Tryz.prog 133 = true := by kernel_rfl
@[go_sem] theorem ty.f134 : okF Tryz.prog 134 = true := by kernel_rfl
@[go_sem] theorem ty.f136 : okF Tryz.prog 136 = true := by kernel_rfl
@[go_sem] theorem ty.f139 : okF Tryz.prog 139 = true := by kernel_rfl
@[go_sem] theorem ty.f140 : okF Tryz.prog 140 = false := by kernel_rfl
@[go_sem] theorem ty.f142 : okF Tryz.prog 142 = true := by kernel_rfl
@[go_sem] theorem ty.f143 : okF Tryz.prog 143 = true := by kernel_rfl
@[go_sem] theorem ty.f144 : okF Tryz.prog 144 = true := by kernel_rfl
@[go_sem] theorem ty.f145 : okF Tryz.prog 145 = true := by kernel_rfl
@[go_sem] theorem ty.f146 : okF Tryz.prog 146 = true := by kernel_rfl
@[go_sem] theorem ty.f147 : okF Tryz.prog 147 = true := by kernel_rfl
@[go_sem] theorem ty.f148 : okF Tryz.prog 148 = true := by kernel_rfl
@[go_sem] theorem ty.f149 : okF Tryz.prog 149 = true := by kernel_rfl
@[go_sem] theorem ty.f150 : okF Tryz.prog 150 = true := by kernel_rfl
@[go_sem] theorem ty.f151 : okF Tryz.prog 151 = true := by kernel_rfl
@[go_sem] theorem ty.f152 : okF Tryz.prog 152 = true := by kernel_rfl
@[go_sem] theorem ty.f153 : okF Tryz.prog 153 = true := by kernel_rfl
@[go_sem] theorem ty.f154 : okF Tryz.prog 154 = true := by kernel_rfl
@[go_sem] theorem ty.f155 : okF Tryz.prog 155 = true := by kernel_rfl
@[go_sem] theorem ty.f156 : okF Tryz.prog 156 = true := by kernel_rfl
@[go_sem] theorem ty.f157 : okF Tryz.prog 157 = true := by kernel_rfl
@[go_sem] theorem ty.f158 : okF Tryz.prog 158 = true := by kernel_rfl
@[go_sem] theorem ty.f159 : okF Tryz.prog 159 = true := by kernel_rfl
@[go_sem] theorem ty.f171 : okF Tryz.prog 171 = true := by kernel_rfl
@[go_sem] theorem ty.f172 : okF Tryz.prog 172 = true := by kernel_rfl
@[go_sem] theorem ty.f173 : okF Tryz.prog 173 = true := by kernel_rfl
@[go_sem] theorem ty.f174 : okF Tryz.prog 174 = true := by kernel_rfl
@[go_sem] theorem ty.f175 : okF Tryz.prog 175 = true := by kernel_rfl
@[go_sem] theorem ty.f176 : okF Tryz.prog 176 = true := by kernel_rfl
@[go_sem] theorem ty.f177 : okF Tryz.prog 177 = true := by kernel_rfl
@[go_sem] theorem ty.f178 : okF Tryz.prog 178 = true := by kernel_rfl
@[go_sem] theorem ty.f184 : okF Tryz.prog 184 = true := by kernel_rfl
@[go_sem] theorem ty.f185 : okF Tryz.prog 185 = true := by kernel_rfl
@[go_sem] theorem ty.f186 : okF Tryz.prog 186 = true := by kernel_rfl
@[go_sem] theorem ty.f187 : okF Tryz.prog 187 = true := by kernel_rfl
@[go_sem] theorem ty.f188 : okF Tryz.prog 188 = true := by kernel_rfl
@[go_sem] theorem ty.f189 : okF Tryz.prog 189 = true := by kernel_rfl
@[go_sem] theorem ty.f190 : okF Tryz.prog 190 = true := by kernel_rfl
@[go_sem] theorem ty.f192 : okF Tryz.prog 192 = true := by kernel_rfl
theorem mx : Tryz.prog.follows .mixedOrders = true := by kernel_rfl
end Go.Proofs.YtfieabidajilmaaGreat

namespace Aml
open Go Go.RowKit
set_option linter.unusedVariables false
set_option linter.unusedSimpArgs false

/-- Slots from i on: those that live stay, the others are forgotten. -/
def wkA : List DV → Nat → List Nat → List DV
  | [], _, _ => []
  | _ :: ds, i, [] => .any :: wkA ds (i + 1) []
  | d :: ds, i, j :: js => if i = j then d :: wkA ds (i + 1) js else .any :: wkA ds (i + 1) (j :: js)
def wk (live : List Nat) (fr : List DV) : List DV := wkA fr 0 live
def upds (fr : List DV) : List (Nat × DV) → List DV
  | [] => fr
  | (i, d) :: us => upds (fr.set i d) us

/-- Sixteen slots of a frame. -/
structure R16 where
  a0 : DV
  a1 : DV
  a2 : DV
  a3 : DV
  a4 : DV
  a5 : DV
  a6 : DV
  a7 : DV
  a8 : DV
  a9 : DV
  a10 : DV
  a11 : DV
  a12 : DV
  a13 : DV
  a14 : DV
  a15 : DV
/-- A frame whose first sixteen slots are a row. -/
def rc (r : R16) (l : List DV) : List DV := r.a0 :: r.a1 :: r.a2 :: r.a3 :: r.a4 :: r.a5 :: r.a6 :: r.a7 :: r.a8 :: r.a9 :: r.a10 :: r.a11 :: r.a12 :: r.a13 :: r.a14 :: r.a15 :: l
/-- A frame, to be put in rows. -/
def foldF (l : List DV) : List DV := l
theorem repL_any {g : Gh} : ∀ {ds es : List DV} {us : List Value}, RepL g ds us → ds.length = es.length → (∀ (i : Nat) (d e : DV), ds[i]? = some d → es[i]? = some e → e = d ∨ e = .any) → RepL g es us :=
  fun {ds es us} h hl hs => ⟨by rw [← hl]; exact h.len, fun i e u h1 h2 => by
    have hi : i < ds.length := by rw [hl]; exact (List.getElem?_eq_some_iff.1 h1).1
    rcases hs i _ e (List.getElem?_eq_getElem hi) h1 with rfl | rfl
    · exact h.at_ i _ u (List.getElem?_eq_getElem hi) h2
    · exact .any u⟩
theorem wkA_spec : ∀ (ds : List DV) (k : Nat) (js : List Nat), (wkA ds k js).length = ds.length ∧ ∀ (i : Nat) (d e : DV), ds[i]? = some d → (wkA ds k js)[i]? = some e → e = d ∨ e = .any
  | [], k, js => ⟨by simp [wkA], fun i d e h => by simp at h⟩
  | d :: ds, k, [] => by
    obtain ⟨h1, h2⟩ := wkA_spec ds (k + 1) []
    refine ⟨by simp [wkA, h1], fun i d' e a b => ?_⟩
    cases i with
    | zero => simp [wkA] at b; exact .inr b.symm
    | succ i => simp [wkA] at a b; exact h2 i d' e a b
  | d :: ds, k, j :: js => by
    simp only [wkA]
    split
    · obtain ⟨h1, h2⟩ := wkA_spec ds (k + 1) js
      refine ⟨by simp [h1], fun i d' e a b => ?_⟩
      cases i with
      | zero => simp at a b; exact .inl (b.symm.trans a)
      | succ i => simp at a b; exact h2 i d' e a b
    · obtain ⟨h1, h2⟩ := wkA_spec ds (k + 1) (j :: js)
      refine ⟨by simp [h1], fun i d' e a b => ?_⟩
      cases i with
      | zero => simp at b; exact .inr b.symm
      | succ i => simp at a b; exact h2 i d' e a b
theorem repL_wk {g : Gh} {fr : List DV} {us : List Value} (live : List Nat) (h : RepL g fr us) : RepL g (wk live fr) us :=
  repL_any h (wkA_spec fr 0 live).1.symm (wkA_spec fr 0 live).2

section
variable {P : Program} {w0 : W0}

/-- A nil slice in a slot becomes one that grows. -/
theorem awp_grow (i s : Nat) (hs : 0 < s) {c : Code} {fr : List DV} {S : St} {Q : Exit → List DV → St → Prop} {s0 : Nat} (hi : fr[i]? = some (.sl s0 true []))
    (h : ∀ l, nin S.acc l → AWp P w0 c (fr.set i (.acc l 0)) ⟨S.box, (l, .arr s []) :: S.acc⟩ Q) : AWp P w0 c fr S Q := by
  intro g a w h1 h2 h3
  have hlt : i < a.tmps.toList.length := by rw [← h2.len]; exact (List.getElem?_eq_some_iff.1 hi).1
  have hr := h2.at_ i _ _ hi (List.getElem?_eq_getElem hlt)
  have hr' : Rep g (.sl s true []) a.tmps.toList[i] := by obtain ⟨o', ho'⟩ := rep_full_nil hr; rw [ho']; exact .nil _ _ _ _ fun _ => rfl
  obtain ⟨l, g', hle, hne, hR, hA⟩ := h1.newAcc hs hr' (.arr s []) (.inr ⟨rfl, rfl⟩)
  have hfr := repL_same (h2.mono hle) (List.getElem?_eq_getElem hlt) hA
  exact wpA_mono (h l (nin_of hne) g' a w hR hfr (hle.dk h3)) fun _ _ _ k => k.of_le hle
end
end Aml

namespace Aml
open Go Go.RowKit
set_option linter.unusedVariables false
set_option linter.unusedSimpArgs false

/-- An element that is asked for. -/
def elK (xs : List DV) (i : Nat) (F : DV → Prop) : Prop := ∀ d, xs[i]? = some d → okE d = true ∧ F d
def exK (xs : List DV) (i : Nat) (F : DV → Prop) : Prop := ∃ d, xs[i]? = some d ∧ okE d = true ∧ F d
theorem q_el_map {α : Type} (f : α → DV) (l : List α) (i : Nat) (F : DV → Prop) : elK (List.map f l) i F = ∀ a, l[i]? = some a → okE (f a) = true ∧ F (f a) := by
  unfold elK
  refine propext ⟨fun h a ha => h _ (by rw [List.getElem?_map, ha]; rfl), fun h d hd => ?_⟩
  rw [List.getElem?_map, Option.map_eq_some_iff] at hd
  obtain ⟨a, ha, rfl⟩ := hd
  exact h a ha
theorem q_el_zero (x : DV) (xs : List DV) (F : DV → Prop) : elK (x :: xs) 0 F = (okE x = true ∧ F x) := by simp [elK]
theorem q_ex_map {α : Type} (f : α → DV) (l : List α) (i : Nat) (F : DV → Prop) : exK (List.map f l) i F = (i < l.length ∧ ∀ a, l[i]? = some a → okE (f a) = true ∧ F (f a)) := by
  unfold exK
  refine propext ⟨fun ⟨d, hd, h⟩ => ?_, fun ⟨hi, h⟩ => ⟨f l[i], by rw [List.getElem?_map, List.getElem?_eq_getElem hi]; rfl, h _ (List.getElem?_eq_getElem hi)⟩⟩
  rw [List.getElem?_map, Option.map_eq_some_iff] at hd
  obtain ⟨a, ha, rfl⟩ := hd
  exact ⟨(List.getElem?_eq_some_iff.1 ha).1, fun b hb => by rw [ha] at hb; cases hb; exact h⟩
theorem q_ex_nil (i : Nat) (F : DV → Prop) : exK [] i F = False := by simp [exK]
theorem q_okE_v (u : Value) : okE (.v u) = true := rfl
theorem q_okE_sl (s : Nat) (f : Bool) (xs : List DV) : okE (.sl s f xs) = true := rfl
theorem q_okE_agg (ds : List DV) : okE (.agg ds) = true := rfl
theorem q_okE_acc (l n : Nat) : okE (.acc l n) = true := rfl
theorem q_cd_v (u : Value) : cd (.v u) = [.v u] := rfl
theorem q_cd_sl (s : Nat) (f : Bool) (xs : List DV) : cd (.sl s f xs) = [.sl s f xs] := rfl
theorem q_cd_agg (ds : List DV) : cd (.agg ds) = ds := rfl
theorem q_cd_acc (l n : Nat) : cd (.acc l n) = [.acc l n] := rfl
theorem q_lk_same {α : Type} (k : Nat) (x : α) (t : List (Nat × α)) : lk ((k, x) :: t) k = some x := by simp [lk]
theorem q_lk_ne {α : Type} {k n : Nat} (h : ¬ k = n) (x : α) (t : List (Nat × α)) : lk ((k, x) :: t) n = lk t n := by simp [lk, h]
theorem q_up_same {α : Type} (k : Nat) (x y : α) (t : List (Nat × α)) : up ((k, x) :: t) k y = (k, y) :: t := by simp [up]
theorem q_up_ne {α : Type} {k n : Nat} (h : ¬ k = n) (x y : α) (t : List (Nat × α)) : up ((k, x) :: t) n y = (k, x) :: up t n y := by simp [up, h]

section
variable {P : Program} {w0 : W0} (K : DV → Prop) (K2 : DV → St → Prop) (S : St)
theorem q_ld_int (k : IntKind) (d : DV) (ds : List DV) : ldK (.int k) (d :: ds) K = K d := rfl
theorem q_ld_one (d : DV) (ds : List DV) : ldK .one (d :: ds) K = K d := rfl
theorem q_ld_fn (d : DV) (ds : List DV) : ldK .fn (d :: ds) K = K d := rfl
theorem q_ld_str (d : DV) (ds : List DV) : ldK .str (d :: ds) K = K d := rfl
theorem q_ld_sl (e s b : Nat) (i : Bool) (d : DV) (ds : List DV) : ldK (.sl e s b i) (d :: ds) K = K d := rfl
theorem q_ld_st (fs : List (Nat × Nat × Bool)) (n : Nat) (ds : List DV) : ldK (.st fs n) ds K = (n ≤ ds.length ∧ K (.agg (ds.take n))) := rfl
theorem q_load_ip (k : TK) (ds : List DV) : vLoad k S (.ip ds) K = ldK k ds K := rfl
theorem q_ia_sl (e s b s' : Nat) (f : Bool) (xs : List DV) (k : IntKind) (z : Int) : vIndexAddr (.sl e s b true) (.sl s' f xs) (.v (.int k z)) K = (s' = s ∧ 0 ≤ z ∧ z < xs.length ∧ elK xs z.toNat fun d => K (.ip (cd d))) := rfl
theorem q_ia_acc (e s b l n : Nat) (k : IntKind) (z : Int) : vIndexAddr (.sl e s b true) (.acc l n) (.v (.int k z)) K = (0 ≤ z ∧ z < n ∧ K (.ap l n s z.toNat 0)) := rfl
theorem q_index (s : ByteArray) (k : IntKind) (z : Int) : vIndex .str (.v (.string s)) (.v (.int k z)) K = (0 ≤ z ∧ z < s.size ∧ ∀ c, s.data.toList[z.toNat]? = some c → K (.v (.int .u8 c.toNat))) := rfl
theorem q_bin_ii (op : BinOp) (t : TK) (cx cy : Bool) (k k' : IntKind) (m n : Int) : vBin op t cx cy (.v (.int k m)) (.v (.int k' n)) K = (sameKind op k k' = true ∧ vBinI op k m n K) := rfl
theorem q_bin_ss (op : BinOp) (t : TK) (cx cy : Bool) (a b : ByteArray) : vBin op t cx cy (.v (.string a)) (.v (.string b)) K = vBinS op a b K := rfl
theorem q_bin_bn (cx cy a b : Bool) : vBin .neq .one cx cy (.v (.bool a)) (.v (.bool b)) K = K (.v (.bool (!(a == b)))) := rfl
theorem q_un_not (b : Bool) : vUn .not (.v (.bool b)) K = K (.v (.bool (!b))) := rfl
theorem q_conv_i (k0 k k1 : IntKind) (n : Int) : vConv (.int k0) (.int k) (.v (.int k1 n)) K = K (.v (.int k (k.wrap n))) := rfl
theorem q_nn_ptr (a : Addr) : notNil (.v (.pointer (some a))) = true := rfl
theorem q_shr1_v (u : Value) : shr1 S (.v u) K2 = K2 (.v u) S := rfl
theorem q_shr1_sl (s : Nat) (f : Bool) (xs : List DV) : shr1 S (.sl s f xs) K2 = K2 (.sl s f xs) S := rfl
theorem q_shr1s_nil (K3 : List DV → St → Prop) : shr1s S [] K3 = K3 [] S := rfl
theorem q_shr1s_cons (d : DV) (ds : List DV) (K3 : List DV → St → Prop) : shr1s S (d :: ds) K3 = shr1 S d fun e S => shr1s S ds fun es S => K3 (e :: es) S := rfl
theorem q_shr_v (u : Value) : shr S (.v u) K2 = K2 (.v u) S := rfl
theorem q_shr_sl (s : Nat) (f : Bool) (xs : List DV) : shr S (.sl s f xs) K2 = K2 (.sl s f xs) S := rfl
theorem q_shr_acc (l n : Nat) : shr S (.acc l n) K2 = shr1 S (.acc l n) K2 := rfl
theorem q_shr_agg (ds : List DV) : shr S (.agg ds) K2 = shr1s S ds fun ds S => K2 (.agg ds) S := rfl
theorem q_shrs_nil (K3 : List DV → St → Prop) : shrs S [] K3 = K3 [] S := rfl
theorem q_shrs_cons (d : DV) (ds : List DV) (K3 : List DV → St → Prop) : shrs S (d :: ds) K3 = shr S d fun e S => shrs S ds fun es S => K3 (e :: es) S := rfl
theorem q_shrT_v (u : Value) : shrT S (.v u) K2 = K2 (.v u) S := rfl
theorem q_shrT_sl (s : Nat) (f : Bool) (xs : List DV) : shrT S (.sl s f xs) K2 = K2 (.sl s f xs) S := rfl
theorem q_shrT_acc (l n : Nat) : shrT S (.acc l n) K2 = shr1 S (.acc l n) K2 := rfl
theorem q_shrT_agg (ds : List DV) : shrT S (.agg ds) K2 = shr1s S ds fun ds S => K2 (.agg ds) S := rfl
theorem q_shrT_tup (ds : List DV) : shrT S (.tup ds) K2 = shrs S ds fun ds S => K2 (.tup ds) S := rfl
theorem q_bnd_none (z : Int) (K4 : Int → Prop) : bnd none z K4 = K4 z := rfl
theorem q_bnd_some (k : IntKind) (n z : Int) (K4 : Int → Prop) : bnd (some (.v (.int k n))) z K4 = K4 n := rfl
theorem q_slice_sl (e s b s' : Nat) (f : Bool) (xs : List DV) (lo hi mx : Option DV) : vSlice (.sl e s b true) (.sl s' f xs) lo hi mx K = ((s' = s ∨ xs = []) ∧ bnd lo 0 fun l => bnd hi xs.length fun h => bnd mx h fun m => 0 ≤ l ∧ l ≤ h ∧ h ≤ m ∧ m ≤ xs.length ∧
      K (.sl s (if mx.isSome then decide (m = h) else (f && (hi.isNone || xs.isEmpty))) ((xs.take h.toNat).drop l.toNat))) := rfl
theorem q_slice_str (s : ByteArray) (lo hi mx : Option DV) : vSlice .str (.v (.string s)) lo hi mx K = (mx.isNone = true ∧ bnd lo 0 fun l => bnd hi s.size fun h => 0 ≤ l ∧ l ≤ h ∧ h ≤ s.size ∧ K (.v (.string (s.extract l.toNat h.toNat)))) := rfl
theorem q_len_sl (e s b : Nat) (i : Bool) (s' : Nat) (f : Bool) (xs : List DV) : vLen (.sl e s b i) (.sl s' f xs) K = K (.v (.int .i64 xs.length)) := rfl
theorem q_len_acc (e s b : Nat) (i : Bool) (l n : Nat) : vLen (.sl e s b i) (.acc l n) K = K (.v (.int .i64 n)) := rfl
theorem q_len_str (s : ByteArray) : vLen .str (.v (.string s)) K = K (.v (.int .i64 s.size)) := rfl
theorem q_min (k k' : IntKind) (m n : Int) : vMin (.v (.int k m)) (.v (.int k' n)) K = K (.v (.int k (if n < m then n else m))) := rfl
theorem q_max (k k' : IntKind) (m n : Int) : vMax (.v (.int k m)) (.v (.int k' n)) K = K (.v (.int k (if m < n then n else m))) := rfl
theorem q_sliceX_sl (k : TK) (s : Nat) (f : Bool) (xs : List DV) (lo hi mx : Option DV) : vSliceX k S (.sl s f xs) lo hi mx K2 = vSlice k (.sl s f xs) lo hi mx (K2 · S) := rfl
theorem q_sliceX_v (k : TK) (u : Value) (lo hi mx : Option DV) : vSliceX k S (.v u) lo hi mx K2 = vSlice k (.v u) lo hi mx (K2 · S) := rfl
theorem q_sliceX_acc (k : TK) (l n : Nat) (lo hi mx : Option DV) : vSliceX k S (.acc l n) lo hi mx K2 = ((lo.isNone = true ∧ mx.isNone = true ∧ isZ n hi ∧ (∃ e s b, k = .sl e s b true) ∧ vCut0 S (.acc l n) (atZ hi) K2) ∨ vSliceS k S (.acc l n) lo hi mx K2) := rfl
theorem q_isZ (k : IntKind) (m : Nat) (n : Int) : isZ m (some (.v (.int k n))) = ((n == 0) = true ∨ (0 ≤ n ∧ n ≤ m)) := rfl
theorem q_atZ (k : IntKind) (n : Int) : atZ (some (.v (.int k n))) = n.toNat := rfl
theorem q_isZ_n (m : Nat) : isZ m none = False := rfl
theorem q_isNilC_t (t : Nat) : isNilC (.tmp t) = false := rfl
theorem q_isNilC_i (k : IntKind) (n : Int) : isNilC (.const (.int k n)) = false := rfl
theorem q_isNilC_s (s : ByteArray) : isNilC (.const (.string s)) = false := rfl
theorem q_isNilC_n : isNilC (.const (.slice none 0 0)) = true := rfl
theorem q_nilEq_sl (e s b s' : Nat) (i f : Bool) (xs : List DV) : vNilEq .eql (.sl e s b i) (.sl s' f xs) K = ∀ b : Bool, (xs ≠ [] → b = false) → K (.v (.bool b)) := rfl
theorem q_appInt (e s b s' : Nat) (z : DV) (k : IntKind) (n : Int) : vAppInt (.sl e s b true) z S (.sl s' true []) (.v (.int k n)) K2 = (okE z = true ∧ 0 < n ∧ n * b ≤ 140737488355328 ∧ n ≤ 9223372036854775807 ∧ ∀ l, nin S.acc l → K2 (.acc l n.toNat) ⟨S.box, (l, .arr s (List.replicate n.toNat z)) :: S.acc⟩) := rfl
theorem q_storeX_v (n : Nat) (u : Value) (y : DV) (K5 : St → Prop) : vStoreX n S (.v u) y K5 = vStore n S (.v u) y K5 := rfl
theorem q_makeSlice (e s b : Nat) (z : DV) (k k' : IntKind) (n m : Int) : vMakeSlice (.sl e s b true) z (.v (.int k n)) (.v (.int k' m)) S K2 = (okE z = true ∧ 0 ≤ n ∧ n ≤ m ∧ m * b ≤ 140737488355328 ∧ m ≤ 9223372036854775807 ∧ ∀ l, nin S.acc l → K2 (.acc l n.toNat) ⟨S.box, (l, .arr s (List.replicate n.toNat z)) :: S.acc⟩) := rfl
theorem q_cap (e s b : Nat) (i : Bool) (s' : Nat) (xs : List DV) : vCap (.sl e s b i) (.sl s' true xs) K = K (.v (.int .i64 xs.length)) := rfl
theorem q_cont_sl (s : Nat) (f : Bool) (xs : List DV) (K6 : Nat → List DV → Prop) : contK S (.sl s f xs) K6 = K6 s xs := rfl
theorem q_append (e s b : Nat) (k2 : TK) (x y : DV) : vAppend (.sl e s b true) k2 S x y K2 = (notInt k2 = true ∧ contK S y fun s2 ys => (s2 = s ∨ ys = []) ∧ vApp s b S x ys K2) := rfl
theorem q_app_nil (s0 s by' : Nat) (ys : List DV) : vApp s by' S (.sl s0 true []) ys K2 = (ys.length * by' ≤ 140737488355328 ∧ ys.length ≤ maxLen ∧ ∀ l, nin S.acc l → K2 (.acc l ys.length) ⟨S.box, (l, .arr s ys) :: S.acc⟩) := rfl
theorem q_call (f : FuncId) (a cap : Array Value) (ds : List DV) : vCall P w0 (.v (.func (.func f) a cap)) ds S K2 = (a.size = 0 ∧ cap.toList.all (fun u => u.oneCell') = true ∧ gX (okF P f) (callK S ds fun ds S => @AC P w0 f (ds ++ cap.toList.map .v) S ⟨K2⟩) (@XC P w0 f (ds ++ cap.toList.map .v) S ⟨K2⟩)) := rfl
theorem q_hasAcc_nil : hasAcc [] = false := rfl
theorem q_hasAcc_acc (l n : Nat) (ds : List DV) : hasAcc (.acc l n :: ds) = true := rfl
theorem q_hasAcc_v (u : Value) (ds : List DV) : hasAcc (.v u :: ds) = hasAcc ds := rfl
theorem q_hasAcc_sl (s : Nat) (f : Bool) (xs ds : List DV) : hasAcc (.sl s f xs :: ds) = hasAcc ds := rfl
theorem q_hasAcc_agg (xs ds : List DV) : hasAcc (.agg xs :: ds) = hasAcc ds := rfl
theorem q_res_tmp (fr : List DV) (t : Nat) : resK1 P fr S K (.tmp t) = K (fr.getD t ud) := rfl
theorem q_res_cell (fr : List DV) (a t : Nat) : resK1 P fr S K (.cell a t) = vLoad (tk P t) S (fr.getD a ud) K := rfl
theorem q_resK_one (fr : List DV) (r : ResultVar) : resK P fr S [r] K = resK1 P fr S K r := rfl
theorem q_resK_nil (fr : List DV) : resK P fr S [] K = K (.tup []) := rfl
theorem q_resK_two (fr : List DV) (r r' : ResultVar) (rs : List ResultVar) : resK P fr S (r :: r' :: rs) K = resKs P fr S (r :: r' :: rs) fun ds => K (.tup ds) := rfl
end
theorem q_oK_some {α : Type} (a : α) (F : α → Prop) : oK (some a) F = F a := rfl
def bK : Option Ob → (Nat → List DV → Prop) → (Nat → List DV → Prop) → Prop
  | some (.arr s xs), F, _ => F s xs
  | some (.tl s xs), _, G => G s xs
  | _, _, _ => False
theorem q_bK_arr (s : Nat) (xs : List DV) (F G : Nat → List DV → Prop) : bK (some (.arr s xs)) F G = F s xs := rfl
theorem q_bK_tl (s : Nat) (xs : List DV) (F G : Nat → List DV → Prop) : bK (some (.tl s xs)) F G = G s xs := rfl
def fiK (p : Option (Nat × Nat × Bool)) (x : DV) (K : DV → Prop) : Prop := match p with
  | some (off, sz, _) => sz ≠ 0 ∧ (match x with
      | .v (.pointer (some ⟨b, o, none⟩)) => K (.v (.pointer (some ⟨b, o + off, none⟩)))
      | .ip ds => off ≤ ds.length ∧ K (.ip (ds.drop off))
      | .ap l n s i o => K (.ap l n s i (o + off))
      | _ => False)
  | none => False
def fvK (p : Option (Nat × Nat × Bool)) (ds : List DV) (K : DV → Prop) : Prop := match p with
  | some (off, sz, true) => off + sz ≤ ds.length ∧ K (.agg ((ds.drop off).take sz))
  | some (off, sz, false) => off + sz ≤ ds.length ∧ oK (ds[off]?) K
  | none => False
def gD (t : Nat) (d : DV) (fr : List DV) (want : Bool) (A B : List DV → Prop) : Prop := match d with
  | .v (.bool b) => (b = want → A (fr.set t (.v (.bool want)))) ∧ (b = !want → B (fr.set t (.v (.bool !want))))
  | .tup [] => B fr
  | _ => False
def gK (t : Option Tmp) (fr : List DV) (want : Bool) (A B : List DV → Prop) : Prop := match t with
  | none => B fr
  | some t => gD t (fr.getD t ud) fr want A B
def buK (k : TK) (z : DV) (parts : List (Nat × DV)) (K : DV → Prop) : Prop := match k, z with
  | .st fs _, .agg zs => oK (fillD fs zs parts) fun ds => K (.agg ds)
  | _, _ => False

section
variable {P : Program} {w0 : W0} (K : DV → Prop) (K2 : DV → St → Prop) (S : St)
theorem q_load_box (k : TK) (b o : Nat) : vLoad k S (.v (.pointer (some ⟨b, o, none⟩))) K = oK (lk S.box b) fun ds => ldK k (ds.drop o) K := by
  cases h : lk S.box b <;> simp [vLoad, oK, h]
theorem q_load_ap (k : TK) (l n s i o : Nat) : vLoad k S (.ap l n s i o) K = bK (lk S.acc l) (fun s' xs => xs.length = n ∧ s' = s ∧ exK xs i fun d => ldK k ((cd d).drop o) K) (fun s' xs => xs.length = n ∧ s' = s ∧ exK xs i fun d => ldK k ((cd d).drop o) K) := by
  cases h : lk S.acc l with
  | none => simp [vLoad, bK, h]
  | some o => cases o <;> simp [vLoad, bK, h, exK]
theorem q_slice_row (e s b bb o n c : Nat) (lo hi mx : Option DV) : vSlice (.sl e s b true) (.v (.slice (some ⟨bb, o, none⟩) n c)) lo hi mx K = bnd lo 0 fun l => bnd hi n fun h => bnd mx c fun m => 0 ≤ l ∧ l ≤ h ∧ h ≤ m ∧ m ≤ c ∧
      K (.v (.slice (some ⟨bb, if m.toNat = l.toNat then o else o + l.toNat * s, none⟩) (h.toNat - l.toNat) (m.toNat - l.toNat))) := rfl
theorem q_len_row (e s b : Nat) (i : Bool) (a : Option Addr) (n c : Nat) : vLen (.sl e s b i) (.v (.slice a n c)) K = K (.v (.int .i64 n)) := rfl
theorem q_cap_row (e s b : Nat) (i : Bool) (a : Option Addr) (n c : Nat) : vCap (.sl e s b i) (.v (.slice a n c)) K = K (.v (.int .i64 c)) := rfl
theorem q_isRow_row (a : Addr) (n c : Nat) : isRow (.v (.slice (some a) n c)) = true := rfl
theorem q_isRow_sl (s : Nat) (f : Bool) (xs : List DV) : isRow (.sl s f xs) = false := rfl
theorem q_isRow_acc (l n : Nat) : isRow (.acc l n) = false := rfl
theorem q_rows_sl (s s' : Nat) (f : Bool) (ys : List DV) (F : Nat → List DV → Prop) : rowsK S s (.sl s' f ys) F = ((s' = s ∨ ys = []) ∧ (∀ d, d ∈ ys → okE d = true) ∧ F ys.length (ys.flatMap cd)) := rfl
theorem q_copy (e s b bb o n c : Nat) (y : DV) : vCopy (.sl e s b true) S (.v (.slice (some ⟨bb, o, none⟩) n c)) y K2 = oK (lk S.box bb) fun ds => o + n * s ≤ ds.length ∧ copyK S s ds o bb n y K2 := by
  cases h : lk S.box bb with
  | none => simp [vCopy, oK, h]
  | some ds =>
    simp only [vCopy, oK, h, copyK]
    split
    · rename_i b2 o2 m c2
      cases h2 : lk S.box b2 <;> simp [oK]
    · rfl
theorem q_copyK_row (s bb o n : Nat) (ds : List DV) (b2 o2 m c2 : Nat) : copyK S s ds o bb n (.v (.slice (some ⟨b2, o2, none⟩) m c2)) K2 = oK (lk S.box b2) fun es => o2 + m * s ≤ es.length ∧ K2 (.v (.int .i64 (min m n : Nat))) ⟨up S.box bb (putL ds o ((es.drop o2).take (min m n * s))), S.acc⟩ := rfl
theorem q_copyK_sl (s bb o n : Nat) (ds : List DV) (s' : Nat) (f : Bool) (ys : List DV) : copyK S s ds o bb n (.sl s' f ys) K2 = ((s' = s ∨ ys = []) ∧ (∀ d, d ∈ ys → okE d = true) ∧ ys.length ≤ n ∧ K2 (.v (.int .i64 ys.length)) ⟨up S.box bb (putL ds o (ys.flatMap cd)), S.acc⟩) := rfl
theorem q_appC (e s by' b o n c : Nat) (k2 : TK) (y : DV) : vAppC (.sl e s by' true) k2 S (.v (.slice (some ⟨b, o, none⟩) n c)) y K2 = oK (lk S.box b) fun ds => notInt k2 = true ∧ o + c * s ≤ ds.length ∧ n ≤ c ∧ rowsK S s y fun m cs =>
      (n + m ≤ c → K2 (.v (.slice (some ⟨b, o, none⟩) (n + m) c)) ⟨up S.box b (putL ds (o + n * s) cs), S.acc⟩) ∧
      (c < n + m → (n + m) * by' ≤ 140737488355328 ∧ n + m ≤ maxLen ∧ ∀ C, n + m ≤ C → C ≤ maxLen → ∀ b2, nin S.box b2 →
        K2 (.v (.slice (some ⟨b2, 0, none⟩) (n + m) C)) ⟨(b2, (ds.drop o).take (n * s) ++ cs ++ List.replicate ((C - (n + m)) * s) .any) :: S.box, S.acc⟩) := by
  cases h : lk S.box b <;> simp [vAppC, oK, h]
theorem q_appZ (e s by' b o n c : Nat) (k : IntKind) (m : Int) (z : DV) : vAppZ (.sl e s by' true) z S (.v (.slice (some ⟨b, o, none⟩) n c)) (.v (.int k m)) K2 = oK (lk S.box b) fun ds => okE z = true ∧ o + c * s ≤ ds.length ∧ n ≤ c ∧ 0 < m ∧ c < n + m.toNat ∧ (n + m.toNat) * by' ≤ 140737488355328 ∧ n + m.toNat ≤ maxLen ∧ ∀ C, n + m.toNat ≤ C → C ≤ maxLen → ∀ b2, nin S.box b2 →
        K2 (.v (.slice (some ⟨b2, 0, none⟩) (n + m.toNat) C)) ⟨(b2, (ds.drop o).take (n * s) ++ zeroL z m.toNat ++ List.replicate ((C - (n + m.toNat)) * s) .any) :: S.box, S.acc⟩ := by
  cases h : lk S.box b <;> simp [vAppZ, oK, h]
theorem q_field (fs : List (Nat × Nat × Bool)) (n f : Nat) (x : DV) : vField (.st fs n) f x K = fiK (fs[f]?) x K := by
  cases h : fs[f]? <;> simp only [vField, fiK, h] <;> cases x <;> rfl
theorem q_fi_ptr (off sz b o : Nat) (ag : Bool) : fiK (some (off, sz, ag)) (.v (.pointer (some ⟨b, o, none⟩))) K = (sz ≠ 0 ∧ K (.v (.pointer (some ⟨b, o + off, none⟩)))) := rfl
theorem q_fi_ip (off sz : Nat) (ag : Bool) (ds : List DV) : fiK (some (off, sz, ag)) (.ip ds) K = (sz ≠ 0 ∧ off ≤ ds.length ∧ K (.ip (ds.drop off))) := rfl
theorem q_fi_ap (off sz l m s i o : Nat) (ag : Bool) : fiK (some (off, sz, ag)) (.ap l m s i o) K = (sz ≠ 0 ∧ K (.ap l m s i (o + off))) := rfl
theorem q_extract (i : Nat) (ds : List DV) : vExtract i (.tup ds) K = oK (ds[i]?) K := by
  cases h : ds[i]? <;> simp [vExtract, oK, h]
theorem q_shr1_acc (l n : Nat) : shr1 S (.acc l n) K2 = bK (lk S.acc l) (fun s xs => xs.length = n ∧ K2 (.sl s false xs) ⟨S.box, up S.acc l (.tl s xs)⟩) (fun s xs => xs.length = n ∧ K2 (.sl s false xs) S) := by
  cases h : lk S.acc l with
  | none => simp [shr1, bK, h]
  | some o => cases o <;> simp [shr1, bK, h]
theorem q_store (n b o : Nat) (y : DV) (K5 : St → Prop) : vStore n S (.v (.pointer (some ⟨b, o, none⟩))) y K5 = (okE y = true ∧ (cd y).length = n ∧ oK (lk S.box b) fun ds => o + n ≤ ds.length ∧ K5 ⟨up S.box b (setAll ds o (cd y)), S.acc⟩) := by
  cases h : lk S.box b <;> simp [vStore, oK, h]
theorem q_storeX_ap (n l m s i o : Nat) (y : DV) (K5 : St → Prop) : vStoreX n S (.ap l m s i o) y K5 = (okE y = true ∧ (cd y).length = n ∧ bK (lk S.acc l) (fun s' xs => s' = s ∧ xs.length = m ∧ o + n ≤ s ∧ exK xs i fun d => oK (elSet d o n s y) fun d' => K5 ⟨S.box, up S.acc l (.arr s (xs.set i d'))⟩) (fun _ _ => False)) := by
  cases h : lk S.acc l with
  | none => simp [vStoreX, bK, h]
  | some o => cases o with
    | tl s' xs => simp [vStoreX, bK, h]
    | xo f => simp [vStoreX, bK, h]
    | arr s' xs =>
      simp only [vStoreX, bK, h, exK]
      refine propext (and_congr Iff.rfl (and_congr Iff.rfl (and_congr Iff.rfl (and_congr Iff.rfl (and_congr Iff.rfl (exists_congr fun d => and_congr Iff.rfl (and_congr Iff.rfl ?_)))))))
      cases elSet d o n s y with
      | none => simp [oK]
      | some x => simp [oK]
theorem q_cont_acc (l n : Nat) (K6 : Nat → List DV → Prop) : contK S (.acc l n) K6 = bK (lk S.acc l) (fun s xs => xs.length = n ∧ K6 s xs) (fun s xs => xs.length = n ∧ K6 s xs) := by
  cases h : lk S.acc l with
  | none => simp [contK, bK, h]
  | some o => cases o <;> simp [contK, bK, h]
theorem q_app_acc (l n s by' : Nat) (ys : List DV) : vApp s by' S (.acc l n) ys K2 = bK (lk S.acc l)
    (fun s' xs => s' = s ∧ xs.length = n ∧ (xs.length + ys.length) * by' ≤ 140737488355328 ∧ xs.length + ys.length ≤ maxLen ∧ K2 (.acc l (xs ++ ys).length) ⟨S.box, up S.acc l (.arr s (xs ++ ys))⟩)
    (fun s' xs => s' = s ∧ xs.length = n ∧ (xs.length + ys.length) * by' ≤ 140737488355328 ∧ xs.length + ys.length ≤ maxLen ∧ K2 (.acc l (xs ++ ys).length) ⟨S.box, up S.acc l (.tl s (xs ++ ys))⟩) := by
  cases h : lk S.acc l with
  | none => simp [vApp, bK, h]
  | some o => cases o <;> simp [vApp, bK, h]
theorem q_guard (ops : Array Oper) (fr : List DV) (j : Nat) (want : Bool) (A B : List DV → Prop) : guardK ops fr (some (j, want)) A B = gK ((ops[j]?).bind (·.dst)) fr want A B := by
  cases h : (ops[j]?).bind (·.dst) <;> simp only [guardK, gK, h] <;> rfl
theorem q_gK_some (t : Nat) (fr : List DV) (want : Bool) (A B : List DV → Prop) : gK (some t) fr want A B = gD t (fr.getD t ud) fr want A B := rfl
theorem q_gD_ud (t : Nat) (fr : List DV) (want : Bool) (A B : List DV → Prop) : gD t ud fr want A B = B fr := rfl
theorem q_func (fn : Fn) (a b : List DV) : vFunc fn a b K = oK (vals a) fun us => oK (vals b) fun vs => K (.v (.func fn us.toArray vs.toArray)) := by
  cases h : vals a <;> cases h' : vals b <;> simp [vFunc, oK, h, h']
theorem q_build (t : TypeId) (parts : List (Nat × DV)) : vBuild P t parts K = buK (tk P t) (zD P t) parts K := by
  cases h : tk P t <;> cases h' : zD P t <;> simp only [vBuild, buK, h, h'] <;> (rename_i fs _ zs; cases h2 : fillD fs zs parts <;> simp [oK])
theorem q_bu (fs : List (Nat × Nat × Bool)) (n : Nat) (zs : List DV) (parts : List (Nat × DV)) : buK (.st fs n) (.agg zs) parts K = oK (fillD fs zs parts) fun ds => K (.agg ds) := rfl
theorem q_bsl (e s b len : Nat) (z : DV) (parts : List (Nat × DV)) : vBuildSlice (.sl e s b true) z len parts K = (okE z = true ∧ (cd z).length = s ∧ len * s ≤ 16777216 ∧ oK (fillE s (List.replicate len z) parts) fun xs => K (.sl s true xs)) := by
  cases h : fillE s (List.replicate len z) parts <;> simp [vBuildSlice, oK, h]
end
end Aml

namespace Aml
open Go Go.RowKit
set_option linter.unusedVariables false
set_option linter.unusedSimpArgs false

/-- One abstract value, the store as it was. -/
def QY (P : Program) (w0 : W0) (S : St) (o : Oper) (fr : List DV) (d : DV) : Prop := YieldsE P w0 o (ev fr) S fun d' S' => d' = d ∧ S' = S
/-- Is the operation wanted? -/
def wantB (ops : Array Oper) (fr : List DV) (gd : Option (Nat × Bool)) : Option Bool := match gd with
  | none => some true
  | some (j, want) => match (ops[j]?).bind (·.dst) with
    | none => some false
    | some t => match fr.getD t ud with
      | .v (.bool b) => some (b == want)
      | .tup [] => some false
      | _ => none
/-- The walk in the text's order. -/
def LQ (P : Program) (w0 : W0) (S : St) (ops : Array Oper) (K : List DV → Prop) : List Oper → List DV → Prop
  | [], fr => K fr
  | o :: rest, fr => guardK ops fr o.guard (fun fr => ∃ d, QY P w0 S o fr d ∧ LQ P w0 S ops K rest (pt fr o.dst d)) (fun fr => LQ P w0 S ops K rest (pt fr o.dst ud))
def qOp (P : Program) (w0 : W0) (S : St) (ops : Array Oper) (i : Nat) (K : List DV → Prop) (fr : List DV) : Prop :=
  match ops[i]? with
  | none => K fr
  | some o => (wantB ops fr o.guard = some true ∧ ∃ d, QY P w0 S o fr d ∧ K (pt fr o.dst d)) ∨ (wantB ops fr o.guard = some false ∧ K (pt fr o.dst ud))
def wpAnyD (P : Program) (w0 : W0) (S : St) (md : Region.Mode) (ops : Array Oper) (K : List DV → Prop) : Nat → Array Bool → List DV → Prop
  | 0, listed, fr => Region.ready md ops listed = [] ∧ K fr
  | fuel + 1, listed, fr => (Region.ready md ops listed = [] → K fr) ∧ ∀ i ∈ Region.ready md ops listed, qOp P w0 S ops i (wpAnyD P w0 S md ops K fuel (listed.setIfInBounds i true)) fr
def YD (P : Program) (w0 : W0) (S : St) (ops : Array Oper) (o : Oper) (d : DV) (fr : List DV) : Prop :=
  (wantB ops fr o.guard = some true ∧ QY P w0 S o fr d) ∨ (wantB ops fr o.guard = some false ∧ d = ud)

section
variable {P : Program} {w0 : W0} {S : St} {ops : Array Oper} {md : Region.Mode}

theorem set_same {fr : List DV} {t : Nat} {d : DV} (h : fr.getD t ud = d) (hd : d ≠ ud) : fr.set t d = fr := by
  rcases Nat.lt_or_ge t fr.length with hl | hl
  · rw [List.getD_eq_getElem?_getD, List.getElem?_eq_getElem hl, Option.getD_some] at h
    rw [← h, List.set_getElem_self]
  · rw [List.getD_eq_getElem?_getD, List.getElem?_eq_none hl] at h
    exact absurd h.symm hd
theorem guardK_want {fr : List DV} {gd : Option (Nat × Bool)} {A B : List DV → Prop} (h : guardK ops fr gd A B) : (wantB ops fr gd = some true ∧ A fr) ∨ (wantB ops fr gd = some false ∧ B fr) := by
  unfold guardK at h
  unfold wantB
  split at h
  · exact .inl ⟨rfl, h⟩
  · rename_i j want
    split at h
    · rename_i hj
      exact .inr ⟨by simp only [hj], h⟩
    · rename_i t hj
      simp only [hj]
      split at h
      · rename_i b hb
        rw [hb]
        by_cases hw : b = want
        · have := h.1 hw
          rw [← hw, set_same hb (by simp [ud])] at this
          exact .inl ⟨by simp [hw], this⟩
        · have hw' : b = !want := by cases b <;> cases want <;> simp_all
          have := h.2 hw'
          rw [← hw', set_same hb (by simp [ud])] at this
          exact .inr ⟨by simp [hw], this⟩
      · rename_i hb
        rw [hb]
        exact .inr ⟨rfl, h⟩
      · exact h.elim
theorem want_guard {fr : List DV} {gd : Option (Nat × Bool)} {x : Bool} (h : wantB ops fr gd = some x) : guardK ops fr gd (fun _ => x = true) (fun _ => x = false) := by
  unfold wantB at h
  unfold guardK
  split at h
  · simpa using h.symm
  · rename_i j want
    split at h
    · rename_i hj; simp only [hj]; simpa using h.symm
    · rename_i t hj
      simp only [hj]
      split at h
      · rename_i b hb
        rw [hb]
        simp only [Option.some.injEq] at h
        exact ⟨fun e => by simp [← h, e], fun e => by simp [← h, e]⟩
      · rename_i hb; rw [hb]; simpa using h.symm
      · cases h
theorem wantB_sound {g : Gh} {fr : List DV} {a : Act} {o : Oper} {x : Bool} (hr : RepL g fr a.tmps.toList) (h : wantB ops fr o.guard = some x) : Region.wanted o (yielded ops a.tmps) = x := by
  rcases guard_sound (o := o) hr (want_guard h) with ⟨h1, _, _, h2⟩ | ⟨h1, _, _, h2⟩
  · rw [h1, h2]
  · rw [h1, h2]

theorem qOp_mono {i : Nat} {fr : List DV} {K K' : List DV → Prop} (h : ∀ fr, K fr → K' fr) (hh : qOp P w0 S ops i K fr) : qOp P w0 S ops i K' fr := by
  unfold qOp at *
  split
  · rename_i ho; simp only [ho] at hh; exact h _ hh
  · rename_i o ho
    simp only [ho] at hh
    rcases hh with ⟨h1, d, h2, h3⟩ | ⟨h1, h2⟩
    · exact .inl ⟨h1, d, h2, h _ h3⟩
    · exact .inr ⟨h1, h _ h2⟩
theorem YD.qOp {i : Nat} {o : Oper} {d : DV} {fr : List DV} (hi : ops[i]? = some o) (hy : YD P w0 S ops o d fr) {K : List DV → Prop} (h : K (pt fr o.dst d)) : qOp P w0 S ops i K fr := by
  unfold Aml.qOp
  simp only [hi]
  rcases hy with ⟨h1, h2⟩ | ⟨h1, rfl⟩
  · exact .inl ⟨h1, d, h2, h⟩
  · exact .inr ⟨h1, h⟩
theorem yd_of_qOp {i : Nat} {o : Oper} {fr : List DV} {K : List DV → Prop} (hi : ops[i]? = some o) (h : qOp P w0 S ops i K fr) : ∃ d, YD P w0 S ops o d fr ∧ K (pt fr o.dst d) := by
  unfold qOp at h
  simp only [hi] at h
  rcases h with ⟨h1, d, h2, h3⟩ | ⟨h1, h2⟩
  · exact ⟨d, .inl ⟨h1, h2⟩, h3⟩
  · exact ⟨ud, .inr ⟨h1, rfl⟩, h2⟩

theorem yields_congr {o : Oper} {ρD ρD' : Operand → DV} {K : DV → St → Prop} (h : ∀ x, x ∈ o.op.operands.toList → ρD x = ρD' x) (hy : YieldsE P w0 o ρD S K) : YieldsE P w0 o ρD' S K :=
  fun g w ρ h1 h2 h3 => hy g w ρ h1 (fun x hx => by rw [h x hx]; exact h2 x hx) h3
theorem getD_set {fr : List DV} {t t' : Nat} {d : DV} (h : t ≠ t') : (fr.set t d).getD t' ud = fr.getD t' ud := by
  simp only [List.getD_eq_getElem?_getD, List.getElem?_set, if_neg h]
theorem ev_put {fr : List DV} {dst : Option Tmp} {d : DV} {o : Oper} (h : ∀ t, dst = some t → t ∉ o.looksAt ops) : ∀ x, x ∈ o.op.operands.toList → ev (pt fr dst d) x = ev fr x := by
  intro x hx
  cases dst with
  | none => rfl
  | some t =>
    cases x with
    | tmp t' =>
      have : t ≠ t' := by
        rintro rfl
        exact h t rfl (List.mem_append_left _ (List.mem_filterMap.2 ⟨.tmp t, hx, rfl⟩))
      exact getD_set this
    | _ => rfl
theorem want_put {fr : List DV} {dst : Option Tmp} {d : DV} {o : Oper} (h : ∀ t, dst = some t → t ∉ o.looksAt ops) : wantB ops (pt fr dst d) o.guard = wantB ops fr o.guard := by
  cases dst with
  | none => rfl
  | some t =>
    unfold wantB
    cases hg : o.guard with
    | none => rfl
    | some gw =>
      obtain ⟨j, want⟩ := gw
      simp only
      cases ht : (ops[j]?).bind (·.dst) with
      | none => rfl
      | some t' =>
        have hne : t ≠ t' := fun e => h t rfl (by subst e; simp [Oper.looksAt, hg, ht])
        simp only [pt]
        rw [getD_set hne]
theorem pt_comm (fr : List DV) {x y : Option Tmp} (d e : DV) (h : ∀ t, x = some t → y ≠ some t) : pt (pt fr x d) y e = pt (pt fr y e) x d := by
  cases x with
  | none => rfl
  | some t =>
    cases y with
    | none => rfl
    | some u =>
      have hne : t ≠ u := fun he => h t rfl (he ▸ rfl)
      simp only [pt]
      exact List.set_comm _ _ hne
theorem YD.put {o : Oper} {d : DV} {fr : List DV} (hy : YD P w0 S ops o d fr) {dst : Option Tmp} {e : DV} (h : ∀ t, dst = some t → t ∉ o.looksAt ops) : YD P w0 S ops o d (pt fr dst e) := by
  unfold YD at *
  rw [want_put h]
  exact hy.imp (fun ⟨a, b⟩ => ⟨a, yields_congr (fun x hx => (ev_put (ops := ops) h x hx).symm) b⟩) id
theorem qOp_put {j : Nat} {oi oj : Oper} {d : DV} (hj : ops[j]? = some oj) (hap : oi.apart ops oj = true) {K : List DV → Prop} {fr : List DV} (hy : YD P w0 S ops oi d fr) (h : qOp P w0 S ops j K (pt fr oi.dst d)) :
    qOp P w0 S ops j (fun fr' => YD P w0 S ops oi d fr' ∧ K (pt fr' oi.dst d)) fr := by
  obtain ⟨h1, h2, h3⟩ := Oper.apart_spec hap
  unfold Aml.qOp at *
  simp only [hj] at *
  rw [want_put h1] at h
  rcases h with ⟨hw, e, hq, hk⟩ | ⟨hw, hk⟩
  · exact .inl ⟨hw, e, yields_congr (fun x hx => ev_put (ops := ops) h1 x hx) hq, hy.put h3, by rw [← pt_comm fr d e h2]; exact hk⟩
  · exact .inr ⟨hw, hy.put h3, by rw [← pt_comm fr d ud h2]; exact hk⟩

theorem wpAnyD_first {K : List DV → Prop} {i : Nat} {oi : Oper} {d : DV} (hi : ops[i]? = some oi) :
    ∀ (fuel : Nat) (listed : Array Bool) (fr : List DV),
      (∀ j oj, ops[j]? = some oj → j ≠ i → listed.getD j true = false → (∀ e ∈ oj.after, Region.binds md e = true → e.on ≠ i) → oi.apart ops oj = true) →
      i ∈ Region.ready md ops listed → YD P w0 S ops oi d fr →
      wpAnyD P w0 S md ops K fuel (listed.setIfInBounds i true) (pt fr oi.dst d) → wpAnyD P w0 S md ops K (fuel + 1) listed fr := by
  intro fuel
  induction fuel with
  | zero =>
    intro listed fr _ hr hy H
    refine ⟨fun h => (by rw [h] at hr; cases hr), fun j hj => ?_⟩
    by_cases hji : j = i
    · subst hji; exact hy.qOp hi H
    · have := ready_mono hj hji
      rw [H.1] at this
      cases this
  | succ fuel ih =>
    intro listed fr hfree hr hy H
    refine ⟨fun h => (by rw [h] at hr; cases hr), fun j hj => ?_⟩
    by_cases hji : j = i
    · subst hji; exact hy.qOp hi H
    · have h1 := H.2 j (ready_mono hj hji)
      obtain ⟨hjun, oj, hoj, hall⟩ := mem_ready.1 hj
      have hnot : ∀ e ∈ oj.after, Region.binds md e = true → e.on ≠ i := fun e he hb heq => by
        have h1 := hall e he hb
        have h0 := (mem_ready.1 hr).1
        rw [heq] at h1
        rcases Nat.lt_or_ge i listed.size with h' | h'
        · simp [h'] at h0 h1; rw [h0] at h1; cases h1
        · simp [Array.getElem?_eq_none h'] at h1
      have h2 := qOp_put hoj (hfree j oj hoj hji hjun hnot) hy h1
      have hfree' : ∀ k ok, ops[k]? = some ok → k ≠ i → (listed.setIfInBounds j true).getD k true = false →
          (∀ e ∈ ok.after, Region.binds md e = true → e.on ≠ i) → oi.apart ops ok = true := fun k ok hk hki hun hno => by
        refine hfree k ok hk hki ?_ hno
        by_cases hjk : j = k
        · subst hjk; exact hjun
        · rw [getD_set_ne true hjk] at hun; exact hun
      refine qOp_mono (fun fr' h3 => ih (listed.setIfInBounds j true) fr' hfree' (ready_mono hr (Ne.symm hji)) h3.1 ?_) h2
      rw [Array.setIfInBounds_comm _ _ hji]
      exact h3.2

theorem wpAnyD_lex {K : List DV → Prop} : ∀ (l : List Oper) (k : Nat) (listed : Array Bool) (fr : List DV), (∀ j, l[j]? = ops[k + j]?) →
    Region.lexFrom md ops l.length k listed = true → LQ P w0 S ops K l fr → wpAnyD P w0 S md ops K l.length listed fr
  | [], _, _, _, _, hB, h => ⟨by simpa [Region.lexFrom] using hB, h⟩
  | o :: l, k, listed, fr, hl, hB, h => by
    have h0 : ops[k]? = some o := by simpa using (hl 0).symm
    simp only [List.length_cons, Region.lexFrom, Bool.and_eq_true] at hB
    obtain ⟨⟨hr, hf⟩, hB'⟩ := hB
    have hst : qOp P w0 S ops k (LQ P w0 S ops K l) fr := by
      unfold qOp
      simp only [h0]
      exact guardK_want h
    obtain ⟨d, hy, hK⟩ := yd_of_qOp h0 hst
    exact wpAnyD_first h0 l.length listed fr (Region.free_spec h0 hf) (by simpa using hr) hy
      (wpAnyD_lex l (k + 1) _ _ (fun j => by have := hl (j + 1); simpa [Nat.add_assoc, Nat.add_comm 1 j] using this) hB' hK)

end
end Aml

namespace Aml
open Go Go.RowKit
set_option linter.unusedVariables false
set_option linter.unusedSimpArgs false

section
variable {P : Program} {w0 : W0} {S : St} {K : DV → Prop}

theorem det_pick {c a b : DV} (h : vPick c a b K) : ∃ d, vPick c a b (· = d) ∧ K d := by
  unfold vPick at *
  split at h
  · rename_i t
    cases t
    · exact ⟨b, ⟨by simp, fun _ => rfl⟩, h.2 rfl⟩
    · exact ⟨a, ⟨fun _ => rfl, by simp⟩, h.1 rfl⟩
  · exact h.elim
theorem det_hd {ds : List DV} (h : hdK ds K) : ∃ d, hdK ds (· = d) ∧ K d := by
  unfold hdK at *
  split at h
  · exact ⟨_, rfl, h⟩
  · exact h.elim
theorem det_ld {k : TK} {ds : List DV} (h : ldK k ds K) : ∃ d, ldK k ds (· = d) ∧ K d := by
  unfold ldK at *
  split at h
  · exact ⟨_, ⟨h.1, rfl⟩, h.2⟩
  · exact ⟨_, ⟨h.1, rfl⟩, h.2⟩
  · exact h.elim
  · exact det_hd h
theorem det_load {k : TK} {x : DV} (h : vLoad k S x K) : ∃ d, vLoad k S x (· = d) ∧ K d := by
  unfold vLoad at *
  split at h
  · split at h
    · rename_i hb; (try simp only [hb]); exact det_ld h
    · exact h.elim
  · exact det_ld h
  · split at h
    · rename_i hb
      obtain ⟨h1, h2, d, h3, h4, h5⟩ := h
      obtain ⟨e, q1, q2⟩ := det_ld h5
      exact ⟨e, by first | exact ⟨h1, h2, d, h3, h4, q1⟩ | (simp only [hb]; exact ⟨h1, h2, d, h3, h4, q1⟩), q2⟩
    · rename_i hb
      obtain ⟨h1, h2, d, h3, h4, h5⟩ := h
      obtain ⟨e, q1, q2⟩ := det_ld h5
      exact ⟨e, by first | exact ⟨h1, h2, d, h3, h4, q1⟩ | (simp only [hb]; exact ⟨h1, h2, d, h3, h4, q1⟩), q2⟩
    · exact h.elim
  · exact h.elim
theorem det_field {k : TK} {f : Nat} {x : DV} (h : vField k f x K) : ∃ d, vField k f x (· = d) ∧ K d := by
  unfold vField at *
  split at h
  · split at h
    · rename_i hf
      try simp only [hf]
      obtain ⟨h1, h⟩ := h
      split at h
      · exact ⟨_, ⟨h1, rfl⟩, h⟩
      · exact ⟨_, ⟨h1, h.1, rfl⟩, h.2⟩
      · exact ⟨_, ⟨h1, rfl⟩, h⟩
      · exact h.elim
    · exact h.elim
  · exact h.elim
theorem det_indexAddr {k : TK} {x i : DV} (h : vIndexAddr k x i K) : ∃ d, vIndexAddr k x i (· = d) ∧ K d := by
  unfold vIndexAddr at *
  split at h
  · split at h
    · obtain ⟨h1, h2, h3, h4⟩ := h
      rename_i z _ _ _ xs
      have hlt : z.toNat < xs.length := by omega
      obtain ⟨h5, h6⟩ := h4 _ (List.getElem?_eq_getElem hlt)
      exact ⟨_, ⟨h1, h2, h3, fun d hd => by rw [List.getElem?_eq_getElem hlt] at hd; cases hd; exact ⟨h5, rfl⟩⟩, h6⟩
    · exact ⟨_, ⟨h.1, h.2.1, rfl⟩, h.2.2⟩
    · exact h.elim
  · exact h.elim
theorem det_index {k : TK} {x i : DV} (h : vIndex k x i K) : ∃ d, vIndex k x i (· = d) ∧ K d := by
  unfold vIndex at *
  split at h
  · obtain ⟨h1, h2, h3⟩ := h
    rename_i s _ z
    have hlt : z.toNat < s.data.toList.length := by simp; have : s.data.size = s.size := rfl; omega
    exact ⟨_, ⟨h1, h2, fun d hd => by rw [List.getElem?_eq_getElem hlt] at hd; cases hd; rfl⟩, h3 _ (List.getElem?_eq_getElem hlt)⟩
  · exact h.elim
theorem det_fieldV {k : TK} {f : Nat} {x : DV} (h : vFieldV k f x K) : ∃ d, vFieldV k f x (· = d) ∧ K d := by
  unfold vFieldV at *
  split at h
  · split at h
    · rename_i hf
      try simp only [hf]
      split at h
      · obtain ⟨h1, h⟩ := h
        split at h
        · exact ⟨_, ⟨h1, rfl⟩, h⟩
        · split at h
          · rename_i hd; (try simp only [hd]); exact ⟨_, ⟨h1, rfl⟩, h⟩
          · exact h.elim
      · exact h.elim
    · exact h.elim
  · exact h.elim
theorem det_extract {i : Nat} {x : DV} (h : vExtract i x K) : ∃ d, vExtract i x (· = d) ∧ K d := by
  unfold vExtract at *
  split at h
  · split at h
    · rename_i hd; (try simp only [hd]); exact ⟨_, rfl, h⟩
    · exact h.elim
  · exact h.elim
theorem det_binI {op : BinOp} {k : IntKind} {m n : Int} (h : vBinI op k m n K) : ∃ d, vBinI op k m n (· = d) ∧ K d := by
  cases op <;> simp only [vBinI] at h ⊢ <;> first | exact ⟨_, rfl, h⟩ | exact ⟨_, ⟨h.1, rfl⟩, h.2⟩
theorem det_binS {op : BinOp} {x y : ByteArray} (h : vBinS op x y K) : ∃ d, vBinS op x y (· = d) ∧ K d := by
  cases op <;> simp only [vBinS] at h ⊢ <;> first | exact ⟨_, rfl, h⟩ | exact ⟨_, ⟨h.1, rfl⟩, h.2⟩
theorem det_bin {op : BinOp} {t : TK} {cx cy : Bool} {x y : DV} (h : vBin op t cx cy x y K) : ∃ d, vBin op t cx cy x y (· = d) ∧ K d := by
  unfold vBin at *
  split at h
  · obtain ⟨d, q1, q2⟩ := det_binI h.2
    exact ⟨d, ⟨h.1, q1⟩, q2⟩
  · exact det_binS h
  · split at h <;> first | exact ⟨_, rfl, h⟩ | exact h.elim
  · split at h <;> first | exact ⟨_, ⟨h.1, rfl⟩, h.2⟩ | exact h.elim
  · split at h <;> first | exact ⟨_, rfl, h⟩ | exact h.elim
  · split at h <;> first | exact ⟨_, rfl, h⟩ | exact h.elim
  · split at h <;> first | exact ⟨_, ⟨h.1, rfl⟩, h.2⟩ | exact h.elim
  · exact h.elim
theorem det_binA {op : BinOp} {t : TypeId} {cx cy : Bool} {x y : DV} (h : vBinA P op t cx cy x y K) : ∃ d, vBinA P op t cx cy x y (· = d) ∧ K d := by
  unfold vBinA at *
  split at h
  · unfold vAggEq at *
    split at h
    · rename_i he
      obtain ⟨q, q1, q2⟩ := aggK_det h
      exact ⟨_, aggK_mono (fun r e => by rw [e]) q1, q2⟩
    · rename_i he
      obtain ⟨q, q1, q2⟩ := aggK_det h
      exact ⟨_, aggK_mono (fun r e => by rw [e]) q1, q2⟩
    · exact h.elim
  · exact det_bin h
theorem det_un {op : UnOp} {x : DV} (h : vUn op x K) : ∃ d, vUn op x (· = d) ∧ K d := by
  unfold vUn at *
  split at h <;> first | exact ⟨_, rfl, h⟩ | exact h.elim
theorem det_conv {a b : TK} {x : DV} (h : vConv a b x K) : ∃ d, vConv a b x (· = d) ∧ K d := by
  unfold vConv at *
  split at h <;> first | exact ⟨_, rfl, h⟩ | exact h.elim
theorem det_func {fn : Fn} {a b : List DV} (h : vFunc fn a b K) : ∃ d, vFunc fn a b (· = d) ∧ K d := by
  unfold vFunc at *
  split at h <;> first | exact ⟨_, rfl, h⟩ | exact h.elim
theorem det_bnd {x : Option DV} {z : Int} {F : (DV → Prop) → Int → Prop} (hF : ∀ n, F K n → ∃ d, F (· = d) n ∧ K d) (h : bnd x z (F K)) : ∃ d, bnd x z (F (· = d)) ∧ K d := by
  unfold bnd at *
  split at h <;> first | exact hF _ h | exact h.elim
theorem det_slice {k : TK} {x : DV} {lo hi mx : Option DV} (h : vSlice k x lo hi mx K) : ∃ d, vSlice k x lo hi mx (· = d) ∧ K d := by
  unfold vSlice at *
  split at h
  · obtain ⟨h1, h⟩ := h
    rename_i e s b s' f xs
    obtain ⟨d, q1, q2⟩ := det_bnd (F := fun K l => bnd hi xs.length fun h => bnd mx h fun m => 0 ≤ l ∧ l ≤ h ∧ h ≤ m ∧ m ≤ xs.length ∧
      K (.sl s (if mx.isSome then decide (m = h) else (f && (hi.isNone || xs.isEmpty))) ((xs.take h.toNat).drop l.toNat))) (fun l h => det_bnd (F := fun K h => bnd mx h fun m => 0 ≤ l ∧ l ≤ h ∧ h ≤ m ∧ m ≤ xs.length ∧
      K (.sl s (if mx.isSome then decide (m = h) else (f && (hi.isNone || xs.isEmpty))) ((xs.take h.toNat).drop l.toNat))) (fun hh h => det_bnd (F := fun K m => 0 ≤ l ∧ l ≤ hh ∧ hh ≤ m ∧ m ≤ xs.length ∧
      K (.sl s (if mx.isSome then decide (m = hh) else (f && (hi.isNone || xs.isEmpty))) ((xs.take hh.toNat).drop l.toNat))) (fun m h => ⟨_, ⟨h.1, h.2.1, h.2.2.1, h.2.2.2.1, rfl⟩, h.2.2.2.2⟩) h) h) h
    exact ⟨d, ⟨h1, q1⟩, q2⟩
  · obtain ⟨h1, h⟩ := h
    rename_i s
    obtain ⟨d, q1, q2⟩ := det_bnd (F := fun K l => bnd hi s.size fun h => 0 ≤ l ∧ l ≤ h ∧ h ≤ s.size ∧ K (.v (.string (s.extract l.toNat h.toNat)))) (fun l h => det_bnd (F := fun K h => 0 ≤ l ∧ l ≤ h ∧ h ≤ s.size ∧ K (.v (.string (s.extract l.toNat h.toNat))))
      (fun hh h => ⟨_, ⟨h.1, h.2.1, h.2.2.1, rfl⟩, h.2.2.2⟩) h) h
    exact ⟨d, ⟨h1, q1⟩, q2⟩
  · rename_i e s by' b o n c
    exact det_bnd (F := fun K l => bnd hi n fun h => bnd mx c fun m => 0 ≤ l ∧ l ≤ h ∧ h ≤ m ∧ m ≤ c ∧
      K (.v (.slice (some ⟨b, if m.toNat = l.toNat then o else o + l.toNat * s, none⟩) (h.toNat - l.toNat) (m.toNat - l.toNat)))) (fun l h => det_bnd (F := fun K h => bnd mx c fun m => 0 ≤ l ∧ l ≤ h ∧ h ≤ m ∧ m ≤ c ∧
      K (.v (.slice (some ⟨b, if m.toNat = l.toNat then o else o + l.toNat * s, none⟩) (h.toNat - l.toNat) (m.toNat - l.toNat)))) (fun hh h => det_bnd (F := fun K m => 0 ≤ l ∧ l ≤ hh ∧ hh ≤ m ∧ m ≤ c ∧
      K (.v (.slice (some ⟨b, if m.toNat = l.toNat then o else o + l.toNat * s, none⟩) (hh.toNat - l.toNat) (m.toNat - l.toNat)))) (fun m h => ⟨_, ⟨h.1, h.2.1, h.2.2.1, h.2.2.2.1, rfl⟩, h.2.2.2.2⟩) h) h) h
  · exact h.elim
theorem det_len {k : TK} {x : DV} (h : vLen k x K) : ∃ d, vLen k x (· = d) ∧ K d := by
  unfold vLen at *
  split at h <;> first | exact ⟨_, rfl, h⟩ | exact h.elim
theorem det_cap {k : TK} {x : DV} (h : vCap k x K) : ∃ d, vCap k x (· = d) ∧ K d := by
  unfold vCap at *
  split at h <;> first | exact ⟨_, rfl, h⟩ | exact h.elim
theorem det_min {x y : DV} (h : vMin x y K) : ∃ d, vMin x y (· = d) ∧ K d := by
  unfold vMin at *
  split at h <;> first | exact ⟨_, rfl, h⟩ | exact h.elim
theorem det_max {x y : DV} (h : vMax x y K) : ∃ d, vMax x y (· = d) ∧ K d := by
  unfold vMax at *
  split at h <;> first | exact ⟨_, rfl, h⟩ | exact h.elim
theorem det_build {t : TypeId} {parts : List (Nat × DV)} (h : vBuild P t parts K) : ∃ d, vBuild P t parts (· = d) ∧ K d := by
  unfold vBuild at *
  split at h
  · split at h
    · rename_i hf; (try simp only [hf]); exact ⟨_, rfl, h⟩
    · exact h.elim
  · exact h.elim
theorem det_buildSlice {k : TK} {z : DV} {len : Nat} {parts : List (Nat × DV)} (h : vBuildSlice k z len parts K) : ∃ d, vBuildSlice k z len parts (· = d) ∧ K d := by
  unfold vBuildSlice at *
  split at h
  · obtain ⟨h1, h2, h3, h⟩ := h
    split at h
    · rename_i hf; (try simp only [hf]); exact ⟨_, ⟨h1, h2, h3, rfl⟩, h⟩
    · exact h.elim
  · exact h.elim

def nacc : DV → Bool
  | .acc _ _ => false
  | _ => true
def naccA : DV → Bool
  | .agg ds => ds.all nacc
  | d => nacc d
theorem shr1_id {K : DV → St → Prop} {d : DV} (hd : nacc d = true) (h : K d S) : shr1 S d K := by
  cases d <;> first | (cases hd; done) | exact h
theorem sliceX_id {K : DV → St → Prop} {k : TK} {x : DV} {lo hi mx : Option DV} (hx : nacc x = true) (h : vSliceS k S x lo hi mx K) : vSliceX k S x lo hi mx K := by
  cases x <;> first | (cases hx; done) | exact h
theorem shr1s_id : ∀ {ds : List DV} {K : List DV → St → Prop}, ds.all nacc = true → K ds S → shr1s S ds K
  | [], K, _, h => h
  | d :: ds, K, hd, h => by
    simp only [List.all_cons, Bool.and_eq_true] at hd
    exact shr1_id hd.1 (shr1s_id hd.2 h)
theorem shr_id {K : DV → St → Prop} {d : DV} (hd : naccA d = true) (h : K d S) : shr S d K := by
  cases d with
  | agg ds => exact shr1s_id hd h
  | acc l n => cases hd
  | _ => exact h
theorem shrs_id : ∀ {ds : List DV} {K : List DV → St → Prop}, ds.all naccA = true → K ds S → shrs S ds K
  | [], K, _, h => h
  | d :: ds, K, hd, h => by
    simp only [List.all_cons, Bool.and_eq_true] at hd
    exact shr_id hd.1 (shrs_id hd.2 h)

theorem callK_id {ds : List DV} {F : List DV → St → Prop} (hd : ds.all naccA = true) (h : F ds S) : callK S ds F := by
  unfold callK
  split
  · exact .inl h
  · exact shrs_id hd h
/-- A call that hands back one value and leaves the store. -/
def vCallQ (P : Program) (w0 : W0) (cal : DV) (ds : List DV) (S : St) (K : DV → Prop) : Prop := match cal with
  | .v (.func (.func f) a cap) => a.size = 0 ∧ okF P f = true ∧ cap.toList.all (fun u => u.oneCell') = true ∧ ds.all naccA = true ∧ ∃ d, ACall P w0 f (ds ++ cap.toList.map .v) S (fun d' S' => d' = d ∧ S' = S) ∧ K d
  | _ => False
theorem det_lookup {m : Option (KK × DV)} {S : St} {x y : DV} {ok : Bool} {K : DV → Prop} (h : vLookup m S x y ok K) : ∃ d, vLookup m S x y ok (· = d) ∧ K d := by
  unfold vLookup at *
  cases m with
  | none => exact h.elim
  | some p =>
    simp only [oK] at h ⊢
    obtain ⟨h0, h⟩ := h
    cases hk : kVal y with
    | none => rw [hk] at h; exact h.elim
    | some k =>
      rw [hk] at h
      simp only at h ⊢
      obtain ⟨h1, h⟩ := h
      split at h
      · exact ⟨_, ⟨h0, h1, rfl⟩, h⟩
      · split at h
        · obtain ⟨h2, h⟩ := h
          cases hg : mGet _ k with
          | none => rw [hg] at h; exact ⟨_, ⟨h0, h1, h2, rfl⟩, h⟩
          | some d => rw [hg] at h; exact ⟨_, ⟨h0, h1, h2, rfl⟩, h⟩
        · exact h.elim
      · exact h.elim
def vcOpQ (P : Program) (w0 : W0) (op : Op) (fr : List DV) (S : St) (K : DV → Prop) : Prop := match op with
  | .move x => K (ev fr x)
  | .assign x => K (ev fr x)
  | .pick c a b => vPick (ev fr c) (ev fr a) (ev fr b) K
  | .load t x => vLoad (tk P t) S (ev fr x) K
  | .fieldAddr t x f => vField (tk P t) f (ev fr x) K
  | .indexAddr t x i => vIndexAddr (tk P t) (ev fr x) (ev fr i) K
  | .index t x i => vIndex (tk P t) (ev fr x) (ev fr i) K
  | .field t x f => vFieldV (tk P t) f (ev fr x) K
  | .extract x i => vExtract i (ev fr x) K
  | .nilCheck x => notNil (ev fr x) = true ∧ K (ev fr x)
  | .binOp b t x y _ => isNilC y = false ∧ vBinA P b t (isC x) (isC y) (ev fr x) (ev fr y) K
  | .unOp b _ x => vUn b (ev fr x) K
  | .convert s d x => vConv (tk P s) (tk P d) (ev fr x) K
  | .makeInterface t x => isIfc (tk P t) = false ∧ naccA (ev fr x) = true ∧ K (.ifc t (ev fr x))
  | .makeFunc fn a b => vFunc fn (a.toList.map (ev fr)) (b.toList.map (ev fr)) K
  | .slice t x lo hi mx => (mx.isSome = true → hi.isSome = true) ∧ nacc (ev fr x) = true ∧ vSlice (tk P t) (ev fr x) (lo.map (ev fr)) (hi.map (ev fr)) (mx.map (ev fr)) K
  | .build t parts => (parts.toList.map fun p => ev fr p.2).all naccA = true ∧ vBuild P t ((parts.toList.map (·.1)).zip (parts.toList.map fun p => ev fr p.2)) K
  | .buildSlice t len parts => (parts.toList.map fun p => ev fr p.2).all naccA = true ∧ vBuildSlice (tk P t) (zD P (elT P t)) len ((parts.toList.map (·.1)).zip (parts.toList.map fun p => ev fr p.2)) K
  | .lookup t x y ok => vLookup (mpT P t) S (ev fr x) (ev fr y) ok K
  | .call c => match c.callee with
    | .builtin .len => (match c.args.toList, c.argTypes.toList with
      | [x], [t] => vLen (tk P t) (ev fr x) K
      | _, _ => False)
    | .builtin .cap => (match c.args.toList, c.argTypes.toList with
      | [x], [t] => vCap (tk P t) (ev fr x) K
      | _, _ => False)
    | .builtin .min => (match c.args.toList with
      | [x, y] => vMin (ev fr x) (ev fr y) K
      | _ => False)
    | .builtin .max => (match c.args.toList with
      | [x, y] => vMax (ev fr x) (ev fr y) K
      | _ => False)
    | .value cal => vCallQ P w0 (ev fr cal) (c.args.toList.map (ev fr)) S K
    | _ => False
  | _ => False

theorem vcOpQ_sound {o : Oper} {fr : List DV} (hs : okSl o.op = true) (h : vcOpQ P w0 o.op fr S K) : ∃ d, QY P w0 S o fr d ∧ K d := by
  have fin : ∀ {d : DV}, vcOp P w0 o.op fr S (fun d' S' => d' = d ∧ S' = S) → K d → ∃ d, QY P w0 S o fr d ∧ K d := fun h1 h2 => ⟨_, vcOp_sound hs h1, h2⟩
  cases hop : o.op with
  | move x => rw [hop] at h; exact fin (by rw [hop]; exact ⟨rfl, rfl⟩) h
  | assign x => rw [hop] at h; exact fin (by rw [hop]; exact ⟨rfl, rfl⟩) h
  | pick c a b => rw [hop] at h; obtain ⟨d, q1, q2⟩ := det_pick h; exact fin (by rw [hop]; simpa [vcOp] using q1) q2
  | load t x => rw [hop] at h; obtain ⟨d, q1, q2⟩ := det_load h; exact fin (by rw [hop]; simpa [vcOp] using q1) q2
  | fieldAddr t x f => rw [hop] at h; obtain ⟨d, q1, q2⟩ := det_field h; exact fin (by rw [hop]; simpa [vcOp] using q1) q2
  | indexAddr t x i => rw [hop] at h; obtain ⟨d, q1, q2⟩ := det_indexAddr h; exact fin (by rw [hop]; simpa [vcOp] using q1) q2
  | index t x i => rw [hop] at h; obtain ⟨d, q1, q2⟩ := det_index h; exact fin (by rw [hop]; simpa [vcOp] using q1) q2
  | field t x f => rw [hop] at h; obtain ⟨d, q1, q2⟩ := det_fieldV h; exact fin (by rw [hop]; simpa [vcOp] using q1) q2
  | extract x i => rw [hop] at h; obtain ⟨d, q1, q2⟩ := det_extract h; exact fin (by rw [hop]; simpa [vcOp] using q1) q2
  | nilCheck x => rw [hop] at h; exact fin (by rw [hop]; exact ⟨h.1, rfl, rfl⟩) h.2
  | binOp b t x y t' => rw [hop] at h; obtain ⟨d, q1, q2⟩ := det_binA h.2; exact fin (by rw [hop]; simp only [vcOp, h.1]; simpa using q1) q2
  | unOp b t x => rw [hop] at h; obtain ⟨d, q1, q2⟩ := det_un h; exact fin (by rw [hop]; simpa [vcOp] using q1) q2
  | convert s d x => rw [hop] at h; obtain ⟨d', q1, q2⟩ := det_conv h; exact fin (by rw [hop]; simpa [vcOp] using vConvS_of (ke := tk P (elT P s)) (S := S) q1) q2
  | makeInterface t x => rw [hop] at h; exact fin (by rw [hop]; exact ⟨h.1, shr_id h.2.1 ⟨rfl, rfl⟩⟩) h.2.2
  | makeFunc fn a b => rw [hop] at h; obtain ⟨d, q1, q2⟩ := det_func h; exact fin (by rw [hop]; simpa [vcOp] using q1) q2
  | slice t x lo hi mx => rw [hop] at h; obtain ⟨d, q1, q2⟩ := det_slice h.2.2; exact fin (by rw [hop]; exact ⟨h.1, sliceX_id h.2.1 (shr1_id h.2.1 (by simpa using q1))⟩) q2
  | lookup t x y ok => rw [hop] at h; obtain ⟨d, q1, q2⟩ := det_lookup h; exact fin (by rw [hop]; simpa [vcOp] using q1) q2
  | build t parts => rw [hop] at h; obtain ⟨d, q1, q2⟩ := det_build h.2; exact fin (by rw [hop]; exact shrs_id h.1 (by simpa using q1)) q2
  | buildSlice t len parts => rw [hop] at h; obtain ⟨d, q1, q2⟩ := det_buildSlice h.2; exact fin (by rw [hop]; exact shrs_id h.1 (by simpa using q1)) q2
  | call c =>
    rw [hop] at h
    obtain ⟨callee, args, ts⟩ := c
    simp only [vcOpQ] at h
    split at h
    · split at h
      · rename_i x t e1 e2
        obtain ⟨d, q1, q2⟩ := det_len h
        exact fin (by rw [hop]; simp only [vcOp, e1, e2]; simpa using q1) q2
      · exact h.elim
    · split at h
      · rename_i x t e1 e2
        obtain ⟨d, q1, q2⟩ := det_cap h
        exact fin (by rw [hop]; simp only [vcOp, e1, e2]; simpa using q1) q2
      · exact h.elim
    · split at h
      · rename_i x y e1
        obtain ⟨d, q1, q2⟩ := det_min h
        exact fin (by rw [hop]; simp only [vcOp, e1]; simpa using q1) q2
      · exact h.elim
    · split at h
      · rename_i x y e1
        obtain ⟨d, q1, q2⟩ := det_max h
        exact fin (by rw [hop]; simp only [vcOp, e1]; simpa using q1) q2
      · exact h.elim
    · rename_i cal
      unfold vCallQ at h
      split at h
      · rename_i f a cap hcal
        obtain ⟨h1, h2, h3, h4, d, h5, h6⟩ := h
        exact fin (by rw [hop]; simp only [vcOp, vCall, hcal]; exact ⟨h1, h3, by rw [h2, gX_t]; exact callK_id h4 h5⟩) h6
      · exact h.elim
    · exact h.elim
  | _ => rw [hop] at h; exact h.elim

end
end Aml
