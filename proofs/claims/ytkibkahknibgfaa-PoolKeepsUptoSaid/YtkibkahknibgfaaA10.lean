/-
  Operations that make or write: boxes, literals of slices, stores, append. By an AI agent.
-/
import Derived.Test.YtkibkahknibgfaaA9
namespace Aml
open Go Go.RowKit
set_option linter.unusedVariables false
set_option linter.unusedSimpArgs false

/-- A name that is not there yet. -/
def nin {α : Type} : List (Nat × α) → Nat → Prop
  | [], _ => True
  | (k, _) :: t, l => ¬ k = l ∧ ¬ l = k ∧ nin t l
theorem nin_of {α : Type} {l : Nat} : ∀ {xs : List (Nat × α)}, (∀ p, p ∈ xs → p.1 ≠ l) → nin xs l
  | [], _ => trivial
  | (k, x) :: t, h => ⟨h _ List.mem_cons_self, fun e => h _ List.mem_cons_self e.symm, nin_of fun p hp => h p (List.mem_cons_of_mem _ hp)⟩

section
variable {P : Program} {w0 : World}

theorem below_alloc (w : World) (o : Obj) : Below w.heap.size w (w.alloc o) := (Below.refl _ _).alloc (Nat.le_refl _) o
theorem below_drew (w : World) : Below w.heap.size w w.drew := (Below.refl _ _).drew

/-- A new box. -/
theorem y_box {o : Oper} {t : TypeId} {x : Operand} (ho : o.op = .box t x) {ρD : Operand → DV} {S : St} {K : DV → St → Prop}
    (h : okE (ρD x) = true ∧ ∀ b, nin S.box b → K (.v (.pointer (some ⟨b, 0, none⟩))) ⟨(b, cd (ρD x)) :: S.box, S.acc⟩) : YieldsE P w0 o ρD S K := by
  intro g w ρ h1 h2 hcst
  have hx := h2 x (by simp [ho, Op.operands])
  obtain ⟨hok, h⟩ := h
  have hrun : (execOp ρ o).run P w = .ok (.value (.pointer (some ⟨w.heap.size, 0, none⟩))) (w.alloc (.cells (ρ x).cells t)) := by
    simp [execOp, ho, Instr.box, newVar, newRow]
  rw [hrun]
  obtain ⟨hne, hR⟩ := h1.newBox (below_alloc w (.cells (ρ x).cells t)) (Nat.le_refl _) (heap_alloc_new w _) (hx.cells hok) (hx.one hok)
  exact ⟨g, _, _, .refl g, hR, .v _ rfl, h _ (nin_of hne)⟩

theorem y_alloc {o : Oper} {t : TypeId} (ho : o.op = .alloc t) {ρD : Operand → DV} {S : St} {K : DV → St → Prop}
    (h : okE (zD P t) = true ∧ ∀ b, nin S.box b → K (.v (.pointer (some ⟨b, 0, none⟩))) ⟨(b, cd (zD P t)) :: S.box, S.acc⟩) : YieldsE P w0 o ρD S K := by
  intro g w ρ h1 h2 hcst
  obtain ⟨hok, h⟩ := h
  obtain ⟨z, hz, hr⟩ := zD_run (P := P) rfl hok w
  have hrun : (execOp ρ o).run P w = .ok (.value (.pointer (some ⟨w.heap.size, 0, none⟩))) (w.alloc (.cells z.cells t)) := by
    simp [execOp, ho, Instr.alloc, hz, newVar, newRow]
  rw [hrun]
  obtain ⟨hne, hR⟩ := h1.newBox (below_alloc w (.cells z.cells t)) (Nat.le_refl _) (heap_alloc_new w _) ((hr g).cells hok) ((hr g).one hok)
  exact ⟨g, _, _, .refl g, hR, .v _ rfl, h _ (nin_of hne)⟩

/-- A store into a box. -/
def vStore (n : Nat) (S : St) (x y : DV) (K : St → Prop) : Prop := okE y = true ∧ (cd y).length = n ∧ (match x with
  | .v (.pointer (some ⟨b, o, none⟩)) => match lk S.box b with
    | some ds => o + n ≤ ds.length ∧ K ⟨up S.box b (setAll ds o (cd y)), S.acc⟩
    | none => False
  | _ => False)
theorem setAllV_eq : ∀ (vs us : List Value) (o : Nat), o + vs.length ≤ us.length → setAllV us o vs = us.take o ++ vs ++ us.drop (o + vs.length)
  | [], us, o, _ => by simp [setAllV]
  | v :: vs, us, o, h => by
    simp only [List.length_cons] at h
    rw [setAllV, setAllV_eq vs (us.set o v) (o + 1) (by simp; omega)]
    have h1 : (us.set o v).take (o + 1) = us.take o ++ [v] := by
      rw [List.take_set, List.take_succ_eq_append_getElem (by omega), List.set_append_right _ _ (by simp; omega)]
      simp [Nat.min_eq_left (show o ≤ us.length by omega)]
    have h2 : (us.set o v).drop (o + 1 + vs.length) = us.drop (o + (v :: vs).length) := by
      rw [List.drop_set_of_lt (by omega)]
      simp only [List.length_cons]
      congr 1
      omega
    rw [h1, h2]
    simp
theorem y_store {o : Oper} {t : TypeId} {x y : Operand} (ho : o.op = .store t x y) {ρD : Operand → DV} {S : St} {K : DV → St → Prop} (hi : (P.info? t).isSome = true) (h : vStore (P.cellsOf t) S (ρD x) (ρD y) (K ud)) : YieldsE P w0 o ρD S K := by
  intro g w ρ h1 h2 hcst
  have hx := h2 x (by simp [ho, Op.operands])
  have hy := h2 y (by simp [ho, Op.operands])
  obtain ⟨hok, hlen, h⟩ := h
  split at h
  · rename_i b o' hx'
    rw [hx'] at hx
    split at h
    · rename_i ds hb
      obtain ⟨hle, h⟩ := h
      obtain ⟨us, e, hh, hr, hone, hset⟩ := h1.setBox (ds' := setAll ds o' (cd (ρD y))) hb
      have hcl := hy.cells hok
      have hvl : (ρ y).cells.toList.length = P.cellsOf t := by rw [← hcl.len]; exact hlen
      have hul : us.toList.length = ds.length := hr.len.symm
      have hsize : (Go.sizeOf t).run P w = .ok (P.cellsOf t) w := by
        obtain ⟨i, hi⟩ := Option.isSome_iff_exists.1 hi
        simp [Go.sizeOf, typeInfo, hi, Program.cellsOf]
      have hst := run_storeCells_at (P := P) b o' e (ρ y).cells.toList 0 us w hh (by rw [hvl]; simp at hul; omega) (hy.one hok)
      have hrun : (execOp ρ o).run P w = .ok .skip (w.setRow b (setAllV us.toList o' (ρ y).cells.toList).toArray) := by
        have hne : (ρ y).cells.size = P.cellsOf t := by simpa using hvl
        rw [setAllV_eq _ _ _ (by rw [hvl, hul]; exact hle)]
        simp only [Nat.add_zero] at hst
        simp [execOp, ho, rep_v hx, Instr.storeAt, Instr.sureAddr, storeVar, hsize, hne, hst]
      rw [hrun]
      refine ⟨g, _, .refl g, hset _ ?_ ?_, h⟩
      · simpa using repL_setAll (o := o') hr hcl
      · intro u hu
        simp only [] at hu
        rcases mem_setAllV _ _ _ _ hu with hu | hu
        · exact hone u hu
        · exact hy.one hok u hu
    · exact h.elim
  · exact h.elim

/-- The literal of a slice. -/
def fillE (s : Nat) (ds : List DV) : List (Nat × DV) → Option (List DV)
  | [] => some ds
  | (i, d) :: rest => if okE d && (cd d).length == s && decide (i < ds.length) then fillE s (ds.set i d) rest else none
def vBuildSlice (k : TK) (z : DV) (len : Nat) (parts : List (Nat × DV)) (K : DV → Prop) : Prop := match k with
  | .sl e s _ true => okE z = true ∧ (cd z).length = s ∧ len * s ≤ 16777216 ∧ (match fillE s (List.replicate len z) parts with
    | some xs => K (.sl s true xs)
    | none => False)
  | _ => False

theorem get_setAllV {vs us : List Value} {o k : Nat} (h : o + vs.length ≤ us.length) : (setAllV us o vs)[k]? = if o ≤ k ∧ k < o + vs.length then vs[k - o]? else us[k]? := by
  rw [setAllV_eq vs us o h]
  by_cases h1 : k < o
  · rw [if_neg (by omega), List.append_assoc, List.getElem?_append_left (by simp; omega), List.getElem?_take, if_pos h1]
  · by_cases h2 : k < o + vs.length
    · rw [if_pos ⟨by omega, h2⟩, List.append_assoc, List.getElem?_append_right (by simp; omega), List.getElem?_append_left (by simp; omega)]
      congr 1
      simp; omega
    · rw [if_neg (by omega), List.getElem?_append_right (by simp; omega), List.getElem?_drop]
      congr 1
      simp; omega

/-- A row of cells, element by element. -/
structure PW (s : Nat) (cs : List Value) (us : List Value) : Prop where
  size : cs.length = us.length * s
  each : ∀ (i : Nat) (u : Value), us[i]? = some u → u.cells.size = s
  at_ : ∀ (i : Nat) (u : Value) (j : Nat) (x : Value), us[i]? = some u → u.cells[j]? = some x → cs[i * s + j]? = some x

theorem lt_mul {i j n s : Nat} (h : i < n) (hj : j < s) : i * s + j < n * s := by
  have h3 : (i + 1) * s ≤ n * s := Nat.mul_le_mul_right s (by omega)
  rw [Nat.succ_mul] at h3
  omega
theorem PW.set {s : Nat} {cs us : List Value} (h : PW s cs us) {i : Nat} (hi : i < us.length) {v : Value} (hv : v.cells.size = s) : PW s (setAllV cs (i * s) v.cells.toList) (us.set i v) where
  size := by rw [length_setAllV]; simpa using h.size
  each := fun k u hk => by
    rw [List.getElem?_set] at hk
    by_cases hik : i = k
    · rw [if_pos hik] at hk
      subst hik
      rw [if_pos hi] at hk
      simp only [Option.some.injEq] at hk
      subst hk; exact hv
    · rw [if_neg hik] at hk; exact h.each k u hk
  at_ := fun k u j x hk hj => by
    have hle : i * s + v.cells.toList.length ≤ cs.length := by
      rw [h.size]
      have : (i + 1) * s ≤ us.length * s := Nat.mul_le_mul_right s (by omega)
      rw [Nat.succ_mul] at this
      simpa [hv] using this
    have hvl : v.cells.toList.length = s := by simpa using hv
    rw [get_setAllV hle, hvl]
    rw [List.getElem?_set] at hk
    by_cases hik : i = k
    · rw [if_pos hik] at hk
      subst hik
      rw [if_pos hi] at hk
      simp only [Option.some.injEq] at hk
      subst hk
      have hjs : j < s := by rw [← hv]; exact (Array.getElem?_eq_some_iff.1 hj).1
      rw [if_pos ⟨by omega, by omega⟩]
      rw [show i * s + j - i * s = j by omega]
      simpa using hj
    · rw [if_neg hik] at hk
      have hjs : j < s := by rw [← h.each k u hk]; exact (Array.getElem?_eq_some_iff.1 hj).1
      have : ¬ (i * s ≤ k * s + j ∧ k * s + j < i * s + s) := by
        rintro ⟨h1, h2⟩
        rcases Nat.lt_or_gt_of_ne hik with h' | h'
        · have : (i + 1) * s ≤ k * s := Nat.mul_le_mul_right s (by omega)
          rw [Nat.succ_mul] at this; omega
        · have : (k + 1) * s ≤ i * s := Nat.mul_le_mul_right s (by omega)
          rw [Nat.succ_mul] at this; omega
      rw [if_neg this]
      exact h.at_ k u j x hk hj

theorem fillE_ok {g : Gh} {s : Nat} : ∀ (parts : List (Nat × DV)) (vs : List (Nat × Value)) (ds : List DV) (us : List Value) (cs : Array Value) (out : List DV), parts.map (·.1) = vs.map (·.1) → RepL g (parts.map (·.2)) (vs.map (·.2)) → RepL g ds us → PW s cs.toList us →
    (∀ (u : Value), u ∈ us → ∀ x, x ∈ u.cells.toList → x.oneCell' = true) → fillE s ds parts = some out →
    ∃ cs' us', Instr.fill (fun i => some (i * s, s)) cs vs = some cs' ∧ RepL g out us' ∧ PW s cs'.toList us' ∧ (∀ (u : Value), u ∈ us' → ∀ x, x ∈ u.cells.toList → x.oneCell' = true) ∧ out.length = ds.length
  | [], vs, ds, us, cs, out, h1, h2, h3, h4, h5, h => by
    cases vs with
    | nil => simp only [fillE, Option.some.injEq] at h; subst h; exact ⟨cs, us, rfl, h3, h4, h5, rfl⟩
    | cons _ _ => simp at h1
  | (i, d) :: parts, vs, ds, us, cs, out, h1, h2, h3, h4, h5, h => by
    cases vs with
    | nil => simp at h1
    | cons p vs =>
      obtain ⟨j, v⟩ := p
      simp only [List.map_cons, List.cons.injEq] at h1
      obtain ⟨rfl, h1⟩ := h1
      obtain ⟨u, us', he, hd, h2⟩ := RepL.uncons (ds := parts.map (·.2)) (d := d) (by simpa using h2)
      simp only [List.cons.injEq] at he
      obtain ⟨rfl, rfl⟩ := he
      simp only [fillE] at h
      split at h
      · rename_i hc
        simp only [Bool.and_eq_true, beq_iff_eq, decide_eq_true_eq] at hc
        obtain ⟨⟨hok, hsz⟩, hlt⟩ := hc
        have hcl := hd.cells hok
        have hlen : v.cells.size = s := by have := hcl.len; rw [hsz] at this; simpa using this.symm
        have hlu : i < us.length := by rw [← h3.len]; exact hlt
        have hbound : i * s + s ≤ cs.size := by
          have e := h4.size
          simp only [Array.length_toList] at e
          rw [e]
          have : (i + 1) * s ≤ us.length * s := Nat.mul_le_mul_right s (by omega)
          rw [Nat.succ_mul] at this; exact this
        have hfold : v.cells.zipIdx.foldl (fun cs (c, j) => cs.setIfInBounds (i * s + j) c) cs = (setAllV cs.toList (i * s) v.cells.toList).toArray := by
          have := zip_set (i * s) v.cells.toList 0 cs
          rw [← Array.foldl_toList, Array.toList_zipIdx]
          simpa using this
        have step : Instr.fill (fun i => some (i * s, s)) cs ((i, v) :: vs) = Instr.fill (fun i => some (i * s, s)) (setAllV cs.toList (i * s) v.cells.toList).toArray vs := by
          rw [Instr.fill]
          simp only
          rw [if_neg (by simp [hlen]; omega)]
          rw [hfold]
        rw [step]
        obtain ⟨cs', us', q1, q2, q3, q4, q5⟩ := fillE_ok parts vs (ds.set i d) (us.set i v) (setAllV cs.toList (i * s) v.cells.toList).toArray out h1 h2 (h3.set i hd) (by simpa using h4.set hlu hlen) (fun u hu => by
          rcases List.mem_or_eq_of_mem_set hu with hu | rfl
          · exact h5 u hu
          · exact hd.one hok) h
        exact ⟨cs', us', q1, q2, q3, q4, by simpa using q5⟩
      · cases h

theorem pw_made {z : Value} {s n : Nat} (hz : z.cells.size = s) (hs : 0 < s) : PW s ((Array.range (n * s)).map (z.cells[· % z.cells.size]!)).toList (List.replicate n z) where
  size := by simp
  each := fun i u h => by rw [List.getElem?_replicate] at h; split at h <;> simp_all
  at_ := fun i u j x h hj => by
    rw [List.getElem?_replicate] at h
    split at h
    · rename_i hi
      simp only [Option.some.injEq] at h
      subst h
      have hjs : j < s := by rw [← hz]; exact (Array.getElem?_eq_some_iff.1 hj).1
      have hk := lt_mul hi hjs
      obtain ⟨hj', hjx⟩ := Array.getElem?_eq_some_iff.1 hj
      rw [Array.getElem?_toList, Array.getElem?_eq_getElem (by simpa using hk)]
      simp only [Array.getElem_map, Array.getElem_range, hz]
      have : (i * s + j) % s = j := by rw [Nat.add_comm, Nat.add_mul_mod_self_right]; exact Nat.mod_eq_of_lt hjs
      rw [this]
      simp [hj', hjx]
    · cases h

theorem buildSlice_core {g : Gh} {S : St} {w : World} (h1 : Rel w0 g S w) {t len : Nat} {parts : List (Nat × DV)} {vs : List (Nat × Value)} (hx : parts.map (·.1) = vs.map (·.1)) (hR : RepL g (parts.map (·.2)) (vs.map (·.2))) {K : DV → Prop}
    {e : Nat} (hte : ∀ e' s b i, tk P t = .sl e' s b i → e' = e) (h : vBuildSlice (tk P t) (zD P e) len parts K) :
    ∃ d u w' g', (Instr.buildSlice t len vs.toArray).run P w = .ok u w' ∧ g.le g' ∧ Rel w0 g' S w' ∧ Rep g' d u ∧ K d := by
  unfold vBuildSlice at h
  split at h
  · rename_i e' s by' hk
    obtain rfl := hte _ _ _ _ hk
    obtain ⟨hok, hzl, hbig, h⟩ := h
    obtain ⟨hu, hs, _, hei⟩ := tk_sl hk
    obtain ⟨ti, z, hi, hz, hzs, hpos⟩ := okEl_spec hei
    have hsz : ti.size = s := by simpa [Program.cellsOf, hi] using hs
    have hzD : zD P e' = cv z := by simp [zD, hi, hz]
    have hrz : Rep g (zD P e') z := hzD ▸ rep_cv g z
    split at h
    · rename_i xs hf
      have hpw := pw_made (z := z) (s := s) (n := len) (by omega) (by omega)
      obtain ⟨cs', us', q1, q2, q3, q4, q5⟩ := fillE_ok (g := g) (s := s) parts vs (List.replicate len (zD P e')) (List.replicate len z) ((Array.range (len * s)).map (z.cells[· % z.cells.size]!)) xs hx hR
        ⟨by simp, fun i d u a b => by
          rw [List.getElem?_replicate] at a b
          split at a
          · rename_i hlt; rw [if_pos hlt] at b; simp only [Option.some.injEq] at a b; subst a; subst b; exact hrz
          · cases a⟩ hpw (fun u hu x hx => by rw [List.eq_of_mem_replicate hu] at hx; exact hrz.one hok x hx) hf
      have hlen : xs.length = len := by simpa using q5
      have hlu : us'.length = len := by rw [← q2.len]; exact hlen
      have hrun : (Instr.buildSlice t len vs.toArray).run P w = .ok (.slice (some ⟨w.heap.size, 0, none⟩) len len) (w.alloc (.cells cs' e')) := by
        have hb : ¬ (len * s > 2 ^ 24) := by omega
        simp only [Instr.buildSlice]
        by_cases hls : len * s = 0
        · have hl0 : len = 0 := by rcases Nat.mul_eq_zero.1 hls with h' | h' <;> omega
          have hcs : ((Array.range (len * s)).map (z.cells[· % z.cells.size]!)) = #[] := by simp [hls]
          rw [hcs] at q1
          have hr0 : ∀ f : Nat → Value, (Array.range 0).map f = #[] := fun f => by simp
          simp only [run_underlying hu, Go.sizeOf, typeInfo, hi, hsz, hls, newRow, Sem.run_bind, Sem.run_pure, Result.andThen_ok, run_program, hr0, if_true]
          rw [q1]
          simp [hl0]
        · simp [run_underlying hu, Go.sizeOf, typeInfo, hi, hsz, hls, hb, zeroValue, hz, q1, newRow]
      obtain ⟨hle, hRel⟩ := h1.newImm (below_alloc w (.cells cs' e')) (Nat.le_refl _) (heap_alloc_new w _)
      have hlm : len ≤ maxLen := by
        have : len * 1 ≤ len * s := Nat.mul_le_mul_left len (by omega)
        unfold maxLen; omega
      refine ⟨.sl s true xs, _, _, _, hrun, hle, hRel, ?_, h⟩
      have := Rep.sl (g := g.setImm w.heap.size fun i => cs'[i]?) s true xs w.heap.size 0 len us' (by rw [hlen, hlu]) (fun _ => hlu.symm) (by omega) hlm (q2.mono hle).at_ q3.each q4 (fun i u j x a b => by
        simp only [Gh.setImm, if_true, Nat.zero_add]
        have := q3.at_ i u j x a b
        simpa using this)
      rw [hlu] at this
      exact this
    · exact h.elim
  · exact h.elim
end
end Aml
