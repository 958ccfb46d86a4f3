/-
  A row that a statement builds, as one that grows; The end of a growing slice, cleared; Few statements whose order is open, each order walked; Statements whose order is open, with rows made and turned to texts: what is made is frozen at once; Statements whose order is open, once more: what reads no store may come at any time, and so may what makes a box that nothing ahead looks at; Statements whose order is open: how the reckoning goes; What is known of a map that is owned. By an AI agent.
-/
import Derived.Test.YtkibkahknibgfaaMP3
namespace Aml
open Go Go.RowKit
set_option linter.unusedVariables false
set_option linter.unusedSimpArgs false

/-- A row, as one that grows. -/
def arrK (d : DV) (S : St) (K : DV → St → Prop) : Prop := match d with
  | .sl s true xs => ∀ l, nin S.acc l → K (.acc l xs.length) ⟨S.box, (l, .arr s xs) :: S.acc⟩
  | _ => False
section
variable {P : Program} {w0 : W0}
theorem buildSlice_arr {g : Gh} {S : St} {w : World} (h1 : Rel w0 g S w) {t len : Nat} {parts : List (Nat × DV)} {vs : List (Nat × Value)} (hx : parts.map (·.1) = vs.map (·.1)) (hR : RepL g (parts.map (·.2)) (vs.map (·.2))) {K : DV → St → Prop}
    {e : Nat} (hte : ∀ e' s b i, tk P t = .sl e' s b i → e' = e) (h : vBuildSlice (tk P t) (zD P e) len parts fun d => arrK d S K) :
    ∃ d u w' g' S', (Instr.buildSlice t len vs.toArray).run P w = .ok u w' ∧ g.le g' ∧ Rel w0 g' S' w' ∧ Rep g' d u ∧ K d S' := by
  unfold vBuildSlice at h
  split at h
  · rename_i e' s by' hk
    obtain rfl := hte _ _ _ _ hk
    obtain ⟨hok, hzl, hbig, h⟩ := h
    obtain ⟨hu, hs, _, hei⟩ := tk_sl hk
    obtain ⟨ti, z, hi, hz, hzs, hpos⟩ := okEl_spec hei
    have hsz : ti.size = s := by simpa [Program.cellsOf, hi] using hs
    have hzD : zD P e' = cv z := by simp [zD, hi, hz]
    have hrz : Rep g (zD P e') z := hzD ▸ rep_cv g z
    split at h
    · rename_i xs hf
      have hpw := pw_made (z := z) (s := s) (n := len) (by omega) (by omega)
      obtain ⟨cs', us', q1, q2, q3, q4, q5⟩ := fillE_ok (g := g) (s := s) parts vs (List.replicate len (zD P e')) (List.replicate len z) ((Array.range (len * s)).map (z.cells[· % z.cells.size]!)) xs hx hR
        ⟨by simp, fun i d u a b => by
          rw [List.getElem?_replicate] at a b
          split at a
          · rename_i hlt; rw [if_pos hlt] at b; simp only [Option.some.injEq] at a b; subst a; subst b; exact hrz
          · cases a⟩ hpw (fun u hu x hx => by rw [List.eq_of_mem_replicate hu] at hx; exact hrz.one hok x hx) hf
      have hlen : xs.length = len := by simpa using q5
      have hlu : us'.length = len := by rw [← q2.len]; exact hlen
      have hrun : (Instr.buildSlice t len vs.toArray).run P w = .ok (.slice (some ⟨w.heap.size, 0, none⟩) len len) (w.alloc (.cells cs' e')) := by
        have hb : ¬ (len * s > 2 ^ 24) := by omega
        simp only [Instr.buildSlice]
        by_cases hls : len * s = 0
        · have hl0 : len = 0 := by rcases Nat.mul_eq_zero.1 hls with h' | h' <;> omega
          have hcs : ((Array.range (len * s)).map (z.cells[· % z.cells.size]!)) = #[] := by simp [hls]
          rw [hcs] at q1
          have hr0 : ∀ f : Nat → Value, (Array.range 0).map f = #[] := fun f => by simp
          simp only [run_underlying hu, Go.sizeOf, typeInfo, hi, hsz, hls, newRow, Sem.run_bind, Sem.run_pure, Result.andThen_ok, run_program, hr0, if_true]
          rw [q1]
          simp [hl0]
        · simp [run_underlying hu, Go.sizeOf, typeInfo, hi, hsz, hls, hb, zeroValue, hz, q1, newRow]
      have hlm : len ≤ maxLen := by
        have : len * 1 ≤ len * s := Nat.mul_le_mul_left len (by omega)
        unfold maxLen; omega
      have hcsz : cs'.size = len * s := by
        have := q3.size
        rw [hlu] at this
        simpa using this
      obtain ⟨l, g', hle, hne, hRel, hA⟩ := h1.newArr (s := s) (xs := xs) (us := us') (c := len) (below_alloc w (.cells cs' e')) (by omega) (Nat.le_refl _) (heap_alloc_new w _) hcsz (by omega) hlm q2 q3.each q4 (fun i u j x a b => by have := q3.at_ i u j x a b; simpa using this)
      rw [hlen] at hA
      have h' := h l (nin_of hne)
      rw [hlen] at h'
      exact ⟨_, _, _, _, _, hrun, hle, hRel, hA, h'⟩
    · exact h.elim
  · exact h.elim
theorem y_buildArr {o : Oper} {t len : Nat} {parts : List (Nat × Operand)} (ho : o.op = .buildSlice t len parts.toArray) {ρD : Operand → DV} {S : St} {K : DV → St → Prop}
    (h : shrs S (parts.map fun p => ρD p.2) fun ds S => vBuildSlice (tk P t) (zD P (elT P t)) len ((parts.map (·.1)).zip ds) fun d => arrK d S K) : YieldsE P w0 o ρD S K := by
  intro g w ρ h1 h2 hcst
  have hR := repL_of_ops (g := g) (ρD := ρD) (ρ := ρ) parts (fun p hp => h2 p.2 (by simp only [ho, Op.operands]; simp; exact ⟨p.1, hp⟩))
  obtain ⟨g', ds, S', l1, R1, r1, k1⟩ := shrs_ok _ h1 hR h
  have hlen : (parts.map (·.1)).length = ds.length := by have := r1.len; simpa using this.symm
  obtain ⟨d, u, w', g2, S2, e1, l2, R2, e2, e3⟩ := buildSlice_arr (P := P) R1 (t := t) (len := len) (parts := (parts.map (·.1)).zip ds) (vs := parts.map fun p => (p.1, ρ p.2)) (by rw [zip_fst hlen]; simp) (by rw [zip_snd hlen]; simpa [Function.comp_def] using r1)
    (e := elT P t) (fun e' s b i hk => by simp [elT, hk]) k1
  have hrun : (execOp ρ o).run P w = .ok (.value u) w' := by
    have e : (parts.toArray.map fun (i, x) => (i, ρ x)) = (parts.map fun p => (p.1, ρ p.2)).toArray := by simp
    simp only [execOp, ho, Sem.run_bind]
    rw [e, e1]
    rfl
  rw [hrun]
  exact ⟨g2, d, S2, l1.trans l2, R2, e2, e3⟩
def opA (P : Program) (w0 : W0) (op : Op) (fr : List DV) (S : St) (K : DV → St → Prop) : Prop := match op with
  | .buildSlice t len parts => shrs S (parts.toList.map fun p => ev fr p.2) fun ds S => vBuildSlice (tk P t) (zD P (elT P t)) len ((parts.toList.map (·.1)).zip ds) fun d => arrK d S K
  | op => vcOp P w0 op fr S K
def vcLA (P : Program) (w0 : W0) (ops : Array Oper) (K : List DV → St → Prop) : List Oper → List DV → St → Prop
  | [], fr, S => K fr S
  | o :: rest, fr, S => guardK ops fr o.guard (fun fr => opA P w0 o.op fr S fun d S' => vcLA P w0 ops K rest (pt fr o.dst d) S') (fun fr => vcLA P w0 ops K rest (pt fr o.dst ud) S)
theorem opA_sound {o : Oper} {fr : List DV} {S : St} {K : DV → St → Prop} (hs : okSl o.op = true) (h : opA P w0 o.op fr S K) : YieldsE P w0 o (ev fr) S K := by
  cases hop : o.op with
  | buildSlice t len parts => rw [hop] at h; exact y_buildArr (parts := parts.toList) (by simpa using hop) h
  | _ => rw [hop] at h; exact vcOp_sound hs (by rw [hop]; exact h)
theorem vcLA_sound {ops : Array Oper} {K : List DV → St → Prop} : ∀ (l : List Oper) {fr : List DV} {S : St}, l.all (fun o => okSl o.op) = true → vcLA P w0 ops K l fr S → LWp P w0 ops K l fr S
  | [], fr, S, _, h => h
  | o :: rest, fr, S, hs, h => by
    simp only [List.all_cons, Bool.and_eq_true] at hs
    refine guardK_mono (fun fr h => ?_) (fun fr h => vcLA_sound rest hs.2 h) h
    exact yields_mono (fun d S h => vcLA_sound rest hs.2 h) (opA_sound hs.1 h)
/-- A region in which what is built may grow. -/
theorem arrR {id : Nat} {l : List Oper} {fr : List DV} {S : St} {Q : Exit → List DV → St → Prop} (hs : l.all (fun o => okSl o.op) = true) (h : vcLA P w0 l.toArray (fun fr S => normF fr fun fr => Q .normal fr S) l fr S) : AWp P w0 (.region id l.toArray false) fr S Q :=
  awp_region (vcLA_sound l hs h)
section
variable {ops : Array Oper} {fr : List DV} {S : St} {rest : List Oper} {dst : Option Tmp} {op : Op} {ty : TypeId} {pos : String} {aft : Array Edge} {K : List DV → St → Prop} {K2 : DV → St → Prop}
theorem a_nil : vcLA P w0 ops K [] fr S = K fr S := rfl
theorem a_none : vcLA P w0 ops K (⟨dst, op, ty, pos, aft, none⟩ :: rest) fr S = opA P w0 op fr S fun d S' => vcLA P w0 ops K rest (pt fr dst d) S' := rfl
theorem a_load (t : TypeId) (x : Operand) : opA P w0 (.load t x) fr S K2 = vcOp P w0 (.load t x) fr S K2 := rfl
theorem a_move (x : Operand) : opA P w0 (.move x) fr S K2 = vcOp P w0 (.move x) fr S K2 := rfl
theorem a_assign (x : Operand) : opA P w0 (.assign x) fr S K2 = vcOp P w0 (.assign x) fr S K2 := rfl
theorem a_buildSlice (t : TypeId) (len : Nat) (parts : List (Nat × Operand)) : opA P w0 (.buildSlice t len parts.toArray) fr S K2 = (shrs S (parts.map fun p => ev fr p.2) fun ds S => vBuildSlice (tk P t) (zD P (elT P t)) len ((parts.map (·.1)).zip ds) fun d => arrK d S K2) := rfl
theorem a_arrK (s : Nat) (xs : List DV) : arrK (.sl s true xs) S K2 = ∀ l : FN S.acc, K2 (.acc l.n xs.length) ⟨S.box, (l.n, .arr s xs) :: S.acc⟩ := n_fresh S.acc fun l => K2 (.acc l xs.length) ⟨S.box, (l, .arr s xs) :: S.acc⟩
@[congr] theorem c_opA {fr' : List DV} {S' : St} (h1 : fr = fr') (h2 : S = S') : opA P w0 op fr S K2 = opA P w0 op fr' S' K2 := by cases h1; cases h2; rfl
@[congr] theorem c_vcLA {l : List Oper} {fr' : List DV} {S' : St} (h1 : fr = fr') (h2 : S = S') : vcLA P w0 ops K l fr S = vcLA P w0 ops K l fr' S' := by cases h1; cases h2; rfl
@[congr] theorem c_arrK {d d' : DV} {S' : St} (h1 : d = d') (h2 : S = S') : arrK d S K2 = arrK d' S' K2 := by cases h1; cases h2; rfl
end
end
attribute [go_sem ↓] a_nil a_none a_load a_move a_assign a_buildSlice a_arrK
end Aml

namespace Aml
open Go Go.RowKit
set_option linter.unusedVariables false
set_option linter.unusedSimpArgs false
section
variable {P : Program} {w0 : W0}
theorem clear_ok {g : Gh} {S : St} {w : World} (h1 : Rel w0 g S w) {l : Nat} {xs : List DV} (hl : lk S.acc l = some (.arr 1 xs)) {b c : Nat} (hval : g.acc l xs.length = some (.slice (some ⟨b, 0, none⟩) xs.length c)) {k : Nat} (hk : k < xs.length)
    {t e ty : TypeId} {z : Value} (hu : P.underlying t = some (.slice e)) (hv : ∀ w, (zeroValue e).run P w = .ok z w) (hz : z.cells = #[z]) (hz1 : z.oneCell' = true) {zd : DV} (hrz : Rep g zd z) (c' : Nat) :
    ∃ w', (Builtin.clear_ #[t] ty #[.slice (some ⟨b, k, none⟩) (xs.length - k) c']).run P w = .ok (.tuple #[]) w' ∧ Rel w0 g ⟨S.box, up S.acc l (.arr 1 (xs.take k ++ List.replicate (xs.length - k) zd))⟩ w' := by
  obtain ⟨ow, hO⟩ := h1.open_
  obtain ⟨hs, ⟨he, o2, ha⟩ | ⟨b', c0, cs, e0, q1, q2, q3, q4, q5, q6, q7, q8, us, q9, q10, q11, q12⟩⟩ := hO.acc l _ (lk_mem hl)
  · rw [he] at hk; simp at hk
  have hval' := hval
  rw [q1] at hval'
  simp only [Option.some.injEq, Value.slice.injEq, Addr.mk.injEq, true_and, and_true] at hval'
  obtain ⟨rfl, rfl⟩ := hval'
  have hzc : (Builtin.zeroCells z.cells (xs.length - k)).toList = List.replicate (xs.length - k) z := by
    rw [hz]
    simp [Builtin.zeroCells]
    apply List.ext_getElem
    · simp
    · intro i h1 h2
      simp [Nat.mod_one]
  obtain ⟨m, hm⟩ : ∃ m, m + 1 = xs.length - k := ⟨xs.length - k - 1, by omega⟩
  have hul : us.length = xs.length := q9.len.symm
  have hst := run_storeCells_at (P := P) b' k e0 (List.replicate (xs.length - k) z) 0 cs w q5 (by simp; omega) (fun u hu => by rw [List.eq_of_mem_replicate hu]; exact hz1)
  have hle2 : k + (List.replicate (xs.length - k) z).length ≤ cs.toList.length := by simp; omega
  refine ⟨w.setRow b' (setAllV cs.toList k (List.replicate (xs.length - k) z)).toArray, ?_, ?_⟩
  · rw [setAllV_eq _ _ _ hle2]
    simp only [Nat.add_zero] at hst
    rw [← hm] at hst hzc ⊢
    simp [Builtin.clear_, run_underlying hu, hv, hzc, hst]
  · have hxs : (xs.take k ++ List.replicate (xs.length - k) zd).length = xs.length := by simp; omega
    refine h1.rearr (ys := xs.take k ++ List.replicate (xs.length - k) zd) (us := us.take k ++ List.replicate (xs.length - k) z) (b := b') (c := c0) (e := e0) (cs := (setAllV cs.toList k (List.replicate (xs.length - k) z)).toArray) hl hval hxs (by omega) ?_ ?_ ?_ ?_ ?_ ?_ ?_ ?_ ?_
    · exact setRow_heap w b' cs _ e0 (0, 0) q5
    · rw [List.size_toArray, setAllV_eq _ _ _ hle2]
      simp only [List.length_append, List.length_take, List.length_drop, Array.length_toList]
      simp only [Array.length_toList] at hle2
      rw [← q6]; omega
    · exact h1.below.step ⟨rfl, rfl, rfl, by simp, fun k hk => setRow_other w b' k _ (by omega)⟩ b' (nc_cells q5) fun k _ hne => setRow_other w b' k _ hne
    · simp
    · intro k _ hkb; exact setRow_other w b' k _ hkb
    · refine RepL.append ?_ ?_
      · exact ⟨by simp [hul], fun i d u a1 a2 => by
          rw [List.getElem?_take] at a1 a2
          split at a1
          · rename_i hlt; rw [if_pos hlt] at a2; exact q9.at_ i d u a1 a2
          · cases a1⟩
      · exact ⟨by simp, fun i d u a1 a2 => by
          rw [List.getElem?_replicate] at a1 a2
          split at a1
          · rename_i hlt; rw [if_pos hlt] at a2; cases a1; cases a2; exact hrz
          · cases a1⟩
    · intro j u hj
      rcases List.mem_append.1 (List.mem_of_getElem? hj) with hu | hu
      · obtain ⟨i, hi⟩ := List.mem_iff_getElem?.1 (List.mem_of_mem_take hu)
        exact q10 i u hi
      · rw [List.eq_of_mem_replicate hu, hz]; rfl
    · intro u hu x hx
      rcases List.mem_append.1 hu with hu | hu
      · exact q11 u (List.mem_of_mem_take hu) x hx
      · rw [List.eq_of_mem_replicate hu, hz] at hx
        simp only [List.mem_singleton] at hx
        subst hx; exact hz1
    · intro i u j x hi2 hj
      rw [List.getElem?_toArray, get_setAllV hle2]
      rcases Nat.lt_or_ge i k with hik | hik
      · rw [List.getElem?_append_left (by simp; omega), List.getElem?_take, if_pos hik] at hi2
        have hjs : j < 1 := by rw [← q10 i u hi2]; exact (Array.getElem?_eq_some_iff.1 hj).1
        rw [if_neg (by simp; omega)]
        simpa using q12 i u j x hi2 hj
      · have hlk : (us.take k).length = k := by simp; omega
        rw [List.getElem?_append_right (by omega), hlk, List.getElem?_replicate] at hi2
        split at hi2
        · rename_i hlt
          cases hi2
          rw [hz] at hj
          have hj0 : j = 0 := by
            have := (Array.getElem?_eq_some_iff.1 hj).1
            simp at this; omega
          subst hj0
          rw [if_pos (by simp; omega), List.getElem?_replicate, if_pos (by omega)]
          simpa using hj
        · cases hi2
/-- 'clear(s[k:])' of a growing slice. -/
theorem clearR {id : Nat} {i p q r j : Nat} {t t1 t2 t3 t4 : TypeId} {s1 s2 s3 s4 : String} {a1 a2 a3 a4 : Array Edge} {fr : List DV} {S : St} {Q : Exit → List DV → St → Prop} {l k : Nat} {xs : List DV} {kk : IntKind} {e by' : Nat} {zd : Value}
    (hk : tk P t = .sl e 1 by' true) (hz : zD P e = .v zd) (hi : fr[i]? = some (.acc l xs.length)) (hj : fr[j]? = some (.v (.int kk k))) (hl : lk S.acc l = some (.arr 1 xs)) (hkx : k < xs.length)
    (hs : (decide (j ≠ i) && decide (j ≠ p) && decide (q ≠ p) && decide (i ≠ p) && decide (i ≠ q) && decide (i ≠ r)) = true) (hp : p < fr.length) (hq : q < fr.length) (hr : r < fr.length)
    (h : ∀ v u, Q .normal (((((fr.set i (.v v)).set p (.v v)).set q (.v (.int kk k))).set r (.v u)).set i (.acc l xs.length)) ⟨S.box, up S.acc l (.arr 1 (xs.take k ++ List.replicate (xs.length - k) (.v zd)))⟩) :
    AWp P w0 (.region id #[⟨some p, .move (.tmp i), t1, s1, a1, none⟩, ⟨some q, .move (.tmp j), t2, s2, a2, none⟩, ⟨some r, .slice t (.tmp p) (some (.tmp q)) none none, t3, s3, a3, none⟩, ⟨none, .call ⟨.builtin .clear, #[.tmp r], #[t]⟩, t4, s4, a4, none⟩] false) fr S Q := by
  simp only [Bool.and_eq_true, decide_eq_true_eq] at hs
  obtain ⟨⟨⟨⟨⟨n1, n2⟩, n3⟩, n4⟩, n5⟩, n6⟩ := hs
  intro g a w h1 h2 h3
  have hilt : i < fr.length := (List.getElem?_eq_some_iff.1 hi).1
  have hjlt : j < fr.length := (List.getElem?_eq_some_iff.1 hj).1
  have hlen : fr.length = a.tmps.toList.length := h2.len
  have hri := h2.at_ i _ _ hi (List.getElem?_eq_getElem (by omega))
  obtain ⟨v, hv⟩ : ∃ v, v = a.tmps.toList[i]'(by omega) := ⟨_, rfl⟩
  rw [← hv] at hri
  obtain ⟨b, c, hval, hve⟩ : ∃ b c, g.acc l xs.length = some (.slice (some ⟨b, 0, none⟩) xs.length c) ∧ v = .slice (some ⟨b, 0, none⟩) xs.length c ∧ xs.length ≤ c := by
    obtain ⟨ow, hO⟩ := h1.open_
    obtain ⟨hs, ⟨he, o2, ha⟩ | ⟨b', c0, cs, e0, q1, q2, q3, q4, q5, q6, q7, q8, us, q9, q10, q11, q12⟩⟩ := hO.acc l _ (lk_mem hl)
    · rw [he] at hkx; simp at hkx
    · refine ⟨b', c0, q1, ?_, q7⟩
      cases hri with
      | acc _ _ o c h => rw [q1] at h; exact (Option.some.inj h).symm
  obtain ⟨hve, hnc⟩ := hve
  let w1 : W0 := ⟨w0.w, g⟩
  have hsub : ∀ (g : Gh), g.sub g := fun g => ⟨fun _ _ _ h => h, fun _ _ _ h => h, fun _ _ h => h⟩
  have R1 : Rel w1 g S w := h1.withObj (w0' := w1) (ob := g.obj) rfl h1.below.obj (hsub g)
  have ho : v.oneCell' = true := by rw [hve]; rfl
  have h2' : RepL g (fr.set i (.v v)) a.tmps.toList := repL_same h2 (by rw [hv]; exact List.getElem?_eq_getElem (by omega)) (.v _ ho)
  obtain ⟨hu, hss, _, hei⟩ := tk_sl hk
  obtain ⟨ti, z, hii, hzz, hzs, hpos⟩ := okEl_spec hei
  have hsz : ti.size = 1 := by simpa [Program.cellsOf, hii] using hss
  have hzD : zD P e = cv z := by simp [zD, hii, hzz]
  have hzv : z = zd := by
    have hr := rep_cv g z
    rw [← hzD, hz] at hr
    exact rep_v hr
  have hz1 : zd.oneCell' = true ∧ zd.cells = #[zd] := by
    have hr := rep_cv g z
    rw [← hzD, hz] at hr
    have hone := hr.one rfl
    rw [← hzv]
    rw [hsz] at hzs
    cases hr with
    | v _ h => rw [hzv]; exact ⟨h, by cases zd <;> first | rfl | cases h⟩
  have hrun := fun (w : World) => (show (zeroValue e).run P w = .ok zd w by simp [zeroValue, typeInfo, hii, hzz, hzv])
  have hsize : ∀ w, (Go.sizeOf e).run P w = .ok 1 w := fun w => by simp [Go.sizeOf, typeInfo, hii, hsz]
  -- the walk
  have g1 : (fr.set i (.v v)).getD i ud = .v v := by simp [List.getD_eq_getElem?_getD, hilt]
  have g2 : ((fr.set i (.v v)).set p (.v v)).getD j ud = .v (.int kk k) := by
    rw [List.getD_eq_getElem?_getD, List.getElem?_set_ne (fun e => n2 e.symm), List.getElem?_set_ne (fun e => n1 e.symm), hj]; rfl
  have g3 : (((fr.set i (.v v)).set p (.v v)).set q (.v (.int kk k))).getD p ud = .v v := by
    rw [List.getD_eq_getElem?_getD, List.getElem?_set_ne n3, List.getElem?_set_self (by simpa using hp)]; rfl
  have g4 : (((fr.set i (.v v)).set p (.v v)).set q (.v (.int kk k))).getD q ud = .v (.int kk k) := by
    rw [List.getD_eq_getElem?_getD, List.getElem?_set_self (by simpa using hq)]; rfl
  have g5 : ∀ x, ((((fr.set i (.v v)).set p (.v v)).set q (.v (.int kk k))).set r x).getD r ud = x := fun x => by
    rw [List.getD_eq_getElem?_getD, List.getElem?_set_self (by simpa using hr)]; rfl
  have L : ∀ ops : Array Oper, LWp P w1 ops (fun fr' S' => fr'[i]? = some (.v v) ∧ Q .normal (fr'.set i (.acc l xs.length)) S') [⟨some p, .move (.tmp i), t1, s1, a1, none⟩, ⟨some q, .move (.tmp j), t2, s2, a2, none⟩, ⟨some r, .slice t (.tmp p) (some (.tmp q)) none none, t3, s3, a3, none⟩, ⟨none, .call ⟨.builtin .clear, #[.tmp r], #[t]⟩, t4, s4, a4, none⟩] (fr.set i (.v v)) S := by
    intro ops
    refine y_move (P := P) rfl ?_
    show LWp P w1 ops _ _ ((fr.set i (.v v)).set p ((fr.set i (.v v)).getD i ud)) S
    rw [g1]
    refine y_move (P := P) rfl ?_
    show LWp P w1 ops _ _ (((fr.set i (.v v)).set p (.v v)).set q (((fr.set i (.v v)).set p (.v v)).getD j ud)) S
    rw [g2]
    show YieldsE P w1 _ _ S _
    intro ga wa ρ ra rb rc
    have hx := rb (.tmp p) (by simp [Op.operands])
    have hy := rb (.tmp q) (by simp [Op.operands])
    change Rep ga ((((fr.set i (.v v)).set p (.v v)).set q (.v (.int kk k))).getD p ud) _ at hx
    change Rep ga ((((fr.set i (.v v)).set p (.v v)).set q (.v (.int kk k))).getD q ud) _ at hy
    rw [g3] at hx
    rw [g4] at hy
    have hx := rep_v hx
    have hy := rep_v hy
    have hb : (Instr.sliceBounds true xs.length c (some (.int kk (k : Int))) none none).run P wa = .ok (k, xs.length, c) wa := by
      have : (Instr.sliceBound (.int kk (k : Int)) xs.length .sliceB).run P wa = .ok k wa := by
        have := run_bound (P := P) (k := kk) (i := (k : Int)) (y := xs.length) (code := .sliceB) (w := wa) (by omega) (by omega)
        simpa using this
      simp [Instr.sliceBounds, this]
    have hck : ¬ c = k := by omega
    have hrun3 : (execOp ρ ⟨some r, .slice t (.tmp p) (some (.tmp q)) none none, t3, s3, a3, none⟩).run P wa = .ok (.value (.slice (some ⟨b, k, none⟩) (xs.length - k) (c - k))) wa := by
      simp [execOp, hx, hve, Instr.sliceAt, Instr.slice, run_underlying hu, hy, hb, hsize, hck, Addr.add] <;> omega
    rw [hrun3]
    refine ⟨ga, .v (.slice (some ⟨b, k, none⟩) (xs.length - k) (c - k)), S, .refl ga, ra, .v _ rfl, ?_⟩
    show YieldsE P w1 _ _ S _
    intro gb wb ρ2 ra2 rb2 rc2
    have hx2 := rb2 (.tmp r) (by simp [Op.operands, Call.operands])
    change Rep gb (((((fr.set i (.v v)).set p (.v v)).set q (.v (.int kk k))).set r _).getD r ud) _ at hx2
    rw [g5] at hx2
    have hx2 := rep_v hx2
    obtain ⟨w', e1, e2⟩ := clear_ok (P := P) (ty := t4) ra2 hl (ra2.below.req.acc _ _ _ hval) hkx hu hrun hz1.2 hz1.1 (zd := .v zd) (.v _ hz1.1) (c - k)
    have hrun4 : (execOp ρ2 ⟨none, .call ⟨.builtin .clear, #[.tmp r], #[t]⟩, t4, s4, a4, none⟩).run P wb = .ok (.value (.tuple #[])) w' := by
      simp [execOp, resolve, invoke, builtin, hx2, e1]
    rw [hrun4]
    refine ⟨gb, .any, _, .refl gb, e2, .any _, ?_, h _ _⟩
    show (((((fr.set i (.v v)).set p (.v v)).set q (.v (.int kk k))).set r _)[i]? : Option DV) = _
    rw [List.getElem?_set_ne (fun e => n6 e.symm), List.getElem?_set_ne (fun e => n5 e.symm), List.getElem?_set_ne (fun e => n4 e.symm), List.getElem?_set_self hilt]
  refine wpA_mono (wpA_region_lit fun ro => lwp_sound (w0 := w1) (Q := fun e fr' S' => fr'[i]? = some (.v v) ∧ Q e (fr'.set i (.acc l xs.length)) S') _ _ S g a w (.refl g) R1 h2' h3 (L _)) ?_
  rintro e' a' w' ⟨hd, g', fr', S', k1, k2, k3, k5, k4⟩
  have hb0 : w0.gh.sub g' := ⟨fun _ _ _ h => k2.below.req.imm _ _ _ (h1.below.req.imm _ _ _ h), fun _ _ _ h => k2.below.req.acc _ _ _ (h1.below.req.acc _ _ _ h), fun _ _ h => k2.below.req.obj _ _ (h1.below.req.obj _ _ h)⟩
  refine ⟨hd, g', fr'.set i (.acc l xs.length), S', k1, k2.withObj (w0' := w0) (ob := g'.obj) rfl k2.below.obj hb0, ?_, k4⟩
  have hlt' : i < a'.tmps.toList.length := by rw [← k3.len]; exact (List.getElem?_eq_some_iff.1 k5).1
  have hu' := List.getElem?_eq_getElem hlt'
  have hvi := rep_v (k3.at_ i _ _ k5 hu')
  refine repL_same k3 hu' ?_
  rw [hvi, hve]
  exact .acc _ _ _ _ (k1.acc _ _ _ hval)
end
end Aml

namespace Aml
open Go Go.RowKit
set_option linter.unusedVariables false
set_option linter.unusedSimpArgs false

/-- Which of the remaining ones may come: the first, the second, either. -/
inductive Tr where
  | leaf | head (t : Tr) | snd (t : Tr) | both (t u : Tr)
def vwT (P : Program) (w0 : W0) (K : List DV → St → Prop) : Tr → List Oper → List DV → St → Prop
  | .leaf, [], fr, S => K fr S
  | .head t, o :: r, fr, S => vcOp P w0 o.op fr S fun d S' => vwT P w0 K t r (pt fr o.dst d) S'
  | .snd t, p :: o :: r, fr, S => vcOp P w0 o.op fr S fun d S' => vwT P w0 K t (p :: r) (pt fr o.dst d) S'
  | .both t u, p :: o :: r, fr, S => (vcOp P w0 p.op fr S fun d S' => vwT P w0 K t (o :: r) (pt fr p.dst d) S') ∧ vcOp P w0 o.op fr S fun d S' => vwT P w0 K u (p :: r) (pt fr o.dst d) S'
  | _, _, _, _ => False
def okT (ops : Array Oper) : Nat → Array Bool → Tr → List Nat → Bool
  | _, L, .leaf, [] => (Region.ready .any ops L).isEmpty
  | f + 1, L, .head t, i :: r => !(Region.ready .any ops L).isEmpty && (Region.ready .any ops L).all (fun x => x == i) && okT ops f (L.setIfInBounds i true) t r
  | f + 1, L, .snd t, i :: j :: r => !(Region.ready .any ops L).isEmpty && (Region.ready .any ops L).all (fun x => x == j) && okT ops f (L.setIfInBounds j true) t (i :: r)
  | f + 1, L, .both t u, i :: j :: r => !(Region.ready .any ops L).isEmpty && (Region.ready .any ops L).all (fun x => x == i || x == j) && okT ops f (L.setIfInBounds i true) t (j :: r) && okT ops f (L.setIfInBounds j true) u (i :: r)
  | _, _, _, _ => false
def okR (l : List Oper) (t : Tr) : Bool := l.all (fun o => okSl o.op && o.guard.isNone) && okT l.toArray l.length (Array.replicate l.length false) t (List.range l.length)
section
variable {P : Program} {w0 : W0}
theorem vwT_sound {ro : Option Nat} {ops : Array Oper} {g0 : Gh} {Q : Exit → List DV → St → Prop} (hs : ∀ (i : Nat) o, ops[i]? = some o → okSl o.op = true ∧ o.guard = none) : ∀ (fuel : Nat) (L : Array Bool) (t : Tr) (is : List Nat) (l : List Oper) (fr : List DV) (S : St) (g : Gh) (a : Act) (w : World),
    okT ops fuel L t is = true → is.map (ops[·]?) = l.map some → g0.le g → Rel w0 g S w → RepL g fr a.tmps.toList → Dk w0 g.obj a w → vwT P w0 (fun fr S => Q .normal fr S) t l fr S → wpAnyIn (fz ro) 0 P .any ops (Good w0 g0 Q) fuel L a w := by
  have one : ∀ {i : Nat} {o : Oper} {fr : List DV} {S : St} {g : Gh} {a : Act} {w : World} {K : List DV → St → Prop} {K' : Act → World → Prop}, ops[i]? = some o → g0.le g → Rel w0 g S w → RepL g fr a.tmps.toList → Dk w0 g.obj a w →
      (∀ fr S g a w, g0.le g → Rel w0 g S w → RepL g fr a.tmps.toList → Dk w0 g.obj a w → K fr S → K' a w) → (vcOp P w0 o.op fr S fun d S' => K (pt fr o.dst d) S') → wpOpIn (fz ro) 0 P ops (Good w0 g0 Q) i K' a w := by
    intro i o fr S g a w K K' hi k h1 h2 h3 hK h
    obtain ⟨q1, q2⟩ := hs i o hi
    refine step_op k h1 h2 h3 hK ?_ hi
    rw [q2]
    exact vcOp_sound q1 h
  intro fuel
  induction fuel with
  | zero =>
    intro L t is l fr S g a w hok hl k h1 h2 h3 h
    cases t <;> cases is <;> (try cases l) <;> simp_all [okT, vwT, wpAnyIn]
    exact ⟨k.kd h3, g, fr, S, k, h1, h2, h⟩
  | succ fuel ih =>
    intro L t is l fr S g a w hok hl k h1 h2 h3 h
    cases t with
    | leaf =>
      match is, l, hok, hl, h with
      | [], [], hok, _, h =>
        have he : Region.ready .any ops L = [] := by simpa [okT] using hok
        exact ⟨fun _ => ⟨k.kd h3, g, fr, S, k, h1, h2, h⟩, fun i hi => by rw [he] at hi; cases hi⟩
      | [], _ :: _, _, hl, _ => cases hl
      | _ :: _, _, hok, _, _ => simp [okT] at hok
    | head t =>
      match is, l, hok, hl, h with
      | i :: is, o :: l, hok, hl, h =>
        simp only [okT, Bool.and_eq_true, Bool.not_eq_true', List.isEmpty_eq_false_iff] at hok
        simp only [List.map_cons, List.cons.injEq] at hl
        refine ⟨fun e => absurd e hok.1.1, fun x hx => ?_⟩
        have hxi := List.all_eq_true.1 hok.1.2 x hx
        simp only [beq_iff_eq] at hxi
        subst hxi
        exact one hl.1 k h1 h2 h3 (fun fr' S' g' a' w' p1 p2 p3 p4 p5 => ih _ t is l fr' S' g' a' w' hok.2 hl.2 p1 p2 p3 p4 p5) h
      | [], _, hok, _, _ => simp [okT] at hok
      | _ :: _, [], _, hl, _ => cases hl
    | snd t =>
      match is, l, hok, hl, h with
      | i :: j :: is, p :: o :: l, hok, hl, h =>
        simp only [okT, Bool.and_eq_true, Bool.not_eq_true', List.isEmpty_eq_false_iff] at hok
        simp only [List.map_cons, List.cons.injEq] at hl
        refine ⟨fun e => absurd e hok.1.1, fun x hx => ?_⟩
        have hxi := List.all_eq_true.1 hok.1.2 x hx
        simp only [beq_iff_eq] at hxi
        subst hxi
        exact one hl.2.1 k h1 h2 h3 (fun fr' S' g' a' w' p1 p2 p3 p4 p5 => ih _ t (i :: is) (p :: l) fr' S' g' a' w' hok.2 (by simp [hl.1, hl.2.2]) p1 p2 p3 p4 p5) h
      | [], _, hok, _, _ => simp [okT] at hok
      | [_], _, hok, _, _ => simp [okT] at hok
      | _ :: _ :: _, [], _, hl, _ => cases hl
      | _ :: _ :: _, [_], _, hl, _ => simp at hl
    | both t u =>
      match is, l, hok, hl, h with
      | i :: j :: is, p :: o :: l, hok, hl, h =>
        simp only [okT, Bool.and_eq_true, Bool.not_eq_true', List.isEmpty_eq_false_iff] at hok
        simp only [List.map_cons, List.cons.injEq] at hl
        refine ⟨fun e => absurd e hok.1.1.1, fun x hx => ?_⟩
        have hxi := List.all_eq_true.1 hok.1.1.2 x hx
        simp only [Bool.or_eq_true, beq_iff_eq] at hxi
        rcases hxi with hxi | hxi
        · subst hxi
          exact one hl.1 k h1 h2 h3 (fun fr' S' g' a' w' p1 p2 p3 p4 p5 => ih _ t (j :: is) (o :: l) fr' S' g' a' w' hok.1.2 (by simp [hl.2.1, hl.2.2]) p1 p2 p3 p4 p5) h.1
        · subst hxi
          exact one hl.2.1 k h1 h2 h3 (fun fr' S' g' a' w' p1 p2 p3 p4 p5 => ih _ u (i :: is) (p :: l) fr' S' g' a' w' hok.2 (by simp [hl.1, hl.2.2]) p1 p2 p3 p4 p5) h.2
      | [], _, hok, _, _ => simp [okT] at hok
      | [_], _, hok, _, _ => simp [okT] at hok
      | _ :: _ :: _, [], _, hl, _ => cases hl
      | _ :: _ :: _, [_], _, hl, _ => simp at hl
/-- A region, all of its orders walked. -/
theorem allK (t : Tr) {id : Nat} {l : List Oper} {fr : List DV} {S : St} {Q : Exit → List DV → St → Prop} (hm : P.follows .mixedOrders = true) (hB : okR l t = true) (h : vwT P w0 (fun fr S => normF fr fun fr => Q .normal fr S) t l fr S) : AWp P w0 (.region id l.toArray true) fr S Q := by
  simp only [okR, Bool.and_eq_true] at hB
  intro g a w h1 h2 h3
  refine wpA_region_any hm fun ro => ?_
  have hR : Rel w0 g S { w with drawn := w.drawn + 1 } := h1.grow (below_drew w)
  have hs : ∀ (i : Nat) o, l.toArray[i]? = some o → okSl o.op = true ∧ o.guard = none := fun i o hi => by
    have := List.all_eq_true.1 hB.1 o (List.mem_of_getElem? (by simpa using hi))
    simpa using this
  have := vwT_sound (ro := ro) (g0 := g) (Q := Q) hs _ _ t (List.range l.length) l fr S g a _ hB.2 (by
    apply List.ext_getElem?
    intro i
    simp only [List.getElem?_map, List.getElem?_range', List.getElem?_toArray]
    rcases Nat.lt_or_ge i l.length with hi | hi
    · rw [List.getElem?_range hi]; simp [List.getElem?_eq_getElem hi]
    · rw [List.getElem?_eq_none (by simpa using hi), List.getElem?_eq_none hi]; rfl) (.refl g) hR h2 (h3.keep rfl fun _ _ h _ => h) h
  simpa using this
section
variable {K : List DV → St → Prop} {fr : List DV} {S : St} {t u : Tr} {o p : Oper} {r : List Oper} {dst dst2 : Option Tmp} {op op2 : Op} {ty ty2 : TypeId} {pos pos2 : String} {aft aft2 : Array Edge}
theorem t_leaf : vwT P w0 K .leaf [] fr S = K fr S := rfl
theorem t_head : vwT P w0 K (.head t) (⟨dst, op, ty, pos, aft, none⟩ :: r) fr S = vcOp P w0 op fr S fun d S' => vwT P w0 K t r (pt fr dst d) S' := rfl
theorem t_snd : vwT P w0 K (.snd t) (p :: ⟨dst, op, ty, pos, aft, none⟩ :: r) fr S = vcOp P w0 op fr S fun d S' => vwT P w0 K t (p :: r) (pt fr dst d) S' := rfl
theorem t_both : vwT P w0 K (.both t u) (⟨dst, op, ty, pos, aft, none⟩ :: ⟨dst2, op2, ty2, pos2, aft2, none⟩ :: r) fr S = ((vcOp P w0 op fr S fun d S' => vwT P w0 K t (⟨dst2, op2, ty2, pos2, aft2, none⟩ :: r) (pt fr dst d) S') ∧ vcOp P w0 op2 fr S fun d S' => vwT P w0 K u (⟨dst, op, ty, pos, aft, none⟩ :: r) (pt fr dst2 d) S') := rfl
@[congr] theorem c_vwT {fr' : List DV} {S' : St} (h1 : fr = fr') (h2 : S = S') : vwT P w0 K t r fr S = vwT P w0 K t r fr' S' := by cases h1; cases h2; rfl
end
end
attribute [go_sem ↓] t_leaf t_head t_snd t_both
end Aml

namespace Aml
open Go Go.RowKit
set_option linter.unusedVariables false
set_option linter.unusedSimpArgs false
section
variable {P : Program} {w0 : W0}
/-- What is made is frozen, its own objects forgotten. -/
theorem yields_q {o : Oper} {ρD : Operand → DV} {S : St} {r : DV} (h : YieldsE P w0 o ρD S fun d S' => shr S' d fun d' S'' => d' = r ∧ Sub S S'') : YieldsE P w0 o ρD S fun d S' => d = r ∧ S' = S := by
  intro g w ρ h1 h2 hcst
  have := h g w ρ h1 h2 hcst
  split at this
  · obtain ⟨g', d, S', a, b, c, e⟩ := this
    obtain ⟨g2, d2, S2, q1, q2, q3, q4, q5⟩ := shr_ok b c e
    exact ⟨g2, d2, S, a.trans q1, q2.forget q5.box q5.acc, q3, q4, rfl⟩
  · obtain ⟨g', S', a, b, e⟩ := this
    have e : ud = r ∧ Sub S S' := e
    exact ⟨g', S, a, b.forget e.2.box e.2.acc, e.1, rfl⟩
  · refine this.mono ?_
    rintro e w'' ⟨r', g', d, S', a, b, c, x, y⟩
    obtain ⟨g2, d2, S2, q1, q2, q3, q4, q5⟩ := shr_ok c x y
    exact ⟨r', g2, d2, S, a, b.trans q1, q2.forget q5.box q5.acc, q3, q4, rfl⟩
  · refine fun ro => (this ro).mono ?_
    rintro e w'' ⟨r', g', d, S', a, b, c, x, y⟩
    obtain ⟨g2, d2, S2, q1, q2, q3, q4, q5⟩ := shr_ok c x y
    exact ⟨r', g2, d2, S, a, b.trans q1, q2.forget q5.box q5.acc, q3, q4, rfl⟩
  · exact this
def vMakeQ (k : TK) (z x y : DV) (K : DV → Prop) : Prop := match k, x, y with
  | .sl _ s by' true, .v (.int _ n), .v (.int _ m) => okE z = true ∧ 0 ≤ n ∧ n ≤ m ∧ m * by' ≤ 140737488355328 ∧ m ≤ 9223372036854775807 ∧ K (.sl s false (List.replicate n.toNat z))
  | _, _, _ => False
def vConvZ (a b ke : TK) (x : DV) (K : DV → Prop) : Prop := match a, b, x with
  | .sl _ _ _ _, .str, .sl s _ xs => ke = .int .u8 ∧ s = 1 ∧ okBy xs = true ∧ K (.v (.string (strOfNums (byD xs))))
  | a, b, x => vConv a b x K
def opZ (P : Program) (w0 : W0) (op : Op) (fr : List DV) (S : St) (K : DV → Prop) : Prop := match op with
  | .makeSlice t x y => vMakeQ (tk P t) (zD P (elT P t)) (ev fr x) (ev fr y) K
  | .convert s d x => vConvZ (tk P s) (tk P d) (tk P (elT P s)) (ev fr x) K
  | op => vcOpQ P w0 op fr S K
def isQZ : Op → Bool
  | .makeSlice .. => true
  | op => isQ op
def LZ (P : Program) (w0 : W0) (S : St) (ops : Array Oper) (K : List DV → St → Prop) : List Oper → List DV → Prop
  | [], fr => K fr S
  | o :: rest, fr => selK (isQZ o.op) (guardK ops fr o.guard (fun fr => opZ P w0 o.op fr S fun d => LZ P w0 S ops K rest (pt fr o.dst d)) (fun fr => LZ P w0 S ops K rest (pt fr o.dst ud))) (vcL P w0 ops K (o :: rest) fr S)
theorem opZ_sound {o : Oper} {fr : List DV} {S : St} {K : DV → Prop} (hs : okSl o.op = true) (h : opZ P w0 o.op fr S K) : ∃ d, QY P w0 S o fr d ∧ K d := by
  cases hop : o.op with
  | makeSlice t x y =>
    rw [hop] at h
    simp only [opZ, vMakeQ] at h
    split at h
    · rename_i e s by' k1 n k2 m hk hx hy
      obtain ⟨q1, q2, q3, q4, q5, q6⟩ := h
      refine ⟨_, yields_q (y_makeSlice hop ?_), q6⟩
      rw [hk, hx, hy]
      refine ⟨q1, q2, q3, q4, q5, fun l hl => ?_⟩
      show shr _ _ _
      unfold shr shr1
      simp only [lk, if_true, List.length_replicate, true_and]
      exact ⟨List.Sublist.refl _, by show List.Sublist S.acc (up _ _ _); simp only [up, if_true]; exact List.sublist_cons_self _ _⟩
    · exact h.elim
  | convert s d x =>
    rw [hop] at h hs
    simp only [opZ, vConvZ] at h
    split at h
    · rename_i e c b i s0 f xs hk hd hx
      obtain ⟨q1, q2, q3, q4⟩ := h
      refine ⟨_, y_convS (K := fun d S' => d = _ ∧ S' = S) hop ?_, q4⟩
      rw [hk, hd, hx]
      exact ⟨q1, rfl, q2, q3, rfl, rfl⟩
    · exact vcOpQ_sound (by rw [hop]; exact hs) (by rw [hop]; exact h)
  | _ => rw [hop] at h hs; exact vcOpQ_sound (by rw [hop]; exact hs) (by rw [hop]; exact h)
def nprZ (l : List Oper) : Nat := (l.takeWhile fun o => isQZ o.op).length
theorem LZ_split {S : St} {ops : Array Oper} {K : List DV → St → Prop} : ∀ {l : List Oper} {fr : List DV}, l.all (fun o => okSl o.op) = true → LZ P w0 S ops K l fr → LQ P w0 S ops (fun fr => vcL P w0 ops K (l.drop (nprZ l)) fr S) (l.take (nprZ l)) fr
  | [], fr, _, h => h
  | o :: rest, fr, hs, h => by
    simp only [List.all_cons, Bool.and_eq_true] at hs
    unfold LZ selK at h
    cases hq : isQZ o.op with
    | true =>
      rw [hq] at h
      simp only at h
      have e : nprZ (o :: rest) = nprZ rest + 1 := by simp [nprZ, hq]
      rw [e, List.take_succ_cons, List.drop_succ_cons]
      exact guardK_mono (fun fr h => by obtain ⟨d, q1, q2⟩ := opZ_sound hs.1 h; exact ⟨d, q1, LZ_split hs.2 q2⟩) (fun fr h => LZ_split hs.2 h) h
    | false =>
      rw [hq] at h
      have e : nprZ (o :: rest) = 0 := by simp [nprZ, hq]
      rw [e]
      exact h
/-- What such a region asks. -/
def okZ (l : List Oper) : Bool := l.all (fun o => okSl o.op && o.guard.isNone) && Region.lexB .any (l.take (nprZ l)).toArray && tailB .any l.toArray (nprZ l)
theorem makeK {id : Nat} {l : List Oper} {fr : List DV} {S : St} {Q : Exit → List DV → St → Prop} (hm : P.follows .mixedOrders = true) (hB : okZ l = true) (h : LZ P w0 S l.toArray (fun fr S => normF fr fun fr => Q .normal fr S) l fr) : AWp P w0 (.region id l.toArray true) fr S Q := by
  simp only [okZ, Bool.and_eq_true] at hB
  obtain ⟨⟨b1, b2⟩, b3⟩ := hB
  have hs : l.all (fun o => okSl o.op) = true := List.all_eq_true.2 fun o ho => by
    have := List.all_eq_true.1 b1 o ho
    simp only [Bool.and_eq_true] at this
    exact this.1
  have hn : nprZ l ≤ l.length := List.Sublist.length_le (List.takeWhile_sublist _)
  refine awp_drawT (nprZ l) hn hm b2 b3 hs (LQ_arr ?_ (LZ_split hs h))
  intro o ho j want hg
  have := List.all_eq_true.1 b1 o (List.mem_of_mem_take ho)
  simp [hg] at this
section
variable {ops : Array Oper} {K : List DV → St → Prop} {K2 : DV → Prop} {fr : List DV} {S : St} {r : List Oper} {dst : Option Tmp} {op : Op} {ty : TypeId} {pos : String} {aft : Array Edge}
theorem z_nil : LZ P w0 S ops K [] fr = K fr S := rfl
theorem z_none : LZ P w0 S ops K (⟨dst, op, ty, pos, aft, none⟩ :: r) fr = selK (isQZ op) (opZ P w0 op fr S fun d => LZ P w0 S ops K r (pt fr dst d)) (vcL P w0 ops K (⟨dst, op, ty, pos, aft, none⟩ :: r) fr S) := rfl
theorem z_make (t : TypeId) (x y : Operand) : opZ P w0 (.makeSlice t x y) fr S K2 = vMakeQ (tk P t) (zD P (elT P t)) (ev fr x) (ev fr y) K2 := rfl
theorem z_conv (s d : TypeId) (x : Operand) : opZ P w0 (.convert s d x) fr S K2 = vConvZ (tk P s) (tk P d) (tk P (elT P s)) (ev fr x) K2 := rfl
theorem z_load (t : TypeId) (x : Operand) : opZ P w0 (.load t x) fr S K2 = vcOpQ P w0 (.load t x) fr S K2 := rfl
theorem z_move (x : Operand) : opZ P w0 (.move x) fr S K2 = vcOpQ P w0 (.move x) fr S K2 := rfl
theorem z_assign (x : Operand) : opZ P w0 (.assign x) fr S K2 = vcOpQ P w0 (.assign x) fr S K2 := rfl
theorem z_index (t : TypeId) (x i : Operand) : opZ P w0 (.indexAddr t x i) fr S K2 = vcOpQ P w0 (.indexAddr t x i) fr S K2 := rfl
theorem z_field (t : TypeId) (x : Operand) (f : Nat) : opZ P w0 (.fieldAddr t x f) fr S K2 = vcOpQ P w0 (.fieldAddr t x f) fr S K2 := rfl
theorem z_call (c : Call) : opZ P w0 (.call c) fr S K2 = vcOpQ P w0 (.call c) fr S K2 := rfl
theorem z_vmake (e s b : Nat) (z : DV) (k1 k2 : IntKind) (n m : Int) : vMakeQ (.sl e s b true) z (.v (.int k1 n)) (.v (.int k2 m)) K2 = (okE z = true ∧ 0 ≤ n ∧ n ≤ m ∧ m * b ≤ 140737488355328 ∧ m ≤ 9223372036854775807 ∧ K2 (.sl s false (List.replicate n.toNat z))) := rfl
theorem z_vconv (e c b : Nat) (i : Bool) (ke : TK) (s : Nat) (f : Bool) (xs : List DV) : vConvZ (.sl e c b i) .str ke (.sl s f xs) K2 = (ke = .int .u8 ∧ s = 1 ∧ okBy xs = true ∧ K2 (.v (.string (strOfNums (byD xs))))) := rfl
@[congr] theorem c_LZ {fr' : List DV} (h1 : fr = fr') : LZ P w0 S ops K r fr = LZ P w0 S ops K r fr' := by cases h1; rfl
@[congr] theorem c_opZ {fr' : List DV} (h1 : fr = fr') : opZ P w0 op fr S K2 = opZ P w0 op fr' S K2 := by cases h1; rfl
@[congr] theorem c_vMakeQ {k k' : TK} {z z' x x' y y' : DV} (h1 : k = k') (h2 : z = z') (h3 : x = x') (h4 : y = y') : vMakeQ k z x y K2 = vMakeQ k' z' x' y' K2 := by cases h1; cases h2; cases h3; cases h4; rfl
@[congr] theorem c_vConvZ {k k' q q' ke ke' : TK} {x x' : DV} (h1 : k = k') (h2 : q = q') (h3 : ke = ke') (h4 : x = x') : vConvZ k q ke x K2 = vConvZ k' q' ke' x' K2 := by cases h1; cases h2; cases h3; cases h4; rfl
end
end
attribute [go_sem ↓] z_nil z_none z_make z_conv z_load z_move z_assign z_index z_field z_call
attribute [go_sem] z_vmake z_vconv isQZ
end Aml

namespace Aml.Z
open Go Go.RowKit
set_option linter.unusedVariables false
set_option linter.unusedSimpArgs false

/-- 0: looks at no store; 1: reads; 2: makes a box; 3: else. -/
def kX : Op → Nat
  | .load .. => 1
  | .alloc _ => 2
  | .call c => match c.callee with
    | .value _ => 1
    | .builtin .len => 0
    | .builtin .cap => 0
    | .builtin .min => 0
    | .builtin .max => 0
    | _ => 3
  | .move _ => 0
  | .assign _ => 0
  | .pick .. => 0
  | .fieldAddr .. => 0
  | .indexAddr .. => 0
  | .index .. => 0
  | .field .. => 0
  | .extract .. => 0
  | .nilCheck _ => 0
  | .binOp .. => 0
  | .unOp .. => 0
  | .convert .. => 0
  | .makeInterface .. => 0
  | .makeFunc .. => 0
  | .slice .. => 0
  | .build .. => 0
  | .buildSlice .. => 0
  | .makeSlice .. => 0
  | _ => 3
def Fr (S : St) (B : List (Nat × List DV)) : Prop := ∀ x, x ∈ B → nin S.box x.1
def bodyX (P : Program) (w0 : W0) (o : Oper) (fr : List DV) (S : St) (K : List DV → St → Prop) : Prop :=
  (kX o.op = 0 ∧ ∃ d, (∀ S', QY P w0 S' o fr d) ∧ K (pt fr o.dst d) S) ∨
  (kX o.op = 1 ∧ ∃ d, (∀ B, Fr S B → QY P w0 ⟨B ++ S.box, S.acc⟩ o fr d) ∧ K (pt fr o.dst d) S) ∨
  (kX o.op = 2 ∧ ∃ t, o.op = .alloc t ∧ okE (zD P t) = true ∧ ∀ b, nin S.box b → K (pt fr o.dst (.v (.pointer (some ⟨b, 0, none⟩)))) ⟨(b, cd (zD P t)) :: S.box, S.acc⟩) ∨
  (kX o.op = 3 ∧ YieldsE P w0 o (ev fr) S fun d S' => K (pt fr o.dst d) S')
def tauX (P : Program) (w0 : W0) (ops : Array Oper) (o : Oper) (fr : List DV) (S : St) (K : List DV → St → Prop) : Prop :=
  (wantB ops fr o.guard = some true ∧ bodyX P w0 o fr S K) ∨ (wantB ops fr o.guard = some false ∧ K (pt fr o.dst ud) S)
/-- May two that have no order change places? -/
def okP (a b : Nat) : Bool := a == 0 || (a == 1 && decide (b < 3))

section
variable {P : Program} {w0 : W0} {ops : Array Oper} {md : Region.Mode}
theorem bodyX_mono {o : Oper} {fr : List DV} {S : St} {K K' : List DV → St → Prop} (h : ∀ fr S, K fr S → K' fr S) (b : bodyX P w0 o fr S K) : bodyX P w0 o fr S K' := by
  rcases b with ⟨c, d, q, k⟩ | ⟨c, d, q, k⟩ | ⟨c, t, ht, hz, k⟩ | ⟨c, q⟩
  · exact .inl ⟨c, d, q, h _ _ k⟩
  · exact .inr (.inl ⟨c, d, q, h _ _ k⟩)
  · exact .inr (.inr (.inl ⟨c, t, ht, hz, fun b hb => h _ _ (k b hb)⟩))
  · exact .inr (.inr (.inr ⟨c, yields_mono (fun d S hk => h _ _ hk) q⟩))
theorem tauX_mono {o : Oper} {fr : List DV} {S : St} {K K' : List DV → St → Prop} (h : ∀ fr S, K fr S → K' fr S) (b : tauX P w0 ops o fr S K) : tauX P w0 ops o fr S K' :=
  b.imp (fun ⟨a, b⟩ => ⟨a, bodyX_mono h b⟩) fun ⟨a, b⟩ => ⟨a, h _ _ b⟩
/-- What another one puts elsewhere is not seen. -/
theorem bodyX_put {o : Oper} {fr : List DV} {S : St} {K : List DV → St → Prop} {dst : Option Tmp} {e : DV} (h1 : ∀ t, dst = some t → t ∉ o.looksAt ops) (h2 : ∀ t, dst = some t → o.dst ≠ some t) :
    bodyX P w0 o (pt fr dst e) S K ↔ bodyX P w0 o fr S fun fr' S' => K (pt fr' dst e) S' := by
  have hq : ∀ S d, QY P w0 S o (pt fr dst e) d ↔ QY P w0 S o fr d := fun S d =>
    ⟨yields_congr (fun x hx => ev_put (ops := ops) h1 x hx), yields_congr (fun x hx => (ev_put (ops := ops) h1 x hx).symm)⟩
  have hc : ∀ d, pt (pt fr dst e) o.dst d = pt (pt fr o.dst d) dst e := fun d => pt_comm fr e d h2
  have hy : ∀ K, YieldsE P w0 o (ev (pt fr dst e)) S K ↔ YieldsE P w0 o (ev fr) S K := fun K =>
    ⟨yields_congr (fun x hx => ev_put (ops := ops) h1 x hx), yields_congr (fun x hx => (ev_put (ops := ops) h1 x hx).symm)⟩
  unfold bodyX
  simp only [hq, hc, hy]
theorem tauX_put {o : Oper} {fr : List DV} {S : St} {K : List DV → St → Prop} {dst : Option Tmp} {e : DV} (h1 : ∀ t, dst = some t → t ∉ o.looksAt ops) (h2 : ∀ t, dst = some t → o.dst ≠ some t) :
    tauX P w0 ops o (pt fr dst e) S K ↔ tauX P w0 ops o fr S fun fr' S' => K (pt fr' dst e) S' := by
  unfold tauX
  rw [want_put h1, bodyX_put h1 h2, pt_comm fr e ud h2]
theorem bodyX_monoP {o : Oper} {fr : List DV} {S : St} {K K' : List DV → St → Prop} (h : ∀ e S, K (pt fr o.dst e) S → K' (pt fr o.dst e) S) (b : bodyX P w0 o fr S K) : bodyX P w0 o fr S K' := by
  rcases b with ⟨c, d, q, k⟩ | ⟨c, d, q, k⟩ | ⟨c, t, ht, hz, k⟩ | ⟨c, q⟩
  · exact .inl ⟨c, d, q, h _ _ k⟩
  · exact .inr (.inl ⟨c, d, q, h _ _ k⟩)
  · exact .inr (.inr (.inl ⟨c, t, ht, hz, fun b hb => h _ _ (k b hb)⟩))
  · exact .inr (.inr (.inr ⟨c, yields_mono (fun d S hk => h _ _ hk) q⟩))
theorem tauX_monoP {o : Oper} {fr : List DV} {S : St} {K K' : List DV → St → Prop} (h : ∀ e S, K (pt fr o.dst e) S → K' (pt fr o.dst e) S) (b : tauX P w0 ops o fr S K) : tauX P w0 ops o fr S K' :=
  b.imp (fun ⟨a, b⟩ => ⟨a, bodyX_monoP h b⟩) fun ⟨a, b⟩ => ⟨a, h _ _ b⟩
/-- Two that are apart change places. -/
theorem tauX_comm {x y : Oper} (hap : x.apart ops y = true) (hk : okP (kX x.op) (kX y.op) = true) {fr : List DV} {S : St} {K : List DV → St → Prop} (h : tauX P w0 ops x fr S fun fr S => tauX P w0 ops y fr S K) :
    tauX P w0 ops y fr S fun fr S => tauX P w0 ops x fr S K := by
  obtain ⟨b1, b2, b3⟩ := Oper.apart_spec hap
  have hw : ∀ e, wantB ops (pt fr y.dst e) x.guard = wantB ops fr x.guard := fun e => want_put b3
  have hq : ∀ {S d e}, QY P w0 S x fr d → QY P w0 S x (pt fr y.dst e) d := fun {S d e} q => yields_congr (fun z hz => (ev_put (ops := ops) b3 z hz).symm) q
  rcases h with ⟨hg, hb⟩ | ⟨hg, hb⟩
  · rcases hb with ⟨c, d, q, k⟩ | ⟨c, d, q, k⟩ | ⟨c, -⟩ | ⟨c, -⟩
    · rw [tauX_put b1 b2] at k
      exact tauX_monoP (fun e S' hk => .inl ⟨by rw [hw]; exact hg, .inl ⟨c, d, fun S'' => hq (q S''), hk⟩⟩) k
    · rw [tauX_put b1 b2] at k
      rcases k with ⟨g2, k⟩ | ⟨g2, k⟩
      · rcases k with ⟨c2, d2, q2, k⟩ | ⟨c2, d2, q2, k⟩ | ⟨c2, t, ht, hz, k⟩ | ⟨c2, -⟩
        · exact .inl ⟨g2, .inl ⟨c2, d2, q2, .inl ⟨by rw [hw]; exact hg, .inr (.inl ⟨c, d, fun B hB => hq (q B hB), k⟩)⟩⟩⟩
        · exact .inl ⟨g2, .inr (.inl ⟨c2, d2, q2, .inl ⟨by rw [hw]; exact hg, .inr (.inl ⟨c, d, fun B hB => hq (q B hB), k⟩)⟩⟩)⟩
        · refine .inl ⟨g2, .inr (.inr (.inl ⟨c2, t, ht, hz, fun b hb => .inl ⟨by rw [hw]; exact hg, .inr (.inl ⟨c, d, fun B hB => hq ?_, k b hb⟩)⟩⟩))⟩
          have := q (B ++ [(b, cd (zD P t))]) fun z hz' => by
            rcases List.mem_append.1 hz' with h | h
            · exact (hB z h).2.2
            · simp only [List.mem_singleton] at h; subst h; exact hb
          rw [List.append_assoc] at this
          exact this
        · rw [c, c2] at hk; exact absurd hk (by decide)
      · exact .inr ⟨g2, .inl ⟨by rw [hw]; exact hg, .inr (.inl ⟨c, d, fun B hB => hq (q B hB), k⟩)⟩⟩
    · rw [c] at hk; simp [okP] at hk
    · rw [c] at hk; simp [okP] at hk
  · rw [tauX_put b1 b2] at hb
    exact tauX_monoP (fun e S' hk => .inr ⟨by rw [hw]; exact hg, hk⟩) hb

def tauI (P : Program) (w0 : W0) (ops : Array Oper) (i : Nat) (fr : List DV) (S : St) (K : List DV → St → Prop) : Prop := match ops[i]? with
  | none => K fr S
  | some o => tauX P w0 ops o fr S K
def wpX (P : Program) (w0 : W0) (md : Region.Mode) (ops : Array Oper) (K : List DV → St → Prop) : Nat → Array Bool → List DV → St → Prop
  | 0, listed, fr, S => Region.ready md ops listed = [] ∧ K fr S
  | fuel + 1, listed, fr, S => (Region.ready md ops listed = [] → K fr S) ∧ ∀ i ∈ Region.ready md ops listed, tauI P w0 ops i fr S (wpX P w0 md ops K fuel (listed.setIfInBounds i true))
theorem tauI_mono {i : Nat} {fr : List DV} {S : St} {K K' : List DV → St → Prop} (h : ∀ fr S, K fr S → K' fr S) (b : tauI P w0 ops i fr S K) : tauI P w0 ops i fr S K' := by
  unfold tauI at *
  split
  · rename_i ho; simp only [ho] at b; exact h _ _ b
  · rename_i o ho; simp only [ho] at b; exact tauX_mono h b
theorem wpX_first {K : List DV → St → Prop} {i : Nat} {oi : Oper} (hi : ops[i]? = some oi) :
    ∀ (fuel : Nat) (listed : Array Bool) (fr : List DV) (S : St),
      (∀ j oj, ops[j]? = some oj → j ≠ i → listed.getD j true = false → (∀ e ∈ oj.after, Region.binds md e = true → e.on ≠ i) → oi.apart ops oj = true ∧ okP (kX oi.op) (kX oj.op) = true) →
      (∀ l : List Nat, l.Nodup → (∀ k, k ∈ l → listed.getD k true = false) → l.length ≤ fuel + 1) →
      i ∈ Region.ready md ops listed → tauX P w0 ops oi fr S (wpX P w0 md ops K fuel (listed.setIfInBounds i true)) → wpX P w0 md ops K (fuel + 1) listed fr S := by
  intro fuel
  induction fuel with
  | zero =>
    intro listed fr S _ hcnt hr H
    refine ⟨fun h => (by rw [h] at hr; cases hr), fun j hj => ?_⟩
    by_cases hji : j = i
    · subst hji; unfold tauI; simp only [hi]; exact H
    · exfalso
      have := hcnt [i, j] (by simp [Ne.symm hji]) fun k hk => by
        simp only [List.mem_cons, List.not_mem_nil, or_false] at hk
        rcases hk with rfl | rfl
        · exact (mem_ready.1 hr).1
        · exact (mem_ready.1 hj).1
      simp at this
  | succ fuel ih =>
    intro listed fr S hfree hcnt hr H
    refine ⟨fun h => (by rw [h] at hr; cases hr), fun j hj => ?_⟩
    by_cases hji : j = i
    · subst hji; unfold tauI; simp only [hi]; exact H
    · obtain ⟨hjun, oj, hoj, hall⟩ := mem_ready.1 hj
      have hnot : ∀ e ∈ oj.after, Region.binds md e = true → e.on ≠ i := fun e he hb heq => by
        have h1 := hall e he hb
        have h0 := (mem_ready.1 hr).1
        rw [heq] at h1
        rcases Nat.lt_or_ge i listed.size with h' | h'
        · simp [h'] at h0 h1; rw [h0] at h1; cases h1
        · simp [Array.getElem?_eq_none h'] at h1
      have h1 : tauX P w0 ops oi fr S fun fr S => tauX P w0 ops oj fr S (wpX P w0 md ops K fuel ((listed.setIfInBounds i true).setIfInBounds j true)) :=
        tauX_mono (fun fr S h => by
          have := h.2 j (ready_mono hj hji)
          unfold tauI at this; simp only [hoj] at this; exact this) H
      have hc := hfree j oj hoj hji hjun hnot
      have h2 := tauX_comm hc.1 hc.2 h1
      have hfree' : ∀ k ok, ops[k]? = some ok → k ≠ i → (listed.setIfInBounds j true).getD k true = false →
          (∀ e ∈ ok.after, Region.binds md e = true → e.on ≠ i) → oi.apart ops ok = true ∧ okP (kX oi.op) (kX ok.op) = true := fun k ok hk hki hun hno => by
        refine hfree k ok hk hki ?_ hno
        by_cases hjk : j = k
        · subst hjk; exact hjun
        · rw [getD_set_ne true hjk] at hun; exact hun
      unfold tauI
      simp only [hoj]
      have hcnt' : ∀ l : List Nat, l.Nodup → (∀ k, k ∈ l → (listed.setIfInBounds j true).getD k true = false) → l.length ≤ fuel + 1 := by
        intro l hn hl
        have hjs : j < listed.size := by
          rcases Nat.lt_or_ge j listed.size with h | h
          · exact h
          · rw [Array.getD_eq_getD_getElem?, Array.getElem?_eq_none h] at hjun; cases hjun
        have hjl : j ∉ l := fun hj => by
          have := hl j hj
          rw [Array.getD_eq_getD_getElem?, Array.getElem?_setIfInBounds] at this
          simp [hjs] at this
        have := hcnt (j :: l) (List.nodup_cons.2 ⟨hjl, hn⟩) fun k hk => by
          rcases List.mem_cons.1 hk with rfl | hk
          · exact hjun
          · have := hl k hk
            rw [getD_set_ne true (show j ≠ k from fun e => hjl (e ▸ hk))] at this
            exact this
        simp at this; omega
      refine tauX_mono (fun fr S h => ih (listed.setIfInBounds j true) fr S hfree' hcnt' (ready_mono hr (Ne.symm hji)) ?_) h2
      rw [Array.setIfInBounds_comm _ _ hji]
      exact h
/-- Is an operation free to come first? -/
def freeX (md : Region.Mode) (ops : Array Oper) (listed : Array Bool) (i : Nat) : Bool := (List.range ops.size).all fun j => match ops[i]?, ops[j]? with
  | some oi, some oj => j == i || listed.getD j true || oj.after.any (fun e => Region.binds md e && e.on == i) || (oi.apart ops oj && okP (kX oi.op) (kX oj.op))
  | _, _ => false
def lexX (md : Region.Mode) (ops : Array Oper) : Nat → Nat → Array Bool → Bool
  | 0, _, listed => (Region.ready md ops listed).isEmpty
  | n + 1, k, listed => (Region.ready md ops listed).contains k && freeX md ops listed k && lexX md ops n (k + 1) (listed.setIfInBounds k true)
theorem freeX_spec {listed : Array Bool} {i : Nat} {oi : Oper} (hi : ops[i]? = some oi) (h : freeX md ops listed i = true) : ∀ j oj, ops[j]? = some oj → j ≠ i → listed.getD j true = false → (∀ e ∈ oj.after, Region.binds md e = true → e.on ≠ i) → oi.apart ops oj = true ∧ okP (kX oi.op) (kX oj.op) = true := by
  intro j oj hj hji hun hno
  have hlt : j < ops.size := (Array.getElem?_eq_some_iff.1 hj).1
  have := List.all_eq_true.1 h j (List.mem_range.2 hlt)
  simp only [hi, hj, hun, Bool.or_false, Bool.or_eq_true, beq_iff_eq, Bool.and_eq_true] at this
  rcases this with (h | h) | h
  · exact absurd h hji
  · exfalso
    obtain ⟨e, he, h⟩ := Array.any_eq_true'.1 h
    simp only [Bool.and_eq_true, beq_iff_eq] at h
    exact hno e he h.1 h.2
  · exact h
/-- In the text's order. -/
def LX (P : Program) (w0 : W0) (ops : Array Oper) (K : List DV → St → Prop) : List Oper → List DV → St → Prop
  | [], fr, S => K fr S
  | o :: rest, fr, S => tauX P w0 ops o fr S (LX P w0 ops K rest)
theorem wpX_lex {K : List DV → St → Prop} : ∀ (l : List Oper) (k : Nat) (listed : Array Bool) (fr : List DV) (S : St), (∀ j, l[j]? = ops[k + j]?) →
    (∀ l' : List Nat, l'.Nodup → (∀ k, k ∈ l' → listed.getD k true = false) → l'.length ≤ l.length) →
    lexX md ops l.length k listed = true → LX P w0 ops K l fr S → wpX P w0 md ops K l.length listed fr S
  | [], _, _, _, _, _, _, hB, h => ⟨by simpa [lexX] using hB, h⟩
  | o :: l, k, listed, fr, S, hl, hcnt, hB, h => by
    have h0 : ops[k]? = some o := by simpa using (hl 0).symm
    simp only [List.length_cons, lexX, Bool.and_eq_true] at hB
    obtain ⟨⟨hr, hf⟩, hB'⟩ := hB
    have hr' : k ∈ Region.ready md ops listed := by simpa using hr
    have hun := (mem_ready.1 hr').1
    refine wpX_first h0 l.length listed fr S (freeX_spec h0 hf) (by simpa using hcnt) hr' ?_
    refine tauX_mono (fun fr S h => wpX_lex l (k + 1) _ fr S (fun j => by have := hl (j + 1); simpa [Nat.add_assoc, Nat.add_comm 1 j] using this) ?_ hB' h) h
    intro l' hn hl'
    have hks : k < listed.size := by
      rcases Nat.lt_or_ge k listed.size with h | h
      · exact h
      · rw [Array.getD_eq_getD_getElem?, Array.getElem?_eq_none h] at hun; cases hun
    have hkl : k ∉ l' := fun hk => by
      have := hl' k hk
      rw [Array.getD_eq_getD_getElem?, Array.getElem?_setIfInBounds] at this
      simp [hks] at this
    have := hcnt (k :: l') (List.nodup_cons.2 ⟨hkl, hn⟩) fun m hm => by
      rcases List.mem_cons.1 hm with rfl | hm
      · exact hun
      · have := hl' m hm
        rw [getD_set_ne true (show k ≠ m from fun e => hkl (e ▸ hm))] at this
        exact this
    simp at this; omega
theorem bodyX_yields {o : Oper} {fr : List DV} {S : St} {K : List DV → St → Prop} (h : bodyX P w0 o fr S K) : YieldsE P w0 o (ev fr) S fun d S' => K (pt fr o.dst d) S' := by
  rcases h with ⟨c, d, q, k⟩ | ⟨c, d, q, k⟩ | ⟨c, t, ht, hz, k⟩ | ⟨c, q⟩
  · exact yields_mono (fun d' S' h => by rw [h.1, h.2]; exact k) (q S)
  · have := q [] (fun x hx => by cases hx)
    exact yields_mono (fun d' S' h => by rw [h.1, h.2]; exact k) this
  · exact y_alloc ht ⟨hz, k⟩
  · exact q
theorem wpAny_of_X {ro : Option Nat} {g0 : Gh} {Q : Exit → List DV → St → Prop} : ∀ (fuel : Nat) (listed : Array Bool) (fr : List DV) (S : St) (g : Gh) (a : Act) (w : World), g0.le g → Rel w0 g S w → RepL g fr a.tmps.toList → Dk w0 g.obj a w →
    wpX P w0 md ops (fun fr S => Q .normal fr S) fuel listed fr S → wpAnyIn (fz ro) 0 P md ops (Good w0 g0 Q) fuel listed a w
  | 0, listed, fr, S, g, a, w, k, h1, h2, h3, h => ⟨h.1, k.kd h3, g, fr, S, k, h1, h2, h.2⟩
  | fuel + 1, listed, fr, S, g, a, w, k, h1, h2, h3, h => by
    refine ⟨fun h0 => ⟨k.kd h3, g, fr, S, k, h1, h2, h.1 h0⟩, fun i hi => ?_⟩
    have hq := h.2 i hi
    unfold tauI at hq
    unfold wpOpIn
    split
    · rename_i ho; simp only [ho] at hq; exact wpAny_of_X fuel _ fr S g a w k h1 h2 h3 hq
    · rename_i o ho
      simp only [ho] at hq
      rcases hq with ⟨hw, hb⟩ | ⟨hw, hk⟩
      · have hw' := wantB_sound (o := o) h2 hw
        rw [if_pos hw']
        refine wpIn_of_yields (bodyX_yields hb) h1 (fun x _ => rep_ev h2 x) h3 fun g' d' u S' w' k1 k2 k3 k4 k5 => ?_
        exact wpAny_of_X fuel _ _ _ g' _ _ (k.trans k1) k2 (repL_put (h2.mono k1) _ k3) (k1.dk k5) k4
      · have hw' := wantB_sound (o := o) h2 hw
        rw [if_neg (by simp [hw'])]
        exact ⟨fun _ _ => trivial, wpAny_of_X fuel _ _ _ g _ _ k h1 (repL_put h2 _ (rep_ud g)) (h3.keep (put_defers _ _ _) fun _ _ h _ => h) hk⟩
/-- A region that draws its order, where the text's order serves. -/
theorem awp_drawL {id : Nat} {l : List Oper} {fr : List DV} {S : St} {Q : Exit → List DV → St → Prop} (hm : P.follows .mixedOrders = true) (hB : lexX .any l.toArray l.length 0 (Array.replicate l.length false) = true) (h : LX P w0 l.toArray (fun fr S => Q .normal fr S) l fr S) : AWp P w0 (.region id l.toArray true) fr S Q := by
  intro g a w h1 h2 h3
  refine wpA_region_any hm fun ro => ?_
  have hR : Rel w0 g S { w with drawn := w.drawn + 1 } := h1.grow (below_drew w)
  have hcnt : ∀ l' : List Nat, l'.Nodup → (∀ k, k ∈ l' → (Array.replicate l.length false).getD k true = false) → l'.length ≤ l.length := by
    intro l' hn hl
    have hsub : ∀ k, k ∈ l' → k ∈ List.range l.length := fun k hk => by
      have := hl k hk
      rw [List.mem_range]
      rcases Nat.lt_or_ge k l.length with h | h
      · exact h
      · rw [Array.getD_eq_getD_getElem?, Array.getElem?_eq_none (by simpa using h)] at this; cases this
    have := hn.length_le_of_subset (l₂ := List.range l.length) hsub
    simpa using this
  have := wpX_lex (P := P) (w0 := w0) (md := .any) (ops := l.toArray) l 0 (Array.replicate l.length false) fr S (by simp) hcnt hB h
  have := wpAny_of_X (ro := ro) (g0 := g) (Q := Q) _ _ fr S g a _ (.refl g) hR h2 (h3.keep rfl fun _ _ h _ => h) this
  simpa using this

/-- What looks at no store: one value, at every store. -/
theorem pure_det {op : Op} (hk : kX op = 0) {fr : List DV} {S : St} {K : DV → Prop} (h : vcOpQ P w0 op fr S K) : ∃ d, (∀ S', vcOpQ P w0 op fr S' (· = d)) ∧ K d := by
  cases op with
  | move x => exact ⟨_, fun _ => rfl, h⟩
  | assign x => exact ⟨_, fun _ => rfl, h⟩
  | pick c a b => obtain ⟨d, q1, q2⟩ := det_pick h; exact ⟨d, fun _ => q1, q2⟩
  | fieldAddr t x f => obtain ⟨d, q1, q2⟩ := det_field h; exact ⟨d, fun _ => q1, q2⟩
  | indexAddr t x i => obtain ⟨d, q1, q2⟩ := det_indexAddr h; exact ⟨d, fun _ => q1, q2⟩
  | index t x i => obtain ⟨d, q1, q2⟩ := det_index h; exact ⟨d, fun _ => q1, q2⟩
  | field t x f => obtain ⟨d, q1, q2⟩ := det_fieldV h; exact ⟨d, fun _ => q1, q2⟩
  | extract x i => obtain ⟨d, q1, q2⟩ := det_extract h; exact ⟨d, fun _ => q1, q2⟩
  | nilCheck x => exact ⟨_, fun _ => ⟨h.1, rfl⟩, h.2⟩
  | binOp b t x y t' => obtain ⟨d, q1, q2⟩ := det_bin h.2; exact ⟨d, fun _ => ⟨h.1, q1⟩, q2⟩
  | unOp b t x => obtain ⟨d, q1, q2⟩ := det_un h; exact ⟨d, fun _ => q1, q2⟩
  | convert s d x => obtain ⟨d, q1, q2⟩ := det_conv h; exact ⟨d, fun _ => q1, q2⟩
  | makeInterface t x => exact ⟨_, fun _ => ⟨h.1, h.2.1, rfl⟩, h.2.2⟩
  | makeFunc fn a b => obtain ⟨d, q1, q2⟩ := det_func h; exact ⟨d, fun _ => q1, q2⟩
  | slice t x lo hi mx => obtain ⟨d, q1, q2⟩ := det_slice h.2.2; exact ⟨d, fun _ => ⟨h.1, h.2.1, q1⟩, q2⟩
  | build t parts => obtain ⟨d, q1, q2⟩ := det_build h.2; exact ⟨d, fun _ => ⟨h.1, q1⟩, q2⟩
  | buildSlice t len parts => obtain ⟨d, q1, q2⟩ := det_buildSlice h.2; exact ⟨d, fun _ => ⟨h.1, q1⟩, q2⟩
  | call c =>
    obtain ⟨callee, args, ts⟩ := c
    simp only [vcOpQ] at h ⊢
    split at h
    · split at h
      · obtain ⟨d, q1, q2⟩ := det_len h
        exact ⟨d, fun _ => by simpa using q1, q2⟩
      · exact h.elim
    · split at h
      · obtain ⟨d, q1, q2⟩ := det_cap h
        exact ⟨d, fun _ => by simpa using q1, q2⟩
      · exact h.elim
    · split at h
      · obtain ⟨d, q1, q2⟩ := det_min h
        exact ⟨d, fun _ => by simpa using q1, q2⟩
      · exact h.elim
    · split at h
      · obtain ⟨d, q1, q2⟩ := det_max h
        exact ⟨d, fun _ => by simpa using q1, q2⟩
      · exact h.elim
    · cases hk
    · exact h.elim
  | _ => first | exact h.elim | cases hk
theorem pure_detZ {op : Op} (hk : kX op = 0) {fr : List DV} {S : St} {K : DV → Prop} (h : opZ P w0 op fr S K) : ∃ d, (∀ S', opZ P w0 op fr S' (· = d)) ∧ K d := by
  cases op with
  | makeSlice t x y =>
    simp only [opZ, vMakeQ] at h ⊢
    split at h
    · obtain ⟨q1, q2, q3, q4, q5, q6⟩ := h
      exact ⟨_, fun _ => ⟨q1, q2, q3, q4, q5, rfl⟩, q6⟩
    · exact h.elim
  | convert s d x =>
    simp only [opZ] at h ⊢
    unfold vConvZ at h ⊢
    split at h
    · obtain ⟨q1, q2, q3, q4⟩ := h
      exact ⟨_, fun _ => ⟨q1, q2, q3, rfl⟩, q4⟩
    · obtain ⟨dd, p1, p2⟩ := pure_det (P := P) (w0 := w0) (op := .convert s d x) (fr := fr) (S := S) (K := K) rfl h
      exact ⟨dd, p1, p2⟩
  | _ => exact pure_det (P := P) (w0 := w0) (S := S) (fr := fr) hk h
theorem lk_ext {S : St} {B : List (Nat × List DV)} (hB : Fr S B) {b : Nat} {ds : List DV} (h : lk S.box b = some ds) : lk (B ++ S.box) b = some ds := by
  induction B with
  | nil => exact h
  | cons x B ih =>
    have h1 := hB x List.mem_cons_self
    have hne : ¬ x.1 = b := fun e => by rw [e] at h1; rw [nin_lk h1] at h; cases h
    obtain ⟨k, y⟩ := x
    show lk ((k, y) :: (B ++ S.box)) b = _
    rw [q_lk_ne hne]
    exact ih fun z hz => hB z (List.mem_cons_of_mem _ hz)
theorem load_ext {k : TK} {S : St} {x : DV} {K : DV → Prop} {B : List (Nat × List DV)} (hB : Fr S B) (h : vLoad k S x K) : vLoad k ⟨B ++ S.box, S.acc⟩ x K := by
  unfold vLoad at *
  split at h
  · split at h
    · rename_i ds hb
      simp only [lk_ext hB hb]
      exact h
    · exact h.elim
  · exact h
  · exact h
  · exact h.elim
end
/-- A call that hands back one value, whatever boxes were made beside it. -/
def QX (P : Program) (w0 : W0) (f : FuncId) (ds : List DV) (S : St) [K : Cn (DV → Prop)] : Prop := ∃ d, (∀ B, Fr S B → ACall P w0 f ds ⟨B ++ S.box, S.acc⟩ fun d' S' => d' = d ∧ S' = ⟨B ++ S.box, S.acc⟩) ∧ K.k d
def vCallX (P : Program) (w0 : W0) (cal : DV) (ds : List DV) (S : St) (K : DV → Prop) : Prop := match cal with
  | .v (.func (.func f) a cap) => a.size = 0 ∧ okF P f = true ∧ cap.toList.all (fun u => u.oneCell') = true ∧ ds.all naccA = true ∧ @QX P w0 f (ds ++ cap.toList.map .v) S ⟨K⟩
  | _ => False
def opX (P : Program) (w0 : W0) (op : Op) (fr : List DV) (S : St) (K : DV → St → Prop) : Prop := match op with
  | .load t x => vLoad (tk P t) S (ev fr x) (K · S)
  | .alloc t => okE (zD P t) = true ∧ bxK S (zD P t) K
  | .call ⟨.value cal, args, _⟩ => vCallX P w0 (ev fr cal) (args.toList.map (ev fr)) S (K · S)
  | op => selK (kX op == 0) (opZ P w0 op fr S (K · S)) (vcOp P w0 op fr S K)
def vcLX (P : Program) (w0 : W0) (ops : Array Oper) (K : List DV → St → Prop) : List Oper → List DV → St → Prop
  | [], fr, S => K fr S
  | o :: rest, fr, S => guardK ops fr o.guard (fun fr => opX P w0 o.op fr S fun d S' => vcLX P w0 ops K rest (pt fr o.dst d) S') (fun fr => vcLX P w0 ops K rest (pt fr o.dst ud) S)
section
variable {P : Program} {w0 : W0} {ops : Array Oper} {md : Region.Mode}
theorem opX_sound {o : Oper} {fr : List DV} {S : St} {K : List DV → St → Prop} (hs : okSl o.op = true) (h : opX P w0 o.op fr S fun d S' => K (pt fr o.dst d) S') : bodyX P w0 o fr S K := by
  have gen : ∀ (h : selK (kX o.op == 0) (opZ P w0 o.op fr S fun d => K (pt fr o.dst d) S) (vcOp P w0 o.op fr S fun d S' => K (pt fr o.dst d) S')), kX o.op = 0 ∨ kX o.op = 3 → bodyX P w0 o fr S K := by
    intro h hk
    rcases hk with hk | hk
    · rw [hk] at h
      obtain ⟨d, q1, q2⟩ := pure_detZ hk (show opZ P w0 o.op fr S fun d => K (pt fr o.dst d) S from h)
      exact .inl ⟨hk, d, fun S' => by
        obtain ⟨d', k1, k2⟩ := opZ_sound hs (q1 S')
        subst k2; exact k1, q2⟩
    · rw [hk] at h
      exact .inr (.inr (.inr ⟨hk, vcOp_sound hs h⟩))
  cases hop : o.op with
  | load t x =>
    rw [hop] at h hs
    obtain ⟨d, q1, q2⟩ := det_load (show vLoad (tk P t) S (ev fr x) (fun d => K (pt fr o.dst d) S) from h)
    refine .inr (.inl ⟨by rw [hop]; rfl, d, fun B hB => ?_, q2⟩)
    exact vcOp_sound (by rw [hop]; exact hs) (by rw [hop]; simpa [vcOp] using load_ext hB q1)
  | alloc t =>
    rw [hop] at h
    exact .inr (.inr (.inl ⟨by rw [hop]; rfl, t, hop, h.1, h.2⟩))
  | call c =>
    obtain ⟨callee, args, ts⟩ := c
    cases callee with
    | value cal =>
      rw [hop] at h hs
      simp only [opX, vCallX] at h
      split at h
      · rename_i f a cap hcal
        obtain ⟨h1, h2, h3, h4, d, h5, h6⟩ := h
        refine .inr (.inl ⟨by rw [hop]; rfl, d, fun B hB => ?_, h6⟩)
        exact vcOp_sound (by rw [hop]; exact hs) (by rw [hop]; simp only [vcOp, vCall, hcal]; exact ⟨h1, h2, h3, callK_id h4 (h5 B hB)⟩)
      · exact h.elim
    | builtin b =>
      refine gen (by rw [hop] at h ⊢; exact h) ?_
      rw [hop]
      cases b <;> first | exact .inl rfl | exact .inr rfl
    | invoke r m =>
      refine gen (by rw [hop] at h ⊢; exact h) ?_
      rw [hop]; exact .inr rfl
  | _ => refine gen (by rw [hop] at h ⊢; exact h) ?_; rw [hop]; first | exact .inl rfl | exact .inr rfl
theorem vcLX_sound {K : List DV → St → Prop} : ∀ (l : List Oper) {fr : List DV} {S : St}, l.all (fun o => okSl o.op) = true → vcLX P w0 ops K l fr S → LX P w0 ops K l fr S
  | [], fr, S, _, h => h
  | o :: rest, fr, S, hs, h => by
    simp only [List.all_cons, Bool.and_eq_true] at hs
    rcases guardK_want h with ⟨hw, ha⟩ | ⟨hw, hb⟩
    · exact .inl ⟨hw, bodyX_mono (fun fr S h => vcLX_sound rest hs.2 h) (opX_sound hs.1 ha)⟩
    · exact .inr ⟨hw, vcLX_sound rest hs.2 hb⟩
/-- What such a region asks. -/
def okL (l : List Oper) : Bool := l.all (fun o => okSl o.op) && lexX .any l.toArray l.length 0 (Array.replicate l.length false)
theorem lexK {id : Nat} {l : List Oper} {fr : List DV} {S : St} {Q : Exit → List DV → St → Prop} (hm : P.follows .mixedOrders = true) (hB : okL l = true) (h : vcLX P w0 l.toArray (fun fr S => normF fr fun fr => Q .normal fr S) l fr S) : AWp P w0 (.region id l.toArray true) fr S Q := by
  simp only [okL, Bool.and_eq_true] at hB
  exact awp_drawL hm hB.2 (vcLX_sound l hB.1 h)
theorem useX {f : FuncId} {args args' : List DV} {S : St} {K : DV → Prop} {r : DV} (h : ∀ B, Fr S B → ACall P w0 f args' ⟨B ++ S.box, S.acc⟩ (fun d S' => d = r ∧ S' = ⟨B ++ S.box, S.acc⟩)) (hk : K r) (ha : WkL args args' := by exact WkL.refl _) : @QX P w0 f args S ⟨K⟩ :=
  ⟨r, fun B hB => acall_one (h B hB) ha ⟨rfl, rfl⟩, hk⟩
end
end Aml.Z

namespace Aml.Z
open Go Go.RowKit
set_option linter.unusedVariables false
set_option linter.unusedSimpArgs false
section
variable {P : Program} {w0 : W0} {ops : Array Oper} {fr : List DV} {S : St} {rest : List Oper} {dst : Option Tmp} {op : Op} {ty : TypeId} {pos : String} {aft : Array Edge}
section
variable {K : List DV → St → Prop}
theorem x_nil : vcLX P w0 ops K [] fr S = K fr S := rfl
theorem x_none : vcLX P w0 ops K (⟨dst, op, ty, pos, aft, none⟩ :: rest) fr S = opX P w0 op fr S fun d S' => vcLX P w0 ops K rest (pt fr dst d) S' := rfl
theorem x_some (j : Nat) (want : Bool) : vcLX P w0 ops K (⟨dst, op, ty, pos, aft, some (j, want)⟩ :: rest) fr S = gK ((ops[j]?).bind (·.dst)) fr want (fun fr => opX P w0 op fr S fun d S' => vcLX P w0 ops K rest (pt fr dst d) S') (fun fr => vcLX P w0 ops K rest (pt fr dst ud) S) := q_guard _ _ _ _ _ _
end
variable {K : DV → St → Prop}
theorem x_load (t : TypeId) (x : Operand) : opX P w0 (.load t x) fr S K = vLoad (tk P t) S (ev fr x) (K · S) := rfl
theorem x_alloc (t : TypeId) : opX P w0 (.alloc t) fr S K = (okE (zD P t) = true ∧ bxK S (zD P t) K) := rfl
theorem x_call (cal : Operand) (a : List Operand) (ts : Array TypeId) : opX P w0 (.call ⟨.value cal, a.toArray, ts⟩) fr S K = vCallX P w0 (ev fr cal) (a.map (ev fr)) S (K · S) := rfl
theorem x_callF (f : FuncId) (a cap : Array Value) (ds : List DV) (K : DV → Prop) : vCallX P w0 (.v (.func (.func f) a cap)) ds S K = (a.size = 0 ∧ okF P f = true ∧ cap.toList.all (fun u => u.oneCell') = true ∧ ds.all naccA = true ∧ @QX P w0 f (ds ++ cap.toList.map .v) S ⟨K⟩) := rfl
@[congr] theorem c_vCallX {cal cal' : DV} {ds ds' : List DV} {S' : St} {K : DV → Prop} (h1 : cal = cal') (h2 : ds = ds') (h3 : S = S') : vCallX P w0 cal ds S K = vCallX P w0 cal' ds' S' K := by cases h1; cases h2; cases h3; rfl
theorem x_move (x : Operand) : opX P w0 (.move x) fr S K = vcOpQ P w0 (.move x) fr S (K · S) := rfl
theorem x_assign (x : Operand) : opX P w0 (.assign x) fr S K = vcOpQ P w0 (.assign x) fr S (K · S) := rfl
theorem x_pick (c a b : Operand) : opX P w0 (.pick c a b) fr S K = vcOpQ P w0 (.pick c a b) fr S (K · S) := rfl
theorem x_fieldAddr (t : TypeId) (x : Operand) (f : Nat) : opX P w0 (.fieldAddr t x f) fr S K = vcOpQ P w0 (.fieldAddr t x f) fr S (K · S) := rfl
theorem x_indexAddr (t : TypeId) (x i : Operand) : opX P w0 (.indexAddr t x i) fr S K = vcOpQ P w0 (.indexAddr t x i) fr S (K · S) := rfl
theorem x_index (t : TypeId) (x i : Operand) : opX P w0 (.index t x i) fr S K = vcOpQ P w0 (.index t x i) fr S (K · S) := rfl
theorem x_field (t : TypeId) (x : Operand) (f : Nat) : opX P w0 (.field t x f) fr S K = vcOpQ P w0 (.field t x f) fr S (K · S) := rfl
theorem x_extract (x : Operand) (i : Nat) : opX P w0 (.extract x i) fr S K = vcOpQ P w0 (.extract x i) fr S (K · S) := rfl
theorem x_nilCheck (x : Operand) : opX P w0 (.nilCheck x) fr S K = vcOpQ P w0 (.nilCheck x) fr S (K · S) := rfl
theorem x_binOp (b : BinOp) (t : TypeId) (x y : Operand) (t' : TypeId) : opX P w0 (.binOp b t x y t') fr S K = vcOpQ P w0 (.binOp b t x y t') fr S (K · S) := rfl
theorem x_unOp (b : UnOp) (t : TypeId) (x : Operand) : opX P w0 (.unOp b t x) fr S K = vcOpQ P w0 (.unOp b t x) fr S (K · S) := rfl
theorem x_convert (s d : TypeId) (x : Operand) : opX P w0 (.convert s d x) fr S K = opZ P w0 (.convert s d x) fr S (K · S) := rfl
theorem x_makeInterface (t : TypeId) (x : Operand) : opX P w0 (.makeInterface t x) fr S K = vcOpQ P w0 (.makeInterface t x) fr S (K · S) := rfl
theorem x_makeFunc (fn : Fn) (a b : Array Operand) : opX P w0 (.makeFunc fn a b) fr S K = vcOpQ P w0 (.makeFunc fn a b) fr S (K · S) := rfl
theorem x_slice (t : TypeId) (x : Operand) (lo hi mx : Option Operand) : opX P w0 (.slice t x lo hi mx) fr S K = vcOpQ P w0 (.slice t x lo hi mx) fr S (K · S) := rfl
theorem x_build (t : TypeId) (parts : Array (Nat × Operand)) : opX P w0 (.build t parts) fr S K = vcOpQ P w0 (.build t parts) fr S (K · S) := rfl
theorem x_buildSlice (t : TypeId) (len : Nat) (parts : Array (Nat × Operand)) : opX P w0 (.buildSlice t len parts) fr S K = vcOpQ P w0 (.buildSlice t len parts) fr S (K · S) := rfl
theorem x_typeAssert (x : Operand) (xt t : TypeId) (ok : Bool) : opX P w0 (.typeAssert x xt t ok) fr S K = vcOp P w0 (.typeAssert x xt t ok) fr S K := rfl
theorem x_box (t : TypeId) (x : Operand) : opX P w0 (.box t x) fr S K = vcOp P w0 (.box t x) fr S K := rfl
theorem x_store (t : TypeId) (x y : Operand) : opX P w0 (.store t x y) fr S K = vcOp P w0 (.store t x y) fr S K := rfl
theorem x_makeSlice (t : TypeId) (x y : Operand) : opX P w0 (.makeSlice t x y) fr S K = opZ P w0 (.makeSlice t x y) fr S (K · S) := rfl
theorem x_b_len (a : Array Operand) (ts : Array TypeId) : opX P w0 (.call ⟨.builtin .len, a, ts⟩) fr S K = vcOpQ P w0 (.call ⟨.builtin .len, a, ts⟩) fr S (K · S) := rfl
theorem x_b_cap (a : Array Operand) (ts : Array TypeId) : opX P w0 (.call ⟨.builtin .cap, a, ts⟩) fr S K = vcOpQ P w0 (.call ⟨.builtin .cap, a, ts⟩) fr S (K · S) := rfl
theorem x_b_min (a : Array Operand) (ts : Array TypeId) : opX P w0 (.call ⟨.builtin .min, a, ts⟩) fr S K = vcOpQ P w0 (.call ⟨.builtin .min, a, ts⟩) fr S (K · S) := rfl
theorem x_b_max (a : Array Operand) (ts : Array TypeId) : opX P w0 (.call ⟨.builtin .max, a, ts⟩) fr S K = vcOpQ P w0 (.call ⟨.builtin .max, a, ts⟩) fr S (K · S) := rfl
theorem x_b_append (a : Array Operand) (ts : Array TypeId) : opX P w0 (.call ⟨.builtin .append, a, ts⟩) fr S K = vcOp P w0 (.call ⟨.builtin .append, a, ts⟩) fr S K := rfl
end
attribute [go_sem ↓] x_nil x_none x_some x_load x_alloc x_call x_callF x_move x_assign x_pick x_fieldAddr x_indexAddr x_index x_field x_extract x_nilCheck x_binOp x_unOp x_convert x_makeInterface x_makeFunc x_slice x_build x_buildSlice x_typeAssert x_box x_store x_makeSlice x_b_len x_b_cap x_b_min x_b_max x_b_append
theorem n_beq_t (b : Bool) : (true == b) = b := by cases b <;> rfl
theorem n_beq_f (b : Bool) : (false == b) = !b := by cases b <;> rfl
theorem n_t_beq (b : Bool) : (b == true) = b := by cases b <;> rfl
theorem n_f_beq (b : Bool) : (b == false) = !b := by cases b <;> rfl
attribute [go_sem] n_beq_t n_beq_f n_t_beq n_f_beq
end Aml.Z

namespace Aml
open Go Go.RowKit
set_option linter.unusedVariables false
set_option linter.unusedSimpArgs false
section
variable {P : Program} {w0 : W0}
theorem mapOkK {l : Nat} {kk : KK} {es : List (Value × DV × Nat)} {clk : Nat} {c : Code} {fr : List DV} {S : St} {Q : Exit → List DV → St → Prop} (hl : lk S.acc l = some (.xo (.mp kk es clk))) (h : MapOk kk es clk → AWp P w0 c fr S Q) : AWp P w0 c fr S Q := by
  intro g a w h1 h2 h3
  obtain ⟨b, o, q1, q2, es', q3, q4, q5⟩ := h1.getX hl
  exact h q5 g a w h1 h2 h3
theorem acall_mapOk {f : FuncId} {args : List DV} {S : St} {K : DV → St → Prop} {l : Nat} {kk : KK} {es : List (Value × DV × Nat)} {clk : Nat} (hl : lk S.acc l = some (.xo (.mp kk es clk))) (h : MapOk kk es clk → ACall P w0 f args S K) : ACall P w0 f args S K := by
  intro g vs w h1 h2
  obtain ⟨b, o, q1, q2, es', q3, q4, q5⟩ := h1.getX hl
  exact h q5 g vs w h1 h2
end
theorem find_rep (k k' : Value) (d : DV) : ∀ es : List (Value × DV × Nat), ((es.map (mRep k d)).find? fun e => @decide (e.1 = k') (Classical.propDecidable _)) = (es.find? fun e => @decide (e.1 = k') (Classical.propDecidable _)).map (mRep k d) := by
  intro es
  rw [List.find?_map]
  congr 2
  funext e
  simp only [Function.comp]
  rcases Classical.em (e.1 = k) with h | h
  · rw [mRep_eq h]
  · rw [mRep_ne h]
/-- What a map has, when something was put. -/
theorem mGet_set_same (es : List (Value × DV × Nat)) (clk : Nat) (k : Value) (d : DV) : mGet (mSet es clk k d) k = some d := by
  unfold mSet
  cases hg : mGet es k with
  | none =>
    simp only [Option.isSome_none, Bool.false_eq_true, if_false]
    unfold mGet at hg ⊢
    rw [List.find?_append]
    rw [Option.map_eq_none_iff] at hg
    rw [hg]
    simp
  | some x =>
    simp only [Option.isSome_some, if_true]
    unfold mGet at hg ⊢
    rw [find_rep]
    obtain ⟨y, hy, _⟩ := Option.map_eq_some_iff.1 hg
    rw [hy]
    have := List.find?_some hy
    simp only [decide_eq_true_eq] at this
    simp [mRep_eq this]
theorem mGet_set_ne (es : List (Value × DV × Nat)) (clk : Nat) {k k' : Value} (e : k' ≠ k) (d : DV) : mGet (mSet es clk k d) k' = mGet es k' := by
  unfold mSet
  cases hg : mGet es k with
  | none =>
    simp only [Option.isSome_none, Bool.false_eq_true, if_false]
    unfold mGet
    rw [List.find?_append]
    have : List.find? (fun e => @decide (e.1 = k') (Classical.propDecidable _)) [(k, d, clk)] = none := by
      rw [List.find?_eq_none]
      intro x hx
      rw [List.mem_singleton] at hx; subst hx
      simp; exact fun h => e h.symm
    rw [this, Option.or_none]
  | some x =>
    simp only [Option.isSome_some, if_true]
    unfold mGet
    rw [find_rep]
    cases hf : es.find? fun e => @decide (e.1 = k') (Classical.propDecidable _) with
    | none => rfl
    | some y =>
      have := List.find?_some hf
      simp only [decide_eq_true_eq] at this
      simp only [Option.map_some]
      rw [mRep_ne (by rw [this]; exact e)]
theorem mGet_del_same (es : List (Value × DV × Nat)) (k : Value) : mGet (mDel es k) k = none := by
  rw [mGet_none]
  intro e he
  have := (List.mem_filter.1 he).2
  simpa using this
theorem mGet_del_ne (es : List (Value × DV × Nat)) {k k' : Value} (e : k' ≠ k) : mGet (mDel es k) k' = mGet es k' := by
  unfold mGet mDel
  rw [List.find?_filter]
  congr 2
  funext x
  rcases Classical.em (x.1 = k') with h | h
  · simp [h, e]
  · simp [h]
end Aml
