/-
  Calls, functions, and the walk over code by reckoning. By an AI agent.
-/
import Derived.Test.YtkibkahknibgfaaA12
namespace Aml
open Go Go.RowKit
set_option linter.unusedVariables false
set_option linter.unusedSimpArgs false

/-- An argument as it is handed over: a growing slice is frozen first. -/
def shr1 (S : St) (d : DV) (K : DV → St → Prop) : Prop := match d with
  | .acc l n => match lk S.acc l with
    | some (.arr s xs) => xs.length = n ∧ K (.sl s false xs) ⟨S.box, up S.acc l (.tl s xs)⟩
    | some (.tl s xs) => xs.length = n ∧ K (.sl s false xs) S
    | none => False
  | d => K d S
def shr1s (S : St) : List DV → (List DV → St → Prop) → Prop
  | [], K => K [] S
  | d :: ds, K => shr1 S d fun e S => shr1s S ds fun es S => K (e :: es) S
def shr (S : St) (d : DV) (K : DV → St → Prop) : Prop := match d with
  | .agg ds => shr1s S ds fun ds S => K (.agg ds) S
  | d => shr1 S d K
def shrs (S : St) : List DV → (List DV → St → Prop) → Prop
  | [], K => K [] S
  | d :: ds, K => shr S d fun e S => shrs S ds fun es S => K (e :: es) S
def shrT (S : St) (d : DV) (K : DV → St → Prop) : Prop := match d with
  | .tup ds => shrs S ds fun ds S => K (.tup ds) S
  | d => shr S d K

section
variable {P : Program} {w0 : World}

/-- What a growing slice holds is known for good from now on. -/
theorem Rel.freeze {g : Gh} {S : St} {w : World} (h : Rel w0 g S w) {l s : Nat} {xs : List DV} (hl : lk S.acc l = some (.arr s xs)) {u : Value} (hu : g.acc l xs.length = some u) :
    ∃ g', g.le g' ∧ Rel w0 g' ⟨S.box, up S.acc l (.tl s xs)⟩ w ∧ Rep g' (.sl s false xs) u := by
  obtain ⟨ow, ho⟩ := h.open_
  have hmem := lk_mem hl
  obtain ⟨hs, ⟨he, o, ha⟩ | ⟨b, c, cs, e, h1, h2, h3, h4, h5, h6, h7, h8, us, h9, h10, h11, h12⟩⟩ := ho.acc l _ hmem
  · subst he
    rw [show ([] : List DV).length = 0 from rfl, ha] at hu
    cases hu
    refine ⟨g, .refl g, RelO.close (ow := ow) ⟨ho.below, ho.imm, ho.nb, by rw [map_up]; exact ho.na, ho.accw, ho.fresh, ?_, ho.box, ?_, ho.owb⟩, .nil _ _ _ _ fun x => by cases x⟩
    · intro l' o' hl' k hk
      rcases mem_up ho.na hl' with e | ⟨hm, hne⟩
      · simp only [Prod.mk.injEq] at e; obtain ⟨rfl, rfl⟩ := e; exact ho.top _ _ hmem k hk
      · exact ho.top _ _ hm k hk
    · intro l' o' hl'
      rcases mem_up ho.na hl' with e | ⟨hm, hne⟩
      · simp only [Prod.mk.injEq] at e; obtain ⟨rfl, rfl⟩ := e
        exact ⟨hs, .inl ⟨_, ha, .nil _ _ _ _ fun _ => rfl⟩⟩
      · exact ho.acc _ _ hm
  · rw [h1] at hu
    cases hu
    let f : Nat → Option Value := fun i => if i < xs.length * s then cs[i]? else none
    have hle : g.le (g.setImm b f) := Gh.le_setImm fun i u hu => by rw [h4] at hu; cases hu
    have hlen : us.length = xs.length := h9.len.symm
    have hrep : Rep (g.setImm b f) (.sl s false xs) (.slice (some ⟨b, 0, none⟩) xs.length c) := by
      have := Rep.sl (g := g.setImm b f) s false xs b 0 c us hlen.symm (by simp) (by omega) h8 (h9.mono hle).at_ h10 h11 (fun i u j x a1 a2 => by
        simp only [Gh.setImm, if_true, Nat.zero_add, f]
        have hj : j < s := by rw [← h10 i u a1]; exact (Array.getElem?_eq_some_iff.1 a2).1
        have hi : i < us.length := (List.getElem?_eq_some_iff.1 a1).1
        rw [if_pos (lt_mul (by omega) hj)]
        exact h12 i u j x a1 a2)
      rwa [hlen] at this
    refine ⟨g.setImm b f, hle, RelO.close (ow := ow) ⟨ho.below, ?_, ho.nb, by rw [map_up]; exact ho.na, ho.accw, ho.fresh, ?_, ?_, ?_, ho.owb⟩, hrep⟩
    · intro b' i u hu
      simp only [Gh.setImm] at hu
      split at hu
      · rename_i e'; subst e'
        simp only [f] at hu
        split at hu
        · rw [cells_at h5]; exact hu
        · cases hu
      · exact ho.imm _ _ _ hu
    · intro l' o' hl' k hk
      rcases mem_up ho.na hl' with e | ⟨hm, hne⟩
      · simp only [Prod.mk.injEq] at e; obtain ⟨rfl, rfl⟩ := e; exact ho.top _ _ hmem k hk
      · exact ho.top _ _ hm k hk
    · intro b' ds hb'
      refine (ho.box b' ds hb').step hle fun x => ⟨x, rfl, fun i hi => ?_⟩
      have : b' ≠ b := by rintro rfl; rw [h2] at x; cases x
      simp only [Gh.setImm, if_neg this]; exact hi
    · intro l' o' hl'
      rcases mem_up ho.na hl' with e' | ⟨hm, hne⟩
      · simp only [Prod.mk.injEq] at e'; obtain ⟨rfl, rfl⟩ := e'
        refine ⟨hs, .inr ⟨b, c, cs, e, h1, h2, h3, fun i hi => ?_, h5, h6, h7, h8, hrep⟩⟩
        simp only [Gh.setImm, if_true, f]
        rw [if_neg (by omega)]
      · refine (ho.acc _ _ hm).step hle fun b' x => ⟨x, rfl, fun i hi => ?_⟩
        have : b' ≠ b := by rintro rfl; rw [h2] at x; simp at x; exact hne x.symm
        simp only [Gh.setImm, if_neg this]; exact hi

theorem shr1_ok {g : Gh} {S : St} {w : World} (h : Rel w0 g S w) {d : DV} {u : Value} (r : Rep g d u) {K : DV → St → Prop} (hk : shr1 S d K) : ∃ g' d' S', g.le g' ∧ Rel w0 g' S' w ∧ Rep g' d' u ∧ K d' S' := by
  unfold shr1 at hk
  split at hk
  · rename_i l n
    obtain ⟨o, c, hv, ha⟩ := rep_acc r
    split at hk
    · rename_i s xs hl
      obtain ⟨rfl, hk⟩ := hk
      obtain ⟨g', hle, hR, hr⟩ := h.freeze hl (hv ▸ ha)
      exact ⟨g', _, _, hle, hR, hr, hk⟩
    · rename_i s xs hl
      obtain ⟨rfl, hk⟩ := hk
      obtain ⟨ow, ho⟩ := h.open_
      obtain ⟨hs, ⟨u', ha', r'⟩ | ⟨b, c', cs, e, h1, h2, h3, h4, h5, h6, h7, h8, r'⟩⟩ := ho.acc l _ (lk_mem hl)
      · rw [ha] at ha'; cases ha'
        refine ⟨g, .sl s false xs, S, .refl g, h, ?_, hk⟩
        rw [hv]
        rcases rep_sl r' with ⟨he, o', c', hv', _⟩ | ⟨b, o', c', us, hv', hr, hfl, hlc, hcm, hzz, hone, hc⟩
        · rw [hv', he]; exact .nil _ _ _ _ fun x => by cases x
        · rw [hv']
          have hlen : us.length = xs.length := hr.len.symm
          have := Rep.sl (g := g) s false xs b o' c' us hlen.symm (by simp) (by omega) hcm hr.at_ hzz hone hc
          rwa [hlen] at this
      · rw [ha] at h1; cases h1
        exact ⟨g, .sl s false xs, S, .refl g, h, by rw [hv]; exact r', hk⟩
    · exact hk.elim
  · exact ⟨g, d, S, .refl g, h, r, hk⟩

theorem shr1s_ok : ∀ (ds : List DV) {g : Gh} {S : St} {w : World} (h : Rel w0 g S w) {us : List Value} (r : RepL g ds us) {K : List DV → St → Prop} (hk : shr1s S ds K), ∃ g' ds' S', g.le g' ∧ Rel w0 g' S' w ∧ RepL g' ds' us ∧ K ds' S'
  | [], g, S, w, h, us, r, K, hk => by
    have : us = [] := List.eq_nil_of_length_eq_zero r.len.symm
    subst this
    exact ⟨g, [], S, .refl g, h, RepL.nil g, hk⟩
  | d :: ds, g, S, w, h, us, r, K, hk => by
    obtain ⟨u, us', rfl, hu, hr⟩ := r.uncons
    obtain ⟨g1, d', S1, l1, R1, r1, k1⟩ := shr1_ok h hu hk
    obtain ⟨g2, ds', S2, l2, R2, r2, k2⟩ := shr1s_ok ds R1 (hr.mono l1) k1
    exact ⟨g2, d' :: ds', S2, l1.trans l2, R2, RepL.cons (r1.mono l2) r2, k2⟩

theorem shr_ok {g : Gh} {S : St} {w : World} (h : Rel w0 g S w) {d : DV} {u : Value} (r : Rep g d u) {K : DV → St → Prop} (hk : shr S d K) : ∃ g' d' S', g.le g' ∧ Rel w0 g' S' w ∧ Rep g' d' u ∧ K d' S' := by
  unfold shr at hk
  split at hk
  · obtain ⟨us, rfl, hr, h1⟩ := rep_agg r
    obtain ⟨g', ds', S', l1, R1, r1, k1⟩ := shr1s_ok _ h hr hk
    exact ⟨g', _, S', l1, R1, .agg _ _ r1.len r1.at_ h1, k1⟩
  · exact shr1_ok h r hk

theorem shrs_ok : ∀ (ds : List DV) {g : Gh} {S : St} {w : World} (h : Rel w0 g S w) {us : List Value} (r : RepL g ds us) {K : List DV → St → Prop} (hk : shrs S ds K), ∃ g' ds' S', g.le g' ∧ Rel w0 g' S' w ∧ RepL g' ds' us ∧ K ds' S'
  | [], g, S, w, h, us, r, K, hk => by
    have : us = [] := List.eq_nil_of_length_eq_zero r.len.symm
    subst this
    exact ⟨g, [], S, .refl g, h, RepL.nil g, hk⟩
  | d :: ds, g, S, w, h, us, r, K, hk => by
    obtain ⟨u, us', rfl, hu, hr⟩ := r.uncons
    obtain ⟨g1, d', S1, l1, R1, r1, k1⟩ := shr_ok h hu hk
    obtain ⟨g2, ds', S2, l2, R2, r2, k2⟩ := shrs_ok ds R1 (hr.mono l1) k1
    exact ⟨g2, d' :: ds', S2, l1.trans l2, R2, RepL.cons (r1.mono l2) r2, k2⟩

theorem shrT_ok {g : Gh} {S : St} {w : World} (h : Rel w0 g S w) {d : DV} {u : Value} (r : Rep g d u) {K : DV → St → Prop} (hk : shrT S d K) : ∃ g' d' S', g.le g' ∧ Rel w0 g' S' w ∧ Rep g' d' u ∧ K d' S' := by
  unfold shrT at hk
  split at hk
  · obtain ⟨us, rfl, hr⟩ := rep_tup r
    obtain ⟨g', ds', S', l1, R1, r1, k1⟩ := shrs_ok _ h hr hk
    exact ⟨g', _, S', l1, R1, .tup _ _ r1.len r1.at_, k1⟩
  · exact shr_ok h r hk

/-- Is it a function of the program's own, with a body? -/
def okF (P : Program) (f : FuncId) : Bool := match P.funcs[f]? with
  | some fn => fn.body.isSome && !(fn.name == "runtime.NumGoroutine")
  | none => false
theorem y_callF {o : Oper} {f : FuncId} {args : List Operand} {ts : Array TypeId} {cal : Operand} (ho : o.op = .call { callee := .value cal, args := args.toArray, argTypes := ts }) {ρD : Operand → DV} {S : St} {K : DV → St → Prop}
    {cap : List Value} (hcal : ρD cal = .v (.func (.func f) #[] cap.toArray)) (hf : okF P f = true) (h : (ACall P w0 f (args.map ρD ++ cap.map .v) S K) ∨ shrs S (args.map ρD) fun ds S => ACall P w0 f (ds ++ cap.map .v) S K) (hcap : ∀ u, u ∈ cap → u.oneCell' = true) : YieldsE P w0 o ρD S K := by
  intro g w ρ h1 h2 hcst
  have hc := h2 cal (by simp [ho, Op.operands, Call.operands])
  rw [hcal] at hc
  have hv := rep_v hc
  have hargs := repL_of_opsA (g := g) (ρD := ρD) (ρ := ρ) args (fun p hp => h2 p (by simp [ho, Op.operands, Call.operands, hp]))
  unfold okF at hf
  split at hf
  · rename_i fn hfn
    simp only [Bool.and_eq_true, Bool.not_eq_true'] at hf
    obtain ⟨hb, hname⟩ := hf
    have hrun : (execOp ρ o).run P w = .ok (.enter f ((args.map ρ) ++ cap).toArray) w := by
      have hbn : ¬ fn.body = none := by intro e; simp [e] at hb
      have hname' : ¬ fn.name = "runtime.NumGoroutine" := by simpa using hname
      simp [execOp, ho, resolve, hv, Deferred.ofValue, invoke, callFunc, hfn, hname', hbn]
    rw [hrun]
    obtain ⟨g1, ds, S1, l1, R1, r1, k1⟩ : ∃ g1 ds S1, g.le g1 ∧ Rel w0 g1 S1 w ∧ RepL g1 ds (args.map ρ) ∧ ACall P w0 f (ds ++ cap.map .v) S1 K := by
      rcases h with h | h
      · exact ⟨g, _, S, .refl g, h1, hargs, h⟩
      · exact shrs_ok _ h1 hargs h
    have hcapR : RepL g1 (cap.map .v) cap := ⟨by simp, fun i d u a1 a2 => by
      simp only [List.getElem?_map, Option.map_eq_some_iff] at a1
      obtain ⟨u', a1, rfl⟩ := a1
      rw [a2] at a1; cases a1
      exact .v _ (hcap _ (List.mem_of_getElem? a2))⟩
    refine (k1 g1 _ w R1 (by simpa using r1.append hcapR)).mono ?_
    rintro e w' ⟨r, g', d, S', rfl, a, b, c, x⟩
    exact ⟨r, g', d, S', rfl, l1.trans a, b, c, x⟩
  · cases hf

/-- The results of a function, as a walk leaves them. -/
def resK1 (P : Program) (fr : List DV) (S : St) (K : DV → Prop) : ResultVar → Prop
  | .tmp t => K (fr.getD t ud)
  | .cell a t => vLoad (tk P t) S (fr.getD a ud) K
def resKs (P : Program) (fr : List DV) (S : St) : List ResultVar → (List DV → Prop) → Prop
  | [], K => K []
  | r :: rs, K => resK1 P fr S (fun d => resKs P fr S rs fun ds => K (d :: ds)) r
def resK (P : Program) (fr : List DV) (S : St) (rs : List ResultVar) (K : DV → Prop) : Prop := match rs with
  | [r] => resK1 P fr S K r
  | rs => resKs P fr S rs fun ds => K (.tup ds)

theorem vLoad_ok {g : Gh} {S : St} {w : World} (h1 : Rel w0 g S w) {t : TypeId} {d : DV} {u : Value} (hx : Rep g d u) {K : DV → Prop} (h : vLoad (tk P t) S d K) : ∃ a v d', u = .pointer (some a) ∧ (loadVar t a).run P w = .ok v w ∧ Rep g d' v ∧ K d' := by
  have fin : ∀ {b o' : Nat} {ds : List DV} {us : List Value}, u = .pointer (some ⟨b, o', none⟩) → RepL g ds us → (∀ u, u ∈ us → u.oneCell' = true) → (∀ (j : Nat) (x : Value), us[j]? = some x → w.cell? ⟨b, o' + j, none⟩ = some x) →
      ldK (tk P t) ds K → ∃ a v d', u = .pointer (some a) ∧ (loadVar t a).run P w = .ok v w ∧ Rep g d' v ∧ K d' := by
    intro b o' ds us hv hr hone hc hk
    obtain ⟨d, u', hrun, hd, hk⟩ := load_ok (P := P) hr hone hc hk
    exact ⟨_, u', d, hv, by simpa [Instr.loadAt, Instr.sureAddr] using hrun, hd, hk⟩
  unfold vLoad at h
  split at h
  · split at h
    · rename_i ds hb
      obtain ⟨_, _, us, e, hh, hr, hone⟩ := h1.box_at hb
      refine fin (rep_v hx) (hr.drop _) (fun u hu => hone u (List.mem_of_mem_drop hu)) (fun j x hj => ?_) h
      rw [cells_at hh]
      simpa using hj
    · exact h.elim
  · obtain ⟨b, o', us, hv, hr, hone, hi⟩ := rep_ip hx
    exact fin hv hr hone (fun j x hj => h1.imm _ _ _ (hi j x hj)) h
  · rename_i l n s i o'
    obtain ⟨b, q, c, hv, ha⟩ := rep_ap hx
    have go : ∀ (ob : Ob) (xs : List DV), lk S.acc l = some ob → (ob = .arr s xs ∨ ob = .tl s xs) → xs.length = n → (∃ d, xs[i]? = some d ∧ okE d = true ∧ ldK (tk P t) ((cd d).drop o') K) →
        ∃ a v d', u = .pointer (some a) ∧ (loadVar t a).run P w = .ok v w ∧ Rep g d' v ∧ K d' := by
      intro ob xs hob he hn ⟨d, hd1, hd2, hk⟩
      subst hn
      obtain ⟨us, hr, hone, hc⟩ := h1.acc_cells hob he ha hd1 hd2
      refine fin hv (hr.drop o') (fun u hu => hone u (List.mem_of_mem_drop hu)) (fun j x hj => ?_) hk
      rw [Nat.add_assoc]
      exact hc _ _ (by simpa using hj)
    split at h
    · rename_i s' xs hob
      obtain ⟨hn, rfl, hk⟩ := h
      exact go _ xs hob (.inl rfl) hn hk
    · rename_i s' xs hob
      obtain ⟨hn, rfl, hk⟩ := h
      exact go _ xs hob (.inr rfl) hn hk
    · exact h.elim
  · exact h.elim

def rsem (tmps : Array Value) : ResultVar → Sem Value
  | .tmp t => pure (tmps.getD t undef)
  | .cell p t => do loadVar t (← asAddr (tmps.getD p undef))
theorem results_eq (fn : Func) (tmps : Array Value) : results fn tmps = (do
    let vs ← fn.results.mapM (rsem tmps)
    pure (if h : vs.size = 1 then vs[0] else .tuple vs)) := by
  unfold results
  congr 1
theorem resK1_ok {g : Gh} {S : St} {w : World} (h1 : Rel w0 g S w) {fr : List DV} {a : Act} (hr : RepL g fr a.tmps.toList) {K : DV → Prop} {r : ResultVar} (h : resK1 P fr S K r) :
    ∃ v d, (rsem a.tmps r).run P w = .ok v w ∧ Rep g d v ∧ K d := by
  cases r with
  | tmp t =>
    have := hr.getD t
    exact ⟨_, _, rfl, by simpa using this, h⟩
  | cell p t =>
    have hx := hr.getD p
    obtain ⟨ad, v, d, e1, e2, e3, e4⟩ := vLoad_ok (P := P) h1 hx h
    refine ⟨v, d, ?_, e3, e4⟩
    have e1' : a.tmps.getD p undef = .pointer (some ad) := by simpa using e1
    simp only [rsem, e1', asAddr]
    simpa using e2
theorem resKs_ok {g : Gh} {S : St} {w : World} (h1 : Rel w0 g S w) {fr : List DV} {a : Act} (hr : RepL g fr a.tmps.toList) : ∀ (rs : List ResultVar) {K : List DV → Prop} (h : resKs P fr S rs K),
    ∃ vs ds, (rs.mapM (rsem a.tmps)).run P w = .ok vs w ∧ RepL g ds vs ∧ K ds ∧ vs.length = rs.length
  | [], K, h => ⟨[], [], by simp, RepL.nil g, h, rfl⟩
  | r :: rs, K, h => by
    obtain ⟨v, d, e1, e2, e3⟩ := resK1_ok (P := P) h1 hr h
    obtain ⟨vs, ds, q1, q2, q3, q4⟩ := resKs_ok h1 hr rs e3
    refine ⟨v :: vs, d :: ds, ?_, RepL.cons e2 q2, q3, by simp [q4]⟩
    rw [List.mapM_cons]
    simp only [Sem.run_bind, e1, q1, Result.andThen_ok, Sem.run_pure]
theorem resK_ok {g : Gh} {S : St} {w : World} (h1 : Rel w0 g S w) {fr : List DV} {a : Act} (hr : RepL g fr a.tmps.toList) {fn : Func} {rs : List ResultVar} (hrs : fn.results = rs.toArray) {K : DV → Prop} (h : resK P fr S rs K) :
    ∃ v d, (results fn a.tmps).run P w = .ok v w ∧ Rep g d v ∧ K d := by
  unfold resK at h
  split at h
  · rename_i r
    obtain ⟨v, d, e1, e2, e3⟩ := resK1_ok (P := P) h1 hr h
    refine ⟨v, d, ?_, e2, e3⟩
    rw [results_eq, hrs]
    simp only [List.mapM_toArray, List.mapM_cons, List.mapM_nil, Sem.run_bind, Sem.run_map, e1]
    simp
  · rename_i hne
    obtain ⟨vs, ds, q1, q2, q3, q4⟩ := resKs_ok (P := P) h1 hr rs h
    refine ⟨.tuple vs.toArray, .tup ds, ?_, .tup ds vs q2.len q2.at_, q3⟩
    have hlen : vs.length ≠ 1 := by
      rw [q4]
      intro e
      match rs, e with
      | [r], _ => exact hne r rfl
    rw [results_eq, hrs]
    simp only [List.mapM_toArray, Sem.run_bind, Sem.run_map, q1]
    simp [hlen]

/-- A function by its body. -/
theorem acall_of {f : FuncId} {fn : Func} {c : Code} {rs : List ResultVar} {args : List DV} {S : St} {K : DV → St → Prop} (hf : P.funcs[f]? = some fn) (hb : fn.body = some c) (hrs : fn.results = rs.toArray)
    (h : AWp P w0 c (args ++ List.replicate (fn.ntmps - args.length) ud) S fun e fr S' => (e = .normal ∨ e = .ret) ∧ resK P fr S' rs fun d => K d S') : ACall P w0 f args S K := by
  intro g vs w h1 h2
  refine calls_of_wp hf hb ?_
  have hlen : args.length = vs.size := by simpa using h2.len
  refine wp_mono (h g _ w h1 (by rw [hlen]; simpa using h2.append (RepL.replicate g (fn.ntmps - vs.size))) rfl) ?_
  rintro e a w' ⟨hd, g', fr, S', k1, k2, k3, hq, k4⟩
  obtain ⟨v, d, e1, e2, e3⟩ := resK_ok (P := P) k2 k3 hrs k4
  rcases hq with rfl | rfl
  · exact ⟨hd, v, e1, v, g', d, S', rfl, k1, k2, e2, e3⟩
  · exact ⟨hd, v, e1, v, g', d, S', rfl, k1, k2, e2, e3⟩

/-- .. its results frozen, its own objects forgotten. -/
theorem acall_fin (n m : Nat) {f : FuncId} {fn : Func} {c : Code} {rs : List ResultVar} {args : List DV} {S : St} {K : DV → St → Prop} (hf : P.funcs[f]? = some fn) (hb : fn.body = some c) (hrs : fn.results = rs.toArray)
    (h : AWp P w0 c (args ++ List.replicate (fn.ntmps - args.length) ud) S fun e fr S' => (e = .normal ∨ e = .ret) ∧ resK P fr S' rs fun d => shrT S' d fun d S'' => K d ⟨S''.box.drop n, S''.acc.drop m⟩) : ACall P w0 f args S K := by
  intro g vs w h1 h2
  refine (acall_of (K := fun d S' => shrT S' d fun d S'' => K d ⟨S''.box.drop n, S''.acc.drop m⟩) hf hb hrs h g vs w h1 h2).mono ?_
  rintro e w' ⟨r, g', d, S', rfl, a, b, c, x⟩
  obtain ⟨g2, d2, S2, l2, R2, r2, k2⟩ := shrT_ok b c x
  exact ⟨r, g2, d2, _, rfl, a.trans l2, R2.forget (List.drop_sublist _ _) (List.drop_sublist _ _), r2, k2⟩
end
end Aml
