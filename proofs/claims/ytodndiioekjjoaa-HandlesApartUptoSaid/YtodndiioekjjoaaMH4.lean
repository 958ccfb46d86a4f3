/-
  Statements whose order is open, once more: what reads no store may come at any time, and so may what makes a box that nothing ahead looks at; Statements whose order is open: how the reckoning goes; Ranges over functions; A row that a statement builds, as one that grows; The end of a growing slice, cleared; Few statements whose order is open, each order walked; Statements whose order is open, with rows made and turned to texts: what is made is frozen at once; Statements whose order is open, once more: what reads no store may come at any time, and so may what makes a box that nothing ahead looks at; Statements whose order is open: how the reckoning goes; What is known of a map that is owned; Rows of ints, as the walk speaks of them; Statements whose order is open, walked in an order of one's own: what looks at no store, what reads the store of the beginning, what keeps it, what else there is; An own row as a box, and back; Entries of the model: strings compared, rows that lie apart; A scope out of which nothing jumps back. By an AI agent.
-/
import Derived.Test.YtodndiioekjjoaaMH3
import Derived.Test.YtodndiioekjjoaaMH2
import Derived.Lib.Bytealg
import Derived.Lib.Overlaps
namespace Aml
open Go Go.RowKit
set_option linter.unusedVariables false
set_option linter.unusedSimpArgs false

/-- 0: looks at no store; 1: reads; 2: makes a box; 3: else. -/
def kX : Op → Nat
  | .load .. => 1
  | .alloc _ => 2
  | .call c => match c.callee with
    | .value _ => 1
    | .builtin .len => 0
    | .builtin .cap => 0
    | .builtin .min => 0
    | .builtin .max => 0
    | _ => 3
  | .move _ => 0
  | .assign _ => 0
  | .pick .. => 0
  | .fieldAddr .. => 0
  | .indexAddr .. => 0
  | .index .. => 0
  | .field .. => 0
  | .extract .. => 0
  | .nilCheck _ => 0
  | .binOp .. => 0
  | .unOp .. => 0
  | .convert .. => 0
  | .makeInterface .. => 0
  | .makeFunc .. => 0
  | .slice .. => 0
  | .build .. => 0
  | .buildSlice .. => 0
  | _ => 3
def Fr (S : St) (B : List (Nat × List DV)) : Prop := ∀ x, x ∈ B → nin S.box x.1
def bodyX (P : Program) (w0 : W0) (o : Oper) (fr : List DV) (S : St) (K : List DV → St → Prop) : Prop :=
  (kX o.op = 0 ∧ ∃ d, (∀ S', QY P w0 S' o fr d) ∧ K (pt fr o.dst d) S) ∨
  (kX o.op = 1 ∧ ∃ d, (∀ B, Fr S B → QY P w0 ⟨B ++ S.box, S.acc⟩ o fr d) ∧ K (pt fr o.dst d) S) ∨
  (kX o.op = 2 ∧ ∃ t, o.op = .alloc t ∧ okE (zD P t) = true ∧ ∀ b, nin S.box b → K (pt fr o.dst (.v (.pointer (some ⟨b, 0, none⟩)))) ⟨(b, cd (zD P t)) :: S.box, S.acc⟩) ∨
  (kX o.op = 3 ∧ YieldsE P w0 o (ev fr) S fun d S' => K (pt fr o.dst d) S')
def tauX (P : Program) (w0 : W0) (ops : Array Oper) (o : Oper) (fr : List DV) (S : St) (K : List DV → St → Prop) : Prop :=
  (wantB ops fr o.guard = some true ∧ bodyX P w0 o fr S K) ∨ (wantB ops fr o.guard = some false ∧ K (pt fr o.dst ud) S)
/-- May two that have no order change places? -/
def okP (a b : Nat) : Bool := a == 0 || (a == 1 && decide (b < 3))

section
variable {P : Program} {w0 : W0} {ops : Array Oper} {md : Region.Mode}
theorem bodyX_mono {o : Oper} {fr : List DV} {S : St} {K K' : List DV → St → Prop} (h : ∀ fr S, K fr S → K' fr S) (b : bodyX P w0 o fr S K) : bodyX P w0 o fr S K' := by
  rcases b with ⟨c, d, q, k⟩ | ⟨c, d, q, k⟩ | ⟨c, t, ht, hz, k⟩ | ⟨c, q⟩
  · exact .inl ⟨c, d, q, h _ _ k⟩
  · exact .inr (.inl ⟨c, d, q, h _ _ k⟩)
  · exact .inr (.inr (.inl ⟨c, t, ht, hz, fun b hb => h _ _ (k b hb)⟩))
  · exact .inr (.inr (.inr ⟨c, yields_mono (fun d S hk => h _ _ hk) q⟩))
theorem tauX_mono {o : Oper} {fr : List DV} {S : St} {K K' : List DV → St → Prop} (h : ∀ fr S, K fr S → K' fr S) (b : tauX P w0 ops o fr S K) : tauX P w0 ops o fr S K' :=
  b.imp (fun ⟨a, b⟩ => ⟨a, bodyX_mono h b⟩) fun ⟨a, b⟩ => ⟨a, h _ _ b⟩
/-- What another one puts elsewhere is not seen. -/
theorem bodyX_put {o : Oper} {fr : List DV} {S : St} {K : List DV → St → Prop} {dst : Option Tmp} {e : DV} (h1 : ∀ t, dst = some t → t ∉ o.looksAt ops) (h2 : ∀ t, dst = some t → o.dst ≠ some t) :
    bodyX P w0 o (pt fr dst e) S K ↔ bodyX P w0 o fr S fun fr' S' => K (pt fr' dst e) S' := by
  have hq : ∀ S d, QY P w0 S o (pt fr dst e) d ↔ QY P w0 S o fr d := fun S d =>
    ⟨yields_congr (fun x hx => ev_put (ops := ops) h1 x hx), yields_congr (fun x hx => (ev_put (ops := ops) h1 x hx).symm)⟩
  have hc : ∀ d, pt (pt fr dst e) o.dst d = pt (pt fr o.dst d) dst e := fun d => pt_comm fr e d h2
  have hy : ∀ K, YieldsE P w0 o (ev (pt fr dst e)) S K ↔ YieldsE P w0 o (ev fr) S K := fun K =>
    ⟨yields_congr (fun x hx => ev_put (ops := ops) h1 x hx), yields_congr (fun x hx => (ev_put (ops := ops) h1 x hx).symm)⟩
  unfold bodyX
  simp only [hq, hc, hy]
theorem tauX_put {o : Oper} {fr : List DV} {S : St} {K : List DV → St → Prop} {dst : Option Tmp} {e : DV} (h1 : ∀ t, dst = some t → t ∉ o.looksAt ops) (h2 : ∀ t, dst = some t → o.dst ≠ some t) :
    tauX P w0 ops o (pt fr dst e) S K ↔ tauX P w0 ops o fr S fun fr' S' => K (pt fr' dst e) S' := by
  unfold tauX
  rw [want_put h1, bodyX_put h1 h2, pt_comm fr e ud h2]
theorem bodyX_monoP {o : Oper} {fr : List DV} {S : St} {K K' : List DV → St → Prop} (h : ∀ e S, K (pt fr o.dst e) S → K' (pt fr o.dst e) S) (b : bodyX P w0 o fr S K) : bodyX P w0 o fr S K' := by
  rcases b with ⟨c, d, q, k⟩ | ⟨c, d, q, k⟩ | ⟨c, t, ht, hz, k⟩ | ⟨c, q⟩
  · exact .inl ⟨c, d, q, h _ _ k⟩
  · exact .inr (.inl ⟨c, d, q, h _ _ k⟩)
  · exact .inr (.inr (.inl ⟨c, t, ht, hz, fun b hb => h _ _ (k b hb)⟩))
  · exact .inr (.inr (.inr ⟨c, yields_mono (fun d S hk => h _ _ hk) q⟩))
theorem tauX_monoP {o : Oper} {fr : List DV} {S : St} {K K' : List DV → St → Prop} (h : ∀ e S, K (pt fr o.dst e) S → K' (pt fr o.dst e) S) (b : tauX P w0 ops o fr S K) : tauX P w0 ops o fr S K' :=
  b.imp (fun ⟨a, b⟩ => ⟨a, bodyX_monoP h b⟩) fun ⟨a, b⟩ => ⟨a, h _ _ b⟩
/-- Two that are apart change places. -/
theorem tauX_comm {x y : Oper} (hap : x.apart ops y = true) (hk : okP (kX x.op) (kX y.op) = true) {fr : List DV} {S : St} {K : List DV → St → Prop} (h : tauX P w0 ops x fr S fun fr S => tauX P w0 ops y fr S K) :
    tauX P w0 ops y fr S fun fr S => tauX P w0 ops x fr S K := by
  obtain ⟨b1, b2, b3⟩ := Oper.apart_spec hap
  have hw : ∀ e, wantB ops (pt fr y.dst e) x.guard = wantB ops fr x.guard := fun e => want_put b3
  have hq : ∀ {S d e}, QY P w0 S x fr d → QY P w0 S x (pt fr y.dst e) d := fun {S d e} q => yields_congr (fun z hz => (ev_put (ops := ops) b3 z hz).symm) q
  rcases h with ⟨hg, hb⟩ | ⟨hg, hb⟩
  · rcases hb with ⟨c, d, q, k⟩ | ⟨c, d, q, k⟩ | ⟨c, -⟩ | ⟨c, -⟩
    · rw [tauX_put b1 b2] at k
      exact tauX_monoP (fun e S' hk => .inl ⟨by rw [hw]; exact hg, .inl ⟨c, d, fun S'' => hq (q S''), hk⟩⟩) k
    · rw [tauX_put b1 b2] at k
      rcases k with ⟨g2, k⟩ | ⟨g2, k⟩
      · rcases k with ⟨c2, d2, q2, k⟩ | ⟨c2, d2, q2, k⟩ | ⟨c2, t, ht, hz, k⟩ | ⟨c2, -⟩
        · exact .inl ⟨g2, .inl ⟨c2, d2, q2, .inl ⟨by rw [hw]; exact hg, .inr (.inl ⟨c, d, fun B hB => hq (q B hB), k⟩)⟩⟩⟩
        · exact .inl ⟨g2, .inr (.inl ⟨c2, d2, q2, .inl ⟨by rw [hw]; exact hg, .inr (.inl ⟨c, d, fun B hB => hq (q B hB), k⟩)⟩⟩)⟩
        · refine .inl ⟨g2, .inr (.inr (.inl ⟨c2, t, ht, hz, fun b hb => .inl ⟨by rw [hw]; exact hg, .inr (.inl ⟨c, d, fun B hB => hq ?_, k b hb⟩)⟩⟩))⟩
          have := q (B ++ [(b, cd (zD P t))]) fun z hz' => by
            rcases List.mem_append.1 hz' with h | h
            · exact (hB z h).2.2
            · simp only [List.mem_singleton] at h; subst h; exact hb
          rw [List.append_assoc] at this
          exact this
        · rw [c, c2] at hk; exact absurd hk (by decide)
      · exact .inr ⟨g2, .inl ⟨by rw [hw]; exact hg, .inr (.inl ⟨c, d, fun B hB => hq (q B hB), k⟩)⟩⟩
    · rw [c] at hk; simp [okP] at hk
    · rw [c] at hk; simp [okP] at hk
  · rw [tauX_put b1 b2] at hb
    exact tauX_monoP (fun e S' hk => .inr ⟨by rw [hw]; exact hg, hk⟩) hb

def tauI (P : Program) (w0 : W0) (ops : Array Oper) (i : Nat) (fr : List DV) (S : St) (K : List DV → St → Prop) : Prop := match ops[i]? with
  | none => K fr S
  | some o => tauX P w0 ops o fr S K
def wpX (P : Program) (w0 : W0) (md : Region.Mode) (ops : Array Oper) (K : List DV → St → Prop) : Nat → Array Bool → List DV → St → Prop
  | 0, listed, fr, S => Region.ready md ops listed = [] ∧ K fr S
  | fuel + 1, listed, fr, S => (Region.ready md ops listed = [] → K fr S) ∧ ∀ i ∈ Region.ready md ops listed, tauI P w0 ops i fr S (wpX P w0 md ops K fuel (listed.setIfInBounds i true))
theorem tauI_mono {i : Nat} {fr : List DV} {S : St} {K K' : List DV → St → Prop} (h : ∀ fr S, K fr S → K' fr S) (b : tauI P w0 ops i fr S K) : tauI P w0 ops i fr S K' := by
  unfold tauI at *
  split
  · rename_i ho; simp only [ho] at b; exact h _ _ b
  · rename_i o ho; simp only [ho] at b; exact tauX_mono h b
theorem wpX_first {K : List DV → St → Prop} {i : Nat} {oi : Oper} (hi : ops[i]? = some oi) :
    ∀ (fuel : Nat) (listed : Array Bool) (fr : List DV) (S : St),
      (∀ j oj, ops[j]? = some oj → j ≠ i → listed.getD j true = false → (∀ e ∈ oj.after, Region.binds md e = true → e.on ≠ i) → oi.apart ops oj = true ∧ okP (kX oi.op) (kX oj.op) = true) →
      (∀ l : List Nat, l.Nodup → (∀ k, k ∈ l → listed.getD k true = false) → l.length ≤ fuel + 1) →
      i ∈ Region.ready md ops listed → tauX P w0 ops oi fr S (wpX P w0 md ops K fuel (listed.setIfInBounds i true)) → wpX P w0 md ops K (fuel + 1) listed fr S := by
  intro fuel
  induction fuel with
  | zero =>
    intro listed fr S _ hcnt hr H
    refine ⟨fun h => (by rw [h] at hr; cases hr), fun j hj => ?_⟩
    by_cases hji : j = i
    · subst hji; unfold tauI; simp only [hi]; exact H
    · exfalso
      have := hcnt [i, j] (by simp [Ne.symm hji]) fun k hk => by
        simp only [List.mem_cons, List.not_mem_nil, or_false] at hk
        rcases hk with rfl | rfl
        · exact (mem_ready.1 hr).1
        · exact (mem_ready.1 hj).1
      simp at this
  | succ fuel ih =>
    intro listed fr S hfree hcnt hr H
    refine ⟨fun h => (by rw [h] at hr; cases hr), fun j hj => ?_⟩
    by_cases hji : j = i
    · subst hji; unfold tauI; simp only [hi]; exact H
    · obtain ⟨hjun, oj, hoj, hall⟩ := mem_ready.1 hj
      have hnot : ∀ e ∈ oj.after, Region.binds md e = true → e.on ≠ i := fun e he hb heq => by
        have h1 := hall e he hb
        have h0 := (mem_ready.1 hr).1
        rw [heq] at h1
        rcases Nat.lt_or_ge i listed.size with h' | h'
        · simp [h'] at h0 h1; rw [h0] at h1; cases h1
        · simp [Array.getElem?_eq_none h'] at h1
      have h1 : tauX P w0 ops oi fr S fun fr S => tauX P w0 ops oj fr S (wpX P w0 md ops K fuel ((listed.setIfInBounds i true).setIfInBounds j true)) :=
        tauX_mono (fun fr S h => by
          have := h.2 j (ready_mono hj hji)
          unfold tauI at this; simp only [hoj] at this; exact this) H
      have hc := hfree j oj hoj hji hjun hnot
      have h2 := tauX_comm hc.1 hc.2 h1
      have hfree' : ∀ k ok, ops[k]? = some ok → k ≠ i → (listed.setIfInBounds j true).getD k true = false →
          (∀ e ∈ ok.after, Region.binds md e = true → e.on ≠ i) → oi.apart ops ok = true ∧ okP (kX oi.op) (kX ok.op) = true := fun k ok hk hki hun hno => by
        refine hfree k ok hk hki ?_ hno
        by_cases hjk : j = k
        · subst hjk; exact hjun
        · rw [getD_set_ne true hjk] at hun; exact hun
      unfold tauI
      simp only [hoj]
      have hcnt' : ∀ l : List Nat, l.Nodup → (∀ k, k ∈ l → (listed.setIfInBounds j true).getD k true = false) → l.length ≤ fuel + 1 := by
        intro l hn hl
        have hjs : j < listed.size := by
          rcases Nat.lt_or_ge j listed.size with h | h
          · exact h
          · rw [Array.getD_eq_getD_getElem?, Array.getElem?_eq_none h] at hjun; cases hjun
        have hjl : j ∉ l := fun hj => by
          have := hl j hj
          rw [Array.getD_eq_getD_getElem?, Array.getElem?_setIfInBounds] at this
          simp [hjs] at this
        have := hcnt (j :: l) (List.nodup_cons.2 ⟨hjl, hn⟩) fun k hk => by
          rcases List.mem_cons.1 hk with rfl | hk
          · exact hjun
          · have := hl k hk
            rw [getD_set_ne true (show j ≠ k from fun e => hjl (e ▸ hk))] at this
            exact this
        simp at this; omega
      refine tauX_mono (fun fr S h => ih (listed.setIfInBounds j true) fr S hfree' hcnt' (ready_mono hr (Ne.symm hji)) ?_) h2
      rw [Array.setIfInBounds_comm _ _ hji]
      exact h
/-- Is an operation free to come first? -/
def freeX (md : Region.Mode) (ops : Array Oper) (listed : Array Bool) (i : Nat) : Bool := (List.range ops.size).all fun j => match ops[i]?, ops[j]? with
  | some oi, some oj => j == i || listed.getD j true || oj.after.any (fun e => Region.binds md e && e.on == i) || (oi.apart ops oj && okP (kX oi.op) (kX oj.op))
  | _, _ => false
def lexX (md : Region.Mode) (ops : Array Oper) : Nat → Nat → Array Bool → Bool
  | 0, _, listed => (Region.ready md ops listed).isEmpty
  | n + 1, k, listed => (Region.ready md ops listed).contains k && freeX md ops listed k && lexX md ops n (k + 1) (listed.setIfInBounds k true)
theorem freeX_spec {listed : Array Bool} {i : Nat} {oi : Oper} (hi : ops[i]? = some oi) (h : freeX md ops listed i = true) : ∀ j oj, ops[j]? = some oj → j ≠ i → listed.getD j true = false → (∀ e ∈ oj.after, Region.binds md e = true → e.on ≠ i) → oi.apart ops oj = true ∧ okP (kX oi.op) (kX oj.op) = true := by
  intro j oj hj hji hun hno
  have hlt : j < ops.size := (Array.getElem?_eq_some_iff.1 hj).1
  have := List.all_eq_true.1 h j (List.mem_range.2 hlt)
  simp only [hi, hj, hun, Bool.or_false, Bool.or_eq_true, beq_iff_eq, Bool.and_eq_true] at this
  rcases this with (h | h) | h
  · exact absurd h hji
  · exfalso
    obtain ⟨e, he, h⟩ := Array.any_eq_true'.1 h
    simp only [Bool.and_eq_true, beq_iff_eq] at h
    exact hno e he h.1 h.2
  · exact h
/-- In the text's order. -/
def LX (P : Program) (w0 : W0) (ops : Array Oper) (K : List DV → St → Prop) : List Oper → List DV → St → Prop
  | [], fr, S => K fr S
  | o :: rest, fr, S => tauX P w0 ops o fr S (LX P w0 ops K rest)
theorem wpX_lex {K : List DV → St → Prop} : ∀ (l : List Oper) (k : Nat) (listed : Array Bool) (fr : List DV) (S : St), (∀ j, l[j]? = ops[k + j]?) →
    (∀ l' : List Nat, l'.Nodup → (∀ k, k ∈ l' → listed.getD k true = false) → l'.length ≤ l.length) →
    lexX md ops l.length k listed = true → LX P w0 ops K l fr S → wpX P w0 md ops K l.length listed fr S
  | [], _, _, _, _, _, _, hB, h => ⟨by simpa [lexX] using hB, h⟩
  | o :: l, k, listed, fr, S, hl, hcnt, hB, h => by
    have h0 : ops[k]? = some o := by simpa using (hl 0).symm
    simp only [List.length_cons, lexX, Bool.and_eq_true] at hB
    obtain ⟨⟨hr, hf⟩, hB'⟩ := hB
    have hr' : k ∈ Region.ready md ops listed := by simpa using hr
    have hun := (mem_ready.1 hr').1
    refine wpX_first h0 l.length listed fr S (freeX_spec h0 hf) (by simpa using hcnt) hr' ?_
    refine tauX_mono (fun fr S h => wpX_lex l (k + 1) _ fr S (fun j => by have := hl (j + 1); simpa [Nat.add_assoc, Nat.add_comm 1 j] using this) ?_ hB' h) h
    intro l' hn hl'
    have hks : k < listed.size := by
      rcases Nat.lt_or_ge k listed.size with h | h
      · exact h
      · rw [Array.getD_eq_getD_getElem?, Array.getElem?_eq_none h] at hun; cases hun
    have hkl : k ∉ l' := fun hk => by
      have := hl' k hk
      rw [Array.getD_eq_getD_getElem?, Array.getElem?_setIfInBounds] at this
      simp [hks] at this
    have := hcnt (k :: l') (List.nodup_cons.2 ⟨hkl, hn⟩) fun m hm => by
      rcases List.mem_cons.1 hm with rfl | hm
      · exact hun
      · have := hl' m hm
        rw [getD_set_ne true (show k ≠ m from fun e => hkl (e ▸ hm))] at this
        exact this
    simp at this; omega
theorem bodyX_yields {o : Oper} {fr : List DV} {S : St} {K : List DV → St → Prop} (h : bodyX P w0 o fr S K) : YieldsE P w0 o (ev fr) S fun d S' => K (pt fr o.dst d) S' := by
  rcases h with ⟨c, d, q, k⟩ | ⟨c, d, q, k⟩ | ⟨c, t, ht, hz, k⟩ | ⟨c, q⟩
  · exact yields_mono (fun d' S' h => by rw [h.1, h.2]; exact k) (q S)
  · have := q [] (fun x hx => by cases hx)
    exact yields_mono (fun d' S' h => by rw [h.1, h.2]; exact k) this
  · exact y_alloc ht ⟨hz, k⟩
  · exact q
theorem wpAny_of_X {ro : Option Nat} {g0 : Gh} {Q : Exit → List DV → St → Prop} : ∀ (fuel : Nat) (listed : Array Bool) (fr : List DV) (S : St) (g : Gh) (a : Act) (w : World), g0.le g → Rel w0 g S w → RepL g fr a.tmps.toList → Dk w0 g.obj a w →
    wpX P w0 md ops (fun fr S => Q .normal fr S) fuel listed fr S → wpAnyIn (fz ro) 0 P md ops (Good w0 g0 Q) fuel listed a w
  | 0, listed, fr, S, g, a, w, k, h1, h2, h3, h => ⟨h.1, k.kd h3, g, fr, S, k, h1, h2, h.2⟩
  | fuel + 1, listed, fr, S, g, a, w, k, h1, h2, h3, h => by
    refine ⟨fun h0 => ⟨k.kd h3, g, fr, S, k, h1, h2, h.1 h0⟩, fun i hi => ?_⟩
    have hq := h.2 i hi
    unfold tauI at hq
    unfold wpOpIn
    split
    · rename_i ho; simp only [ho] at hq; exact wpAny_of_X fuel _ fr S g a w k h1 h2 h3 hq
    · rename_i o ho
      simp only [ho] at hq
      rcases hq with ⟨hw, hb⟩ | ⟨hw, hk⟩
      · have hw' := wantB_sound (o := o) h2 hw
        rw [if_pos hw']
        refine wpIn_of_yields (bodyX_yields hb) h1 (fun x _ => rep_ev h2 x) h3 fun g' d' u S' w' k1 k2 k3 k4 k5 => ?_
        exact wpAny_of_X fuel _ _ _ g' _ _ (k.trans k1) k2 (repL_put (h2.mono k1) _ k3) (k1.dk k5) k4
      · have hw' := wantB_sound (o := o) h2 hw
        rw [if_neg (by simp [hw'])]
        exact ⟨fun _ _ => trivial, wpAny_of_X fuel _ _ _ g _ _ k h1 (repL_put h2 _ (rep_ud g)) (h3.keep (put_defers _ _ _) fun _ _ h _ => h) hk⟩
/-- A region that draws its order, where the text's order serves. -/
theorem awp_drawL {id : Nat} {l : List Oper} {fr : List DV} {S : St} {Q : Exit → List DV → St → Prop} (hm : P.follows .mixedOrders = true) (hB : lexX .any l.toArray l.length 0 (Array.replicate l.length false) = true) (h : LX P w0 l.toArray (fun fr S => Q .normal fr S) l fr S) : AWp P w0 (.region id l.toArray true) fr S Q := by
  intro g a w h1 h2 h3
  refine wpA_region_any hm fun ro => ?_
  have hR : Rel w0 g S { w with drawn := w.drawn + 1 } := h1.grow (below_drew w)
  have hcnt : ∀ l' : List Nat, l'.Nodup → (∀ k, k ∈ l' → (Array.replicate l.length false).getD k true = false) → l'.length ≤ l.length := by
    intro l' hn hl
    have hsub : ∀ k, k ∈ l' → k ∈ List.range l.length := fun k hk => by
      have := hl k hk
      rw [List.mem_range]
      rcases Nat.lt_or_ge k l.length with h | h
      · exact h
      · rw [Array.getD_eq_getD_getElem?, Array.getElem?_eq_none (by simpa using h)] at this; cases this
    have := hn.length_le_of_subset (l₂ := List.range l.length) hsub
    simpa using this
  have := wpX_lex (P := P) (w0 := w0) (md := .any) (ops := l.toArray) l 0 (Array.replicate l.length false) fr S (by simp) hcnt hB h
  have := wpAny_of_X (ro := ro) (g0 := g) (Q := Q) _ _ fr S g a _ (.refl g) hR h2 (h3.keep rfl fun _ _ h _ => h) this
  simpa using this

/-- What looks at no store: one value, at every store. -/
theorem pure_det {op : Op} (hk : kX op = 0) {fr : List DV} {S : St} {K : DV → Prop} (h : vcOpQ P w0 op fr S K) : ∃ d, (∀ S', vcOpQ P w0 op fr S' (· = d)) ∧ K d := by
  cases op with
  | move x => exact ⟨_, fun _ => rfl, h⟩
  | assign x => exact ⟨_, fun _ => rfl, h⟩
  | pick c a b => obtain ⟨d, q1, q2⟩ := det_pick h; exact ⟨d, fun _ => q1, q2⟩
  | fieldAddr t x f => obtain ⟨d, q1, q2⟩ := det_field h; exact ⟨d, fun _ => q1, q2⟩
  | indexAddr t x i => obtain ⟨d, q1, q2⟩ := det_indexAddr h; exact ⟨d, fun _ => q1, q2⟩
  | index t x i => obtain ⟨d, q1, q2⟩ := det_index h; exact ⟨d, fun _ => q1, q2⟩
  | field t x f => obtain ⟨d, q1, q2⟩ := det_fieldV h; exact ⟨d, fun _ => q1, q2⟩
  | extract x i => obtain ⟨d, q1, q2⟩ := det_extract h; exact ⟨d, fun _ => q1, q2⟩
  | nilCheck x => exact ⟨_, fun _ => ⟨h.1, rfl⟩, h.2⟩
  | binOp b t x y t' => obtain ⟨d, q1, q2⟩ := det_binA h.2; exact ⟨d, fun _ => ⟨h.1, q1⟩, q2⟩
  | unOp b t x => obtain ⟨d, q1, q2⟩ := det_un h; exact ⟨d, fun _ => q1, q2⟩
  | convert s d x => obtain ⟨d, q1, q2⟩ := det_conv h; exact ⟨d, fun _ => q1, q2⟩
  | makeInterface t x => exact ⟨_, fun _ => ⟨h.1, h.2.1, rfl⟩, h.2.2⟩
  | makeFunc fn a b => obtain ⟨d, q1, q2⟩ := det_func h; exact ⟨d, fun _ => q1, q2⟩
  | slice t x lo hi mx => obtain ⟨d, q1, q2⟩ := det_slice h.2.2; exact ⟨d, fun _ => ⟨h.1, h.2.1, q1⟩, q2⟩
  | build t parts => obtain ⟨d, q1, q2⟩ := det_build h.2; exact ⟨d, fun _ => ⟨h.1, q1⟩, q2⟩
  | buildSlice t len parts => obtain ⟨d, q1, q2⟩ := det_buildSlice h.2; exact ⟨d, fun _ => ⟨h.1, q1⟩, q2⟩
  | call c =>
    obtain ⟨callee, args, ts⟩ := c
    simp only [vcOpQ] at h ⊢
    split at h
    · split at h
      · obtain ⟨d, q1, q2⟩ := det_len h
        exact ⟨d, fun _ => by simpa using q1, q2⟩
      · exact h.elim
    · split at h
      · obtain ⟨d, q1, q2⟩ := det_cap h
        exact ⟨d, fun _ => by simpa using q1, q2⟩
      · exact h.elim
    · split at h
      · obtain ⟨d, q1, q2⟩ := det_min h
        exact ⟨d, fun _ => by simpa using q1, q2⟩
      · exact h.elim
    · split at h
      · obtain ⟨d, q1, q2⟩ := det_max h
        exact ⟨d, fun _ => by simpa using q1, q2⟩
      · exact h.elim
    · cases hk
    · exact h.elim
  | _ => first | exact h.elim | cases hk
theorem lk_ext {S : St} {B : List (Nat × List DV)} (hB : Fr S B) {b : Nat} {ds : List DV} (h : lk S.box b = some ds) : lk (B ++ S.box) b = some ds := by
  induction B with
  | nil => exact h
  | cons x B ih =>
    have h1 := hB x List.mem_cons_self
    have hne : ¬ x.1 = b := fun e => by rw [e] at h1; rw [nin_lk h1] at h; cases h
    obtain ⟨k, y⟩ := x
    show lk ((k, y) :: (B ++ S.box)) b = _
    rw [q_lk_ne hne]
    exact ih fun z hz => hB z (List.mem_cons_of_mem _ hz)
theorem load_ext {k : TK} {S : St} {x : DV} {K : DV → Prop} {B : List (Nat × List DV)} (hB : Fr S B) (h : vLoad k S x K) : vLoad k ⟨B ++ S.box, S.acc⟩ x K := by
  unfold vLoad at *
  split at h
  · split at h
    · rename_i ds hb
      simp only [lk_ext hB hb]
      exact h
    · exact h.elim
  · exact h
  · exact h
  · exact h.elim
end
/-- A call that hands back one value, whatever boxes were made beside it. -/
def QX (P : Program) (w0 : W0) (f : FuncId) (ds : List DV) (S : St) [K : Cn (DV → Prop)] : Prop := ∃ d, (∀ B, Fr S B → ACall P w0 f ds ⟨B ++ S.box, S.acc⟩ fun d' S' => d' = d ∧ S' = ⟨B ++ S.box, S.acc⟩) ∧ K.k d
def vCallX (P : Program) (w0 : W0) (cal : DV) (ds : List DV) (S : St) (K : DV → Prop) : Prop := match cal with
  | .v (.func (.func f) a cap) => a.size = 0 ∧ okF P f = true ∧ cap.toList.all (fun u => u.oneCell') = true ∧ ds.all naccA = true ∧ @QX P w0 f (ds ++ cap.toList.map .v) S ⟨K⟩
  | _ => False
def opX (P : Program) (w0 : W0) (op : Op) (fr : List DV) (S : St) (K : DV → St → Prop) : Prop := match op with
  | .load t x => vLoad (tk P t) S (ev fr x) (K · S)
  | .alloc t => okE (zD P t) = true ∧ bxK S (zD P t) K
  | .call ⟨.value cal, args, _⟩ => vCallX P w0 (ev fr cal) (args.toList.map (ev fr)) S (K · S)
  | op => selK (kX op == 0) (vcOpQ P w0 op fr S (K · S)) (vcOp P w0 op fr S K)
def vcLX (P : Program) (w0 : W0) (ops : Array Oper) (K : List DV → St → Prop) : List Oper → List DV → St → Prop
  | [], fr, S => K fr S
  | o :: rest, fr, S => guardK ops fr o.guard (fun fr => opX P w0 o.op fr S fun d S' => vcLX P w0 ops K rest (pt fr o.dst d) S') (fun fr => vcLX P w0 ops K rest (pt fr o.dst ud) S)
section
variable {P : Program} {w0 : W0} {ops : Array Oper} {md : Region.Mode}
theorem opX_sound {o : Oper} {fr : List DV} {S : St} {K : List DV → St → Prop} (hs : okSl o.op = true) (h : opX P w0 o.op fr S fun d S' => K (pt fr o.dst d) S') : bodyX P w0 o fr S K := by
  have gen : ∀ (h : selK (kX o.op == 0) (vcOpQ P w0 o.op fr S fun d => K (pt fr o.dst d) S) (vcOp P w0 o.op fr S fun d S' => K (pt fr o.dst d) S')), kX o.op = 0 ∨ kX o.op = 3 → bodyX P w0 o fr S K := by
    intro h hk
    rcases hk with hk | hk
    · rw [hk] at h
      obtain ⟨d, q1, q2⟩ := pure_det hk (show vcOpQ P w0 o.op fr S fun d => K (pt fr o.dst d) S from h)
      exact .inl ⟨hk, d, fun S' => by
        obtain ⟨d', k1, k2⟩ := vcOpQ_sound hs (q1 S')
        subst k2; exact k1, q2⟩
    · rw [hk] at h
      exact .inr (.inr (.inr ⟨hk, vcOp_sound hs h⟩))
  cases hop : o.op with
  | load t x =>
    rw [hop] at h hs
    obtain ⟨d, q1, q2⟩ := det_load (show vLoad (tk P t) S (ev fr x) (fun d => K (pt fr o.dst d) S) from h)
    refine .inr (.inl ⟨by rw [hop]; rfl, d, fun B hB => ?_, q2⟩)
    exact vcOp_sound (by rw [hop]; exact hs) (by rw [hop]; simpa [vcOp] using load_ext hB q1)
  | alloc t =>
    rw [hop] at h
    exact .inr (.inr (.inl ⟨by rw [hop]; rfl, t, hop, h.1, h.2⟩))
  | call c =>
    obtain ⟨callee, args, ts⟩ := c
    cases callee with
    | value cal =>
      rw [hop] at h hs
      simp only [opX, vCallX] at h
      split at h
      · rename_i f a cap hcal
        obtain ⟨h1, h2, h3, h4, d, h5, h6⟩ := h
        refine .inr (.inl ⟨by rw [hop]; rfl, d, fun B hB => ?_, h6⟩)
        exact vcOp_sound (by rw [hop]; exact hs) (by rw [hop]; simp only [vcOp, vCall, hcal]; exact ⟨h1, h3, by rw [h2, gX_t]; exact callK_id h4 (h5 B hB)⟩)
      · exact h.elim
    | builtin b =>
      refine gen (by rw [hop] at h ⊢; exact h) ?_
      rw [hop]
      cases b <;> first | exact .inl rfl | exact .inr rfl
    | invoke r m =>
      refine gen (by rw [hop] at h ⊢; exact h) ?_
      rw [hop]; exact .inr rfl
  | _ => refine gen (by rw [hop] at h ⊢; exact h) ?_; rw [hop]; first | exact .inl rfl | exact .inr rfl
theorem vcLX_sound {K : List DV → St → Prop} : ∀ (l : List Oper) {fr : List DV} {S : St}, l.all (fun o => okSl o.op) = true → vcLX P w0 ops K l fr S → LX P w0 ops K l fr S
  | [], fr, S, _, h => h
  | o :: rest, fr, S, hs, h => by
    simp only [List.all_cons, Bool.and_eq_true] at hs
    rcases guardK_want h with ⟨hw, ha⟩ | ⟨hw, hb⟩
    · exact .inl ⟨hw, bodyX_mono (fun fr S h => vcLX_sound rest hs.2 h) (opX_sound hs.1 ha)⟩
    · exact .inr ⟨hw, vcLX_sound rest hs.2 hb⟩
/-- What such a region asks. -/
def okL (l : List Oper) : Bool := l.all (fun o => okSl o.op) && lexX .any l.toArray l.length 0 (Array.replicate l.length false)
theorem lexK {id : Nat} {l : List Oper} {fr : List DV} {S : St} {Q : Exit → List DV → St → Prop} (hm : P.follows .mixedOrders = true) (hB : okL l = true) (h : vcLX P w0 l.toArray (fun fr S => normF fr fun fr => Q .normal fr S) l fr S) : AWp P w0 (.region id l.toArray true) fr S Q := by
  simp only [okL, Bool.and_eq_true] at hB
  exact awp_drawL hm hB.2 (vcLX_sound l hB.1 h)
theorem useX {f : FuncId} {args args' : List DV} {S : St} {K : DV → Prop} {r : DV} (h : ∀ B, Fr S B → ACall P w0 f args' ⟨B ++ S.box, S.acc⟩ (fun d S' => d = r ∧ S' = ⟨B ++ S.box, S.acc⟩)) (hk : K r) (ha : WkL args args' := by exact WkL.refl _) : @QX P w0 f args S ⟨K⟩ :=
  ⟨r, fun B hB => acall_one (h B hB) ha ⟨rfl, rfl⟩, hk⟩
end
end Aml

namespace Aml
open Go Go.RowKit
set_option linter.unusedVariables false
set_option linter.unusedSimpArgs false
section
variable {P : Program} {w0 : W0} {ops : Array Oper} {fr : List DV} {S : St} {rest : List Oper} {dst : Option Tmp} {op : Op} {ty : TypeId} {pos : String} {aft : Array Edge}
section
variable {K : List DV → St → Prop}
theorem x_nil : vcLX P w0 ops K [] fr S = K fr S := rfl
theorem x_none : vcLX P w0 ops K (⟨dst, op, ty, pos, aft, none⟩ :: rest) fr S = opX P w0 op fr S fun d S' => vcLX P w0 ops K rest (pt fr dst d) S' := rfl
theorem x_some (j : Nat) (want : Bool) : vcLX P w0 ops K (⟨dst, op, ty, pos, aft, some (j, want)⟩ :: rest) fr S = gK ((ops[j]?).bind (·.dst)) fr want (fun fr => opX P w0 op fr S fun d S' => vcLX P w0 ops K rest (pt fr dst d) S') (fun fr => vcLX P w0 ops K rest (pt fr dst ud) S) := q_guard _ _ _ _ _ _
end
variable {K : DV → St → Prop}
theorem x_load (t : TypeId) (x : Operand) : opX P w0 (.load t x) fr S K = vLoad (tk P t) S (ev fr x) (K · S) := rfl
theorem x_alloc (t : TypeId) : opX P w0 (.alloc t) fr S K = (okE (zD P t) = true ∧ bxK S (zD P t) K) := rfl
theorem x_call (cal : Operand) (a : List Operand) (ts : Array TypeId) : opX P w0 (.call ⟨.value cal, a.toArray, ts⟩) fr S K = vCallX P w0 (ev fr cal) (a.map (ev fr)) S (K · S) := rfl
theorem x_callF (f : FuncId) (a cap : Array Value) (ds : List DV) (K : DV → Prop) : vCallX P w0 (.v (.func (.func f) a cap)) ds S K = (a.size = 0 ∧ okF P f = true ∧ cap.toList.all (fun u => u.oneCell') = true ∧ ds.all naccA = true ∧ @QX P w0 f (ds ++ cap.toList.map .v) S ⟨K⟩) := rfl
@[congr] theorem c_vCallX {cal cal' : DV} {ds ds' : List DV} {S' : St} {K : DV → Prop} (h1 : cal = cal') (h2 : ds = ds') (h3 : S = S') : vCallX P w0 cal ds S K = vCallX P w0 cal' ds' S' K := by cases h1; cases h2; cases h3; rfl
theorem x_move (x : Operand) : opX P w0 (.move x) fr S K = vcOpQ P w0 (.move x) fr S (K · S) := rfl
theorem x_assign (x : Operand) : opX P w0 (.assign x) fr S K = vcOpQ P w0 (.assign x) fr S (K · S) := rfl
theorem x_pick (c a b : Operand) : opX P w0 (.pick c a b) fr S K = vcOpQ P w0 (.pick c a b) fr S (K · S) := rfl
theorem x_fieldAddr (t : TypeId) (x : Operand) (f : Nat) : opX P w0 (.fieldAddr t x f) fr S K = vcOpQ P w0 (.fieldAddr t x f) fr S (K · S) := rfl
theorem x_indexAddr (t : TypeId) (x i : Operand) : opX P w0 (.indexAddr t x i) fr S K = vcOpQ P w0 (.indexAddr t x i) fr S (K · S) := rfl
theorem x_index (t : TypeId) (x i : Operand) : opX P w0 (.index t x i) fr S K = vcOpQ P w0 (.index t x i) fr S (K · S) := rfl
theorem x_field (t : TypeId) (x : Operand) (f : Nat) : opX P w0 (.field t x f) fr S K = vcOpQ P w0 (.field t x f) fr S (K · S) := rfl
theorem x_extract (x : Operand) (i : Nat) : opX P w0 (.extract x i) fr S K = vcOpQ P w0 (.extract x i) fr S (K · S) := rfl
theorem x_nilCheck (x : Operand) : opX P w0 (.nilCheck x) fr S K = vcOpQ P w0 (.nilCheck x) fr S (K · S) := rfl
theorem x_binOp (b : BinOp) (t : TypeId) (x y : Operand) (t' : TypeId) : opX P w0 (.binOp b t x y t') fr S K = vcOpQ P w0 (.binOp b t x y t') fr S (K · S) := rfl
theorem x_unOp (b : UnOp) (t : TypeId) (x : Operand) : opX P w0 (.unOp b t x) fr S K = vcOpQ P w0 (.unOp b t x) fr S (K · S) := rfl
theorem x_convert (s d : TypeId) (x : Operand) : opX P w0 (.convert s d x) fr S K = vcOpQ P w0 (.convert s d x) fr S (K · S) := rfl
theorem x_makeInterface (t : TypeId) (x : Operand) : opX P w0 (.makeInterface t x) fr S K = vcOpQ P w0 (.makeInterface t x) fr S (K · S) := rfl
theorem x_makeFunc (fn : Fn) (a b : Array Operand) : opX P w0 (.makeFunc fn a b) fr S K = vcOpQ P w0 (.makeFunc fn a b) fr S (K · S) := rfl
theorem x_slice (t : TypeId) (x : Operand) (lo hi mx : Option Operand) : opX P w0 (.slice t x lo hi mx) fr S K = vcOpQ P w0 (.slice t x lo hi mx) fr S (K · S) := rfl
theorem x_build (t : TypeId) (parts : Array (Nat × Operand)) : opX P w0 (.build t parts) fr S K = vcOpQ P w0 (.build t parts) fr S (K · S) := rfl
theorem x_buildSlice (t : TypeId) (len : Nat) (parts : Array (Nat × Operand)) : opX P w0 (.buildSlice t len parts) fr S K = vcOpQ P w0 (.buildSlice t len parts) fr S (K · S) := rfl
theorem x_typeAssert (x : Operand) (xt t : TypeId) (ok : Bool) : opX P w0 (.typeAssert x xt t ok) fr S K = vcOp P w0 (.typeAssert x xt t ok) fr S K := rfl
theorem x_box (t : TypeId) (x : Operand) : opX P w0 (.box t x) fr S K = vcOp P w0 (.box t x) fr S K := rfl
theorem x_store (t : TypeId) (x y : Operand) : opX P w0 (.store t x y) fr S K = vcOp P w0 (.store t x y) fr S K := rfl
theorem x_makeSlice (t : TypeId) (x y : Operand) : opX P w0 (.makeSlice t x y) fr S K = vcOp P w0 (.makeSlice t x y) fr S K := rfl
theorem x_b_len (a : Array Operand) (ts : Array TypeId) : opX P w0 (.call ⟨.builtin .len, a, ts⟩) fr S K = vcOpQ P w0 (.call ⟨.builtin .len, a, ts⟩) fr S (K · S) := rfl
theorem x_b_cap (a : Array Operand) (ts : Array TypeId) : opX P w0 (.call ⟨.builtin .cap, a, ts⟩) fr S K = vcOpQ P w0 (.call ⟨.builtin .cap, a, ts⟩) fr S (K · S) := rfl
theorem x_b_min (a : Array Operand) (ts : Array TypeId) : opX P w0 (.call ⟨.builtin .min, a, ts⟩) fr S K = vcOpQ P w0 (.call ⟨.builtin .min, a, ts⟩) fr S (K · S) := rfl
theorem x_b_max (a : Array Operand) (ts : Array TypeId) : opX P w0 (.call ⟨.builtin .max, a, ts⟩) fr S K = vcOpQ P w0 (.call ⟨.builtin .max, a, ts⟩) fr S (K · S) := rfl
theorem x_b_append (a : Array Operand) (ts : Array TypeId) : opX P w0 (.call ⟨.builtin .append, a, ts⟩) fr S K = vcOp P w0 (.call ⟨.builtin .append, a, ts⟩) fr S K := rfl
end
attribute [go_sem ↓] x_nil x_none x_some x_load x_alloc x_call x_callF x_move x_assign x_pick x_fieldAddr x_indexAddr x_index x_field x_extract x_nilCheck x_binOp x_unOp x_convert x_makeInterface x_makeFunc x_slice x_build x_buildSlice x_typeAssert x_box x_store x_makeSlice x_b_len x_b_cap x_b_min x_b_max x_b_append
theorem n_beq_t (b : Bool) : (true == b) = b := by cases b <;> rfl
theorem n_beq_f (b : Bool) : (false == b) = !b := by cases b <;> rfl
theorem n_t_beq (b : Bool) : (b == true) = b := by cases b <;> rfl
theorem n_f_beq (b : Bool) : (b == false) = !b := by cases b <;> rfl
attribute [go_sem] n_beq_t n_beq_f n_t_beq n_f_beq
end Aml

namespace Aml
open Go Go.RowKit
set_option linter.unusedVariables false
set_option linter.unusedSimpArgs false

/-- The caller's store lies in the whole one. -/
structure Has (X T : St) : Prop where
  box : ∀ b x, lk X.box b = some x → lk T.box b = some x
  acc : ∀ l o, lk X.acc l = some o → lk T.acc l = some o
/-- What isn't the caller's is as it was. -/
structure Kp (X T T' : St) : Prop where
  box : ∀ b x, lk X.box b = none → lk T.box b = some x → lk T'.box b = some x
  acc : ∀ l o, lk X.acc l = none → lk T.acc l = some o → lk T'.acc l = some o
theorem Has.refl (X : St) : Has X X := ⟨fun _ _ h => h, fun _ _ h => h⟩
theorem Kp.refl (X T : St) : Kp X T T := ⟨fun _ _ _ h => h, fun _ _ _ h => h⟩
theorem lk_of_mem {α : Type} {l : List (Nat × α)} (hn : (l.map (·.1)).Nodup) {n : Nat} {x : α} (h : (n, x) ∈ l) : lk l n = some x := by
  induction l with
  | nil => cases h
  | cons p t ih =>
    obtain ⟨k, y⟩ := p
    simp only [List.map_cons, List.nodup_cons] at hn
    simp only [lk]
    rcases List.mem_cons.1 h with e | h
    · cases e; simp
    · have : k ≠ n := by rintro rfl; exact hn.1 (List.mem_map_of_mem (f := (·.1)) h)
      rw [if_neg this]; exact ih hn.2 h

/-- A frame with slots set. -/
def setPs : List Tmp → List DV → List DV → List DV
  | p :: ps, d :: ds, fr => setPs ps ds (fr.set p d)
  | _, _, fr => fr
section
variable {P : Program} {w0 : W0}
theorem Rel.has {g : Gh} {S T : St} {w : World} (h : Rel w0 g T w) (hs : Has S T) (nb : (S.box.map (·.1)).Nodup) (na : (S.acc.map (·.1)).Nodup) : Rel w0 g S w := by
  obtain ⟨ow, o1, o2⟩ := h.own
  exact ⟨h.below, h.imm, nb, na, h.accw, h.fresh, fun l o hl => h.top l o (lk_mem (hs.acc _ _ (lk_of_mem na hl))), ow, fun b ds hb => o1 b ds (lk_mem (hs.box _ _ (lk_of_mem nb hb))), fun l o hl => o2 l o (lk_mem (hs.acc _ _ (lk_of_mem na hl)))⟩
theorem repL_setPs {g : Gh} : ∀ (ps : List Tmp) (ds : List DV) (vs : List Value) {fr : List DV} {us : Array Value}, RepL g fr us.toList → RepL g ds vs →
    RepL g (setPs ps ds fr) (((ps.zip vs).foldl (fun t (p, v) => t.setIfInBounds p v) us).toList)
  | [], ds, vs, fr, us, h, _ => by simpa [setPs] using h
  | p :: ps, ds, vs, fr, us, h, r => by
    cases ds with
    | nil => have := r.len; simp at this; obtain rfl : vs = [] := List.eq_nil_of_length_eq_zero this.symm; simpa [setPs] using h
    | cons d ds =>
      obtain ⟨v, vs', rfl, hd, hr⟩ := r.uncons
      simp only [setPs, List.zip_cons_cons, List.foldl_cons]
      exact repL_setPs ps ds vs' (by simpa using h.set p hd) hr

/-- What a loop's rounds do, as an iterator needs it: V is all that comes. -/
def YKo (P : Program) (w0 : W0) {α : Type} (l : Nat) (X : List α → St) (enc : α → List DV) (Ok : List α → Prop) : Prop :=
  ∀ pre x T, Ok (pre ++ [x]) → Has (X pre) T → YCall P w0 l (enc x) T fun d T' => d = .v (.bool true) ∧ Has (X (pre ++ [x])) T' ∧ Kp (X pre) T T'
/-- .. where it is known. -/
def YK (P : Program) (w0 : W0) {α : Type} (l : Nat) (X : List α → St) (enc : α → List DV) (V : List α) : Prop :=
  ∀ pre x T, (pre ++ [x]) <+: V → Has (X pre) T → YCall P w0 l (enc x) T fun d T' => d = .v (.bool true) ∧ Has (X (pre ++ [x])) T' ∧ Kp (X pre) T T'
/-- A range over a function that isn't left ahead of its end. -/
theorem awp_rangeFuncO {α : Type} (X : List α → St) (enc : α → List DV) (Ok Fin : List α → Prop) {fo : Operand} {ps : Array Tmp} {assign body : Code} {fr : List DV} {S : St} {Q : Exit → List DV → St → Prop} {gf : FuncId} {cap : Array Value}
    (hf : ev fr fo = .v (.func (.func gf) #[] cap)) (hok : okF P gf = true) (hcap : cap.toList.all (fun u => u.oneCell') = true) (hrf : (noRF assign && noRF body) = true)
    (h0 : X [] = S) (hdb : ∀ pre, (X pre).box.map (·.1) = (X []).box.map (·.1)) (hda : ∀ pre, (X pre).acc.map (·.1) = (X []).acc.map (·.1)) (hps : ∀ x, (enc x).length = ps.size)
    (hbody : ∀ pre x T, Ok (pre ++ [x]) → Has (X pre) T → AWp P w0 assign (setPs ps.toList (enc x) fr) T (thenQ (fun fr1 T1 => AWp P w0 body fr1 T1 (thenQ (fun _ T' => Has (X (pre ++ [x])) T' ∧ Kp (X pre) T T') fun _ _ _ => False)) fun _ _ _ => False))
    (hit : ∀ (l : Nat) (w1 : W0), YKo P w1 l X enc Ok → ∀ T, Has (X []) T → ACall P w1 gf (.v (.func (.yield l) #[] #[]) :: cap.toList.map .v) T fun _ T' => ∃ V, Fin V ∧ Has (X V) T')
    (hdone : ∀ V, Fin V → Q .normal fr (X V)) : AWp P w0 (.rangeFunc fo ps assign body) fr S Q := by
  intro g a w h1 h2 h3 ro hro
  have hro : ro = none := hro.resolve_right (by simp [noRF])
  subst hro
  simp only [Bool.and_eq_true] at hrf
  subst h0
  refine wpIn_rangeFunc ?_
  intro fn hfn
  have hfo := rep_ev h2 fo
  rw [hf] at hfo
  have hg : a.eval fo = .func (.func gf) #[] cap := rep_v hfo
  obtain ⟨rec, hrec⟩ : ∃ rec : LoopState → Option Code → Loop, rec = fun st pe => { state := st, pending := pe, fn, tmps := a.tmps, params := ps, assign, body, defers := w.heap.size } := ⟨_, rfl⟩
  obtain ⟨W1, hW1⟩ : ∃ W1, (w.alloc (.deferred (some []))).alloc (.loop (rec .ready none)) = W1 := ⟨_, rfl⟩
  have hL1 : W1.heap[w.heap.size + 1]? = some (.loop (rec .ready none)) := by
    rw [← hW1]; have := World.alloc_heap_new (w.alloc (.deferred (some []))) (.loop (rec .ready none)); rwa [World.size_alloc] at this
  have hK1 : W1.heap[w.heap.size]? = some (.deferred (some [])) := by
    rw [← hW1]; exact (Below.heap_alloc _ _ _ (by simp)).trans (World.alloc_heap_new w _)
  have hb1 : Bel w.heap.size w W1 := by
    rw [← hW1]; exact ((Bel.refl _ w).alloc (Nat.le_refl _) _).alloc (by simp) _
  have hob : ∀ k o, g.obj k = some o → k < w.heap.size := fun k o hk => (Array.getElem?_eq_some_iff.1 (h1.below.obj k o hk).1).1
  have hgl : ∀ k, w.heap.size ≤ k → g.obj k = none := fun k hk => by
    cases hx : g.obj k with
    | none => rfl
    | some o => have := hob k o hx; omega
  have hwl : ∀ k, w.heap.size ≤ k → w0.gh.obj k = none := fun k hk => by
    cases hx : w0.gh.obj k with
    | none => rfl
    | some o => have := hob k o (h1.below.req.obj k o hx); omega
  have hsz := h1.below.size
  -- the walk of the iterator knows the record
  let w1 : W0 := ⟨w0.w, { g with obj := fun k => if k = w.heap.size + 1 then some (.loop (rec .ready none)) else w0.gh.obj k }⟩
  have R1 : Rel w1 (g.withObj (ncs W1)) (X []) W1 := by
    refine (h1.grow hb1).withObj rfl (fun _ _ h => ncs_spec h) ⟨fun _ _ _ h => h, fun _ _ _ h => h, fun k o hk => ?_⟩
    simp only [w1] at hk
    split at hk
    · rename_i e; subst e; cases hk; exact ncs_mk hL1 rfl
    · have := (h1.grow hb1).below.obj k o (h1.below.req.obj k o hk)
      exact ncs_mk this.1 this.2
  have nb : ∀ pre, ((X pre).box.map (·.1)).Nodup := fun pre => by rw [hdb]; exact h1.nb
  have na : ∀ pre, ((X pre).acc.map (·.1)).Nodup := fun pre => by rw [hda]; exact h1.na
  have h2k : RepL (g.withObj (ncs W1)) fr a.tmps.toList := h2.withObj
  have hcapR : ∀ g : Gh, RepL g (cap.toList.map .v) cap.toList := fun g => ⟨by simp, fun i d u a1 a2 => by
    simp only [List.getElem?_map, Option.map_eq_some_iff] at a1
    obtain ⟨u', a1, rfl⟩ := a1
    rw [a2] at a1; cases a1
    exact .v _ (List.all_eq_true.1 hcap _ (List.mem_of_getElem? a2))⟩
  have hYK : YKo P w1 (w.heap.size + 1) X enc Ok := by
    intro pre x T hV hT g3 vs w3 r3 hvs
    have hl3g : g3.obj (w.heap.size + 1) = some (.loop (rec .ready none)) := r3.below.req.obj _ _ (by simp [w1])
    have hl3 := (r3.below.obj _ _ hl3g).1
    have hy := run_yield (P := P) (args := vs) hl3 (by rw [hrec]; have := hvs.len; simp at this; rw [← this]; exact hps x)
    rw [hrec] at hy
    dsimp only at hy
    refine ⟨_, _, _, _, hy, fun ro => roundIn_of_wpIn (F := fz ro) (n := 0) trivial ?_⟩
    have hsub0 : w0.gh.sub g3 := ⟨fun _ _ _ h => r3.below.req.imm _ _ _ (h1.below.req.imm _ _ _ h), fun _ _ _ h => r3.below.req.acc _ _ _ (h1.below.req.acc _ _ _ h), fun k o hk => r3.below.req.obj k o (by
        simp only [w1]
        split
        · rename_i e; subst e; rw [hwl _ (by omega)] at hk; cases hk
        · exact hk)⟩
    have R3 : Rel w0 g3 T w3 := r3.withObj (w0' := w0) (ob := g3.obj) rfl r3.below.obj hsub0
    have hfr0 : RepL g3 fr a.tmps.toList := ⟨h2.len, fun i d u a1 a2 => Rep.of (g := g) (fun b i u hu => r3.below.req.imm b i u hu) (fun l n u hu => r3.below.req.acc l n u hu) (h2.at_ i d u a1 a2)⟩
    have hfr : RepL g3 (setPs ps.toList (enc x) fr) (((ps.zip vs).foldl (fun t (p, v) => t.setIfInBounds p v) a.tmps).toList) := by
      have := repL_setPs (g := g3) ps.toList (enc x) vs.toList (fr := fr) (us := a.tmps) hfr0 hvs
      rw [← Array.toList_zip, Array.foldl_toList] at this
      exact this
    refine wpIn_mono (hbody pre x T hV hT g3 { tmps := _, defers := [] } w3 R3 hfr (.nil rfl) (some (w.heap.size + 1)) (.inr hrf.1)) ?_
    rintro e a4 w4 ⟨hd4, g4, fr4, T4, k1, k2, k3, k4⟩
    cases e with
    | normal =>
      have hl4g : g4.obj (w.heap.size + 1) = some (.loop (rec .ready none)) := by rw [k1.obj]; exact hl3g
      have hl4 := (k2.below.obj _ _ hl4g).1
      refine ⟨_, run_beginRound hl4 (by rw [hrec]), ?_⟩
      have hlt4 : w.heap.size + 1 < w4.heap.size := (Array.getElem?_eq_some_iff.1 hl4).1
      have hbz : ({ rec .ready none with state := .busy } : Loop) = rec .busy none := by rw [hrec]
      rw [hbz]
      have hwl0 := hwl (w.heap.size + 1) (by omega)
      have hne0 : ∀ k o, w0.gh.obj k = some o → k ≠ w.heap.size + 1 := by rintro k o hk rfl; rw [hwl0] at hk; cases hk
      have R4x : Rel w0 (g4.withObj fun k => if k = w.heap.size + 1 then none else g4.obj k) T4 w4 := k2.withObj rfl (fun k o hk => by
        split at hk
        · cases hk
        · exact k2.below.obj k o hk) ⟨k2.below.req.imm, k2.below.req.acc, fun k o hk => by
          show (if k = w.heap.size + 1 then none else g4.obj k) = some o
          rw [if_neg (hne0 k o hk)]; exact k2.below.req.obj k o hk⟩
      have hh5 : ∀ k, k ≠ w.heap.size + 1 → (w4.putObj (w.heap.size + 1) (.loop (rec .busy none))).heap[k]? = w4.heap[k]? := fun k hk => World.putObj_heap_other hk
      have R4y := R4x.putObj (o' := .loop (rec .busy none)) hl4 rfl (by show (if _ then none else _) = none; rw [if_pos rfl]) (by omega)
      have R5 : Rel w0 ((g4.withObj fun k => if k = w.heap.size + 1 then none else g4.obj k).withObj fun k => if k = w.heap.size + 1 then some (.loop (rec .busy none)) else g4.obj k) T4 (w4.putObj (w.heap.size + 1) (.loop (rec .busy none))) := R4y.withObj rfl (fun k o hk => by
        split at hk
        · rename_i e; subst e; cases hk; exact ⟨World.putObj_heap_same hlt4, rfl⟩
        · rename_i e; rw [hh5 k e]; exact k2.below.obj k o hk) ⟨k2.below.req.imm, k2.below.req.acc, fun k o hk => by
          show (if k = w.heap.size + 1 then some (.loop (rec .busy none)) else g4.obj k) = some o
          rw [if_neg (hne0 k o hk)]; exact k2.below.req.obj k o hk⟩
      have hD5 : Dk w0 (fun k => if k = w.heap.size + 1 then some (.loop (rec .busy none)) else g4.obj k) a4 (w4.putObj (w.heap.size + 1) (.loop (rec .busy none))) := by
        refine ⟨hd4.1, fun d hd => ?_⟩
        obtain ⟨D, e1, e2, e3, e4⟩ := hd4.2 d hd
        have hne : D ≠ w.heap.size + 1 := by rintro rfl; rw [hl4] at e2; cases e2
        exact ⟨D, e1, (hh5 D hne).trans e2, by show (if D = w.heap.size + 1 then _ else g4.obj D) = none; rw [if_neg hne, k1.obj]; exact e3, e4⟩
      refine wpIn_mono (k4 _ a4 _ R5 k3.withObj.withObj hD5 (some (w.heap.size + 1)) (.inr hrf.2)) ?_
      rintro e a6 w6 ⟨_, g6, fr6, T6, q1, q2, q3, q4⟩
      cases e with
      | normal =>
        have hg6 : g6.obj = fun k => if k = w.heap.size + 1 then some (.loop (rec .busy none)) else g4.obj k := q1.obj
        have hl6 := (q2.below.obj (w.heap.size + 1) (.loop (rec .busy none)) (by rw [hg6]; simp)).1
        have hlt6 : w.heap.size + 1 < w6.heap.size := (Array.getElem?_eq_some_iff.1 hl6).1
        have hbr : ({ rec .busy none with state := if (none : Option Code).isNone then .ready else .done, pending := none } : Loop) = rec .ready none := by rw [hrec]; rfl
        have he := run_endRound (P := P) none hl6
        rw [hbr] at he
        have he : (Instr.endRound (w.heap.size + 1) none).run P w6 = .ok (.bool true) (w6.putObj (w.heap.size + 1) (.loop (rec .ready none))) := he
        have h34 : ∀ k, k ≠ w.heap.size + 1 → g6.obj k = g3.obj k := fun k hk => by rw [hg6]; simp only [if_neg hk]; rw [k1.obj]
        have R6x : Rel w0 (g6.withObj fun k => if k = w.heap.size + 1 then none else g3.obj k) T6 w6 := q2.withObj rfl (fun k o hk => by
          split at hk
          · cases hk
          · rename_i e; exact q2.below.obj k o (by rw [h34 k e]; exact hk)) ⟨q2.below.req.imm, q2.below.req.acc, fun k o hk => by
            show (if k = w.heap.size + 1 then none else g3.obj k) = some o
            rw [if_neg (hne0 k o hk)]; exact hsub0.obj k o hk⟩
        have hh7 : ∀ k, k ≠ w.heap.size + 1 → (w6.putObj (w.heap.size + 1) (.loop (rec .ready none))).heap[k]? = w6.heap[k]? := fun k hk => World.putObj_heap_other hk
        have R6y := R6x.putObj (o' := .loop (rec .ready none)) hl6 rfl (by show (if _ then none else _) = none; rw [if_pos rfl]) (by omega)
        have R7 : Rel w1 ((g6.withObj fun k => if k = w.heap.size + 1 then none else g3.obj k).withObj g3.obj) T6 (w6.putObj (w.heap.size + 1) (.loop (rec .ready none))) := R6y.withObj rfl (fun k o hk => by
          by_cases e : k = w.heap.size + 1
          · subst e; rw [hl3g] at hk; cases hk; exact ⟨World.putObj_heap_same hlt6, rfl⟩
          · rw [hh7 k e]; exact q2.below.obj k o (by rw [h34 k e]; exact hk)) ⟨fun b i u hu => q1.imm _ _ _ (k1.imm _ _ _ (r3.below.req.imm _ _ _ hu)), fun l n u hu => q1.acc _ _ _ (k1.acc _ _ _ (r3.below.req.acc _ _ _ hu)), r3.below.req.obj⟩
        exact ⟨.bool true, _, he, .bool true, (g6.withObj fun k => if k = w.heap.size + 1 then none else g3.obj k).withObj g3.obj, .v (.bool true), T6, rfl, ⟨fun b i u hu => q1.imm _ _ _ (k1.imm _ _ _ hu), fun l n u hu => q1.acc _ _ _ (k1.acc _ _ _ hu), rfl⟩, R7, .v _ rfl, rfl, q4.1, q4.2⟩
      | exit n => exact q4.elim
      | goto n => exact q4.elim
      | ret => exact q4.elim
      | panic ch => exact q4.elim
      | outgrown => exact q4.elim
    | exit n => exact k4.elim
    | goto n => exact k4.elim
    | ret => exact k4.elim
    | panic ch => exact k4.elim
    | outgrown => exact k4.elim
  refine ⟨w.heap.size + 1, [{ target := .collected w.heap.size, args := #[] }], W1, { target := .fn (.func gf) cap, args := #[.func (.yield (w.heap.size + 1)) #[] #[]] }, W1, gf, #[.func (.yield (w.heap.size + 1)) #[] #[]] ++ cap, W1, ?_, ?_, fun _ _ => trivial, ?_, fun h => by simp [fz, Fence.wide] at h, ?_⟩
  · rw [← hW1, hrec]; exact run_enterLoop_outer _ _ _ _ _
  · simp only [resolve, hg]
    simp [go_sem]
  · unfold okF at hok
    split at hok
    · rename_i fn' hfn'
      simp only [Bool.and_eq_true, Bool.not_eq_true'] at hok
      obtain ⟨hb, hname⟩ := hok
      have hbn : ¬ fn'.body = none := by intro e; simp [e] at hb
      have hname' : ¬ fn'.name = "runtime.NumGoroutine" := by simpa using hname
      simp [invoke, callFunc, hfn', hname', hbn]
    · cases hok
  · refine callsIn_fz.2 ((hit _ w1 hYK (X []) (.refl _) (g.withObj (ncs W1)) _ W1 R1 ?_).mono ?_)
    · have : RepL (g.withObj (ncs W1)) ([.v (.func (.yield (w.heap.size + 1)) #[] #[])] ++ cap.toList.map .v) ([.func (.yield (w.heap.size + 1)) #[] #[]] ++ cap.toList) := (RepL.cons (.v _ rfl) (RepL.nil _)).append (hcapR _)
      simpa using this
    · rintro e w2 ⟨r, g2, d, S2, rfl, k1, k2, k3, V, kV, k4⟩
      have hg2 : g2.obj = ncs W1 := k1.obj
      have hkeep : ∀ (k : Nat) (o : Obj), W1.heap[k]? = some o → nc o = true → w2.heap[k]? = some o := fun k o h1 h2 => (k2.below.obj k o (by rw [hg2]; exact ncs_mk h1 h2)).1
      have hl2 := hkeep _ _ hL1 rfl
      have hK2 := hkeep _ _ hK1 rfl
      have hpend : (rec .ready none).pending = none := by rw [hrec]
      obtain ⟨o', hend⟩ : ∃ o', (Instr.endLoop (w.heap.size + 1)).run P w2 = .ok none (w2.putObj (w.heap.size + 1) o') := ⟨_, by
        have := run_endLoop (P := P) hl2 (by rw [hrec]; simp)
        rw [hpend] at this
        exact this⟩
      refine ⟨none, _, hend, ?_⟩
      have hoth : ∀ k, k ≠ w.heap.size + 1 → (w2.putObj (w.heap.size + 1) o').heap[k]? = w2.heap[k]? := fun k hk => World.putObj_heap_other hk
      have RV : Rel w1 g2 (X V) w2 := k2.has k4 (nb _) (na _)
      have Rb : Rel w0 (g2.withObj g.obj) (X V) w2 := RV.withObj rfl (fun k o hk => by
        obtain ⟨p1, p2⟩ := h1.below.obj k o hk
        exact ⟨hkeep k o ((hb1.block k (Array.getElem?_eq_some_iff.1 p1).1).trans p1) p2, p2⟩) ⟨fun b i u hu => k1.imm _ _ _ (h1.below.req.imm _ _ _ hu), fun l n u hu => k1.acc _ _ _ (h1.below.req.acc _ _ _ hu), h1.below.req.obj⟩
      refine ⟨?_, g2.withObj g.obj, fr, X V, ⟨k1.imm, k1.acc, rfl⟩, Rb.putObj hl2 rfl (hgl _ (by omega)) (by omega), ?_, hdone V kV⟩
      · refine ⟨?_, ?_⟩
        · show ({ target := .collected w.heap.size, args := #[] } :: a.defers : List Deferred).Nodup
          rw [List.nodup_cons]
          refine ⟨fun hm => ?_, h3.1⟩
          obtain ⟨D, e1, e2, _⟩ := h3.2 _ hm
          have : w.heap.size = D := by injection e1 with e1 _; injection e1
          subst this
          have := (Array.getElem?_eq_some_iff.1 e2).1
          omega
        · intro d hd
          rcases List.mem_cons.1 hd with rfl | hd
          · exact ⟨_, rfl, (hoth _ (by omega)).trans hK2, hgl _ (Nat.le_refl _), by omega⟩
          · obtain ⟨D, e1, e2, e3, e4⟩ := h3.2 d hd
            have hlt := (Array.getElem?_eq_some_iff.1 e2).1
            exact ⟨D, e1, (hoth D (by omega)).trans (hkeep D _ ((hb1.block D hlt).trans e2) rfl), e3, e4⟩
      · have : RepL g2 fr a.tmps.toList := h2k.mono k1
        exact this.withObj
theorem awp_rangeFunc {α : Type} (X : List α → St) (enc : α → List DV) (V : List α) {fo : Operand} {ps : Array Tmp} {assign body : Code} {fr : List DV} {S : St} {Q : Exit → List DV → St → Prop} {gf : FuncId} {cap : Array Value}
    (hf : ev fr fo = .v (.func (.func gf) #[] cap)) (hok : okF P gf = true) (hcap : cap.toList.all (fun u => u.oneCell') = true) (hrf : (noRF assign && noRF body) = true)
    (h0 : X [] = S) (hdb : ∀ pre, (X pre).box.map (·.1) = (X []).box.map (·.1)) (hda : ∀ pre, (X pre).acc.map (·.1) = (X []).acc.map (·.1)) (hps : ∀ x, (enc x).length = ps.size)
    (hbody : ∀ pre x T, (pre ++ [x]) <+: V → Has (X pre) T → AWp P w0 assign (setPs ps.toList (enc x) fr) T (thenQ (fun fr1 T1 => AWp P w0 body fr1 T1 (thenQ (fun _ T' => Has (X (pre ++ [x])) T' ∧ Kp (X pre) T T') fun _ _ _ => False)) fun _ _ _ => False))
    (hit : ∀ (l : Nat) (w1 : W0), YK P w1 l X enc V → ∀ T, Has (X []) T → ACall P w1 gf (.v (.func (.yield l) #[] #[]) :: cap.toList.map .v) T fun _ T' => Has (X V) T')
    (hdone : Q .normal fr (X V)) : AWp P w0 (.rangeFunc fo ps assign body) fr S Q :=
  awp_rangeFuncO X enc (· <+: V) (· = V) hf hok hcap hrf h0 hdb hda hps hbody (fun l w1 hy T hT => (hit l w1 hy T hT).mono fun _ _ h => ⟨V, rfl, h⟩) fun V' e => e ▸ hdone
/-- The same, in whatever order, walked. -/
theorem rangeO {α : Type} (ss : List Nat := []) (X : List α → St) (enc : α → List DV) (Ok Fin : List α → Prop) {fo : Operand} {ps : Array Tmp} {assign body : Code} {fr : List DV} {S : St} {Q : Exit → List DV → St → Prop} {gf : FuncId} {cap : Array Value}
    (hm : P.follows .mixedOrders = true) (hc : (okC ss assign && okC ss body && noRF assign && noRF body && okF P gf) = true) (hf : ev fr fo = .v (.func (.func gf) #[] cap)) (hcap : cap.toList.all (fun u => u.oneCell') = true)
    (h0 : X [] = S) (hdb : ∀ pre, (X pre).box.map (·.1) = (X []).box.map (·.1)) (hda : ∀ pre, (X pre).acc.map (·.1) = (X []).acc.map (·.1)) (hps : ∀ x, (enc x).length = ps.size)
    (hit : ∀ (l : Nat) (w1 : W0), YKo P w1 l X enc Ok → ∀ T, Has (X []) T → ACall P w1 gf (.v (.func (.yield l) #[] #[]) :: cap.toList.map .v) T fun _ T' => ∃ V, Fin V ∧ Has (X V) T')
    (hbody : ∀ pre x T, Ok (pre ++ [x]) → Has (X pre) T → vw P w0 ss assign (setPs ps.toList (enc x) fr) T (thenQ (fun fr1 T1 => vw P w0 ss body fr1 T1 (thenQ (fun _ T' => Has (X (pre ++ [x])) T' ∧ Kp (X pre) T T') fun _ _ _ => False)) fun _ _ _ => False))
    (hdone : ∀ V, Fin V → Q .normal fr (X V)) : AWp P w0 (.rangeFunc fo ps assign body) fr S Q := by
  simp only [Bool.and_eq_true] at hc
  obtain ⟨⟨⟨⟨c1, c2⟩, c3⟩, c4⟩, c5⟩ := hc
  refine awp_rangeFuncO X enc Ok Fin hf c5 hcap (by rw [c3, c4]; rfl) h0 hdb hda hps (fun pre x T hV hT => ?_) hit hdone
  refine (vw_sound hm assign c1 (hbody pre x T hV hT)).mono ?_
  intro e fr' S' h
  cases e <;> first | exact vw_sound hm body c2 h | exact h
/-- The same, walked. -/
theorem rangeK {α : Type} (ss : List Nat := []) (X : List α → St) (enc : α → List DV) (V : List α) {fo : Operand} {ps : Array Tmp} {assign body : Code} {fr : List DV} {S : St} {Q : Exit → List DV → St → Prop} {gf : FuncId} {cap : Array Value}
    (hm : P.follows .mixedOrders = true) (hc : (okC ss assign && okC ss body && noRF assign && noRF body && okF P gf) = true) (hf : ev fr fo = .v (.func (.func gf) #[] cap)) (hcap : cap.toList.all (fun u => u.oneCell') = true)
    (h0 : X [] = S) (hdb : ∀ pre, (X pre).box.map (·.1) = (X []).box.map (·.1)) (hda : ∀ pre, (X pre).acc.map (·.1) = (X []).acc.map (·.1)) (hps : ∀ x, (enc x).length = ps.size)
    (hit : ∀ (l : Nat) (w1 : W0), YK P w1 l X enc V → ∀ T, Has (X []) T → ACall P w1 gf (.v (.func (.yield l) #[] #[]) :: cap.toList.map .v) T fun _ T' => Has (X V) T')
    (hbody : ∀ pre x T, (pre ++ [x]) <+: V → Has (X pre) T → vw P w0 ss assign (setPs ps.toList (enc x) fr) T (thenQ (fun fr1 T1 => vw P w0 ss body fr1 T1 (thenQ (fun _ T' => Has (X (pre ++ [x])) T' ∧ Kp (X pre) T T') fun _ _ _ => False)) fun _ _ _ => False))
    (hdone : Q .normal fr (X V)) : AWp P w0 (.rangeFunc fo ps assign body) fr S Q := by
  simp only [Bool.and_eq_true] at hc
  obtain ⟨⟨⟨⟨c1, c2⟩, c3⟩, c4⟩, c5⟩ := hc
  refine awp_rangeFunc X enc V hf c5 hcap (by rw [c3, c4]; rfl) h0 hdb hda hps (fun pre x T hV hT => ?_) hit hdone
  refine (vw_sound hm assign c1 (hbody pre x T hV hT)).mono ?_
  intro e fr' S' h
  cases e <;> first | exact vw_sound hm body c2 h | exact h
theorem n_vw_rangeFunc {ss : List Nat} {fr : List DV} {S : St} {Q : Exit → List DV → St → Prop} (f : Operand) (ps : Array Tmp) (a b : Code) : vw P w0 ss (.rangeFunc f ps a b) fr S Q = @AL P w0 fr S ⟨((.rangeFunc f ps a b), Q)⟩ := rfl
theorem n_callY (l : Nat) (ds : List DV) (S : St) (K : DV → St → Prop) : vCall P w0 (.v (.func (.yield l) #[] #[])) ds S K = shrs S ds fun ds S => @YC P w0 l ds S ⟨K⟩ := by
  simp [vCall]
@[congr] theorem c_YC {l : Nat} {ds ds' : List DV} {S S' : St} [K : Cn (DV → St → Prop)] (h1 : ds = ds') (h2 : S = S') : YC P w0 l ds S = YC P w0 l ds' S' := by cases h1; cases h2; rfl
theorem useY {l : Nat} {args args' : List DV} {S : St} {K K' : DV → St → Prop} (h : YCall P w0 l args' S K') (hk : ∀ d S', K' d S' → K d S') (ha : WkL args args' := by exact WkL.refl _) : @YC P w0 l args S ⟨K⟩ := by
  intro g vs w h1 h2
  obtain ⟨fn, t, a, b, q1, q2⟩ := h g vs w h1 (ha.spec h2)
  refine ⟨fn, t, a, b, q1, fun ro => (q2 ro).mono ?_⟩
  rintro e w' ⟨r, g', d, S', rfl, x1, x2, x3, x4⟩
  exact ⟨r, g', d, S', rfl, x1, x2, x3, hk _ _ x4⟩
theorem lk_up_same {α : Type} (l : List (Nat × α)) (b : Nat) (v : α) : lk (up l b v) b = (lk l b).map fun _ => v := by
  induction l with
  | nil => rfl
  | cons p t ih => obtain ⟨k, x⟩ := p; simp only [up, lk]; split <;> simp_all [lk]
theorem lk_up_ne {α : Type} {b c : Nat} (h : ¬ b = c) (l : List (Nat × α)) (v : α) : lk (up l b v) c = lk l c := by
  induction l with
  | nil => rfl
  | cons p t ih =>
    obtain ⟨k, x⟩ := p
    simp only [up]
    split
    · rename_i e; subst e; simp [lk, h]
    · simp only [lk, ih]
theorem up_up {α : Type} (l : List (Nat × α)) (b : Nat) (v v' : α) : up (up l b v) b v' = up l b v' := by
  induction l with
  | nil => rfl
  | cons p t ih => obtain ⟨k, x⟩ := p; simp only [up]; split <;> simp_all [up]
theorem Has.consB {X T : St} (h : Has X T) (b : FN T.box) (ds : List DV) {A : List (Nat × Ob)} (hA : A = T.acc) : Has X ⟨(b.n, ds) :: T.box, A⟩ := ⟨fun c x hc => by
  have := h.box c x hc
  simp only [lk]
  rw [if_neg (fun e => by rw [← e, fn_lk b] at this; cases this)]; exact this, fun l o hl => by rw [hA]; exact h.acc l o hl⟩
/-- A box is another one's of what is said. -/
theorem Has.up {b : Nat} {x v : List DV} {R : List (Nat × List DV)} {A : List (Nat × Ob)} {T : St} (h : Has ⟨(b, x) :: R, A⟩ T) : Has ⟨(b, v) :: R, A⟩ ⟨up T.box b v, T.acc⟩ := ⟨fun c y hc => by
  have hb := h.box b x (by simp [lk])
  simp only [lk] at hc
  split at hc
  · rename_i e; subst e; cases hc; rw [lk_up_same, hb]; rfl
  · rename_i e
    rw [lk_up_ne e]
    exact h.box c y (by simp only [lk, if_neg e]; exact hc), h.acc⟩
theorem Kp.up {b : Nat} {v : List DV} {X T : St} (h : (lk X.box b).isSome = true) : Kp X T ⟨up T.box b v, T.acc⟩ := ⟨fun c x hc hx => by
  have : ¬ b = c := by rintro rfl; rw [hc] at h; cases h
  rw [lk_up_ne this]; exact hx, fun _ _ _ h => h⟩
theorem Kp.trans {X X' T1 T2 T3 : St} (h : Kp X T1 T2) (k : Kp X' T2 T3) (hb : ∀ b, lk X.box b = none → lk X'.box b = none) (ha : ∀ l, lk X.acc l = none → lk X'.acc l = none) : Kp X T1 T3 :=
  ⟨fun b x h1 h2 => k.box b x (hb b h1) (h.box b x h1 h2), fun l o h1 h2 => k.acc l o (ha l h1) (h.acc l o h1 h2)⟩
theorem Kp.consB {X T T' : St} (h : Kp X T T') (b : FN T'.box) (ds : List DV) {A : List (Nat × Ob)} (hA : A = T'.acc) : Kp X T ⟨(b.n, ds) :: T'.box, A⟩ := ⟨fun c x hc hx => by
  have := h.box c x hc hx
  simp only [lk]
  rw [if_neg (fun e => by rw [← e, fn_lk b] at this; cases this)]; exact this, fun l o h1 h2 => by rw [hA]; exact h.acc l o h1 h2⟩
theorem n_convS_i (k0 : IntKind) (b ke : TK) (S : St) (x : DV) (K : DV → Prop) : vConvS (.int k0) b ke S x K = vConv (.int k0) b x K := rfl
theorem n_convS_s (b ke : TK) (S : St) (x : DV) (K : DV → Prop) : vConvS .str b ke S x K = vConv .str b x K := rfl
theorem n_convS_b (e s b : Nat) (i : Bool) (ke : TK) (S : St) (x : DV) (K : DV → Prop) : vConvS (.sl e s b i) .str ke S x K = (ke = .int .u8 ∧ notV x = true ∧ contK S x fun s xs => s = 1 ∧ okBy xs = true ∧ K (.v (.string (strOfNums (byD xs))))) := rfl
theorem n_notV_acc (l n : Nat) : notV (.acc l n) = true := rfl
theorem n_notV_sl (s : Nat) (f : Bool) (xs : List DV) : notV (.sl s f xs) = true := rfl
theorem n_byD_rep (n : Nat) (a : Int) : byD (List.replicate n (DV.v (.int .u8 a))) = List.replicate n a := (by_rep n a).1
theorem n_okBy_rep (n : Nat) (a : Int) : okBy (List.replicate n (DV.v (.int .u8 a))) = true := (by_rep n a).2
theorem n_byD_map (l : List Int) : byD (l.map fun n => DV.v (.int .u8 n)) = l := (by_map l).1
theorem n_okBy_map (l : List Int) : okBy (l.map fun n => DV.v (.int .u8 n)) = true := (by_map l).2
theorem Wk_slE {s : Nat} {f : Bool} {xs ys : List DV} (h : WkL xs ys) : Wk (.sl s f xs) (.sl s false ys) = True := eq_true ((Wk.full s f xs).trans (Wk.sl h))
/-- A growing slice that a box holds is frozen. -/
theorem shrB (b j : Nat) {c : Code} {fr : List DV} {S : St} {Q : Exit → List DV → St → Prop} {ds : List DV} {l s : Nat} {xs : List DV} (hb : lk S.box b = some ds) (hj : ds[j]? = some (.acc l xs.length)) (hl : lk S.acc l = some (.arr s xs))
    (h : AWp P w0 c fr ⟨Aml.up S.box b (ds.set j (.sl s false xs)), Aml.up S.acc l (.tl s xs)⟩ Q) : AWp P w0 c fr S Q := by
  intro g a w h1 h2 h3
  obtain ⟨ow, o1, o2⟩ := h1.own
  obtain ⟨q1, q2, q3, us, e, q4, q5, q6⟩ := o1 _ _ (lk_mem hb)
  have hlt : j < us.toList.length := by rw [← q5.len]; exact (List.getElem?_eq_some_iff.1 hj).1
  have hr := q5.at_ j _ _ hj (List.getElem?_eq_getElem hlt)
  obtain ⟨o, c', hu⟩ : ∃ o c', us.toList[j] = .slice o xs.length c' ∧ g.acc l xs.length = some (.slice o xs.length c') := by
    generalize us.toList[j] = u at hr
    cases hr with
    | acc _ _ o c h => exact ⟨o, c, rfl, h⟩
  obtain ⟨g', hle, hR, hrep⟩ := h1.freeze hl hu.2
  have hR' := hR.wkBox (ds' := ds.set j (.sl s false xs)) (b := b) hb ?_
  · exact wpA_mono (h g' a w hR' (h2.mono hle) (hle.dk h3)) fun _ _ _ k => k.of_le hle
  · intro us' e' hh hr2
    rw [hh] at q4
    cases q4
    exact repL_same hr2 (List.getElem?_eq_getElem hlt) (by rw [hu.1]; exact hrep)
end
attribute [go_sem ↓] n_convS_i n_convS_s n_convS_b n_vw_rangeFunc
attribute [go_sem] n_notV_acc n_notV_sl n_byD_rep n_okBy_rep n_byD_map n_okBy_map Wk_slE n_callY lk_up_same lk_up_ne up_up Option.map_some
end Aml

namespace Aml
open Go Go.RowKit
set_option linter.unusedVariables false
set_option linter.unusedSimpArgs false

/-- A row, as one that grows. -/
def arrK (d : DV) (S : St) (K : DV → St → Prop) : Prop := match d with
  | .sl s true xs => ∀ l, nin S.acc l → K (.acc l xs.length) ⟨S.box, (l, .arr s xs) :: S.acc⟩
  | _ => False
section
variable {P : Program} {w0 : W0}
theorem buildSlice_arr {g : Gh} {S : St} {w : World} (h1 : Rel w0 g S w) {t len : Nat} {parts : List (Nat × DV)} {vs : List (Nat × Value)} (hx : parts.map (·.1) = vs.map (·.1)) (hR : RepL g (parts.map (·.2)) (vs.map (·.2))) {K : DV → St → Prop}
    {e : Nat} (hte : ∀ e' s b i, tk P t = .sl e' s b i → e' = e) (h : vBuildSlice (tk P t) (zD P e) len parts fun d => arrK d S K) :
    ∃ d u w' g' S', (Instr.buildSlice t len vs.toArray).run P w = .ok u w' ∧ g.le g' ∧ Rel w0 g' S' w' ∧ Rep g' d u ∧ K d S' := by
  unfold vBuildSlice at h
  split at h
  · rename_i e' s by' hk
    obtain rfl := hte _ _ _ _ hk
    obtain ⟨hok, hzl, hbig, h⟩ := h
    obtain ⟨hu, hs, _, hei⟩ := tk_sl hk
    obtain ⟨ti, z, hi, hz, hzs, hpos⟩ := okEl_spec hei
    have hsz : ti.size = s := by simpa [Program.cellsOf, hi] using hs
    have hzD : zD P e' = cv z := by simp [zD, hi, hz]
    have hrz : Rep g (zD P e') z := hzD ▸ rep_cv g z
    split at h
    · rename_i xs hf
      have hpw := pw_made (z := z) (s := s) (n := len) (by omega) (by omega)
      obtain ⟨cs', us', q1, q2, q3, q4, q5⟩ := fillE_ok (g := g) (s := s) parts vs (List.replicate len (zD P e')) (List.replicate len z) ((Array.range (len * s)).map (z.cells[· % z.cells.size]!)) xs hx hR
        ⟨by simp, fun i d u a b => by
          rw [List.getElem?_replicate] at a b
          split at a
          · rename_i hlt; rw [if_pos hlt] at b; simp only [Option.some.injEq] at a b; subst a; subst b; exact hrz
          · cases a⟩ hpw (fun u hu x hx => by rw [List.eq_of_mem_replicate hu] at hx; exact hrz.one hok x hx) hf
      have hlen : xs.length = len := by simpa using q5
      have hlu : us'.length = len := by rw [← q2.len]; exact hlen
      have hrun : (Instr.buildSlice t len vs.toArray).run P w = .ok (.slice (some ⟨w.heap.size, 0, none⟩) len len) (w.alloc (.cells cs' e')) := by
        have hb : ¬ (len * s > 2 ^ 24) := by omega
        simp only [Instr.buildSlice]
        by_cases hls : len * s = 0
        · have hl0 : len = 0 := by rcases Nat.mul_eq_zero.1 hls with h' | h' <;> omega
          have hcs : ((Array.range (len * s)).map (z.cells[· % z.cells.size]!)) = #[] := by simp [hls]
          rw [hcs] at q1
          have hr0 : ∀ f : Nat → Value, (Array.range 0).map f = #[] := fun f => by simp
          simp only [run_underlying hu, Go.sizeOf, typeInfo, hi, hsz, hls, newRow, Sem.run_bind, Sem.run_pure, Result.andThen_ok, run_program, hr0, if_true]
          rw [q1]
          simp [hl0]
        · simp [run_underlying hu, Go.sizeOf, typeInfo, hi, hsz, hls, hb, zeroValue, hz, q1, newRow]
      have hlm : len ≤ maxLen := by
        have : len * 1 ≤ len * s := Nat.mul_le_mul_left len (by omega)
        unfold maxLen; omega
      have hcsz : cs'.size = len * s := by
        have := q3.size
        rw [hlu] at this
        simpa using this
      obtain ⟨l, g', hle, hne, hRel, hA⟩ := h1.newArr (s := s) (xs := xs) (us := us') (c := len) (below_alloc w (.cells cs' e')) (by omega) (Nat.le_refl _) (heap_alloc_new w _) hcsz (by omega) hlm q2 q3.each q4 (fun i u j x a b => by have := q3.at_ i u j x a b; simpa using this) (one_of_rows (by omega) (by rw [Array.length_toList, hcsz, hlu]) q3.each q4 (fun i u j x a b => by have := q3.at_ i u j x a b; simpa using this))
      rw [hlen] at hA
      have h' := h l (nin_of hne)
      rw [hlen] at h'
      exact ⟨_, _, _, _, _, hrun, hle, hRel, hA, h'⟩
    · exact h.elim
  · exact h.elim
theorem y_buildArr {o : Oper} {t len : Nat} {parts : List (Nat × Operand)} (ho : o.op = .buildSlice t len parts.toArray) {ρD : Operand → DV} {S : St} {K : DV → St → Prop}
    (h : shrs S (parts.map fun p => ρD p.2) fun ds S => vBuildSlice (tk P t) (zD P (elT P t)) len ((parts.map (·.1)).zip ds) fun d => arrK d S K) : YieldsE P w0 o ρD S K := by
  intro g w ρ h1 h2 hcst
  have hR := repL_of_ops (g := g) (ρD := ρD) (ρ := ρ) parts (fun p hp => h2 p.2 (by simp only [ho, Op.operands]; simp; exact ⟨p.1, hp⟩))
  obtain ⟨g', ds, S', l1, R1, r1, k1⟩ := shrs_ok _ h1 hR h
  have hlen : (parts.map (·.1)).length = ds.length := by have := r1.len; simpa using this.symm
  obtain ⟨d, u, w', g2, S2, e1, l2, R2, e2, e3⟩ := buildSlice_arr (P := P) R1 (t := t) (len := len) (parts := (parts.map (·.1)).zip ds) (vs := parts.map fun p => (p.1, ρ p.2)) (by rw [zip_fst hlen]; simp) (by rw [zip_snd hlen]; simpa [Function.comp_def] using r1)
    (e := elT P t) (fun e' s b i hk => by simp [elT, hk]) k1
  have hrun : (execOp ρ o).run P w = .ok (.value u) w' := by
    have e : (parts.toArray.map fun (i, x) => (i, ρ x)) = (parts.map fun p => (p.1, ρ p.2)).toArray := by simp
    simp only [execOp, ho, Sem.run_bind]
    rw [e, e1]
    rfl
  rw [hrun]
  exact ⟨g2, d, S2, l1.trans l2, R2, e2, e3⟩
def opA (P : Program) (w0 : W0) (op : Op) (fr : List DV) (S : St) (K : DV → St → Prop) : Prop := match op with
  | .buildSlice t len parts => shrs S (parts.toList.map fun p => ev fr p.2) fun ds S => vBuildSlice (tk P t) (zD P (elT P t)) len ((parts.toList.map (·.1)).zip ds) fun d => arrK d S K
  | op => vcOp P w0 op fr S K
def vcLA (P : Program) (w0 : W0) (ops : Array Oper) (K : List DV → St → Prop) : List Oper → List DV → St → Prop
  | [], fr, S => K fr S
  | o :: rest, fr, S => guardK ops fr o.guard (fun fr => opA P w0 o.op fr S fun d S' => vcLA P w0 ops K rest (pt fr o.dst d) S') (fun fr => vcLA P w0 ops K rest (pt fr o.dst ud) S)
theorem opA_sound {o : Oper} {fr : List DV} {S : St} {K : DV → St → Prop} (hs : okSl o.op = true) (h : opA P w0 o.op fr S K) : YieldsE P w0 o (ev fr) S K := by
  cases hop : o.op with
  | buildSlice t len parts => rw [hop] at h; exact y_buildArr (parts := parts.toList) (by simpa using hop) h
  | _ => rw [hop] at h; exact vcOp_sound hs (by rw [hop]; exact h)
theorem vcLA_sound {ops : Array Oper} {K : List DV → St → Prop} : ∀ (l : List Oper) {fr : List DV} {S : St}, l.all (fun o => okSl o.op) = true → vcLA P w0 ops K l fr S → LWp P w0 ops K l fr S
  | [], fr, S, _, h => h
  | o :: rest, fr, S, hs, h => by
    simp only [List.all_cons, Bool.and_eq_true] at hs
    refine guardK_mono (fun fr h => ?_) (fun fr h => vcLA_sound rest hs.2 h) h
    exact yields_mono (fun d S h => vcLA_sound rest hs.2 h) (opA_sound hs.1 h)
/-- A region in which what is built may grow. -/
theorem arrR {id : Nat} {l : List Oper} {fr : List DV} {S : St} {Q : Exit → List DV → St → Prop} (hs : l.all (fun o => okSl o.op) = true) (h : vcLA P w0 l.toArray (fun fr S => normF fr fun fr => Q .normal fr S) l fr S) : AWp P w0 (.region id l.toArray false) fr S Q :=
  awp_region (vcLA_sound l hs h)
section
variable {ops : Array Oper} {fr : List DV} {S : St} {rest : List Oper} {dst : Option Tmp} {op : Op} {ty : TypeId} {pos : String} {aft : Array Edge} {K : List DV → St → Prop} {K2 : DV → St → Prop}
theorem a_nil : vcLA P w0 ops K [] fr S = K fr S := rfl
theorem a_none : vcLA P w0 ops K (⟨dst, op, ty, pos, aft, none⟩ :: rest) fr S = opA P w0 op fr S fun d S' => vcLA P w0 ops K rest (pt fr dst d) S' := rfl
theorem a_load (t : TypeId) (x : Operand) : opA P w0 (.load t x) fr S K2 = vcOp P w0 (.load t x) fr S K2 := rfl
theorem a_move (x : Operand) : opA P w0 (.move x) fr S K2 = vcOp P w0 (.move x) fr S K2 := rfl
theorem a_assign (x : Operand) : opA P w0 (.assign x) fr S K2 = vcOp P w0 (.assign x) fr S K2 := rfl
theorem a_buildSlice (t : TypeId) (len : Nat) (parts : List (Nat × Operand)) : opA P w0 (.buildSlice t len parts.toArray) fr S K2 = (shrs S (parts.map fun p => ev fr p.2) fun ds S => vBuildSlice (tk P t) (zD P (elT P t)) len ((parts.map (·.1)).zip ds) fun d => arrK d S K2) := rfl
theorem a_arrK (s : Nat) (xs : List DV) : arrK (.sl s true xs) S K2 = ∀ l : FN S.acc, K2 (.acc l.n xs.length) ⟨S.box, (l.n, .arr s xs) :: S.acc⟩ := n_fresh S.acc fun l => K2 (.acc l xs.length) ⟨S.box, (l, .arr s xs) :: S.acc⟩
@[congr] theorem c_opA {fr' : List DV} {S' : St} (h1 : fr = fr') (h2 : S = S') : opA P w0 op fr S K2 = opA P w0 op fr' S' K2 := by cases h1; cases h2; rfl
@[congr] theorem c_vcLA {l : List Oper} {fr' : List DV} {S' : St} (h1 : fr = fr') (h2 : S = S') : vcLA P w0 ops K l fr S = vcLA P w0 ops K l fr' S' := by cases h1; cases h2; rfl
@[congr] theorem c_arrK {d d' : DV} {S' : St} (h1 : d = d') (h2 : S = S') : arrK d S K2 = arrK d' S' K2 := by cases h1; cases h2; rfl
end
end
attribute [go_sem ↓] a_nil a_none a_load a_move a_assign a_buildSlice a_arrK
end Aml

namespace Aml
open Go Go.RowKit
set_option linter.unusedVariables false
set_option linter.unusedSimpArgs false
section
variable {P : Program} {w0 : W0}
theorem clear_ok {g : Gh} {S : St} {w : World} (h1 : Rel w0 g S w) {l : Nat} {xs : List DV} (hl : lk S.acc l = some (.arr 1 xs)) {b c : Nat} (hval : g.acc l xs.length = some (.slice (some ⟨b, 0, none⟩) xs.length c)) {k : Nat} (hk : k < xs.length)
    {t e ty : TypeId} {z : Value} (hu : P.underlying t = some (.slice e)) (hv : ∀ w, (zeroValue e).run P w = .ok z w) (hz : z.cells = #[z]) (hz1 : z.oneCell' = true) {zd : DV} (hrz : Rep g zd z) (c' : Nat) :
    ∃ w', (Builtin.clear_ #[t] ty #[.slice (some ⟨b, k, none⟩) (xs.length - k) c']).run P w = .ok (.tuple #[]) w' ∧ Rel w0 g ⟨S.box, up S.acc l (.arr 1 (xs.take k ++ List.replicate (xs.length - k) zd))⟩ w' := by
  obtain ⟨ow, hO⟩ := h1.open_
  obtain ⟨hs, ⟨he, o2, ha⟩ | ⟨b', c0, cs, e0, q1, q2, q3, q4, q5, q6, q7, q8, qA, us, q9, q10, q11, q12⟩⟩ := hO.acc l _ (lk_mem hl)
  · rw [he] at hk; simp at hk
  have hval' := hval
  rw [q1] at hval'
  simp only [Option.some.injEq, Value.slice.injEq, Addr.mk.injEq, true_and, and_true] at hval'
  obtain ⟨rfl, rfl⟩ := hval'
  have hzc : (Builtin.zeroCells z.cells (xs.length - k)).toList = List.replicate (xs.length - k) z := by
    rw [hz]
    simp [Builtin.zeroCells]
    apply List.ext_getElem
    · simp
    · intro i h1 h2
      simp [Nat.mod_one]
  obtain ⟨m, hm⟩ : ∃ m, m + 1 = xs.length - k := ⟨xs.length - k - 1, by omega⟩
  have hul : us.length = xs.length := q9.len.symm
  have hst := run_storeCells_at (P := P) b' k e0 (List.replicate (xs.length - k) z) 0 cs w q5 (by simp; omega) (fun u hu => by rw [List.eq_of_mem_replicate hu]; exact hz1)
  have hle2 : k + (List.replicate (xs.length - k) z).length ≤ cs.toList.length := by simp; omega
  refine ⟨w.setRow b' (setAllV cs.toList k (List.replicate (xs.length - k) z)).toArray, ?_, ?_⟩
  · rw [setAllV_eq _ _ _ hle2]
    simp only [Nat.add_zero] at hst
    rw [← hm] at hst hzc ⊢
    simp [Builtin.clear_, run_underlying hu, hv, hzc, hst]
  · have hxs : (xs.take k ++ List.replicate (xs.length - k) zd).length = xs.length := by simp; omega
    refine h1.rearr (ys := xs.take k ++ List.replicate (xs.length - k) zd) (us := us.take k ++ List.replicate (xs.length - k) z) (b := b') (c := c0) (e := e0) (cs := (setAllV cs.toList k (List.replicate (xs.length - k) z)).toArray) hl hval hxs (by omega) ?_ ?_ ?_ ?_ ?_ ?_ ?_ ?_ ?_ ?_
    · exact setRow_heap w b' cs _ e0 (0, 0) q5
    · rw [List.size_toArray, setAllV_eq _ _ _ hle2]
      simp only [List.length_append, List.length_take, List.length_drop, Array.length_toList]
      simp only [Array.length_toList] at hle2
      rw [← q6]; omega
    · exact h1.below.step ⟨rfl, rfl, rfl, by simp, fun k hk => setRow_other w b' k _ (by omega), Nat.le_refl _⟩ b' (nc_cells q5) fun k _ hne => setRow_other w b' k _ hne
    · simp
    · intro k _ hkb; exact setRow_other w b' k _ hkb
    · refine RepL.append ?_ ?_
      · exact ⟨by simp [hul], fun i d u a1 a2 => by
          rw [List.getElem?_take] at a1 a2
          split at a1
          · rename_i hlt; rw [if_pos hlt] at a2; exact q9.at_ i d u a1 a2
          · cases a1⟩
      · exact ⟨by simp, fun i d u a1 a2 => by
          rw [List.getElem?_replicate] at a1 a2
          split at a1
          · rename_i hlt; rw [if_pos hlt] at a2; cases a1; cases a2; exact hrz
          · cases a1⟩
    · intro j u hj
      rcases List.mem_append.1 (List.mem_of_getElem? hj) with hu | hu
      · obtain ⟨i, hi⟩ := List.mem_iff_getElem?.1 (List.mem_of_mem_take hu)
        exact q10 i u hi
      · rw [List.eq_of_mem_replicate hu, hz]; rfl
    · intro u hu x hx
      rcases List.mem_append.1 hu with hu | hu
      · exact q11 u (List.mem_of_mem_take hu) x hx
      · rw [List.eq_of_mem_replicate hu, hz] at hx
        simp only [List.mem_singleton] at hx
        subst hx; exact hz1
    · intro i u j x hi2 hj
      rw [List.getElem?_toArray, get_setAllV hle2]
      rcases Nat.lt_or_ge i k with hik | hik
      · rw [List.getElem?_append_left (by simp; omega), List.getElem?_take, if_pos hik] at hi2
        have hjs : j < 1 := by rw [← q10 i u hi2]; exact (Array.getElem?_eq_some_iff.1 hj).1
        rw [if_neg (by simp; omega)]
        simpa using q12 i u j x hi2 hj
      · have hlk : (us.take k).length = k := by simp; omega
        rw [List.getElem?_append_right (by omega), hlk, List.getElem?_replicate] at hi2
        split at hi2
        · rename_i hlt
          cases hi2
          rw [hz] at hj
          have hj0 : j = 0 := by
            have := (Array.getElem?_eq_some_iff.1 hj).1
            simp at this; omega
          subst hj0
          rw [if_pos (by simp; omega), List.getElem?_replicate, if_pos (by omega)]
          simpa using hj
        · cases hi2
    · intro x hx
      rw [List.toList_toArray, setAllV_eq _ _ _ hle2] at hx
      rcases List.mem_append.1 hx with hx | hx
      · rcases List.mem_append.1 hx with hx | hx
        · exact qA x (List.mem_of_mem_take hx)
        · rw [List.eq_of_mem_replicate hx]; exact hz1
      · exact qA x (List.mem_of_mem_drop hx)
/-- 'clear(s[k:])' of a growing slice. -/
theorem clearR {id : Nat} {i p q r j : Nat} {t t1 t2 t3 t4 : TypeId} {s1 s2 s3 s4 : String} {a1 a2 a3 a4 : Array Edge} {fr : List DV} {S : St} {Q : Exit → List DV → St → Prop} {l k : Nat} {xs : List DV} {kk : IntKind} {e by' : Nat} {zd : Value}
    (hk : tk P t = .sl e 1 by' true) (hz : zD P e = .v zd) (hi : fr[i]? = some (.acc l xs.length)) (hj : fr[j]? = some (.v (.int kk k))) (hl : lk S.acc l = some (.arr 1 xs)) (hkx : k < xs.length)
    (hs : (decide (j ≠ i) && decide (j ≠ p) && decide (q ≠ p) && decide (i ≠ p) && decide (i ≠ q) && decide (i ≠ r)) = true) (hp : p < fr.length) (hq : q < fr.length) (hr : r < fr.length)
    (h : ∀ v u, Q .normal (((((fr.set i (.v v)).set p (.v v)).set q (.v (.int kk k))).set r (.v u)).set i (.acc l xs.length)) ⟨S.box, up S.acc l (.arr 1 (xs.take k ++ List.replicate (xs.length - k) (.v zd)))⟩) :
    AWp P w0 (.region id #[⟨some p, .move (.tmp i), t1, s1, a1, none⟩, ⟨some q, .move (.tmp j), t2, s2, a2, none⟩, ⟨some r, .slice t (.tmp p) (some (.tmp q)) none none, t3, s3, a3, none⟩, ⟨none, .call ⟨.builtin .clear, #[.tmp r], #[t]⟩, t4, s4, a4, none⟩] false) fr S Q := by
  simp only [Bool.and_eq_true, decide_eq_true_eq] at hs
  obtain ⟨⟨⟨⟨⟨n1, n2⟩, n3⟩, n4⟩, n5⟩, n6⟩ := hs
  intro g a w h1 h2 h3
  have hilt : i < fr.length := (List.getElem?_eq_some_iff.1 hi).1
  have hjlt : j < fr.length := (List.getElem?_eq_some_iff.1 hj).1
  have hlen : fr.length = a.tmps.toList.length := h2.len
  have hri := h2.at_ i _ _ hi (List.getElem?_eq_getElem (by omega))
  obtain ⟨v, hv⟩ : ∃ v, v = a.tmps.toList[i]'(by omega) := ⟨_, rfl⟩
  rw [← hv] at hri
  obtain ⟨b, c, hval, hve⟩ : ∃ b c, g.acc l xs.length = some (.slice (some ⟨b, 0, none⟩) xs.length c) ∧ v = .slice (some ⟨b, 0, none⟩) xs.length c ∧ xs.length ≤ c := by
    obtain ⟨ow, hO⟩ := h1.open_
    obtain ⟨hs, ⟨he, o2, ha⟩ | ⟨b', c0, cs, e0, q1, q2, q3, q4, q5, q6, q7, q8, qA, us, q9, q10, q11, q12⟩⟩ := hO.acc l _ (lk_mem hl)
    · rw [he] at hkx; simp at hkx
    · refine ⟨b', c0, q1, ?_, q7⟩
      cases hri with
      | acc _ _ o c h => rw [q1] at h; exact (Option.some.inj h).symm
  obtain ⟨hve, hnc⟩ := hve
  let w1 : W0 := ⟨w0.w, g⟩
  have hsub : ∀ (g : Gh), g.sub g := fun g => ⟨fun _ _ _ h => h, fun _ _ _ h => h, fun _ _ h => h⟩
  have R1 : Rel w1 g S w := h1.withObj (w0' := w1) (ob := g.obj) rfl h1.below.obj (hsub g)
  have ho : v.oneCell' = true := by rw [hve]; rfl
  have h2' : RepL g (fr.set i (.v v)) a.tmps.toList := repL_same h2 (by rw [hv]; exact List.getElem?_eq_getElem (by omega)) (.v _ ho)
  obtain ⟨hu, hss, _, hei⟩ := tk_sl hk
  obtain ⟨ti, z, hii, hzz, hzs, hpos⟩ := okEl_spec hei
  have hsz : ti.size = 1 := by simpa [Program.cellsOf, hii] using hss
  have hzD : zD P e = cv z := by simp [zD, hii, hzz]
  have hzv : z = zd := by
    have hr := rep_cv g z
    rw [← hzD, hz] at hr
    exact rep_v hr
  have hz1 : zd.oneCell' = true ∧ zd.cells = #[zd] := by
    have hr := rep_cv g z
    rw [← hzD, hz] at hr
    have hone := hr.one rfl
    rw [← hzv]
    rw [hsz] at hzs
    cases hr with
    | v _ h => rw [hzv]; exact ⟨h, by cases zd <;> first | rfl | cases h⟩
  have hrun := fun (w : World) => (show (zeroValue e).run P w = .ok zd w by simp [zeroValue, typeInfo, hii, hzz, hzv])
  have hsize : ∀ w, (Go.sizeOf e).run P w = .ok 1 w := fun w => by simp [Go.sizeOf, typeInfo, hii, hsz]
  -- the walk
  have g1 : (fr.set i (.v v)).getD i ud = .v v := by simp [List.getD_eq_getElem?_getD, hilt]
  have g2 : ((fr.set i (.v v)).set p (.v v)).getD j ud = .v (.int kk k) := by
    rw [List.getD_eq_getElem?_getD, List.getElem?_set_ne (fun e => n2 e.symm), List.getElem?_set_ne (fun e => n1 e.symm), hj]; rfl
  have g3 : (((fr.set i (.v v)).set p (.v v)).set q (.v (.int kk k))).getD p ud = .v v := by
    rw [List.getD_eq_getElem?_getD, List.getElem?_set_ne n3, List.getElem?_set_self (by simpa using hp)]; rfl
  have g4 : (((fr.set i (.v v)).set p (.v v)).set q (.v (.int kk k))).getD q ud = .v (.int kk k) := by
    rw [List.getD_eq_getElem?_getD, List.getElem?_set_self (by simpa using hq)]; rfl
  have g5 : ∀ x, ((((fr.set i (.v v)).set p (.v v)).set q (.v (.int kk k))).set r x).getD r ud = x := fun x => by
    rw [List.getD_eq_getElem?_getD, List.getElem?_set_self (by simpa using hr)]; rfl
  have L : ∀ ops : Array Oper, LWp P w1 ops (fun fr' S' => fr'[i]? = some (.v v) ∧ Q .normal (fr'.set i (.acc l xs.length)) S') [⟨some p, .move (.tmp i), t1, s1, a1, none⟩, ⟨some q, .move (.tmp j), t2, s2, a2, none⟩, ⟨some r, .slice t (.tmp p) (some (.tmp q)) none none, t3, s3, a3, none⟩, ⟨none, .call ⟨.builtin .clear, #[.tmp r], #[t]⟩, t4, s4, a4, none⟩] (fr.set i (.v v)) S := by
    intro ops
    refine y_move (P := P) rfl ?_
    show LWp P w1 ops _ _ ((fr.set i (.v v)).set p ((fr.set i (.v v)).getD i ud)) S
    rw [g1]
    refine y_move (P := P) rfl ?_
    show LWp P w1 ops _ _ (((fr.set i (.v v)).set p (.v v)).set q (((fr.set i (.v v)).set p (.v v)).getD j ud)) S
    rw [g2]
    show YieldsE P w1 _ _ S _
    intro ga wa ρ ra rb rc
    have hx := rb (.tmp p) (by simp [Op.operands])
    have hy := rb (.tmp q) (by simp [Op.operands])
    change Rep ga ((((fr.set i (.v v)).set p (.v v)).set q (.v (.int kk k))).getD p ud) _ at hx
    change Rep ga ((((fr.set i (.v v)).set p (.v v)).set q (.v (.int kk k))).getD q ud) _ at hy
    rw [g3] at hx
    rw [g4] at hy
    have hx := rep_v hx
    have hy := rep_v hy
    have hb : (Instr.sliceBounds true xs.length c (some (.int kk (k : Int))) none none).run P wa = .ok (k, xs.length, c) wa := by
      have : (Instr.sliceBound (.int kk (k : Int)) xs.length .sliceB).run P wa = .ok k wa := by
        have := run_bound (P := P) (k := kk) (i := (k : Int)) (y := xs.length) (code := .sliceB) (w := wa) (by omega) (by omega)
        simpa using this
      simp [Instr.sliceBounds, this]
    have hck : ¬ c = k := by omega
    have hrun3 : (execOp ρ ⟨some r, .slice t (.tmp p) (some (.tmp q)) none none, t3, s3, a3, none⟩).run P wa = .ok (.value (.slice (some ⟨b, k, none⟩) (xs.length - k) (c - k))) wa := by
      simp [execOp, hx, hve, Instr.sliceAt, Instr.slice, run_underlying hu, hy, hb, hsize, hck, Addr.add] <;> omega
    rw [hrun3]
    refine ⟨ga, .v (.slice (some ⟨b, k, none⟩) (xs.length - k) (c - k)), S, .refl ga, ra, .v _ rfl, ?_⟩
    show YieldsE P w1 _ _ S _
    intro gb wb ρ2 ra2 rb2 rc2
    have hx2 := rb2 (.tmp r) (by simp [Op.operands, Call.operands])
    change Rep gb (((((fr.set i (.v v)).set p (.v v)).set q (.v (.int kk k))).set r _).getD r ud) _ at hx2
    rw [g5] at hx2
    have hx2 := rep_v hx2
    obtain ⟨w', e1, e2⟩ := clear_ok (P := P) (ty := t4) ra2 hl (ra2.below.req.acc _ _ _ hval) hkx hu hrun hz1.2 hz1.1 (zd := .v zd) (.v _ hz1.1) (c - k)
    have hrun4 : (execOp ρ2 ⟨none, .call ⟨.builtin .clear, #[.tmp r], #[t]⟩, t4, s4, a4, none⟩).run P wb = .ok (.value (.tuple #[])) w' := by
      simp [execOp, resolve, invoke, builtin, hx2, e1]
    rw [hrun4]
    refine ⟨gb, .any, _, .refl gb, e2, .any _, ?_, h _ _⟩
    show (((((fr.set i (.v v)).set p (.v v)).set q (.v (.int kk k))).set r _)[i]? : Option DV) = _
    rw [List.getElem?_set_ne (fun e => n6 e.symm), List.getElem?_set_ne (fun e => n5 e.symm), List.getElem?_set_ne (fun e => n4 e.symm), List.getElem?_set_self hilt]
  refine wpA_mono (wpA_region_lit fun ro => lwp_sound (w0 := w1) (Q := fun e fr' S' => fr'[i]? = some (.v v) ∧ Q e (fr'.set i (.acc l xs.length)) S') _ _ S g a w (.refl g) R1 h2' h3 (L _)) ?_
  rintro e' a' w' ⟨hd, g', fr', S', k1, k2, k3, k5, k4⟩
  have hb0 : w0.gh.sub g' := ⟨fun _ _ _ h => k2.below.req.imm _ _ _ (h1.below.req.imm _ _ _ h), fun _ _ _ h => k2.below.req.acc _ _ _ (h1.below.req.acc _ _ _ h), fun _ _ h => k2.below.req.obj _ _ (h1.below.req.obj _ _ h)⟩
  refine ⟨hd, g', fr'.set i (.acc l xs.length), S', k1, k2.withObj (w0' := w0) (ob := g'.obj) rfl k2.below.obj hb0, ?_, k4⟩
  have hlt' : i < a'.tmps.toList.length := by rw [← k3.len]; exact (List.getElem?_eq_some_iff.1 k5).1
  have hu' := List.getElem?_eq_getElem hlt'
  have hvi := rep_v (k3.at_ i _ _ k5 hu')
  refine repL_same k3 hu' ?_
  rw [hvi, hve]
  exact .acc _ _ _ _ (k1.acc _ _ _ hval)
end
end Aml

namespace Aml
open Go Go.RowKit
set_option linter.unusedVariables false
set_option linter.unusedSimpArgs false

/-- Which of the remaining ones may come: the first, the second, either. -/
inductive Tr where
  | leaf | head (t : Tr) | snd (t : Tr) | both (t u : Tr)
def vwT (P : Program) (w0 : W0) (K : List DV → St → Prop) : Tr → List Oper → List DV → St → Prop
  | .leaf, [], fr, S => K fr S
  | .head t, o :: r, fr, S => vcOp P w0 o.op fr S fun d S' => vwT P w0 K t r (pt fr o.dst d) S'
  | .snd t, p :: o :: r, fr, S => vcOp P w0 o.op fr S fun d S' => vwT P w0 K t (p :: r) (pt fr o.dst d) S'
  | .both t u, p :: o :: r, fr, S => (vcOp P w0 p.op fr S fun d S' => vwT P w0 K t (o :: r) (pt fr p.dst d) S') ∧ vcOp P w0 o.op fr S fun d S' => vwT P w0 K u (p :: r) (pt fr o.dst d) S'
  | _, _, _, _ => False
def okT (ops : Array Oper) : Nat → Array Bool → Tr → List Nat → Bool
  | _, L, .leaf, [] => (Region.ready .any ops L).isEmpty
  | f + 1, L, .head t, i :: r => !(Region.ready .any ops L).isEmpty && (Region.ready .any ops L).all (fun x => x == i) && okT ops f (L.setIfInBounds i true) t r
  | f + 1, L, .snd t, i :: j :: r => !(Region.ready .any ops L).isEmpty && (Region.ready .any ops L).all (fun x => x == j) && okT ops f (L.setIfInBounds j true) t (i :: r)
  | f + 1, L, .both t u, i :: j :: r => !(Region.ready .any ops L).isEmpty && (Region.ready .any ops L).all (fun x => x == i || x == j) && okT ops f (L.setIfInBounds i true) t (j :: r) && okT ops f (L.setIfInBounds j true) u (i :: r)
  | _, _, _, _ => false
def okR (l : List Oper) (t : Tr) : Bool := l.all (fun o => okSl o.op && o.guard.isNone) && okT l.toArray l.length (Array.replicate l.length false) t (List.range l.length)
section
variable {P : Program} {w0 : W0}
theorem vwT_sound {ro : Option Nat} {ops : Array Oper} {g0 : Gh} {Q : Exit → List DV → St → Prop} (hs : ∀ (i : Nat) o, ops[i]? = some o → okSl o.op = true ∧ o.guard = none) : ∀ (fuel : Nat) (L : Array Bool) (t : Tr) (is : List Nat) (l : List Oper) (fr : List DV) (S : St) (g : Gh) (a : Act) (w : World),
    okT ops fuel L t is = true → is.map (ops[·]?) = l.map some → g0.le g → Rel w0 g S w → RepL g fr a.tmps.toList → Dk w0 g.obj a w → vwT P w0 (fun fr S => Q .normal fr S) t l fr S → wpAnyIn (fz ro) 0 P .any ops (Good w0 g0 Q) fuel L a w := by
  have one : ∀ {i : Nat} {o : Oper} {fr : List DV} {S : St} {g : Gh} {a : Act} {w : World} {K : List DV → St → Prop} {K' : Act → World → Prop}, ops[i]? = some o → g0.le g → Rel w0 g S w → RepL g fr a.tmps.toList → Dk w0 g.obj a w →
      (∀ fr S g a w, g0.le g → Rel w0 g S w → RepL g fr a.tmps.toList → Dk w0 g.obj a w → K fr S → K' a w) → (vcOp P w0 o.op fr S fun d S' => K (pt fr o.dst d) S') → wpOpIn (fz ro) 0 P ops (Good w0 g0 Q) i K' a w := by
    intro i o fr S g a w K K' hi k h1 h2 h3 hK h
    obtain ⟨q1, q2⟩ := hs i o hi
    refine step_op k h1 h2 h3 hK ?_ hi
    rw [q2]
    exact vcOp_sound q1 h
  intro fuel
  induction fuel with
  | zero =>
    intro L t is l fr S g a w hok hl k h1 h2 h3 h
    cases t <;> cases is <;> (try cases l) <;> simp_all [okT, vwT, wpAnyIn]
    exact ⟨k.kd h3, g, fr, S, k, h1, h2, h⟩
  | succ fuel ih =>
    intro L t is l fr S g a w hok hl k h1 h2 h3 h
    cases t with
    | leaf =>
      match is, l, hok, hl, h with
      | [], [], hok, _, h =>
        have he : Region.ready .any ops L = [] := by simpa [okT] using hok
        exact ⟨fun _ => ⟨k.kd h3, g, fr, S, k, h1, h2, h⟩, fun i hi => by rw [he] at hi; cases hi⟩
      | [], _ :: _, _, hl, _ => cases hl
      | _ :: _, _, hok, _, _ => simp [okT] at hok
    | head t =>
      match is, l, hok, hl, h with
      | i :: is, o :: l, hok, hl, h =>
        simp only [okT, Bool.and_eq_true, Bool.not_eq_true', List.isEmpty_eq_false_iff] at hok
        simp only [List.map_cons, List.cons.injEq] at hl
        refine ⟨fun e => absurd e hok.1.1, fun x hx => ?_⟩
        have hxi := List.all_eq_true.1 hok.1.2 x hx
        simp only [beq_iff_eq] at hxi
        subst hxi
        exact one hl.1 k h1 h2 h3 (fun fr' S' g' a' w' p1 p2 p3 p4 p5 => ih _ t is l fr' S' g' a' w' hok.2 hl.2 p1 p2 p3 p4 p5) h
      | [], _, hok, _, _ => simp [okT] at hok
      | _ :: _, [], _, hl, _ => cases hl
    | snd t =>
      match is, l, hok, hl, h with
      | i :: j :: is, p :: o :: l, hok, hl, h =>
        simp only [okT, Bool.and_eq_true, Bool.not_eq_true', List.isEmpty_eq_false_iff] at hok
        simp only [List.map_cons, List.cons.injEq] at hl
        refine ⟨fun e => absurd e hok.1.1, fun x hx => ?_⟩
        have hxi := List.all_eq_true.1 hok.1.2 x hx
        simp only [beq_iff_eq] at hxi
        subst hxi
        exact one hl.2.1 k h1 h2 h3 (fun fr' S' g' a' w' p1 p2 p3 p4 p5 => ih _ t (i :: is) (p :: l) fr' S' g' a' w' hok.2 (by simp [hl.1, hl.2.2]) p1 p2 p3 p4 p5) h
      | [], _, hok, _, _ => simp [okT] at hok
      | [_], _, hok, _, _ => simp [okT] at hok
      | _ :: _ :: _, [], _, hl, _ => cases hl
      | _ :: _ :: _, [_], _, hl, _ => simp at hl
    | both t u =>
      match is, l, hok, hl, h with
      | i :: j :: is, p :: o :: l, hok, hl, h =>
        simp only [okT, Bool.and_eq_true, Bool.not_eq_true', List.isEmpty_eq_false_iff] at hok
        simp only [List.map_cons, List.cons.injEq] at hl
        refine ⟨fun e => absurd e hok.1.1.1, fun x hx => ?_⟩
        have hxi := List.all_eq_true.1 hok.1.1.2 x hx
        simp only [Bool.or_eq_true, beq_iff_eq] at hxi
        rcases hxi with hxi | hxi
        · subst hxi
          exact one hl.1 k h1 h2 h3 (fun fr' S' g' a' w' p1 p2 p3 p4 p5 => ih _ t (j :: is) (o :: l) fr' S' g' a' w' hok.1.2 (by simp [hl.2.1, hl.2.2]) p1 p2 p3 p4 p5) h.1
        · subst hxi
          exact one hl.2.1 k h1 h2 h3 (fun fr' S' g' a' w' p1 p2 p3 p4 p5 => ih _ u (i :: is) (p :: l) fr' S' g' a' w' hok.2 (by simp [hl.1, hl.2.2]) p1 p2 p3 p4 p5) h.2
      | [], _, hok, _, _ => simp [okT] at hok
      | [_], _, hok, _, _ => simp [okT] at hok
      | _ :: _ :: _, [], _, hl, _ => cases hl
      | _ :: _ :: _, [_], _, hl, _ => simp at hl
/-- A region, all of its orders walked. -/
theorem allK (t : Tr) {id : Nat} {l : List Oper} {fr : List DV} {S : St} {Q : Exit → List DV → St → Prop} (hm : P.follows .mixedOrders = true) (hB : okR l t = true) (h : vwT P w0 (fun fr S => normF fr fun fr => Q .normal fr S) t l fr S) : AWp P w0 (.region id l.toArray true) fr S Q := by
  simp only [okR, Bool.and_eq_true] at hB
  intro g a w h1 h2 h3
  refine wpA_region_any hm fun ro => ?_
  have hR : Rel w0 g S { w with drawn := w.drawn + 1 } := h1.grow (below_drew w)
  have hs : ∀ (i : Nat) o, l.toArray[i]? = some o → okSl o.op = true ∧ o.guard = none := fun i o hi => by
    have := List.all_eq_true.1 hB.1 o (List.mem_of_getElem? (by simpa using hi))
    simpa using this
  have := vwT_sound (ro := ro) (g0 := g) (Q := Q) hs _ _ t (List.range l.length) l fr S g a _ hB.2 (by
    apply List.ext_getElem?
    intro i
    simp only [List.getElem?_map, List.getElem?_range', List.getElem?_toArray]
    rcases Nat.lt_or_ge i l.length with hi | hi
    · rw [List.getElem?_range hi]; simp [List.getElem?_eq_getElem hi]
    · rw [List.getElem?_eq_none (by simpa using hi), List.getElem?_eq_none hi]; rfl) (.refl g) hR h2 (h3.keep rfl fun _ _ h _ => h) h
  simpa using this
section
variable {K : List DV → St → Prop} {fr : List DV} {S : St} {t u : Tr} {o p : Oper} {r : List Oper} {dst dst2 : Option Tmp} {op op2 : Op} {ty ty2 : TypeId} {pos pos2 : String} {aft aft2 : Array Edge}
theorem t_leaf : vwT P w0 K .leaf [] fr S = K fr S := rfl
theorem t_head : vwT P w0 K (.head t) (⟨dst, op, ty, pos, aft, none⟩ :: r) fr S = vcOp P w0 op fr S fun d S' => vwT P w0 K t r (pt fr dst d) S' := rfl
theorem t_snd : vwT P w0 K (.snd t) (p :: ⟨dst, op, ty, pos, aft, none⟩ :: r) fr S = vcOp P w0 op fr S fun d S' => vwT P w0 K t (p :: r) (pt fr dst d) S' := rfl
theorem t_both : vwT P w0 K (.both t u) (⟨dst, op, ty, pos, aft, none⟩ :: ⟨dst2, op2, ty2, pos2, aft2, none⟩ :: r) fr S = ((vcOp P w0 op fr S fun d S' => vwT P w0 K t (⟨dst2, op2, ty2, pos2, aft2, none⟩ :: r) (pt fr dst d) S') ∧ vcOp P w0 op2 fr S fun d S' => vwT P w0 K u (⟨dst, op, ty, pos, aft, none⟩ :: r) (pt fr dst2 d) S') := rfl
@[congr] theorem c_vwT {fr' : List DV} {S' : St} (h1 : fr = fr') (h2 : S = S') : vwT P w0 K t r fr S = vwT P w0 K t r fr' S' := by cases h1; cases h2; rfl
end
end
attribute [go_sem ↓] t_leaf t_head t_snd t_both
end Aml

namespace Aml
open Go Go.RowKit
set_option linter.unusedVariables false
set_option linter.unusedSimpArgs false
section
variable {P : Program} {w0 : W0}
/-- What is made is frozen, its own objects forgotten. -/
theorem yields_q {o : Oper} {ρD : Operand → DV} {S : St} {r : DV} (h : YieldsE P w0 o ρD S fun d S' => shr S' d fun d' S'' => d' = r ∧ Sub S S'') : YieldsE P w0 o ρD S fun d S' => d = r ∧ S' = S := by
  intro g w ρ h1 h2 hcst
  have := h g w ρ h1 h2 hcst
  split at this
  · obtain ⟨g', d, S', a, b, c, e⟩ := this
    obtain ⟨g2, d2, S2, q1, q2, q3, q4, q5⟩ := shr_ok b c e
    exact ⟨g2, d2, S, a.trans q1, q2.forget q5.box q5.acc, q3, q4, rfl⟩
  · obtain ⟨g', S', a, b, e⟩ := this
    have e : ud = r ∧ Sub S S' := e
    exact ⟨g', S, a, b.forget e.2.box e.2.acc, e.1, rfl⟩
  · refine this.mono ?_
    rintro e w'' ⟨r', g', d, S', a, b, c, x, y⟩
    obtain ⟨g2, d2, S2, q1, q2, q3, q4, q5⟩ := shr_ok c x y
    exact ⟨r', g2, d2, S, a, b.trans q1, q2.forget q5.box q5.acc, q3, q4, rfl⟩
  · refine fun ro => (this ro).mono ?_
    rintro e w'' ⟨r', g', d, S', a, b, c, x, y⟩
    obtain ⟨g2, d2, S2, q1, q2, q3, q4, q5⟩ := shr_ok c x y
    exact ⟨r', g2, d2, S, a, b.trans q1, q2.forget q5.box q5.acc, q3, q4, rfl⟩
  · exact this
def vMakeQ (k : TK) (z x y : DV) (K : DV → Prop) : Prop := match k, x, y with
  | .sl _ s by' true, .v (.int _ n), .v (.int _ m) => okE z = true ∧ 0 ≤ n ∧ n ≤ m ∧ m * by' ≤ 140737488355328 ∧ m ≤ 9223372036854775807 ∧ K (.sl s false (List.replicate n.toNat z))
  | _, _, _ => False
def vConvZ (a b ke : TK) (x : DV) (K : DV → Prop) : Prop := match a, b, x with
  | .sl _ _ _ _, .str, .sl s _ xs => ke = .int .u8 ∧ s = 1 ∧ okBy xs = true ∧ K (.v (.string (strOfNums (byD xs))))
  | a, b, x => vConv a b x K
def opZ (P : Program) (w0 : W0) (op : Op) (fr : List DV) (S : St) (K : DV → Prop) : Prop := match op with
  | .makeSlice t x y => vMakeQ (tk P t) (zD P (elT P t)) (ev fr x) (ev fr y) K
  | .convert s d x => vConvZ (tk P s) (tk P d) (tk P (elT P s)) (ev fr x) K
  | op => vcOpQ P w0 op fr S K
def isQZ : Op → Bool
  | .makeSlice .. => true
  | op => isQ op
def LZ (P : Program) (w0 : W0) (S : St) (ops : Array Oper) (K : List DV → St → Prop) : List Oper → List DV → Prop
  | [], fr => K fr S
  | o :: rest, fr => selK (isQZ o.op) (guardK ops fr o.guard (fun fr => opZ P w0 o.op fr S fun d => LZ P w0 S ops K rest (pt fr o.dst d)) (fun fr => LZ P w0 S ops K rest (pt fr o.dst ud))) (vcL P w0 ops K (o :: rest) fr S)
theorem opZ_sound {o : Oper} {fr : List DV} {S : St} {K : DV → Prop} (hs : okSl o.op = true) (h : opZ P w0 o.op fr S K) : ∃ d, QY P w0 S o fr d ∧ K d := by
  cases hop : o.op with
  | makeSlice t x y =>
    rw [hop] at h
    simp only [opZ, vMakeQ] at h
    split at h
    · rename_i e s by' k1 n k2 m hk hx hy
      obtain ⟨q1, q2, q3, q4, q5, q6⟩ := h
      refine ⟨_, yields_q (y_makeSlice hop ?_), q6⟩
      rw [hk, hx, hy]
      refine ⟨q1, q2, q3, q4, q5, fun l hl => ?_⟩
      show shr _ _ _
      unfold shr shr1
      simp only [lk, if_true, List.length_replicate, true_and]
      exact ⟨List.Sublist.refl _, by show List.Sublist S.acc (up _ _ _); simp only [up, if_true]; exact List.sublist_cons_self _ _⟩
    · exact h.elim
  | convert s d x =>
    rw [hop] at h hs
    simp only [opZ, vConvZ] at h
    split at h
    · rename_i e c b i s0 f xs hk hd hx
      obtain ⟨q1, q2, q3, q4⟩ := h
      refine ⟨_, y_convS (K := fun d S' => d = _ ∧ S' = S) hop ?_, q4⟩
      rw [hk, hd, hx]
      exact ⟨q1, rfl, q2, q3, rfl, rfl⟩
    · exact vcOpQ_sound (by rw [hop]; exact hs) (by rw [hop]; exact h)
  | _ => rw [hop] at h hs; exact vcOpQ_sound (by rw [hop]; exact hs) (by rw [hop]; exact h)
def nprZ (l : List Oper) : Nat := (l.takeWhile fun o => isQZ o.op).length
theorem LZ_split {S : St} {ops : Array Oper} {K : List DV → St → Prop} : ∀ {l : List Oper} {fr : List DV}, l.all (fun o => okSl o.op) = true → LZ P w0 S ops K l fr → LQ P w0 S ops (fun fr => vcL P w0 ops K (l.drop (nprZ l)) fr S) (l.take (nprZ l)) fr
  | [], fr, _, h => h
  | o :: rest, fr, hs, h => by
    simp only [List.all_cons, Bool.and_eq_true] at hs
    unfold LZ selK at h
    cases hq : isQZ o.op with
    | true =>
      rw [hq] at h
      simp only at h
      have e : nprZ (o :: rest) = nprZ rest + 1 := by simp [nprZ, hq]
      rw [e, List.take_succ_cons, List.drop_succ_cons]
      exact guardK_mono (fun fr h => by obtain ⟨d, q1, q2⟩ := opZ_sound hs.1 h; exact ⟨d, q1, LZ_split hs.2 q2⟩) (fun fr h => LZ_split hs.2 h) h
    | false =>
      rw [hq] at h
      have e : nprZ (o :: rest) = 0 := by simp [nprZ, hq]
      rw [e]
      exact h
/-- What such a region asks. -/
def okZ (l : List Oper) : Bool := l.all (fun o => okSl o.op && o.guard.isNone) && Region.lexB .any (l.take (nprZ l)).toArray && tailB .any l.toArray (nprZ l)
theorem makeK {id : Nat} {l : List Oper} {fr : List DV} {S : St} {Q : Exit → List DV → St → Prop} (hm : P.follows .mixedOrders = true) (hB : okZ l = true) (h : LZ P w0 S l.toArray (fun fr S => normF fr fun fr => Q .normal fr S) l fr) : AWp P w0 (.region id l.toArray true) fr S Q := by
  simp only [okZ, Bool.and_eq_true] at hB
  obtain ⟨⟨b1, b2⟩, b3⟩ := hB
  have hs : l.all (fun o => okSl o.op) = true := List.all_eq_true.2 fun o ho => by
    have := List.all_eq_true.1 b1 o ho
    simp only [Bool.and_eq_true] at this
    exact this.1
  have hn : nprZ l ≤ l.length := List.Sublist.length_le (List.takeWhile_sublist _)
  refine awp_drawT (nprZ l) hn hm b2 b3 hs (LQ_arr ?_ (LZ_split hs h))
  intro o ho j want hg
  have := List.all_eq_true.1 b1 o (List.mem_of_mem_take ho)
  simp [hg] at this
section
variable {ops : Array Oper} {K : List DV → St → Prop} {K2 : DV → Prop} {fr : List DV} {S : St} {r : List Oper} {dst : Option Tmp} {op : Op} {ty : TypeId} {pos : String} {aft : Array Edge}
theorem z_nil : LZ P w0 S ops K [] fr = K fr S := rfl
theorem z_none : LZ P w0 S ops K (⟨dst, op, ty, pos, aft, none⟩ :: r) fr = selK (isQZ op) (opZ P w0 op fr S fun d => LZ P w0 S ops K r (pt fr dst d)) (vcL P w0 ops K (⟨dst, op, ty, pos, aft, none⟩ :: r) fr S) := rfl
theorem z_make (t : TypeId) (x y : Operand) : opZ P w0 (.makeSlice t x y) fr S K2 = vMakeQ (tk P t) (zD P (elT P t)) (ev fr x) (ev fr y) K2 := rfl
theorem z_conv (s d : TypeId) (x : Operand) : opZ P w0 (.convert s d x) fr S K2 = vConvZ (tk P s) (tk P d) (tk P (elT P s)) (ev fr x) K2 := rfl
theorem z_load (t : TypeId) (x : Operand) : opZ P w0 (.load t x) fr S K2 = vcOpQ P w0 (.load t x) fr S K2 := rfl
theorem z_move (x : Operand) : opZ P w0 (.move x) fr S K2 = vcOpQ P w0 (.move x) fr S K2 := rfl
theorem z_assign (x : Operand) : opZ P w0 (.assign x) fr S K2 = vcOpQ P w0 (.assign x) fr S K2 := rfl
theorem z_index (t : TypeId) (x i : Operand) : opZ P w0 (.indexAddr t x i) fr S K2 = vcOpQ P w0 (.indexAddr t x i) fr S K2 := rfl
theorem z_field (t : TypeId) (x : Operand) (f : Nat) : opZ P w0 (.fieldAddr t x f) fr S K2 = vcOpQ P w0 (.fieldAddr t x f) fr S K2 := rfl
theorem z_call (c : Call) : opZ P w0 (.call c) fr S K2 = vcOpQ P w0 (.call c) fr S K2 := rfl
theorem z_vmake (e s b : Nat) (z : DV) (k1 k2 : IntKind) (n m : Int) : vMakeQ (.sl e s b true) z (.v (.int k1 n)) (.v (.int k2 m)) K2 = (okE z = true ∧ 0 ≤ n ∧ n ≤ m ∧ m * b ≤ 140737488355328 ∧ m ≤ 9223372036854775807 ∧ K2 (.sl s false (List.replicate n.toNat z))) := rfl
theorem z_vconv (e c b : Nat) (i : Bool) (ke : TK) (s : Nat) (f : Bool) (xs : List DV) : vConvZ (.sl e c b i) .str ke (.sl s f xs) K2 = (ke = .int .u8 ∧ s = 1 ∧ okBy xs = true ∧ K2 (.v (.string (strOfNums (byD xs))))) := rfl
@[congr] theorem c_LZ {fr' : List DV} (h1 : fr = fr') : LZ P w0 S ops K r fr = LZ P w0 S ops K r fr' := by cases h1; rfl
@[congr] theorem c_opZ {fr' : List DV} (h1 : fr = fr') : opZ P w0 op fr S K2 = opZ P w0 op fr' S K2 := by cases h1; rfl
@[congr] theorem c_vMakeQ {k k' : TK} {z z' x x' y y' : DV} (h1 : k = k') (h2 : z = z') (h3 : x = x') (h4 : y = y') : vMakeQ k z x y K2 = vMakeQ k' z' x' y' K2 := by cases h1; cases h2; cases h3; cases h4; rfl
@[congr] theorem c_vConvZ {k k' q q' ke ke' : TK} {x x' : DV} (h1 : k = k') (h2 : q = q') (h3 : ke = ke') (h4 : x = x') : vConvZ k q ke x K2 = vConvZ k' q' ke' x' K2 := by cases h1; cases h2; cases h3; cases h4; rfl
end
end
attribute [go_sem ↓] z_nil z_none z_make z_conv z_load z_move z_assign z_index z_field z_call
attribute [go_sem] z_vmake z_vconv isQZ
end Aml

namespace Aml.Z
open Go Go.RowKit
set_option linter.unusedVariables false
set_option linter.unusedSimpArgs false

/-- 0: looks at no store; 1: reads; 2: makes a box; 3: else. -/
def kX : Op → Nat
  | .load .. => 1
  | .alloc _ => 2
  | .call c => match c.callee with
    | .value _ => 1
    | .builtin .len => 0
    | .builtin .cap => 0
    | .builtin .min => 0
    | .builtin .max => 0
    | _ => 3
  | .move _ => 0
  | .assign _ => 0
  | .pick .. => 0
  | .fieldAddr .. => 0
  | .indexAddr .. => 0
  | .index .. => 0
  | .field .. => 0
  | .extract .. => 0
  | .nilCheck _ => 0
  | .binOp .. => 0
  | .unOp .. => 0
  | .convert .. => 0
  | .makeInterface .. => 0
  | .makeFunc .. => 0
  | .slice .. => 0
  | .build .. => 0
  | .buildSlice .. => 0
  | .makeSlice .. => 0
  | _ => 3
def Fr (S : St) (B : List (Nat × List DV)) : Prop := ∀ x, x ∈ B → nin S.box x.1
def bodyX (P : Program) (w0 : W0) (o : Oper) (fr : List DV) (S : St) (K : List DV → St → Prop) : Prop :=
  (kX o.op = 0 ∧ ∃ d, (∀ S', QY P w0 S' o fr d) ∧ K (pt fr o.dst d) S) ∨
  (kX o.op = 1 ∧ ∃ d, (∀ B, Fr S B → QY P w0 ⟨B ++ S.box, S.acc⟩ o fr d) ∧ K (pt fr o.dst d) S) ∨
  (kX o.op = 2 ∧ ∃ t, o.op = .alloc t ∧ okE (zD P t) = true ∧ ∀ b, nin S.box b → K (pt fr o.dst (.v (.pointer (some ⟨b, 0, none⟩)))) ⟨(b, cd (zD P t)) :: S.box, S.acc⟩) ∨
  (kX o.op = 3 ∧ YieldsE P w0 o (ev fr) S fun d S' => K (pt fr o.dst d) S')
def tauX (P : Program) (w0 : W0) (ops : Array Oper) (o : Oper) (fr : List DV) (S : St) (K : List DV → St → Prop) : Prop :=
  (wantB ops fr o.guard = some true ∧ bodyX P w0 o fr S K) ∨ (wantB ops fr o.guard = some false ∧ K (pt fr o.dst ud) S)
/-- May two that have no order change places? -/
def okP (a b : Nat) : Bool := a == 0 || (a == 1 && decide (b < 3))

section
variable {P : Program} {w0 : W0} {ops : Array Oper} {md : Region.Mode}
theorem bodyX_mono {o : Oper} {fr : List DV} {S : St} {K K' : List DV → St → Prop} (h : ∀ fr S, K fr S → K' fr S) (b : bodyX P w0 o fr S K) : bodyX P w0 o fr S K' := by
  rcases b with ⟨c, d, q, k⟩ | ⟨c, d, q, k⟩ | ⟨c, t, ht, hz, k⟩ | ⟨c, q⟩
  · exact .inl ⟨c, d, q, h _ _ k⟩
  · exact .inr (.inl ⟨c, d, q, h _ _ k⟩)
  · exact .inr (.inr (.inl ⟨c, t, ht, hz, fun b hb => h _ _ (k b hb)⟩))
  · exact .inr (.inr (.inr ⟨c, yields_mono (fun d S hk => h _ _ hk) q⟩))
theorem tauX_mono {o : Oper} {fr : List DV} {S : St} {K K' : List DV → St → Prop} (h : ∀ fr S, K fr S → K' fr S) (b : tauX P w0 ops o fr S K) : tauX P w0 ops o fr S K' :=
  b.imp (fun ⟨a, b⟩ => ⟨a, bodyX_mono h b⟩) fun ⟨a, b⟩ => ⟨a, h _ _ b⟩
/-- What another one puts elsewhere is not seen. -/
theorem bodyX_put {o : Oper} {fr : List DV} {S : St} {K : List DV → St → Prop} {dst : Option Tmp} {e : DV} (h1 : ∀ t, dst = some t → t ∉ o.looksAt ops) (h2 : ∀ t, dst = some t → o.dst ≠ some t) :
    bodyX P w0 o (pt fr dst e) S K ↔ bodyX P w0 o fr S fun fr' S' => K (pt fr' dst e) S' := by
  have hq : ∀ S d, QY P w0 S o (pt fr dst e) d ↔ QY P w0 S o fr d := fun S d =>
    ⟨yields_congr (fun x hx => ev_put (ops := ops) h1 x hx), yields_congr (fun x hx => (ev_put (ops := ops) h1 x hx).symm)⟩
  have hc : ∀ d, pt (pt fr dst e) o.dst d = pt (pt fr o.dst d) dst e := fun d => pt_comm fr e d h2
  have hy : ∀ K, YieldsE P w0 o (ev (pt fr dst e)) S K ↔ YieldsE P w0 o (ev fr) S K := fun K =>
    ⟨yields_congr (fun x hx => ev_put (ops := ops) h1 x hx), yields_congr (fun x hx => (ev_put (ops := ops) h1 x hx).symm)⟩
  unfold bodyX
  simp only [hq, hc, hy]
theorem tauX_put {o : Oper} {fr : List DV} {S : St} {K : List DV → St → Prop} {dst : Option Tmp} {e : DV} (h1 : ∀ t, dst = some t → t ∉ o.looksAt ops) (h2 : ∀ t, dst = some t → o.dst ≠ some t) :
    tauX P w0 ops o (pt fr dst e) S K ↔ tauX P w0 ops o fr S fun fr' S' => K (pt fr' dst e) S' := by
  unfold tauX
  rw [want_put h1, bodyX_put h1 h2, pt_comm fr e ud h2]
theorem bodyX_monoP {o : Oper} {fr : List DV} {S : St} {K K' : List DV → St → Prop} (h : ∀ e S, K (pt fr o.dst e) S → K' (pt fr o.dst e) S) (b : bodyX P w0 o fr S K) : bodyX P w0 o fr S K' := by
  rcases b with ⟨c, d, q, k⟩ | ⟨c, d, q, k⟩ | ⟨c, t, ht, hz, k⟩ | ⟨c, q⟩
  · exact .inl ⟨c, d, q, h _ _ k⟩
  · exact .inr (.inl ⟨c, d, q, h _ _ k⟩)
  · exact .inr (.inr (.inl ⟨c, t, ht, hz, fun b hb => h _ _ (k b hb)⟩))
  · exact .inr (.inr (.inr ⟨c, yields_mono (fun d S hk => h _ _ hk) q⟩))
theorem tauX_monoP {o : Oper} {fr : List DV} {S : St} {K K' : List DV → St → Prop} (h : ∀ e S, K (pt fr o.dst e) S → K' (pt fr o.dst e) S) (b : tauX P w0 ops o fr S K) : tauX P w0 ops o fr S K' :=
  b.imp (fun ⟨a, b⟩ => ⟨a, bodyX_monoP h b⟩) fun ⟨a, b⟩ => ⟨a, h _ _ b⟩
/-- Two that are apart change places. -/
theorem tauX_comm {x y : Oper} (hap : x.apart ops y = true) (hk : okP (kX x.op) (kX y.op) = true) {fr : List DV} {S : St} {K : List DV → St → Prop} (h : tauX P w0 ops x fr S fun fr S => tauX P w0 ops y fr S K) :
    tauX P w0 ops y fr S fun fr S => tauX P w0 ops x fr S K := by
  obtain ⟨b1, b2, b3⟩ := Oper.apart_spec hap
  have hw : ∀ e, wantB ops (pt fr y.dst e) x.guard = wantB ops fr x.guard := fun e => want_put b3
  have hq : ∀ {S d e}, QY P w0 S x fr d → QY P w0 S x (pt fr y.dst e) d := fun {S d e} q => yields_congr (fun z hz => (ev_put (ops := ops) b3 z hz).symm) q
  rcases h with ⟨hg, hb⟩ | ⟨hg, hb⟩
  · rcases hb with ⟨c, d, q, k⟩ | ⟨c, d, q, k⟩ | ⟨c, -⟩ | ⟨c, -⟩
    · rw [tauX_put b1 b2] at k
      exact tauX_monoP (fun e S' hk => .inl ⟨by rw [hw]; exact hg, .inl ⟨c, d, fun S'' => hq (q S''), hk⟩⟩) k
    · rw [tauX_put b1 b2] at k
      rcases k with ⟨g2, k⟩ | ⟨g2, k⟩
      · rcases k with ⟨c2, d2, q2, k⟩ | ⟨c2, d2, q2, k⟩ | ⟨c2, t, ht, hz, k⟩ | ⟨c2, -⟩
        · exact .inl ⟨g2, .inl ⟨c2, d2, q2, .inl ⟨by rw [hw]; exact hg, .inr (.inl ⟨c, d, fun B hB => hq (q B hB), k⟩)⟩⟩⟩
        · exact .inl ⟨g2, .inr (.inl ⟨c2, d2, q2, .inl ⟨by rw [hw]; exact hg, .inr (.inl ⟨c, d, fun B hB => hq (q B hB), k⟩)⟩⟩)⟩
        · refine .inl ⟨g2, .inr (.inr (.inl ⟨c2, t, ht, hz, fun b hb => .inl ⟨by rw [hw]; exact hg, .inr (.inl ⟨c, d, fun B hB => hq ?_, k b hb⟩)⟩⟩))⟩
          have := q (B ++ [(b, cd (zD P t))]) fun z hz' => by
            rcases List.mem_append.1 hz' with h | h
            · exact (hB z h).2.2
            · simp only [List.mem_singleton] at h; subst h; exact hb
          rw [List.append_assoc] at this
          exact this
        · rw [c, c2] at hk; exact absurd hk (by decide)
      · exact .inr ⟨g2, .inl ⟨by rw [hw]; exact hg, .inr (.inl ⟨c, d, fun B hB => hq (q B hB), k⟩)⟩⟩
    · rw [c] at hk; simp [okP] at hk
    · rw [c] at hk; simp [okP] at hk
  · rw [tauX_put b1 b2] at hb
    exact tauX_monoP (fun e S' hk => .inr ⟨by rw [hw]; exact hg, hk⟩) hb

def tauI (P : Program) (w0 : W0) (ops : Array Oper) (i : Nat) (fr : List DV) (S : St) (K : List DV → St → Prop) : Prop := match ops[i]? with
  | none => K fr S
  | some o => tauX P w0 ops o fr S K
def wpX (P : Program) (w0 : W0) (md : Region.Mode) (ops : Array Oper) (K : List DV → St → Prop) : Nat → Array Bool → List DV → St → Prop
  | 0, listed, fr, S => Region.ready md ops listed = [] ∧ K fr S
  | fuel + 1, listed, fr, S => (Region.ready md ops listed = [] → K fr S) ∧ ∀ i ∈ Region.ready md ops listed, tauI P w0 ops i fr S (wpX P w0 md ops K fuel (listed.setIfInBounds i true))
theorem tauI_mono {i : Nat} {fr : List DV} {S : St} {K K' : List DV → St → Prop} (h : ∀ fr S, K fr S → K' fr S) (b : tauI P w0 ops i fr S K) : tauI P w0 ops i fr S K' := by
  unfold tauI at *
  split
  · rename_i ho; simp only [ho] at b; exact h _ _ b
  · rename_i o ho; simp only [ho] at b; exact tauX_mono h b
theorem wpX_first {K : List DV → St → Prop} {i : Nat} {oi : Oper} (hi : ops[i]? = some oi) :
    ∀ (fuel : Nat) (listed : Array Bool) (fr : List DV) (S : St),
      (∀ j oj, ops[j]? = some oj → j ≠ i → listed.getD j true = false → (∀ e ∈ oj.after, Region.binds md e = true → e.on ≠ i) → oi.apart ops oj = true ∧ okP (kX oi.op) (kX oj.op) = true) →
      (∀ l : List Nat, l.Nodup → (∀ k, k ∈ l → listed.getD k true = false) → l.length ≤ fuel + 1) →
      i ∈ Region.ready md ops listed → tauX P w0 ops oi fr S (wpX P w0 md ops K fuel (listed.setIfInBounds i true)) → wpX P w0 md ops K (fuel + 1) listed fr S := by
  intro fuel
  induction fuel with
  | zero =>
    intro listed fr S _ hcnt hr H
    refine ⟨fun h => (by rw [h] at hr; cases hr), fun j hj => ?_⟩
    by_cases hji : j = i
    · subst hji; unfold tauI; simp only [hi]; exact H
    · exfalso
      have := hcnt [i, j] (by simp [Ne.symm hji]) fun k hk => by
        simp only [List.mem_cons, List.not_mem_nil, or_false] at hk
        rcases hk with rfl | rfl
        · exact (mem_ready.1 hr).1
        · exact (mem_ready.1 hj).1
      simp at this
  | succ fuel ih =>
    intro listed fr S hfree hcnt hr H
    refine ⟨fun h => (by rw [h] at hr; cases hr), fun j hj => ?_⟩
    by_cases hji : j = i
    · subst hji; unfold tauI; simp only [hi]; exact H
    · obtain ⟨hjun, oj, hoj, hall⟩ := mem_ready.1 hj
      have hnot : ∀ e ∈ oj.after, Region.binds md e = true → e.on ≠ i := fun e he hb heq => by
        have h1 := hall e he hb
        have h0 := (mem_ready.1 hr).1
        rw [heq] at h1
        rcases Nat.lt_or_ge i listed.size with h' | h'
        · simp [h'] at h0 h1; rw [h0] at h1; cases h1
        · simp [Array.getElem?_eq_none h'] at h1
      have h1 : tauX P w0 ops oi fr S fun fr S => tauX P w0 ops oj fr S (wpX P w0 md ops K fuel ((listed.setIfInBounds i true).setIfInBounds j true)) :=
        tauX_mono (fun fr S h => by
          have := h.2 j (ready_mono hj hji)
          unfold tauI at this; simp only [hoj] at this; exact this) H
      have hc := hfree j oj hoj hji hjun hnot
      have h2 := tauX_comm hc.1 hc.2 h1
      have hfree' : ∀ k ok, ops[k]? = some ok → k ≠ i → (listed.setIfInBounds j true).getD k true = false →
          (∀ e ∈ ok.after, Region.binds md e = true → e.on ≠ i) → oi.apart ops ok = true ∧ okP (kX oi.op) (kX ok.op) = true := fun k ok hk hki hun hno => by
        refine hfree k ok hk hki ?_ hno
        by_cases hjk : j = k
        · subst hjk; exact hjun
        · rw [getD_set_ne true hjk] at hun; exact hun
      unfold tauI
      simp only [hoj]
      have hcnt' : ∀ l : List Nat, l.Nodup → (∀ k, k ∈ l → (listed.setIfInBounds j true).getD k true = false) → l.length ≤ fuel + 1 := by
        intro l hn hl
        have hjs : j < listed.size := by
          rcases Nat.lt_or_ge j listed.size with h | h
          · exact h
          · rw [Array.getD_eq_getD_getElem?, Array.getElem?_eq_none h] at hjun; cases hjun
        have hjl : j ∉ l := fun hj => by
          have := hl j hj
          rw [Array.getD_eq_getD_getElem?, Array.getElem?_setIfInBounds] at this
          simp [hjs] at this
        have := hcnt (j :: l) (List.nodup_cons.2 ⟨hjl, hn⟩) fun k hk => by
          rcases List.mem_cons.1 hk with rfl | hk
          · exact hjun
          · have := hl k hk
            rw [getD_set_ne true (show j ≠ k from fun e => hjl (e ▸ hk))] at this
            exact this
        simp at this; omega
      refine tauX_mono (fun fr S h => ih (listed.setIfInBounds j true) fr S hfree' hcnt' (ready_mono hr (Ne.symm hji)) ?_) h2
      rw [Array.setIfInBounds_comm _ _ hji]
      exact h
/-- Is an operation free to come first? -/
def freeX (md : Region.Mode) (ops : Array Oper) (listed : Array Bool) (i : Nat) : Bool := (List.range ops.size).all fun j => match ops[i]?, ops[j]? with
  | some oi, some oj => j == i || listed.getD j true || oj.after.any (fun e => Region.binds md e && e.on == i) || (oi.apart ops oj && okP (kX oi.op) (kX oj.op))
  | _, _ => false
def lexX (md : Region.Mode) (ops : Array Oper) : Nat → Nat → Array Bool → Bool
  | 0, _, listed => (Region.ready md ops listed).isEmpty
  | n + 1, k, listed => (Region.ready md ops listed).contains k && freeX md ops listed k && lexX md ops n (k + 1) (listed.setIfInBounds k true)
theorem freeX_spec {listed : Array Bool} {i : Nat} {oi : Oper} (hi : ops[i]? = some oi) (h : freeX md ops listed i = true) : ∀ j oj, ops[j]? = some oj → j ≠ i → listed.getD j true = false → (∀ e ∈ oj.after, Region.binds md e = true → e.on ≠ i) → oi.apart ops oj = true ∧ okP (kX oi.op) (kX oj.op) = true := by
  intro j oj hj hji hun hno
  have hlt : j < ops.size := (Array.getElem?_eq_some_iff.1 hj).1
  have := List.all_eq_true.1 h j (List.mem_range.2 hlt)
  simp only [hi, hj, hun, Bool.or_false, Bool.or_eq_true, beq_iff_eq, Bool.and_eq_true] at this
  rcases this with (h | h) | h
  · exact absurd h hji
  · exfalso
    obtain ⟨e, he, h⟩ := Array.any_eq_true'.1 h
    simp only [Bool.and_eq_true, beq_iff_eq] at h
    exact hno e he h.1 h.2
  · exact h
/-- In the text's order. -/
def LX (P : Program) (w0 : W0) (ops : Array Oper) (K : List DV → St → Prop) : List Oper → List DV → St → Prop
  | [], fr, S => K fr S
  | o :: rest, fr, S => tauX P w0 ops o fr S (LX P w0 ops K rest)
theorem wpX_lex {K : List DV → St → Prop} : ∀ (l : List Oper) (k : Nat) (listed : Array Bool) (fr : List DV) (S : St), (∀ j, l[j]? = ops[k + j]?) →
    (∀ l' : List Nat, l'.Nodup → (∀ k, k ∈ l' → listed.getD k true = false) → l'.length ≤ l.length) →
    lexX md ops l.length k listed = true → LX P w0 ops K l fr S → wpX P w0 md ops K l.length listed fr S
  | [], _, _, _, _, _, _, hB, h => ⟨by simpa [lexX] using hB, h⟩
  | o :: l, k, listed, fr, S, hl, hcnt, hB, h => by
    have h0 : ops[k]? = some o := by simpa using (hl 0).symm
    simp only [List.length_cons, lexX, Bool.and_eq_true] at hB
    obtain ⟨⟨hr, hf⟩, hB'⟩ := hB
    have hr' : k ∈ Region.ready md ops listed := by simpa using hr
    have hun := (mem_ready.1 hr').1
    refine wpX_first h0 l.length listed fr S (freeX_spec h0 hf) (by simpa using hcnt) hr' ?_
    refine tauX_mono (fun fr S h => wpX_lex l (k + 1) _ fr S (fun j => by have := hl (j + 1); simpa [Nat.add_assoc, Nat.add_comm 1 j] using this) ?_ hB' h) h
    intro l' hn hl'
    have hks : k < listed.size := by
      rcases Nat.lt_or_ge k listed.size with h | h
      · exact h
      · rw [Array.getD_eq_getD_getElem?, Array.getElem?_eq_none h] at hun; cases hun
    have hkl : k ∉ l' := fun hk => by
      have := hl' k hk
      rw [Array.getD_eq_getD_getElem?, Array.getElem?_setIfInBounds] at this
      simp [hks] at this
    have := hcnt (k :: l') (List.nodup_cons.2 ⟨hkl, hn⟩) fun m hm => by
      rcases List.mem_cons.1 hm with rfl | hm
      · exact hun
      · have := hl' m hm
        rw [getD_set_ne true (show k ≠ m from fun e => hkl (e ▸ hm))] at this
        exact this
    simp at this; omega
theorem bodyX_yields {o : Oper} {fr : List DV} {S : St} {K : List DV → St → Prop} (h : bodyX P w0 o fr S K) : YieldsE P w0 o (ev fr) S fun d S' => K (pt fr o.dst d) S' := by
  rcases h with ⟨c, d, q, k⟩ | ⟨c, d, q, k⟩ | ⟨c, t, ht, hz, k⟩ | ⟨c, q⟩
  · exact yields_mono (fun d' S' h => by rw [h.1, h.2]; exact k) (q S)
  · have := q [] (fun x hx => by cases hx)
    exact yields_mono (fun d' S' h => by rw [h.1, h.2]; exact k) this
  · exact y_alloc ht ⟨hz, k⟩
  · exact q
theorem wpAny_of_X {ro : Option Nat} {g0 : Gh} {Q : Exit → List DV → St → Prop} : ∀ (fuel : Nat) (listed : Array Bool) (fr : List DV) (S : St) (g : Gh) (a : Act) (w : World), g0.le g → Rel w0 g S w → RepL g fr a.tmps.toList → Dk w0 g.obj a w →
    wpX P w0 md ops (fun fr S => Q .normal fr S) fuel listed fr S → wpAnyIn (fz ro) 0 P md ops (Good w0 g0 Q) fuel listed a w
  | 0, listed, fr, S, g, a, w, k, h1, h2, h3, h => ⟨h.1, k.kd h3, g, fr, S, k, h1, h2, h.2⟩
  | fuel + 1, listed, fr, S, g, a, w, k, h1, h2, h3, h => by
    refine ⟨fun h0 => ⟨k.kd h3, g, fr, S, k, h1, h2, h.1 h0⟩, fun i hi => ?_⟩
    have hq := h.2 i hi
    unfold tauI at hq
    unfold wpOpIn
    split
    · rename_i ho; simp only [ho] at hq; exact wpAny_of_X fuel _ fr S g a w k h1 h2 h3 hq
    · rename_i o ho
      simp only [ho] at hq
      rcases hq with ⟨hw, hb⟩ | ⟨hw, hk⟩
      · have hw' := wantB_sound (o := o) h2 hw
        rw [if_pos hw']
        refine wpIn_of_yields (bodyX_yields hb) h1 (fun x _ => rep_ev h2 x) h3 fun g' d' u S' w' k1 k2 k3 k4 k5 => ?_
        exact wpAny_of_X fuel _ _ _ g' _ _ (k.trans k1) k2 (repL_put (h2.mono k1) _ k3) (k1.dk k5) k4
      · have hw' := wantB_sound (o := o) h2 hw
        rw [if_neg (by simp [hw'])]
        exact ⟨fun _ _ => trivial, wpAny_of_X fuel _ _ _ g _ _ k h1 (repL_put h2 _ (rep_ud g)) (h3.keep (put_defers _ _ _) fun _ _ h _ => h) hk⟩
/-- A region that draws its order, where the text's order serves. -/
theorem awp_drawL {id : Nat} {l : List Oper} {fr : List DV} {S : St} {Q : Exit → List DV → St → Prop} (hm : P.follows .mixedOrders = true) (hB : lexX .any l.toArray l.length 0 (Array.replicate l.length false) = true) (h : LX P w0 l.toArray (fun fr S => Q .normal fr S) l fr S) : AWp P w0 (.region id l.toArray true) fr S Q := by
  intro g a w h1 h2 h3
  refine wpA_region_any hm fun ro => ?_
  have hR : Rel w0 g S { w with drawn := w.drawn + 1 } := h1.grow (below_drew w)
  have hcnt : ∀ l' : List Nat, l'.Nodup → (∀ k, k ∈ l' → (Array.replicate l.length false).getD k true = false) → l'.length ≤ l.length := by
    intro l' hn hl
    have hsub : ∀ k, k ∈ l' → k ∈ List.range l.length := fun k hk => by
      have := hl k hk
      rw [List.mem_range]
      rcases Nat.lt_or_ge k l.length with h | h
      · exact h
      · rw [Array.getD_eq_getD_getElem?, Array.getElem?_eq_none (by simpa using h)] at this; cases this
    have := hn.length_le_of_subset (l₂ := List.range l.length) hsub
    simpa using this
  have := wpX_lex (P := P) (w0 := w0) (md := .any) (ops := l.toArray) l 0 (Array.replicate l.length false) fr S (by simp) hcnt hB h
  have := wpAny_of_X (ro := ro) (g0 := g) (Q := Q) _ _ fr S g a _ (.refl g) hR h2 (h3.keep rfl fun _ _ h _ => h) this
  simpa using this

/-- What looks at no store: one value, at every store. -/
theorem pure_det {op : Op} (hk : kX op = 0) {fr : List DV} {S : St} {K : DV → Prop} (h : vcOpQ P w0 op fr S K) : ∃ d, (∀ S', vcOpQ P w0 op fr S' (· = d)) ∧ K d := by
  cases op with
  | move x => exact ⟨_, fun _ => rfl, h⟩
  | assign x => exact ⟨_, fun _ => rfl, h⟩
  | pick c a b => obtain ⟨d, q1, q2⟩ := det_pick h; exact ⟨d, fun _ => q1, q2⟩
  | fieldAddr t x f => obtain ⟨d, q1, q2⟩ := det_field h; exact ⟨d, fun _ => q1, q2⟩
  | indexAddr t x i => obtain ⟨d, q1, q2⟩ := det_indexAddr h; exact ⟨d, fun _ => q1, q2⟩
  | index t x i => obtain ⟨d, q1, q2⟩ := det_index h; exact ⟨d, fun _ => q1, q2⟩
  | field t x f => obtain ⟨d, q1, q2⟩ := det_fieldV h; exact ⟨d, fun _ => q1, q2⟩
  | extract x i => obtain ⟨d, q1, q2⟩ := det_extract h; exact ⟨d, fun _ => q1, q2⟩
  | nilCheck x => exact ⟨_, fun _ => ⟨h.1, rfl⟩, h.2⟩
  | binOp b t x y t' => obtain ⟨d, q1, q2⟩ := det_binA h.2; exact ⟨d, fun _ => ⟨h.1, q1⟩, q2⟩
  | unOp b t x => obtain ⟨d, q1, q2⟩ := det_un h; exact ⟨d, fun _ => q1, q2⟩
  | convert s d x => obtain ⟨d, q1, q2⟩ := det_conv h; exact ⟨d, fun _ => q1, q2⟩
  | makeInterface t x => exact ⟨_, fun _ => ⟨h.1, h.2.1, rfl⟩, h.2.2⟩
  | makeFunc fn a b => obtain ⟨d, q1, q2⟩ := det_func h; exact ⟨d, fun _ => q1, q2⟩
  | slice t x lo hi mx => obtain ⟨d, q1, q2⟩ := det_slice h.2.2; exact ⟨d, fun _ => ⟨h.1, h.2.1, q1⟩, q2⟩
  | build t parts => obtain ⟨d, q1, q2⟩ := det_build h.2; exact ⟨d, fun _ => ⟨h.1, q1⟩, q2⟩
  | buildSlice t len parts => obtain ⟨d, q1, q2⟩ := det_buildSlice h.2; exact ⟨d, fun _ => ⟨h.1, q1⟩, q2⟩
  | call c =>
    obtain ⟨callee, args, ts⟩ := c
    simp only [vcOpQ] at h ⊢
    split at h
    · split at h
      · obtain ⟨d, q1, q2⟩ := det_len h
        exact ⟨d, fun _ => by simpa using q1, q2⟩
      · exact h.elim
    · split at h
      · obtain ⟨d, q1, q2⟩ := det_cap h
        exact ⟨d, fun _ => by simpa using q1, q2⟩
      · exact h.elim
    · split at h
      · obtain ⟨d, q1, q2⟩ := det_min h
        exact ⟨d, fun _ => by simpa using q1, q2⟩
      · exact h.elim
    · split at h
      · obtain ⟨d, q1, q2⟩ := det_max h
        exact ⟨d, fun _ => by simpa using q1, q2⟩
      · exact h.elim
    · cases hk
    · exact h.elim
  | _ => first | exact h.elim | cases hk
theorem pure_detZ {op : Op} (hk : kX op = 0) {fr : List DV} {S : St} {K : DV → Prop} (h : opZ P w0 op fr S K) : ∃ d, (∀ S', opZ P w0 op fr S' (· = d)) ∧ K d := by
  cases op with
  | makeSlice t x y =>
    simp only [opZ, vMakeQ] at h ⊢
    split at h
    · obtain ⟨q1, q2, q3, q4, q5, q6⟩ := h
      exact ⟨_, fun _ => ⟨q1, q2, q3, q4, q5, rfl⟩, q6⟩
    · exact h.elim
  | convert s d x =>
    simp only [opZ] at h ⊢
    unfold vConvZ at h ⊢
    split at h
    · obtain ⟨q1, q2, q3, q4⟩ := h
      exact ⟨_, fun _ => ⟨q1, q2, q3, rfl⟩, q4⟩
    · obtain ⟨dd, p1, p2⟩ := pure_det (P := P) (w0 := w0) (op := .convert s d x) (fr := fr) (S := S) (K := K) rfl h
      exact ⟨dd, p1, p2⟩
  | _ => exact pure_det (P := P) (w0 := w0) (S := S) (fr := fr) hk h
theorem lk_ext {S : St} {B : List (Nat × List DV)} (hB : Fr S B) {b : Nat} {ds : List DV} (h : lk S.box b = some ds) : lk (B ++ S.box) b = some ds := by
  induction B with
  | nil => exact h
  | cons x B ih =>
    have h1 := hB x List.mem_cons_self
    have hne : ¬ x.1 = b := fun e => by rw [e] at h1; rw [nin_lk h1] at h; cases h
    obtain ⟨k, y⟩ := x
    show lk ((k, y) :: (B ++ S.box)) b = _
    rw [q_lk_ne hne]
    exact ih fun z hz => hB z (List.mem_cons_of_mem _ hz)
theorem load_ext {k : TK} {S : St} {x : DV} {K : DV → Prop} {B : List (Nat × List DV)} (hB : Fr S B) (h : vLoad k S x K) : vLoad k ⟨B ++ S.box, S.acc⟩ x K := by
  unfold vLoad at *
  split at h
  · split at h
    · rename_i ds hb
      simp only [lk_ext hB hb]
      exact h
    · exact h.elim
  · exact h
  · exact h
  · exact h.elim
end
/-- A call that hands back one value, whatever boxes were made beside it. -/
def QX (P : Program) (w0 : W0) (f : FuncId) (ds : List DV) (S : St) [K : Cn (DV → Prop)] : Prop := ∃ d, (∀ B, Fr S B → ACall P w0 f ds ⟨B ++ S.box, S.acc⟩ fun d' S' => d' = d ∧ S' = ⟨B ++ S.box, S.acc⟩) ∧ K.k d
def vCallX (P : Program) (w0 : W0) (cal : DV) (ds : List DV) (S : St) (K : DV → Prop) : Prop := match cal with
  | .v (.func (.func f) a cap) => a.size = 0 ∧ okF P f = true ∧ cap.toList.all (fun u => u.oneCell') = true ∧ ds.all naccA = true ∧ @QX P w0 f (ds ++ cap.toList.map .v) S ⟨K⟩
  | _ => False
def opX (P : Program) (w0 : W0) (op : Op) (fr : List DV) (S : St) (K : DV → St → Prop) : Prop := match op with
  | .load t x => vLoad (tk P t) S (ev fr x) (K · S)
  | .alloc t => okE (zD P t) = true ∧ bxK S (zD P t) K
  | .call ⟨.value cal, args, _⟩ => vCallX P w0 (ev fr cal) (args.toList.map (ev fr)) S (K · S)
  | op => selK (kX op == 0) (opZ P w0 op fr S (K · S)) (vcOp P w0 op fr S K)
def vcLX (P : Program) (w0 : W0) (ops : Array Oper) (K : List DV → St → Prop) : List Oper → List DV → St → Prop
  | [], fr, S => K fr S
  | o :: rest, fr, S => guardK ops fr o.guard (fun fr => opX P w0 o.op fr S fun d S' => vcLX P w0 ops K rest (pt fr o.dst d) S') (fun fr => vcLX P w0 ops K rest (pt fr o.dst ud) S)
section
variable {P : Program} {w0 : W0} {ops : Array Oper} {md : Region.Mode}
theorem opX_sound {o : Oper} {fr : List DV} {S : St} {K : List DV → St → Prop} (hs : okSl o.op = true) (h : opX P w0 o.op fr S fun d S' => K (pt fr o.dst d) S') : bodyX P w0 o fr S K := by
  have gen : ∀ (h : selK (kX o.op == 0) (opZ P w0 o.op fr S fun d => K (pt fr o.dst d) S) (vcOp P w0 o.op fr S fun d S' => K (pt fr o.dst d) S')), kX o.op = 0 ∨ kX o.op = 3 → bodyX P w0 o fr S K := by
    intro h hk
    rcases hk with hk | hk
    · rw [hk] at h
      obtain ⟨d, q1, q2⟩ := pure_detZ hk (show opZ P w0 o.op fr S fun d => K (pt fr o.dst d) S from h)
      exact .inl ⟨hk, d, fun S' => by
        obtain ⟨d', k1, k2⟩ := opZ_sound hs (q1 S')
        subst k2; exact k1, q2⟩
    · rw [hk] at h
      exact .inr (.inr (.inr ⟨hk, vcOp_sound hs h⟩))
  cases hop : o.op with
  | load t x =>
    rw [hop] at h hs
    obtain ⟨d, q1, q2⟩ := det_load (show vLoad (tk P t) S (ev fr x) (fun d => K (pt fr o.dst d) S) from h)
    refine .inr (.inl ⟨by rw [hop]; rfl, d, fun B hB => ?_, q2⟩)
    exact vcOp_sound (by rw [hop]; exact hs) (by rw [hop]; simpa [vcOp] using load_ext hB q1)
  | alloc t =>
    rw [hop] at h
    exact .inr (.inr (.inl ⟨by rw [hop]; rfl, t, hop, h.1, h.2⟩))
  | call c =>
    obtain ⟨callee, args, ts⟩ := c
    cases callee with
    | value cal =>
      rw [hop] at h hs
      simp only [opX, vCallX] at h
      split at h
      · rename_i f a cap hcal
        obtain ⟨h1, h2, h3, h4, d, h5, h6⟩ := h
        refine .inr (.inl ⟨by rw [hop]; rfl, d, fun B hB => ?_, h6⟩)
        exact vcOp_sound (by rw [hop]; exact hs) (by rw [hop]; simp only [vcOp, vCall, hcal]; exact ⟨h1, h3, by rw [h2, gX_t]; exact callK_id h4 (h5 B hB)⟩)
      · exact h.elim
    | builtin b =>
      refine gen (by rw [hop] at h ⊢; exact h) ?_
      rw [hop]
      cases b <;> first | exact .inl rfl | exact .inr rfl
    | invoke r m =>
      refine gen (by rw [hop] at h ⊢; exact h) ?_
      rw [hop]; exact .inr rfl
  | _ => refine gen (by rw [hop] at h ⊢; exact h) ?_; rw [hop]; first | exact .inl rfl | exact .inr rfl
theorem vcLX_sound {K : List DV → St → Prop} : ∀ (l : List Oper) {fr : List DV} {S : St}, l.all (fun o => okSl o.op) = true → vcLX P w0 ops K l fr S → LX P w0 ops K l fr S
  | [], fr, S, _, h => h
  | o :: rest, fr, S, hs, h => by
    simp only [List.all_cons, Bool.and_eq_true] at hs
    rcases guardK_want h with ⟨hw, ha⟩ | ⟨hw, hb⟩
    · exact .inl ⟨hw, bodyX_mono (fun fr S h => vcLX_sound rest hs.2 h) (opX_sound hs.1 ha)⟩
    · exact .inr ⟨hw, vcLX_sound rest hs.2 hb⟩
/-- What such a region asks. -/
def okL (l : List Oper) : Bool := l.all (fun o => okSl o.op) && lexX .any l.toArray l.length 0 (Array.replicate l.length false)
theorem lexK {id : Nat} {l : List Oper} {fr : List DV} {S : St} {Q : Exit → List DV → St → Prop} (hm : P.follows .mixedOrders = true) (hB : okL l = true) (h : vcLX P w0 l.toArray (fun fr S => normF fr fun fr => Q .normal fr S) l fr S) : AWp P w0 (.region id l.toArray true) fr S Q := by
  simp only [okL, Bool.and_eq_true] at hB
  exact awp_drawL hm hB.2 (vcLX_sound l hB.1 h)
theorem useX {f : FuncId} {args args' : List DV} {S : St} {K : DV → Prop} {r : DV} (h : ∀ B, Fr S B → ACall P w0 f args' ⟨B ++ S.box, S.acc⟩ (fun d S' => d = r ∧ S' = ⟨B ++ S.box, S.acc⟩)) (hk : K r) (ha : WkL args args' := by exact WkL.refl _) : @QX P w0 f args S ⟨K⟩ :=
  ⟨r, fun B hB => acall_one (h B hB) ha ⟨rfl, rfl⟩, hk⟩
end
end Aml.Z

namespace Aml.Z
open Go Go.RowKit
set_option linter.unusedVariables false
set_option linter.unusedSimpArgs false
section
variable {P : Program} {w0 : W0} {ops : Array Oper} {fr : List DV} {S : St} {rest : List Oper} {dst : Option Tmp} {op : Op} {ty : TypeId} {pos : String} {aft : Array Edge}
section
variable {K : List DV → St → Prop}
theorem x_nil : vcLX P w0 ops K [] fr S = K fr S := rfl
theorem x_none : vcLX P w0 ops K (⟨dst, op, ty, pos, aft, none⟩ :: rest) fr S = opX P w0 op fr S fun d S' => vcLX P w0 ops K rest (pt fr dst d) S' := rfl
theorem x_some (j : Nat) (want : Bool) : vcLX P w0 ops K (⟨dst, op, ty, pos, aft, some (j, want)⟩ :: rest) fr S = gK ((ops[j]?).bind (·.dst)) fr want (fun fr => opX P w0 op fr S fun d S' => vcLX P w0 ops K rest (pt fr dst d) S') (fun fr => vcLX P w0 ops K rest (pt fr dst ud) S) := q_guard _ _ _ _ _ _
end
variable {K : DV → St → Prop}
theorem x_load (t : TypeId) (x : Operand) : opX P w0 (.load t x) fr S K = vLoad (tk P t) S (ev fr x) (K · S) := rfl
theorem x_alloc (t : TypeId) : opX P w0 (.alloc t) fr S K = (okE (zD P t) = true ∧ bxK S (zD P t) K) := rfl
theorem x_call (cal : Operand) (a : List Operand) (ts : Array TypeId) : opX P w0 (.call ⟨.value cal, a.toArray, ts⟩) fr S K = vCallX P w0 (ev fr cal) (a.map (ev fr)) S (K · S) := rfl
theorem x_callF (f : FuncId) (a cap : Array Value) (ds : List DV) (K : DV → Prop) : vCallX P w0 (.v (.func (.func f) a cap)) ds S K = (a.size = 0 ∧ okF P f = true ∧ cap.toList.all (fun u => u.oneCell') = true ∧ ds.all naccA = true ∧ @QX P w0 f (ds ++ cap.toList.map .v) S ⟨K⟩) := rfl
@[congr] theorem c_vCallX {cal cal' : DV} {ds ds' : List DV} {S' : St} {K : DV → Prop} (h1 : cal = cal') (h2 : ds = ds') (h3 : S = S') : vCallX P w0 cal ds S K = vCallX P w0 cal' ds' S' K := by cases h1; cases h2; cases h3; rfl
theorem x_move (x : Operand) : opX P w0 (.move x) fr S K = vcOpQ P w0 (.move x) fr S (K · S) := rfl
theorem x_assign (x : Operand) : opX P w0 (.assign x) fr S K = vcOpQ P w0 (.assign x) fr S (K · S) := rfl
theorem x_pick (c a b : Operand) : opX P w0 (.pick c a b) fr S K = vcOpQ P w0 (.pick c a b) fr S (K · S) := rfl
theorem x_fieldAddr (t : TypeId) (x : Operand) (f : Nat) : opX P w0 (.fieldAddr t x f) fr S K = vcOpQ P w0 (.fieldAddr t x f) fr S (K · S) := rfl
theorem x_indexAddr (t : TypeId) (x i : Operand) : opX P w0 (.indexAddr t x i) fr S K = vcOpQ P w0 (.indexAddr t x i) fr S (K · S) := rfl
theorem x_index (t : TypeId) (x i : Operand) : opX P w0 (.index t x i) fr S K = vcOpQ P w0 (.index t x i) fr S (K · S) := rfl
theorem x_field (t : TypeId) (x : Operand) (f : Nat) : opX P w0 (.field t x f) fr S K = vcOpQ P w0 (.field t x f) fr S (K · S) := rfl
theorem x_extract (x : Operand) (i : Nat) : opX P w0 (.extract x i) fr S K = vcOpQ P w0 (.extract x i) fr S (K · S) := rfl
theorem x_nilCheck (x : Operand) : opX P w0 (.nilCheck x) fr S K = vcOpQ P w0 (.nilCheck x) fr S (K · S) := rfl
theorem x_binOp (b : BinOp) (t : TypeId) (x y : Operand) (t' : TypeId) : opX P w0 (.binOp b t x y t') fr S K = vcOpQ P w0 (.binOp b t x y t') fr S (K · S) := rfl
theorem x_unOp (b : UnOp) (t : TypeId) (x : Operand) : opX P w0 (.unOp b t x) fr S K = vcOpQ P w0 (.unOp b t x) fr S (K · S) := rfl
theorem x_convert (s d : TypeId) (x : Operand) : opX P w0 (.convert s d x) fr S K = opZ P w0 (.convert s d x) fr S (K · S) := rfl
theorem x_makeInterface (t : TypeId) (x : Operand) : opX P w0 (.makeInterface t x) fr S K = vcOpQ P w0 (.makeInterface t x) fr S (K · S) := rfl
theorem x_makeFunc (fn : Fn) (a b : Array Operand) : opX P w0 (.makeFunc fn a b) fr S K = vcOpQ P w0 (.makeFunc fn a b) fr S (K · S) := rfl
theorem x_slice (t : TypeId) (x : Operand) (lo hi mx : Option Operand) : opX P w0 (.slice t x lo hi mx) fr S K = vcOpQ P w0 (.slice t x lo hi mx) fr S (K · S) := rfl
theorem x_build (t : TypeId) (parts : Array (Nat × Operand)) : opX P w0 (.build t parts) fr S K = vcOpQ P w0 (.build t parts) fr S (K · S) := rfl
theorem x_buildSlice (t : TypeId) (len : Nat) (parts : Array (Nat × Operand)) : opX P w0 (.buildSlice t len parts) fr S K = vcOpQ P w0 (.buildSlice t len parts) fr S (K · S) := rfl
theorem x_typeAssert (x : Operand) (xt t : TypeId) (ok : Bool) : opX P w0 (.typeAssert x xt t ok) fr S K = vcOp P w0 (.typeAssert x xt t ok) fr S K := rfl
theorem x_box (t : TypeId) (x : Operand) : opX P w0 (.box t x) fr S K = vcOp P w0 (.box t x) fr S K := rfl
theorem x_store (t : TypeId) (x y : Operand) : opX P w0 (.store t x y) fr S K = vcOp P w0 (.store t x y) fr S K := rfl
theorem x_makeSlice (t : TypeId) (x y : Operand) : opX P w0 (.makeSlice t x y) fr S K = opZ P w0 (.makeSlice t x y) fr S (K · S) := rfl
theorem x_b_len (a : Array Operand) (ts : Array TypeId) : opX P w0 (.call ⟨.builtin .len, a, ts⟩) fr S K = vcOpQ P w0 (.call ⟨.builtin .len, a, ts⟩) fr S (K · S) := rfl
theorem x_b_cap (a : Array Operand) (ts : Array TypeId) : opX P w0 (.call ⟨.builtin .cap, a, ts⟩) fr S K = vcOpQ P w0 (.call ⟨.builtin .cap, a, ts⟩) fr S (K · S) := rfl
theorem x_b_min (a : Array Operand) (ts : Array TypeId) : opX P w0 (.call ⟨.builtin .min, a, ts⟩) fr S K = vcOpQ P w0 (.call ⟨.builtin .min, a, ts⟩) fr S (K · S) := rfl
theorem x_b_max (a : Array Operand) (ts : Array TypeId) : opX P w0 (.call ⟨.builtin .max, a, ts⟩) fr S K = vcOpQ P w0 (.call ⟨.builtin .max, a, ts⟩) fr S (K · S) := rfl
theorem x_b_append (a : Array Operand) (ts : Array TypeId) : opX P w0 (.call ⟨.builtin .append, a, ts⟩) fr S K = vcOp P w0 (.call ⟨.builtin .append, a, ts⟩) fr S K := rfl
end
attribute [go_sem ↓] x_nil x_none x_some x_load x_alloc x_call x_callF x_move x_assign x_pick x_fieldAddr x_indexAddr x_index x_field x_extract x_nilCheck x_binOp x_unOp x_convert x_makeInterface x_makeFunc x_slice x_build x_buildSlice x_typeAssert x_box x_store x_makeSlice x_b_len x_b_cap x_b_min x_b_max x_b_append
theorem n_beq_t (b : Bool) : (true == b) = b := by cases b <;> rfl
theorem n_beq_f (b : Bool) : (false == b) = !b := by cases b <;> rfl
theorem n_t_beq (b : Bool) : (b == true) = b := by cases b <;> rfl
theorem n_f_beq (b : Bool) : (b == false) = !b := by cases b <;> rfl
attribute [go_sem] n_beq_t n_beq_f n_t_beq n_f_beq
end Aml.Z

namespace Aml
open Go Go.RowKit
set_option linter.unusedVariables false
set_option linter.unusedSimpArgs false
section
variable {P : Program} {w0 : W0}
theorem mapOkK {l : Nat} {kk : KK} {es : List (Value × DV × Nat)} {clk : Nat} {c : Code} {fr : List DV} {S : St} {Q : Exit → List DV → St → Prop} (hl : lk S.acc l = some (.xo (.mp kk es clk))) (h : MapOk kk es clk → AWp P w0 c fr S Q) : AWp P w0 c fr S Q := by
  intro g a w h1 h2 h3
  obtain ⟨b, o, q1, q2, es', q3, q4, q5⟩ := h1.getX hl
  exact h q5 g a w h1 h2 h3
theorem acall_mapOk {f : FuncId} {args : List DV} {S : St} {K : DV → St → Prop} {l : Nat} {kk : KK} {es : List (Value × DV × Nat)} {clk : Nat} (hl : lk S.acc l = some (.xo (.mp kk es clk))) (h : MapOk kk es clk → ACall P w0 f args S K) : ACall P w0 f args S K := by
  intro g vs w h1 h2
  obtain ⟨b, o, q1, q2, es', q3, q4, q5⟩ := h1.getX hl
  exact h q5 g vs w h1 h2
end
theorem find_rep (k k' : Value) (d : DV) : ∀ es : List (Value × DV × Nat), ((es.map (mRep k d)).find? fun e => @decide (e.1 = k') (Classical.propDecidable _)) = (es.find? fun e => @decide (e.1 = k') (Classical.propDecidable _)).map (mRep k d) := by
  intro es
  rw [List.find?_map]
  congr 2
  funext e
  simp only [Function.comp]
  rcases Classical.em (e.1 = k) with h | h
  · rw [mRep_eq h]
  · rw [mRep_ne h]
/-- What a map has, when something was put. -/
theorem mGet_set_same (es : List (Value × DV × Nat)) (clk : Nat) (k : Value) (d : DV) : mGet (mSet es clk k d) k = some d := by
  unfold mSet
  cases hg : mGet es k with
  | none =>
    simp only [Option.isSome_none, Bool.false_eq_true, if_false]
    unfold mGet at hg ⊢
    rw [List.find?_append]
    rw [Option.map_eq_none_iff] at hg
    rw [hg]
    simp
  | some x =>
    simp only [Option.isSome_some, if_true]
    unfold mGet at hg ⊢
    rw [find_rep]
    obtain ⟨y, hy, _⟩ := Option.map_eq_some_iff.1 hg
    rw [hy]
    have := List.find?_some hy
    simp only [decide_eq_true_eq] at this
    simp [mRep_eq this]
theorem mGet_set_ne (es : List (Value × DV × Nat)) (clk : Nat) {k k' : Value} (e : k' ≠ k) (d : DV) : mGet (mSet es clk k d) k' = mGet es k' := by
  unfold mSet
  cases hg : mGet es k with
  | none =>
    simp only [Option.isSome_none, Bool.false_eq_true, if_false]
    unfold mGet
    rw [List.find?_append]
    have : List.find? (fun e => @decide (e.1 = k') (Classical.propDecidable _)) [(k, d, clk)] = none := by
      rw [List.find?_eq_none]
      intro x hx
      rw [List.mem_singleton] at hx; subst hx
      simp; exact fun h => e h.symm
    rw [this, Option.or_none]
  | some x =>
    simp only [Option.isSome_some, if_true]
    unfold mGet
    rw [find_rep]
    cases hf : es.find? fun e => @decide (e.1 = k') (Classical.propDecidable _) with
    | none => rfl
    | some y =>
      have := List.find?_some hf
      simp only [decide_eq_true_eq] at this
      simp only [Option.map_some]
      rw [mRep_ne (by rw [this]; exact e)]
theorem mGet_del_same (es : List (Value × DV × Nat)) (k : Value) : mGet (mDel es k) k = none := by
  rw [mGet_none]
  intro e he
  have := (List.mem_filter.1 he).2
  simpa using this
theorem mGet_del_ne (es : List (Value × DV × Nat)) {k k' : Value} (e : k' ≠ k) : mGet (mDel es k) k' = mGet es k' := by
  unfold mGet mDel
  rw [List.find?_filter]
  congr 2
  funext x
  rcases Classical.em (x.1 = k') with h | h
  · simp [h, e]
  · simp [h]
end Aml

namespace Go.Proofs.Ytodndiioekjjoaa
open Aml Go
@[go_sem] def dL (l : List Int) : DV := .sl 1 false (l.map dI)
theorem getE {α : Type} {l : List α} {k : Nat} {a b : α} (h : l[k]? = some a) (h' : l[k]? = some b) : a = b := by rw [h] at h'; exact Option.some.inj h'
end Go.Proofs.Ytodndiioekjjoaa

namespace Aml.Y
open Go Go.RowKit
set_option linter.unusedVariables false
set_option linter.unusedSimpArgs false

/-- 0: looks at no store; 1: reads the store of the beginning; 2: keeps that; 4: makes a box; 3: else. -/
def kY (op : Op) : Nat := match op with
  | .lookup .. => 1
  | op => Z.kX op
def cls (gs ns : List Nat) (i : Nat) (op : Op) : Nat := if gs.contains i then 2 else if ns.contains i then 3 else match kY op with
  | 0 => 0
  | 1 => 1
  | 2 => 4
  | _ => 3
/-- May two that have no order change places? -/
def okP (a b : Nat) : Bool := a == 0 || (a == 1 && (decide (b < 3) || b == 4)) || (a == 4 && b == 4)
/-- The same store, but for its order. -/
structure StP (S T : St) : Prop where
  box : S.box.Perm T.box
  acc : S.acc.Perm T.acc
theorem StP.refl (S : St) : StP S S := ⟨.refl _, .refl _⟩
theorem StP.symm {S T : St} (h : StP S T) : StP T S := ⟨h.box.symm, h.acc.symm⟩
theorem StP.trans {S T U : St} (h : StP S T) (k : StP T U) : StP S U := ⟨h.box.trans k.box, h.acc.trans k.acc⟩
theorem StP.rel {w0 : W0} {g : Gh} {S T : St} {w : World} (h : StP S T) (r : Rel w0 g S w) : Rel w0 g T w :=
  ⟨r.below, r.imm, (h.box.map _).nodup_iff.1 r.nb, (h.acc.map _).nodup_iff.1 r.na, r.accw, r.fresh, fun l o ho => r.top l o (h.acc.mem_iff.2 ho), let ⟨ow, h1, h2⟩ := r.own
    ⟨ow, fun b ds hb => h1 b ds (h.box.mem_iff.2 hb), fun l o hl => h2 l o (h.acc.mem_iff.2 hl)⟩⟩
theorem nin_all {α : Type} : ∀ {l : List (Nat × α)} {b : Nat}, nin l b → ∀ p, p ∈ l → p.1 ≠ b
  | [], b, _, p, h => by cases h
  | (k, x) :: t, b, h, p, hp => by
      rcases List.mem_cons.1 hp with rfl | hp
      · exact h.1
      · exact nin_all h.2.2 p hp
theorem nin_ex {α : Type} (l : List (Nat × α)) : ∃ b, nin l b := by
  have : ∃ b, ∀ p, p ∈ l → p.1 < b := by
    induction l with
    | nil => exact ⟨0, fun p h => by cases h⟩
    | cons a l ih =>
      obtain ⟨b, hb⟩ := ih
      refine ⟨a.1 + b + 1, fun p hp => ?_⟩
      rcases List.mem_cons.1 hp with rfl | hp
      · omega
      · have := hb p hp; omega
  obtain ⟨b, hb⟩ := this
  exact ⟨b, nin_of fun p hp e => by have := hb p hp; omega⟩
theorem StP.nin {S T : St} (h : StP S T) {b : Nat} (k : nin S.box b) : nin T.box b := nin_of fun p hp => nin_all k p (h.box.mem_iff.2 hp)
theorem StP.yields {P : Program} {w0 : W0} {o : Oper} {ρ : Operand → DV} {S T : St} {K : DV → St → Prop} (h : StP S T) (y : YieldsE P w0 o ρ S K) : YieldsE P w0 o ρ T K :=
  fun g w r h1 h2 h3 => y g w r (h.symm.rel h1) h2 h3
/-- The store of the beginning is in it. -/
structure Hm (X T : St) : Prop where
  box : ∀ b x, lk X.box b = some x → (b, x) ∈ T.box
  acc : ∀ l o, lk X.acc l = some o → (l, o) ∈ T.acc
theorem Hm.of {X T : St} (h : Has X T) : Hm X T := ⟨fun b x hb => lk_mem (h.box b x hb), fun l o hl => lk_mem (h.acc l o hl)⟩
theorem Hm.perm {X S T : St} (h : Hm X S) (k : StP S T) : Hm X T := ⟨fun b x hb => k.box.mem_iff.1 (h.box b x hb), fun l o hl => k.acc.mem_iff.1 (h.acc l o hl)⟩
theorem Hm.has {X T : St} {w0 : W0} {g : Gh} {w : World} (h : Hm X T) (r : Rel w0 g T w) : Has X T := ⟨fun b x hb => lk_of_mem r.nb (h.box b x hb), fun l o hl => lk_of_mem r.na (h.acc l o hl)⟩
/-- Of some order of the store. -/
def PC (F : List DV → St → Prop) (fr : List DV) (S : St) : Prop := ∃ T, StP T S ∧ F fr T
theorem PC.mono {F G : List DV → St → Prop} (h : ∀ fr S, F fr S → G fr S) {fr : List DV} {S : St} (k : PC F fr S) : PC G fr S := let ⟨T, a, b⟩ := k; ⟨T, a, h _ _ b⟩
def Clo (K : List DV → St → Prop) : Prop := ∀ fr S T, StP S T → K fr S → K fr T
theorem PC.clo (F : List DV → St → Prop) : Clo (PC F) := fun _ _ _ h ⟨U, a, b⟩ => ⟨U, a.trans h, b⟩
def bodyO (P : Program) (w0 : W0) (S0 : St) (c : Nat) (o : Oper) (fr : List DV) (S : St) (K : List DV → St → Prop) : Prop :=
  (c = 0 ∧ ∃ d, (∀ S', QY P w0 S' o fr d) ∧ K (pt fr o.dst d) S) ∨
  (c = 1 ∧ Hm S0 S ∧ ∃ d, (∀ S', Hm S0 S' → QY P w0 S' o fr d) ∧ K (pt fr o.dst d) S) ∨
  (c = 2 ∧ YieldsE P w0 o (ev fr) S fun d S' => Hm S0 S' ∧ K (pt fr o.dst d) S') ∨
  (c = 3 ∧ YieldsE P w0 o (ev fr) S fun d S' => K (pt fr o.dst d) S') ∨
  (c = 4 ∧ Hm S0 S ∧ ∃ t, o.op = .alloc t ∧ okE (zD P t) = true ∧ ∀ b, nin S.box b → K (pt fr o.dst (.v (.pointer (some ⟨b, 0, none⟩)))) ⟨(b, cd (zD P t)) :: S.box, S.acc⟩)
def tauO (P : Program) (w0 : W0) (S0 : St) (c : Nat) (ops : Array Oper) (o : Oper) (fr : List DV) (S : St) (K : List DV → St → Prop) : Prop :=
  (wantB ops fr o.guard = some true ∧ bodyO P w0 S0 c o fr S K) ∨ (wantB ops fr o.guard = some false ∧ K (pt fr o.dst ud) S)

section
variable {P : Program} {w0 : W0} {S0 : St} {ops : Array Oper} {md : Region.Mode}
theorem bodyO_mono {c : Nat} {o : Oper} {fr : List DV} {S : St} {K K' : List DV → St → Prop} (h : ∀ fr S, K fr S → K' fr S) (b : bodyO P w0 S0 c o fr S K) : bodyO P w0 S0 c o fr S K' := by
  rcases b with ⟨c, d, q, k⟩ | ⟨c, hS, d, q, k⟩ | ⟨c, q⟩ | ⟨c, q⟩ | ⟨c, hS, t, ht, hz, k⟩
  · exact .inl ⟨c, d, q, h _ _ k⟩
  · exact .inr (.inl ⟨c, hS, d, q, h _ _ k⟩)
  · exact .inr (.inr (.inl ⟨c, yields_mono (fun d S hk => ⟨hk.1, h _ _ hk.2⟩) q⟩))
  · exact .inr (.inr (.inr (.inl ⟨c, yields_mono (fun d S hk => h _ _ hk) q⟩)))
  · exact .inr (.inr (.inr (.inr ⟨c, hS, t, ht, hz, fun b hb => h _ _ (k b hb)⟩)))
theorem tauO_mono {c : Nat} {o : Oper} {fr : List DV} {S : St} {K K' : List DV → St → Prop} (h : ∀ fr S, K fr S → K' fr S) (b : tauO P w0 S0 c ops o fr S K) : tauO P w0 S0 c ops o fr S K' :=
  b.imp (fun ⟨a, b⟩ => ⟨a, bodyO_mono h b⟩) fun ⟨a, b⟩ => ⟨a, h _ _ b⟩
/-- A store's order plays no part. -/
theorem tauO_clo {c : Nat} {o : Oper} {K : List DV → St → Prop} (hK : Clo K) : Clo fun fr S => tauO P w0 S0 c ops o fr S K := fun fr S T hp h => by
  rcases h with ⟨g, b⟩ | ⟨g, k⟩
  · refine .inl ⟨g, ?_⟩
    rcases b with ⟨c, d, q, k⟩ | ⟨c, hS, d, q, k⟩ | ⟨c, q⟩ | ⟨c, q⟩ | ⟨c, hS, t, ht, hz, k⟩
    · exact .inl ⟨c, d, q, hK _ _ _ hp k⟩
    · exact .inr (.inl ⟨c, hS.perm hp, d, q, hK _ _ _ hp k⟩)
    · exact .inr (.inr (.inl ⟨c, hp.yields q⟩))
    · exact .inr (.inr (.inr (.inl ⟨c, hp.yields q⟩)))
    · exact .inr (.inr (.inr (.inr ⟨c, hS.perm hp, t, ht, hz, fun b hb => hK _ ⟨(b, cd (zD P t)) :: S.box, S.acc⟩ _ ⟨hp.box.cons _, hp.acc⟩ (k b (hp.symm.nin hb))⟩)))
  · exact .inr ⟨g, hK _ _ _ hp k⟩
/-- What another one puts elsewhere is not seen. -/
theorem bodyO_put {c : Nat} {o : Oper} {fr : List DV} {S : St} {K : List DV → St → Prop} {dst : Option Tmp} {e : DV} (h1 : ∀ t, dst = some t → t ∉ o.looksAt ops) (h2 : ∀ t, dst = some t → o.dst ≠ some t) :
    bodyO P w0 S0 c o (pt fr dst e) S K ↔ bodyO P w0 S0 c o fr S fun fr' S' => K (pt fr' dst e) S' := by
  have hq : ∀ S d, QY P w0 S o (pt fr dst e) d ↔ QY P w0 S o fr d := fun S d =>
    ⟨yields_congr (fun x hx => ev_put (ops := ops) h1 x hx), yields_congr (fun x hx => (ev_put (ops := ops) h1 x hx).symm)⟩
  have hc : ∀ d, pt (pt fr dst e) o.dst d = pt (pt fr o.dst d) dst e := fun d => pt_comm fr e d h2
  have hy : ∀ K, YieldsE P w0 o (ev (pt fr dst e)) S K ↔ YieldsE P w0 o (ev fr) S K := fun K =>
    ⟨yields_congr (fun x hx => ev_put (ops := ops) h1 x hx), yields_congr (fun x hx => (ev_put (ops := ops) h1 x hx).symm)⟩
  unfold bodyO
  simp only [hq, hc, hy]
theorem tauO_put {c : Nat} {o : Oper} {fr : List DV} {S : St} {K : List DV → St → Prop} {dst : Option Tmp} {e : DV} (h1 : ∀ t, dst = some t → t ∉ o.looksAt ops) (h2 : ∀ t, dst = some t → o.dst ≠ some t) :
    tauO P w0 S0 c ops o (pt fr dst e) S K ↔ tauO P w0 S0 c ops o fr S fun fr' S' => K (pt fr' dst e) S' := by
  unfold tauO
  rw [want_put h1, bodyO_put h1 h2, pt_comm fr e ud h2]
theorem bodyO_monoP {c : Nat} {o : Oper} {fr : List DV} {S : St} {K K' : List DV → St → Prop} (h : ∀ e S, K (pt fr o.dst e) S → K' (pt fr o.dst e) S) (b : bodyO P w0 S0 c o fr S K) : bodyO P w0 S0 c o fr S K' := by
  rcases b with ⟨c, d, q, k⟩ | ⟨c, hS, d, q, k⟩ | ⟨c, q⟩ | ⟨c, q⟩ | ⟨c, hS, t, ht, hz, k⟩
  · exact .inl ⟨c, d, q, h _ _ k⟩
  · exact .inr (.inl ⟨c, hS, d, q, h _ _ k⟩)
  · exact .inr (.inr (.inl ⟨c, yields_mono (fun d S hk => ⟨hk.1, h _ _ hk.2⟩) q⟩))
  · exact .inr (.inr (.inr (.inl ⟨c, yields_mono (fun d S hk => h _ _ hk) q⟩)))
  · exact .inr (.inr (.inr (.inr ⟨c, hS, t, ht, hz, fun b hb => h _ _ (k b hb)⟩)))
theorem tauO_monoP {c : Nat} {o : Oper} {fr : List DV} {S : St} {K K' : List DV → St → Prop} (h : ∀ e S, K (pt fr o.dst e) S → K' (pt fr o.dst e) S) (b : tauO P w0 S0 c ops o fr S K) : tauO P w0 S0 c ops o fr S K' :=
  b.imp (fun ⟨a, b⟩ => ⟨a, bodyO_monoP h b⟩) fun ⟨a, b⟩ => ⟨a, h _ _ b⟩
theorem Hm.cons {X S : St} (h : Hm X S) {b : Nat} (v : List DV) : Hm X ⟨(b, v) :: S.box, S.acc⟩ := ⟨fun c x hc => List.mem_cons_of_mem _ (h.box c x hc), fun l o hl => h.acc l o hl⟩
/-- Two that are apart change places. -/
theorem tauO_comm0 {cx cy : Nat} {x y : Oper} (hap : x.apart ops y = true) (hk : okP cx cy = true) {fr : List DV} {S : St} {K : List DV → St → Prop} (hK : Clo K) (h : tauO P w0 S0 cx ops x fr S fun fr S => tauO P w0 S0 cy ops y fr S K) :
    tauO P w0 S0 cy ops y fr S fun fr S => tauO P w0 S0 cx ops x fr S K := by
  obtain ⟨b1, b2, b3⟩ := Oper.apart_spec hap
  have hw : ∀ e, wantB ops (pt fr y.dst e) x.guard = wantB ops fr x.guard := fun e => want_put b3
  have hq : ∀ {S d e}, QY P w0 S x fr d → QY P w0 S x (pt fr y.dst e) d := fun {S d e} q => yields_congr (fun z hz => (ev_put (ops := ops) b3 z hz).symm) q
  rcases h with ⟨hg, hb⟩ | ⟨hg, hb⟩
  · rcases hb with ⟨c, d, q, k⟩ | ⟨c, hS, d, q, k⟩ | ⟨c, -⟩ | ⟨c, -⟩ | ⟨c, hS, t, ht, hz, k⟩
    · rw [tauO_put b1 b2] at k
      exact tauO_monoP (fun e S' hk => .inl ⟨by rw [hw]; exact hg, .inl ⟨c, d, fun S'' => hq (q S''), hk⟩⟩) k
    · rw [tauO_put b1 b2] at k
      rcases k with ⟨g2, k⟩ | ⟨g2, k⟩
      · rcases k with ⟨c2, d2, q2, k⟩ | ⟨c2, hS2, d2, q2, k⟩ | ⟨c2, q2⟩ | ⟨c2, -⟩ | ⟨c2, hS2, t2, ht2, hz2, k2⟩
        · exact .inl ⟨g2, .inl ⟨c2, d2, q2, .inl ⟨by rw [hw]; exact hg, .inr (.inl ⟨c, hS, d, fun S' h' => hq (q S' h'), k⟩)⟩⟩⟩
        · exact .inl ⟨g2, .inr (.inl ⟨c2, hS2, d2, q2, .inl ⟨by rw [hw]; exact hg, .inr (.inl ⟨c, hS, d, fun S' h' => hq (q S' h'), k⟩)⟩⟩)⟩
        · exact .inl ⟨g2, .inr (.inr (.inl ⟨c2, yields_mono (fun e S' h' => ⟨h'.1, .inl ⟨by rw [hw]; exact hg, .inr (.inl ⟨c, h'.1, d, fun S'' h'' => hq (q S'' h''), h'.2⟩)⟩⟩) q2⟩))⟩
        · rw [c, c2] at hk; exact absurd hk (by decide)
        · exact .inl ⟨g2, .inr (.inr (.inr (.inr ⟨c2, hS2, t2, ht2, hz2, fun b hb => .inl ⟨by rw [hw]; exact hg, .inr (.inl ⟨c, Hm.cons hS _, d, fun S'' h'' => hq (q S'' h''), k2 b hb⟩)⟩⟩)))⟩
      · exact .inr ⟨g2, .inl ⟨by rw [hw]; exact hg, .inr (.inl ⟨c, hS, d, fun S' h' => hq (q S' h'), k⟩)⟩⟩
    · rw [c] at hk; simp [okP] at hk
    · rw [c] at hk; simp [okP] at hk
    · have hc2 : cy = 4 := by rw [c] at hk; simpa [okP] using hk
      subst hc2
      rcases Classical.em (wantB ops fr y.guard = some true) with g2 | g2
      · refine .inl ⟨g2, .inr (.inr (.inr (.inr ⟨rfl, hS, ?_⟩)))⟩
        obtain ⟨a0, ha0⟩ := nin_ex S.box
        have k0 : tauO P w0 S0 4 ops y (pt fr x.dst (.v (.pointer (some ⟨a0, 0, none⟩)))) ⟨(a0, cd (zD P t)) :: S.box, S.acc⟩ K := k a0 ha0
        rw [tauO_put b1 b2] at k0
        have gen : ∀ a, nin S.box a → ∃ t2, y.op = .alloc t2 ∧ okE (zD P t2) = true ∧ ∀ b, nin ((a, cd (zD P t)) :: S.box) b → K (pt (pt fr y.dst (.v (.pointer (some ⟨b, 0, none⟩)))) x.dst (.v (.pointer (some ⟨a, 0, none⟩)))) ⟨(b, cd (zD P t2)) :: (a, cd (zD P t)) :: S.box, S.acc⟩ := fun a ha => by
          have k1 : tauO P w0 S0 4 ops y (pt fr x.dst (.v (.pointer (some ⟨a, 0, none⟩)))) ⟨(a, cd (zD P t)) :: S.box, S.acc⟩ K := k a ha
          rw [tauO_put b1 b2] at k1
          rcases k1 with ⟨-, b⟩ | ⟨g3, -⟩
          · rcases b with ⟨c2, -⟩ | ⟨c2, -⟩ | ⟨c2, -⟩ | ⟨c2, -⟩ | ⟨c2, -, t2, ht2, hz2, k2⟩
            · cases c2
            · cases c2
            · cases c2
            · cases c2
            · exact ⟨t2, ht2, hz2, fun b hb => k2 b hb⟩
          · rw [g2] at g3; cases g3
        obtain ⟨t2, ht2, hz2, -⟩ := gen a0 ha0
        refine ⟨t2, ht2, hz2, fun b hb => .inl ⟨by rw [hw]; exact hg, .inr (.inr (.inr (.inr ⟨c, Hm.cons hS _, t, ht, hz, fun a ha => ?_⟩)))⟩⟩
        obtain ⟨t3, ht3, -, k3⟩ := gen a ha.2.2
        rw [ht2] at ht3; cases ht3
        exact hK _ ⟨(b, cd (zD P t2)) :: (a, cd (zD P t)) :: S.box, S.acc⟩ _ ⟨.swap _ _ _, .refl _⟩ (k3 b ⟨fun e => ha.2.1 e, fun e => ha.1 e, hb⟩)
      · obtain ⟨a0, ha0⟩ := nin_ex S.box
        have k0 : tauO P w0 S0 4 ops y (pt fr x.dst (.v (.pointer (some ⟨a0, 0, none⟩)))) ⟨(a0, cd (zD P t)) :: S.box, S.acc⟩ K := k a0 ha0
        rw [tauO_put b1 b2] at k0
        rcases k0 with ⟨g3, -⟩ | ⟨g3, -⟩
        · exact absurd g3 g2
        · refine .inr ⟨g3, .inl ⟨by rw [hw]; exact hg, .inr (.inr (.inr (.inr ⟨c, hS, t, ht, hz, fun a ha => ?_⟩)))⟩⟩
          have k1 : tauO P w0 S0 4 ops y (pt fr x.dst (.v (.pointer (some ⟨a, 0, none⟩)))) ⟨(a, cd (zD P t)) :: S.box, S.acc⟩ K := k a ha
          rw [tauO_put b1 b2] at k1
          rcases k1 with ⟨g4, -⟩ | ⟨g4, k1⟩
          · exact absurd g4 g2
          · exact k1
  · rw [tauO_put b1 b2] at hb
    exact tauO_monoP (fun e S' hk => .inr ⟨by rw [hw]; exact hg, hk⟩) hb
theorem tauO_comm {cx cy : Nat} {x y : Oper} (hap : x.apart ops y = true) (hk : okP cx cy = true) {fr : List DV} {S : St} {K : List DV → St → Prop} (h : tauO P w0 S0 cx ops x fr S (PC fun fr S => tauO P w0 S0 cy ops y fr S (PC K))) :
    tauO P w0 S0 cy ops y fr S (PC fun fr S => tauO P w0 S0 cx ops x fr S (PC K)) :=
  tauO_mono (fun fr S h => ⟨S, .refl S, h⟩) (tauO_comm0 hap hk (PC.clo K) (tauO_mono (fun fr S ⟨T, hp, h⟩ => tauO_clo (PC.clo K) _ _ _ hp h) h))

def tauI (P : Program) (w0 : W0) (S0 : St) (gs ns : List Nat) (ops : Array Oper) (i : Nat) (fr : List DV) (S : St) (K : List DV → St → Prop) : Prop := match ops[i]? with
  | none => K fr S
  | some o => tauO P w0 S0 (cls gs ns i o.op) ops o fr S K
def wpO (P : Program) (w0 : W0) (S0 : St) (gs ns : List Nat) (md : Region.Mode) (ops : Array Oper) (K : List DV → St → Prop) : Nat → Array Bool → List DV → St → Prop
  | 0, listed, fr, S => Region.ready md ops listed = [] ∧ K fr S
  | fuel + 1, listed, fr, S => (Region.ready md ops listed = [] → K fr S) ∧ ∀ i ∈ Region.ready md ops listed, tauI P w0 S0 gs ns ops i fr S (PC (wpO P w0 S0 gs ns md ops K fuel (listed.setIfInBounds i true)))
theorem wpO_first {gs ns D : List Nat} {K : List DV → St → Prop} {i : Nat} {oi : Oper} (hi : ops[i]? = some oi) :
    ∀ (fuel : Nat) (listed : Array Bool) (fr : List DV) (S : St),
      (∀ j, j ∈ D → listed.getD j true = false ∧ ∃ oj, ops[j]? = some oj ∧ ∃ e ∈ oj.after, Region.binds md e = true ∧ (e.on = i ∨ e.on ∈ D)) →
      (∀ j oj, ops[j]? = some oj → j ≠ i → listed.getD j true = false → j ∉ D → oi.apart ops oj = true ∧ okP (cls gs ns i oi.op) (cls gs ns j oj.op) = true) →
      (∀ l : List Nat, l.Nodup → (∀ k, k ∈ l → listed.getD k true = false) → l.length ≤ fuel + 1) →
      i ∈ Region.ready md ops listed → tauO P w0 S0 (cls gs ns i oi.op) ops oi fr S (PC (wpO P w0 S0 gs ns md ops K fuel (listed.setIfInBounds i true))) → wpO P w0 S0 gs ns md ops K (fuel + 1) listed fr S := by
  intro fuel
  induction fuel with
  | zero =>
    intro listed fr S _ _ hcnt hr H
    refine ⟨fun h => (by rw [h] at hr; cases hr), fun j hj => ?_⟩
    by_cases hji : j = i
    · subst hji; unfold tauI; simp only [hi]; exact H
    · exfalso
      have := hcnt [i, j] (by simp [Ne.symm hji]) fun k hk => by
        simp only [List.mem_cons, List.not_mem_nil, or_false] at hk
        rcases hk with rfl | rfl
        · exact (mem_ready.1 hr).1
        · exact (mem_ready.1 hj).1
      simp at this
  | succ fuel ih =>
    intro listed fr S hD hfree hcnt hr H
    refine ⟨fun h => (by rw [h] at hr; cases hr), fun j hj => ?_⟩
    by_cases hji : j = i
    · subst hji; unfold tauI; simp only [hi]; exact H
    · obtain ⟨hjun, oj, hoj, hall⟩ := mem_ready.1 hj
      have hlis : ∀ e ∈ oj.after, Region.binds md e = true → listed.getD e.on true = false → False := fun e he hb h0 => by
        have h1 := hall e he hb
        rcases Nat.lt_or_ge e.on listed.size with h' | h'
        · simp [h'] at h0 h1; rw [h0] at h1; cases h1
        · simp [Array.getElem?_eq_none h'] at h1
      have hjD : j ∉ D := fun hjD => by
        obtain ⟨_, oj', ho, e, he, hb, hor⟩ := hD j hjD
        rw [hoj] at ho; cases ho
        rcases hor with h | h
        · exact hlis e he hb (by rw [h]; exact (mem_ready.1 hr).1)
        · exact hlis e he hb (hD _ h).1
      have h1 : tauO P w0 S0 (cls gs ns i oi.op) ops oi fr S (PC fun fr S => tauO P w0 S0 (cls gs ns j oj.op) ops oj fr S (PC (wpO P w0 S0 gs ns md ops K fuel ((listed.setIfInBounds i true).setIfInBounds j true)))) :=
        tauO_mono (fun fr S h => PC.mono (fun fr S h => by
          have := h.2 j (ready_mono hj hji)
          unfold tauI at this; simp only [hoj] at this; exact this) h) H
      have hc := hfree j oj hoj hji hjun hjD
      have h2 := tauO_comm hc.1 hc.2 h1
      have hfree' : ∀ k ok, ops[k]? = some ok → k ≠ i → (listed.setIfInBounds j true).getD k true = false → k ∉ D → oi.apart ops ok = true ∧ okP (cls gs ns i oi.op) (cls gs ns k ok.op) = true := fun k ok hk hki hun hno => by
        refine hfree k ok hk hki ?_ hno
        by_cases hjk : j = k
        · subst hjk; exact hjun
        · rw [getD_set_ne true hjk] at hun; exact hun
      have hD' : ∀ k, k ∈ D → (listed.setIfInBounds j true).getD k true = false ∧ ∃ ok, ops[k]? = some ok ∧ ∃ e ∈ ok.after, Region.binds md e = true ∧ (e.on = i ∨ e.on ∈ D) := fun k hk => by
        refine ⟨?_, (hD k hk).2⟩
        rw [getD_set_ne true (show j ≠ k from fun e => hjD (by rw [e]; exact hk))]; exact (hD k hk).1
      unfold tauI
      simp only [hoj]
      have hcnt' : ∀ l : List Nat, l.Nodup → (∀ k, k ∈ l → (listed.setIfInBounds j true).getD k true = false) → l.length ≤ fuel + 1 := by
        intro l hn hl
        have hjs : j < listed.size := by
          rcases Nat.lt_or_ge j listed.size with h | h
          · exact h
          · rw [Array.getD_eq_getD_getElem?, Array.getElem?_eq_none h] at hjun; cases hjun
        have hjl : j ∉ l := fun hj => by
          have := hl j hj
          rw [Array.getD_eq_getD_getElem?, Array.getElem?_setIfInBounds] at this
          simp [hjs] at this
        have := hcnt (j :: l) (List.nodup_cons.2 ⟨hjl, hn⟩) fun k hk => by
          rcases List.mem_cons.1 hk with rfl | hk
          · exact hjun
          · have := hl k hk
            rw [getD_set_ne true (show j ≠ k from fun e => hjl (e ▸ hk))] at this
            exact this
        simp at this; omega
      refine tauO_mono (fun fr S h => PC.mono (fun fr S h => ih (listed.setIfInBounds j true) fr S hD' hfree' hcnt' (ready_mono hr (Ne.symm hji)) ?_) h) h2
      rw [Array.setIfInBounds_comm _ _ hji]
      exact h
/-- What comes behind an operation at any rate. -/
def depO (md : Region.Mode) (ops : Array Oper) (listed : Array Bool) (i : Nat) : List Nat := (List.range ops.size).foldl (fun D j => match ops[j]? with
  | some oj => if !(j == i) && !listed.getD j true && oj.after.any (fun e => Region.binds md e && (e.on == i || D.contains e.on)) then j :: D else D
  | none => D) []
/-- Is an operation free to come first? -/
def freeD (gs ns : List Nat) (md : Region.Mode) (ops : Array Oper) (listed : Array Bool) (i : Nat) (D : List Nat) : Bool := (D.all fun j => !listed.getD j true && match ops[j]? with
  | some oj => oj.after.any (fun e => Region.binds md e && (e.on == i || D.contains e.on))
  | none => false) && (List.range ops.size).all fun j => match ops[i]?, ops[j]? with
  | some oi, some oj => j == i || listed.getD j true || D.contains j || (oi.apart ops oj && okP (cls gs ns i oi.op) (cls gs ns j oj.op))
  | _, _ => false
def freeO (gs ns : List Nat) (md : Region.Mode) (ops : Array Oper) (listed : Array Bool) (i : Nat) : Bool := freeD gs ns md ops listed i (depO md ops listed i)
def lexO (gs ns : List Nat) (md : Region.Mode) (ops : Array Oper) : List Nat → Array Bool → Bool
  | [], listed => (Region.ready md ops listed).isEmpty
  | k :: ks, listed => (Region.ready md ops listed).contains k && freeO gs ns md ops listed k && lexO gs ns md ops ks (listed.setIfInBounds k true)
theorem freeD_dep {gs ns D : List Nat} {listed : Array Bool} {i : Nat} (h : freeD gs ns md ops listed i D = true) : ∀ j, j ∈ D → listed.getD j true = false ∧ ∃ oj, ops[j]? = some oj ∧ ∃ e ∈ oj.after, Region.binds md e = true ∧ (e.on = i ∨ e.on ∈ D) := by
  intro j hj
  simp only [freeD, Bool.and_eq_true] at h
  have := List.all_eq_true.1 h.1 j hj
  simp only [Bool.and_eq_true, Bool.not_eq_true'] at this
  refine ⟨this.1, ?_⟩
  obtain ⟨-, h2⟩ := this
  split at h2
  · rename_i oj ho
    obtain ⟨e, he, h3⟩ := Array.any_eq_true'.1 h2
    simp only [Bool.and_eq_true, Bool.or_eq_true, beq_iff_eq, List.contains_iff_mem] at h3
    exact ⟨oj, ho, e, he, h3⟩
  · cases h2
theorem freeD_spec {gs ns D : List Nat} {listed : Array Bool} {i : Nat} {oi : Oper} (hi : ops[i]? = some oi) (h : freeD gs ns md ops listed i D = true) : ∀ j oj, ops[j]? = some oj → j ≠ i → listed.getD j true = false → j ∉ D → oi.apart ops oj = true ∧ okP (cls gs ns i oi.op) (cls gs ns j oj.op) = true := by
  intro j oj hj hji hun hno
  simp only [freeD, Bool.and_eq_true] at h
  have hlt : j < ops.size := (Array.getElem?_eq_some_iff.1 hj).1
  have := List.all_eq_true.1 h.2 j (List.mem_range.2 hlt)
  simp only [hi, hj, hun, Bool.or_false, Bool.or_eq_true, beq_iff_eq, Bool.and_eq_true, List.contains_iff_mem] at this
  rcases this with (h | h) | h
  · exact absurd h hji
  · exact absurd h hno
  · exact h
/-- In the order that is given. -/
def LO (P : Program) (w0 : W0) (S0 : St) (gs ns : List Nat) (ops : Array Oper) (K : List DV → St → Prop) : List Nat → List DV → St → Prop
  | [], fr, S => K fr S
  | i :: is, fr, S => match ops[i]? with
    | none => False
    | some o => tauO P w0 S0 (cls gs ns i o.op) ops o fr S (LO P w0 S0 gs ns ops K is)
theorem wpO_lex {gs ns : List Nat} {K : List DV → St → Prop} : ∀ (l : List Nat) (listed : Array Bool) (fr : List DV) (S : St),
    (∀ l' : List Nat, l'.Nodup → (∀ k, k ∈ l' → listed.getD k true = false) → l'.length ≤ l.length) →
    lexO gs ns md ops l listed = true → LO P w0 S0 gs ns ops K l fr S → wpO P w0 S0 gs ns md ops K l.length listed fr S
  | [], _, _, _, _, hB, h => ⟨by simpa [lexO] using hB, h⟩
  | k :: l, listed, fr, S, hcnt, hB, h => by
    simp only [List.length_cons, lexO, Bool.and_eq_true] at hB
    obtain ⟨⟨hr, hf⟩, hB'⟩ := hB
    have hr' : k ∈ Region.ready md ops listed := by simpa using hr
    have hun := (mem_ready.1 hr').1
    unfold LO at h
    split at h
    · exact h.elim
    rename_i o h0
    refine wpO_first h0 l.length listed fr S (freeD_dep hf) (freeD_spec h0 hf) (by simpa using hcnt) hr' ?_
    refine tauO_mono (fun fr S h => ⟨S, .refl S, wpO_lex l _ fr S ?_ hB' h⟩) h
    intro l' hn hl'
    have hks : k < listed.size := by
      rcases Nat.lt_or_ge k listed.size with h | h
      · exact h
      · rw [Array.getD_eq_getD_getElem?, Array.getElem?_eq_none h] at hun; cases hun
    have hkl : k ∉ l' := fun hk => by
      have := hl' k hk
      rw [Array.getD_eq_getD_getElem?, Array.getElem?_setIfInBounds] at this
      simp [hks] at this
    have := hcnt (k :: l') (List.nodup_cons.2 ⟨hkl, hn⟩) fun m hm => by
      rcases List.mem_cons.1 hm with rfl | hm
      · exact hun
      · have := hl' m hm
        rw [getD_set_ne true (show k ≠ m from fun e => hkl (e ▸ hm))] at this
        exact this
    simp at this; omega
theorem bodyO_yields {c : Nat} {o : Oper} {fr : List DV} {S : St} {K : List DV → St → Prop} (h : bodyO P w0 S0 c o fr S K) : YieldsE P w0 o (ev fr) S fun d S' => K (pt fr o.dst d) S' := by
  rcases h with ⟨c, d, q, k⟩ | ⟨c, hS, d, q, k⟩ | ⟨c, q⟩ | ⟨c, q⟩ | ⟨c, hS, t, ht, hz, k⟩
  · exact yields_mono (fun d' S' h => by rw [h.1, h.2]; exact k) (q S)
  · exact yields_mono (fun d' S' h => by rw [h.1, h.2]; exact k) (q S hS)
  · exact yields_mono (fun d' S' h => h.2) q
  · exact q
  · exact y_alloc ht ⟨hz, k⟩
theorem wpAny_of_O {gs ns : List Nat} {ro : Option Nat} {g0 : Gh} {Q : Exit → List DV → St → Prop} : ∀ (fuel : Nat) (listed : Array Bool) (fr : List DV) (S : St) (g : Gh) (a : Act) (w : World), g0.le g → Rel w0 g S w → RepL g fr a.tmps.toList → Dk w0 g.obj a w →
    wpO P w0 S0 gs ns md ops (fun fr S => Q .normal fr S) fuel listed fr S → wpAnyIn (fz ro) 0 P md ops (Good w0 g0 Q) fuel listed a w
  | 0, listed, fr, S, g, a, w, k, h1, h2, h3, h => ⟨h.1, k.kd h3, g, fr, S, k, h1, h2, h.2⟩
  | fuel + 1, listed, fr, S, g, a, w, k, h1, h2, h3, h => by
    refine ⟨fun h0 => ⟨k.kd h3, g, fr, S, k, h1, h2, h.1 h0⟩, fun i hi => ?_⟩
    have hq := h.2 i hi
    unfold tauI at hq
    unfold wpOpIn
    split
    · rename_i ho; simp only [ho] at hq; obtain ⟨T, hp, hq⟩ := hq; exact wpAny_of_O fuel _ fr T g a w k (hp.symm.rel h1) h2 h3 hq
    · rename_i o ho
      simp only [ho] at hq
      rcases hq with ⟨hw, hb⟩ | ⟨hw, hk⟩
      · have hw' := wantB_sound (o := o) h2 hw
        rw [if_pos hw']
        refine wpIn_of_yields (bodyO_yields hb) h1 (fun x _ => rep_ev h2 x) h3 fun g' d' u S' w' k1 k2 k3 k4 k5 => ?_
        obtain ⟨T, hp, k4⟩ := k4
        exact wpAny_of_O fuel _ _ _ g' _ _ (k.trans k1) (hp.symm.rel k2) (repL_put (h2.mono k1) _ k3) (k1.dk k5) k4
      · have hw' := wantB_sound (o := o) h2 hw
        rw [if_neg (by simp [hw'])]
        obtain ⟨T, hp, hk⟩ := hk; exact ⟨fun _ _ => trivial, wpAny_of_O fuel _ _ _ g _ _ k (hp.symm.rel h1) (repL_put h2 _ (rep_ud g)) (h3.keep (put_defers _ _ _) fun _ _ h _ => h) hk⟩
/-- A region that draws its order, where an order serves. -/
theorem awp_drawO {id : Nat} {l : List Oper} {gs ns ord : List Nat} {fr : List DV} {S : St} {Q : Exit → List DV → St → Prop} (hm : P.follows .mixedOrders = true) (hB : lexO gs ns .any l.toArray ord (Array.replicate l.length false) = true) (hO : ord.length = l.length) (h : LO P w0 S0 gs ns l.toArray (fun fr S => Q .normal fr S) ord fr S) : AWp P w0 (.region id l.toArray true) fr S Q := by
  intro g a w h1 h2 h3
  refine wpA_region_any hm fun ro => ?_
  have hR : Rel w0 g S { w with drawn := w.drawn + 1 } := h1.grow (below_drew w)
  have hcnt : ∀ l' : List Nat, l'.Nodup → (∀ k, k ∈ l' → (Array.replicate l.length false).getD k true = false) → l'.length ≤ ord.length := by
    intro l' hn hl
    have hsub : ∀ k, k ∈ l' → k ∈ List.range l.length := fun k hk => by
      have := hl k hk
      rw [List.mem_range]
      rcases Nat.lt_or_ge k l.length with h | h
      · exact h
      · rw [Array.getD_eq_getD_getElem?, Array.getElem?_eq_none (by simpa using h)] at this; cases this
    have := hn.length_le_of_subset (l₂ := List.range l.length) hsub
    rw [hO]; simpa using this
  have := wpO_lex (P := P) (w0 := w0) (S0 := S0) (md := .any) (ops := l.toArray) ord (Array.replicate l.length false) fr S hcnt hB h
  have := wpAny_of_O (ro := ro) (g0 := g) (Q := Q) _ _ fr S g a _ (.refl g) hR h2 (h3.keep rfl fun _ _ h _ => h) this
  rw [hO] at this
  simpa using this
theorem lookup_has {m : Option (KK × DV)} {S T : St} {x y : DV} {ok : Bool} {K : DV → Prop} (hT : Has S T) (h : vLookup m S x y ok K) : vLookup m T x y ok K := by
  unfold vLookup at *
  cases m with
  | none => exact h.elim
  | some p =>
    obtain ⟨h1, h2⟩ := h
    refine ⟨h1, ?_⟩
    cases hk : kVal y with
    | none => rw [hk] at h2; exact h2.elim
    | some k =>
      rw [hk] at h2
      obtain ⟨h3, h4⟩ := h2
      refine ⟨h3, ?_⟩
      cases x with
      | mp l =>
        simp only at h4 ⊢
        cases hl : lk S.acc l with
        | none => rw [hl] at h4; exact h4.elim
        | some o => rw [hT.acc _ _ hl]; rw [hl] at h4; exact h4
      | v u =>
        cases u with
        | map o => cases o <;> exact h4
        | _ => exact h4
      | _ => exact h4
theorem load_has {k : TK} {S T : St} {x : DV} {K : DV → Prop} (hT : Has S T) (h : vLoad k S x K) : vLoad k T x K := by
  unfold vLoad at *
  split at h
  · split at h
    · rename_i ds hb
      simp only [hT.box _ _ hb]
      exact h
    · exact h.elim
  · exact h
  · split at h
    · rename_i hb
      simp only [hT.acc _ _ hb]
      exact h
    · rename_i hb
      simp only [hT.acc _ _ hb]
      exact h
    · exact h.elim
  · exact h.elim
end
/-- A call that hands back one value, at whatever store that keeps the one of the beginning. -/
def QO (P : Program) (w0 : W0) (S0 : St) (f : FuncId) (ds : List DV) [K : Cn (DV → Prop)] : Prop := ∃ d, (∀ T, Has S0 T → ACall P w0 f ds T fun d' S' => d' = d ∧ S' = T) ∧ K.k d
def vCallO (P : Program) (w0 : W0) (S0 : St) (cal : DV) (ds : List DV) (K : DV → Prop) : Prop := match cal with
  | .v (.func (.func f) a cap) => a.size = 0 ∧ okF P f = true ∧ cap.toList.all (fun u => u.oneCell') = true ∧ ds.all naccA = true ∧ @QO P w0 S0 f (ds ++ cap.toList.map .v) ⟨K⟩
  | _ => False
def opO (P : Program) (w0 : W0) (S0 : St) (op : Op) (fr : List DV) (S : St) (K : DV → St → Prop) : Prop := match op with
  | .load t x => Has S0 S ∧ vLoad (tk P t) S0 (ev fr x) (K · S)
  | .call ⟨.value cal, args, _⟩ => Has S0 S ∧ vCallO P w0 S0 (ev fr cal) (args.toList.map (ev fr)) (K · S)
  | .alloc t => Has S0 S ∧ okE (zD P t) = true ∧ bxK S (zD P t) K
  | .lookup t x y ok => Has S0 S ∧ vLookup (mpT P t) S0 (ev fr x) (ev fr y) ok (K · S)
  | op => selK (Z.kX op == 0) (opZ P w0 op fr S (K · S)) (vcOp P w0 op fr S K)
def stO (P : Program) (w0 : W0) (S0 : St) (gs ns : List Nat) (i : Nat) (op : Op) (fr : List DV) (S : St) (K : DV → St → Prop) : Prop :=
  selK (gs.contains i) (vcOp P w0 op fr S fun d S' => Has S0 S' ∧ K d S') (selK (ns.contains i) (vcOp P w0 op fr S K) (opO P w0 S0 op fr S K))
def stepO (P : Program) (w0 : W0) (S0 : St) (gs ns : List Nat) (ops : Array Oper) (K : List DV → St → Prop) (oo : Option Oper) (i : Nat) (fr : List DV) (S : St) : Prop := match oo with
  | none => False
  | some o => guardK ops fr o.guard (fun fr => stO P w0 S0 gs ns i o.op fr S fun d S' => K (pt fr o.dst d) S') (fun fr => K (pt fr o.dst ud) S)
def vcLO (P : Program) (w0 : W0) (S0 : St) (gs ns : List Nat) (ops : Array Oper) (K : List DV → St → Prop) : List Nat → List DV → St → Prop
  | [], fr, S => K fr S
  | i :: is, fr, S => stepO P w0 S0 gs ns ops (vcLO P w0 S0 gs ns ops K is) ops[i]? i fr S
section
variable {P : Program} {w0 : W0} {S0 : St} {ops : Array Oper} {md : Region.Mode}
theorem qy_hm {S0 : St} {o : Oper} {fr : List DV} {d : DV} (q : ∀ T, Has S0 T → QY P w0 T o fr d) (T : St) (hT : Hm S0 T) : QY P w0 T o fr d := fun g w ρ r => q T (hT.has r) g w ρ r
theorem stO_sound {gs ns : List Nat} {i : Nat} {o : Oper} {fr : List DV} {S : St} {K : List DV → St → Prop} (hs : okSl o.op = true) (h : stO P w0 S0 gs ns i o.op fr S fun d S' => K (pt fr o.dst d) S') : bodyO P w0 S0 (cls gs ns i o.op) o fr S K := by
  unfold stO at h
  cases hg : gs.contains i with
  | true =>
    rw [hg] at h
    have hc : cls gs ns i o.op = 2 := by unfold cls; rw [if_pos hg]
    rw [hc]
    have h' : vcOp P w0 o.op fr S fun d S' => Has S0 S' ∧ K (pt fr o.dst d) S' := h
    exact .inr (.inr (.inl ⟨rfl, yields_mono (fun d S' hk => ⟨.of hk.1, hk.2⟩) (vcOp_sound hs h')⟩))
  | false =>
    rw [hg] at h
    cases hn : ns.contains i with
    | true =>
      rw [hn] at h
      have hc : cls gs ns i o.op = 3 := by unfold cls; rw [if_neg (by rw [hg]; simp), if_pos hn]
      rw [hc]
      exact .inr (.inr (.inr (.inl ⟨rfl, vcOp_sound hs h⟩)))
    | false =>
      rw [hn] at h
      have hc : cls gs ns i o.op = (match kY o.op with | 0 => 0 | 1 => 1 | 2 => 4 | _ => 3) := by unfold cls; rw [if_neg (by rw [hg]; simp), if_neg (by rw [hn]; simp)]
      rw [hc]
      replace h : opO P w0 S0 o.op fr S fun d S' => K (pt fr o.dst d) S' := h
      have gen : ∀ (h : selK (Z.kX o.op == 0) (opZ P w0 o.op fr S fun d => K (pt fr o.dst d) S) (vcOp P w0 o.op fr S fun d S' => K (pt fr o.dst d) S')), Z.kX o.op = 0 ∨ Z.kX o.op = 3 → kY o.op = Z.kX o.op → bodyO P w0 S0 (match kY o.op with | 0 => 0 | 1 => 1 | 2 => 4 | _ => 3) o fr S K := by
        intro h hk hkk
        rw [hkk]
        rcases hk with hk | hk
        · rw [hk] at h ⊢
          obtain ⟨d, q1, q2⟩ := Z.pure_detZ hk (show opZ P w0 o.op fr S fun d => K (pt fr o.dst d) S from h)
          exact .inl ⟨rfl, d, fun S' => by
            obtain ⟨d', k1, k2⟩ := opZ_sound hs (q1 S')
            subst k2; exact k1, q2⟩
        · rw [hk] at h ⊢
          exact .inr (.inr (.inr (.inl ⟨rfl, vcOp_sound hs h⟩)))
      cases hop : o.op with
      | load t x =>
        rw [hop] at h hs
        obtain ⟨hS, h⟩ := h
        obtain ⟨d, q1, q2⟩ := det_load (show vLoad (tk P t) S0 (ev fr x) (fun d => K (pt fr o.dst d) S) from h)
        refine .inr (.inl ⟨rfl, .of hS, d, qy_hm fun T hT => ?_, q2⟩)
        exact vcOp_sound (by rw [hop]; exact hs) (by rw [hop]; simpa [vcOp] using load_has hT q1)
      | alloc t =>
        rw [hop] at h
        exact .inr (.inr (.inr (.inr ⟨rfl, .of h.1, t, hop, h.2.1, h.2.2⟩)))
      | call c =>
        obtain ⟨callee, args, ts⟩ := c
        cases callee with
        | value cal =>
          rw [hop] at h hs
          obtain ⟨hS, h⟩ := h
          simp only [vCallO] at h
          split at h
          · rename_i f a cap hcal
            obtain ⟨h1, h2, h3, h4, d, h5, h6⟩ := h
            refine .inr (.inl ⟨rfl, .of hS, d, qy_hm fun T hT => ?_, h6⟩)
            exact vcOp_sound (by rw [hop]; exact hs) (by rw [hop]; simp only [vcOp, vCall, hcal]; exact ⟨h1, h3, by rw [h2, gX_t]; exact callK_id h4 (h5 T hT)⟩)
          · exact h.elim
        | builtin b =>
          rw [← hop]
          refine gen (by rw [hop] at h ⊢; exact h) ?_ (by rw [hop]; rfl)
          rw [hop]
          cases b <;> first | exact .inl rfl | exact .inr rfl
        | invoke r m =>
          rw [← hop]
          refine gen (by rw [hop] at h ⊢; exact h) ?_ (by rw [hop]; rfl)
          rw [hop]; exact .inr rfl
      | lookup t x y ok =>
        rw [hop] at h hs
        obtain ⟨hS, h⟩ := h
        obtain ⟨d, q1, q2⟩ := det_lookup (show vLookup (mpT P t) S0 (ev fr x) (ev fr y) ok (fun d => K (pt fr o.dst d) S) from h)
        refine .inr (.inl ⟨rfl, .of hS, d, qy_hm fun T hT => ?_, q2⟩)
        exact vcOp_sound (by rw [hop]; exact hs) (by rw [hop]; simpa [vcOp] using lookup_has hT q1)
      | _ => rw [← hop]; refine gen (by rw [hop] at h ⊢; exact h) ?_ (by rw [hop]; rfl); rw [hop]; first | exact .inl rfl | exact .inr rfl
theorem vcLO_sound {gs ns : List Nat} {K : List DV → St → Prop} (hs : ∀ (i : Nat) (o : Oper), ops[i]? = some o → okSl o.op = true) : ∀ (l : List Nat) {fr : List DV} {S : St}, vcLO P w0 S0 gs ns ops K l fr S → LO P w0 S0 gs ns ops K l fr S
  | [], fr, S, h => h
  | i :: is, fr, S, h => by
    unfold vcLO stepO at h
    unfold LO
    cases ho : ops[i]? with
    | none => rw [ho] at h; exact h
    | some o =>
      rw [ho] at h
      simp only at h ⊢
      rcases guardK_want h with ⟨hw, ha⟩ | ⟨hw, hb⟩
      · exact .inl ⟨hw, bodyO_mono (fun fr S h => vcLO_sound hs is h) (stO_sound (hs i o ho) ha)⟩
      · exact .inr ⟨hw, vcLO_sound hs is hb⟩
/-- What such a region asks. -/
def okO (l : List Oper) (gs ns ord : List Nat) : Bool := l.all (fun o => okSl o.op) && lexO gs ns .any l.toArray ord (Array.replicate l.length false) && (ord.length == l.length)
theorem ordK (gs ns ord : List Nat) {id : Nat} {l : List Oper} {fr : List DV} {S : St} {Q : Exit → List DV → St → Prop} (hm : P.follows .mixedOrders = true) (hB : okO l gs ns ord = true) (h : vcLO P w0 S gs ns l.toArray (fun fr S => normF fr fun fr => Q .normal fr S) ord fr S) : AWp P w0 (.region id l.toArray true) fr S Q := by
  simp only [okO, Bool.and_eq_true, beq_iff_eq] at hB
  refine awp_drawO hm hB.1.2 hB.2 (vcLO_sound (fun i o ho => ?_) ord h)
  have : l[i]? = some o := by simpa using ho
  exact List.all_eq_true.1 hB.1.1 o (List.mem_of_getElem? this)
/-- Some boxes, and what is in them. -/
def inL : List Nat → Nat → Prop
  | [], _ => False
  | a :: L, b => a = b ∨ inL L b
/-- A store, but for some boxes. -/
noncomputable def but (L : List Nat) (S : St) : St := ⟨S.box.filter fun p => @decide (¬ inL L p.1) (Classical.propDecidable _), S.acc⟩
theorem lk_but {L : List Nat} {S : St} {b : Nat} (h : ¬ inL L b) : lk (but L S).box b = lk S.box b := by
  obtain ⟨B, A⟩ := S
  show lk (B.filter _) b = lk B b
  induction B with
  | nil => rfl
  | cons p B ih =>
    obtain ⟨k, x⟩ := p
    rw [List.filter_cons]
    split
    · simp only [lk, ih]
    · rename_i hn
      have hk : ¬ k = b := fun e => hn (by subst e; exact @decide_eq_true _ (Classical.propDecidable _) h)
      rw [ih]; simp only [lk, if_neg hk]
theorem lk_but_in {L : List Nat} {S : St} {b : Nat} (h : inL L b) : lk (but L S).box b = none := by
  obtain ⟨B, A⟩ := S
  show lk (B.filter _) b = none
  induction B with
  | nil => rfl
  | cons p B ih =>
    obtain ⟨k, x⟩ := p
    rw [List.filter_cons]
    split
    · rename_i hn
      have hk : ¬ k = b := fun e => by
        subst e
        exact (@of_decide_eq_true _ (Classical.propDecidable _) hn) h
      simp only [lk, if_neg hk]; exact ih
    · exact ih
theorem has_but (L : List Nat) (S : St) : Has (but L S) S := ⟨fun b x hb => by
  by_cases h : inL L b
  · rw [lk_but_in h] at hb; cases hb
  · rwa [lk_but h] at hb, fun l o hl => hl⟩
theorem ordB (L gs ns ord : List Nat) {id : Nat} {l : List Oper} {fr : List DV} {S : St} {Q : Exit → List DV → St → Prop} (hm : P.follows .mixedOrders = true) (hB : okO l gs ns ord = true) (h : vcLO P w0 (but L S) gs ns l.toArray (fun fr S => normF fr fun fr => Q .normal fr S) ord fr S) : AWp P w0 (.region id l.toArray true) fr S Q := by
  simp only [okO, Bool.and_eq_true, beq_iff_eq] at hB
  refine awp_drawO hm hB.1.2 hB.2 (vcLO_sound (fun i o ho => ?_) ord h)
  have : l[i]? = some o := by simpa using ho
  exact List.all_eq_true.1 hB.1.1 o (List.mem_of_getElem? this)
theorem useO {f : FuncId} {args args' : List DV} {K : DV → Prop} {r : DV} (h : ∀ T, Has S0 T → ACall P w0 f args' T (fun d S' => d = r ∧ S' = T)) (hk : K r) (ha : WkL args args' := by exact WkL.refl _) : @QO P w0 S0 f args ⟨K⟩ :=
  ⟨r, fun T hT => acall_one (h T hT) ha ⟨rfl, rfl⟩, hk⟩
end
section
variable {P : Program} {w0 : W0} {S0 : St} {gs ns : List Nat} {ops : Array Oper} {fr : List DV} {S : St} {dst : Option Tmp} {op : Op} {ty : TypeId} {pos : String} {aft : Array Edge}
section
variable {K : List DV → St → Prop}
theorem o_nil : vcLO P w0 S0 gs ns ops K [] fr S = K fr S := rfl
theorem o_cons (i : Nat) (is : List Nat) : vcLO P w0 S0 gs ns ops K (i :: is) fr S = stepO P w0 S0 gs ns ops (vcLO P w0 S0 gs ns ops K is) ops[i]? i fr S := rfl
@[congr] theorem c_stepO {oo oo' : Option Oper} {i : Nat} (h : oo = oo') : stepO P w0 S0 gs ns ops K oo i fr S = stepO P w0 S0 gs ns ops K oo' i fr S := by cases h; rfl
theorem o_none (i : Nat) : stepO P w0 S0 gs ns ops K (some ⟨dst, op, ty, pos, aft, none⟩) i fr S = stO P w0 S0 gs ns i op fr S fun d S' => K (pt fr dst d) S' := rfl
theorem o_some (i j : Nat) (want : Bool) : stepO P w0 S0 gs ns ops K (some ⟨dst, op, ty, pos, aft, some (j, want)⟩) i fr S = gK ((ops[j]?).bind (·.dst)) fr want (fun fr => stO P w0 S0 gs ns i op fr S fun d S' => K (pt fr dst d) S') (fun fr => K (pt fr dst ud) S) := by unfold stepO; exact q_guard _ _ _ _ _ _
end
variable {K : DV → St → Prop}
theorem o_st (i : Nat) : stO P w0 S0 gs ns i op fr S K = selK (gs.contains i) (vcOp P w0 op fr S fun d S' => Has S0 S' ∧ K d S') (selK (ns.contains i) (vcOp P w0 op fr S K) (opO P w0 S0 op fr S K)) := rfl
theorem o_load (t : TypeId) (x : Operand) : opO P w0 S0 (.load t x) fr S K = (Has S0 S ∧ vLoad (tk P t) S0 (ev fr x) (K · S)) := rfl
theorem o_alloc (t : TypeId) : opO P w0 S0 (.alloc t) fr S K = (Has S0 S ∧ okE (zD P t) = true ∧ bxK S (zD P t) K) := rfl
theorem o_lookup (t : TypeId) (x y : Operand) (ok : Bool) : opO P w0 S0 (.lookup t x y ok) fr S K = (Has S0 S ∧ vLookup (mpT P t) S0 (ev fr x) (ev fr y) ok (K · S)) := rfl
theorem o_call (cal : Operand) (a : List Operand) (ts : Array TypeId) : opO P w0 S0 (.call ⟨.value cal, a.toArray, ts⟩) fr S K = (Has S0 S ∧ vCallO P w0 S0 (ev fr cal) (a.map (ev fr)) (K · S)) := rfl
theorem o_callF (f : FuncId) (a cap : Array Value) (ds : List DV) (K : DV → Prop) : vCallO P w0 S0 (.v (.func (.func f) a cap)) ds K = (a.size = 0 ∧ okF P f = true ∧ cap.toList.all (fun u => u.oneCell') = true ∧ ds.all naccA = true ∧ @QO P w0 S0 f (ds ++ cap.toList.map .v) ⟨K⟩) := rfl
@[congr] theorem c_vCallO {cal cal' : DV} {ds ds' : List DV} {K : DV → Prop} (h1 : cal = cal') (h2 : ds = ds') : vCallO P w0 S0 cal ds K = vCallO P w0 S0 cal' ds' K := by cases h1; cases h2; rfl
theorem o_move (x : Operand) : opO P w0 S0 (.move x) fr S K = vcOpQ P w0 (.move x) fr S (K · S) := rfl
theorem o_assign (x : Operand) : opO P w0 S0 (.assign x) fr S K = vcOpQ P w0 (.assign x) fr S (K · S) := rfl
theorem o_pick (c a b : Operand) : opO P w0 S0 (.pick c a b) fr S K = vcOpQ P w0 (.pick c a b) fr S (K · S) := rfl
theorem o_fieldAddr (t : TypeId) (x : Operand) (f : Nat) : opO P w0 S0 (.fieldAddr t x f) fr S K = vcOpQ P w0 (.fieldAddr t x f) fr S (K · S) := rfl
theorem o_indexAddr (t : TypeId) (x i : Operand) : opO P w0 S0 (.indexAddr t x i) fr S K = vcOpQ P w0 (.indexAddr t x i) fr S (K · S) := rfl
theorem o_index (t : TypeId) (x i : Operand) : opO P w0 S0 (.index t x i) fr S K = vcOpQ P w0 (.index t x i) fr S (K · S) := rfl
theorem o_field (t : TypeId) (x : Operand) (f : Nat) : opO P w0 S0 (.field t x f) fr S K = vcOpQ P w0 (.field t x f) fr S (K · S) := rfl
theorem o_extract (x : Operand) (i : Nat) : opO P w0 S0 (.extract x i) fr S K = vcOpQ P w0 (.extract x i) fr S (K · S) := rfl
theorem o_nilCheck (x : Operand) : opO P w0 S0 (.nilCheck x) fr S K = vcOpQ P w0 (.nilCheck x) fr S (K · S) := rfl
theorem o_binOp (b : BinOp) (t : TypeId) (x y : Operand) (t' : TypeId) : opO P w0 S0 (.binOp b t x y t') fr S K = vcOpQ P w0 (.binOp b t x y t') fr S (K · S) := rfl
theorem o_unOp (b : UnOp) (t : TypeId) (x : Operand) : opO P w0 S0 (.unOp b t x) fr S K = vcOpQ P w0 (.unOp b t x) fr S (K · S) := rfl
theorem o_convert (s d : TypeId) (x : Operand) : opO P w0 S0 (.convert s d x) fr S K = opZ P w0 (.convert s d x) fr S (K · S) := rfl
theorem o_makeInterface (t : TypeId) (x : Operand) : opO P w0 S0 (.makeInterface t x) fr S K = vcOpQ P w0 (.makeInterface t x) fr S (K · S) := rfl
theorem o_makeFunc (fn : Fn) (a b : Array Operand) : opO P w0 S0 (.makeFunc fn a b) fr S K = vcOpQ P w0 (.makeFunc fn a b) fr S (K · S) := rfl
theorem o_slice (t : TypeId) (x : Operand) (lo hi mx : Option Operand) : opO P w0 S0 (.slice t x lo hi mx) fr S K = vcOpQ P w0 (.slice t x lo hi mx) fr S (K · S) := rfl
theorem o_build (t : TypeId) (parts : Array (Nat × Operand)) : opO P w0 S0 (.build t parts) fr S K = vcOpQ P w0 (.build t parts) fr S (K · S) := rfl
theorem o_buildSlice (t : TypeId) (len : Nat) (parts : Array (Nat × Operand)) : opO P w0 S0 (.buildSlice t len parts) fr S K = vcOpQ P w0 (.buildSlice t len parts) fr S (K · S) := rfl
theorem o_typeAssert (x : Operand) (xt t : TypeId) (ok : Bool) : opO P w0 S0 (.typeAssert x xt t ok) fr S K = vcOp P w0 (.typeAssert x xt t ok) fr S K := rfl
theorem o_box (t : TypeId) (x : Operand) : opO P w0 S0 (.box t x) fr S K = vcOp P w0 (.box t x) fr S K := rfl
theorem o_store (t : TypeId) (x y : Operand) : opO P w0 S0 (.store t x y) fr S K = vcOp P w0 (.store t x y) fr S K := rfl
theorem o_makeSlice (t : TypeId) (x y : Operand) : opO P w0 S0 (.makeSlice t x y) fr S K = opZ P w0 (.makeSlice t x y) fr S (K · S) := rfl
theorem o_b_len (a : Array Operand) (ts : Array TypeId) : opO P w0 S0 (.call ⟨.builtin .len, a, ts⟩) fr S K = vcOpQ P w0 (.call ⟨.builtin .len, a, ts⟩) fr S (K · S) := rfl
theorem o_b_cap (a : Array Operand) (ts : Array TypeId) : opO P w0 S0 (.call ⟨.builtin .cap, a, ts⟩) fr S K = vcOpQ P w0 (.call ⟨.builtin .cap, a, ts⟩) fr S (K · S) := rfl
theorem o_b_min (a : Array Operand) (ts : Array TypeId) : opO P w0 S0 (.call ⟨.builtin .min, a, ts⟩) fr S K = vcOpQ P w0 (.call ⟨.builtin .min, a, ts⟩) fr S (K · S) := rfl
theorem o_b_max (a : Array Operand) (ts : Array TypeId) : opO P w0 S0 (.call ⟨.builtin .max, a, ts⟩) fr S K = vcOpQ P w0 (.call ⟨.builtin .max, a, ts⟩) fr S (K · S) := rfl
theorem o_b_append (a : Array Operand) (ts : Array TypeId) : opO P w0 S0 (.call ⟨.builtin .append, a, ts⟩) fr S K = vcOp P w0 (.call ⟨.builtin .append, a, ts⟩) fr S K := rfl
theorem has_self (S : St) : Has S S = True := eq_true (.refl S)
theorem has_eta (B : List (Nat × List DV)) (A : List (Nat × Ob)) : Has ⟨B, A⟩ ⟨B, A⟩ = True := eq_true (.refl _)
theorem has_eta2 (S : St) : Has S ⟨S.box, S.acc⟩ = True := eq_true (.refl _)
theorem has_box {S0 : St} {B : List (Nat × List DV)} {A : List (Nat × Ob)} (b : Nat) (v : List DV) (hb : lk S0.box b = none) (h : Has S0 ⟨B, A⟩) : Has S0 ⟨(b, v) :: B, A⟩ = True := eq_true ⟨fun c x hc => by
  have h1 := h.box c x hc
  show lk ((b, v) :: B) c = some x
  rw [q_lk_ne (fun e => by rw [← e, hb] at hc; cases hc)]; exact h1, h.acc⟩
theorem has_acc {S0 : St} {B : List (Nat × List DV)} {A : List (Nat × Ob)} (l : Nat) (v : Ob) (hb : lk S0.acc l = none) (h : Has S0 ⟨B, A⟩) : Has S0 ⟨B, (l, v) :: A⟩ = True := eq_true ⟨h.box, fun c x hc => by
  have h1 := h.acc c x hc
  show lk ((l, v) :: A) c = some x
  rw [q_lk_ne (fun e => by rw [← e, hb] at hc; cases hc)]; exact h1⟩
theorem inL_nil (b : Nat) : inL [] b = False := rfl
theorem inL_cons (a : Nat) (L : List Nat) (b : Nat) : inL (a :: L) b = (a = b ∨ inL L b) := rfl
theorem but_acc (L : List Nat) (S : St) : (but L S).acc = S.acc := rfl
theorem has_but0 (L : List Nat) (S : St) : Has (but L S) S = True := eq_true (has_but L S)
theorem has_but1 (L : List Nat) (B : List (Nat × List DV)) (A : List (Nat × Ob)) : Has (but L ⟨B, A⟩) ⟨B, A⟩ = True := eq_true (has_but L _)
theorem hb_get {L : List Nat} {B B' : List (Nat × List DV)} {A A' : List (Nat × Ob)} (h : Has (but L ⟨B, A⟩) ⟨B', A'⟩) {c : Nat} {x : List DV} (hc : ¬ inL L c) (hx : lk B c = some x) : lk B' c = some x :=
  h.box c x (by rw [lk_but hc]; exact hx)
theorem has_same {L : List Nat} {B B' : List (Nat × List DV)} {A A' : List (Nat × Ob)} (b : Nat) (v : List DV) (h : Has (but L ⟨B, A⟩) ⟨B', A'⟩) : Has (but L ⟨(b, v) :: B, A⟩) ⟨(b, v) :: B', A'⟩ = True := eq_true ⟨fun c x hc => by
  by_cases hL : inL L c
  · rw [lk_but_in hL] at hc; cases hc
  · rw [lk_but hL] at hc
    show lk ((b, v) :: B') c = some x
    simp only [lk] at hc ⊢
    split
    · rename_i e; rw [if_pos e] at hc; exact hc
    · rename_i e; rw [if_neg e] at hc; exact hb_get h hL hc, h.acc⟩
theorem has_other {L : List Nat} {B B' : List (Nat × List DV)} {A A' : List (Nat × Ob)} (b : Nat) (v w : List DV) (hi : inL L b) (h : Has (but L ⟨B, A⟩) ⟨B', A'⟩) : Has (but L ⟨(b, v) :: B, A⟩) ⟨(b, w) :: B', A'⟩ = True := eq_true ⟨fun c x hc => by
  by_cases hL : inL L c
  · rw [lk_but_in hL] at hc; cases hc
  · rw [lk_but hL] at hc
    have hne : ¬ b = c := fun e => hL (e ▸ hi)
    show lk ((b, w) :: B') c = some x
    simp only [lk, if_neg hne] at hc ⊢
    exact hb_get h hL hc, h.acc⟩
/-- One list is another one's end. -/
def Suf {α : Type} (l' l : List (Nat × α)) : Prop := ∃ p, l = p ++ l'
theorem suf_self {α : Type} (l : List (Nat × α)) : Suf l l = True := eq_true ⟨[], rfl⟩
theorem suf_cons {α : Type} (x : Nat × α) (l' l : List (Nat × α)) (h : Suf l' l) : Suf l' (x :: l) = True := eq_true (let ⟨p, e⟩ := h; ⟨x :: p, by rw [e]; rfl⟩)
theorem fn_suf {α : Type} {l' l : List (Nat × α)} (b : FN l) (h : Suf l' l) : lk l' b.n = none := by
  obtain ⟨p, e⟩ := h
  subst e
  refine nin_lk (nin_of fun q hq => nin_all b.h q (List.mem_append_right _ hq))
end
attribute [go_sem ↓] o_nil o_cons o_st o_load o_alloc o_lookup o_call o_callF o_move o_assign o_pick o_fieldAddr o_indexAddr o_index o_field o_extract o_nilCheck o_binOp o_unOp o_convert o_makeInterface o_makeFunc o_slice o_build o_buildSlice o_typeAssert o_box o_store o_makeSlice o_b_len o_b_cap o_b_min o_b_max o_b_append
attribute [go_sem] o_none o_some has_self has_eta has_eta2 has_box has_acc suf_self suf_cons fn_suf inL_nil inL_cons but_acc has_but0 has_but1 has_same has_other lk_but lk_but_in
end Aml.Y

namespace Aml
open Go Go.RowKit
set_option linter.unusedVariables false
set_option linter.unusedSimpArgs false
def del (L : List (Nat × Ob)) (n : Nat) : List (Nat × Ob) := L.filter fun p => p.1 != n
theorem mem_del {L : List (Nat × Ob)} {n : Nat} {p : Nat × Ob} : p ∈ del L n ↔ p ∈ L ∧ p.1 ≠ n := by unfold del; simp
theorem del_none {L : List (Nat × Ob)} {n : Nat} (h : ∀ p, p ∈ L → p.1 ≠ n) : del L n = L := List.filter_eq_self.2 fun p hp => by simpa using h p hp
theorem ren_perm {n : Nat} {p : Nat × Ob} {o : Ob} : ∀ {L : List (Nat × Ob)}, (L.map (·.1)).Nodup → lk L n = some o → (ren L n p).Perm (p :: del L n)
  | [], _, h => by cases h
  | (k, x) :: t, hn, h => by
    simp only [List.map_cons, List.nodup_cons] at hn
    simp only [lk] at h
    simp only [ren]
    split
    · rename_i e
      subst e
      have h1 : del ((k, x) :: t) k = t := by
        have h2 : del t k = t := del_none fun q hq e => hn.1 (by rw [← e]; exact List.mem_map_of_mem hq)
        unfold del at *
        rw [List.filter_cons_of_neg (by simp)]; exact h2
      rw [h1]
    · rename_i e
      rw [if_neg e] at h
      have h1 : del ((k, x) :: t) n = (k, x) :: del t n := by unfold del; rw [List.filter_cons_of_pos (by simpa using e)]
      rw [h1]
      exact ((ren_perm hn.2 h).cons _).trans (.swap _ _ _)
/-- Elements that are cells in a box. -/
def Els (s : Nat) (xs : List DV) : Prop := ∀ d, d ∈ xs → okE d = true ∧ (cd d).length = s
def rowD (s c : Nat) (xs : List DV) : List DV := xs.flatMap cd ++ List.replicate ((c - xs.length) * s) .any
theorem els_len {s : Nat} : ∀ {xs : List DV}, Els s xs → (xs.flatMap cd).length = xs.length * s
  | [], _ => by simp
  | d :: xs, h => by
    rw [List.flatMap_cons, List.length_append, els_len fun x hx => h x (List.mem_cons_of_mem _ hx), (h d List.mem_cons_self).2, List.length_cons, Nat.succ_mul]; omega
theorem rowD_len {s c : Nat} {xs : List DV} (h : Els s xs) (hc : xs.length ≤ c) : (rowD s c xs).length = c * s := by
  unfold rowD
  rw [List.length_append, els_len h, List.length_replicate, ← Nat.add_mul]; congr 1; omega
section
variable {P : Program} {w0 : W0}
theorem Rel.openA {g : Gh} {S : St} {w : World} (h : Rel w0 g S w) {l s : Nat} {xs : List DV} (hl : lk S.acc l = some (.arr s xs)) (hn : xs ≠ []) (he : Els s xs) :
    ∃ b c, g.acc l xs.length = some (.slice (some ⟨b, 0, none⟩) xs.length c) ∧ xs.length ≤ c ∧ c ≤ maxLen ∧ nin S.box b ∧ Rel w0 g ⟨(b, rowD s c xs) :: S.box, del S.acc l⟩ w := by
  obtain ⟨ow, h⟩ := h.open_
  have hmem := lk_mem hl
  obtain ⟨hs, ⟨he0, _⟩ | ⟨b, c, cs, e, h1, h2, h3, h4, h5, h6, h7, h8, hA, us, h9, h10, h11, h12⟩⟩ := h.acc l _ hmem
  · exact absurd he0 hn
  have hbn : ∀ p, p ∈ S.box → p.1 ≠ b := by
    rintro ⟨b', ds⟩ hp rfl
    have := (h.box _ _ hp).1
    rw [h2] at this; cases this
  refine ⟨b, c, h1, h7, h8, nin_of hbn, RelO.close (ow := fun k => if k = b then some (.b b) else ow k) ⟨h.below, h.imm, ?_, ?_, h.accw, h.fresh, fun l' o' hl' => h.top l' o' (mem_del.1 hl').1, ?_, ?_, ?_⟩⟩
  · simp only [List.map_cons, List.nodup_cons]
    exact ⟨fun hm => by obtain ⟨p, hp, e⟩ := List.mem_map.1 hm; exact hbn p hp e, h.nb⟩
  · exact List.Sublist.nodup ((List.filter_sublist).map _) h.na
  · intro b' ds hb'
    rcases List.mem_cons.1 hb' with e' | hb'
    · cases e'
      refine ⟨if_pos rfl, h3, h4, cs, e, h5, ?_, hA⟩
      have hfl : (fl us).length = xs.length * s := by rw [fl_length h10, h9.len]
      have hcs : cs.toList = fl us ++ cs.toList.drop (xs.length * s) := by
        apply List.ext_getElem?
        intro k
        rcases Nat.lt_or_ge k (xs.length * s) with hk | hk
        · rw [List.getElem?_append_left (by omega)]
          obtain ⟨v, hv⟩ : ∃ v, (fl us)[k]? = some v := ⟨_, List.getElem?_eq_getElem (by omega)⟩
          obtain ⟨i, u, j, q1, q2, rfl⟩ := fl_inv h10 hv
          rw [hv, Array.getElem?_toList]
          exact h12 i u j v q1 q2
        · rw [List.getElem?_append_right (by omega), hfl, List.getElem?_drop]
          congr 1; omega
      rw [hcs]
      unfold rowD
      refine (repL_flat h9 fun d hd => (he d hd).1).append ?_
      have : (cs.toList.drop (xs.length * s)).length = (c - xs.length) * s := by rw [List.length_drop, Array.length_toList, h6, Nat.sub_mul]
      rw [← this]
      exact repL_anyR g _
    · have hne : b' ≠ b := hbn _ hb'
      exact (h.box b' ds hb').step (.refl g) fun ho => ⟨(if_neg hne).trans ho, rfl, fun _ hi => hi⟩
  · intro l' o' hl'
    obtain ⟨hm, hne⟩ := mem_del.1 hl'
    refine (h.acc l' o' hm).step (.refl g) fun b' ho => ⟨?_, rfl, fun _ hi => hi⟩
    have : b' ≠ b := by
      rintro rfl
      rw [h2] at ho
      cases ho
      exact hne rfl
    rw [if_neg this]; exact ho
  · intro b' k hk
    split at hk
    · rename_i e'; subst e'; exact lt_of_heap h5
    · exact h.owb _ _ hk
theorem regroup {g : Gh} {s : Nat} (hs : 0 < s) : ∀ {ys : List DV} {us : List Value}, RepL g (ys.flatMap cd) us → (∀ u, u ∈ us → u.oneCell' = true) → Els s ys →
    ∃ vs, RepL g ys vs ∧ (∀ (i : Nat) (u : Value), vs[i]? = some u → u.cells.size = s) ∧ (∀ (u : Value), u ∈ vs → ∀ x, x ∈ u.cells.toList → x.oneCell' = true) ∧ fl vs = us
  | [], us, h, _, _ => by
    have : us = [] := List.eq_nil_of_length_eq_zero (by have := h.len; simpa using this.symm)
    subst this
    exact ⟨[], RepL.nil g, by simp, by simp, rfl⟩
  | d :: ys, us, h, h1, he => by
    obtain ⟨hok, hlen⟩ := he d List.mem_cons_self
    have hs1 : RepL g (cd d) (us.take s) := by
      have := h.take s
      rwa [List.flatMap_cons, List.take_append_of_le_length (by omega), List.take_of_length_le (by omega)] at this
    have hs2 : RepL g (ys.flatMap cd) (us.drop s) := by
      have := h.drop s
      rwa [List.flatMap_cons, List.drop_append_of_le_length (by omega), List.drop_eq_nil_of_le (by omega), List.nil_append] at this
    obtain ⟨vs, q1, q2, q3, q4⟩ := regroup hs hs2 (fun u hu => h1 u (List.mem_of_mem_drop hu)) fun x hx => he x (List.mem_cons_of_mem _ hx)
    obtain ⟨v, r1, r2⟩ : ∃ v, Rep g d v ∧ v.cells.toList = us.take s := by
      have hone : ∀ u, u ∈ us.take s → u.oneCell' = true := fun u hu => h1 u (List.mem_of_mem_take hu)
      generalize us.take s = ts at *
      cases d with
      | agg ds => exact ⟨.agg ts.toArray, .agg ds ts hs1.len hs1.at_ hone, by simp [Value.cells]⟩
      | any => cases hok
      | tup ds => cases hok
      | v u0 =>
        obtain ⟨u, us', rfl, a1, a2⟩ := hs1.uncons
        have : us' = [] := List.eq_nil_of_length_eq_zero (by have := a2.len; simpa using this.symm)
        subst this
        exact ⟨u, a1, by have := hone u List.mem_cons_self; cases u <;> simp_all [Value.cells, Value.oneCell']⟩
      | sl a b c =>
        obtain ⟨u, us', rfl, a1, a2⟩ := hs1.uncons
        have : us' = [] := List.eq_nil_of_length_eq_zero (by have := a2.len; simpa using this.symm)
        subst this
        exact ⟨u, a1, by have := hone u List.mem_cons_self; cases u <;> simp_all [Value.cells, Value.oneCell']⟩
      | ifc a b =>
        obtain ⟨u, us', rfl, a1, a2⟩ := hs1.uncons
        have : us' = [] := List.eq_nil_of_length_eq_zero (by have := a2.len; simpa using this.symm)
        subst this
        exact ⟨u, a1, by have := hone u List.mem_cons_self; cases u <;> simp_all [Value.cells, Value.oneCell']⟩
      | acc a b =>
        obtain ⟨u, us', rfl, a1, a2⟩ := hs1.uncons
        have : us' = [] := List.eq_nil_of_length_eq_zero (by have := a2.len; simpa using this.symm)
        subst this
        exact ⟨u, a1, by have := hone u List.mem_cons_self; cases u <;> simp_all [Value.cells, Value.oneCell']⟩
      | ip a =>
        obtain ⟨u, us', rfl, a1, a2⟩ := hs1.uncons
        have : us' = [] := List.eq_nil_of_length_eq_zero (by have := a2.len; simpa using this.symm)
        subst this
        exact ⟨u, a1, by have := hone u List.mem_cons_self; cases u <;> simp_all [Value.cells, Value.oneCell']⟩
      | ap a b c d e =>
        obtain ⟨u, us', rfl, a1, a2⟩ := hs1.uncons
        have : us' = [] := List.eq_nil_of_length_eq_zero (by have := a2.len; simpa using this.symm)
        subst this
        exact ⟨u, a1, by have := hone u List.mem_cons_self; cases u <;> simp_all [Value.cells, Value.oneCell']⟩
      | mp a =>
        obtain ⟨u, us', rfl, a1, a2⟩ := hs1.uncons
        have : us' = [] := List.eq_nil_of_length_eq_zero (by have := a2.len; simpa using this.symm)
        subst this
        exact ⟨u, a1, by have := hone u List.mem_cons_self; cases u <;> simp_all [Value.cells, Value.oneCell']⟩
      | it a =>
        obtain ⟨u, us', rfl, a1, a2⟩ := hs1.uncons
        have : us' = [] := List.eq_nil_of_length_eq_zero (by have := a2.len; simpa using this.symm)
        subst this
        exact ⟨u, a1, by have := hone u List.mem_cons_self; cases u <;> simp_all [Value.cells, Value.oneCell']⟩
    have hul : (us.take s).length = s := by have := hs1.len; omega
    refine ⟨v :: vs, q1.cons r1, ?_, ?_, ?_⟩
    · intro i u hu
      cases i with
      | zero => simp at hu; subst hu; rw [← Array.length_toList, r2, hul]
      | succ i => exact q2 i u (by simpa using hu)
    · intro u hu x hx
      rcases List.mem_cons.1 hu with rfl | hu
      · rw [r2] at hx; exact h1 x (List.mem_of_mem_take hx)
      · exact q3 u hu x hx
    · show v.cells.toList ++ fl vs = us
      rw [r2, q4, List.take_append_drop]
theorem Rel.closeA {g : Gh} {S : St} {w : World} (h : Rel w0 g S w) {b s c : Nat} {ds ys : List DV} (hb : lk S.box b = some ds) (hs : 0 < s) (he : Els s ys) (hds : ds.take (ys.length * s) = ys.flatMap cd) (hdl : ds.length = c * s) (hc : ys.length ≤ c) (hcm : c ≤ maxLen) (L : List (Nat × Ob)) :
    ∃ m g', g.le g' ∧ (∀ p, p ∈ S.acc → p.1 ≠ m) ∧ (∀ p, p ∈ L → p.1 ≠ m) ∧ Rel w0 g' ⟨S.box.filter (fun p => p.1 != b), (m, .arr s ys) :: S.acc⟩ w ∧ Rep g' (.acc m ys.length) (.slice (some ⟨b, 0, none⟩) ys.length c) := by
  obtain ⟨ow, h⟩ := h.open_
  have hmem := lk_mem hb
  obtain ⟨o1, o2, o3, us, e, hh, hr, hone⟩ := h.box b ds hmem
  obtain ⟨m0, hm0⟩ := h.fresh
  obtain ⟨m, hm1, hm2, hm3⟩ : ∃ m, m0 ≤ m ∧ (∀ p, p ∈ S.acc → p.1 ≠ m) ∧ ∀ p, p ∈ L → p.1 ≠ m := by
    have : ∀ L : List (Nat × Ob), ∃ k, ∀ p, p ∈ L → p.1 < k := by
      intro L
      induction L with
      | nil => exact ⟨0, fun p h => by cases h⟩
      | cons a l ih =>
        obtain ⟨k, hk⟩ := ih
        refine ⟨a.1 + k + 1, fun p hp => ?_⟩
        rcases List.mem_cons.1 hp with rfl | hp
        · omega
        · have := hk p hp; omega
    obtain ⟨k1, q1⟩ := this S.acc
    obtain ⟨k2, q2⟩ := this L
    exact ⟨m0 + k1 + k2, by omega, fun p hp e => by have := q1 p hp; omega, fun p hp e => by have := q2 p hp; omega⟩
  have hle : g.le (g.setAcc m ys.length (.slice (some ⟨b, 0, none⟩) ys.length c)) := Gh.le_setAcc (.inl (hm0 _ _ hm1))
  have hself : (g.setAcc m ys.length (.slice (some ⟨b, 0, none⟩) ys.length c)).acc m ys.length = some (.slice (some ⟨b, 0, none⟩) ys.length c) := by simp [Gh.setAcc]
  have hbf : ∀ p, p ∈ S.box.filter (fun p => p.1 != b) → p ∈ S.box ∧ p.1 ≠ b := fun p hp => by simpa using hp
  refine ⟨m, _, hle, hm2, hm3, RelO.close (ow := fun k => if k = b then some (.a m) else ow k) ⟨h.below.le hle, h.imm, ?_, ?_, ?_, ?_, ?_, ?_, ?_, ?_⟩, .acc _ _ _ _ hself⟩
  · exact List.Sublist.nodup ((List.filter_sublist).map _) h.nb
  · simp only [List.map_cons, List.nodup_cons]
    exact ⟨fun hm => by obtain ⟨p, hp, e⟩ := List.mem_map.1 hm; exact hm2 p hp e, h.na⟩
  · intro l' n' u hu
    simp only [Gh.setAcc] at hu
    split at hu
    · rename_i e'
      obtain ⟨rfl, rfl⟩ := e'
      exact ⟨_, _, (Option.some.inj hu).symm, .inr ⟨b, 0, rfl⟩⟩
    · exact h.accw _ _ _ hu
  · refine ⟨m + 1, fun l' n' hl' => ?_⟩
    simp only [Gh.setAcc]
    rw [if_neg (by omega)]
    exact hm0 _ _ (by omega)
  · intro l' o' hl' k hk
    simp only [Gh.setAcc]
    rcases List.mem_cons.1 hl' with e' | hl'
    · cases e'
      simp only [Ob.len] at hk
      rw [if_neg (by omega)]
      exact hm0 _ _ hm1
    · rw [if_neg (fun e' => hm2 _ hl' e'.1)]
      exact h.top _ _ hl' k hk
  · intro b' ds' hb'
    obtain ⟨h1, h2⟩ := hbf _ hb'
    exact (h.box b' ds' h1).step hle fun ho => ⟨(if_neg h2).trans ho, rfl, fun _ hi => hi⟩
  · intro l' o' hl'
    rcases List.mem_cons.1 hl' with e' | hl'
    · cases e'
      have hR : RepL g (ys.flatMap cd) (us.toList.take (ys.length * s)) := by rw [← hds]; exact hr.take _
      obtain ⟨vs, q1, q2, q3, q4⟩ := regroup hs hR (fun u hu => hone u (List.mem_of_mem_take hu)) he
      refine ⟨hs, .inr ⟨b, c, us, e, hself, if_pos rfl, o2, o3, hh, ?_, hc, hcm, hone, vs, q1.mono hle, q2, q3, fun i u j x a1 a2 => ?_⟩⟩
      · have := hr.len; rw [hdl, Array.length_toList] at this; exact this.symm
      · have hj : j < s := by rw [← q2 i u a1]; exact (Array.getElem?_eq_some_iff.1 a2).1
        have hi : i < ys.length := by rw [q1.len]; exact (List.getElem?_eq_some_iff.1 a1).1
        have := fl_at q2 a1 a2
        rw [q4, List.getElem?_take, if_pos (lt_mul hi hj)] at this
        rw [← Array.getElem?_toList]; exact this
    · refine (h.acc l' o' hl').step hle fun b' ho => ⟨?_, rfl, fun _ hi => hi⟩
      have : b' ≠ b := by rintro rfl; rw [o1] at ho; cases ho
      rw [if_neg this]; exact ho
  · intro b' k hk
    split at hk
    · rename_i e'; subst e'; exact lt_of_heap hh
    · exact h.owb _ _ hk
/-- A function of an own row, walked where that is a box. -/
theorem acall_open {f : FuncId} {args : List DV} {S : St} {l s : Nat} {xs : List DV} {K : List DV → Prop} (hl : lk S.acc l = some (.arr s xs)) (hn : xs ≠ []) (hs : 0 < s) (he : Els s xs)
    (h : ∀ b c, nin S.box b → xs.length ≤ c → c ≤ maxLen → ACall P w0 f (.v (.slice (some ⟨b, 0, none⟩) xs.length c) :: args) ⟨(b, rowD s c xs) :: S.box, del S.acc l⟩ fun d S' => ∃ b' c' ds ys B, K ys ∧ d = .v (.slice (some ⟨b', 0, none⟩) ys.length c') ∧ lk S'.box b' = some ds ∧ S'.acc = del S.acc l ∧
      S'.box = B ∧ S.box.Sublist (B.filter fun p => p.1 != b') ∧ Els s ys ∧ ds.take (ys.length * s) = ys.flatMap cd ∧ ds.length = c' * s ∧ ys.length ≤ c' ∧ c' ≤ maxLen) :
    ACall P w0 f (.acc l xs.length :: args) S fun d S' => ∃ ys, ∃ m : FN S.acc, K ys ∧ d = .acc m.n ys.length ∧ S' = ⟨S.box, ren S.acc l (m.n, .arr s ys)⟩ := by
  intro g vs w h1 h2
  obtain ⟨b, c, hv, hc1, hc2, hbn, hR⟩ := h1.openA hl hn he
  have h2' : RepL g (.v (.slice (some ⟨b, 0, none⟩) xs.length c) :: args) vs.toList := by
    obtain ⟨u, us', e, r1, r2⟩ := h2.uncons
    rw [e]
    refine RepL.cons ?_ r2
    cases r1 with
    | acc _ _ o' c' ha =>
      rw [hv] at ha
      cases ha
      exact .v _ rfl
  refine (h b c hbn hc1 hc2 g vs w hR h2').mono ?_
  rintro e w' ⟨r, g', d, S', rfl, hle, hR', hd, b', c', ds, ys, B, hK, rfl, hb', hacc, rfl, hsub, he', hds, hdl, hc3, hc4⟩
  obtain ⟨m, g2, hle2, hm1, hm2, hR2, hA⟩ := hR'.closeA hb' hs he' hds hdl hc3 hc4 S.acc
  have hrv := rep_v hd
  subst hrv
  refine ⟨_, g2, _, ⟨S.box, ren S.acc l (m, .arr s ys)⟩, rfl, hle.trans hle2, ?_, hA, ys, ⟨m, nin_of hm2⟩, hK, rfl, rfl⟩
  rw [hacc] at hR2
  have hR3 := hR2.forget (S' := ⟨S.box, (m, .arr s ys) :: del S.acc l⟩) hsub (List.Sublist.refl _)
  exact (⟨.refl _, (ren_perm h1.na hl).symm⟩ : Y.StP ⟨S.box, (m, .arr s ys) :: del S.acc l⟩ ⟨S.box, ren S.acc l (m, .arr s ys)⟩).rel hR3
end
end Aml

namespace Aml
open Go Go.RowKit
set_option linter.unusedVariables false
set_option linter.unusedSimpArgs false
/-- Less, equal or more, as a number. -/
def cmpS (a b : ByteArray) : Int := if Op.bytesLess a.data.toList b.data.toList = true then -1 else if Op.bytesLess b.data.toList a.data.toList = true then 1 else 0
theorem cmp_less : ∀ x y : List UInt8, Lib.compareBytes x y = if Op.bytesLess x y = true then -1 else if Op.bytesLess y x = true then 1 else 0
  | [], [] => rfl
  | [], _ :: _ => rfl
  | _ :: _, [] => rfl
  | x :: a, y :: b => by
    unfold Lib.compareBytes Op.bytesLess
    by_cases h1 : x < y
    · simp [h1]
    · by_cases h2 : y < x
      · have : (x == y) = false := by
          rw [beq_eq_false_iff_ne]; rintro rfl; exact h1 h2
        simp [h1, h2, this]
      · have : x = y := by
          have := UInt8.le_antisymm (UInt8.not_lt.1 h2) (UInt8.not_lt.1 h1)
          exact this
        subst this
        simp [h1, cmp_less a b]
section
variable {P : Program} {w0 : W0}
theorem cmpX {f : FuncId} {fn : Func} (hf : P.funcs[f]? = some fn) (hname : (fn.name == "runtime.NumGoroutine") = false) (hb : fn.body.isNone = true) (hn : Extern.findNext fn = none) (he : Extern.find fn = some Extern.BytealgCompare.compare)
    (a b : ByteArray) (S : St) {K : DV → St → Prop} (hk : K (.v (.int .i64 (cmpS a b))) S) : @XC P w0 f [.v (.string a), .v (.string b)] S ⟨K⟩ := by
  intro g w us h r
  obtain ⟨u1, us1, rfl, r1, r⟩ := r.uncons
  obtain ⟨u2, us2, rfl, r2, r⟩ := r.uncons
  have : us2 = [] := List.eq_nil_of_length_eq_zero r.len.symm
  subst this
  cases r1; cases r2
  refine ⟨.int .i64 (cmpS a b), w, g, _, S, ?_, .refl g, h, .v _ rfl, hk⟩
  rw [run_callFunc_extern hf hname hb hn he]
  have := Lib.run_compareString (P := P) a b w
  rw [cmp_less] at this
  unfold cmpS
  rw [show [Value.string a, Value.string b].toArray = #[.string a, .string b] from rfl, this]; rfl
theorem overX {f : FuncId} {fn : Func} (hf : P.funcs[f]? = some fn) (hname : (fn.name == "runtime.NumGoroutine") = false) (hb : fn.body.isNone = true) (hn : Extern.findNext fn = none) {t tb e : TypeId} (he : Extern.find fn = some (Extern.SlicesOverlaps.overlaps #[t, t] #[tb]))
    (ht : P.underlying t = some (.slice e)) {size : Nat} (hz : ∀ w, (Go.sizeOf e).run P w = .ok size w) {s : Nat} (hs : 0 < s) (fl : Bool) (xs : List DV) {b : Nat} {ds : List DV} {S : St} (hbx : lk S.box b = some ds) (o n c : Nat) {K : DV → St → Prop} (hk : K (.v (.bool false)) S) :
    @XC P w0 f [.sl s fl xs, .v (.slice (some ⟨b, o, none⟩) n c)] S ⟨K⟩ := by
  intro g w us h r
  obtain ⟨u1, us1, rfl, r1, r⟩ := r.uncons
  obtain ⟨u2, us2, rfl, r2, r⟩ := r.uncons
  have : us2 = [] := List.eq_nil_of_length_eq_zero r.len.symm
  subst this
  cases r2
  refine ⟨.bool false, w, g, _, S, ?_, .refl g, h, .v _ rfl, hk⟩
  rw [run_callFunc_extern hf hname hb hn he]
  obtain ⟨ow, ho⟩ := h.open_
  obtain ⟨_, _, hnone, cs, te, hcs, _, _⟩ := ho.box b ds (lk_mem hbx)
  suffices hrun : (Extern.SlicesOverlaps.overlaps #[t, t] #[tb] #[u1, .slice (some ⟨b, o, none⟩) n c]).run P w = .ok (.bool false) w by
    rw [show [u1, Value.slice (some ⟨b, o, none⟩) n c].toArray = #[u1, .slice (some ⟨b, o, none⟩) n c] from rfl, hrun]; rfl
  rcases rep_sl r1 with ⟨he, o', c', hv', _⟩ | ⟨b', o', c', us, hv', hr, hfl, hlc, hcm, hzz, hone, hc⟩
  · rw [hv']
    cases o' with
    | none =>
      change Sem.run P (α := Value) (do
        let some t := (#[t, t] : Array TypeId)[0]? | stuck "slices.overlaps: no parameter types"
        let .slice elem ← underlying t | stuck "slices.overlaps: slice type expected"
        let size ← sizeOf elem
        pure (Value.bool false)) w = _
      simp [run_underlying ht, hz]
    | some a =>
      change Sem.run P (α := Value) (do
        let some t := (#[t, t] : Array TypeId)[0]? | stuck "slices.overlaps: no parameter types"
        let .slice elem ← underlying t | stuck "slices.overlaps: slice type expected"
        let size ← sizeOf elem
        match (some a : Option Addr), (some ⟨b, o, none⟩ : Option Addr) with
        | some a, some b =>
          if 0 = 0 ∨ n = 0 ∨ size = 0 then pure (Value.bool false)
          else if a.block != b.block && (← frozen a) && (← frozen b) then unsupported .addressObserved
          else do
            if a.block != b.block then do
              noView a; noView b
              if ← mayBeOne a b then return Value.bool ((← choose (.extern "sameAddr.stringBytes" 2)) == 1)
            pure (Value.bool (a.block == b.block && a.off < b.off + n * size && b.off < a.off + 0 * size))
        | _, _ => pure (Value.bool false)) w = _
      simp [run_underlying ht, hz]
  · rw [hv']
    change Sem.run P (α := Value) (do
      let some t := (#[t, t] : Array TypeId)[0]? | stuck "slices.overlaps: no parameter types"
      let .slice elem ← underlying t | stuck "slices.overlaps: slice type expected"
      let size ← sizeOf elem
      match (some ⟨b', o', none⟩ : Option Addr), (some ⟨b, o, none⟩ : Option Addr) with
      | some a, some b =>
        if xs.length = 0 ∨ n = 0 ∨ size = 0 then pure (Value.bool false)
        else if a.block != b.block && (← frozen a) && (← frozen b) then unsupported .addressObserved
        else do
          if a.block != b.block then do
            noView a; noView b
            if ← mayBeOne a b then return Value.bool ((← choose (.extern "sameAddr.stringBytes" 2)) == 1)
          pure (Value.bool (a.block == b.block && a.off < b.off + n * size && b.off < a.off + xs.length * size))
      | _, _ => pure (Value.bool false)) w = _
    by_cases h0 : xs.length = 0 ∨ n = 0 ∨ size = 0
    · rcases h0 with h0 | h0 | h0
      · have h0 := List.eq_nil_of_length_eq_zero h0
        simp [run_underlying ht, hz, h0]
      · simp [run_underlying ht, hz, h0]
      · simp [run_underlying ht, hz, h0]
    · have hu : 0 < us.length := by have := hr.len; omega
      have h1 : ¬ xs = [] := fun e => h0 (.inl (by rw [e]; rfl))
      have h2 : ¬ n = 0 := fun e => h0 (.inr (.inl e))
      have h3 : ¬ size = 0 := fun e => h0 (.inr (.inr e))
      have hsz := hzz 0 us[0] (List.getElem?_eq_getElem hu)
      have himm := hc 0 us[0] 0 (us[0].cells[0]'(by omega)) (List.getElem?_eq_getElem hu) (Array.getElem?_eq_getElem (by omega))
      have hne : b' ≠ b := by rintro rfl; rw [hnone] at himm; cases himm
      have hcell := ho.imm _ _ _ himm
      have hbl : w.heap[b]? = some (.cells cs te (0, 0)) := hcs
      have hfb : ∀ i, w.frozen? ⟨b, i, none⟩ = false := fun i => by simp [World.frozen?, hbl]
      have hsb : w.shape? b = some (te, cs.size) := by simp [World.shape?, hbl]
      obtain ⟨ta, ka, hsa⟩ : ∃ ta ka, w.shape? b' = some (ta, ka + 1) := by
        unfold World.cell? at hcell
        unfold World.shape?
        split at hcell
        · rename_i cc tt ff e1
          simp only [Option.isSome_none, Bool.false_eq_true, if_false] at hcell
          have : 0 < cc.size := by
            have := (Array.getElem?_eq_some_iff.1 hcell).1
            omega
          simp only at e1
          rw [e1]
          exact ⟨tt, cc.size - 1, by simp only [Option.some.injEq, Prod.mk.injEq, true_and]; omega⟩
        · cases hcell
      have hnb : (b' != b) = true := by simpa using hne
      have hnb' : (b' == b) = false := by simpa using hne
      have hfb1 := hfb o
      have hfb2 := hfb cs.size
      cases hfa : w.frozen? ⟨b', o', none⟩ <;> cases hfe : w.frozen? ⟨b', ka + 1, none⟩ <;>
        simp [run_underlying ht, hz, h1, h2, h3, hne, hnb, hnb', frozen, noView, viewAt, mayBeOne, stringish, shape, Sem.run, hsa, hsb, hfa, hfe, hfb1, hfb2]
end
end Aml

namespace Aml
open Go Go.RowKit
set_option linter.unusedVariables false
set_option linter.unusedSimpArgs false
section
variable {P : Program} {F : Fence} {n : Nat} {Q : Exit → Act → World → Prop} {a : Act} {w : World} {b : Frame} {k : List Item} {cs : List Frame}
theorem stepR_scope {c : Code} : step P (lone (b.atR a (.code (.scope c) :: k)) cs w) = .next (lone (b.atR a (.code c :: .inScope c :: k)) cs w) := by
  apply step_lone_go; simp [stepG, stepG.exec, Frame.atR]
theorem stepR_inScope {c : Code} : step P (lone (b.atR a (.inScope c :: k)) cs w) = .next (lone (b.atR a k) cs w) := by
  apply step_lone_go; simp [stepG, stepG.exec, Frame.atR]
def noGA (Q : Exit → Act → World → Prop) : Exit → Act → World → Prop
  | .goto _, _, _ => False
  | e, a, w => Q e a w
theorem wpIn_scope {c : Code} (h : c.wpIn F n P (noGA Q) a w) : (Code.scope c).wpIn F n P Q a w := by
  intro b k cs hro hb hr
  have h0 : (lone (b.atR a (.code (.scope c) :: k)) cs w).fenced P F := fenced_calm hb hr rfl
  obtain ⟨e, a₁, w₁, hq, harr⟩ := h b (.inScope c :: k) cs hro hb hr
  cases e with
  | normal => exact ⟨.normal, a₁, w₁, hq, .head h0 stepR_scope (StepsIn.trans harr (.one (fenced_calm hb hr rfl) stepR_inScope))⟩
  | exit id =>
    have hx : exitTo id (.inScope c :: k) = exitTo id k := by simp [exitTo]
    exact ⟨.exit id, a₁, w₁, hq, fun k' hk => .head h0 stepR_scope (harr.1 k' (by rw [hx]; exact hk)),
      fun hr' hk => let ⟨k₁, h1, h2⟩ := harr.2 hr' (by rw [hx]; exact hk); ⟨k₁, h1, .head h0 stepR_scope h2⟩⟩
  | goto l => exact hq.elim
  | ret => exact ⟨_, a₁, w₁, hq, .of_steps (.one h0 stepR_scope) harr⟩
  | panic ch => exact ⟨_, a₁, w₁, hq, .of_steps (.one h0 stepR_scope) harr⟩
  | outgrown => exact ⟨_, a₁, w₁, hq, .of_steps (.one h0 stepR_scope) harr⟩
end
section
variable {P : Program} {w0 : W0}
def noG (Q : Exit → List DV → St → Prop) : Exit → List DV → St → Prop
  | .goto _, _, _ => False
  | e, a, w => Q e a w
theorem noG_normal (Q : Exit → List DV → St → Prop) (fr : List DV) (S : St) : noG Q .normal fr S = Q .normal fr S := rfl
theorem noG_ret (Q : Exit → List DV → St → Prop) (fr : List DV) (S : St) : noG Q .ret fr S = Q .ret fr S := rfl
theorem noG_exit (Q : Exit → List DV → St → Prop) (n : Nat) (fr : List DV) (S : St) : noG Q (.exit n) fr S = Q (.exit n) fr S := rfl
attribute [go_sem] noG_normal noG_ret noG_exit
theorem awp_scope {c : Code} {fr : List DV} {S : St} {Q : Exit → List DV → St → Prop} (h : AWp P w0 c fr S (noG Q)) : AWp P w0 (.scope c) fr S Q := by
  intro g a w h1 h2 h3 ro hr
  refine wpIn_scope (wpIn_mono (h g a w h1 h2 h3 ro (hr.imp id fun h => h)) ?_)
  rintro e a w ⟨hd, g', fr, S, k1, k2, k3, k4⟩
  cases e with
  | goto l => exact k4.elim
  | _ => exact ⟨hd, g', fr, S, k1, k2, k3, k4⟩
theorem awp_label {l : Nat} {fr : List DV} {S : St} {Q : Exit → List DV → St → Prop} (h : Q .normal fr S) : AWp P w0 (.label l) fr S Q :=
  fun g a w h1 h2 h3 ro _ => wpIn_label ⟨h3, g, fr, S, .refl g, h1, h2, h⟩
/-- A scope with its label ahead, walked on. -/
theorem scopeK (ss : List Nat := []) {l : Nat} {c : Code} {fr : List DV} {S : St} {Q : Exit → List DV → St → Prop} (hm : P.follows .mixedOrders = true) (hc : okC ss c = true) (h : vw P w0 ss c fr S (noG Q)) : AWp P w0 (.scope (.seq (.label l) c)) fr S Q :=
  awp_scope (awp_seq ((awp_label (Q := fun e fr' S' => e = .normal ∧ fr' = fr ∧ S' = S) ⟨rfl, rfl, rfl⟩).mono fun e fr' S' q => by
    obtain ⟨rfl, rfl, rfl⟩ := q
    exact vw_sound hm c hc h))
end
end Aml
