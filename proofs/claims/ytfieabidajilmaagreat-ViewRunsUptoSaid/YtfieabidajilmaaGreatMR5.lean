/-
  A row that a statement builds, as one that grows; The end of a growing slice, cleared; Few statements whose order is open, each order walked; Statements whose order is open, with rows made and turned to texts: what is made is frozen at once; Statements whose order is open, once more: what reads no store may come at any time, and so may what makes a box that nothing ahead looks at; Statements whose order is open: how the reckoning goes; What is known of a map that is owned; Rows of ints, as the walk speaks of them; Sizes, and where nodes are parted: what the reference computes; Trees of the reference; Nodes parted and put together: what the reference computes; Branches mended: what the reference computes; Putting: what the reference computes; Trees stay trees; keys and values short; depth and number of entries: plain laws; How many entries a tree has: plain laws; Putting, walked; Finding and deleting, walked; Trees, as the program has them; Where a node is parted: what the program computes; Rows of the program's trees: cloned, put together, some of their places anew; Keys looked for; sizes of a node's cells; the kid that has a key: what the program computes. By an AI agent.
-/
import Derived.Test.YtfieabidajilmaaGreatMR4
import Derived.Test.YtfieabidajilmaaGreatMR3
namespace Aml
open Go Go.RowKit
set_option linter.unusedVariables false
set_option linter.unusedSimpArgs false

/-- A row, as one that grows. -/
def arrK (d : DV) (S : St) (K : DV → St → Prop) : Prop := match d with
  | .sl s true xs => ∀ l, nin S.acc l → K (.acc l xs.length) ⟨S.box, (l, .arr s xs) :: S.acc⟩
  | _ => False
section
variable {P : Program} {w0 : W0}
def opA (P : Program) (w0 : W0) (op : Op) (fr : List DV) (S : St) (K : DV → St → Prop) : Prop := match op with
  | .buildSlice t len parts => shrs S (parts.toList.map fun p => ev fr p.2) fun ds S => vBuildSlice (tk P t) (zD P (elT P t)) len ((parts.toList.map (·.1)).zip ds) fun d => arrK d S K
  | op => vcOp P w0 op fr S K
def vcLA (P : Program) (w0 : W0) (ops : Array Oper) (K : List DV → St → Prop) : List Oper → List DV → St → Prop
  | [], fr, S => K fr S
  | o :: rest, fr, S => guardK ops fr o.guard (fun fr => opA P w0 o.op fr S fun d S' => vcLA P w0 ops K rest (pt fr o.dst d) S') (fun fr => vcLA P w0 ops K rest (pt fr o.dst ud) S)
section
variable {ops : Array Oper} {fr : List DV} {S : St} {rest : List Oper} {dst : Option Tmp} {op : Op} {ty : TypeId} {pos : String} {aft : Array Edge} {K : List DV → St → Prop} {K2 : DV → St → Prop}
@[congr] theorem c_opA {fr' : List DV} {S' : St} (h1 : fr = fr') (h2 : S = S') : opA P w0 op fr S K2 = opA P w0 op fr' S' K2 := by cases h1; cases h2; rfl
@[congr] theorem c_vcLA {l : List Oper} {fr' : List DV} {S' : St} (h1 : fr = fr') (h2 : S = S') : vcLA P w0 ops K l fr S = vcLA P w0 ops K l fr' S' := by cases h1; cases h2; rfl
@[congr] theorem c_arrK {d d' : DV} {S' : St} (h1 : d = d') (h2 : S = S') : arrK d S K2 = arrK d' S' K2 := by cases h1; cases h2; rfl
end
end
end Aml

namespace Aml
open Go Go.RowKit
set_option linter.unusedVariables false
set_option linter.unusedSimpArgs false
section
variable {P : Program} {w0 : W0}
end
end Aml

namespace Aml
open Go Go.RowKit
set_option linter.unusedVariables false
set_option linter.unusedSimpArgs false

/-- Which of the remaining ones may come: the first, the second, either. -/
inductive Tr where
  | leaf | head (t : Tr) | snd (t : Tr) | both (t u : Tr)
def vwT (P : Program) (w0 : W0) (K : List DV → St → Prop) : Tr → List Oper → List DV → St → Prop
  | .leaf, [], fr, S => K fr S
  | .head t, o :: r, fr, S => vcOp P w0 o.op fr S fun d S' => vwT P w0 K t r (pt fr o.dst d) S'
  | .snd t, p :: o :: r, fr, S => vcOp P w0 o.op fr S fun d S' => vwT P w0 K t (p :: r) (pt fr o.dst d) S'
  | .both t u, p :: o :: r, fr, S => (vcOp P w0 p.op fr S fun d S' => vwT P w0 K t (o :: r) (pt fr p.dst d) S') ∧ vcOp P w0 o.op fr S fun d S' => vwT P w0 K u (p :: r) (pt fr o.dst d) S'
  | _, _, _, _ => False
section
variable {P : Program} {w0 : W0}
section
variable {K : List DV → St → Prop} {fr : List DV} {S : St} {t u : Tr} {o p : Oper} {r : List Oper} {dst dst2 : Option Tmp} {op op2 : Op} {ty ty2 : TypeId} {pos pos2 : String} {aft aft2 : Array Edge}
@[congr] theorem c_vwT {fr' : List DV} {S' : St} (h1 : fr = fr') (h2 : S = S') : vwT P w0 K t r fr S = vwT P w0 K t r fr' S' := by cases h1; cases h2; rfl
end
end
end Aml

namespace Aml
open Go Go.RowKit
set_option linter.unusedVariables false
set_option linter.unusedSimpArgs false
section
variable {P : Program} {w0 : W0}
/-- What is made is frozen, its own objects forgotten. -/
theorem yields_q {o : Oper} {ρD : Operand → DV} {S : St} {r : DV} (h : YieldsE P w0 o ρD S fun d S' => shr S' d fun d' S'' => d' = r ∧ Sub S S'') : YieldsE P w0 o ρD S fun d S' => d = r ∧ S' = S := by
  intro g w ρ h1 h2 hcst
  have := h g w ρ h1 h2 hcst
  split at this
  · obtain ⟨g', d, S', a, b, c, e⟩ := this
    obtain ⟨g2, d2, S2, q1, q2, q3, q4, q5⟩ := shr_ok b c e
    exact ⟨g2, d2, S, a.trans q1, q2.forget q5.box q5.acc, q3, q4, rfl⟩
  · obtain ⟨g', S', a, b, e⟩ := this
    have e : ud = r ∧ Sub S S' := e
    exact ⟨g', S, a, b.forget e.2.box e.2.acc, e.1, rfl⟩
  · refine this.mono ?_
    rintro e w'' ⟨r', g', d, S', a, b, c, x, y⟩
    obtain ⟨g2, d2, S2, q1, q2, q3, q4, q5⟩ := shr_ok c x y
    exact ⟨r', g2, d2, S, a, b.trans q1, q2.forget q5.box q5.acc, q3, q4, rfl⟩
  · refine fun ro => (this ro).mono ?_
    rintro e w'' ⟨r', g', d, S', a, b, c, x, y⟩
    obtain ⟨g2, d2, S2, q1, q2, q3, q4, q5⟩ := shr_ok c x y
    exact ⟨r', g2, d2, S, a, b.trans q1, q2.forget q5.box q5.acc, q3, q4, rfl⟩
  · exact this
def vMakeQ (k : TK) (z x y : DV) (K : DV → Prop) : Prop := match k, x, y with
  | .sl _ s by' true, .v (.int _ n), .v (.int _ m) => okE z = true ∧ 0 ≤ n ∧ n ≤ m ∧ m * by' ≤ 140737488355328 ∧ m ≤ 9223372036854775807 ∧ K (.sl s false (List.replicate n.toNat z))
  | _, _, _ => False
def vConvZ (a b ke : TK) (x : DV) (K : DV → Prop) : Prop := match a, b, x with
  | .sl _ _ _ _, .str, .sl s _ xs => ke = .int .u8 ∧ s = 1 ∧ okBy xs = true ∧ K (.v (.string (strOfNums (byD xs))))
  | a, b, x => vConv a b x K
def opZ (P : Program) (w0 : W0) (op : Op) (fr : List DV) (S : St) (K : DV → Prop) : Prop := match op with
  | .makeSlice t x y => vMakeQ (tk P t) (zD P (elT P t)) (ev fr x) (ev fr y) K
  | .convert s d x => vConvZ (tk P s) (tk P d) (tk P (elT P s)) (ev fr x) K
  | op => vcOpQ P w0 op fr S K
def isQZ : Op → Bool
  | .makeSlice .. => true
  | op => isQ op
def LZ (P : Program) (w0 : W0) (S : St) (ops : Array Oper) (K : List DV → St → Prop) : List Oper → List DV → Prop
  | [], fr => K fr S
  | o :: rest, fr => selK (isQZ o.op) (guardK ops fr o.guard (fun fr => opZ P w0 o.op fr S fun d => LZ P w0 S ops K rest (pt fr o.dst d)) (fun fr => LZ P w0 S ops K rest (pt fr o.dst ud))) (vcL P w0 ops K (o :: rest) fr S)
theorem opZ_sound {o : Oper} {fr : List DV} {S : St} {K : DV → Prop} (hs : okSl o.op = true) (h : opZ P w0 o.op fr S K) : ∃ d, QY P w0 S o fr d ∧ K d := by
  cases hop : o.op with
  | makeSlice t x y =>
    rw [hop] at h
    simp only [opZ, vMakeQ] at h
    split at h
    · rename_i e s by' k1 n k2 m hk hx hy
      obtain ⟨q1, q2, q3, q4, q5, q6⟩ := h
      refine ⟨_, yields_q (y_makeSlice hop ?_), q6⟩
      rw [hk, hx, hy]
      refine ⟨q1, q2, q3, q4, q5, fun l hl => ?_⟩
      show shr _ _ _
      unfold shr shr1
      simp only [lk, if_true, List.length_replicate, true_and]
      exact ⟨List.Sublist.refl _, by show List.Sublist S.acc (up _ _ _); simp only [up, if_true]; exact List.sublist_cons_self _ _⟩
    · exact h.elim
  | convert s d x =>
    rw [hop] at h hs
    simp only [opZ, vConvZ] at h
    split at h
    · rename_i e c b i s0 f xs hk hd hx
      obtain ⟨q1, q2, q3, q4⟩ := h
      refine ⟨_, y_convS (K := fun d S' => d = _ ∧ S' = S) hop ?_, q4⟩
      rw [hk, hd, hx]
      exact ⟨q1, rfl, q2, q3, rfl, rfl⟩
    · exact vcOpQ_sound (by rw [hop]; exact hs) (by rw [hop]; exact h)
  | _ => rw [hop] at h hs; exact vcOpQ_sound (by rw [hop]; exact hs) (by rw [hop]; exact h)
section
variable {ops : Array Oper} {K : List DV → St → Prop} {K2 : DV → Prop} {fr : List DV} {S : St} {r : List Oper} {dst : Option Tmp} {op : Op} {ty : TypeId} {pos : String} {aft : Array Edge}
@[congr] theorem c_LZ {fr' : List DV} (h1 : fr = fr') : LZ P w0 S ops K r fr = LZ P w0 S ops K r fr' := by cases h1; rfl
@[congr] theorem c_opZ {fr' : List DV} (h1 : fr = fr') : opZ P w0 op fr S K2 = opZ P w0 op fr' S K2 := by cases h1; rfl
@[congr] theorem c_vMakeQ {k k' : TK} {z z' x x' y y' : DV} (h1 : k = k') (h2 : z = z') (h3 : x = x') (h4 : y = y') : vMakeQ k z x y K2 = vMakeQ k' z' x' y' K2 := by cases h1; cases h2; cases h3; cases h4; rfl
@[congr] theorem c_vConvZ {k k' q q' ke ke' : TK} {x x' : DV} (h1 : k = k') (h2 : q = q') (h3 : ke = ke') (h4 : x = x') : vConvZ k q ke x K2 = vConvZ k' q' ke' x' K2 := by cases h1; cases h2; cases h3; cases h4; rfl
end
end
attribute [go_sem] isQZ
end Aml

namespace Aml.Z
open Go Go.RowKit
set_option linter.unusedVariables false
set_option linter.unusedSimpArgs false

/-- 0: looks at no store; 1: reads; 2: makes a box; 3: else. -/
def kX : Op → Nat
  | .load .. => 1
  | .alloc _ => 2
  | .call c => match c.callee with
    | .value _ => 1
    | .builtin .len => 0
    | .builtin .cap => 0
    | .builtin .min => 0
    | .builtin .max => 0
    | _ => 3
  | .move _ => 0
  | .assign _ => 0
  | .pick .. => 0
  | .fieldAddr .. => 0
  | .indexAddr .. => 0
  | .index .. => 0
  | .field .. => 0
  | .extract .. => 0
  | .nilCheck _ => 0
  | .binOp .. => 0
  | .unOp .. => 0
  | .convert .. => 0
  | .makeInterface .. => 0
  | .makeFunc .. => 0
  | .slice .. => 0
  | .build .. => 0
  | .buildSlice .. => 0
  | .makeSlice .. => 0
  | _ => 3
def Fr (S : St) (B : List (Nat × List DV)) : Prop := ∀ x, x ∈ B → nin S.box x.1
def bodyX (P : Program) (w0 : W0) (o : Oper) (fr : List DV) (S : St) (K : List DV → St → Prop) : Prop :=
  (kX o.op = 0 ∧ ∃ d, (∀ S', QY P w0 S' o fr d) ∧ K (pt fr o.dst d) S) ∨
  (kX o.op = 1 ∧ ∃ d, (∀ B, Fr S B → QY P w0 ⟨B ++ S.box, S.acc⟩ o fr d) ∧ K (pt fr o.dst d) S) ∨
  (kX o.op = 2 ∧ ∃ t, o.op = .alloc t ∧ okE (zD P t) = true ∧ ∀ b, nin S.box b → K (pt fr o.dst (.v (.pointer (some ⟨b, 0, none⟩)))) ⟨(b, cd (zD P t)) :: S.box, S.acc⟩) ∨
  (kX o.op = 3 ∧ YieldsE P w0 o (ev fr) S fun d S' => K (pt fr o.dst d) S')
def tauX (P : Program) (w0 : W0) (ops : Array Oper) (o : Oper) (fr : List DV) (S : St) (K : List DV → St → Prop) : Prop :=
  (wantB ops fr o.guard = some true ∧ bodyX P w0 o fr S K) ∨ (wantB ops fr o.guard = some false ∧ K (pt fr o.dst ud) S)
/-- May two that have no order change places? -/
def okP (a b : Nat) : Bool := a == 0 || (a == 1 && decide (b < 3))

section
variable {P : Program} {w0 : W0} {ops : Array Oper} {md : Region.Mode}
theorem bodyX_mono {o : Oper} {fr : List DV} {S : St} {K K' : List DV → St → Prop} (h : ∀ fr S, K fr S → K' fr S) (b : bodyX P w0 o fr S K) : bodyX P w0 o fr S K' := by
  rcases b with ⟨c, d, q, k⟩ | ⟨c, d, q, k⟩ | ⟨c, t, ht, hz, k⟩ | ⟨c, q⟩
  · exact .inl ⟨c, d, q, h _ _ k⟩
  · exact .inr (.inl ⟨c, d, q, h _ _ k⟩)
  · exact .inr (.inr (.inl ⟨c, t, ht, hz, fun b hb => h _ _ (k b hb)⟩))
  · exact .inr (.inr (.inr ⟨c, yields_mono (fun d S hk => h _ _ hk) q⟩))
theorem tauX_mono {o : Oper} {fr : List DV} {S : St} {K K' : List DV → St → Prop} (h : ∀ fr S, K fr S → K' fr S) (b : tauX P w0 ops o fr S K) : tauX P w0 ops o fr S K' :=
  b.imp (fun ⟨a, b⟩ => ⟨a, bodyX_mono h b⟩) fun ⟨a, b⟩ => ⟨a, h _ _ b⟩
/-- What another one puts elsewhere is not seen. -/
theorem bodyX_put {o : Oper} {fr : List DV} {S : St} {K : List DV → St → Prop} {dst : Option Tmp} {e : DV} (h1 : ∀ t, dst = some t → t ∉ o.looksAt ops) (h2 : ∀ t, dst = some t → o.dst ≠ some t) :
    bodyX P w0 o (pt fr dst e) S K ↔ bodyX P w0 o fr S fun fr' S' => K (pt fr' dst e) S' := by
  have hq : ∀ S d, QY P w0 S o (pt fr dst e) d ↔ QY P w0 S o fr d := fun S d =>
    ⟨yields_congr (fun x hx => ev_put (ops := ops) h1 x hx), yields_congr (fun x hx => (ev_put (ops := ops) h1 x hx).symm)⟩
  have hc : ∀ d, pt (pt fr dst e) o.dst d = pt (pt fr o.dst d) dst e := fun d => pt_comm fr e d h2
  have hy : ∀ K, YieldsE P w0 o (ev (pt fr dst e)) S K ↔ YieldsE P w0 o (ev fr) S K := fun K =>
    ⟨yields_congr (fun x hx => ev_put (ops := ops) h1 x hx), yields_congr (fun x hx => (ev_put (ops := ops) h1 x hx).symm)⟩
  unfold bodyX
  simp only [hq, hc, hy]
theorem tauX_put {o : Oper} {fr : List DV} {S : St} {K : List DV → St → Prop} {dst : Option Tmp} {e : DV} (h1 : ∀ t, dst = some t → t ∉ o.looksAt ops) (h2 : ∀ t, dst = some t → o.dst ≠ some t) :
    tauX P w0 ops o (pt fr dst e) S K ↔ tauX P w0 ops o fr S fun fr' S' => K (pt fr' dst e) S' := by
  unfold tauX
  rw [want_put h1, bodyX_put h1 h2, pt_comm fr e ud h2]
theorem bodyX_monoP {o : Oper} {fr : List DV} {S : St} {K K' : List DV → St → Prop} (h : ∀ e S, K (pt fr o.dst e) S → K' (pt fr o.dst e) S) (b : bodyX P w0 o fr S K) : bodyX P w0 o fr S K' := by
  rcases b with ⟨c, d, q, k⟩ | ⟨c, d, q, k⟩ | ⟨c, t, ht, hz, k⟩ | ⟨c, q⟩
  · exact .inl ⟨c, d, q, h _ _ k⟩
  · exact .inr (.inl ⟨c, d, q, h _ _ k⟩)
  · exact .inr (.inr (.inl ⟨c, t, ht, hz, fun b hb => h _ _ (k b hb)⟩))
  · exact .inr (.inr (.inr ⟨c, yields_mono (fun d S hk => h _ _ hk) q⟩))
theorem tauX_monoP {o : Oper} {fr : List DV} {S : St} {K K' : List DV → St → Prop} (h : ∀ e S, K (pt fr o.dst e) S → K' (pt fr o.dst e) S) (b : tauX P w0 ops o fr S K) : tauX P w0 ops o fr S K' :=
  b.imp (fun ⟨a, b⟩ => ⟨a, bodyX_monoP h b⟩) fun ⟨a, b⟩ => ⟨a, h _ _ b⟩
/-- Two that are apart change places. -/
theorem tauX_comm {x y : Oper} (hap : x.apart ops y = true) (hk : okP (kX x.op) (kX y.op) = true) {fr : List DV} {S : St} {K : List DV → St → Prop} (h : tauX P w0 ops x fr S fun fr S => tauX P w0 ops y fr S K) :
    tauX P w0 ops y fr S fun fr S => tauX P w0 ops x fr S K := by
  obtain ⟨b1, b2, b3⟩ := Oper.apart_spec hap
  have hw : ∀ e, wantB ops (pt fr y.dst e) x.guard = wantB ops fr x.guard := fun e => want_put b3
  have hq : ∀ {S d e}, QY P w0 S x fr d → QY P w0 S x (pt fr y.dst e) d := fun {S d e} q => yields_congr (fun z hz => (ev_put (ops := ops) b3 z hz).symm) q
  rcases h with ⟨hg, hb⟩ | ⟨hg, hb⟩
  · rcases hb with ⟨c, d, q, k⟩ | ⟨c, d, q, k⟩ | ⟨c, -⟩ | ⟨c, -⟩
    · rw [tauX_put b1 b2] at k
      exact tauX_monoP (fun e S' hk => .inl ⟨by rw [hw]; exact hg, .inl ⟨c, d, fun S'' => hq (q S''), hk⟩⟩) k
    · rw [tauX_put b1 b2] at k
      rcases k with ⟨g2, k⟩ | ⟨g2, k⟩
      · rcases k with ⟨c2, d2, q2, k⟩ | ⟨c2, d2, q2, k⟩ | ⟨c2, t, ht, hz, k⟩ | ⟨c2, -⟩
        · exact .inl ⟨g2, .inl ⟨c2, d2, q2, .inl ⟨by rw [hw]; exact hg, .inr (.inl ⟨c, d, fun B hB => hq (q B hB), k⟩)⟩⟩⟩
        · exact .inl ⟨g2, .inr (.inl ⟨c2, d2, q2, .inl ⟨by rw [hw]; exact hg, .inr (.inl ⟨c, d, fun B hB => hq (q B hB), k⟩)⟩⟩)⟩
        · refine .inl ⟨g2, .inr (.inr (.inl ⟨c2, t, ht, hz, fun b hb => .inl ⟨by rw [hw]; exact hg, .inr (.inl ⟨c, d, fun B hB => hq ?_, k b hb⟩)⟩⟩))⟩
          have := q (B ++ [(b, cd (zD P t))]) fun z hz' => by
            rcases List.mem_append.1 hz' with h | h
            · exact (hB z h).2.2
            · simp only [List.mem_singleton] at h; subst h; exact hb
          rw [List.append_assoc] at this
          exact this
        · rw [c, c2] at hk; exact absurd hk (by decide)
      · exact .inr ⟨g2, .inl ⟨by rw [hw]; exact hg, .inr (.inl ⟨c, d, fun B hB => hq (q B hB), k⟩)⟩⟩
    · rw [c] at hk; simp [okP] at hk
    · rw [c] at hk; simp [okP] at hk
  · rw [tauX_put b1 b2] at hb
    exact tauX_monoP (fun e S' hk => .inr ⟨by rw [hw]; exact hg, hk⟩) hb

def tauI (P : Program) (w0 : W0) (ops : Array Oper) (i : Nat) (fr : List DV) (S : St) (K : List DV → St → Prop) : Prop := match ops[i]? with
  | none => K fr S
  | some o => tauX P w0 ops o fr S K
def wpX (P : Program) (w0 : W0) (md : Region.Mode) (ops : Array Oper) (K : List DV → St → Prop) : Nat → Array Bool → List DV → St → Prop
  | 0, listed, fr, S => Region.ready md ops listed = [] ∧ K fr S
  | fuel + 1, listed, fr, S => (Region.ready md ops listed = [] → K fr S) ∧ ∀ i ∈ Region.ready md ops listed, tauI P w0 ops i fr S (wpX P w0 md ops K fuel (listed.setIfInBounds i true))
theorem wpX_first {K : List DV → St → Prop} {i : Nat} {oi : Oper} (hi : ops[i]? = some oi) :
    ∀ (fuel : Nat) (listed : Array Bool) (fr : List DV) (S : St),
      (∀ j oj, ops[j]? = some oj → j ≠ i → listed.getD j true = false → (∀ e ∈ oj.after, Region.binds md e = true → e.on ≠ i) → oi.apart ops oj = true ∧ okP (kX oi.op) (kX oj.op) = true) →
      (∀ l : List Nat, l.Nodup → (∀ k, k ∈ l → listed.getD k true = false) → l.length ≤ fuel + 1) →
      i ∈ Region.ready md ops listed → tauX P w0 ops oi fr S (wpX P w0 md ops K fuel (listed.setIfInBounds i true)) → wpX P w0 md ops K (fuel + 1) listed fr S := by
  intro fuel
  induction fuel with
  | zero =>
    intro listed fr S _ hcnt hr H
    refine ⟨fun h => (by rw [h] at hr; cases hr), fun j hj => ?_⟩
    by_cases hji : j = i
    · subst hji; unfold tauI; simp only [hi]; exact H
    · exfalso
      have := hcnt [i, j] (by simp [Ne.symm hji]) fun k hk => by
        simp only [List.mem_cons, List.not_mem_nil, or_false] at hk
        rcases hk with rfl | rfl
        · exact (mem_ready.1 hr).1
        · exact (mem_ready.1 hj).1
      simp at this
  | succ fuel ih =>
    intro listed fr S hfree hcnt hr H
    refine ⟨fun h => (by rw [h] at hr; cases hr), fun j hj => ?_⟩
    by_cases hji : j = i
    · subst hji; unfold tauI; simp only [hi]; exact H
    · obtain ⟨hjun, oj, hoj, hall⟩ := mem_ready.1 hj
      have hnot : ∀ e ∈ oj.after, Region.binds md e = true → e.on ≠ i := fun e he hb heq => by
        have h1 := hall e he hb
        have h0 := (mem_ready.1 hr).1
        rw [heq] at h1
        rcases Nat.lt_or_ge i listed.size with h' | h'
        · simp [h'] at h0 h1; rw [h0] at h1; cases h1
        · simp [Array.getElem?_eq_none h'] at h1
      have h1 : tauX P w0 ops oi fr S fun fr S => tauX P w0 ops oj fr S (wpX P w0 md ops K fuel ((listed.setIfInBounds i true).setIfInBounds j true)) :=
        tauX_mono (fun fr S h => by
          have := h.2 j (ready_mono hj hji)
          unfold tauI at this; simp only [hoj] at this; exact this) H
      have hc := hfree j oj hoj hji hjun hnot
      have h2 := tauX_comm hc.1 hc.2 h1
      have hfree' : ∀ k ok, ops[k]? = some ok → k ≠ i → (listed.setIfInBounds j true).getD k true = false →
          (∀ e ∈ ok.after, Region.binds md e = true → e.on ≠ i) → oi.apart ops ok = true ∧ okP (kX oi.op) (kX ok.op) = true := fun k ok hk hki hun hno => by
        refine hfree k ok hk hki ?_ hno
        by_cases hjk : j = k
        · subst hjk; exact hjun
        · rw [getD_set_ne true hjk] at hun; exact hun
      unfold tauI
      simp only [hoj]
      have hcnt' : ∀ l : List Nat, l.Nodup → (∀ k, k ∈ l → (listed.setIfInBounds j true).getD k true = false) → l.length ≤ fuel + 1 := by
        intro l hn hl
        have hjs : j < listed.size := by
          rcases Nat.lt_or_ge j listed.size with h | h
          · exact h
          · rw [Array.getD_eq_getD_getElem?, Array.getElem?_eq_none h] at hjun; cases hjun
        have hjl : j ∉ l := fun hj => by
          have := hl j hj
          rw [Array.getD_eq_getD_getElem?, Array.getElem?_setIfInBounds] at this
          simp [hjs] at this
        have := hcnt (j :: l) (List.nodup_cons.2 ⟨hjl, hn⟩) fun k hk => by
          rcases List.mem_cons.1 hk with rfl | hk
          · exact hjun
          · have := hl k hk
            rw [getD_set_ne true (show j ≠ k from fun e => hjl (e ▸ hk))] at this
            exact this
        simp at this; omega
      refine tauX_mono (fun fr S h => ih (listed.setIfInBounds j true) fr S hfree' hcnt' (ready_mono hr (Ne.symm hji)) ?_) h2
      rw [Array.setIfInBounds_comm _ _ hji]
      exact h
/-- Is an operation free to come first? -/
def freeX (md : Region.Mode) (ops : Array Oper) (listed : Array Bool) (i : Nat) : Bool := (List.range ops.size).all fun j => match ops[i]?, ops[j]? with
  | some oi, some oj => j == i || listed.getD j true || oj.after.any (fun e => Region.binds md e && e.on == i) || (oi.apart ops oj && okP (kX oi.op) (kX oj.op))
  | _, _ => false
def lexX (md : Region.Mode) (ops : Array Oper) : Nat → Nat → Array Bool → Bool
  | 0, _, listed => (Region.ready md ops listed).isEmpty
  | n + 1, k, listed => (Region.ready md ops listed).contains k && freeX md ops listed k && lexX md ops n (k + 1) (listed.setIfInBounds k true)
theorem freeX_spec {listed : Array Bool} {i : Nat} {oi : Oper} (hi : ops[i]? = some oi) (h : freeX md ops listed i = true) : ∀ j oj, ops[j]? = some oj → j ≠ i → listed.getD j true = false → (∀ e ∈ oj.after, Region.binds md e = true → e.on ≠ i) → oi.apart ops oj = true ∧ okP (kX oi.op) (kX oj.op) = true := by
  intro j oj hj hji hun hno
  have hlt : j < ops.size := (Array.getElem?_eq_some_iff.1 hj).1
  have := List.all_eq_true.1 h j (List.mem_range.2 hlt)
  simp only [hi, hj, hun, Bool.or_false, Bool.or_eq_true, beq_iff_eq, Bool.and_eq_true] at this
  rcases this with (h | h) | h
  · exact absurd h hji
  · exfalso
    obtain ⟨e, he, h⟩ := Array.any_eq_true'.1 h
    simp only [Bool.and_eq_true, beq_iff_eq] at h
    exact hno e he h.1 h.2
  · exact h
/-- In the text's order. -/
def LX (P : Program) (w0 : W0) (ops : Array Oper) (K : List DV → St → Prop) : List Oper → List DV → St → Prop
  | [], fr, S => K fr S
  | o :: rest, fr, S => tauX P w0 ops o fr S (LX P w0 ops K rest)
theorem wpX_lex {K : List DV → St → Prop} : ∀ (l : List Oper) (k : Nat) (listed : Array Bool) (fr : List DV) (S : St), (∀ j, l[j]? = ops[k + j]?) →
    (∀ l' : List Nat, l'.Nodup → (∀ k, k ∈ l' → listed.getD k true = false) → l'.length ≤ l.length) →
    lexX md ops l.length k listed = true → LX P w0 ops K l fr S → wpX P w0 md ops K l.length listed fr S
  | [], _, _, _, _, _, _, hB, h => ⟨by simpa [lexX] using hB, h⟩
  | o :: l, k, listed, fr, S, hl, hcnt, hB, h => by
    have h0 : ops[k]? = some o := by simpa using (hl 0).symm
    simp only [List.length_cons, lexX, Bool.and_eq_true] at hB
    obtain ⟨⟨hr, hf⟩, hB'⟩ := hB
    have hr' : k ∈ Region.ready md ops listed := by simpa using hr
    have hun := (mem_ready.1 hr').1
    refine wpX_first h0 l.length listed fr S (freeX_spec h0 hf) (by simpa using hcnt) hr' ?_
    refine tauX_mono (fun fr S h => wpX_lex l (k + 1) _ fr S (fun j => by have := hl (j + 1); simpa [Nat.add_assoc, Nat.add_comm 1 j] using this) ?_ hB' h) h
    intro l' hn hl'
    have hks : k < listed.size := by
      rcases Nat.lt_or_ge k listed.size with h | h
      · exact h
      · rw [Array.getD_eq_getD_getElem?, Array.getElem?_eq_none h] at hun; cases hun
    have hkl : k ∉ l' := fun hk => by
      have := hl' k hk
      rw [Array.getD_eq_getD_getElem?, Array.getElem?_setIfInBounds] at this
      simp [hks] at this
    have := hcnt (k :: l') (List.nodup_cons.2 ⟨hkl, hn⟩) fun m hm => by
      rcases List.mem_cons.1 hm with rfl | hm
      · exact hun
      · have := hl' m hm
        rw [getD_set_ne true (show k ≠ m from fun e => hkl (e ▸ hm))] at this
        exact this
    simp at this; omega
theorem bodyX_yields {o : Oper} {fr : List DV} {S : St} {K : List DV → St → Prop} (h : bodyX P w0 o fr S K) : YieldsE P w0 o (ev fr) S fun d S' => K (pt fr o.dst d) S' := by
  rcases h with ⟨c, d, q, k⟩ | ⟨c, d, q, k⟩ | ⟨c, t, ht, hz, k⟩ | ⟨c, q⟩
  · exact yields_mono (fun d' S' h => by rw [h.1, h.2]; exact k) (q S)
  · have := q [] (fun x hx => by cases hx)
    exact yields_mono (fun d' S' h => by rw [h.1, h.2]; exact k) this
  · exact y_alloc ht ⟨hz, k⟩
  · exact q
theorem wpAny_of_X {ro : Option Nat} {g0 : Gh} {Q : Exit → List DV → St → Prop} : ∀ (fuel : Nat) (listed : Array Bool) (fr : List DV) (S : St) (g : Gh) (a : Act) (w : World), g0.le g → Rel w0 g S w → RepL g fr a.tmps.toList → Dk w0 g.obj a w →
    wpX P w0 md ops (fun fr S => Q .normal fr S) fuel listed fr S → wpAnyIn (fz ro) 0 P md ops (Good w0 g0 Q) fuel listed a w
  | 0, listed, fr, S, g, a, w, k, h1, h2, h3, h => ⟨h.1, k.kd h3, g, fr, S, k, h1, h2, h.2⟩
  | fuel + 1, listed, fr, S, g, a, w, k, h1, h2, h3, h => by
    refine ⟨fun h0 => ⟨k.kd h3, g, fr, S, k, h1, h2, h.1 h0⟩, fun i hi => ?_⟩
    have hq := h.2 i hi
    unfold tauI at hq
    unfold wpOpIn
    split
    · rename_i ho; simp only [ho] at hq; exact wpAny_of_X fuel _ fr S g a w k h1 h2 h3 hq
    · rename_i o ho
      simp only [ho] at hq
      rcases hq with ⟨hw, hb⟩ | ⟨hw, hk⟩
      · have hw' := wantB_sound (o := o) h2 hw
        rw [if_pos hw']
        refine wpIn_of_yields (bodyX_yields hb) h1 (fun x _ => rep_ev h2 x) h3 fun g' d' u S' w' k1 k2 k3 k4 k5 => ?_
        exact wpAny_of_X fuel _ _ _ g' _ _ (k.trans k1) k2 (repL_put (h2.mono k1) _ k3) (k1.dk k5) k4
      · have hw' := wantB_sound (o := o) h2 hw
        rw [if_neg (by simp [hw'])]
        exact ⟨fun _ _ => trivial, wpAny_of_X fuel _ _ _ g _ _ k h1 (repL_put h2 _ (rep_ud g)) (h3.keep (put_defers _ _ _) fun _ _ h _ => h) hk⟩
/-- A region that draws its order, where the text's order serves. -/
theorem awp_drawL {id : Nat} {l : List Oper} {fr : List DV} {S : St} {Q : Exit → List DV → St → Prop} (hm : P.follows .mixedOrders = true) (hB : lexX .any l.toArray l.length 0 (Array.replicate l.length false) = true) (h : LX P w0 l.toArray (fun fr S => Q .normal fr S) l fr S) : AWp P w0 (.region id l.toArray true) fr S Q := by
  intro g a w h1 h2 h3
  refine wpA_region_any hm fun ro => ?_
  have hR : Rel w0 g S { w with drawn := w.drawn + 1 } := h1.grow (below_drew w)
  have hcnt : ∀ l' : List Nat, l'.Nodup → (∀ k, k ∈ l' → (Array.replicate l.length false).getD k true = false) → l'.length ≤ l.length := by
    intro l' hn hl
    have hsub : ∀ k, k ∈ l' → k ∈ List.range l.length := fun k hk => by
      have := hl k hk
      rw [List.mem_range]
      rcases Nat.lt_or_ge k l.length with h | h
      · exact h
      · rw [Array.getD_eq_getD_getElem?, Array.getElem?_eq_none (by simpa using h)] at this; cases this
    have := hn.length_le_of_subset (l₂ := List.range l.length) hsub
    simpa using this
  have := wpX_lex (P := P) (w0 := w0) (md := .any) (ops := l.toArray) l 0 (Array.replicate l.length false) fr S (by simp) hcnt hB h
  have := wpAny_of_X (ro := ro) (g0 := g) (Q := Q) _ _ fr S g a _ (.refl g) hR h2 (h3.keep rfl fun _ _ h _ => h) this
  simpa using this

/-- What looks at no store: one value, at every store. -/
theorem pure_det {op : Op} (hk : kX op = 0) {fr : List DV} {S : St} {K : DV → Prop} (h : vcOpQ P w0 op fr S K) : ∃ d, (∀ S', vcOpQ P w0 op fr S' (· = d)) ∧ K d := by
  cases op with
  | move x => exact ⟨_, fun _ => rfl, h⟩
  | assign x => exact ⟨_, fun _ => rfl, h⟩
  | pick c a b => obtain ⟨d, q1, q2⟩ := det_pick h; exact ⟨d, fun _ => q1, q2⟩
  | fieldAddr t x f => obtain ⟨d, q1, q2⟩ := det_field h; exact ⟨d, fun _ => q1, q2⟩
  | indexAddr t x i => obtain ⟨d, q1, q2⟩ := det_indexAddr h; exact ⟨d, fun _ => q1, q2⟩
  | index t x i => obtain ⟨d, q1, q2⟩ := det_index h; exact ⟨d, fun _ => q1, q2⟩
  | field t x f => obtain ⟨d, q1, q2⟩ := det_fieldV h; exact ⟨d, fun _ => q1, q2⟩
  | extract x i => obtain ⟨d, q1, q2⟩ := det_extract h; exact ⟨d, fun _ => q1, q2⟩
  | nilCheck x => exact ⟨_, fun _ => ⟨h.1, rfl⟩, h.2⟩
  | binOp b t x y t' => obtain ⟨d, q1, q2⟩ := det_binA h.2; exact ⟨d, fun _ => ⟨h.1, q1⟩, q2⟩
  | unOp b t x => obtain ⟨d, q1, q2⟩ := det_un h; exact ⟨d, fun _ => q1, q2⟩
  | convert s d x => obtain ⟨d, q1, q2⟩ := det_conv h; exact ⟨d, fun _ => q1, q2⟩
  | makeInterface t x => exact ⟨_, fun _ => ⟨h.1, h.2.1, rfl⟩, h.2.2⟩
  | makeFunc fn a b => obtain ⟨d, q1, q2⟩ := det_func h; exact ⟨d, fun _ => q1, q2⟩
  | slice t x lo hi mx => obtain ⟨d, q1, q2⟩ := det_slice h.2.2; exact ⟨d, fun _ => ⟨h.1, h.2.1, q1⟩, q2⟩
  | build t parts => obtain ⟨d, q1, q2⟩ := det_build h.2; exact ⟨d, fun _ => ⟨h.1, q1⟩, q2⟩
  | buildSlice t len parts => obtain ⟨d, q1, q2⟩ := det_buildSlice h.2; exact ⟨d, fun _ => ⟨h.1, q1⟩, q2⟩
  | call c =>
    obtain ⟨callee, args, ts⟩ := c
    simp only [vcOpQ] at h ⊢
    split at h
    · split at h
      · obtain ⟨d, q1, q2⟩ := det_len h
        exact ⟨d, fun _ => by simpa using q1, q2⟩
      · exact h.elim
    · split at h
      · obtain ⟨d, q1, q2⟩ := det_cap h
        exact ⟨d, fun _ => by simpa using q1, q2⟩
      · exact h.elim
    · split at h
      · obtain ⟨d, q1, q2⟩ := det_min h
        exact ⟨d, fun _ => by simpa using q1, q2⟩
      · exact h.elim
    · split at h
      · obtain ⟨d, q1, q2⟩ := det_max h
        exact ⟨d, fun _ => by simpa using q1, q2⟩
      · exact h.elim
    · cases hk
    · exact h.elim
  | _ => first | exact h.elim | cases hk
theorem pure_detZ {op : Op} (hk : kX op = 0) {fr : List DV} {S : St} {K : DV → Prop} (h : opZ P w0 op fr S K) : ∃ d, (∀ S', opZ P w0 op fr S' (· = d)) ∧ K d := by
  cases op with
  | makeSlice t x y =>
    simp only [opZ, vMakeQ] at h ⊢
    split at h
    · obtain ⟨q1, q2, q3, q4, q5, q6⟩ := h
      exact ⟨_, fun _ => ⟨q1, q2, q3, q4, q5, rfl⟩, q6⟩
    · exact h.elim
  | convert s d x =>
    simp only [opZ] at h ⊢
    unfold vConvZ at h ⊢
    split at h
    · obtain ⟨q1, q2, q3, q4⟩ := h
      exact ⟨_, fun _ => ⟨q1, q2, q3, rfl⟩, q4⟩
    · obtain ⟨dd, p1, p2⟩ := pure_det (P := P) (w0 := w0) (op := .convert s d x) (fr := fr) (S := S) (K := K) rfl h
      exact ⟨dd, p1, p2⟩
  | _ => exact pure_det (P := P) (w0 := w0) (S := S) (fr := fr) hk h
theorem lk_ext {S : St} {B : List (Nat × List DV)} (hB : Fr S B) {b : Nat} {ds : List DV} (h : lk S.box b = some ds) : lk (B ++ S.box) b = some ds := by
  induction B with
  | nil => exact h
  | cons x B ih =>
    have h1 := hB x List.mem_cons_self
    have hne : ¬ x.1 = b := fun e => by rw [e] at h1; rw [nin_lk h1] at h; cases h
    obtain ⟨k, y⟩ := x
    show lk ((k, y) :: (B ++ S.box)) b = _
    rw [q_lk_ne hne]
    exact ih fun z hz => hB z (List.mem_cons_of_mem _ hz)
theorem load_ext {k : TK} {S : St} {x : DV} {K : DV → Prop} {B : List (Nat × List DV)} (hB : Fr S B) (h : vLoad k S x K) : vLoad k ⟨B ++ S.box, S.acc⟩ x K := by
  unfold vLoad at *
  split at h
  · split at h
    · rename_i ds hb
      simp only [lk_ext hB hb]
      exact h
    · exact h.elim
  · exact h
  · exact h
  · exact h.elim
end
/-- A call that hands back one value, whatever boxes were made beside it. -/
def QX (P : Program) (w0 : W0) (f : FuncId) (ds : List DV) (S : St) [K : Cn (DV → Prop)] : Prop := ∃ d, (∀ B, Fr S B → ACall P w0 f ds ⟨B ++ S.box, S.acc⟩ fun d' S' => d' = d ∧ S' = ⟨B ++ S.box, S.acc⟩) ∧ K.k d
def vCallX (P : Program) (w0 : W0) (cal : DV) (ds : List DV) (S : St) (K : DV → Prop) : Prop := match cal with
  | .v (.func (.func f) a cap) => a.size = 0 ∧ okF P f = true ∧ cap.toList.all (fun u => u.oneCell') = true ∧ ds.all naccA = true ∧ @QX P w0 f (ds ++ cap.toList.map .v) S ⟨K⟩
  | _ => False
def opX (P : Program) (w0 : W0) (op : Op) (fr : List DV) (S : St) (K : DV → St → Prop) : Prop := match op with
  | .load t x => vLoad (tk P t) S (ev fr x) (K · S)
  | .alloc t => okE (zD P t) = true ∧ bxK S (zD P t) K
  | .call ⟨.value cal, args, _⟩ => vCallX P w0 (ev fr cal) (args.toList.map (ev fr)) S (K · S)
  | op => selK (kX op == 0) (opZ P w0 op fr S (K · S)) (vcOp P w0 op fr S K)
def vcLX (P : Program) (w0 : W0) (ops : Array Oper) (K : List DV → St → Prop) : List Oper → List DV → St → Prop
  | [], fr, S => K fr S
  | o :: rest, fr, S => guardK ops fr o.guard (fun fr => opX P w0 o.op fr S fun d S' => vcLX P w0 ops K rest (pt fr o.dst d) S') (fun fr => vcLX P w0 ops K rest (pt fr o.dst ud) S)
section
variable {P : Program} {w0 : W0} {ops : Array Oper} {md : Region.Mode}
theorem opX_sound {o : Oper} {fr : List DV} {S : St} {K : List DV → St → Prop} (hs : okSl o.op = true) (h : opX P w0 o.op fr S fun d S' => K (pt fr o.dst d) S') : bodyX P w0 o fr S K := by
  have gen : ∀ (h : selK (kX o.op == 0) (opZ P w0 o.op fr S fun d => K (pt fr o.dst d) S) (vcOp P w0 o.op fr S fun d S' => K (pt fr o.dst d) S')), kX o.op = 0 ∨ kX o.op = 3 → bodyX P w0 o fr S K := by
    intro h hk
    rcases hk with hk | hk
    · rw [hk] at h
      obtain ⟨d, q1, q2⟩ := pure_detZ hk (show opZ P w0 o.op fr S fun d => K (pt fr o.dst d) S from h)
      exact .inl ⟨hk, d, fun S' => by
        obtain ⟨d', k1, k2⟩ := opZ_sound hs (q1 S')
        subst k2; exact k1, q2⟩
    · rw [hk] at h
      exact .inr (.inr (.inr ⟨hk, vcOp_sound hs h⟩))
  cases hop : o.op with
  | load t x =>
    rw [hop] at h hs
    obtain ⟨d, q1, q2⟩ := det_load (show vLoad (tk P t) S (ev fr x) (fun d => K (pt fr o.dst d) S) from h)
    refine .inr (.inl ⟨by rw [hop]; rfl, d, fun B hB => ?_, q2⟩)
    exact vcOp_sound (by rw [hop]; exact hs) (by rw [hop]; simpa [vcOp] using load_ext hB q1)
  | alloc t =>
    rw [hop] at h
    exact .inr (.inr (.inl ⟨by rw [hop]; rfl, t, hop, h.1, h.2⟩))
  | call c =>
    obtain ⟨callee, args, ts⟩ := c
    cases callee with
    | value cal =>
      rw [hop] at h hs
      simp only [opX, vCallX] at h
      split at h
      · rename_i f a cap hcal
        obtain ⟨h1, h2, h3, h4, d, h5, h6⟩ := h
        refine .inr (.inl ⟨by rw [hop]; rfl, d, fun B hB => ?_, h6⟩)
        exact vcOp_sound (by rw [hop]; exact hs) (by rw [hop]; simp only [vcOp, vCall, hcal]; exact ⟨h1, h3, by rw [h2, gX_t]; exact callK_id h4 (h5 B hB)⟩)
      · exact h.elim
    | builtin b =>
      refine gen (by rw [hop] at h ⊢; exact h) ?_
      rw [hop]
      cases b <;> first | exact .inl rfl | exact .inr rfl
    | invoke r m =>
      refine gen (by rw [hop] at h ⊢; exact h) ?_
      rw [hop]; exact .inr rfl
  | _ => refine gen (by rw [hop] at h ⊢; exact h) ?_; rw [hop]; first | exact .inl rfl | exact .inr rfl
theorem vcLX_sound {K : List DV → St → Prop} : ∀ (l : List Oper) {fr : List DV} {S : St}, l.all (fun o => okSl o.op) = true → vcLX P w0 ops K l fr S → LX P w0 ops K l fr S
  | [], fr, S, _, h => h
  | o :: rest, fr, S, hs, h => by
    simp only [List.all_cons, Bool.and_eq_true] at hs
    rcases guardK_want h with ⟨hw, ha⟩ | ⟨hw, hb⟩
    · exact .inl ⟨hw, bodyX_mono (fun fr S h => vcLX_sound rest hs.2 h) (opX_sound hs.1 ha)⟩
    · exact .inr ⟨hw, vcLX_sound rest hs.2 hb⟩
/-- What such a region asks. -/
def okL (l : List Oper) : Bool := l.all (fun o => okSl o.op) && lexX .any l.toArray l.length 0 (Array.replicate l.length false)
theorem lexK {id : Nat} {l : List Oper} {fr : List DV} {S : St} {Q : Exit → List DV → St → Prop} (hm : P.follows .mixedOrders = true) (hB : okL l = true) (h : vcLX P w0 l.toArray (fun fr S => normF fr fun fr => Q .normal fr S) l fr S) : AWp P w0 (.region id l.toArray true) fr S Q := by
  simp only [okL, Bool.and_eq_true] at hB
  exact awp_drawL hm hB.2 (vcLX_sound l hB.1 h)
theorem useX {f : FuncId} {args args' : List DV} {S : St} {K : DV → Prop} {r : DV} (h : ∀ B, Fr S B → ACall P w0 f args' ⟨B ++ S.box, S.acc⟩ (fun d S' => d = r ∧ S' = ⟨B ++ S.box, S.acc⟩)) (hk : K r) (ha : WkL args args' := by exact WkL.refl _) : @QX P w0 f args S ⟨K⟩ :=
  ⟨r, fun B hB => acall_one (h B hB) ha ⟨rfl, rfl⟩, hk⟩
end
end Aml.Z

namespace Aml.Z
open Go Go.RowKit
set_option linter.unusedVariables false
set_option linter.unusedSimpArgs false
section
variable {P : Program} {w0 : W0} {ops : Array Oper} {fr : List DV} {S : St} {rest : List Oper} {dst : Option Tmp} {op : Op} {ty : TypeId} {pos : String} {aft : Array Edge}
section
variable {K : List DV → St → Prop}
theorem x_nil : vcLX P w0 ops K [] fr S = K fr S := rfl
theorem x_none : vcLX P w0 ops K (⟨dst, op, ty, pos, aft, none⟩ :: rest) fr S = opX P w0 op fr S fun d S' => vcLX P w0 ops K rest (pt fr dst d) S' := rfl
theorem x_some (j : Nat) (want : Bool) : vcLX P w0 ops K (⟨dst, op, ty, pos, aft, some (j, want)⟩ :: rest) fr S = gK ((ops[j]?).bind (·.dst)) fr want (fun fr => opX P w0 op fr S fun d S' => vcLX P w0 ops K rest (pt fr dst d) S') (fun fr => vcLX P w0 ops K rest (pt fr dst ud) S) := q_guard _ _ _ _ _ _
end
variable {K : DV → St → Prop}
theorem x_load (t : TypeId) (x : Operand) : opX P w0 (.load t x) fr S K = vLoad (tk P t) S (ev fr x) (K · S) := rfl
theorem x_alloc (t : TypeId) : opX P w0 (.alloc t) fr S K = (okE (zD P t) = true ∧ bxK S (zD P t) K) := rfl
theorem x_call (cal : Operand) (a : List Operand) (ts : Array TypeId) : opX P w0 (.call ⟨.value cal, a.toArray, ts⟩) fr S K = vCallX P w0 (ev fr cal) (a.map (ev fr)) S (K · S) := rfl
theorem x_callF (f : FuncId) (a cap : Array Value) (ds : List DV) (K : DV → Prop) : vCallX P w0 (.v (.func (.func f) a cap)) ds S K = (a.size = 0 ∧ okF P f = true ∧ cap.toList.all (fun u => u.oneCell') = true ∧ ds.all naccA = true ∧ @QX P w0 f (ds ++ cap.toList.map .v) S ⟨K⟩) := rfl
@[congr] theorem c_vCallX {cal cal' : DV} {ds ds' : List DV} {S' : St} {K : DV → Prop} (h1 : cal = cal') (h2 : ds = ds') (h3 : S = S') : vCallX P w0 cal ds S K = vCallX P w0 cal' ds' S' K := by cases h1; cases h2; cases h3; rfl
theorem x_move (x : Operand) : opX P w0 (.move x) fr S K = vcOpQ P w0 (.move x) fr S (K · S) := rfl
theorem x_assign (x : Operand) : opX P w0 (.assign x) fr S K = vcOpQ P w0 (.assign x) fr S (K · S) := rfl
theorem x_pick (c a b : Operand) : opX P w0 (.pick c a b) fr S K = vcOpQ P w0 (.pick c a b) fr S (K · S) := rfl
theorem x_fieldAddr (t : TypeId) (x : Operand) (f : Nat) : opX P w0 (.fieldAddr t x f) fr S K = vcOpQ P w0 (.fieldAddr t x f) fr S (K · S) := rfl
theorem x_indexAddr (t : TypeId) (x i : Operand) : opX P w0 (.indexAddr t x i) fr S K = vcOpQ P w0 (.indexAddr t x i) fr S (K · S) := rfl
theorem x_extract (x : Operand) (i : Nat) : opX P w0 (.extract x i) fr S K = vcOpQ P w0 (.extract x i) fr S (K · S) := rfl
theorem x_nilCheck (x : Operand) : opX P w0 (.nilCheck x) fr S K = vcOpQ P w0 (.nilCheck x) fr S (K · S) := rfl
theorem x_binOp (b : BinOp) (t : TypeId) (x y : Operand) (t' : TypeId) : opX P w0 (.binOp b t x y t') fr S K = vcOpQ P w0 (.binOp b t x y t') fr S (K · S) := rfl
theorem x_unOp (b : UnOp) (t : TypeId) (x : Operand) : opX P w0 (.unOp b t x) fr S K = vcOpQ P w0 (.unOp b t x) fr S (K · S) := rfl
theorem x_build (t : TypeId) (parts : Array (Nat × Operand)) : opX P w0 (.build t parts) fr S K = vcOpQ P w0 (.build t parts) fr S (K · S) := rfl
theorem x_buildSlice (t : TypeId) (len : Nat) (parts : Array (Nat × Operand)) : opX P w0 (.buildSlice t len parts) fr S K = vcOpQ P w0 (.buildSlice t len parts) fr S (K · S) := rfl
theorem x_store (t : TypeId) (x y : Operand) : opX P w0 (.store t x y) fr S K = vcOp P w0 (.store t x y) fr S K := rfl
theorem x_b_len (a : Array Operand) (ts : Array TypeId) : opX P w0 (.call ⟨.builtin .len, a, ts⟩) fr S K = vcOpQ P w0 (.call ⟨.builtin .len, a, ts⟩) fr S (K · S) := rfl
end
attribute [go_sem ↓] x_nil x_none x_some x_load x_alloc x_call x_callF x_move x_assign x_pick x_fieldAddr x_indexAddr x_extract x_nilCheck x_binOp x_unOp x_build x_buildSlice x_store x_b_len
end Aml.Z

namespace Aml
open Go Go.RowKit
set_option linter.unusedVariables false
set_option linter.unusedSimpArgs false
section
variable {P : Program} {w0 : W0}
end
end Aml

namespace Go.Proofs.YtfieabidajilmaaGreat
open Aml Go
@[go_sem] def dL (l : List Int) : DV := .sl 1 false (l.map dI)
theorem getE {α : Type} {l : List α} {k : Nat} {a b : α} (h : l[k]? = some a) (h' : l[k]? = some b) : a = b := by rw [h] at h'; exact Option.some.inj h'
end Go.Proofs.YtfieabidajilmaaGreat

namespace Go.Proofs.YtfieabidajilmaaGreat
open Aml Go
set_option linter.unusedVariables false
set_option linter.unusedSimpArgs false
set_option maxRecDepth 100000

/-- Texts by their bytes. -/
def leS (a b : ByteArray) : Bool := Op.bytesLess a.data.toList b.data.toList || decide (a.data.toList = b.data.toList)
def ltS (a b : ByteArray) : Bool := Op.bytesLess a.data.toList b.data.toList
def eqS (a b : ByteArray) : Bool := decide (a.data.toList = b.data.toList)
@[go_sem] theorem s_eql (a b : ByteArray) (K : DV → Prop) : vBinS .eql a b K = K (.v (.bool (eqS a b))) := rfl
@[go_sem] theorem s_neq (a b : ByteArray) (K : DV → Prop) : vBinS .neq a b K = K (.v (.bool (!eqS a b))) := rfl
@[go_sem] theorem s_lss (a b : ByteArray) (K : DV → Prop) : vBinS .lss a b K = K (.v (.bool (ltS a b))) := rfl
@[go_sem] theorem s_leq (a b : ByteArray) (K : DV → Prop) : vBinS .leq a b K = K (.v (.bool (leS a b))) := rfl
@[go_sem] theorem s_geq (a b : ByteArray) (K : DV → Prop) : vBinS .geq a b K = K (.v (.bool (!ltS a b))) := rfl
/-- Pages of a value of so many bytes. -/
def need (z : Int) : Nat := if 16 < z ∧ z ≤ 400 then ((z + 118) / 119).toNat else 0
theorem need_le (z : Int) : need z ≤ 4 := by unfold need; split <;> omega
set_option maxHeartbeats 400000 in
theorem needR (w0 : W0) (z : Int) (S : St) : ACall Tryz.prog w0 75 [dI z] S (fun d S' => d = dI (need z) ∧ S' = S) := by
  refine fnS [] mx Tryz.func75 rfl rfl (by kernel_rfl) ?_; simp (maxDischargeDepth := 12) (maxSteps := 1000000) -implicitDefEqProofs only [Tryz.ntmps75, go_sem, Nat.reduceAdd, Nat.reduceSub, Nat.reduceMul, Nat.reduceLeDiff, Nat.reduceEqDiff, Nat.reduceGT, Nat.reduceBEq, reduceCtorEq, ↓reduceIte, Int.reduceToNat, Int.reduceLE, Int.reduceLT, Int.reduceNe, Int.reduceEq]
  have hn := need_le z
  refine loopN [] (need z) [0, 3] (fun k => [(3, dI k)]) (fun _ => S) (fun _ => True) mx (by kernel_rfl) ?_ ?_
  · simp (maxDischargeDepth := 12) (maxSteps := 1000000) -implicitDefEqProofs only [go_sem, Nat.reduceAdd, Nat.reduceSub, Nat.reduceMul, Nat.reduceLeDiff, Nat.reduceEqDiff, Nat.reduceGT, Nat.reduceBEq, reduceCtorEq, ↓reduceIte, Int.reduceToNat, Int.reduceLE, Int.reduceLT, Int.reduceNe, Int.reduceEq]
  · intro k hk _
    simp (maxDischargeDepth := 12) (maxSteps := 1000000) -implicitDefEqProofs only [go_sem, Nat.reduceAdd, Nat.reduceSub, Nat.reduceMul, Nat.reduceLeDiff, Nat.reduceEqDiff, Nat.reduceGT, Nat.reduceBEq, reduceCtorEq, ↓reduceIte, Int.reduceToNat, Int.reduceLE, Int.reduceLT, Int.reduceNe, Int.reduceEq]
    have e1 : IntKind.i64.wrap ((k : Int) * 119) = (k : Int) * 119 := w64 (by omega) (by omega)
    have e2 : IntKind.i64.wrap ((k : Int) + 1) = ((k + 1 : Nat) : Int) := by rw [w64 (by omega) (by omega)]; omega
    simp only [e1, e2]
    have hneed : 16 < z ∧ z ≤ 400 → (need z : Int) = (z + 118) / 119 := fun h => by unfold need; rw [if_pos h]; omega
    have hno : ¬ (16 < z ∧ z ≤ 400) → need z = 0 := fun h => by unfold need; rw [if_neg h]
    refine ⟨fun h1 => ⟨fun h2 => ⟨fun h3 => ⟨?_, trivial⟩, fun h3 => ?_⟩, fun h2 => ?_⟩, fun h1 => ?_⟩
    · have := hneed ⟨h1, h2⟩; omega
    · have := hneed ⟨h1, h2⟩; omega
    · have := hno (by omega); omega
    · have := hno (by omega); omega

/-- Sizes that are small. -/
def Bd (l : List Int) : Prop := l.length ≤ 1048576 ∧ ∀ x, x ∈ l → 0 ≤ x ∧ x ≤ 1048576
theorem bd_sum : ∀ (l : List Int), (∀ x, x ∈ l → 0 ≤ x ∧ x ≤ 1048576) → 0 ≤ l.sum ∧ l.sum ≤ 1048576 * l.length
  | [], _ => by simp
  | a :: l, h => by
    have h1 := bd_sum l fun x hx => h x (List.mem_cons_of_mem _ hx)
    have h2 := h a List.mem_cons_self
    simp only [List.sum_cons, List.length_cons]
    omega
theorem Bd.take {l : List Int} (h : Bd l) (k : Nat) : Bd (l.take k) := ⟨by rw [List.length_take]; have := h.1; omega, fun x hx => h.2 x (List.mem_of_mem_take hx)⟩
theorem Bd.drop {l : List Int} (h : Bd l) (k : Nat) : Bd (l.drop k) := ⟨by rw [List.length_drop]; have := h.1; omega, fun x hx => h.2 x (List.mem_of_mem_drop hx)⟩
theorem Bd.sum {l : List Int} (h : Bd l) : 0 ≤ l.sum ∧ l.sum ≤ 1099511627776 := by
  have := bd_sum l h.2
  have := h.1
  omega
theorem sum_succ {l : List Int} {k : Nat} {a : Int} (h : l[k]? = some a) : (l.take (k + 1)).sum = (l.take k).sum + a := by
  rw [List.take_add_one, h]; simp
set_option maxHeartbeats 400000 in
theorem sumR (w0 : W0) (l : List Int) (S : St) (h : Bd l) : ACall Tryz.prog w0 147 [dL l] S (fun d S' => d = dI l.sum ∧ S' = S) := by
  refine fnS [] mx Tryz.func147 rfl rfl (by kernel_rfl) ?_; simp (maxDischargeDepth := 12) (maxSteps := 1000000) -implicitDefEqProofs only [Tryz.ntmps147, go_sem, Nat.reduceAdd, Nat.reduceSub, Nat.reduceMul, Nat.reduceLeDiff, Nat.reduceEqDiff, Nat.reduceGT, Nat.reduceBEq, reduceCtorEq, ↓reduceIte, Int.reduceToNat, Int.reduceLE, Int.reduceLT, Int.reduceNe, Int.reduceEq]
  refine loopN [] l.length [0, 3, 4] (fun k => [(3, dI (l.take k).sum), (4, dI k)]) (fun _ => S) (fun _ => True) mx (by kernel_rfl) ?_ ?_
  · simp (maxDischargeDepth := 12) (maxSteps := 1000000) -implicitDefEqProofs only [go_sem, Nat.reduceAdd, Nat.reduceSub, Nat.reduceMul, Nat.reduceLeDiff, Nat.reduceEqDiff, Nat.reduceGT, Nat.reduceBEq, reduceCtorEq, ↓reduceIte, Int.reduceToNat, Int.reduceLE, Int.reduceLT, Int.reduceNe, Int.reduceEq]
    rfl
  · intro k hk _
    have h0 := h.1
    simp (maxDischargeDepth := 12) (maxSteps := 1000000) -implicitDefEqProofs only [go_sem, Nat.reduceAdd, Nat.reduceSub, Nat.reduceMul, Nat.reduceLeDiff, Nat.reduceEqDiff, Nat.reduceGT, Nat.reduceBEq, reduceCtorEq, ↓reduceIte, Int.reduceToNat, Int.reduceLE, Int.reduceLT, Int.reduceNe, Int.reduceEq]
    refine ⟨fun hlt => ⟨hlt, fun a ha => ⟨by omega, ?_, ?_⟩⟩, fun hge => ?_⟩
    · have := (h.take (k + 1)).sum
      rw [sum_succ ha] at this ⊢
      exact w64 (by omega) (by omega)
    · rw [w64 (by omega) (by omega)]; omega
    · rw [List.take_of_length_le (by omega)]
/-- The greater part's sum. -/
def worse (l : List Int) (at_ : Nat) : Int := if (l.take at_).sum > (l.drop at_).sum then (l.take at_).sum else (l.drop at_).sum
set_option maxHeartbeats 400000 in
theorem worseR (w0 : W0) (l : List Int) (i : Nat) (S : St) (h : Bd l) (hi : i ≤ l.length) : ACall Tryz.prog w0 148 [dL l, dI i] S (fun d S' => d = dI (worse l i) ∧ S' = S) := by
  refine fnS [] mx Tryz.func148 rfl rfl (by kernel_rfl) ?_; simp (maxDischargeDepth := 12) (maxSteps := 1000000) -implicitDefEqProofs only [Tryz.ntmps148, go_sem, Nat.reduceAdd, Nat.reduceSub, Nat.reduceMul, Nat.reduceLeDiff, Nat.reduceEqDiff, Nat.reduceGT, Nat.reduceBEq, reduceCtorEq, ↓reduceIte, Int.reduceToNat, Int.reduceLE, Int.reduceLT, Int.reduceNe, Int.reduceEq]
  have h0 := h.1
  refine ⟨hi, use1 (sumR w0 _ _ (h.take i)) ?_⟩
  simp (maxDischargeDepth := 12) (maxSteps := 1000000) -implicitDefEqProofs only [go_sem, Nat.reduceAdd, Nat.reduceSub, Nat.reduceMul, Nat.reduceLeDiff, Nat.reduceEqDiff, Nat.reduceGT, Nat.reduceBEq, reduceCtorEq, ↓reduceIte, Int.reduceToNat, Int.reduceLE, Int.reduceLT, Int.reduceNe, Int.reduceEq]
  refine ⟨hi, use1 (sumR w0 _ _ (h.drop i)) ?_⟩
  simp (maxDischargeDepth := 12) (maxSteps := 1000000) -implicitDefEqProofs only [go_sem, Nat.reduceAdd, Nat.reduceSub, Nat.reduceMul, Nat.reduceLeDiff, Nat.reduceEqDiff, Nat.reduceGT, Nat.reduceBEq, reduceCtorEq, ↓reduceIte, Int.reduceToNat, Int.reduceLE, Int.reduceLT, Int.reduceNe, Int.reduceEq]
  unfold worse
  refine ⟨fun hg => by rw [if_pos hg], fun hg => by rw [if_neg hg]⟩
/-- Where a row is parted, of its first places. -/
def atF (l : List Int) : Nat → Nat
  | 0 => 1
  | j + 1 => if worse l (j + 2) < worse l (atF l j) then j + 2 else atF l j
theorem atF_le (l : List Int) : ∀ j, 1 ≤ atF l j ∧ atF l j ≤ j + 1
  | 0 => ⟨Nat.le_refl _, Nat.le_refl _⟩
  | j + 1 => by
    have := atF_le l j
    simp only [atF]
    split <;> omega
def atR (l : List Int) : Nat := if l.sum ≤ 122 ∨ l.length < 2 then 0 else atF l (l.length - 2)
theorem atR_lt (l : List Int) (h : atR l ≠ 0) : 1 ≤ atR l ∧ atR l < l.length := by
  unfold atR at *
  split at h
  · exact absurd rfl h
  · rename_i hn
    rw [if_neg hn]
    have := atF_le l (l.length - 2)
    have : ¬ l.length < 2 := fun h => hn (.inr h)
    omega
set_option maxHeartbeats 800000 in
theorem atW (w0 : W0) (l : List Int) (S : St) (h : Bd l) : ACall Tryz.prog w0 122 [dL l] S (fun d S' => d = dI (atR l) ∧ S' = S) := by
  refine fnS [] mx Tryz.func122 rfl rfl (by kernel_rfl) ?_; simp (maxDischargeDepth := 12) (maxSteps := 1000000) -implicitDefEqProofs only [Tryz.ntmps122, go_sem, Nat.reduceAdd, Nat.reduceSub, Nat.reduceMul, Nat.reduceLeDiff, Nat.reduceEqDiff, Nat.reduceGT, Nat.reduceBEq, reduceCtorEq, ↓reduceIte, Int.reduceToNat, Int.reduceLE, Int.reduceLT, Int.reduceNe, Int.reduceEq]
  have h0 := h.1
  refine use1 (sumR w0 _ _ h) ?_
  simp (maxDischargeDepth := 12) (maxSteps := 1000000) -implicitDefEqProofs only [go_sem, Nat.reduceAdd, Nat.reduceSub, Nat.reduceMul, Nat.reduceLeDiff, Nat.reduceEqDiff, Nat.reduceGT, Nat.reduceBEq, reduceCtorEq, ↓reduceIte, Int.reduceToNat, Int.reduceLE, Int.reduceLT, Int.reduceNe, Int.reduceEq]
  refine ⟨fun h1 => by unfold atR; rw [if_pos (.inl h1)]; rfl, fun h1 => ⟨fun h2 => by unfold atR; rw [if_pos (.inr (by omega))]; rfl, fun h2 => ?_⟩⟩
  have hn : atR l = atF l (l.length - 2) := by unfold atR; rw [if_neg]; rintro (h | h) <;> omega
  refine loopN [] (l.length - 2) [0, 3, 4] (fun k => [(3, dI (atF l k)), (4, dI ((k + 2 : Nat) : Int))]) (fun _ => S) (fun _ => True) mx (by kernel_rfl) ?_ ?_
  · simp (maxDischargeDepth := 12) (maxSteps := 1000000) -implicitDefEqProofs only [go_sem, Nat.reduceAdd, Nat.reduceSub, Nat.reduceMul, Nat.reduceLeDiff, Nat.reduceEqDiff, Nat.reduceGT, Nat.reduceBEq, reduceCtorEq, ↓reduceIte, Int.reduceToNat, Int.reduceLE, Int.reduceLT, Int.reduceNe, Int.reduceEq]
    rfl
  · intro k hk _
    have ha := atF_le l k
    simp (maxDischargeDepth := 12) (maxSteps := 1000000) -implicitDefEqProofs only [go_sem, Nat.reduceAdd, Nat.reduceSub, Nat.reduceMul, Nat.reduceLeDiff, Nat.reduceEqDiff, Nat.reduceGT, Nat.reduceBEq, reduceCtorEq, ↓reduceIte, Int.reduceToNat, Int.reduceLE, Int.reduceLT, Int.reduceNe, Int.reduceEq]
    refine ⟨fun hlt => ?_, fun hge => ?_⟩
    · refine use1 (worseR w0 l (k + 2) _ h (by omega)) ?_
      simp (maxDischargeDepth := 12) (maxSteps := 1000000) -implicitDefEqProofs only [go_sem, Nat.reduceAdd, Nat.reduceSub, Nat.reduceMul, Nat.reduceLeDiff, Nat.reduceEqDiff, Nat.reduceGT, Nat.reduceBEq, reduceCtorEq, ↓reduceIte, Int.reduceToNat, Int.reduceLE, Int.reduceLT, Int.reduceNe, Int.reduceEq]
      refine use1 (worseR w0 l (atF l k) _ h (by omega)) ?_
      simp (maxDischargeDepth := 12) (maxSteps := 1000000) -implicitDefEqProofs only [go_sem, Nat.reduceAdd, Nat.reduceSub, Nat.reduceMul, Nat.reduceLeDiff, Nat.reduceEqDiff, Nat.reduceGT, Nat.reduceBEq, reduceCtorEq, ↓reduceIte, Int.reduceToNat, Int.reduceLE, Int.reduceLT, Int.reduceNe, Int.reduceEq]
      have e : IntKind.i64.wrap (((k + 2 : Nat) : Int) + 1) = ((k + 1 + 2 : Nat) : Int) := by rw [w64 (by omega) (by omega)]; omega
      refine ⟨fun hw => ⟨by omega, ?_, e⟩, fun hw => ⟨by omega, ?_, e⟩⟩
      · simp only [atF, if_pos hw]
      · simp only [atF, if_neg hw]
    · rw [hn, show k = l.length - 2 by omega]
def lowR (l : List Int) : Bool := decide (l.sum < 30)
theorem lowW (w0 : W0) (l : List Int) (S : St) (h : Bd l) : ACall Tryz.prog w0 150 [dL l] S (fun d S' => d = dB (lowR l) ∧ S' = S) := by
  refine fnS [] mx Tryz.func150 rfl rfl (by kernel_rfl) ?_; simp (maxDischargeDepth := 12) (maxSteps := 1000000) -implicitDefEqProofs only [Tryz.ntmps150, go_sem, Nat.reduceAdd, Nat.reduceSub, Nat.reduceMul, Nat.reduceLeDiff, Nat.reduceEqDiff, Nat.reduceGT, Nat.reduceBEq, reduceCtorEq, ↓reduceIte, Int.reduceToNat, Int.reduceLE, Int.reduceLT, Int.reduceNe, Int.reduceEq]
  refine use1 (sumR w0 _ _ h) ?_
  simp (maxDischargeDepth := 12) (maxSteps := 1000000) -implicitDefEqProofs only [go_sem, Nat.reduceAdd, Nat.reduceSub, Nat.reduceMul, Nat.reduceLeDiff, Nat.reduceEqDiff, Nat.reduceGT, Nat.reduceBEq, reduceCtorEq, ↓reduceIte, Int.reduceToNat, Int.reduceLE, Int.reduceLT, Int.reduceNe, Int.reduceEq]
  rfl
def nbR (m k : Int) : Int := if k + 1 < m then k + 1 else k - 1
theorem nbW (w0 : W0) (m k : Int) (S : St) (h0 : 0 ≤ m) (h1 : m ≤ 1048576) (h2 : 0 ≤ k) (h3 : k < m) : ACall Tryz.prog w0 151 [dI m, dI k] S (fun d S' => d = dI (nbR m k) ∧ S' = S) := by
  refine fnS [] mx Tryz.func151 rfl rfl (by kernel_rfl) ?_; simp (maxDischargeDepth := 12) (maxSteps := 1000000) -implicitDefEqProofs only [Tryz.ntmps151, go_sem, Nat.reduceAdd, Nat.reduceSub, Nat.reduceMul, Nat.reduceLeDiff, Nat.reduceEqDiff, Nat.reduceGT, Nat.reduceBEq, reduceCtorEq, ↓reduceIte, Int.reduceToNat, Int.reduceLE, Int.reduceLT, Int.reduceNe, Int.reduceEq]
  unfold nbR
  rw [w64 (n := k + 1) (by omega) (by omega), w64 (n := k - 1) (by omega) (by omega)]
  exact ⟨fun h => by rw [if_pos h], fun h => by rw [if_neg h]⟩
end Go.Proofs.YtfieabidajilmaaGreat

namespace Go.Proofs.YtfieabidajilmaaGreat
open Aml Go
set_option linter.unusedVariables false
set_option linter.unusedSimpArgs false
set_option maxRecDepth 100000

mutual
/-- A node. -/
inductive N where
  | mk (page : Int) (leaf : Bool) (l : List C)
/-- A cell. -/
inductive C where
  | mk (key data : ByteArray) (pages : List Int) (kid : List N)
end
def N.page : N → Int | .mk p _ _ => p
def N.leaf : N → Bool | .mk _ b _ => b
def N.l : N → List C | .mk _ _ l => l
def C.key : C → ByteArray | .mk k _ _ _ => k
def C.data : C → ByteArray | .mk _ d _ _ => d
def C.pages : C → List Int | .mk _ _ p _ => p
def C.kid : C → List N | .mk _ _ _ k => k
mutual
def dN : N → DV
  | .mk p b l => .agg [dI p, dB b, .sl 4 false (dCs l)]
def dC : C → DV
  | .mk k d ps kid => .agg [dS k, dS d, .sl 1 false (ps.map dI), .sl 3 false (dNs kid)]
def dCs : List C → List DV
  | [] => []
  | c :: l => dC c :: dCs l
def dNs : List N → List DV
  | [] => []
  | n :: l => dN n :: dNs l
end
theorem dCs_map : ∀ l, dCs l = l.map dC
  | [] => by simp [dCs]
  | c :: l => by simp [dCs, dCs_map l]
theorem dNs_map : ∀ l, dNs l = l.map dN
  | [] => by simp [dNs]
  | c :: l => by simp [dNs, dNs_map l]
@[go_sem] def eN (n : N) : DV := .agg [dI n.page, dB n.leaf, .sl 4 false (n.l.map dC)]
@[go_sem] def eC (c : C) : DV := .agg [dS c.key, dS c.data, .sl 1 false (c.pages.map dI), .sl 3 false (c.kid.map dN)]
@[go_sem] theorem dN_eq (n : N) : dN n = eN n := by
  cases n; simp only [dN, dCs_map]; rfl
@[go_sem] theorem dC_eq (c : C) : dC c = eC c := by
  cases c; simp only [dC, dNs_map]; rfl
@[go_sem] theorem N.page_mk (p : Int) (b : Bool) (l : List C) : (N.mk p b l).page = p := rfl
@[go_sem] theorem N.leaf_mk (p : Int) (b : Bool) (l : List C) : (N.mk p b l).leaf = b := rfl
@[go_sem] theorem N.l_mk (p : Int) (b : Bool) (l : List C) : (N.mk p b l).l = l := rfl
@[go_sem] theorem C.key_mk (k d : ByteArray) (p : List Int) (q : List N) : (C.mk k d p q).key = k := rfl
@[go_sem] theorem C.data_mk (k d : ByteArray) (p : List Int) (q : List N) : (C.mk k d p q).data = d := rfl
@[go_sem] theorem C.pages_mk (k d : ByteArray) (p : List Int) (q : List N) : (C.mk k d p q).pages = p := rfl
@[go_sem] theorem C.kid_mk (k d : ByteArray) (p : List Int) (q : List N) : (C.mk k d p q).kid = q := rfl
theorem size_kid {c : C} {k : N} (h : k ∈ c.kid) : SizeOf.sizeOf k < SizeOf.sizeOf c := by
  cases c; simp only [C.kid] at h
  have := List.sizeOf_lt_of_mem h
  simp only [C.mk.sizeOf_spec]; omega
theorem size_cell {n : N} {c : C} (h : c ∈ n.l) : SizeOf.sizeOf c < SizeOf.sizeOf n := by
  cases n; simp only [N.l] at h
  have := List.sizeOf_lt_of_mem h
  simp only [N.mk.sizeOf_spec]; omega
theorem size_kid' {n : N} {c : C} {k : N} (h : c ∈ n.l) (hk : k ∈ c.kid) : SizeOf.sizeOf k < SizeOf.sizeOf n := by
  have := size_cell h; have := size_kid hk; omega
mutual
/-- Is a tree one: each entry of a branch has one kid? -/
def okN : N → Prop
  | .mk _ b l => (b = false → l ≠ []) ∧ okCs l b
def okC : C → Bool → Prop
  | .mk _ _ _ kid, b => b = false → kid.length = 1 ∧ okNs kid
def okCs : List C → Bool → Prop
  | [], _ => True
  | c :: l, b => okC c b ∧ okCs l b
def okNs : List N → Prop
  | [] => True
  | n :: l => okN n ∧ okNs l
end
theorem okNs_iff : ∀ l, okNs l ↔ ∀ n, n ∈ l → okN n
  | [] => by simp [okNs]
  | n :: l => by simp [okNs, okNs_iff l]
theorem okCs_iff (b : Bool) : ∀ l, okCs l b ↔ ∀ c, c ∈ l → okC c b
  | [] => by simp [okCs]
  | c :: l => by simp [okCs, okCs_iff b l]
theorem okC_iff (c : C) (b : Bool) : okC c b ↔ (b = false → ∃ k, c.kid = [k] ∧ okN k) := by
  cases c with | mk k d ps kid =>
  simp only [okC, C.kid, okNs_iff]
  refine ⟨fun h e => ?_, fun h e => ?_⟩
  · obtain ⟨h1, h2⟩ := h e
    match kid, h1 with
    | [a], _ => exact ⟨a, rfl, h2 a List.mem_cons_self⟩
  · obtain ⟨a, rfl, ha⟩ := h e
    exact ⟨rfl, fun n hn => by rw [List.mem_singleton] at hn; rw [hn]; exact ha⟩
theorem okN_iff (n : N) : okN n ↔ (n.leaf = false → n.l ≠ [] ∧ ∀ c, c ∈ n.l → ∃ k, c.kid = [k] ∧ okN k) := by
  cases n with | mk p b l =>
  simp only [okN, N.leaf, N.l, okCs_iff, okC_iff]
  exact ⟨fun h e => ⟨h.1 e, fun c hc => h.2 c hc e⟩, fun h => ⟨fun e => (h e).1, fun c hc e => (h e).2 c hc⟩⟩
mutual
/-- All entries of a tree. -/
def totN : N → Nat
  | .mk _ _ l => totCs l
def totC : C → Nat
  | .mk _ _ _ kid => 1 + totNs kid
def totCs : List C → Nat
  | [] => 0
  | c :: l => totC c + totCs l
def totNs : List N → Nat
  | [] => 0
  | n :: l => totN n + totNs l
end
theorem totCs_sum : ∀ l, totCs l = (l.map totC).sum
  | [] => by simp [totCs]
  | c :: l => by simp [totCs, totCs_sum l]
theorem totNs_sum : ∀ l, totNs l = (l.map totN).sum
  | [] => by simp [totNs]
  | c :: l => by simp [totNs, totNs_sum l]
theorem totN_eq (n : N) : totN n = (n.l.map totC).sum := by cases n; simp only [totN, totCs_sum]; rfl
theorem totC_eq (c : C) : totC c = 1 + (c.kid.map totN).sum := by cases c; simp only [totC, totNs_sum]; rfl
mutual
/-- How deep it is. -/
def depN : N → Nat
  | .mk _ b l => if b then 0 else 1 + depCs l
def depC : C → Nat
  | .mk _ _ _ kid => depNs kid
def depCs : List C → Nat
  | [] => 0
  | c :: l => max (depC c) (depCs l)
def depNs : List N → Nat
  | [] => 0
  | n :: l => max (depN n) (depNs l)
end
mutual
/-- Keys and values are short. -/
def smN : N → Prop
  | .mk _ _ l => smCs l
def smC : C → Prop
  | .mk k d ps kid => k.size ≤ 16 ∧ d.size ≤ 400 ∧ ps.length ≤ 4 ∧ smNs kid
def smCs : List C → Prop
  | [] => True
  | c :: l => smC c ∧ smCs l
def smNs : List N → Prop
  | [] => True
  | n :: l => smN n ∧ smNs l
end
theorem smCs_iff : ∀ l, smCs l ↔ ∀ c, c ∈ l → smC c
  | [] => by simp [smCs]
  | n :: l => by simp [smCs, smCs_iff l]
theorem smNs_iff : ∀ l, smNs l ↔ ∀ n, n ∈ l → smN n
  | [] => by simp [smNs]
  | n :: l => by simp [smNs, smNs_iff l]
theorem smN_iff (n : N) : smN n ↔ ∀ c, c ∈ n.l → smC c := by cases n; simp only [smN, smCs_iff]; rfl
theorem smC_iff (c : C) : smC c ↔ c.key.size ≤ 16 ∧ c.data.size ≤ 400 ∧ c.pages.length ≤ 4 ∧ ∀ n, n ∈ c.kid → smN n := by cases c; simp only [smC, smNs_iff]; rfl
theorem tot_len (n : N) : n.l.length ≤ totN n := by
  rw [totN_eq]
  generalize n.l = l
  induction l with
  | nil => exact Nat.zero_le _
  | cons c l ih => simp only [List.length_cons, List.map_cons, List.sum_cons, totC_eq]; omega

/-- A cell's size. -/
def sizeC (b : Bool) (c : C) : Int := if b then (if (need c.data.size : Int) > 0 ∨ (c.data.size : Int) > 400 then 7 + c.key.size else 3 + c.key.size + c.data.size) else 4 + c.key.size
def sizesN (n : N) : List Int := n.l.map (sizeC n.leaf)
theorem sizes_bd (n : N) (h : smN n) (ht : n.l.length ≤ 1048576) : Bd (sizesN n) := by
  refine ⟨by unfold sizesN; rw [List.length_map]; exact ht, fun x hx => ?_⟩
  obtain ⟨c, hc, rfl⟩ := List.mem_map.1 hx
  have := (smC_iff c).1 ((smN_iff n).1 h c hc)
  unfold sizeC
  repeat' split <;> omega
set_option maxHeartbeats 1000000 in
theorem sizesW (w0 : W0) (n : N) (S : St) (h : smN n) (ht : n.l.length ≤ 1048576) : ACall Tryz.prog w0 123 [eN n] S (fun d S' => d = dL (sizesN n) ∧ S' = S) := by
  refine fnS [] mx Tryz.func123 rfl rfl (by kernel_rfl) ?_; simp (maxDischargeDepth := 12) (maxSteps := 1000000) -implicitDefEqProofs only [Tryz.ntmps123, go_sem, Nat.reduceAdd, Nat.reduceSub, Nat.reduceMul, Nat.reduceLeDiff, Nat.reduceEqDiff, Nat.reduceGT, Nat.reduceBEq, reduceCtorEq, ↓reduceIte, Int.reduceToNat, Int.reduceLE, Int.reduceLT, Int.reduceNe, Int.reduceEq]
  intro b
  refine growK 3 1 rfl (by omega) fun lb => ?_
  refine loopN [] n.l.length [1, 3, 4] (fun k => [(3, .acc lb.n k), (4, dI k)]) (fun k => ⟨(b.n, [dI n.page, dB n.leaf, .sl 4 false (n.l.map dC)]) :: S.box, (lb.n, .arr 1 (((sizesN n).take k).map dI)) :: S.acc⟩) (fun _ => True) mx (by kernel_rfl) ?_ ?_
  · simp (maxDischargeDepth := 12) (maxSteps := 1000000) -implicitDefEqProofs only [go_sem, Nat.reduceAdd, Nat.reduceSub, Nat.reduceMul, Nat.reduceLeDiff, Nat.reduceEqDiff, Nat.reduceGT, Nat.reduceBEq, reduceCtorEq, ↓reduceIte, Int.reduceToNat, Int.reduceLE, Int.reduceLT, Int.reduceNe, Int.reduceEq]
  · intro k hk _
    have hl : (sizesN n).length = n.l.length := by unfold sizesN; rw [List.length_map]
    have hmin : min k (sizesN n).length = k := by omega
    simp (maxDischargeDepth := 12) (maxSteps := 1000000) -implicitDefEqProofs only [go_sem, Nat.reduceAdd, Nat.reduceSub, Nat.reduceMul, Nat.reduceLeDiff, Nat.reduceEqDiff, Nat.reduceGT, Nat.reduceBEq, reduceCtorEq, ↓reduceIte, Int.reduceToNat, Int.reduceLE, Int.reduceLT, Int.reduceNe, Int.reduceEq, hmin]
    have e2 : k < n.l.length → IntKind.i64.wrap ((k : Int) + 1) = ((k + 1 : Nat) : Int) := fun h => by rw [w64 (by omega) (by omega)]; omega
    refine ⟨fun hlt => ⟨hlt, fun a ha => ?_⟩, fun hge => by rw [List.take_of_length_le (by omega)]; exact .full _ _ _⟩
    have hb := (smC_iff a).1 ((smN_iff n).1 h a (List.mem_of_getElem? ha))
    have hs : (sizesN n).take (k + 1) = (sizesN n).take k ++ [sizeC n.leaf a] := by
      rw [List.take_add_one]; unfold sizesN; rw [List.getElem?_map, ha]; rfl
    have e1 : IntKind.i64.wrap (4 + (a.key.size : Int)) = 4 + a.key.size := w64 (by omega) (by omega)
    have fin : ∀ z : Int, z = sizeC n.leaf a → Aml.Sub ⟨(b.n, [dI n.page, dB n.leaf, .sl 4 false (n.l.map dC)]) :: S.box, (lb.n, .arr 1 (((sizesN n).take (k + 1)).map dI)) :: S.acc⟩ ⟨(b.n, [dI n.page, dB n.leaf, .sl 4 false (n.l.map dC)]) :: S.box, (lb.n, .arr 1 (((sizesN n).take k).map dI ++ [dI z])) :: S.acc⟩ := fun z e => by
      rw [hs, List.map_append, e]; exact .refl _
    have hm : k + 1 ≤ maxLen := by unfold maxLen; omega
    have h8 : (k + 1) * 8 ≤ 140737488355328 := by omega
    refine ⟨fun hlf => ⟨hlt, fun a3 ha3 => ⟨hlt, fun a5 ha5 => ⟨hlt, fun a7 ha7 => ?_⟩⟩⟩, fun hlf => ⟨h8, hm, hlt, e2 hlt, fin _ ?_⟩⟩
    · cases getE ha ha3; cases getE ha ha5; cases getE ha ha7
      refine use1 (needR w0 _ _) ?_
      simp (maxDischargeDepth := 12) (maxSteps := 1000000) -implicitDefEqProofs only [go_sem, Nat.reduceAdd, Nat.reduceSub, Nat.reduceMul, Nat.reduceLeDiff, Nat.reduceEqDiff, Nat.reduceGT, Nat.reduceBEq, reduceCtorEq, ↓reduceIte, Int.reduceToNat, Int.reduceLE, Int.reduceLT, Int.reduceNe, Int.reduceEq, hmin]
      refine ⟨fun hn => ⟨hlt, fun a3 ha3 => ⟨h8, hm, hlt, e2 hlt, fin _ ?_⟩⟩, fun hn => ⟨hlt, fun a3 ha3 => ⟨fun h4 => ?_, fun h4 => ⟨h8, hm, hlt, e2 hlt, fin _ ?_⟩⟩⟩⟩
      · cases getE ha ha3
        unfold sizeC; rw [if_pos hlf, if_pos (.inl hn)]; exact w64 (by omega) (by omega)
      · cases getE ha ha3; omega
      · cases getE ha ha3
        unfold sizeC; rw [if_pos hlf, if_neg (by omega), w64 (n := 3 + (a.key.size : Int)) (by omega) (by omega)]; exact w64 (by omega) (by omega)
    · unfold sizeC; rw [if_neg (by rw [hlf]; simp)]; exact e1
/-- The last of the first i + 1 entries whose key is at most it; else the first. -/
def wayF (l : List C) (key : ByteArray) : Nat → Nat
  | 0 => 0
  | i + 1 => match l[i + 1]? with
    | some c => if leS c.key key then i + 1 else wayF l key i
    | none => wayF l key i
theorem wayF_le (l : List C) (key : ByteArray) : ∀ i, wayF l key i ≤ i
  | 0 => Nat.le_refl _
  | i + 1 => by
    have := wayF_le l key i
    simp only [wayF]
    split
    · split <;> omega
    · omega
def way (l : List C) (key : ByteArray) : Nat := wayF l key (l.length - 1)
theorem way_lt {l : List C} (h : l ≠ []) (key : ByteArray) : way l key < l.length := by
  have := wayF_le l key (l.length - 1)
  have := List.length_pos_iff.2 h
  unfold way; omega
set_option maxHeartbeats 1000000 in
theorem wayW (w0 : W0) (n : N) (key : ByteArray) (S : St) (ht : n.l.length ≤ 1048576) (hn : n.l ≠ []) : ACall Tryz.prog w0 99 [eN n, dS key] S (fun d S' => d = dI (way n.l key) ∧ S' = S) := by
  refine fnS [] mx Tryz.func99 rfl rfl (by kernel_rfl) ?_; simp (maxDischargeDepth := 12) (maxSteps := 1000000) -implicitDefEqProofs only [Tryz.ntmps99, go_sem, Nat.reduceAdd, Nat.reduceSub, Nat.reduceMul, Nat.reduceLeDiff, Nat.reduceEqDiff, Nat.reduceGT, Nat.reduceBEq, reduceCtorEq, ↓reduceIte, Int.reduceToNat, Int.reduceLE, Int.reduceLT, Int.reduceNe, Int.reduceEq]
  have h0 := List.length_pos_iff.2 hn
  intro b
  refine loopN [] (n.l.length - 1) [1, 2, 5] (fun k => [(5, dI ((n.l.length - 1 - k : Nat) : Int))]) (fun _ => ⟨(b.n, [dI n.page, dB n.leaf, .sl 4 false (n.l.map dC)]) :: S.box, S.acc⟩) (fun k => way n.l key = wayF n.l key (n.l.length - 1 - k)) mx (by kernel_rfl) ?_ ?_
  · simp (maxDischargeDepth := 12) (maxSteps := 1000000) -implicitDefEqProofs only [go_sem, Nat.reduceAdd, Nat.reduceSub, Nat.reduceMul, Nat.reduceLeDiff, Nat.reduceEqDiff, Nat.reduceGT, Nat.reduceBEq, reduceCtorEq, ↓reduceIte, Int.reduceToNat, Int.reduceLE, Int.reduceLT, Int.reduceNe, Int.reduceEq]
    exact ⟨rfl, by rw [w64 (by omega) (by omega)]; omega⟩
  · intro k hk hw
    simp (maxDischargeDepth := 12) (maxSteps := 1000000) -implicitDefEqProofs only [go_sem, Nat.reduceAdd, Nat.reduceSub, Nat.reduceMul, Nat.reduceLeDiff, Nat.reduceEqDiff, Nat.reduceGT, Nat.reduceBEq, reduceCtorEq, ↓reduceIte, Int.reduceToNat, Int.reduceLE, Int.reduceLT, Int.reduceNe, Int.reduceEq]
    refine ⟨fun hg => ?_, fun hg => ?_⟩
    · obtain ⟨i, hi⟩ : ∃ i, n.l.length - 1 - k = i + 1 := ⟨n.l.length - 1 - k - 1, by omega⟩
      have hi' : n.l.length - 1 - (k + 1) = i := by omega
      rw [hi] at hw ⊢
      rw [hi']
      refine ⟨by omega, fun a ha => ⟨fun hle => ?_, fun hle => ⟨by omega, ?_, ?_⟩⟩⟩
      · rw [hw]; simp only [wayF, ha, hle]; rfl
      · rw [hw]; simp only [wayF, ha, hle]; rfl
      · rw [w64 (by omega) (by omega)]; omega
    · have : n.l.length - 1 - k = 0 := by omega
      rw [hw, this]; rfl
/-- Cells in which one is other ones. -/
def withC (l : List C) (i : Nat) (some_ : List C) : List C := l.take i ++ some_ ++ l.drop (i + 1)
set_option maxHeartbeats 1000000 in
theorem withW (w0 : W0) (l m : List C) (i : Nat) (S : St) (ht : l.length ≤ 1048576) (hm : m.length ≤ 1048576) (hi : i < l.length) : ACall Tryz.prog w0 125 [.sl 4 false (l.map dC), dI i, .sl 4 false (m.map dC)] S (fun d S' => d = .sl 4 false ((withC l i m).map dC) ∧ S' = S) := by
  refine fnS [] mx Tryz.func125 rfl rfl (by kernel_rfl) ?_; simp (maxDischargeDepth := 12) (maxSteps := 1000000) -implicitDefEqProofs only [Tryz.ntmps125, go_sem, Nat.reduceAdd, Nat.reduceSub, Nat.reduceMul, Nat.reduceLeDiff, Nat.reduceEqDiff, Nat.reduceGT, Nat.reduceBEq, reduceCtorEq, ↓reduceIte, Int.reduceToNat, Int.reduceLE, Int.reduceLT, Int.reduceNe, Int.reduceEq]
  have e1 : IntKind.i64.wrap ((i : Int) + 1) = ((i + 1 : Nat) : Int) := by rw [w64 (by omega) (by omega)]; omega
  rw [e1, Int.toNat_natCast]
  refine ⟨by omega, by omega, by unfold maxLen; omega, fun b => ⟨by omega, by unfold maxLen; omega, by omega, by omega, by omega, by unfold maxLen; omega, ?_⟩⟩
  exact .refl _
end Go.Proofs.YtfieabidajilmaaGreat

namespace Go.Proofs.YtfieabidajilmaaGreat
open Aml Go
set_option linter.unusedVariables false
set_option linter.unusedSimpArgs false
set_option maxRecDepth 100000

def noS : ByteArray := ByteArray.empty
/-- A branch's cell. -/
def cellN (key : ByteArray) (kid : N) : C := .mk key noS [] [kid]
/-- The first cell's key is another one. -/
def setKey (key : ByteArray) : List C → List C
  | [] => []
  | c :: l => .mk key c.data c.pages c.kid :: l
def keyOf : List C → ByteArray
  | [] => noS
  | c :: _ => c.key
/-- A branch whose kid is parted, if need be. -/
def partedN (n kid : N) (k : Nat) (key : ByteArray) : N × Bool :=
  let i := atR (sizesN kid)
  if i = 0 then (n, false) else
  let r := kid.l.drop i
  (.mk 0 false (withC n.l k [cellN key (.mk 0 kid.leaf (kid.l.take i)), cellN (keyOf r) (.mk 0 kid.leaf (if kid.leaf then r else setKey noS r))]), true)
set_option maxHeartbeats 4000000 in
theorem partedW (w0 : W0) (n kid : N) (c : C) (k : Nat) (S : St) (hc : n.l[k]? = some c) (hk : c.kid = [kid]) (ht : n.l.length ≤ 1048576) (ht' : kid.l.length ≤ 1048576) (hs : smN kid) :
    ACall Tryz.prog w0 149 [eN n, dI k] S (fun d S' => d = .tup [eN (partedN n kid k c.key).1, dB (partedN n kid k c.key).2] ∧ S' = S) := by
  refine fnS [12] mx Tryz.func149 rfl rfl (by kernel_rfl) ?_; simp (maxDischargeDepth := 12) (maxSteps := 1000000) -implicitDefEqProofs only [Tryz.ntmps149, go_sem, Nat.reduceAdd, Nat.reduceSub, Nat.reduceMul, Nat.reduceLeDiff, Nat.reduceEqDiff, Nat.reduceGT, Nat.reduceBEq, reduceCtorEq, ↓reduceIte, Int.reduceToNat, Int.reduceLE, Int.reduceLT, Int.reduceNe, Int.reduceEq]
  intro b b1
  have hlt := (List.getElem?_eq_some_iff.1 hc).1
  refine ⟨hlt, fun a ha => ?_⟩
  cases getE hc ha
  rw [hk]
  refine ⟨by simp, fun a2 ha2 b2 => ?_⟩
  obtain rfl : kid = a2 := by simpa using ha2
  refine use1 (sizesW w0 kid _ hs ht') ?_
  simp (maxDischargeDepth := 12) (maxSteps := 1000000) -implicitDefEqProofs only [go_sem, Nat.reduceAdd, Nat.reduceSub, Nat.reduceMul, Nat.reduceLeDiff, Nat.reduceEqDiff, Nat.reduceGT, Nat.reduceBEq, reduceCtorEq, ↓reduceIte, Int.reduceToNat, Int.reduceLE, Int.reduceLT, Int.reduceNe, Int.reduceEq]
  refine use1 (atW w0 _ _ (sizes_bd kid hs ht')) ?_
  have hat : atR (sizesN kid) = 0 ∨ (1 ≤ atR (sizesN kid) ∧ atR (sizesN kid) < kid.l.length) := by
    by_cases h : atR (sizesN kid) = 0
    · exact .inl h
    · have := atR_lt _ h
      unfold sizesN at this
      rw [List.length_map] at this
      exact .inr this
  simp (maxDischargeDepth := 12) (maxSteps := 1000000) -implicitDefEqProofs only [go_sem, Nat.reduceAdd, Nat.reduceSub, Nat.reduceMul, Nat.reduceLeDiff, Nat.reduceEqDiff, Nat.reduceGT, Nat.reduceBEq, reduceCtorEq, ↓reduceIte, Int.reduceToNat, Int.reduceLE, Int.reduceLT, Int.reduceNe, Int.reduceEq]
  unfold partedN
  simp only
  generalize atR (sizesN kid) = i at *
  refine ⟨fun h0 => ?_, fun h0 b3 b4 => ?_⟩
  · rw [if_pos (by omega)]
    simp (maxDischargeDepth := 12) (maxSteps := 1000000) -implicitDefEqProofs only [go_sem, Nat.reduceAdd, Nat.reduceSub, Nat.reduceMul, Nat.reduceLeDiff, Nat.reduceEqDiff, Nat.reduceGT, Nat.reduceBEq, reduceCtorEq, ↓reduceIte, Int.reduceToNat, Int.reduceLE, Int.reduceLT, Int.reduceNe, Int.reduceEq]
  · rw [if_neg (by omega)]
    have h1 := hat.resolve_left (by omega)
    obtain ⟨e, r, hr⟩ : ∃ e r, kid.l.drop i = e :: r := by
      cases hd : kid.l.drop i with
      | nil => have := congrArg List.length hd; rw [List.length_drop, List.length_nil] at this; omega
      | cons e r => exact ⟨e, r, rfl⟩
    have hlen : kid.l.length - i = (e :: r).length := by rw [← hr, List.length_drop]
    have hlr : (e :: r).length ≤ 1048576 := by omega
    have hmin : min i kid.l.length = i := by omega
    have h80 : (e :: r).length * 80 ≤ 140737488355328 := by omega
    have hmx : (e :: r).length ≤ maxLen := by unfold maxLen; omega
    have hpos : 0 < (e :: r).length := by simp
    rw [hr]
    simp only [hlen, hmin]
    refine ⟨by omega, by omega, by unfold maxLen; omega, fun l1 => ⟨by omega, h80, hmx, fun l2 => ⟨by omega, hpos, fun a ha => ?_⟩⟩⟩
    obtain rfl : e = a := by simpa using ha
    refine ⟨fun hlf => ?_, fun hlf => ⟨by omega, hpos, fun a3 ha3 => ?_⟩⟩
    · refine shrB b3.n 2 (l := l1.n) (s := 4) (xs := (kid.l.take i).map dC) (ds := [dI 0, dB kid.leaf, .acc l1.n i]) (by simp (maxDischargeDepth := 12) (maxSteps := 1000000) -implicitDefEqProofs only [go_sem, Nat.reduceAdd, Nat.reduceSub, Nat.reduceMul, Nat.reduceLeDiff, Nat.reduceEqDiff, Nat.reduceGT, Nat.reduceBEq, reduceCtorEq, ↓reduceIte, Int.reduceToNat, Int.reduceLE, Int.reduceLT, Int.reduceNe, Int.reduceEq]) (by simp [hmin]) (by simp (maxDischargeDepth := 12) (maxSteps := 1000000) -implicitDefEqProofs only [go_sem, Nat.reduceAdd, Nat.reduceSub, Nat.reduceMul, Nat.reduceLeDiff, Nat.reduceEqDiff, Nat.reduceGT, Nat.reduceBEq, reduceCtorEq, ↓reduceIte, Int.reduceToNat, Int.reduceLE, Int.reduceLT, Int.reduceNe, Int.reduceEq]) ?_
      simp (maxDischargeDepth := 12) (maxSteps := 1000000) -implicitDefEqProofs only [go_sem, Nat.reduceAdd, Nat.reduceSub, Nat.reduceMul, Nat.reduceLeDiff, Nat.reduceEqDiff, Nat.reduceGT, Nat.reduceBEq, reduceCtorEq, ↓reduceIte, Int.reduceToNat, Int.reduceLE, Int.reduceLT, Int.reduceNe, Int.reduceEq]
      refine shrB b4.n 2 (l := l2.n) (s := 4) (xs := eC e :: r.map dC) (ds := [dI 0, dB kid.leaf, .acc l2.n (r.length + 1)]) (by simp (maxDischargeDepth := 12) (maxSteps := 1000000) -implicitDefEqProofs only [go_sem, Nat.reduceAdd, Nat.reduceSub, Nat.reduceMul, Nat.reduceLeDiff, Nat.reduceEqDiff, Nat.reduceGT, Nat.reduceBEq, reduceCtorEq, ↓reduceIte, Int.reduceToNat, Int.reduceLE, Int.reduceLT, Int.reduceNe, Int.reduceEq]) (by simp) (by simp (maxDischargeDepth := 12) (maxSteps := 1000000) -implicitDefEqProofs only [go_sem, Nat.reduceAdd, Nat.reduceSub, Nat.reduceMul, Nat.reduceLeDiff, Nat.reduceEqDiff, Nat.reduceGT, Nat.reduceBEq, reduceCtorEq, ↓reduceIte, Int.reduceToNat, Int.reduceLE, Int.reduceLT, Int.reduceNe, Int.reduceEq]) ?_
      simp (maxDischargeDepth := 12) (maxSteps := 1000000) -implicitDefEqProofs only [go_sem, Nat.reduceAdd, Nat.reduceSub, Nat.reduceMul, Nat.reduceLeDiff, Nat.reduceEqDiff, Nat.reduceGT, Nat.reduceBEq, reduceCtorEq, ↓reduceIte, Int.reduceToNat, Int.reduceLE, Int.reduceLT, Int.reduceNe, Int.reduceEq]
      refine lexK mx (by kernel_rfl) ?_
      simp (maxDischargeDepth := 12) (maxSteps := 1000000) -implicitDefEqProofs only [go_sem, Nat.reduceAdd, Nat.reduceSub, Nat.reduceMul, Nat.reduceLeDiff, Nat.reduceEqDiff, Nat.reduceGT, Nat.reduceBEq, reduceCtorEq, ↓reduceIte, Int.reduceToNat, Int.reduceLE, Int.reduceLT, Int.reduceNe, Int.reduceEq]
      refine ⟨hlt, fun a ha => ?_⟩
      cases getE hc ha
      refine useX (fun B hB => withW w0 n.l [cellN c.key (.mk 0 kid.leaf (kid.l.take i)), cellN e.key (.mk 0 kid.leaf (e :: r))] k _ ht (by simp) hlt) ?_ (by simp (maxDischargeDepth := 12) (maxSteps := 1000000) -implicitDefEqProofs only [go_sem, Nat.reduceAdd, Nat.reduceSub, Nat.reduceMul, Nat.reduceLeDiff, Nat.reduceEqDiff, Nat.reduceGT, Nat.reduceBEq, reduceCtorEq, ↓reduceIte, Int.reduceToNat, Int.reduceLE, Int.reduceLT, Int.reduceNe, Int.reduceEq, cellN, noS])
      simp (maxDischargeDepth := 12) (maxSteps := 1000000) -implicitDefEqProofs only [go_sem, Nat.reduceAdd, Nat.reduceSub, Nat.reduceMul, Nat.reduceLeDiff, Nat.reduceEqDiff, Nat.reduceGT, Nat.reduceBEq, reduceCtorEq, ↓reduceIte, Int.reduceToNat, Int.reduceLE, Int.reduceLT, Int.reduceNe, Int.reduceEq, keyOf, hlf]
    · cases getE ha ha3
      refine shrB b3.n 2 (l := l1.n) (s := 4) (xs := (kid.l.take i).map dC) (ds := [dI 0, dB kid.leaf, .acc l1.n i]) (by simp (maxDischargeDepth := 12) (maxSteps := 1000000) -implicitDefEqProofs only [go_sem, Nat.reduceAdd, Nat.reduceSub, Nat.reduceMul, Nat.reduceLeDiff, Nat.reduceEqDiff, Nat.reduceGT, Nat.reduceBEq, reduceCtorEq, ↓reduceIte, Int.reduceToNat, Int.reduceLE, Int.reduceLT, Int.reduceNe, Int.reduceEq]) (by simp [hmin]) (by simp (maxDischargeDepth := 12) (maxSteps := 1000000) -implicitDefEqProofs only [go_sem, Nat.reduceAdd, Nat.reduceSub, Nat.reduceMul, Nat.reduceLeDiff, Nat.reduceEqDiff, Nat.reduceGT, Nat.reduceBEq, reduceCtorEq, ↓reduceIte, Int.reduceToNat, Int.reduceLE, Int.reduceLT, Int.reduceNe, Int.reduceEq]) ?_
      simp (maxDischargeDepth := 12) (maxSteps := 1000000) -implicitDefEqProofs only [go_sem, Nat.reduceAdd, Nat.reduceSub, Nat.reduceMul, Nat.reduceLeDiff, Nat.reduceEqDiff, Nat.reduceGT, Nat.reduceBEq, reduceCtorEq, ↓reduceIte, Int.reduceToNat, Int.reduceLE, Int.reduceLT, Int.reduceNe, Int.reduceEq]
      refine shrB b4.n 2 (l := l2.n) (s := 4) (xs := eC (.mk noS e.data e.pages e.kid) :: r.map dC) (ds := [dI 0, dB kid.leaf, .acc l2.n (r.length + 1)]) (by simp (maxDischargeDepth := 12) (maxSteps := 1000000) -implicitDefEqProofs only [go_sem, Nat.reduceAdd, Nat.reduceSub, Nat.reduceMul, Nat.reduceLeDiff, Nat.reduceEqDiff, Nat.reduceGT, Nat.reduceBEq, reduceCtorEq, ↓reduceIte, Int.reduceToNat, Int.reduceLE, Int.reduceLT, Int.reduceNe, Int.reduceEq]) (by simp) (by simp (maxDischargeDepth := 12) (maxSteps := 1000000) -implicitDefEqProofs only [go_sem, Nat.reduceAdd, Nat.reduceSub, Nat.reduceMul, Nat.reduceLeDiff, Nat.reduceEqDiff, Nat.reduceGT, Nat.reduceBEq, reduceCtorEq, ↓reduceIte, Int.reduceToNat, Int.reduceLE, Int.reduceLT, Int.reduceNe, Int.reduceEq, noS]; rfl) ?_
      simp (maxDischargeDepth := 12) (maxSteps := 1000000) -implicitDefEqProofs only [go_sem, Nat.reduceAdd, Nat.reduceSub, Nat.reduceMul, Nat.reduceLeDiff, Nat.reduceEqDiff, Nat.reduceGT, Nat.reduceBEq, reduceCtorEq, ↓reduceIte, Int.reduceToNat, Int.reduceLE, Int.reduceLT, Int.reduceNe, Int.reduceEq]
      refine lexK mx (by kernel_rfl) ?_
      simp (maxDischargeDepth := 12) (maxSteps := 1000000) -implicitDefEqProofs only [go_sem, Nat.reduceAdd, Nat.reduceSub, Nat.reduceMul, Nat.reduceLeDiff, Nat.reduceEqDiff, Nat.reduceGT, Nat.reduceBEq, reduceCtorEq, ↓reduceIte, Int.reduceToNat, Int.reduceLE, Int.reduceLT, Int.reduceNe, Int.reduceEq]
      refine ⟨hlt, fun a ha => ?_⟩
      cases getE hc ha
      refine useX (fun B hB => withW w0 n.l [cellN c.key (.mk 0 kid.leaf (kid.l.take i)), cellN e.key (.mk 0 kid.leaf (.mk noS e.data e.pages e.kid :: r))] k _ ht (by simp) hlt) ?_ (by simp (maxDischargeDepth := 12) (maxSteps := 1000000) -implicitDefEqProofs only [go_sem, Nat.reduceAdd, Nat.reduceSub, Nat.reduceMul, Nat.reduceLeDiff, Nat.reduceEqDiff, Nat.reduceGT, Nat.reduceBEq, reduceCtorEq, ↓reduceIte, Int.reduceToNat, Int.reduceLE, Int.reduceLT, Int.reduceNe, Int.reduceEq, cellN, noS])
      simp (maxDischargeDepth := 12) (maxSteps := 1000000) -implicitDefEqProofs only [go_sem, Nat.reduceAdd, Nat.reduceSub, Nat.reduceMul, Nat.reduceLeDiff, Nat.reduceEqDiff, Nat.reduceGT, Nat.reduceBEq, reduceCtorEq, ↓reduceIte, Int.reduceToNat, Int.reduceLE, Int.reduceLT, Int.reduceNe, Int.reduceEq, keyOf, hlf, setKey, Bool.false_eq_true]
end Go.Proofs.YtfieabidajilmaaGreat

namespace Go.Proofs.YtfieabidajilmaaGreat
open Aml Go
set_option linter.unusedVariables false
set_option linter.unusedSimpArgs false
set_option maxRecDepth 100000

def kid0 (c : C) : N := c.kid.headD (.mk 0 true [])
def cellAt (l : List C) (k : Nat) : C := l.getD k (.mk noS noS [] [])
theorem cellAt_eq {l : List C} {k : Nat} {c : C} (h : l[k]? = some c) : cellAt l k = c := by unfold cellAt; rw [List.getD_eq_getElem?_getD, h]; rfl
theorem kid0_eq {c : C} {k : N} (h : c.kid = [k]) : kid0 c = k := by unfold kid0; rw [h]; rfl
/-- Two neighbours put together. -/
def bothN (a b : N) (key : ByteArray) : N := .mk 0 a.leaf (a.l ++ if b.leaf then b.l else setKey key b.l)
def mendN (n : N) (k : Nat) : N :=
  let c := cellAt n.l k
  let p := partedN n (kid0 c) k c.key
  if p.2 then p.1 else
  if !lowR (sizesN (kid0 c)) || decide (n.l.length < 2) then n else
  let j := if k + 1 < n.l.length then k else k - 1
  let both := bothN (kid0 (cellAt n.l j)) (kid0 (cellAt n.l (j + 1))) (cellAt n.l (j + 1)).key
  (partedN (.mk 0 false (withC (withC n.l (j + 1) []) j [cellN (cellAt n.l j).key both])) both j (cellAt n.l j).key).1
theorem setKey_len (key : ByteArray) (l : List C) : (setKey key l).length = l.length := by cases l <;> rfl
theorem setKey_zero (key : ByteArray) {l : List C} {c : C} (h : l[0]? = some c) : (setKey key l)[0]? = some (.mk key c.data c.pages c.kid) := by
  cases l with
  | nil => cases h
  | cons a l => simp at h; subst h; rfl
theorem setKey_succ (key : ByteArray) (l : List C) (k : Nat) : (setKey key l)[k + 1]? = l[k + 1]? := by cases l <;> rfl
theorem smC_setKey {key : ByteArray} (hk : key.size ≤ 16) {l : List C} (h : ∀ c, c ∈ l → smC c) : ∀ c, c ∈ setKey key l → smC c := by
  cases l with
  | nil => exact h
  | cons a l =>
    intro c hc
    rcases List.mem_cons.1 hc with rfl | hc
    · have := (smC_iff a).1 (h a List.mem_cons_self)
      exact (smC_iff _).2 ⟨hk, this.2⟩
    · exact h c (List.mem_cons_of_mem _ hc)
/-- A branch whose kids are known. -/
structure BrOk (n : N) : Prop where
  len : n.l.length ≤ 524288
  kid : ∀ c, c ∈ n.l → ∃ k, c.kid = [k] ∧ smN k ∧ k.l.length ≤ 524288
  key : ∀ c, c ∈ n.l → c.key.size ≤ 16
set_option maxHeartbeats 8000000 in
theorem mendW (w0 : W0) (n : N) (k : Nat) (S : St) (hn : BrOk n) (hk : k < n.l.length) : ACall Tryz.prog w0 124 [eN n, dI k] S (fun d S' => d = eN (mendN n k) ∧ S' = S) := by
  refine fnS [21] mx Tryz.func124 rfl rfl (by kernel_rfl) ?_; simp (maxDischargeDepth := 12) (maxSteps := 1000000) -implicitDefEqProofs only [Tryz.ntmps124, go_sem, Nat.reduceAdd, Nat.reduceSub, Nat.reduceMul, Nat.reduceLeDiff, Nat.reduceEqDiff, Nat.reduceGT, Nat.reduceBEq, reduceCtorEq, ↓reduceIte, Int.reduceToNat, Int.reduceLE, Int.reduceLT, Int.reduceNe, Int.reduceEq]
  intro b b1
  have hl := hn.len
  obtain ⟨c, hc⟩ : ∃ c, n.l[k]? = some c := ⟨_, List.getElem?_eq_getElem hk⟩
  obtain ⟨kid, hkid, hks, hkl⟩ := hn.kid c (List.mem_of_getElem? hc)
  refine use1 (partedW w0 n kid c k _ hc hkid (by omega) (by omega) hks) ?_
  unfold mendN
  simp only [cellAt_eq hc, kid0_eq hkid]
  generalize hp : partedN n kid k c.key = p
  simp (maxDischargeDepth := 12) (maxSteps := 1000000) -implicitDefEqProofs only [go_sem, Nat.reduceAdd, Nat.reduceSub, Nat.reduceMul, Nat.reduceLeDiff, Nat.reduceEqDiff, Nat.reduceGT, Nat.reduceBEq, reduceCtorEq, ↓reduceIte, Int.reduceToNat, Int.reduceLE, Int.reduceLT, Int.reduceNe, Int.reduceEq]
  intro b2
  refine ⟨fun h2 => ?_, fun h2 => ⟨hk, fun a ha => ⟨?_, fun a2 ha2 => ?_⟩⟩⟩
  · rw [if_pos h2]
    simp (maxDischargeDepth := 12) (maxSteps := 1000000) -implicitDefEqProofs only [go_sem, Nat.reduceAdd, Nat.reduceSub, Nat.reduceMul, Nat.reduceLeDiff, Nat.reduceEqDiff, Nat.reduceGT, Nat.reduceBEq, reduceCtorEq, ↓reduceIte, Int.reduceToNat, Int.reduceLE, Int.reduceLT, Int.reduceNe, Int.reduceEq]
  · cases getE hc ha; rw [hkid]; simp
  · cases getE hc ha
    rw [hkid] at ha2
    obtain rfl : kid = a2 := by simpa using ha2
    refine use1 (sizesW w0 kid _ hks (by omega)) ?_
    simp (maxDischargeDepth := 12) (maxSteps := 1000000) -implicitDefEqProofs only [go_sem, Nat.reduceAdd, Nat.reduceSub, Nat.reduceMul, Nat.reduceLeDiff, Nat.reduceEqDiff, Nat.reduceGT, Nat.reduceBEq, reduceCtorEq, ↓reduceIte, Int.reduceToNat, Int.reduceLE, Int.reduceLT, Int.reduceNe, Int.reduceEq]
    refine use1 (lowW w0 _ _ (sizes_bd kid hks (by omega))) ?_
    simp (maxDischargeDepth := 12) (maxSteps := 1000000) -implicitDefEqProofs only [go_sem, Nat.reduceAdd, Nat.reduceSub, Nat.reduceMul, Nat.reduceLeDiff, Nat.reduceEqDiff, Nat.reduceGT, Nat.reduceBEq, reduceCtorEq, ↓reduceIte, Int.reduceToNat, Int.reduceLE, Int.reduceLT, Int.reduceNe, Int.reduceEq]
    rw [if_neg (by rw [h2]; simp)]
    refine ⟨fun hlo => by rw [if_pos (by rw [hlo]; rfl)]; exact .refl _, fun hlo => ⟨fun hl2 => by rw [if_pos (by rw [hlo, decide_eq_true (by omega)]; rfl)]; exact .refl _, fun hl2 => ?_⟩⟩
    rw [if_neg (by rw [hlo, decide_eq_false (by omega)]; simp)]
    have hnb := nbW w0 n.l.length k
    by_cases hk1 : k + 1 < n.l.length
    · refine use1 (hnb _ (by omega) (by omega) (by omega) (by omega)) ?_
      have enb : nbR (n.l.length : Int) k = ((k + 1 : Nat) : Int) := by unfold nbR; rw [if_pos (by omega)]; omega
      rw [if_pos hk1, enb]
      simp (maxDischargeDepth := 12) (maxSteps := 1000000) -implicitDefEqProofs only [go_sem, Nat.reduceAdd, Nat.reduceSub, Nat.reduceMul, Nat.reduceLeDiff, Nat.reduceEqDiff, Nat.reduceGT, Nat.reduceBEq, reduceCtorEq, ↓reduceIte, Int.reduceToNat, Int.reduceLE, Int.reduceLT, Int.reduceNe, Int.reduceEq]
      refine ⟨fun h => absurd h (by omega), fun _ => ?_⟩
      have hj1 := hk1
      have hc0 := hc
      have hkd0 := hkid
      have hks0 := hks
      have hkl0 := hkl
      obtain ⟨kd0, hk0⟩ : ∃ kd0, kd0 = kid := ⟨_, rfl⟩
      rw [← hk0] at hkd0 hks0 hkl0
      obtain ⟨c0, hcc⟩ : ∃ c0, c0 = c := ⟨_, rfl⟩
      rw [← hcc] at hkd0 hc0
      have ej : IntKind.i64.wrap ((k : Int) + 1) = ((k + 1 : Nat) : Int) := by rw [w64 (by omega) (by omega)]; omega
      obtain ⟨c1, hc1⟩ : ∃ c1, n.l[k + 1]? = some c1 := ⟨_, List.getElem?_eq_getElem hk1⟩
      obtain ⟨kd1, hkd1, hks1, hkl1⟩ := hn.kid c1 (List.mem_of_getElem? hc1)
      simp only [ej, Int.toNat_natCast, cellAt_eq hc0, cellAt_eq hc1, kid0_eq hkd0, kid0_eq hkd1]
      refine ⟨by omega, fun a ha => ?_⟩
      cases getE hc0 ha
      rw [hkd0]
      refine ⟨by simp, fun a2 ha2 b3 => ⟨by omega, by omega, fun a4 ha4 => ?_⟩⟩
      obtain rfl : kd0 = a2 := by simpa using ha2
      cases getE hc1 ha4
      rw [hkd1]
      refine ⟨by simp, fun a6 ha6 b4 b5 => ⟨by omega, by unfold maxLen; omega, fun lb => ?_⟩⟩
      obtain rfl : kd1 = a6 := by simpa using ha6
      obtain ⟨R, hR⟩ : ∃ R, R = if kd1.leaf then kd1.l else setKey c1.key kd1.l := ⟨_, rfl⟩
      have hRl : R.length = kd1.l.length := by rw [hR]; split; rfl; exact setKey_len _ _
      refine loopN [] kd1.l.length [1, 2, 4, 5, 9, 10, 11] (fun i => [(11, dI i)]) (fun i => ⟨(b5.n, [dI 0, dB kd0.leaf, .acc lb.n (kd0.l.length + i)]) :: (b4.n, [dI kd1.page, dB kd1.leaf, .sl 4 false (kd1.l.map dC)]) :: (b2.n, [dI p.1.page, dB p.1.leaf, .sl 4 false (p.1.l.map dC)]) :: (b1.n, [dI 0, dB false, .sl 0 true []]) :: (b.n, [dI n.page, dB n.leaf, .sl 4 false (n.l.map dC)]) :: S.box, (lb.n, .arr 4 ((kd0.l ++ R.take i).map dC)) :: S.acc⟩) (fun _ => True) mx (by kernel_rfl) ?_ ?_
      · simp (maxDischargeDepth := 12) (maxSteps := 1000000) -implicitDefEqProofs only [go_sem, Nat.reduceAdd, Nat.reduceSub, Nat.reduceMul, Nat.reduceLeDiff, Nat.reduceEqDiff, Nat.reduceGT, Nat.reduceBEq, reduceCtorEq, ↓reduceIte, Int.reduceToNat, Int.reduceLE, Int.reduceLT, Int.reduceNe, Int.reduceEq]
        exact .bothB (.bothB (.consB (.refl _)))
      · intro i hi _
        have hmin : min i R.length = i := by omega
        simp (maxDischargeDepth := 12) (maxSteps := 1000000) -implicitDefEqProofs only [go_sem, Nat.reduceAdd, Nat.reduceSub, Nat.reduceMul, Nat.reduceLeDiff, Nat.reduceEqDiff, Nat.reduceGT, Nat.reduceBEq, reduceCtorEq, ↓reduceIte, Int.reduceToNat, Int.reduceLE, Int.reduceLT, Int.reduceNe, Int.reduceEq, ej, hmin]
        have e2 : IntKind.i64.wrap ((i : Int) + 1) = ((i + 1 : Nat) : Int) := by rw [w64 (by omega) (by omega)]; omega
        have fin : ∀ (x : C) (y : Nat × List DV), R[i]? = some x → Aml.Sub ⟨(b5.n, [dI 0, dB kd0.leaf, .acc lb.n (kd0.l.length + (i + 1))]) :: (b4.n, [dI kd1.page, dB kd1.leaf, .sl 4 false (kd1.l.map dC)]) :: (b2.n, [dI p.1.page, dB p.1.leaf, .sl 4 false (p.1.l.map dC)]) :: (b1.n, [dI 0, dB false, .sl 0 true []]) :: (b.n, [dI n.page, dB n.leaf, .sl 4 false (n.l.map dC)]) :: S.box, (lb.n, .arr 4 ((kd0.l ++ R.take (i + 1)).map dC)) :: S.acc⟩ ⟨y :: (b5.n, [dI 0, dB kd0.leaf, .acc lb.n (kd0.l.length + i + 1)]) :: (b4.n, [dI kd1.page, dB kd1.leaf, .sl 4 false (kd1.l.map dC)]) :: (b2.n, [dI p.1.page, dB p.1.leaf, .sl 4 false (p.1.l.map dC)]) :: (b1.n, [dI 0, dB false, .sl 0 true []]) :: (b.n, [dI n.page, dB n.leaf, .sl 4 false (n.l.map dC)]) :: S.box, (lb.n, .arr 4 ((kd0.l ++ R.take i).map dC ++ [eC x])) :: S.acc⟩ := fun x y hx => by
          rw [List.take_add_one, hx, Option.toList_some, ← List.append_assoc, List.map_append, List.map_cons, List.map_nil, dC_eq]
          exact .consB (.refl _)
        refine ⟨fun hlt => ⟨hlt, fun a ha b6 => ⟨fun h0 => ⟨fun hlf => ?_, fun hlf => ⟨by omega, fun a4 ha4 => ?_⟩⟩, fun h0 => ?_⟩⟩, fun hge => ?_⟩
        · exact ⟨by omega, by unfold maxLen; omega, hlt, e2, fin a _ (by rw [hR, if_pos hlf]; exact ha)⟩
        · cases getE hc1 ha4
          obtain rfl : i = 0 := by omega
          exact ⟨by omega, by unfold maxLen; omega, hlt, e2, fin (.mk c1.key a.data a.pages a.kid) _ (by rw [hR, if_neg (by rw [hlf]; simp)]; exact setKey_zero _ ha)⟩
        · obtain ⟨i', rfl⟩ : ∃ i', i = i' + 1 := ⟨i - 1, by omega⟩
          exact ⟨by omega, by unfold maxLen; omega, hlt, e2, fin a _ (by
            rw [hR]
            split
            · exact ha
            · rw [setKey_succ]; exact ha)⟩
        · obtain rfl : i = kd1.l.length := by omega
          rw [List.take_of_length_le (by omega)]
          refine use1 (withW w0 n.l [] (k + 1) _ (by omega) (by simp) (by omega)) ?_ (by simp (maxDischargeDepth := 12) (maxSteps := 1000000) -implicitDefEqProofs only [go_sem, Nat.reduceAdd, Nat.reduceSub, Nat.reduceMul, Nat.reduceLeDiff, Nat.reduceEqDiff, Nat.reduceGT, Nat.reduceBEq, reduceCtorEq, ↓reduceIte, Int.reduceToNat, Int.reduceLE, Int.reduceLT, Int.reduceNe, Int.reduceEq])
          simp (maxDischargeDepth := 12) (maxSteps := 1000000) -implicitDefEqProofs only [go_sem, Nat.reduceAdd, Nat.reduceSub, Nat.reduceMul, Nat.reduceLeDiff, Nat.reduceEqDiff, Nat.reduceGT, Nat.reduceBEq, reduceCtorEq, ↓reduceIte, Int.reduceToNat, Int.reduceLE, Int.reduceLT, Int.reduceNe, Int.reduceEq]
          refine shrB b5.n 2 (l := lb.n) (s := 4) (xs := (kd0.l ++ R).map dC) (ds := [dI 0, dB kd0.leaf, .acc lb.n (kd0.l.length + kd1.l.length)]) (by simp (maxDischargeDepth := 12) (maxSteps := 1000000) -implicitDefEqProofs only [go_sem, Nat.reduceAdd, Nat.reduceSub, Nat.reduceMul, Nat.reduceLeDiff, Nat.reduceEqDiff, Nat.reduceGT, Nat.reduceBEq, reduceCtorEq, ↓reduceIte, Int.reduceToNat, Int.reduceLE, Int.reduceLT, Int.reduceNe, Int.reduceEq]) (by simp [hRl]) (by simp (maxDischargeDepth := 12) (maxSteps := 1000000) -implicitDefEqProofs only [go_sem, Nat.reduceAdd, Nat.reduceSub, Nat.reduceMul, Nat.reduceLeDiff, Nat.reduceEqDiff, Nat.reduceGT, Nat.reduceBEq, reduceCtorEq, ↓reduceIte, Int.reduceToNat, Int.reduceLE, Int.reduceLT, Int.reduceNe, Int.reduceEq]) ?_
          simp (maxDischargeDepth := 12) (maxSteps := 1000000) -implicitDefEqProofs only [go_sem, Nat.reduceAdd, Nat.reduceSub, Nat.reduceMul, Nat.reduceLeDiff, Nat.reduceEqDiff, Nat.reduceGT, Nat.reduceBEq, reduceCtorEq, ↓reduceIte, Int.reduceToNat, Int.reduceLE, Int.reduceLT, Int.reduceNe, Int.reduceEq]
          refine lexK mx (by kernel_rfl) ?_
          simp (maxDischargeDepth := 12) (maxSteps := 1000000) -implicitDefEqProofs only [go_sem, Nat.reduceAdd, Nat.reduceSub, Nat.reduceMul, Nat.reduceLeDiff, Nat.reduceEqDiff, Nat.reduceGT, Nat.reduceBEq, reduceCtorEq, ↓reduceIte, Int.reduceToNat, Int.reduceLE, Int.reduceLT, Int.reduceNe, Int.reduceEq]
          refine ⟨by omega, fun a ha => ?_⟩
          cases getE hc0 ha
          have hlw : (withC n.l (k + 1) []).length = n.l.length - 1 := by
            unfold withC; rw [List.append_nil, List.length_append, List.length_take, List.length_drop]; omega
          have hmm : (withC (withC n.l (k + 1) []) k [cellN c0.key (.mk 0 kd0.leaf (kd0.l ++ R))])[k]? = some (cellN c0.key (.mk 0 kd0.leaf (kd0.l ++ R))) := by
            unfold withC
            rw [List.append_assoc, List.getElem?_append_right (by simp; omega)]
            rw [show k - (List.take k (List.take (k + 1) n.l ++ [] ++ List.drop (k + 1 + 1) n.l)).length = 0 by simp; omega]
            rfl
          have hml : (withC (withC n.l (k + 1) []) k [cellN c0.key (.mk 0 kd0.leaf (kd0.l ++ R))]).length ≤ 1048576 := by
            unfold withC at hlw ⊢
            simp only [List.length_append, List.length_take, List.length_drop, List.length_cons, List.length_nil] at *
            omega
          have hbl : (kd0.l ++ R).length ≤ 1048576 := by rw [List.length_append]; omega
          have hbs : smN (.mk 0 kd0.leaf (kd0.l ++ R)) := (smN_iff _).2 fun x hx => by
            rcases List.mem_append.1 hx with hx | hx
            · exact (smN_iff _).1 hks0 x hx
            · rw [hR] at hx
              split at hx
              · exact (smN_iff _).1 hks1 x hx
              · exact smC_setKey (hn.key c1 (List.mem_of_getElem? hc1)) ((smN_iff _).1 hks1) x hx
          have hbo : bothN kd0 kd1 c1.key = .mk 0 kd0.leaf (kd0.l ++ R) := by unfold bothN; rw [← hR]
          refine useX (fun B hB => withW w0 (withC n.l (k + 1) []) [cellN c0.key (.mk 0 kd0.leaf (kd0.l ++ R))] k _ (by omega) (by simp) (by omega)) ?_ (by simp (maxDischargeDepth := 12) (maxSteps := 1000000) -implicitDefEqProofs only [go_sem, Nat.reduceAdd, Nat.reduceSub, Nat.reduceMul, Nat.reduceLeDiff, Nat.reduceEqDiff, Nat.reduceGT, Nat.reduceBEq, reduceCtorEq, ↓reduceIte, Int.reduceToNat, Int.reduceLE, Int.reduceLT, Int.reduceNe, Int.reduceEq, cellN, noS])
          simp (maxDischargeDepth := 12) (maxSteps := 1000000) -implicitDefEqProofs only [go_sem, Nat.reduceAdd, Nat.reduceSub, Nat.reduceMul, Nat.reduceLeDiff, Nat.reduceEqDiff, Nat.reduceGT, Nat.reduceBEq, reduceCtorEq, ↓reduceIte, Int.reduceToNat, Int.reduceLE, Int.reduceLT, Int.reduceNe, Int.reduceEq]
          refine use1 (partedW w0 (.mk 0 false (withC (withC n.l (k + 1) []) k [cellN c0.key (.mk 0 kd0.leaf (kd0.l ++ R))])) (.mk 0 kd0.leaf (kd0.l ++ R)) _ k _ hmm rfl hml hbl hbs) ?_
          simp (maxDischargeDepth := 12) (maxSteps := 1000000) -implicitDefEqProofs only [go_sem, Nat.reduceAdd, Nat.reduceSub, Nat.reduceMul, Nat.reduceLeDiff, Nat.reduceEqDiff, Nat.reduceGT, Nat.reduceBEq, reduceCtorEq, ↓reduceIte, Int.reduceToNat, Int.reduceLE, Int.reduceLT, Int.reduceNe, Int.reduceEq, Nat.add_sub_cancel, cellAt_eq hc0, cellAt_eq hc1, kid0_eq hkd0, kid0_eq hkd1, hbo]
          exact .refl _
    · obtain ⟨j, rfl⟩ : ∃ j, k = j + 1 := ⟨k - 1, by omega⟩
      refine use1 (hnb _ (by omega) (by omega) (by omega) (by omega)) ?_
      have enb : nbR (n.l.length : Int) ((j + 1 : Nat) : Int) = ((j : Nat) : Int) := by unfold nbR; rw [if_neg (by omega)]; omega
      rw [if_neg hk1, enb]
      simp (maxDischargeDepth := 12) (maxSteps := 1000000) -implicitDefEqProofs only [go_sem, Nat.reduceAdd, Nat.reduceSub, Nat.reduceMul, Nat.reduceLeDiff, Nat.reduceEqDiff, Nat.reduceGT, Nat.reduceBEq, reduceCtorEq, ↓reduceIte, Int.reduceToNat, Int.reduceLE, Int.reduceLT, Int.reduceNe, Int.reduceEq]
      have hj1 := hk
      have hc1 := hc
      have hkd1 := hkid
      have hks1 := hks
      have hkl1 := hkl
      obtain ⟨kd1, hk1'⟩ : ∃ kd1, kd1 = kid := ⟨_, rfl⟩
      rw [← hk1'] at hkd1 hks1 hkl1
      obtain ⟨c1, hcc⟩ : ∃ c1, c1 = c := ⟨_, rfl⟩
      rw [← hcc] at hkd1 hc1
      have ej : IntKind.i64.wrap ((j : Int) + 1) = ((j + 1 : Nat) : Int) := by rw [w64 (by omega) (by omega)]; omega
      obtain ⟨c0, hc0⟩ : ∃ c0, n.l[j]? = some c0 := ⟨_, List.getElem?_eq_getElem (by omega)⟩
      obtain ⟨kd0, hkd0, hks0, hkl0⟩ := hn.kid c0 (List.mem_of_getElem? hc0)
      simp only [ej, Int.toNat_natCast, Nat.add_sub_cancel, cellAt_eq hc0, cellAt_eq hc1, kid0_eq hkd0, kid0_eq hkd1]
      refine ⟨by omega, fun a ha => ?_⟩
      cases getE hc0 ha
      rw [hkd0]
      refine ⟨by simp, fun a2 ha2 b3 => ⟨by omega, by omega, fun a4 ha4 => ?_⟩⟩
      obtain rfl : kd0 = a2 := by simpa using ha2
      cases getE hc1 ha4
      rw [hkd1]
      refine ⟨by simp, fun a6 ha6 b4 b5 => ⟨by omega, by unfold maxLen; omega, fun lb => ?_⟩⟩
      obtain rfl : kd1 = a6 := by simpa using ha6
      obtain ⟨R, hR⟩ : ∃ R, R = if kd1.leaf then kd1.l else setKey c1.key kd1.l := ⟨_, rfl⟩
      have hRl : R.length = kd1.l.length := by rw [hR]; split; rfl; exact setKey_len _ _
      refine loopN [] kd1.l.length [1, 2, 4, 5, 9, 10, 11] (fun i => [(11, dI i)]) (fun i => ⟨(b5.n, [dI 0, dB kd0.leaf, .acc lb.n (kd0.l.length + i)]) :: (b4.n, [dI kd1.page, dB kd1.leaf, .sl 4 false (kd1.l.map dC)]) :: (b2.n, [dI p.1.page, dB p.1.leaf, .sl 4 false (p.1.l.map dC)]) :: (b1.n, [dI 0, dB false, .sl 0 true []]) :: (b.n, [dI n.page, dB n.leaf, .sl 4 false (n.l.map dC)]) :: S.box, (lb.n, .arr 4 ((kd0.l ++ R.take i).map dC)) :: S.acc⟩) (fun _ => True) mx (by kernel_rfl) ?_ ?_
      · simp (maxDischargeDepth := 12) (maxSteps := 1000000) -implicitDefEqProofs only [go_sem, Nat.reduceAdd, Nat.reduceSub, Nat.reduceMul, Nat.reduceLeDiff, Nat.reduceEqDiff, Nat.reduceGT, Nat.reduceBEq, reduceCtorEq, ↓reduceIte, Int.reduceToNat, Int.reduceLE, Int.reduceLT, Int.reduceNe, Int.reduceEq]
        exact .bothB (.bothB (.consB (.refl _)))
      · intro i hi _
        have hmin : min i R.length = i := by omega
        simp (maxDischargeDepth := 12) (maxSteps := 1000000) -implicitDefEqProofs only [go_sem, Nat.reduceAdd, Nat.reduceSub, Nat.reduceMul, Nat.reduceLeDiff, Nat.reduceEqDiff, Nat.reduceGT, Nat.reduceBEq, reduceCtorEq, ↓reduceIte, Int.reduceToNat, Int.reduceLE, Int.reduceLT, Int.reduceNe, Int.reduceEq, ej, hmin]
        have e2 : IntKind.i64.wrap ((i : Int) + 1) = ((i + 1 : Nat) : Int) := by rw [w64 (by omega) (by omega)]; omega
        have fin : ∀ (x : C) (y : Nat × List DV), R[i]? = some x → Aml.Sub ⟨(b5.n, [dI 0, dB kd0.leaf, .acc lb.n (kd0.l.length + (i + 1))]) :: (b4.n, [dI kd1.page, dB kd1.leaf, .sl 4 false (kd1.l.map dC)]) :: (b2.n, [dI p.1.page, dB p.1.leaf, .sl 4 false (p.1.l.map dC)]) :: (b1.n, [dI 0, dB false, .sl 0 true []]) :: (b.n, [dI n.page, dB n.leaf, .sl 4 false (n.l.map dC)]) :: S.box, (lb.n, .arr 4 ((kd0.l ++ R.take (i + 1)).map dC)) :: S.acc⟩ ⟨y :: (b5.n, [dI 0, dB kd0.leaf, .acc lb.n (kd0.l.length + i + 1)]) :: (b4.n, [dI kd1.page, dB kd1.leaf, .sl 4 false (kd1.l.map dC)]) :: (b2.n, [dI p.1.page, dB p.1.leaf, .sl 4 false (p.1.l.map dC)]) :: (b1.n, [dI 0, dB false, .sl 0 true []]) :: (b.n, [dI n.page, dB n.leaf, .sl 4 false (n.l.map dC)]) :: S.box, (lb.n, .arr 4 ((kd0.l ++ R.take i).map dC ++ [eC x])) :: S.acc⟩ := fun x y hx => by
          rw [List.take_add_one, hx, Option.toList_some, ← List.append_assoc, List.map_append, List.map_cons, List.map_nil, dC_eq]
          exact .consB (.refl _)
        refine ⟨fun hlt => ⟨hlt, fun a ha b6 => ⟨fun h0 => ⟨fun hlf => ?_, fun hlf => ⟨by omega, fun a4 ha4 => ?_⟩⟩, fun h0 => ?_⟩⟩, fun hge => ?_⟩
        · exact ⟨by omega, by unfold maxLen; omega, hlt, e2, fin a _ (by rw [hR, if_pos hlf]; exact ha)⟩
        · cases getE hc1 ha4
          obtain rfl : i = 0 := by omega
          exact ⟨by omega, by unfold maxLen; omega, hlt, e2, fin (.mk c1.key a.data a.pages a.kid) _ (by rw [hR, if_neg (by rw [hlf]; simp)]; exact setKey_zero _ ha)⟩
        · obtain ⟨i', rfl⟩ : ∃ i', i = i' + 1 := ⟨i - 1, by omega⟩
          exact ⟨by omega, by unfold maxLen; omega, hlt, e2, fin a _ (by
            rw [hR]
            split
            · exact ha
            · rw [setKey_succ]; exact ha)⟩
        · obtain rfl : i = kd1.l.length := by omega
          rw [List.take_of_length_le (by omega)]
          refine use1 (withW w0 n.l [] (j + 1) _ (by omega) (by simp) (by omega)) ?_ (by simp (maxDischargeDepth := 12) (maxSteps := 1000000) -implicitDefEqProofs only [go_sem, Nat.reduceAdd, Nat.reduceSub, Nat.reduceMul, Nat.reduceLeDiff, Nat.reduceEqDiff, Nat.reduceGT, Nat.reduceBEq, reduceCtorEq, ↓reduceIte, Int.reduceToNat, Int.reduceLE, Int.reduceLT, Int.reduceNe, Int.reduceEq])
          simp (maxDischargeDepth := 12) (maxSteps := 1000000) -implicitDefEqProofs only [go_sem, Nat.reduceAdd, Nat.reduceSub, Nat.reduceMul, Nat.reduceLeDiff, Nat.reduceEqDiff, Nat.reduceGT, Nat.reduceBEq, reduceCtorEq, ↓reduceIte, Int.reduceToNat, Int.reduceLE, Int.reduceLT, Int.reduceNe, Int.reduceEq]
          refine shrB b5.n 2 (l := lb.n) (s := 4) (xs := (kd0.l ++ R).map dC) (ds := [dI 0, dB kd0.leaf, .acc lb.n (kd0.l.length + kd1.l.length)]) (by simp (maxDischargeDepth := 12) (maxSteps := 1000000) -implicitDefEqProofs only [go_sem, Nat.reduceAdd, Nat.reduceSub, Nat.reduceMul, Nat.reduceLeDiff, Nat.reduceEqDiff, Nat.reduceGT, Nat.reduceBEq, reduceCtorEq, ↓reduceIte, Int.reduceToNat, Int.reduceLE, Int.reduceLT, Int.reduceNe, Int.reduceEq]) (by simp [hRl]) (by simp (maxDischargeDepth := 12) (maxSteps := 1000000) -implicitDefEqProofs only [go_sem, Nat.reduceAdd, Nat.reduceSub, Nat.reduceMul, Nat.reduceLeDiff, Nat.reduceEqDiff, Nat.reduceGT, Nat.reduceBEq, reduceCtorEq, ↓reduceIte, Int.reduceToNat, Int.reduceLE, Int.reduceLT, Int.reduceNe, Int.reduceEq]) ?_
          simp (maxDischargeDepth := 12) (maxSteps := 1000000) -implicitDefEqProofs only [go_sem, Nat.reduceAdd, Nat.reduceSub, Nat.reduceMul, Nat.reduceLeDiff, Nat.reduceEqDiff, Nat.reduceGT, Nat.reduceBEq, reduceCtorEq, ↓reduceIte, Int.reduceToNat, Int.reduceLE, Int.reduceLT, Int.reduceNe, Int.reduceEq]
          refine lexK mx (by kernel_rfl) ?_
          simp (maxDischargeDepth := 12) (maxSteps := 1000000) -implicitDefEqProofs only [go_sem, Nat.reduceAdd, Nat.reduceSub, Nat.reduceMul, Nat.reduceLeDiff, Nat.reduceEqDiff, Nat.reduceGT, Nat.reduceBEq, reduceCtorEq, ↓reduceIte, Int.reduceToNat, Int.reduceLE, Int.reduceLT, Int.reduceNe, Int.reduceEq]
          refine ⟨by omega, fun a ha => ?_⟩
          cases getE hc0 ha
          have hlw : (withC n.l (j + 1) []).length = n.l.length - 1 := by
            unfold withC; rw [List.append_nil, List.length_append, List.length_take, List.length_drop]; omega
          have hmm : (withC (withC n.l (j + 1) []) j [cellN c0.key (.mk 0 kd0.leaf (kd0.l ++ R))])[j]? = some (cellN c0.key (.mk 0 kd0.leaf (kd0.l ++ R))) := by
            unfold withC
            rw [List.append_assoc, List.getElem?_append_right (by simp; omega)]
            rw [show j - (List.take j (List.take (j + 1) n.l ++ [] ++ List.drop (j + 1 + 1) n.l)).length = 0 by simp; omega]
            rfl
          have hml : (withC (withC n.l (j + 1) []) j [cellN c0.key (.mk 0 kd0.leaf (kd0.l ++ R))]).length ≤ 1048576 := by
            unfold withC at hlw ⊢
            simp only [List.length_append, List.length_take, List.length_drop, List.length_cons, List.length_nil] at *
            omega
          have hbl : (kd0.l ++ R).length ≤ 1048576 := by rw [List.length_append]; omega
          have hbs : smN (.mk 0 kd0.leaf (kd0.l ++ R)) := (smN_iff _).2 fun x hx => by
            rcases List.mem_append.1 hx with hx | hx
            · exact (smN_iff _).1 hks0 x hx
            · rw [hR] at hx
              split at hx
              · exact (smN_iff _).1 hks1 x hx
              · exact smC_setKey (hn.key c1 (List.mem_of_getElem? hc1)) ((smN_iff _).1 hks1) x hx
          have hbo : bothN kd0 kd1 c1.key = .mk 0 kd0.leaf (kd0.l ++ R) := by unfold bothN; rw [← hR]
          refine useX (fun B hB => withW w0 (withC n.l (j + 1) []) [cellN c0.key (.mk 0 kd0.leaf (kd0.l ++ R))] j _ (by omega) (by simp) (by omega)) ?_ (by simp (maxDischargeDepth := 12) (maxSteps := 1000000) -implicitDefEqProofs only [go_sem, Nat.reduceAdd, Nat.reduceSub, Nat.reduceMul, Nat.reduceLeDiff, Nat.reduceEqDiff, Nat.reduceGT, Nat.reduceBEq, reduceCtorEq, ↓reduceIte, Int.reduceToNat, Int.reduceLE, Int.reduceLT, Int.reduceNe, Int.reduceEq, cellN, noS])
          simp (maxDischargeDepth := 12) (maxSteps := 1000000) -implicitDefEqProofs only [go_sem, Nat.reduceAdd, Nat.reduceSub, Nat.reduceMul, Nat.reduceLeDiff, Nat.reduceEqDiff, Nat.reduceGT, Nat.reduceBEq, reduceCtorEq, ↓reduceIte, Int.reduceToNat, Int.reduceLE, Int.reduceLT, Int.reduceNe, Int.reduceEq]
          refine use1 (partedW w0 (.mk 0 false (withC (withC n.l (j + 1) []) j [cellN c0.key (.mk 0 kd0.leaf (kd0.l ++ R))])) (.mk 0 kd0.leaf (kd0.l ++ R)) _ j _ hmm rfl hml hbl hbs) ?_
          simp (maxDischargeDepth := 12) (maxSteps := 1000000) -implicitDefEqProofs only [go_sem, Nat.reduceAdd, Nat.reduceSub, Nat.reduceMul, Nat.reduceLeDiff, Nat.reduceEqDiff, Nat.reduceGT, Nat.reduceBEq, reduceCtorEq, ↓reduceIte, Int.reduceToNat, Int.reduceLE, Int.reduceLT, Int.reduceNe, Int.reduceEq, Nat.add_sub_cancel, cellAt_eq hc0, cellAt_eq hc1, kid0_eq hkd0, kid0_eq hkd1, hbo]
          exact .refl _
end Go.Proofs.YtfieabidajilmaaGreat

namespace Go.Proofs.YtfieabidajilmaaGreat
open Aml Go
set_option linter.unusedVariables false
set_option linter.unusedSimpArgs false
set_option maxRecDepth 100000

/-- A tree whose root is what it must be. -/
def topN : N → N
  | .mk p false [.mk ck cd cp (k :: r)] => topN k
  | n => if atR (sizesN n) = 0 then n else mendN (.mk 0 false [cellN noS n]) 0
termination_by n => SizeOf.sizeOf n
decreasing_by simp; omega
/-- How many keys are ahead. -/
def idxN (l : List C) (key : ByteArray) : Nat := (l.takeWhile fun c => ltS c.key key).length
theorem idx_le (l : List C) (key : ByteArray) : idxN l key ≤ l.length := by
  unfold idxN; exact (List.takeWhile_sublist _).length_le
def leafPut (l : List C) (key val : ByteArray) : List C :=
  let i := idxN l key
  match l[i]? with
  | some c => if eqS c.key key then withC l i [.mk key val [] []] else l.take i ++ [.mk key val [] []] ++ l.drop i
  | none => l.take i ++ [.mk key val [] []] ++ l.drop i
def putN (key val : ByteArray) : N → N
  | .mk p true l => .mk 0 true (leafPut l key val)
  | .mk p false l => match h : l[way l key]? with
    | some (.mk ck cd cp (k :: r)) => mendN (.mk 0 false (withC l (way l key) [cellN ck (putN key val k)])) (way l key)
    | _ => .mk 0 true []
termination_by n => SizeOf.sizeOf n
decreasing_by
  have h1 := List.sizeOf_lt_of_mem (List.mem_of_getElem? h)
  simp at h1 ⊢; omega
theorem putN_leaf (key val : ByteArray) (n : N) (h : n.leaf = true) : putN key val n = .mk 0 true (leafPut n.l key val) := by
  cases n with | mk p b l => simp only [N.leaf] at h; subst h; rw [putN]; rfl
theorem putN_br (key val : ByteArray) (n : N) (h : n.leaf = false) {c : C} {k : N} (hc : n.l[way n.l key]? = some c) (hk : c.kid = [k]) : putN key val n = mendN (.mk 0 false (withC n.l (way n.l key) [cellN c.key (putN key val k)])) (way n.l key) := by
  cases n with | mk p b l =>
  simp only [N.leaf] at h; subst h
  cases c with | mk ck cd cp cr =>
  simp only [C.kid] at hk; subst hk
  simp only [N.l] at hc ⊢
  rw [putN]
  split
  · rename_i h1; rw [hc] at h1; cases h1; rfl
  · rename_i h1; exact absurd hc (h1 _ _ _ _ _)
theorem topN_one (n : N) (h : n.leaf = false) {c : C} {k : N} (hc : n.l = [c]) (hk : c.kid = [k]) : topN n = topN k := by
  cases n with | mk p b l =>
  cases c with | mk ck cd cp cr =>
  simp only [N.leaf, N.l, C.kid] at *; subst h; subst hc; subst hk
  rw [topN]
theorem topN_else (n : N) (h : n.leaf = true ∨ n.l.length ≠ 1) : topN n = if atR (sizesN n) = 0 then n else mendN (.mk 0 false [cellN noS n]) 0 := by
  cases n with | mk p b l =>
  rw [topN]
  intro p' ck cd cp k r e
  simp only [N.mk.injEq] at e
  rcases h with h | h
  · simp only [N.leaf] at h; rw [h] at e; exact absurd e.2.1 (by simp)
  · simp only [N.l] at h; rw [e.2.2] at h; simp at h

/-- All that a walk needs of a tree. -/
def Fit (B : Nat) (n : N) : Prop := okN n ∧ smN n ∧ totN n ≤ B
theorem tot_kid {n : N} {c : C} {k : N} (h : c ∈ n.l) (hk : c.kid = [k]) : totN k + n.l.length ≤ totN n := by
  rw [totN_eq n]
  have : ∀ l : List C, c ∈ l → totN k + l.length ≤ (l.map totC).sum := by
    intro l
    induction l with
    | nil => intro h; cases h
    | cons a l ih =>
      intro h
      simp only [List.map_cons, List.sum_cons, List.length_cons]
      have h1 : ∀ l : List C, l.length ≤ (l.map totC).sum := by
        intro l
        induction l with
        | nil => exact Nat.zero_le _
        | cons c l ih => simp only [List.length_cons, List.map_cons, List.sum_cons, totC_eq]; omega
      rcases List.mem_cons.1 h with rfl | h
      · have := h1 l
        rw [totC_eq, hk]; simp; omega
      · have := ih h
        have := totC_eq a
        omega
  exact this _ h
set_option maxHeartbeats 2000000 in
theorem topW (w0 : W0) : ∀ (m : Nat) (n : N) (S : St), SizeOf.sizeOf n < m → Fit 524288 n → ACall Tryz.prog w0 86 [eN n] S (fun d S' => d = eN (topN n) ∧ S' = S) := by
  intro m
  induction m with
  | zero => intro n S h; omega
  | succ m ih =>
    intro n S hm hf
    refine fnS [] mx Tryz.func86 rfl rfl (by kernel_rfl) ?_; simp (maxDischargeDepth := 12) (maxSteps := 1000000) -implicitDefEqProofs only [Tryz.ntmps86, go_sem, Nat.reduceAdd, Nat.reduceSub, Nat.reduceMul, Nat.reduceLeDiff, Nat.reduceEqDiff, Nat.reduceGT, Nat.reduceBEq, reduceCtorEq, ↓reduceIte, Int.reduceToNat, Int.reduceLE, Int.reduceLT, Int.reduceNe, Int.reduceEq]
    have hl := tot_len n
    have hB := hf.2.2
    have hN : (↑n.l.length = (1 : Int)) → n.leaf = false → ∃ c k, n.l = [c] ∧ c.kid = [k] ∧ Fit 524288 k ∧ SizeOf.sizeOf k < m := fun h1 h2 => by
      have h3 : n.l.length = 1 := by omega
      obtain ⟨c, hc⟩ := List.length_eq_one_iff.1 h3
      obtain ⟨k, hk, hok⟩ := ((okN_iff n).1 hf.1 h2).2 c (by rw [hc]; exact List.mem_singleton_self c)
      have hcm : c ∈ n.l := by rw [hc]; exact List.mem_singleton_self c
      have h4 := tot_kid hcm hk
      have h5 := size_kid' hcm (by rw [hk]; exact List.mem_singleton_self k)
      exact ⟨c, k, hc, hk, ⟨hok, ((smC_iff c).1 ((smN_iff n).1 hf.2.1 c hcm)).2.2.2 k (by rw [hk]; exact List.mem_singleton_self k), by omega⟩, by omega⟩
    have hbr : BrOk (.mk 0 false [cellN noS n]) := ⟨by simp [N.l], fun c hc => by
      simp only [N.l, List.mem_singleton] at hc
      subst hc
      exact ⟨n, rfl, hf.2.1, by omega⟩, fun c hc => by
      simp only [N.l, List.mem_singleton] at hc
      subst hc
      show (ByteArray.empty).size ≤ 16
      simp⟩
    intro b b1
    have rest : n.leaf = true ∨ n.l.length ≠ 1 → topN n = if atR (sizesN n) = 0 then n else mendN (.mk 0 false [cellN noS n]) 0 := topN_else n
    refine ⟨fun hlf => ⟨fun h1 => ⟨by omega, fun a ha => ?_⟩, fun h1 => ?_⟩, fun hlf => ?_⟩
    · obtain ⟨c, k, hc, hk, hfk, hsk⟩ := hN h1 hlf
      rw [hc] at ha
      obtain rfl : c = a := by simpa using ha
      rw [hk]
      refine ⟨by simp, fun a2 ha2 => ?_⟩
      obtain rfl : k = a2 := by simpa using ha2
      refine use1 (ih k _ hsk hfk) ?_
      simp (maxDischargeDepth := 12) (maxSteps := 1000000) -implicitDefEqProofs only [go_sem, Nat.reduceAdd, Nat.reduceSub, Nat.reduceMul, Nat.reduceLeDiff, Nat.reduceEqDiff, Nat.reduceGT, Nat.reduceBEq, reduceCtorEq, ↓reduceIte, Int.reduceToNat, Int.reduceLE, Int.reduceLT, Int.reduceNe, Int.reduceEq, topN_one n hlf hc hk]
    · refine use1 (sizesW w0 n _ hf.2.1 (by omega)) ?_
      simp (maxDischargeDepth := 12) (maxSteps := 1000000) -implicitDefEqProofs only [go_sem, Nat.reduceAdd, Nat.reduceSub, Nat.reduceMul, Nat.reduceLeDiff, Nat.reduceEqDiff, Nat.reduceGT, Nat.reduceBEq, reduceCtorEq, ↓reduceIte, Int.reduceToNat, Int.reduceLE, Int.reduceLT, Int.reduceNe, Int.reduceEq]
      refine use1 (atW w0 _ _ (sizes_bd n hf.2.1 (by omega))) ?_
      simp (maxDischargeDepth := 12) (maxSteps := 1000000) -implicitDefEqProofs only [go_sem, Nat.reduceAdd, Nat.reduceSub, Nat.reduceMul, Nat.reduceLeDiff, Nat.reduceEqDiff, Nat.reduceGT, Nat.reduceBEq, reduceCtorEq, ↓reduceIte, Int.reduceToNat, Int.reduceLE, Int.reduceLT, Int.reduceNe, Int.reduceEq]
      rw [rest (.inr (by omega))]
      refine ⟨fun h0 => ?_, fun h0 => ?_⟩
      · rw [if_pos (by omega)]
        exact .refl _
      · rw [if_neg (by omega)]
        refine use1 (mendW w0 (.mk 0 false [cellN noS n]) 0 _ hbr (by simp [N.l])) ?_ (by simp (maxDischargeDepth := 12) (maxSteps := 1000000) -implicitDefEqProofs only [go_sem, Nat.reduceAdd, Nat.reduceSub, Nat.reduceMul, Nat.reduceLeDiff, Nat.reduceEqDiff, Nat.reduceGT, Nat.reduceBEq, reduceCtorEq, ↓reduceIte, Int.reduceToNat, Int.reduceLE, Int.reduceLT, Int.reduceNe, Int.reduceEq, cellN, noS])
        simp (maxDischargeDepth := 12) (maxSteps := 1000000) -implicitDefEqProofs only [go_sem, Nat.reduceAdd, Nat.reduceSub, Nat.reduceMul, Nat.reduceLeDiff, Nat.reduceEqDiff, Nat.reduceGT, Nat.reduceBEq, reduceCtorEq, ↓reduceIte, Int.reduceToNat, Int.reduceLE, Int.reduceLT, Int.reduceNe, Int.reduceEq]
    · refine use1 (sizesW w0 n _ hf.2.1 (by omega)) ?_
      simp (maxDischargeDepth := 12) (maxSteps := 1000000) -implicitDefEqProofs only [go_sem, Nat.reduceAdd, Nat.reduceSub, Nat.reduceMul, Nat.reduceLeDiff, Nat.reduceEqDiff, Nat.reduceGT, Nat.reduceBEq, reduceCtorEq, ↓reduceIte, Int.reduceToNat, Int.reduceLE, Int.reduceLT, Int.reduceNe, Int.reduceEq]
      refine use1 (atW w0 _ _ (sizes_bd n hf.2.1 (by omega))) ?_
      simp (maxDischargeDepth := 12) (maxSteps := 1000000) -implicitDefEqProofs only [go_sem, Nat.reduceAdd, Nat.reduceSub, Nat.reduceMul, Nat.reduceLeDiff, Nat.reduceEqDiff, Nat.reduceGT, Nat.reduceBEq, reduceCtorEq, ↓reduceIte, Int.reduceToNat, Int.reduceLE, Int.reduceLT, Int.reduceNe, Int.reduceEq]
      rw [rest (.inl hlf)]
      refine ⟨fun h0 => ?_, fun h0 => ?_⟩
      · rw [if_pos (by omega)]
        exact .refl _
      · rw [if_neg (by omega)]
        refine use1 (mendW w0 (.mk 0 false [cellN noS n]) 0 _ hbr (by simp [N.l])) ?_ (by simp (maxDischargeDepth := 12) (maxSteps := 1000000) -implicitDefEqProofs only [go_sem, Nat.reduceAdd, Nat.reduceSub, Nat.reduceMul, Nat.reduceLeDiff, Nat.reduceEqDiff, Nat.reduceGT, Nat.reduceBEq, reduceCtorEq, ↓reduceIte, Int.reduceToNat, Int.reduceLE, Int.reduceLT, Int.reduceNe, Int.reduceEq, cellN, noS])
        simp (maxDischargeDepth := 12) (maxSteps := 1000000) -implicitDefEqProofs only [go_sem, Nat.reduceAdd, Nat.reduceSub, Nat.reduceMul, Nat.reduceLeDiff, Nat.reduceEqDiff, Nat.reduceGT, Nat.reduceBEq, reduceCtorEq, ↓reduceIte, Int.reduceToNat, Int.reduceLE, Int.reduceLT, Int.reduceNe, Int.reduceEq]
theorem noS_size : noS.size = 0 := rfl
theorem withC_len {l m : List C} {i : Nat} (h : i < l.length) : (withC l i m).length + 1 = l.length + m.length := by
  unfold withC; simp only [List.length_append, List.length_take, List.length_drop]; omega
theorem mem_withC {l m : List C} {i : Nat} {c : C} (h : c ∈ withC l i m) : c ∈ l ∨ c ∈ m := by
  unfold withC at h
  rcases List.mem_append.1 h with h | h
  · rcases List.mem_append.1 h with h | h
    · exact .inl (List.mem_of_mem_take h)
    · exact .inr h
  · exact .inl (List.mem_of_mem_drop h)
/-- A leaf's cells with a key more, or another value. -/
theorem leafPut_mem {l : List C} {key val : ByteArray} {c : C} (h : c ∈ leafPut l key val) : c ∈ l ∨ c = .mk key val [] [] := by
  have h2 : c ∈ l.take (idxN l key) ++ [.mk key val [] []] ++ l.drop (idxN l key) → c ∈ l ∨ c = .mk key val [] [] := fun h => by
    rcases List.mem_append.1 h with h | h
    · rcases List.mem_append.1 h with h | h
      · exact .inl (List.mem_of_mem_take h)
      · exact .inr (List.mem_singleton.1 h)
    · exact .inl (List.mem_of_mem_drop h)
  unfold leafPut at h
  simp only at h
  split at h
  · split at h
    · exact (mem_withC h).imp id List.mem_singleton.1
    · exact h2 h
  · exact h2 h
theorem leafPut_len (l : List C) (key val : ByteArray) : (leafPut l key val).length ≤ l.length + 1 := by
  have h2 : (l.take (idxN l key) ++ [C.mk key val [] []] ++ l.drop (idxN l key)).length ≤ l.length + 1 := by
    simp only [List.length_append, List.length_take, List.length_drop, List.length_cons, List.length_nil]; omega
  unfold leafPut
  simp only
  split
  · rename_i c hc
    split
    · have := withC_len (m := [C.mk key val [] []]) (List.getElem?_eq_some_iff.1 hc).1
      simp only [List.length_cons, List.length_nil] at this; omega
    · exact h2
  · exact h2
end Go.Proofs.YtfieabidajilmaaGreat

namespace Go.Proofs.YtfieabidajilmaaGreat
open Aml Go
set_option linter.unusedVariables false
set_option linter.unusedSimpArgs false
set_option maxRecDepth 100000

/-- Key and value are short. -/
def Sh (c : C) : Prop := c.key.size ≤ 16 ∧ c.data.size ≤ 400 ∧ c.pages.length ≤ 4
/-- The same of a branch's cell: it has no pages. -/
def ShB (c : C) : Prop := c.key.size ≤ 16 ∧ c.data.size ≤ 400 ∧ c.pages.length ≤ 0
theorem ShB.sh {c : C} (h : ShB c) : Sh c := ⟨h.1, h.2.1, Nat.le_trans h.2.2 (Nat.zero_le 4)⟩
/-- A tree of this depth. -/
def Nd : Nat → N → Prop
  | 0, n => n.leaf = true ∧ ∀ c, c ∈ n.l → Sh c ∧ c.kid = []
  | d + 1, n => n.leaf = false ∧ n.l ≠ [] ∧ ∀ c, c ∈ n.l → ShB c ∧ ∃ k, c.kid = [k] ∧ Nd d k
theorem nd_ok : ∀ {d : Nat} {n : N}, Nd d n → okN n
  | 0, n, h => (okN_iff n).2 fun e => by rw [h.1] at e; cases e
  | d + 1, n, h => (okN_iff n).2 fun _ => ⟨h.2.1, fun c hc => let ⟨_, k, hk, hn⟩ := h.2.2 c hc; ⟨k, hk, nd_ok hn⟩⟩
theorem nd_sm : ∀ {d : Nat} {n : N}, Nd d n → smN n
  | 0, n, h => (smN_iff n).2 fun c hc => (smC_iff c).2 (by
      obtain ⟨h1, h2⟩ := h.2 c hc
      exact ⟨h1.1, h1.2.1, h1.2.2, fun k hk => by rw [h2] at hk; cases hk⟩)
  | d + 1, n, h => (smN_iff n).2 fun c hc => (smC_iff c).2 (by
      obtain ⟨h1, k, hk, hn⟩ := h.2.2 c hc
      exact ⟨h1.1, h1.2.1, h1.sh.2.2, fun k' hk' => by rw [hk, List.mem_singleton] at hk'; rw [hk']; exact nd_sm hn⟩)
theorem nd_sh {d : Nat} {n : N} (h : Nd d n) : ∀ c, c ∈ n.l → Sh c := fun c hc => by
  cases d with
  | zero => exact (h.2 c hc).1
  | succ d => exact (h.2.2 c hc).1.sh
/-- Some of a node's cells, not none if it is a branch. -/
theorem nd_cells {d : Nat} {n : N} (h : Nd d n) (p : Int) {l : List C} (hl : ∀ c, c ∈ l → c ∈ n.l) (hn : l ≠ []) : Nd d (.mk p n.leaf l) := by
  cases d with
  | zero => exact ⟨h.1, fun c hc => h.2 c (hl c hc)⟩
  | succ d => exact ⟨h.1, hn, fun c hc => h.2.2 c (hl c hc)⟩
theorem nd_setKey {d : Nat} {p : Int} {b : Bool} {l : List C} {key : ByteArray} (hk : key.size ≤ 16) (h : Nd d (.mk p b l)) : Nd d (.mk p b (setKey key l)) := by
  cases l with
  | nil => exact h
  | cons a l =>
    cases d with
    | zero =>
      refine ⟨h.1, fun c hc => ?_⟩
      rcases List.mem_cons.1 hc with rfl | hc
      · have := h.2 a List.mem_cons_self
        exact ⟨⟨hk, this.1.2⟩, this.2⟩
      · exact h.2 c (List.mem_cons_of_mem _ hc)
    | succ d =>
      refine ⟨h.1, by simp [setKey, N.l], fun c hc => ?_⟩
      rcases List.mem_cons.1 hc with rfl | hc
      · have := h.2.2 a List.mem_cons_self
        exact ⟨⟨hk, this.1.2⟩, this.2⟩
      · exact h.2.2 c (List.mem_cons_of_mem _ hc)
theorem cell_ok {d : Nat} {key : ByteArray} {k : N} (hk : key.size ≤ 16) (h : Nd d k) : ShB (cellN key k) ∧ ∃ k', (cellN key k).kid = [k'] ∧ Nd d k' :=
  ⟨⟨hk, by show noS.size ≤ 400; rw [noS_size]; omega, by simp [cellN, C.pages]⟩, k, rfl, h⟩
theorem keyOf_size {l : List C} (h : ∀ c, c ∈ l → Sh c) : (keyOf l).size ≤ 16 := by
  cases l with
  | nil => show noS.size ≤ 16; rw [noS_size]; omega
  | cons a l => exact (h a List.mem_cons_self).1
theorem withC_ne {l m : List C} {i : Nat} (h : 1 < l.length ∨ m ≠ []) (hi : i < l.length) : withC l i m ≠ [] := by
  intro e
  have := withC_len (m := m) hi
  rw [e] at this
  rcases h with h | h
  · simp at this; omega
  · have := List.length_pos_iff.2 h; simp at *; omega
theorem nd_parted {d : Nat} {n kid : N} {k : Nat} {key : ByteArray} (hn : Nd (d + 1) n) (hk : Nd d kid) (hkey : key.size ≤ 16) (hlt : k < n.l.length) : Nd (d + 1) (partedN n kid k key).1 := by
  unfold partedN
  simp only
  split
  · exact hn
  · rename_i h0
    obtain ⟨_, h1, h2⟩ := hn
    have ha := atR_lt _ h0
    have hl : (sizesN kid).length = kid.l.length := by unfold sizesN; rw [List.length_map]
    rw [hl] at ha
    generalize atR (sizesN kid) = i at *
    refine ⟨rfl, withC_ne (.inr (by simp)) hlt, fun c hc => ?_⟩
    rcases mem_withC hc with hc | hc
    · exact h2 c hc
    · rcases List.mem_cons.1 hc with rfl | hc
      · exact cell_ok hkey (nd_cells hk _ (fun c hc => List.mem_of_mem_take hc) fun e => by have := congrArg List.length e; rw [List.length_take, List.length_nil] at this; omega)
      · rw [List.mem_singleton] at hc
        subst hc
        have hr : Nd d (.mk 0 kid.leaf (kid.l.drop i)) := nd_cells hk _ (fun c hc => List.mem_of_mem_drop hc) fun e => by have := congrArg List.length e; rw [List.length_drop, List.length_nil] at this; omega
        refine cell_ok (keyOf_size fun c hc => nd_sh hk c (List.mem_of_mem_drop hc)) ?_
        split
        · exact hr
        · exact nd_setKey (by rw [noS_size]; omega) hr
theorem nd_kid {d : Nat} {n : N} (hn : Nd (d + 1) n) {k : Nat} (hk : k < n.l.length) : ∃ c kid, n.l[k]? = some c ∧ cellAt n.l k = c ∧ kid0 c = kid ∧ c.kid = [kid] ∧ c.key.size ≤ 16 ∧ Nd d kid := by
  obtain ⟨c, hc⟩ : ∃ c, n.l[k]? = some c := ⟨_, List.getElem?_eq_getElem hk⟩
  obtain ⟨q1, kid, hkid, hnd⟩ := hn.2.2 c (List.mem_of_getElem? hc)
  exact ⟨c, kid, hc, cellAt_eq hc, kid0_eq hkid, hkid, q1.1, hnd⟩
theorem nd_leaf_eq : ∀ {d : Nat} {a b : N}, Nd d a → Nd d b → a.leaf = b.leaf
  | 0, a, b, ha, hb => ha.1.trans hb.1.symm
  | d + 1, a, b, ha, hb => ha.1.trans hb.1.symm
theorem nd_both {d : Nat} {a b : N} {key : ByteArray} (ha : Nd d a) (hb : Nd d b) (hk : key.size ≤ 16) : Nd d (bothN a b key) := by
  have hl := nd_leaf_eq ha hb
  unfold bothN
  by_cases hbl : b.l = []
  · have : (if b.leaf then b.l else setKey key b.l) = [] := by rw [hbl]; split <;> rfl
    rw [this, List.append_nil]
    cases d with
    | zero => exact ha
    | succ d => exact absurd hbl hb.2.1
  · have hb' : Nd d (.mk 0 a.leaf (if b.leaf then b.l else setKey key b.l)) := by
      have : Nd d (.mk 0 a.leaf b.l) := hl ▸ nd_cells hb 0 (fun _ h => h) hbl
      split
      · exact this
      · exact nd_setKey hk this
    generalize (if b.leaf then b.l else setKey key b.l) = r at *
    cases d with
    | zero =>
      refine ⟨ha.1, fun c hc => ?_⟩
      rcases List.mem_append.1 hc with hc | hc
      · exact ha.2 c hc
      · exact hb'.2 c hc
    | succ d =>
      refine ⟨ha.1, fun e => ha.2.1 (List.append_eq_nil_iff.1 e).1, fun c hc => ?_⟩
      rcases List.mem_append.1 hc with hc | hc
      · exact ha.2.2 c hc
      · exact hb'.2.2 c hc
theorem nd_with {d : Nat} {n : N} (hn : Nd (d + 1) n) {i : Nat} (hi : i < n.l.length) (p : Int) {m : List C} (h1 : 1 < n.l.length ∨ m ≠ []) (hm : ∀ c, c ∈ m → ShB c ∧ ∃ k, c.kid = [k] ∧ Nd d k) : Nd (d + 1) (.mk p false (withC n.l i m)) :=
  ⟨rfl, withC_ne h1 hi, fun c hc => (mem_withC hc).elim (hn.2.2 c) (hm c)⟩
theorem nd_mend {d : Nat} {n : N} {k : Nat} (hn : Nd (d + 1) n) (hlt : k < n.l.length) : Nd (d + 1) (mendN n k) := by
  obtain ⟨c, kid, hc, e1, e2, hkid, hkey, hnd⟩ := nd_kid hn hlt
  unfold mendN
  simp only [e1, e2]
  split
  · exact nd_parted hn hnd hkey hlt
  · split
    · exact hn
    · rename_i h1 h2
      simp only [Bool.or_eq_true, decide_eq_true_eq, not_or] at h2
      have hj : (if k + 1 < n.l.length then k else k - 1) + 1 < n.l.length := by split <;> omega
      generalize (if k + 1 < n.l.length then k else k - 1) = j at *
      obtain ⟨c0, k0, hc0, f1, f2, hk0, hkey0, hnd0⟩ := nd_kid hn (k := j) (by omega)
      obtain ⟨c1, k1, hc1, g1, g2, hk1, hkey1, hnd1⟩ := nd_kid hn hj
      rw [f1, f2, g1, g2]
      have hbo := nd_both hnd0 hnd1 hkey1
      have hw1 : Nd (d + 1) (.mk 0 false (withC n.l (j + 1) [])) := nd_with hn hj 0 (.inl (by omega)) (fun c hc => by cases hc)
      have hwl := withC_len (m := []) hj
      simp only [List.length_nil] at hwl
      have hw2 := nd_with hw1 (i := j) (by simp only [N.l_mk]; omega) 0 (m := [cellN c0.key (bothN k0 k1 c1.key)]) (.inr (by simp)) fun c hc => by
        rw [List.mem_singleton] at hc; subst hc; exact cell_ok hkey0 hbo
      refine nd_parted hw2 hbo hkey0 ?_
      have := withC_len (l := withC n.l (j + 1) []) (i := j) (m := [cellN c0.key (bothN k0 k1 c1.key)]) (by omega)
      simp only [N.l_mk, List.length_cons, List.length_nil] at this ⊢; omega
theorem nd_put {key val : ByteArray} (hk : key.size ≤ 16) (hv : val.size ≤ 400) : ∀ {d : Nat} {n : N}, Nd d n → Nd d (putN key val n)
  | 0, n, h => by
    rw [putN_leaf _ _ _ h.1]
    refine ⟨rfl, fun c hc => ?_⟩
    rcases leafPut_mem hc with hc | rfl
    · exact h.2 c hc
    · exact ⟨⟨hk, hv, by simp [C.pages]⟩, rfl⟩
  | d + 1, n, h => by
    have hw := way_lt h.2.1 key
    obtain ⟨c, kid, hc, _, _, hkid, hkey, hnd⟩ := nd_kid h hw
    rw [putN_br _ _ _ h.1 hc hkid]
    have h1 := nd_with h hw 0 (m := [cellN c.key (putN key val kid)]) (.inr (by simp)) fun c' hc' => by
      rw [List.mem_singleton] at hc'; subst hc'; exact cell_ok hkey (nd_put hk hv hnd)
    have := withC_len (m := [cellN c.key (putN key val kid)]) hw
    exact nd_mend h1 (by simp only [N.l_mk, List.length_cons, List.length_nil] at *; omega)
theorem nd_top : ∀ {d : Nat} {n : N}, Nd d n → ∃ d', d' ≤ d + 1 ∧ Nd d' (topN n) := by
  have one : ∀ {d : Nat} {n : N}, Nd d n → ∃ d', d' ≤ d + 1 ∧ Nd d' (if atR (sizesN n) = 0 then n else mendN (.mk 0 false [cellN noS n]) 0) := fun {d n} h => by
    split
    · exact ⟨d, by omega, h⟩
    · refine ⟨d + 1, Nat.le_refl _, nd_mend ⟨rfl, by simp [N.l], fun c hc => ?_⟩ (by simp [N.l])⟩
      simp only [N.l_mk, List.mem_singleton] at hc
      subst hc
      exact cell_ok (by rw [noS_size]; omega) h
  intro d
  induction d with
  | zero => intro n h; rw [topN_else _ (.inl h.1)]; exact one h
  | succ d ih =>
    intro n h
    by_cases h1 : n.l.length = 1
    · obtain ⟨c, hc⟩ := List.length_eq_one_iff.1 h1
      obtain ⟨_, k, hk, hn⟩ := h.2.2 c (by rw [hc]; exact List.mem_singleton_self c)
      rw [topN_one n h.1 hc hk]
      obtain ⟨d', h2, h3⟩ := ih hn
      exact ⟨d', by omega, h3⟩
    · rw [topN_else _ (.inr h1)]; exact one h
end Go.Proofs.YtfieabidajilmaaGreat

namespace Go.Proofs.YtfieabidajilmaaGreat
open Aml Go
set_option linter.unusedVariables false
set_option linter.unusedSimpArgs false
set_option maxRecDepth 100000

def tot (l : List C) : Nat := (l.map totC).sum
theorem tot_app (a b : List C) : tot (a ++ b) = tot a + tot b := by unfold tot; rw [List.map_append, List.sum_append]
theorem tot_cons (c : C) (l : List C) : tot (c :: l) = totC c + tot l := by unfold tot; rw [List.map_cons, List.sum_cons]
theorem tot_nil : tot [] = 0 := rfl
theorem totN_tot (n : N) : totN n = tot n.l := totN_eq n
theorem totN_mk (p : Int) (b : Bool) (l : List C) : totN (.mk p b l) = tot l := by rw [totN_tot]; rfl
theorem tot_cell (key : ByteArray) (k : N) : totC (cellN key k) = 1 + totN k := by rw [totC_eq]; simp [cellN, C.kid]
theorem totC_kid {c : C} {k : N} (h : c.kid = [k]) : totC c = 1 + totN k := by rw [totC_eq, h]; simp
theorem tot_split (l : List C) (i : Nat) : tot (l.take i) + tot (l.drop i) = tot l := by rw [← tot_app, List.take_append_drop]
theorem tot_withC {l m : List C} {i : Nat} {c : C} (h : l[i]? = some c) : tot (withC l i m) + totC c = tot l + tot m := by
  have h1 := tot_split l i
  have h2 : l.drop i = c :: l.drop (i + 1) := by
    obtain ⟨hlt, rfl⟩ := List.getElem?_eq_some_iff.1 h
    exact List.drop_eq_getElem_cons hlt
  rw [h2, tot_cons] at h1
  unfold withC
  rw [tot_app, tot_app]
  omega
theorem tot_setKey (key : ByteArray) (l : List C) : tot (setKey key l) = tot l := by
  cases l with
  | nil => rfl
  | cons a l => simp only [setKey, tot_cons, totC_eq, C.kid_mk]
theorem tot_parted {n kid : N} {k : Nat} {c : C} (hc : n.l[k]? = some c) (hk : c.kid = [kid]) (key : ByteArray) : totN (partedN n kid k key).1 ≤ totN n + 1 := by
  unfold partedN
  simp only
  split
  · simp
  · have h1 := tot_split kid.l (atR (sizesN kid))
    have h2 := tot_withC (m := [cellN key (.mk 0 kid.leaf (kid.l.take (atR (sizesN kid)))), cellN (keyOf (kid.l.drop (atR (sizesN kid)))) (.mk 0 kid.leaf (if kid.leaf then (kid.l.drop (atR (sizesN kid))) else setKey noS (kid.l.drop (atR (sizesN kid)))))]) hc
    have h3 : tot (if kid.leaf then (kid.l.drop (atR (sizesN kid))) else setKey noS (kid.l.drop (atR (sizesN kid)))) = tot (kid.l.drop (atR (sizesN kid))) := by
      split
      · rfl
      · exact tot_setKey _ _
    rw [tot_cons, tot_cons, tot_nil, tot_cell, tot_cell, totN_mk, totN_mk, totC_kid hk, totN_tot kid, h3] at h2
    rw [totN_mk, totN_tot n]
    omega
theorem withC_at {l m : List C} {i : Nat} {c : C} (hi : i < l.length) : (withC l i (c :: m))[i]? = some c := by
  unfold withC
  rw [List.append_assoc, List.getElem?_append_right (by rw [List.length_take]; omega), List.length_take, show i - min i l.length = 0 by omega]
  rfl
theorem tot_mend {d : Nat} {n : N} {k : Nat} (hn : Nd (d + 1) n) (hlt : k < n.l.length) : totN (mendN n k) ≤ totN n + 1 := by
  obtain ⟨c, kid, hc, e1, e2, hkid, hkey, hnd⟩ := nd_kid hn hlt
  unfold mendN
  simp only [e1, e2]
  split
  · exact tot_parted hc hkid _
  · split
    · omega
    · rename_i h1 h2
      simp only [Bool.or_eq_true, decide_eq_true_eq, not_or] at h2
      have hj : (if k + 1 < n.l.length then k else k - 1) + 1 < n.l.length := by split <;> omega
      generalize (if k + 1 < n.l.length then k else k - 1) = j at *
      obtain ⟨c0, k0, hc0, f1, f2, hk0, hkey0, hnd0⟩ := nd_kid hn (k := j) (by omega)
      obtain ⟨c1, k1, hc1, g1, g2, hk1, hkey1, hnd1⟩ := nd_kid hn hj
      rw [f1, f2, g1, g2]
      have hwl := withC_len (m := []) hj
      simp only [List.length_nil] at hwl
      have hj2 : j < (withC n.l (j + 1) []).length := by omega
      refine Nat.le_trans (tot_parted (c := cellN c0.key (bothN k0 k1 c1.key)) (withC_at hj2) rfl _) ?_
      have t1 := tot_withC (m := []) hc1
      have hat : (withC n.l (j + 1) [])[j]? = some c0 := by
        unfold withC
        rw [List.append_assoc, List.getElem?_append_left (by rw [List.length_take]; omega), List.getElem?_take, if_pos (by omega)]
        exact hc0
      have t2 := tot_withC (m := [cellN c0.key (bothN k0 k1 c1.key)]) hat
      have t3 : totN (bothN k0 k1 c1.key) = totN k0 + totN k1 := by
        unfold bothN
        rw [totN_tot, N.l_mk, tot_app, totN_tot k0, totN_tot k1]
        split
        · rfl
        · rw [tot_setKey]
      rw [tot_cons, tot_nil, tot_cell, t3, totC_kid hk0] at t2
      rw [tot_nil, totC_kid hk1] at t1
      rw [totN_tot, totN_tot n, N.l_mk]
      omega
theorem tot_leafPut {l : List C} (h : ∀ c, c ∈ l → c.kid = []) (key val : ByteArray) : tot (leafPut l key val) ≤ tot l + 1 := by
  have ht : ∀ l : List C, (∀ c, c ∈ l → c.kid = []) → tot l = l.length := by
    intro l
    induction l with
    | nil => intro _; rfl
    | cons a l ih =>
      intro h
      rw [tot_cons, totC_eq, h a List.mem_cons_self, ih fun c hc => h c (List.mem_cons_of_mem _ hc), List.length_cons]
      simp; omega
  rw [ht l h, ht _ fun c hc => (leafPut_mem hc).elim (h c) fun e => by rw [e]; rfl]
  exact leafPut_len l key val
theorem tot_put {key val : ByteArray} (hk : key.size ≤ 16) (hv : val.size ≤ 400) : ∀ {d : Nat} {n : N}, Nd d n → totN (putN key val n) ≤ totN n + 1 + d
  | 0, n, h => by
    rw [putN_leaf _ _ _ h.1, totN_tot, totN_tot n, N.l_mk]
    have := tot_leafPut (fun c hc => (h.2 c hc).2) key val
    omega
  | d + 1, n, h => by
    have hw := way_lt h.2.1 key
    obtain ⟨c, kid, hc, _, _, hkid, hkey, hnd⟩ := nd_kid h hw
    rw [putN_br _ _ _ h.1 hc hkid]
    have h1 := nd_with h hw 0 (m := [cellN c.key (putN key val kid)]) (.inr (by simp)) fun c' hc' => by
      rw [List.mem_singleton] at hc'; subst hc'; exact cell_ok hkey (nd_put hk hv hnd)
    have h2 := withC_len (m := [cellN c.key (putN key val kid)]) hw
    have h3 := tot_mend h1 (k := way n.l key) (by simp only [N.l_mk, List.length_cons, List.length_nil] at *; omega)
    have h4 := tot_withC (m := [cellN c.key (putN key val kid)]) hc
    have h5 := tot_put hk hv hnd
    rw [tot_cons, tot_nil, tot_cell, totC_kid hkid] at h4
    rw [totN_tot (.mk 0 false _), N.l_mk] at h3
    rw [totN_tot n]
    omega
theorem tot_top {d : Nat} : ∀ {n : N}, Nd d n → totN (topN n) ≤ totN n + 2 := by
  have one : ∀ {d : Nat} {n : N}, Nd d n → totN (if atR (sizesN n) = 0 then n else mendN (.mk 0 false [cellN noS n]) 0) ≤ totN n + 2 := fun {d n} h => by
    split
    · omega
    · have := tot_mend (d := d) (n := .mk 0 false [cellN noS n]) (k := 0) ⟨rfl, by simp [N.l], fun c hc => by
        simp only [N.l_mk, List.mem_singleton] at hc
        subst hc
        exact cell_ok (by rw [noS_size]; omega) h⟩ (by simp [N.l])
      rw [totN_tot (.mk 0 false _), N.l_mk, tot_cons, tot_nil, tot_cell] at this
      omega
  induction d with
  | zero => intro n h; rw [topN_else _ (.inl h.1)]; exact one h
  | succ d ih =>
    intro n h
    by_cases h1 : n.l.length = 1
    · obtain ⟨c, hc⟩ := List.length_eq_one_iff.1 h1
      obtain ⟨_, k, hk, hn⟩ := h.2.2 c (by rw [hc]; exact List.mem_singleton_self c)
      rw [topN_one n h.1 hc hk]
      have := ih hn
      have := tot_kid (c := c) (k := k) (n := n) (by rw [hc]; exact List.mem_singleton_self c) hk
      omega
    · rw [topN_else _ (.inr h1)]; exact one h
end Go.Proofs.YtfieabidajilmaaGreat

namespace Go.Proofs.YtfieabidajilmaaGreat
open Aml Go
set_option linter.unusedVariables false
set_option linter.unusedSimpArgs false
set_option maxRecDepth 100000

theorem takeW_lt {α : Type} {p : α → Bool} : ∀ {l : List α} {k : Nat} {c : α}, k < (l.takeWhile p).length → l[k]? = some c → p c = true
  | [], _, _, h, _ => by simp at h
  | a :: l, k, c, h, hc => by
    rw [List.takeWhile_cons] at h
    cases hp : p a with
    | false => rw [hp] at h; simp at h
    | true =>
      rw [hp] at h
      simp only [if_true, List.length_cons] at h
      cases k with
      | zero => simp at hc; rw [← hc]; exact hp
      | succ k => exact takeW_lt (p := p) (l := l) (k := k) (by omega) (by simpa using hc)
theorem takeW_at {α : Type} {p : α → Bool} : ∀ {l : List α} {c : α}, l[(l.takeWhile p).length]? = some c → p c = false
  | [], _, h => by simp at h
  | a :: l, c, h => by
    rw [List.takeWhile_cons] at h
    cases hp : p a with
    | false => rw [hp] at h; simp at h; rw [← h]; exact hp
    | true => rw [hp] at h; simp only [if_true, List.length_cons, List.getElem?_cons_succ] at h; exact takeW_at h
theorem brOk {d : Nat} {n : N} (h : Nd (d + 1) n) (ht : totN n ≤ 524288) : BrOk n :=
  ⟨Nat.le_trans (tot_len n) ht, fun c hc => by
    obtain ⟨_, k, hk, hn⟩ := h.2.2 c hc
    have := tot_kid hc hk
    have := tot_len k
    exact ⟨k, hk, nd_sm hn, by omega⟩, fun c hc => (h.2.2 c hc).1.1⟩
set_option maxHeartbeats 4000000 in
theorem putW (w0 : W0) (key val : ByteArray) (hk : key.size ≤ 16) (hv : val.size ≤ 400) : ∀ (d : Nat) (n : N) (S : St), Nd d n → totN n + d + 8 ≤ 524288 → ACall Tryz.prog w0 87 [eN n, dS key, dS val] S (fun e S' => e = eN (putN key val n) ∧ S' = S) := by
  intro d
  induction d with
  | zero =>
    intro n S hn ht
    have hlf := hn.1
    have hl := tot_len n
    refine fnS [4] mx Tryz.func87 rfl rfl (by kernel_rfl) ?_; simp (maxDischargeDepth := 12) (maxSteps := 1000000) -implicitDefEqProofs only [Tryz.ntmps87, go_sem, Nat.reduceAdd, Nat.reduceSub, Nat.reduceMul, Nat.reduceLeDiff, Nat.reduceEqDiff, Nat.reduceGT, Nat.reduceBEq, reduceCtorEq, ↓reduceIte, Int.reduceToNat, Int.reduceLE, Int.reduceLT, Int.reduceNe, Int.reduceEq,  hlf]
    intro b b1 b2
    rw [putN_leaf _ _ _ hlf]
    have hidx := idx_le n.l key
    refine wkBoxK b2.n [dS key, dS val, .sl 1 false [], .sl 3 false []] (q_lk_same _ _ _) (by simp (maxDischargeDepth := 12) (maxSteps := 1000000) -implicitDefEqProofs only [go_sem, Nat.reduceAdd, Nat.reduceSub, Nat.reduceMul, Nat.reduceLeDiff, Nat.reduceEqDiff, Nat.reduceGT, Nat.reduceBEq, reduceCtorEq, ↓reduceIte, Int.reduceToNat, Int.reduceLE, Int.reduceLT, Int.reduceNe, Int.reduceEq]) ?_
    simp (maxDischargeDepth := 12) (maxSteps := 1000000) -implicitDefEqProofs only [go_sem, Nat.reduceAdd, Nat.reduceSub, Nat.reduceMul, Nat.reduceLeDiff, Nat.reduceEqDiff, Nat.reduceGT, Nat.reduceBEq, reduceCtorEq, ↓reduceIte, Int.reduceToNat, Int.reduceLE, Int.reduceLT, Int.reduceNe, Int.reduceEq]
    refine loopN [] (idxN n.l key) [1, 3, 6, 9, 10] (fun k => [(10, dI k)]) (fun _ => ⟨(b2.n, [dS key, dS val, .sl 1 false [], .sl 3 false []]) :: (b1.n, [dI 0, dB false, .sl 0 true []]) :: (b.n, [dI n.page, dB true, .sl 4 false (n.l.map dC)]) :: S.box, S.acc⟩) (fun _ => True) mx (by kernel_rfl) ?_ ?_
    · simp (maxDischargeDepth := 12) (maxSteps := 1000000) -implicitDefEqProofs only [go_sem, Nat.reduceAdd, Nat.reduceSub, Nat.reduceMul, Nat.reduceLeDiff, Nat.reduceEqDiff, Nat.reduceGT, Nat.reduceBEq, reduceCtorEq, ↓reduceIte, Int.reduceToNat, Int.reduceLE, Int.reduceLT, Int.reduceNe, Int.reduceEq]
    · intro k hk' _
      have new : ∀ m : List C, m = leafPut n.l key val → m = n.l.take (idxN n.l key) ++ [.mk key val [] []] ++ n.l.drop (idxN n.l key) → Wk (.agg [dI 0, dB true, .sl 4 false (List.map dC (n.l.take (idxN n.l key)) ++ [eC (.mk key val [] [])] ++ List.map dC (n.l.drop (idxN n.l key)))]) (.agg [dI 0, dB true, .sl 4 false (List.map dC (leafPut n.l key val))]) := fun m h1 h2 => by
        rw [← h1, h2, List.map_append, List.map_append, List.map_cons, List.map_nil, dC_eq]; exact .refl _
      simp (maxDischargeDepth := 12) (maxSteps := 1000000) -implicitDefEqProofs only [go_sem, Nat.reduceAdd, Nat.reduceSub, Nat.reduceMul, Nat.reduceLeDiff, Nat.reduceEqDiff, Nat.reduceGT, Nat.reduceBEq, reduceCtorEq, ↓reduceIte, Int.reduceToNat, Int.reduceLE, Int.reduceLT, Int.reduceNe, Int.reduceEq]
      have e2 : k < n.l.length → IntKind.i64.wrap ((k : Int) + 1) = ((k + 1 : Nat) : Int) := fun _ => by rw [w64 (by omega) (by omega)]; omega
      refine ⟨fun hlt => ⟨hlt, fun a ha => ⟨fun hy => ?_, fun hno => ?_⟩⟩, fun hge => ?_⟩
      · have : k ≠ idxN n.l key := by
          rintro rfl
          have := takeW_at (p := fun c : C => ltS c.key key) ha
          simp only [hy] at this; cases this
        exact ⟨by omega, e2 hlt⟩
      · have hki : k = idxN n.l key := by
          rcases Nat.lt_or_ge k (idxN n.l key) with h | h
          · have := takeW_lt (p := fun c : C => ltS c.key key) h ha
            simp only [hno] at this; cases this
          · omega
        subst hki
        have hmin : min (idxN n.l key) n.l.length = idxN n.l key := by omega
        refine ⟨fun _ => ⟨hlt, fun a4 ha4 => ⟨fun heq => ?_, fun hne => ?_⟩⟩, fun h => absurd hlt h⟩
        · cases getE ha ha4
          refine use1 (withW w0 n.l [.mk key val [] []] _ _ (by omega) (by simp) hlt) ?_ (by simp (maxDischargeDepth := 12) (maxSteps := 1000000) -implicitDefEqProofs only [go_sem, Nat.reduceAdd, Nat.reduceSub, Nat.reduceMul, Nat.reduceLeDiff, Nat.reduceEqDiff, Nat.reduceGT, Nat.reduceBEq, reduceCtorEq, ↓reduceIte, Int.reduceToNat, Int.reduceLE, Int.reduceLT, Int.reduceNe, Int.reduceEq])
          simp (maxDischargeDepth := 12) (maxSteps := 1000000) -implicitDefEqProofs only [go_sem, Nat.reduceAdd, Nat.reduceSub, Nat.reduceMul, Nat.reduceLeDiff, Nat.reduceEqDiff, Nat.reduceGT, Nat.reduceBEq, reduceCtorEq, ↓reduceIte, Int.reduceToNat, Int.reduceLE, Int.reduceLT, Int.reduceNe, Int.reduceEq]
          have : leafPut n.l key val = withC n.l (idxN n.l key) [.mk key val [] []] := by unfold leafPut; simp only [ha]; rw [if_pos heq]
          rw [this]
          exact .refl _
        · cases getE ha ha4
          rw [hmin]
          exact ⟨by omega, by omega, by unfold maxLen; omega, fun lb => ⟨by omega, by unfold maxLen; omega, by omega, by omega, by unfold maxLen; omega, new _ rfl (by unfold leafPut; simp only [ha]; rw [if_neg (by rw [hne]; simp)])⟩⟩
      · have hki : k = idxN n.l key := by omega
        subst hki
        have hmin : min (idxN n.l key) n.l.length = idxN n.l key := by omega
        have hnone : n.l[idxN n.l key]? = none := List.getElem?_eq_none (by omega)
        refine ⟨fun h => absurd h hge, fun _ => ?_⟩
        rw [hmin]
        exact ⟨by omega, by omega, by unfold maxLen; omega, fun lb => ⟨by omega, by unfold maxLen; omega, by omega, by omega, by unfold maxLen; omega, new _ rfl (by unfold leafPut; simp only [hnone])⟩⟩
  | succ d ih =>
    intro n S hn ht
    have hlf := hn.1
    have hl := tot_len n
    refine fnS [4] mx Tryz.func87 rfl rfl (by kernel_rfl) ?_; simp (maxDischargeDepth := 12) (maxSteps := 1000000) -implicitDefEqProofs only [Tryz.ntmps87, go_sem, Nat.reduceAdd, Nat.reduceSub, Nat.reduceMul, Nat.reduceLeDiff, Nat.reduceEqDiff, Nat.reduceGT, Nat.reduceBEq, reduceCtorEq, ↓reduceIte, Int.reduceToNat, Int.reduceLE, Int.reduceLT, Int.reduceNe, Int.reduceEq,  hlf]
    intro b b1
    refine use1 (wayW w0 n key _ (by omega) hn.2.1) ?_ (by simp (maxDischargeDepth := 12) (maxSteps := 1000000) -implicitDefEqProofs only [go_sem, Nat.reduceAdd, Nat.reduceSub, Nat.reduceMul, Nat.reduceLeDiff, Nat.reduceEqDiff, Nat.reduceGT, Nat.reduceBEq, reduceCtorEq, ↓reduceIte, Int.reduceToNat, Int.reduceLE, Int.reduceLT, Int.reduceNe, Int.reduceEq, hlf])
    simp (maxDischargeDepth := 12) (maxSteps := 1000000) -implicitDefEqProofs only [go_sem, Nat.reduceAdd, Nat.reduceSub, Nat.reduceMul, Nat.reduceLeDiff, Nat.reduceEqDiff, Nat.reduceGT, Nat.reduceBEq, reduceCtorEq, ↓reduceIte, Int.reduceToNat, Int.reduceLE, Int.reduceLT, Int.reduceNe, Int.reduceEq]
    have hw := way_lt hn.2.1 key
    obtain ⟨c, kid, hc, _, _, hkid, hkey, hnd⟩ := nd_kid hn hw
    have htk := tot_kid (List.mem_of_getElem? hc) hkid
    have hlen := List.length_pos_iff.2 hn.2.1
    refine ⟨hw, fun a ha => ?_⟩
    cases getE hc ha
    rw [hkid]
    refine ⟨by simp, fun a2 ha2 => ?_⟩
    obtain rfl : kid = a2 := by simpa using ha2
    refine use1 (ih kid _ hnd (by omega)) ?_
    simp (maxDischargeDepth := 12) (maxSteps := 1000000) -implicitDefEqProofs only [go_sem, Nat.reduceAdd, Nat.reduceSub, Nat.reduceMul, Nat.reduceLeDiff, Nat.reduceEqDiff, Nat.reduceGT, Nat.reduceBEq, reduceCtorEq, ↓reduceIte, Int.reduceToNat, Int.reduceLE, Int.reduceLT, Int.reduceNe, Int.reduceEq]
    intro b2
    refine lexK mx (by kernel_rfl) ?_
    simp (maxDischargeDepth := 12) (maxSteps := 1000000) -implicitDefEqProofs only [go_sem, Nat.reduceAdd, Nat.reduceSub, Nat.reduceMul, Nat.reduceLeDiff, Nat.reduceEqDiff, Nat.reduceGT, Nat.reduceBEq, reduceCtorEq, ↓reduceIte, Int.reduceToNat, Int.reduceLE, Int.reduceLT, Int.reduceNe, Int.reduceEq]
    refine ⟨hw, fun a ha => ?_⟩
    cases getE hc ha
    refine useX (fun B hB => withW w0 n.l [cellN c.key (putN key val kid)] (way n.l key) _ (by omega) (by simp) hw) ?_ (by simp (maxDischargeDepth := 12) (maxSteps := 1000000) -implicitDefEqProofs only [go_sem, Nat.reduceAdd, Nat.reduceSub, Nat.reduceMul, Nat.reduceLeDiff, Nat.reduceEqDiff, Nat.reduceGT, Nat.reduceBEq, reduceCtorEq, ↓reduceIte, Int.reduceToNat, Int.reduceLE, Int.reduceLT, Int.reduceNe, Int.reduceEq, cellN, noS])
    simp (maxDischargeDepth := 12) (maxSteps := 1000000) -implicitDefEqProofs only [go_sem, Nat.reduceAdd, Nat.reduceSub, Nat.reduceMul, Nat.reduceLeDiff, Nat.reduceEqDiff, Nat.reduceGT, Nat.reduceBEq, reduceCtorEq, ↓reduceIte, Int.reduceToNat, Int.reduceLE, Int.reduceLT, Int.reduceNe, Int.reduceEq]
    have h1 := nd_with hn hw 0 (m := [cellN c.key (putN key val kid)]) (.inr (by simp)) fun c' hc' => by
      rw [List.mem_singleton] at hc'; subst hc'; exact cell_ok hkey (nd_put hk hv hnd)
    have h2 := withC_len (m := [cellN c.key (putN key val kid)]) hw
    have h4 := tot_withC (m := [cellN c.key (putN key val kid)]) hc
    have h5 := tot_put hk hv hnd
    rw [tot_cons, tot_nil, tot_cell, totC_kid hkid] at h4
    have h6 := totN_tot n
    refine useX (fun B hB => mendW w0 (.mk 0 false (withC n.l (way n.l key) [cellN c.key (putN key val kid)])) (way n.l key) _ (brOk h1 (by rw [totN_mk]; omega)) (by simp only [N.l_mk, List.length_cons, List.length_nil] at *; omega)) ?_
    simp (maxDischargeDepth := 12) (maxSteps := 1000000) -implicitDefEqProofs only [go_sem, Nat.reduceAdd, Nat.reduceSub, Nat.reduceMul, Nat.reduceLeDiff, Nat.reduceEqDiff, Nat.reduceGT, Nat.reduceBEq, reduceCtorEq, ↓reduceIte, Int.reduceToNat, Int.reduceLE, Int.reduceLT, Int.reduceNe, Int.reduceEq, putN_br key val n hlf hc hkid]
/-- A tree with a key's value. -/
def Put (key val : ByteArray) (n : N) : N := topN (putN key val n)
set_option maxHeartbeats 1000000 in
theorem PutW (w0 : W0) (key val : ByteArray) (hk : key.size ≤ 16) (hv : val.size ≤ 400) (d : Nat) (n : N) (S : St) (hn : Nd d n) (ht : totN n + 2 * d + 16 ≤ 524288) : ACall Tryz.prog w0 48 [eN n, dS key, dS val] S (fun e S' => e = eN (Put key val n) ∧ S' = S) := by
  have h1 := nd_put hk hv hn
  have h2 := tot_put hk hv hn
  refine fnS [] mx Tryz.func48 rfl rfl (by kernel_rfl) ?_; simp (maxDischargeDepth := 12) (maxSteps := 1000000) -implicitDefEqProofs only [Tryz.ntmps48, go_sem, Nat.reduceAdd, Nat.reduceSub, Nat.reduceMul, Nat.reduceLeDiff, Nat.reduceEqDiff, Nat.reduceGT, Nat.reduceBEq, reduceCtorEq, ↓reduceIte, Int.reduceToNat, Int.reduceLE, Int.reduceLT, Int.reduceNe, Int.reduceEq]
  intro b b1
  refine use1 (putW w0 key val hk hv d n _ hn (by omega)) ?_
  simp (maxDischargeDepth := 12) (maxSteps := 1000000) -implicitDefEqProofs only [go_sem, Nat.reduceAdd, Nat.reduceSub, Nat.reduceMul, Nat.reduceLeDiff, Nat.reduceEqDiff, Nat.reduceGT, Nat.reduceBEq, reduceCtorEq, ↓reduceIte, Int.reduceToNat, Int.reduceLE, Int.reduceLT, Int.reduceNe, Int.reduceEq]
  refine use1 (topW w0 (SizeOf.sizeOf (putN key val n) + 1) (putN key val n) _ (by omega) ⟨nd_ok h1, nd_sm h1, by omega⟩) ?_
  simp (maxDischargeDepth := 12) (maxSteps := 1000000) -implicitDefEqProofs only [go_sem, Nat.reduceAdd, Nat.reduceSub, Nat.reduceMul, Nat.reduceLeDiff, Nat.reduceEqDiff, Nat.reduceGT, Nat.reduceBEq, reduceCtorEq, ↓reduceIte, Int.reduceToNat, Int.reduceLE, Int.reduceLT, Int.reduceNe, Int.reduceEq, Put]
theorem nd_Put {key val : ByteArray} (hk : key.size ≤ 16) (hv : val.size ≤ 400) {d : Nat} {n : N} (h : Nd d n) : ∃ d', d' ≤ d + 1 ∧ Nd d' (Put key val n) ∧ totN (Put key val n) ≤ totN n + d + 3 := by
  have h1 := nd_put hk hv h
  obtain ⟨d', h2, h3⟩ := nd_top h1
  have := tot_put hk hv h
  have := tot_top h1
  exact ⟨d', h2, h3, by unfold Put; omega⟩
end Go.Proofs.YtfieabidajilmaaGreat

namespace Go.Proofs.YtfieabidajilmaaGreat
open Aml Go
set_option linter.unusedVariables false
set_option linter.unusedSimpArgs false
set_option maxRecDepth 100000

def findN (key : ByteArray) : N → Option ByteArray
  | .mk p true l => (l.find? fun c => eqS c.key key).map C.data
  | .mk p false l => match h : l[way l key]? with
    | some (.mk ck cd cp (k :: r)) => findN key k
    | _ => none
termination_by n => SizeOf.sizeOf n
decreasing_by
  have h1 := List.sizeOf_lt_of_mem (List.mem_of_getElem? h)
  simp at h1 ⊢; omega
theorem findN_leaf (key : ByteArray) (n : N) (h : n.leaf = true) : findN key n = (n.l.find? fun c => eqS c.key key).map C.data := by
  cases n with | mk p b l => simp only [N.leaf] at h; subst h; rw [findN]; rfl
theorem findN_br (key : ByteArray) (n : N) (h : n.leaf = false) {c : C} {k : N} (hc : n.l[way n.l key]? = some c) (hk : c.kid = [k]) : findN key n = findN key k := by
  cases n with | mk p b l =>
  simp only [N.leaf] at h; subst h
  cases c with | mk ck cd cp cr =>
  simp only [C.kid] at hk; subst hk
  simp only [N.l] at hc
  rw [findN]
  split
  · rename_i h1; rw [hc] at h1; cases h1; rfl
  · rename_i h1; exact absurd hc (h1 _ _ _ _ _)
def withoutN (key : ByteArray) : N → N
  | .mk p true l => .mk 0 true (l.filter fun c => !eqS c.key key)
  | .mk p false l => match h : l[way l key]? with
    | some (.mk ck cd cp (k :: r)) => mendN (.mk 0 false (l.set (way l key) (.mk ck cd cp [withoutN key k]))) (way l key)
    | _ => .mk 0 true []
termination_by n => SizeOf.sizeOf n
decreasing_by
  have h1 := List.sizeOf_lt_of_mem (List.mem_of_getElem? h)
  simp at h1 ⊢; omega
theorem withoutN_leaf (key : ByteArray) (n : N) (h : n.leaf = true) : withoutN key n = .mk 0 true (n.l.filter fun c => !eqS c.key key) := by
  cases n with | mk p b l => simp only [N.leaf] at h; subst h; rw [withoutN]; rfl
theorem withoutN_br (key : ByteArray) (n : N) (h : n.leaf = false) {c : C} {k : N} (hc : n.l[way n.l key]? = some c) (hk : c.kid = [k]) : withoutN key n = mendN (.mk 0 false (n.l.set (way n.l key) (.mk c.key c.data c.pages [withoutN key k]))) (way n.l key) := by
  cases n with | mk p b l =>
  simp only [N.leaf] at h; subst h
  cases c with | mk ck cd cp cr =>
  simp only [C.kid] at hk; subst hk
  simp only [N.l] at hc ⊢
  rw [withoutN]
  split
  · rename_i h1; rw [hc] at h1; cases h1; rfl
  · rename_i h1; exact absurd hc (h1 _ _ _ _ _)
theorem find_yes {α : Type} {p : α → Bool} : ∀ {l : List α} {k : Nat} {a : α}, (l.take k).find? p = none → l[k]? = some a → p a = true → l.find? p = some a
  | [], _, _, _, h, _ => by simp at h
  | b :: l, 0, a, _, h, hp => by simp at h; subst h; rw [List.find?_cons, hp]
  | b :: l, k + 1, a, hn, h, hp => by
    rw [List.take_succ_cons, List.find?_cons] at hn
    rw [List.find?_cons]
    cases hb : p b with
    | true => rw [hb] at hn; cases hn
    | false => rw [hb] at hn; exact find_yes hn (by simpa using h) hp
theorem find_no {α : Type} {p : α → Bool} {l : List α} {k : Nat} {a : α} (hn : (l.take k).find? p = none) (h : l[k]? = some a) (hp : p a = false) : (l.take (k + 1)).find? p = none := by
  rw [List.take_add_one, h, Option.toList_some, List.find?_append, hn, Option.none_or, List.find?_cons, hp]; rfl
set_option maxHeartbeats 4000000 in
theorem findW (w0 : W0) (key : ByteArray) : ∀ (d : Nat) (n : N) (S : St), Nd d n → totN n ≤ 524288 → ACall Tryz.prog w0 57 [eN n, dS key] S (fun e S' => e = .tup [dS ((findN key n).getD noS), dB (findN key n).isSome] ∧ S' = S) := by
  intro d
  induction d with
  | zero =>
    intro n S hn ht
    have hlf := hn.1
    have hl := tot_len n
    refine fnS [2] mx Tryz.func57 rfl rfl (by kernel_rfl) ?_; simp (maxDischargeDepth := 12) (maxSteps := 1000000) -implicitDefEqProofs only [Tryz.ntmps57, go_sem, Nat.reduceAdd, Nat.reduceSub, Nat.reduceMul, Nat.reduceLeDiff, Nat.reduceEqDiff, Nat.reduceGT, Nat.reduceBEq, reduceCtorEq, ↓reduceIte, Int.reduceToNat, Int.reduceLE, Int.reduceLT, Int.reduceNe, Int.reduceEq,  hlf]
    rw [findN_leaf _ _ hlf]
    intro b
    refine loopN [] n.l.length [1, 2, 6] (fun k => [(6, dI k)]) (fun _ => ⟨(b.n, [dI n.page, dB true, .sl 4 false (n.l.map dC)]) :: S.box, S.acc⟩) (fun k => (n.l.take k).find? (fun c => eqS c.key key) = none) mx (by kernel_rfl) ?_ ?_
    · simp (maxDischargeDepth := 12) (maxSteps := 1000000) -implicitDefEqProofs only [go_sem, Nat.reduceAdd, Nat.reduceSub, Nat.reduceMul, Nat.reduceLeDiff, Nat.reduceEqDiff, Nat.reduceGT, Nat.reduceBEq, reduceCtorEq, ↓reduceIte, Int.reduceToNat, Int.reduceLE, Int.reduceLT, Int.reduceNe, Int.reduceEq]
      rfl
    · intro k hk' hnone
      simp (maxDischargeDepth := 12) (maxSteps := 1000000) -implicitDefEqProofs only [go_sem, Nat.reduceAdd, Nat.reduceSub, Nat.reduceMul, Nat.reduceLeDiff, Nat.reduceEqDiff, Nat.reduceGT, Nat.reduceBEq, reduceCtorEq, ↓reduceIte, Int.reduceToNat, Int.reduceLE, Int.reduceLT, Int.reduceNe, Int.reduceEq]
      have e2 : k < n.l.length → IntKind.i64.wrap ((k : Int) + 1) = ((k + 1 : Nat) : Int) := fun _ => by rw [w64 (by omega) (by omega)]; omega
      refine ⟨fun hlt => ⟨hlt, fun a ha => ⟨fun hy => ⟨hlt, fun a2 ha2 => ?_⟩, fun hno => ⟨hlt, find_no hnone ha hno, e2 hlt⟩⟩⟩, fun hge => ?_⟩
      · cases getE ha ha2
        rw [find_yes hnone ha hy]
        exact .refl _
      · rw [List.take_of_length_le (by omega)] at hnone
        rw [hnone]
        exact .refl _
  | succ d ih =>
    intro n S hn ht
    have hlf := hn.1
    have hl := tot_len n
    refine fnS [2] mx Tryz.func57 rfl rfl (by kernel_rfl) ?_; simp (maxDischargeDepth := 12) (maxSteps := 1000000) -implicitDefEqProofs only [Tryz.ntmps57, go_sem, Nat.reduceAdd, Nat.reduceSub, Nat.reduceMul, Nat.reduceLeDiff, Nat.reduceEqDiff, Nat.reduceGT, Nat.reduceBEq, reduceCtorEq, ↓reduceIte, Int.reduceToNat, Int.reduceLE, Int.reduceLT, Int.reduceNe, Int.reduceEq,  hlf]
    have hw := way_lt hn.2.1 key
    obtain ⟨c, kid, hc, _, _, hkid, hkey, hnd⟩ := nd_kid hn hw
    have htk := tot_kid (List.mem_of_getElem? hc) hkid
    have hlen := List.length_pos_iff.2 hn.2.1
    intro b
    refine ⟨fun h1 => ?_, fun h1 => absurd h1 (by omega)⟩
    refine lexK mx (by kernel_rfl) ?_
    simp (maxDischargeDepth := 12) (maxSteps := 1000000) -implicitDefEqProofs only [go_sem, Nat.reduceAdd, Nat.reduceSub, Nat.reduceMul, Nat.reduceLeDiff, Nat.reduceEqDiff, Nat.reduceGT, Nat.reduceBEq, reduceCtorEq, ↓reduceIte, Int.reduceToNat, Int.reduceLE, Int.reduceLT, Int.reduceNe, Int.reduceEq]
    refine useX (fun B hB => wayW w0 n key _ (by omega) hn.2.1) ?_ (by simp (maxDischargeDepth := 12) (maxSteps := 1000000) -implicitDefEqProofs only [go_sem, Nat.reduceAdd, Nat.reduceSub, Nat.reduceMul, Nat.reduceLeDiff, Nat.reduceEqDiff, Nat.reduceGT, Nat.reduceBEq, reduceCtorEq, ↓reduceIte, Int.reduceToNat, Int.reduceLE, Int.reduceLT, Int.reduceNe, Int.reduceEq, hlf])
    simp (maxDischargeDepth := 12) (maxSteps := 1000000) -implicitDefEqProofs only [go_sem, Nat.reduceAdd, Nat.reduceSub, Nat.reduceMul, Nat.reduceLeDiff, Nat.reduceEqDiff, Nat.reduceGT, Nat.reduceBEq, reduceCtorEq, ↓reduceIte, Int.reduceToNat, Int.reduceLE, Int.reduceLT, Int.reduceNe, Int.reduceEq]
    refine ⟨hw, fun a ha => ?_⟩
    cases getE hc ha
    rw [hkid]
    refine ⟨by simp, fun a2 ha2 => ?_⟩
    obtain rfl : kid = a2 := by simpa using ha2
    refine useX (fun B hB => ih kid _ hnd (by omega)) ?_
    simp (maxDischargeDepth := 12) (maxSteps := 1000000) -implicitDefEqProofs only [go_sem, Nat.reduceAdd, Nat.reduceSub, Nat.reduceMul, Nat.reduceLeDiff, Nat.reduceEqDiff, Nat.reduceGT, Nat.reduceBEq, reduceCtorEq, ↓reduceIte, Int.reduceToNat, Int.reduceLE, Int.reduceLT, Int.reduceNe, Int.reduceEq, findN_br key n hlf hc hkid]
theorem WkL_set : ∀ {a b : List DV} {i : Nat} {x y : DV}, WkL a b → Wk x y → WkL (a.set i x) (b.set i y)
  | [], [], _, _, _, _, _ => trivial
  | _ :: _, _ :: _, 0, _, _, h, k => ⟨k, h.2⟩
  | _ :: _, _ :: _, i + 1, _, _, h, k => ⟨h.1, WkL_set h.2 k⟩
theorem mem_set {α : Type} : ∀ {l : List α} {i : Nat} {a b : α}, b ∈ l.set i a → b ∈ l ∨ b = a
  | [], _, _, _, h => by simp at h
  | x :: l, 0, a, b, h => by
    rw [List.set_cons_zero] at h
    rcases List.mem_cons.1 h with rfl | h
    · exact .inr rfl
    · exact .inl (List.mem_cons_of_mem _ h)
  | x :: l, i + 1, a, b, h => by
    rw [List.set_cons_succ] at h
    rcases List.mem_cons.1 h with rfl | h
    · exact .inl List.mem_cons_self
    · exact (mem_set h).imp (List.mem_cons_of_mem _) id
theorem nd_set {d : Nat} {n : N} (hn : Nd (d + 1) n) {i : Nat} (hi : i < n.l.length) {c' : C} (h : ShB c' ∧ ∃ k, c'.kid = [k] ∧ Nd d k) : Nd (d + 1) (.mk 0 false (n.l.set i c')) :=
  ⟨rfl, fun e => by have := congrArg List.length e; simp only [N.l_mk, List.length_set, List.length_nil] at this; omega, fun c hc => by
    rcases mem_set hc with hc | rfl
    · exact hn.2.2 c hc
    · exact h⟩
theorem tot_set {l : List C} {i : Nat} {c c' : C} (h : l[i]? = some c) : tot (l.set i c') + totC c = tot l + totC c' := by
  induction l generalizing i with
  | nil => simp at h
  | cons a l ih =>
    cases i with
    | zero => simp at h; subst h; rw [List.set_cons_zero, tot_cons, tot_cons]; omega
    | succ i => rw [List.set_cons_succ, tot_cons, tot_cons]; have := ih (i := i) (by simpa using h); omega
theorem nd_without {key : ByteArray} : ∀ {d : Nat} {n : N}, Nd d n → Nd d (withoutN key n)
  | 0, n, h => by
    rw [withoutN_leaf _ _ h.1]
    exact ⟨rfl, fun c hc => h.2 c (List.mem_filter.1 hc).1⟩
  | d + 1, n, h => by
    have hw := way_lt h.2.1 key
    obtain ⟨c, kid, hc, _, _, hkid, hkey, hnd⟩ := nd_kid h hw
    rw [withoutN_br _ _ h.1 hc hkid]
    refine nd_mend (nd_set h hw ⟨(h.2.2 c (List.mem_of_getElem? hc)).1, _, rfl, nd_without hnd⟩) ?_
    simp only [N.l_mk, List.length_set]; exact hw
theorem tot_filter (p : C → Bool) (l : List C) : tot (l.filter p) ≤ tot l := by
  induction l with
  | nil => exact Nat.le_refl _
  | cons a l ih =>
    rw [List.filter_cons, tot_cons]
    split
    · rw [tot_cons]; omega
    · omega
theorem tot_without {key : ByteArray} : ∀ {d : Nat} {n : N}, Nd d n → totN (withoutN key n) ≤ totN n + d
  | 0, n, h => by
    rw [withoutN_leaf _ _ h.1, totN_mk, totN_tot n]
    exact tot_filter _ _
  | d + 1, n, h => by
    have hw := way_lt h.2.1 key
    obtain ⟨c, kid, hc, _, _, hkid, hkey, hnd⟩ := nd_kid h hw
    rw [withoutN_br _ _ h.1 hc hkid]
    have h1 := nd_set h hw (c' := .mk c.key c.data c.pages [withoutN key kid]) ⟨(h.2.2 c (List.mem_of_getElem? hc)).1, _, rfl, nd_without hnd⟩
    have h2 := tot_mend h1 (k := way n.l key) (by simp only [N.l_mk, List.length_set]; exact hw)
    have h3 := tot_set hc (c' := .mk c.key c.data c.pages [withoutN key kid])
    have h4 := tot_without hnd (key := key)
    rw [totC_kid hkid, totC_kid (k := withoutN key kid) rfl] at h3
    rw [totN_mk] at h2
    rw [totN_tot n]
    omega
set_option maxHeartbeats 4000000 in
theorem withoutW (w0 : W0) (key : ByteArray) : ∀ (d : Nat) (n : N) (S : St), Nd d n → totN n + d ≤ 524288 → ACall Tryz.prog w0 97 [eN n, dS key] S (fun e S' => e = eN (withoutN key n) ∧ S' = S) := by
  intro d
  induction d with
  | zero =>
    intro n S hn ht
    have hlf := hn.1
    have hl := tot_len n
    refine fnS [] mx Tryz.func97 rfl rfl (by kernel_rfl) ?_; simp (maxDischargeDepth := 12) (maxSteps := 1000000) -implicitDefEqProofs only [Tryz.ntmps97, go_sem, Nat.reduceAdd, Nat.reduceSub, Nat.reduceMul, Nat.reduceLeDiff, Nat.reduceEqDiff, Nat.reduceGT, Nat.reduceBEq, reduceCtorEq, ↓reduceIte, Int.reduceToNat, Int.reduceLE, Int.reduceLT, Int.reduceNe, Int.reduceEq,  hlf]
    rw [withoutN_leaf _ _ hlf]
    intro b b1
    refine growK 5 4 rfl (by omega) fun lb => ?_
    refine loopN [] n.l.length [1, 2, 4, 5, 6] (fun k => [(5, .acc lb.n ((n.l.take k).filter fun c => !eqS c.key key).length), (6, dI k)]) (fun k => ⟨(b1.n, [dI 0, dB false, .sl 0 true []]) :: (b.n, [dI n.page, dB true, .sl 4 false (n.l.map dC)]) :: S.box, (lb.n, .arr 4 (((n.l.take k).filter fun c => !eqS c.key key).map dC)) :: S.acc⟩) (fun _ => True) mx (by kernel_rfl) ?_ ?_
    · simp (maxDischargeDepth := 12) (maxSteps := 1000000) -implicitDefEqProofs only [go_sem, Nat.reduceAdd, Nat.reduceSub, Nat.reduceMul, Nat.reduceLeDiff, Nat.reduceEqDiff, Nat.reduceGT, Nat.reduceBEq, reduceCtorEq, ↓reduceIte, Int.reduceToNat, Int.reduceLE, Int.reduceLT, Int.reduceNe, Int.reduceEq]
      exact ⟨.refl _, .refl _⟩
    · intro k hk' _
      simp (maxDischargeDepth := 12) (maxSteps := 1000000) -implicitDefEqProofs only [go_sem, Nat.reduceAdd, Nat.reduceSub, Nat.reduceMul, Nat.reduceLeDiff, Nat.reduceEqDiff, Nat.reduceGT, Nat.reduceBEq, reduceCtorEq, ↓reduceIte, Int.reduceToNat, Int.reduceLE, Int.reduceLT, Int.reduceNe, Int.reduceEq]
      have e2 : k < n.l.length → IntKind.i64.wrap ((k : Int) + 1) = ((k + 1 : Nat) : Int) := fun _ => by rw [w64 (by omega) (by omega)]; omega
      have hfl := List.length_filter_le (fun c : C => !eqS c.key key) (n.l.take k)
      rw [List.length_take] at hfl
      refine ⟨fun hlt => ⟨hlt, fun a ha => ⟨fun hy => ⟨hlt, ?_⟩, fun hno => ⟨hlt, fun a2 ha2 => ⟨by omega, by unfold maxLen; omega, hlt, ?_⟩⟩⟩⟩, fun hge => ?_⟩
      · rw [List.take_add_one, ha, Option.toList_some, List.filter_append, List.filter_cons, hy]
        simp only [Bool.not_true, Bool.false_eq_true, if_false, List.filter_nil, List.append_nil]
        exact ⟨⟨.refl _, e2 hlt⟩, .refl _⟩
      · cases getE ha ha2
        rw [List.take_add_one, ha, Option.toList_some, List.filter_append, List.filter_cons, hno]
        simp only [Bool.not_false, if_true, List.filter_nil, List.length_append, List.length_cons, List.length_nil, List.map_append, List.map_cons, List.map_nil, dC_eq]
        exact ⟨⟨.refl _, e2 hlt⟩, .refl _⟩
      · rw [List.take_of_length_le (by omega)]
        exact .refl _
  | succ d ih =>
    intro n S hn ht
    have hlf := hn.1
    have hl := tot_len n
    have hw := way_lt hn.2.1 key
    obtain ⟨c, kid, hc, _, _, hkid, hkey, hnd⟩ := nd_kid hn hw
    have htk := tot_kid (List.mem_of_getElem? hc) hkid
    have hlen := List.length_pos_iff.2 hn.2.1
    refine fnS [] mx Tryz.func97 rfl rfl (by kernel_rfl) ?_; simp (maxDischargeDepth := 12) (maxSteps := 1000000) -implicitDefEqProofs only [Tryz.ntmps97, go_sem, Nat.reduceAdd, Nat.reduceSub, Nat.reduceMul, Nat.reduceLeDiff, Nat.reduceEqDiff, Nat.reduceGT, Nat.reduceBEq, reduceCtorEq, ↓reduceIte, Int.reduceToNat, Int.reduceLE, Int.reduceLT, Int.reduceNe, Int.reduceEq,  hlf]
    intro b b1
    refine use1 (wayW w0 n key _ (by omega) hn.2.1) ?_ (by simp (maxDischargeDepth := 12) (maxSteps := 1000000) -implicitDefEqProofs only [go_sem, Nat.reduceAdd, Nat.reduceSub, Nat.reduceMul, Nat.reduceLeDiff, Nat.reduceEqDiff, Nat.reduceGT, Nat.reduceBEq, reduceCtorEq, ↓reduceIte, Int.reduceToNat, Int.reduceLE, Int.reduceLT, Int.reduceNe, Int.reduceEq, hlf])
    simp (maxDischargeDepth := 12) (maxSteps := 1000000) -implicitDefEqProofs only [go_sem, Nat.reduceAdd, Nat.reduceSub, Nat.reduceMul, Nat.reduceLeDiff, Nat.reduceEqDiff, Nat.reduceGT, Nat.reduceBEq, reduceCtorEq, ↓reduceIte, Int.reduceToNat, Int.reduceLE, Int.reduceLT, Int.reduceNe, Int.reduceEq]
    refine ⟨by omega, by unfold maxLen; omega, fun lb => ⟨hw, fun a ha => ?_⟩⟩
    cases getE hc ha
    rw [hkid]
    refine ⟨by simp, fun a2 ha2 => ?_⟩
    obtain rfl : kid = a2 := by simpa using ha2
    refine use1 (ih kid _ hnd (by omega)) ?_
    simp (maxDischargeDepth := 12) (maxSteps := 1000000) -implicitDefEqProofs only [go_sem, Nat.reduceAdd, Nat.reduceSub, Nat.reduceMul, Nat.reduceLeDiff, Nat.reduceEqDiff, Nat.reduceGT, Nat.reduceBEq, reduceCtorEq, ↓reduceIte, Int.reduceToNat, Int.reduceLE, Int.reduceLT, Int.reduceNe, Int.reduceEq]
    refine ⟨hw, hw, fun a ha => ?_⟩
    cases getE hc ha
    have h1 := nd_set hn hw (c' := .mk c.key c.data c.pages [withoutN key kid]) ⟨(hn.2.2 c (List.mem_of_getElem? hc)).1, _, rfl, nd_without hnd⟩
    have h2 : Wk (.sl 4 false ((n.l.map dC).set (way n.l key) (.agg [dS c.key, dS c.data, .sl 1 false (c.pages.map dI), .sl 3 true [eN (withoutN key kid)]]))) (.sl 4 false ((n.l.set (way n.l key) (.mk c.key c.data c.pages [withoutN key kid])).map dC)) := by
      rw [List.map_set]
      refine Wk.sl (WkL_set (WkL.refl _) ?_)
      rw [dC_eq]
      simp (maxDischargeDepth := 12) (maxSteps := 1000000) -implicitDefEqProofs only [go_sem, Nat.reduceAdd, Nat.reduceSub, Nat.reduceMul, Nat.reduceLeDiff, Nat.reduceEqDiff, Nat.reduceGT, Nat.reduceBEq, reduceCtorEq, ↓reduceIte, Int.reduceToNat, Int.reduceLE, Int.reduceLT, Int.reduceNe, Int.reduceEq]
    have h3 := tot_set hc (c' := .mk c.key c.data c.pages [withoutN key kid])
    have h4 := tot_without hnd (key := key)
    rw [totC_kid hkid, totC_kid (k := withoutN key kid) rfl] at h3
    have h6 := totN_tot n
    refine use1 (mendW w0 (.mk 0 false (n.l.set (way n.l key) (.mk c.key c.data c.pages [withoutN key kid]))) (way n.l key) _ (brOk h1 (by rw [totN_mk]; omega)) (by simp only [N.l_mk, List.length_set]; exact hw)) ?_ ⟨Wk.agg ⟨.refl _, .refl _, h2, trivial⟩, .refl _, trivial⟩
    simp (maxDischargeDepth := 12) (maxSteps := 1000000) -implicitDefEqProofs only [go_sem, Nat.reduceAdd, Nat.reduceSub, Nat.reduceMul, Nat.reduceLeDiff, Nat.reduceEqDiff, Nat.reduceGT, Nat.reduceBEq, reduceCtorEq, ↓reduceIte, Int.reduceToNat, Int.reduceLE, Int.reduceLT, Int.reduceNe, Int.reduceEq, withoutN_br key n hlf hc hkid]
def Del (key : ByteArray) (n : N) : N := if (findN key n).isSome then topN (withoutN key n) else n
set_option maxHeartbeats 1000000 in
theorem DelW (w0 : W0) (key : ByteArray) (d : Nat) (n : N) (S : St) (hn : Nd d n) (ht : totN n + 2 * d + 16 ≤ 524288) : ACall Tryz.prog w0 51 [eN n, dS key] S (fun e S' => e = .tup [eN (Del key n), dB (findN key n).isSome] ∧ S' = S) := by
  have h1 := nd_without (key := key) hn
  have h2 := tot_without hn (key := key)
  refine fnS [] mx Tryz.func51 rfl rfl (by kernel_rfl) ?_; simp (maxDischargeDepth := 12) (maxSteps := 1000000) -implicitDefEqProofs only [Tryz.ntmps51, go_sem, Nat.reduceAdd, Nat.reduceSub, Nat.reduceMul, Nat.reduceLeDiff, Nat.reduceEqDiff, Nat.reduceGT, Nat.reduceBEq, reduceCtorEq, ↓reduceIte, Int.reduceToNat, Int.reduceLE, Int.reduceLT, Int.reduceNe, Int.reduceEq]
  intro b b1
  refine use1 (findW w0 key d n _ hn (by omega)) ?_
  simp (maxDischargeDepth := 12) (maxSteps := 1000000) -implicitDefEqProofs only [go_sem, Nat.reduceAdd, Nat.reduceSub, Nat.reduceMul, Nat.reduceLeDiff, Nat.reduceEqDiff, Nat.reduceGT, Nat.reduceBEq, reduceCtorEq, ↓reduceIte, Int.reduceToNat, Int.reduceLE, Int.reduceLT, Int.reduceNe, Int.reduceEq]
  refine ⟨fun hs => ?_, fun hs => ?_⟩
  · refine use1 (withoutW w0 key d n _ hn (by omega)) ?_
    simp (maxDischargeDepth := 12) (maxSteps := 1000000) -implicitDefEqProofs only [go_sem, Nat.reduceAdd, Nat.reduceSub, Nat.reduceMul, Nat.reduceLeDiff, Nat.reduceEqDiff, Nat.reduceGT, Nat.reduceBEq, reduceCtorEq, ↓reduceIte, Int.reduceToNat, Int.reduceLE, Int.reduceLT, Int.reduceNe, Int.reduceEq]
    refine use1 (topW w0 (SizeOf.sizeOf (withoutN key n) + 1) (withoutN key n) _ (by omega) ⟨nd_ok h1, nd_sm h1, by omega⟩) ?_
    have e : Del key n = topN (withoutN key n) := if_pos hs
    simp (maxDischargeDepth := 12) (maxSteps := 1000000) -implicitDefEqProofs only [go_sem, Nat.reduceAdd, Nat.reduceSub, Nat.reduceMul, Nat.reduceLeDiff, Nat.reduceEqDiff, Nat.reduceGT, Nat.reduceBEq, reduceCtorEq, ↓reduceIte, Int.reduceToNat, Int.reduceLE, Int.reduceLT, Int.reduceNe, Int.reduceEq, e, hs]
  · have e : Del key n = n := if_neg (by rw [hs]; simp)
    rw [e, hs]
    exact .refl _
theorem nd_Del {key : ByteArray} {d : Nat} {n : N} (h : Nd d n) : ∃ d', d' ≤ d + 1 ∧ Nd d' (Del key n) ∧ totN (Del key n) ≤ totN n + d + 3 := by
  unfold Del
  split
  · have h1 := nd_without (key := key) h
    obtain ⟨d', h2, h3⟩ := nd_top h1
    have := tot_without h (key := key)
    have := tot_top h1
    exact ⟨d', h2, h3, by omega⟩
  · exact ⟨d, by omega, h, by omega⟩
end Go.Proofs.YtfieabidajilmaaGreat

namespace Go.Proofs.YtfieabidajilmaaGreat
open Aml Go
set_option linter.unusedVariables false
set_option linter.unusedSimpArgs false
set_option maxRecDepth 100000

/-- A branch's kids. -/
def kidsOf (n : N) : List N := if n.leaf then [] else n.l.flatMap fun c => c.kid.take 1
@[go_sem] def dV2 (c : C) : DV := .agg [dS c.data, .sl 1 false (c.pages.map dI)]
mutual
/-- A tree, as the program has it. -/
def dT : N → DV
  | .mk p b l => .agg [dI p, dB b, .sl 1 false (l.map fun c => dS c.key), .sl 2 false ((if b then l else []).map dV2), .sl 5 false (if b then [] else dTCs l)]
def dTC : C → List DV
  | .mk _ _ _ kid => dTNs kid
def dTCs : List C → List DV
  | [] => []
  | c :: l => dTC c ++ dTCs l
def dTNs : List N → List DV
  | [] => []
  | n :: _ => [dT n]
end
theorem dTNs_eq : ∀ l, dTNs l = (l.take 1).map dT
  | [] => by simp [dTNs]
  | n :: l => by simp [dTNs]
theorem dTCs_eq : ∀ l, dTCs l = (l.flatMap fun c => c.kid.take 1).map dT
  | [] => by simp [dTCs]
  | c :: l => by
    cases c
    simp only [dTCs, dTC, dTNs_eq, dTCs_eq l, List.flatMap_cons, List.map_append, C.kid_mk]
@[go_sem] def eT (n : N) : DV := .agg [dI n.page, dB n.leaf, .sl 1 false (n.l.map fun c => dS c.key), .sl 2 false ((if n.leaf then n.l else []).map dV2), .sl 5 false ((kidsOf n).map dT)]
@[go_sem] theorem dT_eq (n : N) : dT n = eT n := by
  cases n with | mk p b l =>
  simp only [dT, eT, N.page_mk, N.leaf_mk, N.l_mk, kidsOf]
  cases b <;> simp [dTCs_eq]
def cT (n : N) : List DV := [dI n.page, dB n.leaf, .sl 1 false (n.l.map fun c => dS c.key), .sl 2 false ((if n.leaf then n.l else []).map dV2), .sl 5 false ((kidsOf n).map dT)]
theorem kidsOf_leaf {n : N} (h : n.leaf = true) : kidsOf n = [] := by unfold kidsOf; rw [h]; rfl
theorem kidsOf_br {n : N} (h : n.leaf = false) : kidsOf n = n.l.flatMap fun c => c.kid.take 1 := by unfold kidsOf; rw [h]; rfl
/-- A branch's kids, as a list of them. -/
theorem kids_map {l : List C} (h : ∀ c, c ∈ l → ∃ k, c.kid = [k]) : (l.flatMap fun c => c.kid.take 1) = l.map kid0 := by
  induction l with
  | nil => rfl
  | cons c l ih =>
    obtain ⟨k, hk⟩ := h c List.mem_cons_self
    rw [List.flatMap_cons, ih fun c hc => h c (List.mem_cons_of_mem _ hc), hk, List.map_cons, kid0_eq hk]; rfl
theorem kids_nd {d : Nat} {n : N} (h : Nd (d + 1) n) : kidsOf n = n.l.map kid0 := by
  rw [kidsOf_br h.1]
  exact kids_map fun c hc => by obtain ⟨_, k, hk, _⟩ := h.2.2 c hc; exact ⟨k, hk⟩
set_option maxHeartbeats 400000 in
theorem needP (w0 : W0) (z : Int) (S : St) : ACall Tryz.prog w0 107 [dI z] S (fun d S' => d = dI (need z) ∧ S' = S) := by
  refine fnS [] mx Tryz.func107 rfl rfl (by kernel_rfl) ?_; simp (maxDischargeDepth := 12) (maxSteps := 1000000) -implicitDefEqProofs only [Tryz.ntmps107, go_sem, Nat.reduceAdd, Nat.reduceSub, Nat.reduceMul, Nat.reduceLeDiff, Nat.reduceEqDiff, Nat.reduceGT, Nat.reduceBEq, reduceCtorEq, ↓reduceIte, Int.reduceToNat, Int.reduceLE, Int.reduceLT, Int.reduceNe, Int.reduceEq]
  unfold need
  refine ⟨fun h => by rw [if_neg (by omega)]; rfl, fun h1 => ⟨fun h => by rw [if_neg (by omega)]; rfl, fun h2 => ?_⟩⟩
  rw [if_pos (by omega), w64 (n := z + 119) (by omega) (by omega), w64 (n := z + 119 - 1) (by omega) (by omega), Int.tdiv_eq_ediv_of_nonneg (by omega), w64 (by omega) (by omega)]
  omega
end Go.Proofs.YtfieabidajilmaaGreat

namespace Go.Proofs.YtfieabidajilmaaGreat
open Aml Go
set_option linter.unusedVariables false
set_option linter.unusedSimpArgs false
set_option maxRecDepth 100000
set_option maxHeartbeats 400000 in
theorem sumP (w0 : W0) (l : List Int) (S : St) (h : Bd l) : ACall Tryz.prog w0 142 [dL l] S (fun d S' => d = dI l.sum ∧ S' = S) := by
  refine fnS [] mx Tryz.func142 rfl rfl (by kernel_rfl) ?_; simp (maxDischargeDepth := 12) (maxSteps := 1000000) -implicitDefEqProofs only [Tryz.ntmps142, go_sem, Nat.reduceAdd, Nat.reduceSub, Nat.reduceMul, Nat.reduceLeDiff, Nat.reduceEqDiff, Nat.reduceGT, Nat.reduceBEq, reduceCtorEq, ↓reduceIte, Int.reduceToNat, Int.reduceLE, Int.reduceLT, Int.reduceNe, Int.reduceEq]
  refine loopN [] l.length [3, 6, 7, 8] (fun k => [(3, dI (l.take k).sum), (8, dI k)]) (fun _ => S) (fun _ => True) mx (by kernel_rfl) ?_ ?_
  · simp (maxDischargeDepth := 12) (maxSteps := 1000000) -implicitDefEqProofs only [go_sem, Nat.reduceAdd, Nat.reduceSub, Nat.reduceMul, Nat.reduceLeDiff, Nat.reduceEqDiff, Nat.reduceGT, Nat.reduceBEq, reduceCtorEq, ↓reduceIte, Int.reduceToNat, Int.reduceLE, Int.reduceLT, Int.reduceNe, Int.reduceEq]
    rfl
  · intro k hk _
    have h0 := h.1
    simp (maxDischargeDepth := 12) (maxSteps := 1000000) -implicitDefEqProofs only [go_sem, Nat.reduceAdd, Nat.reduceSub, Nat.reduceMul, Nat.reduceLeDiff, Nat.reduceEqDiff, Nat.reduceGT, Nat.reduceBEq, reduceCtorEq, ↓reduceIte, Int.reduceToNat, Int.reduceLE, Int.reduceLT, Int.reduceNe, Int.reduceEq]
    refine ⟨fun hlt => ⟨hlt, fun a ha => ⟨by omega, ?_, ?_⟩⟩, fun hge => ?_⟩
    · have := (h.take (k + 1)).sum
      rw [sum_succ ha] at this ⊢
      exact w64 (by omega) (by omega)
    · rw [w64 (by omega) (by omega)]; omega
    · rw [List.take_of_length_le (by omega)]
theorem lowP (w0 : W0) (l : List Int) (S : St) (h : Bd l) : ACall Tryz.prog w0 127 [dL l] S (fun d S' => d = dB (lowR l) ∧ S' = S) := by
  refine fnS [] mx Tryz.func127 rfl rfl (by kernel_rfl) ?_; simp (maxDischargeDepth := 12) (maxSteps := 1000000) -implicitDefEqProofs only [Tryz.ntmps127, go_sem, Nat.reduceAdd, Nat.reduceSub, Nat.reduceMul, Nat.reduceLeDiff, Nat.reduceEqDiff, Nat.reduceGT, Nat.reduceBEq, reduceCtorEq, ↓reduceIte, Int.reduceToNat, Int.reduceLE, Int.reduceLT, Int.reduceNe, Int.reduceEq]
  refine use1 (sumP w0 _ _ h) ?_
  simp (maxDischargeDepth := 12) (maxSteps := 1000000) -implicitDefEqProofs only [go_sem, Nat.reduceAdd, Nat.reduceSub, Nat.reduceMul, Nat.reduceLeDiff, Nat.reduceEqDiff, Nat.reduceGT, Nat.reduceBEq, reduceCtorEq, ↓reduceIte, Int.reduceToNat, Int.reduceLE, Int.reduceLT, Int.reduceNe, Int.reduceEq]
  rfl
theorem nbP (w0 : W0) (m k : Int) (S : St) (h0 : 0 ≤ m) (h1 : m ≤ 1048576) (h2 : 0 ≤ k) (h3 : k < m) : ACall Tryz.prog w0 128 [dI m, dI k] S (fun d S' => d = dI (nbR m k) ∧ S' = S) := by
  refine fnS [] mx Tryz.func128 rfl rfl (by kernel_rfl) ?_; simp (maxDischargeDepth := 12) (maxSteps := 1000000) -implicitDefEqProofs only [Tryz.ntmps128, go_sem, Nat.reduceAdd, Nat.reduceSub, Nat.reduceMul, Nat.reduceLeDiff, Nat.reduceEqDiff, Nat.reduceGT, Nat.reduceBEq, reduceCtorEq, ↓reduceIte, Int.reduceToNat, Int.reduceLE, Int.reduceLT, Int.reduceNe, Int.reduceEq]
  unfold nbR
  rw [w64 (n := k + 1) (by omega) (by omega), w64 (n := k - 1) (by omega) (by omega)]
  exact ⟨fun h => by rw [if_pos h], fun h => by rw [if_neg h]⟩
theorem i_oneV (i : Nat) (h : i < 2 ^ 61) : IntKind.i64.wrap ((i : Int) + 1) = ((i + 1 : Nat) : Int) := by rw [w64 (by omega) (by omega)]; omega
/-- Places from one on. -/
def Vr (n : Nat) : List Nat := (List.range n).map (· + 1)
theorem Vr_succ (n : Nat) : Vr (n + 1) = Vr n ++ [n + 1] := by simp [Vr, List.range_succ]
theorem Vr_len (n : Nat) : (Vr n).length = n := by simp [Vr]
theorem Vr_pre : ∀ {j n : Nat}, j ≤ n → Vr j <+: Vr n := fun {j n} h => by
  induction n with
  | zero => have : j = 0 := by omega
            subst this; exact List.prefix_refl _
  | succ n ih =>
    rcases Nat.lt_or_ge j (n + 1) with q | q
    · exact (ih (by omega)).trans (by rw [Vr_succ]; exact List.prefix_append _ _)
    · have : j = n + 1 := by omega
      subst this; exact List.prefix_refl _
theorem Vr_of {pre : List Nat} {x n : Nat} (h : (pre ++ [x]) <+: Vr n) : x = pre.length + 1 ∧ pre.length < n := by
  obtain ⟨t, ht⟩ := h
  have hl := congrArg List.length ht
  simp only [List.length_append, List.length_cons, List.length_nil, Vr_len] at hl
  have hx := congrArg (fun z => z[pre.length]?) ht
  simp only [List.append_assoc, List.getElem?_append_right (Nat.le_refl _), Nat.sub_self, Vr] at hx
  simp at hx
  have hlt : pre.length < n := by omega
  rw [List.getElem?_range hlt] at hx
  simp at hx
  exact ⟨hx, hlt⟩
theorem lk_upV (L : List (Nat × List DV)) (b c : Nat) (v : List DV) : lk (up L b v) c = if b = c then (lk L c).map (fun _ => v) else lk L c := by
  split
  · rename_i e; subst e; exact lk_up_same _ _ _
  · rename_i e; exact lk_up_ne e _ _
theorem Has_updV {X T : St} (h : Has X T) (b : Nat) (v : List DV) : Has ⟨up X.box b v, X.acc⟩ ⟨up T.box b v, T.acc⟩ := ⟨fun c x hc => by
  simp only [lk_upV] at hc ⊢
  split at hc
  · rename_i e
    obtain ⟨y, hy, rfl⟩ := Option.map_eq_some_iff.1 hc
    rw [h.box _ _ hy, if_pos e]; rfl
  · rename_i e
    rw [if_neg e]; exact h.box _ _ hc, h.acc⟩
theorem Kp_up3 {X T : St} {b c : Nat} {v w : List DV} (hb : ¬ lk X.box b = none) (hc : ¬ lk X.box c = none) : Kp X T ⟨up (up T.box b v) c w, T.acc⟩ := ⟨fun d x hd hx => by
  show lk (up (up T.box b v) c w) d = some x
  rw [lk_up_ne (fun e => hc (by rw [e]; exact hd)), lk_up_ne (fun e => hb (by rw [e]; exact hd))]; exact hx, fun d x _ hx => hx⟩
theorem partsW (w0 : W0) (l : List Int) (S : St) : ACall Tryz.prog w0 143 [dL l] S (fun d S' => ∃ b : FN S.box, d = .v (.func (.func 170) #[] #[.pointer (some ⟨b.n, 0, none⟩)]) ∧ S' = ⟨(b.n, [dL l]) :: S.box, S.acc⟩) := by
  refine fnO [] mx Tryz.func143 rfl rfl (by kernel_rfl) ?_; simp (maxDischargeDepth := 12) (maxSteps := 1000000) -implicitDefEqProofs only [Tryz.ntmps143, go_sem, Nat.reduceAdd, Nat.reduceSub, Nat.reduceMul, Nat.reduceLeDiff, Nat.reduceEqDiff, Nat.reduceGT, Nat.reduceBEq, reduceCtorEq, ↓reduceIte, Int.reduceToNat, Int.reduceLE, Int.reduceLT, Int.reduceNe, Int.reduceEq]
  intro b
  exact ⟨b, rfl, rfl⟩
/-- The best place of the first k, and its greater part. -/
def atK (l : List Int) : Nat → Nat
  | 0 => 0
  | j + 1 => atF l j
def beK (l : List Int) : Nat → Int
  | 0 => l.sum + 1
  | j + 1 => worse l (atF l j)
theorem sum_split (l : List Int) (i : Nat) : (l.take i).sum + (l.drop i).sum = l.sum := by
  rw [← List.sum_append_int, List.take_append_drop]
theorem worse_le {l : List Int} (h : Bd l) (i : Nat) : 0 ≤ worse l i ∧ worse l i ≤ l.sum := by
  have h1 := (h.take i).sum
  have h2 := (h.drop i).sum
  have h3 := sum_split l i
  unfold worse
  split <;> omega
theorem beK_step {l : List Int} (h : Bd l) (p : Nat) : (worse l (p + 1) < beK l p → beK l (p + 1) = worse l (p + 1) ∧ atK l (p + 1) = p + 1) ∧ (¬ worse l (p + 1) < beK l p → beK l (p + 1) = beK l p ∧ atK l (p + 1) = atK l p) := by
  cases p with
  | zero => exact ⟨fun _ => ⟨rfl, rfl⟩, fun hn => absurd (by have := (worse_le h 1).2; show worse l 1 < l.sum + 1; omega) hn⟩
  | succ j =>
    have e : atF l (j + 1) = if worse l (j + 2) < worse l (atF l j) then j + 2 else atF l j := rfl
    refine ⟨fun hw => ?_, fun hw => ?_⟩
    · have e2 : atF l (j + 1) = j + 2 := e.trans (if_pos hw)
      exact ⟨by show worse l (atF l (j + 1)) = _; rw [e2], e2⟩
    · have e2 : atF l (j + 1) = atF l j := e.trans (if_neg hw)
      exact ⟨by show worse l (atF l (j + 1)) = _; rw [e2]; rfl, e2⟩
set_option maxHeartbeats 4000000 in
theorem partsI (w0 : W0) (l : Nat) (b : Nat) (r : List Int) (X : List Nat → St) (hr : Bd r) (hb : ∀ pre, lk (X pre).box b = some [dL r])
    (hy : YK Tryz.prog w0 l X (fun x => [dI x, dI (worse r x)]) (Vr (r.length - 1))) : ∀ T, Has (X []) T → ACall Tryz.prog w0 170 [.v (.func (.yield l) #[] #[]), .v (.pointer (some ⟨b, 0, none⟩))] T (fun _ T' => Has (X (Vr (r.length - 1))) T') := by
  intro T hT
  have t0 : lk T.box b = some [dL r] := hT.box _ _ (hb _)
  refine fnP [] mx Tryz.func170 rfl rfl (by kernel_rfl) ?_; simp only [Tryz.ntmps170, List.length_cons, List.length_nil, Nat.reduceAdd, Nat.reduceSub, List.reduceReplicate, List.cons_append, List.nil_append]; simp (maxDischargeDepth := 12) (maxSteps := 1000000) -implicitDefEqProofs only [Tryz.ntmps170, go_sem, Nat.reduceAdd, Nat.reduceSub, Nat.reduceMul, Nat.reduceLeDiff, Nat.reduceEqDiff, Nat.reduceGT, Nat.reduceBEq, reduceCtorEq, ↓reduceIte, Int.reduceToNat, Int.reduceLE, Int.reduceLT, Int.reduceNe, Int.reduceEq,  t0]
  refine use1 (sumP w0 _ _ hr) ?_
  simp (maxDischargeDepth := 12) (maxSteps := 1000000) -implicitDefEqProofs only [go_sem, Nat.reduceAdd, Nat.reduceSub, Nat.reduceMul, Nat.reduceLeDiff, Nat.reduceEqDiff, Nat.reduceGT, Nat.reduceBEq, reduceCtorEq, ↓reduceIte, Int.reduceToNat, Int.reduceLE, Int.reduceLT, Int.reduceNe, Int.reduceEq, t0]
  have h0 := hr.1
  refine loopK [] [0, 3, 4, 9, 10, 11] (fun s : St × Nat => [(3, dI (r.take s.2).sum), (4, dI (r.drop s.2).sum), (11, dI s.2)]) (fun s => s.1) (fun s => s.2 ≤ r.length ∧ Has (X (Vr (s.2 - 1))) s.1) (fun s => r.length - s.2) (T, 0) mx (by kernel_rfl) ?_ ?_
  · simp (maxDischargeDepth := 12) (maxSteps := 1000000) -implicitDefEqProofs only [go_sem, Nat.reduceAdd, Nat.reduceSub, Nat.reduceMul, Nat.reduceLeDiff, Nat.reduceEqDiff, Nat.reduceGT, Nat.reduceBEq, reduceCtorEq, ↓reduceIte, Int.reduceToNat, Int.reduceLE, Int.reduceLT, Int.reduceNe, Int.reduceEq]
    exact ⟨⟨Nat.zero_le _, hT⟩, rfl⟩
  · rintro ⟨T, k⟩ ⟨hk, hT'⟩
    simp only at hk hT'
    simp (maxDischargeDepth := 12) (maxSteps := 1000000) -implicitDefEqProofs only [go_sem, Nat.reduceAdd, Nat.reduceSub, Nat.reduceMul, Nat.reduceLeDiff, Nat.reduceEqDiff, Nat.reduceGT, Nat.reduceBEq, reduceCtorEq, ↓reduceIte, Int.reduceToNat, Int.reduceLE, Int.reduceLT, Int.reduceNe, Int.reduceEq]
    have hsu : ∀ a, r[k]? = some a → IntKind.i64.wrap ((r.take k).sum + a) = (r.take (k + 1)).sum ∧ IntKind.i64.wrap ((r.drop k).sum - a) = (r.drop (k + 1)).sum := fun a ha => by
      have h1 := sum_succ ha
      have h2 := sum_split r k
      have h3 := sum_split r (k + 1)
      have h4 := (hr.take (k + 1)).sum
      have h5 := (hr.drop (k + 1)).sum
      exact ⟨by rw [h1] at h4 ⊢; exact w64 (by omega) (by omega), by rw [w64 (by omega) (by omega)]; omega⟩
    refine ⟨fun hlt => ⟨hlt, fun a ha => ⟨fun hk0 => ?_, fun hk0 => ?_⟩⟩, fun hge => ?_⟩
    · obtain ⟨j, rfl⟩ : ∃ j, k = j + 1 := ⟨k - 1, by omega⟩
      have ew : (if (r.take (j + 1)).sum < (r.drop (j + 1)).sum then (r.drop (j + 1)).sum else (r.take (j + 1)).sum) = worse r (j + 1) := by
        unfold worse
        split <;> split <;> omega
      rw [ew]
      refine useY (hy (Vr j) (j + 1) T (by rw [← Vr_succ]; exact Vr_pre (by omega)) hT') ?_
      rintro d T2 ⟨rfl, hT2, hK⟩
      simp (maxDischargeDepth := 12) (maxSteps := 1000000) -implicitDefEqProofs only [go_sem, Nat.reduceAdd, Nat.reduceSub, Nat.reduceMul, Nat.reduceLeDiff, Nat.reduceEqDiff, Nat.reduceGT, Nat.reduceBEq, reduceCtorEq, ↓reduceIte, Int.reduceToNat, Int.reduceLE, Int.reduceLT, Int.reduceNe, Int.reduceEq]
      exact ⟨(T2, j + 2), ⟨hlt, by show Has (X (Vr (j + 1))) T2; rw [Vr_succ]; exact hT2⟩, by show r.length - (j + 2) < r.length - (j + 1); omega, ⟨(hsu a ha).1, (hsu a ha).2, i_oneV (j + 1) (by omega)⟩, .refl _⟩
    · have : k = 0 := by omega
      subst this
      exact ⟨(T, 1), ⟨hlt, hT'⟩, by show r.length - 1 < r.length - 0; omega, ⟨(hsu a ha).1, (hsu a ha).2, i_oneV 0 (by omega)⟩, .refl _⟩
    · have : k = r.length := by omega
      subst this
      exact ⟨_, T, .refl _, .refl _, hT'⟩
set_option maxHeartbeats 4000000 in
theorem atP (w0 : W0) (l : List Int) (S : St) (h : Bd l) : ACall Tryz.prog w0 117 [dL l] S (fun d S' => d = dI (atR l) ∧ S' = S) := by
  refine fnS [] mx Tryz.func117 rfl rfl (by kernel_rfl) ?_; simp (maxDischargeDepth := 12) (maxSteps := 1000000) -implicitDefEqProofs only [Tryz.ntmps117, go_sem, Nat.reduceAdd, Nat.reduceSub, Nat.reduceMul, Nat.reduceLeDiff, Nat.reduceEqDiff, Nat.reduceGT, Nat.reduceBEq, reduceCtorEq, ↓reduceIte, Int.reduceToNat, Int.reduceLE, Int.reduceLT, Int.reduceNe, Int.reduceEq]
  have hs := h.sum
  have h0 := h.1
  refine use1 (sumP w0 _ _ h) ?_
  simp (maxDischargeDepth := 12) (maxSteps := 1000000) -implicitDefEqProofs only [go_sem, Nat.reduceAdd, Nat.reduceSub, Nat.reduceMul, Nat.reduceLeDiff, Nat.reduceEqDiff, Nat.reduceGT, Nat.reduceBEq, reduceCtorEq, ↓reduceIte, Int.reduceToNat, Int.reduceLE, Int.reduceLT, Int.reduceNe, Int.reduceEq]
  intro b3 b4
  have es : IntKind.i64.wrap (l.sum + 1) = l.sum + 1 := w64 (by omega) (by omega)
  rw [es]
  refine ⟨fun hle => ?_, fun hgt => ?_⟩
  · unfold atR; rw [if_pos (.inl (by omega))]; rfl
  refine useK (partsW w0 l _) ?_
  rintro _ _ ⟨b, rfl, rfl⟩
  simp (maxDischargeDepth := 12) (maxSteps := 1000000) -implicitDefEqProofs only [go_sem, Nat.reduceAdd, Nat.reduceSub, Nat.reduceMul, Nat.reduceLeDiff, Nat.reduceEqDiff, Nat.reduceGT, Nat.reduceBEq, reduceCtorEq, ↓reduceIte, Int.reduceToNat, Int.reduceLE, Int.reduceLT, Int.reduceNe, Int.reduceEq]
  refine rangeK [] (fun pre : List Nat => ⟨(b.n, [dL l]) :: (b4.n, [dI (atK l pre.length)]) :: (b3.n, [dI (beK l pre.length)]) :: S.box, S.acc⟩) (fun x : Nat => [dI x, dI (worse l x)]) (Vr (l.length - 1)) mx (by kernel_rfl) rfl rfl rfl (fun _ => rfl) (fun _ => rfl) (fun _ => rfl) ?_ ?_ ?_
  · intro ly w1 hy T hT
    exact partsI w1 ly b.n l _ h (fun _ => by simp (maxDischargeDepth := 12) (maxSteps := 1000000) -implicitDefEqProofs only [go_sem, Nat.reduceAdd, Nat.reduceSub, Nat.reduceMul, Nat.reduceLeDiff, Nat.reduceEqDiff, Nat.reduceGT, Nat.reduceBEq, reduceCtorEq, ↓reduceIte, Int.reduceToNat, Int.reduceLE, Int.reduceLT, Int.reduceNe, Int.reduceEq]) hy T hT
  · intro pre x T hp hT
    obtain ⟨rfl, hlt⟩ := Vr_of hp
    have t3 : lk T.box b3.n = some [dI (beK l pre.length)] := hT.box _ _ (by simp (maxDischargeDepth := 12) (maxSteps := 1000000) -implicitDefEqProofs only [go_sem, Nat.reduceAdd, Nat.reduceSub, Nat.reduceMul, Nat.reduceLeDiff, Nat.reduceEqDiff, Nat.reduceGT, Nat.reduceBEq, reduceCtorEq, ↓reduceIte, Int.reduceToNat, Int.reduceLE, Int.reduceLT, Int.reduceNe, Int.reduceEq])
    have t4 : lk T.box b4.n = some [dI (atK l pre.length)] := hT.box _ _ (by simp (maxDischargeDepth := 12) (maxSteps := 1000000) -implicitDefEqProofs only [go_sem, Nat.reduceAdd, Nat.reduceSub, Nat.reduceMul, Nat.reduceLeDiff, Nat.reduceEqDiff, Nat.reduceGT, Nat.reduceBEq, reduceCtorEq, ↓reduceIte, Int.reduceToNat, Int.reduceLE, Int.reduceLT, Int.reduceNe, Int.reduceEq])
    have hne : ¬ b3.n = b4.n := by simp (maxDischargeDepth := 12) (maxSteps := 1000000) -implicitDefEqProofs only [go_sem, Nat.reduceAdd, Nat.reduceSub, Nat.reduceMul, Nat.reduceLeDiff, Nat.reduceEqDiff, Nat.reduceGT, Nat.reduceBEq, reduceCtorEq, ↓reduceIte, Int.reduceToNat, Int.reduceLE, Int.reduceLT, Int.reduceNe, Int.reduceEq]
    have hl1 : (pre ++ [pre.length + 1]).length = pre.length + 1 := by simp
    have hH := fun v w => Has_updV (Has_updV hT b3.n [dI v]) b4.n [dI w]
    have hu : ∀ (v w : Int), up (up ((b.n, [dL l]) :: (b4.n, [dI (atK l pre.length)]) :: (b3.n, [dI (beK l pre.length)]) :: S.box) b3.n [dI v]) b4.n [dI w] = (b.n, [dL l]) :: (b4.n, [dI w]) :: (b3.n, [dI v]) :: S.box := fun v w => by simp (maxDischargeDepth := 12) (maxSteps := 1000000) -implicitDefEqProofs only [go_sem, Nat.reduceAdd, Nat.reduceSub, Nat.reduceMul, Nat.reduceLeDiff, Nat.reduceEqDiff, Nat.reduceGT, Nat.reduceBEq, reduceCtorEq, ↓reduceIte, Int.reduceToNat, Int.reduceLE, Int.reduceLT, Int.reduceNe, Int.reduceEq]
    have hK : ∀ v w, Kp ⟨(b.n, [dL l]) :: (b4.n, [dI (atK l pre.length)]) :: (b3.n, [dI (beK l pre.length)]) :: S.box, S.acc⟩ T ⟨up (up T.box b3.n v) b4.n w, T.acc⟩ := fun v w => Kp_up3 (by simp (maxDischargeDepth := 12) (maxSteps := 1000000) -implicitDefEqProofs only [go_sem, Nat.reduceAdd, Nat.reduceSub, Nat.reduceMul, Nat.reduceLeDiff, Nat.reduceEqDiff, Nat.reduceGT, Nat.reduceBEq, reduceCtorEq, ↓reduceIte, Int.reduceToNat, Int.reduceLE, Int.reduceLT, Int.reduceNe, Int.reduceEq]) (by simp (maxDischargeDepth := 12) (maxSteps := 1000000) -implicitDefEqProofs only [go_sem, Nat.reduceAdd, Nat.reduceSub, Nat.reduceMul, Nat.reduceLeDiff, Nat.reduceEqDiff, Nat.reduceGT, Nat.reduceBEq, reduceCtorEq, ↓reduceIte, Int.reduceToNat, Int.reduceLE, Int.reduceLT, Int.reduceNe, Int.reduceEq])
    simp only [hu] at hH
    simp only [setPs]
    simp (maxDischargeDepth := 12) (maxSteps := 1000000) -implicitDefEqProofs only [go_sem, Nat.reduceAdd, Nat.reduceSub, Nat.reduceMul, Nat.reduceLeDiff, Nat.reduceEqDiff, Nat.reduceGT, Nat.reduceBEq, reduceCtorEq, ↓reduceIte, Int.reduceToNat, Int.reduceLE, Int.reduceLT, Int.reduceNe, Int.reduceEq, t3, t4]
    obtain ⟨st1, st2⟩ := beK_step h pre.length
    refine ⟨fun hw => ?_, fun hw => ?_⟩
    · rw [(st1 hw).1, (st1 hw).2]
      exact ⟨hH _ _, hK _ _⟩
    · rw [(st2 hw).1, (st2 hw).2]
      exact ⟨hT, .refl _ _⟩
  · simp (maxDischargeDepth := 12) (maxSteps := 1000000) -implicitDefEqProofs only [go_sem, Nat.reduceAdd, Nat.reduceSub, Nat.reduceMul, Nat.reduceLeDiff, Nat.reduceEqDiff, Nat.reduceGT, Nat.reduceBEq, reduceCtorEq, ↓reduceIte, Int.reduceToNat, Int.reduceLE, Int.reduceLT, Int.reduceNe, Int.reduceEq, Vr_len]
    unfold atR
    by_cases h2 : l.length < 2
    · rw [if_pos (.inr h2), show l.length - 1 = 0 by omega]; rfl
    · rw [if_neg (by omega)]
      obtain ⟨m, hm⟩ : ∃ m, l.length = m + 2 := ⟨l.length - 2, by omega⟩
      rw [hm]; rfl
end Go.Proofs.YtfieabidajilmaaGreat

namespace Go.Proofs.YtfieabidajilmaaGreat
open Aml Go
set_option linter.unusedVariables false
set_option linter.unusedSimpArgs false
set_option maxRecDepth 100000
theorem i_addV (a b : Nat) (h : a + b < 2 ^ 62) : IntKind.i64.wrap ((a : Int) + (b : Int)) = ((a + b : Nat) : Int) := by rw [w64 (by omega) (by omega)]; omega
/-- A row of whatever. -/
@[go_sem] def dR (s : Nat) (l : List DV) : DV := .sl s false l
def fl (rows : List (List DV)) : List DV := rows.flatten
theorem fl_succ {rows : List (List DV)} {k : Nat} {a : List DV} (h : rows[k]? = some a) : fl (rows.take (k + 1)) = fl (rows.take k) ++ a := by
  unfold fl
  rw [List.take_add_one, h]
  simp
theorem fl_le (rows : List (List DV)) (k : Nat) : (fl (rows.take k)).length ≤ (fl rows).length := by
  have : fl rows = fl (rows.take k) ++ fl (rows.drop k) := by
    unfold fl
    rw [← List.flatten_append, List.take_append_drop]
  rw [this]; simp
theorem acall_frzV {P : Program} {w0 : W0} {f : FuncId} {args : List DV} {S : St} {r : DV} (h1 : ACall P w0 f args S (fun d S' => shrT S' d fun d S'' => Wk d r ∧ Aml.Sub S S'')) : ACall P w0 f args S (fun d S' => d = r ∧ S' = S) := by
  intro g vs w k1 k2
  refine (h1 g vs w k1 k2).mono ?_
  rintro e w' ⟨v, g', d, S', q1, q2, q3, q4, q5⟩
  obtain ⟨g2, d', S2, p1, p2, p3, p4, p5⟩ := shrT_ok q3 q4 q5
  exact ⟨v, g2, r, S, q1, q2.trans p1, p2.forget p5.box p5.acc, p4 _ _ p3, rfl, rfl⟩
set_option maxHeartbeats 1000000 in
theorem growS (w0 : W0) (n : Int) (S : St) (h0 : 0 ≤ n) (h1 : n ≤ 1099511627776) : ACall Tryz.prog w0 172 [.sl 0 true [], dI n] S (fun d S' => ∃ l : FN S.acc, d = .acc l.n 0 ∧ S' = ⟨S.box, (l.n, .arr 1 []) :: S.acc⟩) := by
  refine acall_nil (K' := fun d S' => (d = .sl 0 true [] ∧ S' = S) ∨ ∃ l : FN S.acc, d = .acc l.n 0 ∧ S' = ⟨S.box, (l.n, .arr 1 []) :: S.acc⟩) ?_ 1 (by omega) ?_
  · refine fnO [] mx Tryz.func172 rfl rfl (by kernel_rfl) ?_; simp (maxDischargeDepth := 12) (maxSteps := 1000000) -implicitDefEqProofs only [Tryz.ntmps172, go_sem, Nat.reduceAdd, Nat.reduceSub, Nat.reduceMul, Nat.reduceLeDiff, Nat.reduceEqDiff, Nat.reduceGT, Nat.reduceBEq, reduceCtorEq, ↓reduceIte, Int.reduceToNat, Int.reduceLE, Int.reduceLT, Int.reduceNe, Int.reduceEq]
    have e1 : IntKind.i64.wrap (0 - 0) = 0 := w64 (by omega) (by omega)
    rw [e1, Int.sub_zero, w64 (by omega) (by omega)]
    refine ⟨fun h => by omega, fun h h2 => ⟨by omega, by omega, by omega, fun l => .inl ⟨⟨_, _, _, rfl⟩, by simp, fun l' => ⟨⟨l'.n, l'.h.2.2⟩, rfl, rfl⟩⟩⟩⟩
  · rintro d S' (⟨rfl, rfl⟩ | h)
    · exact .inr ⟨⟨0, rfl⟩, fun l hl => ⟨⟨l, hl⟩, rfl, rfl⟩⟩
    · exact .inl h
set_option maxHeartbeats 1000000 in
theorem concatS (w0 : W0) (rows : List (List DV)) (S : St) (h0 : rows.length ≤ 1099511627776) (h1 : (fl rows).length ≤ 1048576) :
    ACall Tryz.prog w0 145 [.sl 1 false (rows.map (dR 1))] S (fun d S' => d = dR 1 (fl rows) ∧ S' = S) := by
  refine fnS [] mx Tryz.func145 rfl rfl (by kernel_rfl) ?_; simp (maxDischargeDepth := 12) (maxSteps := 1000000) -implicitDefEqProofs only [Tryz.ntmps145, go_sem, Nat.reduceAdd, Nat.reduceSub, Nat.reduceMul, Nat.reduceLeDiff, Nat.reduceEqDiff, Nat.reduceGT, Nat.reduceBEq, reduceCtorEq, ↓reduceIte, Int.reduceToNat, Int.reduceLE, Int.reduceLT, Int.reduceNe, Int.reduceEq]
  refine loopN [] rows.length [0, 3, 9, 10, 11] (fun k => [(3, dI (fl (rows.take k)).length), (11, dI k)]) (fun _ => S) (fun k => True) mx (by kernel_rfl) ?_ ?_
  · simp (maxDischargeDepth := 12) (maxSteps := 1000000) -implicitDefEqProofs only [go_sem, Nat.reduceAdd, Nat.reduceSub, Nat.reduceMul, Nat.reduceLeDiff, Nat.reduceEqDiff, Nat.reduceGT, Nat.reduceBEq, reduceCtorEq, ↓reduceIte, Int.reduceToNat, Int.reduceLE, Int.reduceLT, Int.reduceNe, Int.reduceEq]
    simp [fl]
  · intro k hk _
    simp (maxDischargeDepth := 12) (maxSteps := 1000000) -implicitDefEqProofs only [go_sem, Nat.reduceAdd, Nat.reduceSub, Nat.reduceMul, Nat.reduceLeDiff, Nat.reduceEqDiff, Nat.reduceGT, Nat.reduceBEq, reduceCtorEq, ↓reduceIte, Int.reduceToNat, Int.reduceLE, Int.reduceLT, Int.reduceNe, Int.reduceEq]
    refine ⟨fun hlt => ⟨hlt, fun a ha => ?_⟩, fun hge => ?_⟩
    · have h2 := fl_succ ha
      have h3 := fl_le rows (k + 1)
      rw [h2, List.length_append] at h3
      rw [w64 (by omega) (by omega)]
      refine ⟨fun h => by omega, fun h => ⟨hlt, ?_, w64 (by omega) (by omega)⟩⟩
      rw [h2, List.length_append]; omega
    · rw [List.take_of_length_le (by omega)]
      refine useK (growS w0 (fl rows).length S (by omega) (by omega)) ?_
      rintro d S' ⟨l, rfl, rfl⟩
      simp (maxDischargeDepth := 12) (maxSteps := 1000000) -implicitDefEqProofs only [go_sem, Nat.reduceAdd, Nat.reduceSub, Nat.reduceMul, Nat.reduceLeDiff, Nat.reduceEqDiff, Nat.reduceGT, Nat.reduceBEq, reduceCtorEq, ↓reduceIte, Int.reduceToNat, Int.reduceLE, Int.reduceLT, Int.reduceNe, Int.reduceEq]
      refine loopN [] rows.length [6, 25, 26, 27] (fun k => [(6, .acc l.n (fl (rows.take k)).length), (27, dI k)]) (fun k => ⟨S.box, (l.n, .arr 1 (fl (rows.take k))) :: S.acc⟩) (fun k => True) mx (by kernel_rfl) ?_ ?_
      · simp (maxDischargeDepth := 12) (maxSteps := 1000000) -implicitDefEqProofs only [go_sem, Nat.reduceAdd, Nat.reduceSub, Nat.reduceMul, Nat.reduceLeDiff, Nat.reduceEqDiff, Nat.reduceGT, Nat.reduceBEq, reduceCtorEq, ↓reduceIte, Int.reduceToNat, Int.reduceLE, Int.reduceLT, Int.reduceNe, Int.reduceEq]
        simp [fl, Wk.refl, Sub.refl]
      · intro k hk _
        simp (maxDischargeDepth := 12) (maxSteps := 1000000) -implicitDefEqProofs only [go_sem, Nat.reduceAdd, Nat.reduceSub, Nat.reduceMul, Nat.reduceLeDiff, Nat.reduceEqDiff, Nat.reduceGT, Nat.reduceBEq, reduceCtorEq, ↓reduceIte, Int.reduceToNat, Int.reduceLE, Int.reduceLT, Int.reduceNe, Int.reduceEq]
        refine ⟨fun hlt => ⟨hlt, fun a ha => ?_⟩, fun hge => ?_⟩
        · have h2 := fl_succ ha
          have h3 := fl_le rows (k + 1)
          rw [h2, List.length_append] at h3
          refine ⟨by omega, by unfold maxLen; omega, hlt, ⟨?_, w64 (by omega) (by omega)⟩, ?_⟩
          · rw [h2, List.length_append]; exact .refl _
          · rw [h2]; exact .refl _
        · rw [List.take_of_length_le (by omega)]; exact .full _ _ _
set_option maxHeartbeats 4000000 in
theorem cloneS (w0 : W0) (l : List DV) (S : St) (h0 : l.length ≤ 1048576) : ACall Tryz.prog w0 90 [dR 1 l] S fun d S' => ∃ b : FN S.acc, d = .acc b.n l.length ∧ S' = ⟨S.box, (b.n, .arr 1 l) :: S.acc⟩ := by
  refine nilK 1 (by omega) ?_
  refine fnO [] mx Tryz.func90 rfl rfl (by kernel_rfl) ?_; simp (maxDischargeDepth := 12) (maxSteps := 1000000) -implicitDefEqProofs only [Tryz.ntmps90, go_sem, Nat.reduceAdd, Nat.reduceSub, Nat.reduceMul, Nat.reduceLeDiff, Nat.reduceEqDiff, Nat.reduceGT, Nat.reduceBEq, reduceCtorEq, ↓reduceIte, Int.reduceToNat, Int.reduceLE, Int.reduceLT, Int.reduceNe, Int.reduceEq]
  intro b hb
  refine ⟨fun h1 => .inl ⟨Classical.byContradiction fun hn => ?_, 0, rfl⟩, fun h1 => ⟨by omega, by unfold maxLen; omega, fun c => .inr ⟨c, rfl, rfl⟩⟩⟩
  rw [hb hn] at h1; cases h1
theorem cloneQS (w0 : W0) (l : List DV) (S : St) (h0 : l.length ≤ 1048576) : ACall Tryz.prog w0 90 [dR 1 l] S fun d S' => d = dR 1 l ∧ S' = S := by
  refine acall_frzV (ACall.mono (cloneS w0 l S h0) ?_)
  rintro d S' ⟨b, rfl, rfl⟩
  simp (maxDischargeDepth := 12) (maxSteps := 1000000) -implicitDefEqProofs only [go_sem, Nat.reduceAdd, Nat.reduceSub, Nat.reduceMul, Nat.reduceLeDiff, Nat.reduceEqDiff, Nat.reduceGT, Nat.reduceBEq, reduceCtorEq, ↓reduceIte, Int.reduceToNat, Int.reduceLE, Int.reduceLT, Int.reduceNe, Int.reduceEq]
set_option maxHeartbeats 4000000 in
theorem swapS (w0 : W0) (l m : List DV) (i n : Nat) (f : Bool) (S : St) (hi : i + n ≤ l.length) (h0 : l.length ≤ 524288) (h1 : m.length ≤ 524288) : ACall Tryz.prog w0 120 [dR 1 l, dI i, dI n, .sl 1 f m] S (fun d S' => d = dR 1 (l.take i ++ m ++ l.drop (i + n)) ∧ S' = S) := by
  refine fnS [] mx Tryz.func120 rfl rfl (by kernel_rfl) ?_; simp (maxDischargeDepth := 12) (maxSteps := 1000000) -implicitDefEqProofs only [Tryz.ntmps120, go_sem, Nat.reduceAdd, Nat.reduceSub, Nat.reduceMul, Nat.reduceLeDiff, Nat.reduceEqDiff, Nat.reduceGT, Nat.reduceBEq, reduceCtorEq, ↓reduceIte, Int.reduceToNat, Int.reduceLE, Int.reduceLT, Int.reduceNe, Int.reduceEq,  i_addV i n (by omega)]
  have e : fl [l.take i, m, l.drop (i + n)] = l.take i ++ m ++ l.drop (i + n) := by simp [fl]
  refine ⟨by omega, hi, useQ (concatS w0 [l.take i, m, l.drop (i + n)] _ (by simp) ?_) ?_ ⟨(Wk.full _ _ _).trans (Wk.sl ⟨.refl _, .full _ _ _, .refl _, trivial⟩), trivial⟩⟩
  · rw [e]; simp only [List.length_append, List.length_take, List.length_drop]; omega
  · rw [e]; simp (maxDischargeDepth := 12) (maxSteps := 1000000) -implicitDefEqProofs only [go_sem, Nat.reduceAdd, Nat.reduceSub, Nat.reduceMul, Nat.reduceLeDiff, Nat.reduceEqDiff, Nat.reduceGT, Nat.reduceBEq, reduceCtorEq, ↓reduceIte, Int.reduceToNat, Int.reduceLE, Int.reduceLT, Int.reduceNe, Int.reduceEq]
set_option maxHeartbeats 1000000 in
theorem growV (w0 : W0) (n : Int) (S : St) (h0 : 0 ≤ n) (h1 : n ≤ 1099511627776) : ACall Tryz.prog w0 173 [.sl 0 true [], dI n] S (fun d S' => ∃ l : FN S.acc, d = .acc l.n 0 ∧ S' = ⟨S.box, (l.n, .arr 2 []) :: S.acc⟩) := by
  refine acall_nil (K' := fun d S' => (d = .sl 0 true [] ∧ S' = S) ∨ ∃ l : FN S.acc, d = .acc l.n 0 ∧ S' = ⟨S.box, (l.n, .arr 2 []) :: S.acc⟩) ?_ 2 (by omega) ?_
  · refine fnO [] mx Tryz.func173 rfl rfl (by kernel_rfl) ?_; simp (maxDischargeDepth := 12) (maxSteps := 1000000) -implicitDefEqProofs only [Tryz.ntmps173, go_sem, Nat.reduceAdd, Nat.reduceSub, Nat.reduceMul, Nat.reduceLeDiff, Nat.reduceEqDiff, Nat.reduceGT, Nat.reduceBEq, reduceCtorEq, ↓reduceIte, Int.reduceToNat, Int.reduceLE, Int.reduceLT, Int.reduceNe, Int.reduceEq]
    have e1 : IntKind.i64.wrap (0 - 0) = 0 := w64 (by omega) (by omega)
    rw [e1, Int.sub_zero, w64 (by omega) (by omega)]
    refine ⟨fun h => by omega, fun h h2 => ⟨by omega, by omega, by omega, fun l => .inl ⟨⟨_, _, _, rfl⟩, by simp, fun l' => ⟨⟨l'.n, l'.h.2.2⟩, rfl, rfl⟩⟩⟩⟩
  · rintro d S' (⟨rfl, rfl⟩ | h)
    · exact .inr ⟨⟨0, rfl⟩, fun l hl => ⟨⟨l, hl⟩, rfl, rfl⟩⟩
    · exact .inl h
set_option maxHeartbeats 1000000 in
theorem concatV (w0 : W0) (rows : List (List DV)) (S : St) (h0 : rows.length ≤ 1099511627776) (h1 : (fl rows).length ≤ 1048576) :
    ACall Tryz.prog w0 146 [.sl 1 false (rows.map (dR 2))] S (fun d S' => d = dR 2 (fl rows) ∧ S' = S) := by
  refine fnS [] mx Tryz.func146 rfl rfl (by kernel_rfl) ?_; simp (maxDischargeDepth := 12) (maxSteps := 1000000) -implicitDefEqProofs only [Tryz.ntmps146, go_sem, Nat.reduceAdd, Nat.reduceSub, Nat.reduceMul, Nat.reduceLeDiff, Nat.reduceEqDiff, Nat.reduceGT, Nat.reduceBEq, reduceCtorEq, ↓reduceIte, Int.reduceToNat, Int.reduceLE, Int.reduceLT, Int.reduceNe, Int.reduceEq]
  refine loopN [] rows.length [0, 3, 9, 10, 11] (fun k => [(3, dI (fl (rows.take k)).length), (11, dI k)]) (fun _ => S) (fun k => True) mx (by kernel_rfl) ?_ ?_
  · simp (maxDischargeDepth := 12) (maxSteps := 1000000) -implicitDefEqProofs only [go_sem, Nat.reduceAdd, Nat.reduceSub, Nat.reduceMul, Nat.reduceLeDiff, Nat.reduceEqDiff, Nat.reduceGT, Nat.reduceBEq, reduceCtorEq, ↓reduceIte, Int.reduceToNat, Int.reduceLE, Int.reduceLT, Int.reduceNe, Int.reduceEq]
    simp [fl]
  · intro k hk _
    simp (maxDischargeDepth := 12) (maxSteps := 1000000) -implicitDefEqProofs only [go_sem, Nat.reduceAdd, Nat.reduceSub, Nat.reduceMul, Nat.reduceLeDiff, Nat.reduceEqDiff, Nat.reduceGT, Nat.reduceBEq, reduceCtorEq, ↓reduceIte, Int.reduceToNat, Int.reduceLE, Int.reduceLT, Int.reduceNe, Int.reduceEq]
    refine ⟨fun hlt => ⟨hlt, fun a ha => ?_⟩, fun hge => ?_⟩
    · have h2 := fl_succ ha
      have h3 := fl_le rows (k + 1)
      rw [h2, List.length_append] at h3
      rw [w64 (by omega) (by omega)]
      refine ⟨fun h => by omega, fun h => ⟨hlt, ?_, w64 (by omega) (by omega)⟩⟩
      rw [h2, List.length_append]; omega
    · rw [List.take_of_length_le (by omega)]
      refine useK (growV w0 (fl rows).length S (by omega) (by omega)) ?_
      rintro d S' ⟨l, rfl, rfl⟩
      simp (maxDischargeDepth := 12) (maxSteps := 1000000) -implicitDefEqProofs only [go_sem, Nat.reduceAdd, Nat.reduceSub, Nat.reduceMul, Nat.reduceLeDiff, Nat.reduceEqDiff, Nat.reduceGT, Nat.reduceBEq, reduceCtorEq, ↓reduceIte, Int.reduceToNat, Int.reduceLE, Int.reduceLT, Int.reduceNe, Int.reduceEq]
      refine loopN [] rows.length [6, 25, 26, 27] (fun k => [(6, .acc l.n (fl (rows.take k)).length), (27, dI k)]) (fun k => ⟨S.box, (l.n, .arr 2 (fl (rows.take k))) :: S.acc⟩) (fun k => True) mx (by kernel_rfl) ?_ ?_
      · simp (maxDischargeDepth := 12) (maxSteps := 1000000) -implicitDefEqProofs only [go_sem, Nat.reduceAdd, Nat.reduceSub, Nat.reduceMul, Nat.reduceLeDiff, Nat.reduceEqDiff, Nat.reduceGT, Nat.reduceBEq, reduceCtorEq, ↓reduceIte, Int.reduceToNat, Int.reduceLE, Int.reduceLT, Int.reduceNe, Int.reduceEq]
        simp [fl, Wk.refl, Sub.refl]
      · intro k hk _
        simp (maxDischargeDepth := 12) (maxSteps := 1000000) -implicitDefEqProofs only [go_sem, Nat.reduceAdd, Nat.reduceSub, Nat.reduceMul, Nat.reduceLeDiff, Nat.reduceEqDiff, Nat.reduceGT, Nat.reduceBEq, reduceCtorEq, ↓reduceIte, Int.reduceToNat, Int.reduceLE, Int.reduceLT, Int.reduceNe, Int.reduceEq]
        refine ⟨fun hlt => ⟨hlt, fun a ha => ?_⟩, fun hge => ?_⟩
        · have h2 := fl_succ ha
          have h3 := fl_le rows (k + 1)
          rw [h2, List.length_append] at h3
          refine ⟨by omega, by unfold maxLen; omega, hlt, ⟨?_, w64 (by omega) (by omega)⟩, ?_⟩
          · rw [h2, List.length_append]; exact .refl _
          · rw [h2]; exact .refl _
        · rw [List.take_of_length_le (by omega)]; exact .full _ _ _
set_option maxHeartbeats 4000000 in
theorem cloneV (w0 : W0) (l : List DV) (S : St) (h0 : l.length ≤ 1048576) : ACall Tryz.prog w0 91 [dR 2 l] S fun d S' => ∃ b : FN S.acc, d = .acc b.n l.length ∧ S' = ⟨S.box, (b.n, .arr 2 l) :: S.acc⟩ := by
  refine nilK 2 (by omega) ?_
  refine fnO [] mx Tryz.func91 rfl rfl (by kernel_rfl) ?_; simp (maxDischargeDepth := 12) (maxSteps := 1000000) -implicitDefEqProofs only [Tryz.ntmps91, go_sem, Nat.reduceAdd, Nat.reduceSub, Nat.reduceMul, Nat.reduceLeDiff, Nat.reduceEqDiff, Nat.reduceGT, Nat.reduceBEq, reduceCtorEq, ↓reduceIte, Int.reduceToNat, Int.reduceLE, Int.reduceLT, Int.reduceNe, Int.reduceEq]
  intro b hb
  refine ⟨fun h1 => .inl ⟨Classical.byContradiction fun hn => ?_, 0, rfl⟩, fun h1 => ⟨by omega, by unfold maxLen; omega, fun c => .inr ⟨c, rfl, rfl⟩⟩⟩
  rw [hb hn] at h1; cases h1
theorem cloneQV (w0 : W0) (l : List DV) (S : St) (h0 : l.length ≤ 1048576) : ACall Tryz.prog w0 91 [dR 2 l] S fun d S' => d = dR 2 l ∧ S' = S := by
  refine acall_frzV (ACall.mono (cloneV w0 l S h0) ?_)
  rintro d S' ⟨b, rfl, rfl⟩
  simp (maxDischargeDepth := 12) (maxSteps := 1000000) -implicitDefEqProofs only [go_sem, Nat.reduceAdd, Nat.reduceSub, Nat.reduceMul, Nat.reduceLeDiff, Nat.reduceEqDiff, Nat.reduceGT, Nat.reduceBEq, reduceCtorEq, ↓reduceIte, Int.reduceToNat, Int.reduceLE, Int.reduceLT, Int.reduceNe, Int.reduceEq]
set_option maxHeartbeats 4000000 in
theorem swapV (w0 : W0) (l m : List DV) (i n : Nat) (f : Bool) (S : St) (hi : i + n ≤ l.length) (h0 : l.length ≤ 524288) (h1 : m.length ≤ 524288) : ACall Tryz.prog w0 121 [dR 2 l, dI i, dI n, .sl 2 f m] S (fun d S' => d = dR 2 (l.take i ++ m ++ l.drop (i + n)) ∧ S' = S) := by
  refine fnS [] mx Tryz.func121 rfl rfl (by kernel_rfl) ?_; simp (maxDischargeDepth := 12) (maxSteps := 1000000) -implicitDefEqProofs only [Tryz.ntmps121, go_sem, Nat.reduceAdd, Nat.reduceSub, Nat.reduceMul, Nat.reduceLeDiff, Nat.reduceEqDiff, Nat.reduceGT, Nat.reduceBEq, reduceCtorEq, ↓reduceIte, Int.reduceToNat, Int.reduceLE, Int.reduceLT, Int.reduceNe, Int.reduceEq,  i_addV i n (by omega)]
  have e : fl [l.take i, m, l.drop (i + n)] = l.take i ++ m ++ l.drop (i + n) := by simp [fl]
  refine ⟨by omega, hi, useQ (concatV w0 [l.take i, m, l.drop (i + n)] _ (by simp) ?_) ?_ ⟨(Wk.full _ _ _).trans (Wk.sl ⟨.refl _, .full _ _ _, .refl _, trivial⟩), trivial⟩⟩
  · rw [e]; simp only [List.length_append, List.length_take, List.length_drop]; omega
  · rw [e]; simp (maxDischargeDepth := 12) (maxSteps := 1000000) -implicitDefEqProofs only [go_sem, Nat.reduceAdd, Nat.reduceSub, Nat.reduceMul, Nat.reduceLeDiff, Nat.reduceEqDiff, Nat.reduceGT, Nat.reduceBEq, reduceCtorEq, ↓reduceIte, Int.reduceToNat, Int.reduceLE, Int.reduceLT, Int.reduceNe, Int.reduceEq]
set_option maxHeartbeats 1000000 in
theorem growT (w0 : W0) (n : Int) (S : St) (h0 : 0 ≤ n) (h1 : n ≤ 1099511627776) : ACall Tryz.prog w0 171 [.sl 0 true [], dI n] S (fun d S' => ∃ l : FN S.acc, d = .acc l.n 0 ∧ S' = ⟨S.box, (l.n, .arr 5 []) :: S.acc⟩) := by
  refine acall_nil (K' := fun d S' => (d = .sl 0 true [] ∧ S' = S) ∨ ∃ l : FN S.acc, d = .acc l.n 0 ∧ S' = ⟨S.box, (l.n, .arr 5 []) :: S.acc⟩) ?_ 5 (by omega) ?_
  · refine fnO [] mx Tryz.func171 rfl rfl (by kernel_rfl) ?_; simp (maxDischargeDepth := 12) (maxSteps := 1000000) -implicitDefEqProofs only [Tryz.ntmps171, go_sem, Nat.reduceAdd, Nat.reduceSub, Nat.reduceMul, Nat.reduceLeDiff, Nat.reduceEqDiff, Nat.reduceGT, Nat.reduceBEq, reduceCtorEq, ↓reduceIte, Int.reduceToNat, Int.reduceLE, Int.reduceLT, Int.reduceNe, Int.reduceEq]
    have e1 : IntKind.i64.wrap (0 - 0) = 0 := w64 (by omega) (by omega)
    rw [e1, Int.sub_zero, w64 (by omega) (by omega)]
    refine ⟨fun h => by omega, fun h h2 => ⟨by omega, by omega, by omega, fun l => .inl ⟨⟨_, _, _, rfl⟩, by simp, fun l' => ⟨⟨l'.n, l'.h.2.2⟩, rfl, rfl⟩⟩⟩⟩
  · rintro d S' (⟨rfl, rfl⟩ | h)
    · exact .inr ⟨⟨0, rfl⟩, fun l hl => ⟨⟨l, hl⟩, rfl, rfl⟩⟩
    · exact .inl h
set_option maxHeartbeats 1000000 in
theorem concatT (w0 : W0) (rows : List (List DV)) (S : St) (h0 : rows.length ≤ 1099511627776) (h1 : (fl rows).length ≤ 1048576) :
    ACall Tryz.prog w0 144 [.sl 1 false (rows.map (dR 5))] S (fun d S' => d = dR 5 (fl rows) ∧ S' = S) := by
  refine fnS [] mx Tryz.func144 rfl rfl (by kernel_rfl) ?_; simp (maxDischargeDepth := 12) (maxSteps := 1000000) -implicitDefEqProofs only [Tryz.ntmps144, go_sem, Nat.reduceAdd, Nat.reduceSub, Nat.reduceMul, Nat.reduceLeDiff, Nat.reduceEqDiff, Nat.reduceGT, Nat.reduceBEq, reduceCtorEq, ↓reduceIte, Int.reduceToNat, Int.reduceLE, Int.reduceLT, Int.reduceNe, Int.reduceEq]
  refine loopN [] rows.length [0, 3, 9, 10, 11] (fun k => [(3, dI (fl (rows.take k)).length), (11, dI k)]) (fun _ => S) (fun k => True) mx (by kernel_rfl) ?_ ?_
  · simp (maxDischargeDepth := 12) (maxSteps := 1000000) -implicitDefEqProofs only [go_sem, Nat.reduceAdd, Nat.reduceSub, Nat.reduceMul, Nat.reduceLeDiff, Nat.reduceEqDiff, Nat.reduceGT, Nat.reduceBEq, reduceCtorEq, ↓reduceIte, Int.reduceToNat, Int.reduceLE, Int.reduceLT, Int.reduceNe, Int.reduceEq]
    simp [fl]
  · intro k hk _
    simp (maxDischargeDepth := 12) (maxSteps := 1000000) -implicitDefEqProofs only [go_sem, Nat.reduceAdd, Nat.reduceSub, Nat.reduceMul, Nat.reduceLeDiff, Nat.reduceEqDiff, Nat.reduceGT, Nat.reduceBEq, reduceCtorEq, ↓reduceIte, Int.reduceToNat, Int.reduceLE, Int.reduceLT, Int.reduceNe, Int.reduceEq]
    refine ⟨fun hlt => ⟨hlt, fun a ha => ?_⟩, fun hge => ?_⟩
    · have h2 := fl_succ ha
      have h3 := fl_le rows (k + 1)
      rw [h2, List.length_append] at h3
      rw [w64 (by omega) (by omega)]
      refine ⟨fun h => by omega, fun h => ⟨hlt, ?_, w64 (by omega) (by omega)⟩⟩
      rw [h2, List.length_append]; omega
    · rw [List.take_of_length_le (by omega)]
      refine useK (growT w0 (fl rows).length S (by omega) (by omega)) ?_
      rintro d S' ⟨l, rfl, rfl⟩
      simp (maxDischargeDepth := 12) (maxSteps := 1000000) -implicitDefEqProofs only [go_sem, Nat.reduceAdd, Nat.reduceSub, Nat.reduceMul, Nat.reduceLeDiff, Nat.reduceEqDiff, Nat.reduceGT, Nat.reduceBEq, reduceCtorEq, ↓reduceIte, Int.reduceToNat, Int.reduceLE, Int.reduceLT, Int.reduceNe, Int.reduceEq]
      refine loopN [] rows.length [6, 25, 26, 27] (fun k => [(6, .acc l.n (fl (rows.take k)).length), (27, dI k)]) (fun k => ⟨S.box, (l.n, .arr 5 (fl (rows.take k))) :: S.acc⟩) (fun k => True) mx (by kernel_rfl) ?_ ?_
      · simp (maxDischargeDepth := 12) (maxSteps := 1000000) -implicitDefEqProofs only [go_sem, Nat.reduceAdd, Nat.reduceSub, Nat.reduceMul, Nat.reduceLeDiff, Nat.reduceEqDiff, Nat.reduceGT, Nat.reduceBEq, reduceCtorEq, ↓reduceIte, Int.reduceToNat, Int.reduceLE, Int.reduceLT, Int.reduceNe, Int.reduceEq]
        simp [fl, Wk.refl, Sub.refl]
      · intro k hk _
        simp (maxDischargeDepth := 12) (maxSteps := 1000000) -implicitDefEqProofs only [go_sem, Nat.reduceAdd, Nat.reduceSub, Nat.reduceMul, Nat.reduceLeDiff, Nat.reduceEqDiff, Nat.reduceGT, Nat.reduceBEq, reduceCtorEq, ↓reduceIte, Int.reduceToNat, Int.reduceLE, Int.reduceLT, Int.reduceNe, Int.reduceEq]
        refine ⟨fun hlt => ⟨hlt, fun a ha => ?_⟩, fun hge => ?_⟩
        · have h2 := fl_succ ha
          have h3 := fl_le rows (k + 1)
          rw [h2, List.length_append] at h3
          refine ⟨by omega, by unfold maxLen; omega, hlt, ⟨?_, w64 (by omega) (by omega)⟩, ?_⟩
          · rw [h2, List.length_append]; exact .refl _
          · rw [h2]; exact .refl _
        · rw [List.take_of_length_le (by omega)]; exact .full _ _ _
set_option maxHeartbeats 4000000 in
theorem cloneT (w0 : W0) (l : List DV) (S : St) (h0 : l.length ≤ 1048576) : ACall Tryz.prog w0 95 [dR 5 l] S fun d S' => ∃ b : FN S.acc, d = .acc b.n l.length ∧ S' = ⟨S.box, (b.n, .arr 5 l) :: S.acc⟩ := by
  refine nilK 5 (by omega) ?_
  refine fnO [] mx Tryz.func95 rfl rfl (by kernel_rfl) ?_; simp (maxDischargeDepth := 12) (maxSteps := 1000000) -implicitDefEqProofs only [Tryz.ntmps95, go_sem, Nat.reduceAdd, Nat.reduceSub, Nat.reduceMul, Nat.reduceLeDiff, Nat.reduceEqDiff, Nat.reduceGT, Nat.reduceBEq, reduceCtorEq, ↓reduceIte, Int.reduceToNat, Int.reduceLE, Int.reduceLT, Int.reduceNe, Int.reduceEq]
  intro b hb
  refine ⟨fun h1 => .inl ⟨Classical.byContradiction fun hn => ?_, 0, rfl⟩, fun h1 => ⟨by omega, by unfold maxLen; omega, fun c => .inr ⟨c, rfl, rfl⟩⟩⟩
  rw [hb hn] at h1; cases h1
theorem cloneQT (w0 : W0) (l : List DV) (S : St) (h0 : l.length ≤ 1048576) : ACall Tryz.prog w0 95 [dR 5 l] S fun d S' => d = dR 5 l ∧ S' = S := by
  refine acall_frzV (ACall.mono (cloneT w0 l S h0) ?_)
  rintro d S' ⟨b, rfl, rfl⟩
  simp (maxDischargeDepth := 12) (maxSteps := 1000000) -implicitDefEqProofs only [go_sem, Nat.reduceAdd, Nat.reduceSub, Nat.reduceMul, Nat.reduceLeDiff, Nat.reduceEqDiff, Nat.reduceGT, Nat.reduceBEq, reduceCtorEq, ↓reduceIte, Int.reduceToNat, Int.reduceLE, Int.reduceLT, Int.reduceNe, Int.reduceEq]
set_option maxHeartbeats 4000000 in
theorem swapT (w0 : W0) (l m : List DV) (i n : Nat) (f : Bool) (S : St) (hi : i + n ≤ l.length) (h0 : l.length ≤ 524288) (h1 : m.length ≤ 524288) : ACall Tryz.prog w0 119 [dR 5 l, dI i, dI n, .sl 5 f m] S (fun d S' => d = dR 5 (l.take i ++ m ++ l.drop (i + n)) ∧ S' = S) := by
  refine fnS [] mx Tryz.func119 rfl rfl (by kernel_rfl) ?_; simp (maxDischargeDepth := 12) (maxSteps := 1000000) -implicitDefEqProofs only [Tryz.ntmps119, go_sem, Nat.reduceAdd, Nat.reduceSub, Nat.reduceMul, Nat.reduceLeDiff, Nat.reduceEqDiff, Nat.reduceGT, Nat.reduceBEq, reduceCtorEq, ↓reduceIte, Int.reduceToNat, Int.reduceLE, Int.reduceLT, Int.reduceNe, Int.reduceEq,  i_addV i n (by omega)]
  have e : fl [l.take i, m, l.drop (i + n)] = l.take i ++ m ++ l.drop (i + n) := by simp [fl]
  refine ⟨by omega, hi, useQ (concatT w0 [l.take i, m, l.drop (i + n)] _ (by simp) ?_) ?_ ⟨(Wk.full _ _ _).trans (Wk.sl ⟨.refl _, .full _ _ _, .refl _, trivial⟩), trivial⟩⟩
  · rw [e]; simp only [List.length_append, List.length_take, List.length_drop]; omega
  · rw [e]; simp (maxDischargeDepth := 12) (maxSteps := 1000000) -implicitDefEqProofs only [go_sem, Nat.reduceAdd, Nat.reduceSub, Nat.reduceMul, Nat.reduceLeDiff, Nat.reduceEqDiff, Nat.reduceGT, Nat.reduceBEq, reduceCtorEq, ↓reduceIte, Int.reduceToNat, Int.reduceLE, Int.reduceLT, Int.reduceNe, Int.reduceEq]
end Go.Proofs.YtfieabidajilmaaGreat

namespace Go.Proofs.YtfieabidajilmaaGreat
open Aml Go
set_option linter.unusedVariables false
set_option linter.unusedSimpArgs false
set_option maxRecDepth 100000
theorem eqS_refl (a : ByteArray) : eqS a a = true := by simp [eqS]
set_option maxHeartbeats 400000 in
theorem nanCS (w0 : W0) (a : ByteArray) (S : St) : ACall Tryz.prog w0 153 [dS a] S (fun d S' => d = dB false ∧ S' = S) := by
  refine fnS [] mx Tryz.func153 rfl rfl (by kernel_rfl) ?_; simp (maxDischargeDepth := 12) (maxSteps := 1000000) -implicitDefEqProofs only [Tryz.ntmps153, go_sem, Nat.reduceAdd, Nat.reduceSub, Nat.reduceMul, Nat.reduceLeDiff, Nat.reduceEqDiff, Nat.reduceGT, Nat.reduceBEq, reduceCtorEq, ↓reduceIte, Int.reduceToNat, Int.reduceLE, Int.reduceLT, Int.reduceNe, Int.reduceEq,  eqS_refl]
set_option maxHeartbeats 400000 in
theorem nanSS (w0 : W0) (a : ByteArray) (S : St) : ACall Tryz.prog w0 131 [dS a] S (fun d S' => d = dB false ∧ S' = S) := by
  refine fnS [] mx Tryz.func131 rfl rfl (by kernel_rfl) ?_; simp (maxDischargeDepth := 12) (maxSteps := 1000000) -implicitDefEqProofs only [Tryz.ntmps131, go_sem, Nat.reduceAdd, Nat.reduceSub, Nat.reduceMul, Nat.reduceLeDiff, Nat.reduceEqDiff, Nat.reduceGT, Nat.reduceBEq, reduceCtorEq, ↓reduceIte, Int.reduceToNat, Int.reduceLE, Int.reduceLT, Int.reduceNe, Int.reduceEq,  eqS_refl]
set_option maxHeartbeats 400000 in
theorem lessCS (w0 : W0) (a b : ByteArray) (S : St) : ACall Tryz.prog w0 130 [dS a, dS b] S (fun d S' => d = dB (ltS a b) ∧ S' = S) := by
  refine fnS [] mx Tryz.func130 rfl rfl (by kernel_rfl) ?_; simp (maxDischargeDepth := 12) (maxSteps := 1000000) -implicitDefEqProofs only [Tryz.ntmps130, go_sem, Nat.reduceAdd, Nat.reduceSub, Nat.reduceMul, Nat.reduceLeDiff, Nat.reduceEqDiff, Nat.reduceGT, Nat.reduceBEq, reduceCtorEq, ↓reduceIte, Int.reduceToNat, Int.reduceLE, Int.reduceLT, Int.reduceNe, Int.reduceEq]
  refine use1 (nanCS w0 a S) ?_
  simp (maxDischargeDepth := 12) (maxSteps := 1000000) -implicitDefEqProofs only [go_sem, Nat.reduceAdd, Nat.reduceSub, Nat.reduceMul, Nat.reduceLeDiff, Nat.reduceEqDiff, Nat.reduceGT, Nat.reduceBEq, reduceCtorEq, ↓reduceIte, Int.reduceToNat, Int.reduceLE, Int.reduceLT, Int.reduceNe, Int.reduceEq]
set_option maxHeartbeats 4000000 in
theorem wayP (w0 : W0) (n : N) (key : ByteArray) (S : St) (ht : n.l.length ≤ 1048576) (hn : n.l ≠ []) : ACall Tryz.prog w0 94 [eT n, dS key] S (fun d S' => d = dI (way n.l key) ∧ S' = S) := by
  refine fnS [] mx Tryz.func94 rfl rfl (by kernel_rfl) ?_; simp (maxDischargeDepth := 12) (maxSteps := 1000000) -implicitDefEqProofs only [Tryz.ntmps94, go_sem, Nat.reduceAdd, Nat.reduceSub, Nat.reduceMul, Nat.reduceLeDiff, Nat.reduceEqDiff, Nat.reduceGT, Nat.reduceBEq, reduceCtorEq, ↓reduceIte, Int.reduceToNat, Int.reduceLE, Int.reduceLT, Int.reduceNe, Int.reduceEq]
  have h0 := List.length_pos_iff.2 hn
  intro b
  refine loopN [] (n.l.length - 1) [1, 2, 5] (fun k => [(5, dI ((n.l.length - 1 - k : Nat) : Int))]) (fun _ => ⟨(b.n, cT n) :: S.box, S.acc⟩) (fun k => way n.l key = wayF n.l key (n.l.length - 1 - k)) mx (by kernel_rfl) ?_ ?_
  · simp (maxDischargeDepth := 12) (maxSteps := 1000000) -implicitDefEqProofs only [go_sem, Nat.reduceAdd, Nat.reduceSub, Nat.reduceMul, Nat.reduceLeDiff, Nat.reduceEqDiff, Nat.reduceGT, Nat.reduceBEq, reduceCtorEq, ↓reduceIte, Int.reduceToNat, Int.reduceLE, Int.reduceLT, Int.reduceNe, Int.reduceEq, cT]
    exact ⟨rfl, by rw [w64 (by omega) (by omega)]; omega⟩
  · intro k hk hw
    simp (maxDischargeDepth := 12) (maxSteps := 1000000) -implicitDefEqProofs only [go_sem, Nat.reduceAdd, Nat.reduceSub, Nat.reduceMul, Nat.reduceLeDiff, Nat.reduceEqDiff, Nat.reduceGT, Nat.reduceBEq, reduceCtorEq, ↓reduceIte, Int.reduceToNat, Int.reduceLE, Int.reduceLT, Int.reduceNe, Int.reduceEq, cT]
    refine ⟨fun hg => ?_, fun hg => ?_⟩
    · obtain ⟨i, hi⟩ : ∃ i, n.l.length - 1 - k = i + 1 := ⟨n.l.length - 1 - k - 1, by omega⟩
      have hi' : n.l.length - 1 - (k + 1) = i := by omega
      rw [hi] at hw ⊢
      rw [hi']
      refine ⟨by omega, fun a ha => ⟨fun hle => ?_, fun hle => ⟨by omega, ?_, ?_⟩⟩⟩
      · rw [hw]; simp only [wayF, ha, hle]; rfl
      · rw [hw]; simp only [wayF, ha, hle]; rfl
      · rw [w64 (by omega) (by omega)]; omega
    · have : n.l.length - 1 - k = 0 := by omega
      rw [hw, this]; rfl
set_option maxHeartbeats 4000000 in
theorem sizesP (w0 : W0) (n : N) (S : St) (h : smN n) (ht : n.l.length ≤ 1048576) : ACall Tryz.prog w0 118 [eT n] S (fun d S' => d = dL (sizesN n) ∧ S' = S) := by
  refine fnS [] mx Tryz.func118 rfl rfl (by kernel_rfl) ?_; simp (maxDischargeDepth := 12) (maxSteps := 1000000) -implicitDefEqProofs only [Tryz.ntmps118, go_sem, Nat.reduceAdd, Nat.reduceSub, Nat.reduceMul, Nat.reduceLeDiff, Nat.reduceEqDiff, Nat.reduceGT, Nat.reduceBEq, reduceCtorEq, ↓reduceIte, Int.reduceToNat, Int.reduceLE, Int.reduceLT, Int.reduceNe, Int.reduceEq]
  intro b
  refine growK 3 1 rfl (by omega) fun lb => ?_
  refine loopN [] n.l.length [1, 3, 9, 10, 11] (fun k => [(3, .acc lb.n k), (11, dI k)]) (fun k => ⟨(b.n, cT n) :: S.box, (lb.n, .arr 1 (((sizesN n).take k).map dI)) :: S.acc⟩) (fun _ => True) mx (by kernel_rfl) ?_ ?_
  · simp (maxDischargeDepth := 12) (maxSteps := 1000000) -implicitDefEqProofs only [go_sem, Nat.reduceAdd, Nat.reduceSub, Nat.reduceMul, Nat.reduceLeDiff, Nat.reduceEqDiff, Nat.reduceGT, Nat.reduceBEq, reduceCtorEq, ↓reduceIte, Int.reduceToNat, Int.reduceLE, Int.reduceLT, Int.reduceNe, Int.reduceEq, cT]
  · intro k hk _
    have hl : (sizesN n).length = n.l.length := by unfold sizesN; rw [List.length_map]
    have hmin : min k (sizesN n).length = k := by omega
    simp (maxDischargeDepth := 12) (maxSteps := 1000000) -implicitDefEqProofs only [go_sem, Nat.reduceAdd, Nat.reduceSub, Nat.reduceMul, Nat.reduceLeDiff, Nat.reduceEqDiff, Nat.reduceGT, Nat.reduceBEq, reduceCtorEq, ↓reduceIte, Int.reduceToNat, Int.reduceLE, Int.reduceLT, Int.reduceNe, Int.reduceEq, hmin, cT]
    have e2 : k < n.l.length → IntKind.i64.wrap ((k : Int) + 1) = ((k + 1 : Nat) : Int) := fun h => i_oneV k (by omega)
    refine ⟨fun hlt => ⟨hlt, fun a ha => ?_⟩, fun hge => by rw [List.take_of_length_le (by omega)]; exact .full _ _ _⟩
    have hb := (smC_iff a).1 ((smN_iff n).1 h a (List.mem_of_getElem? ha))
    have hs : (sizesN n).take (k + 1) = (sizesN n).take k ++ [sizeC n.leaf a] := by
      rw [List.take_add_one]; unfold sizesN; rw [List.getElem?_map, ha]; rfl
    have e1 : IntKind.i64.wrap (4 + (a.key.size : Int)) = 4 + a.key.size := w64 (by omega) (by omega)
    have fin : ∀ (B : List (Nat × List DV)) (z : Int), z = sizeC n.leaf a → Aml.Sub ⟨B, (lb.n, .arr 1 (((sizesN n).take (k + 1)).map dI)) :: S.acc⟩ ⟨B, (lb.n, .arr 1 (((sizesN n).take k).map dI ++ [.v (.int .i64 z)])) :: S.acc⟩ := fun B z e => by
      rw [hs, List.map_append, e]; exact .refl _
    have hm : k + 1 ≤ maxLen := by unfold maxLen; omega
    have h8 : (k + 1) * 8 ≤ 140737488355328 := by omega
    refine ⟨fun hlf => ?_, fun hlf => ⟨h8, hm, hlt, e2 hlt, fin _ _ ?_⟩⟩
    · rw [if_pos hlf]
      refine ⟨hlt, fun a3 ha3 => ?_⟩
      cases getE ha ha3
      refine use1 (needP w0 _ _) ?_
      simp (maxDischargeDepth := 12) (maxSteps := 1000000) -implicitDefEqProofs only [go_sem, Nat.reduceAdd, Nat.reduceSub, Nat.reduceMul, Nat.reduceLeDiff, Nat.reduceEqDiff, Nat.reduceGT, Nat.reduceBEq, reduceCtorEq, ↓reduceIte, Int.reduceToNat, Int.reduceLE, Int.reduceLT, Int.reduceNe, Int.reduceEq, hmin]
      refine ⟨fun hn => ⟨h8, hm, hlt, e2 hlt, fin _ _ ?_⟩, fun hn => ⟨fun h4 => ?_, fun h4 => ⟨h8, hm, hlt, e2 hlt, fin _ _ ?_⟩⟩⟩
      · unfold sizeC; rw [if_pos hlf, if_pos (.inl (by omega))]; exact w64 (by omega) (by omega)
      · omega
      · unfold sizeC; rw [if_pos hlf, if_neg (by omega), w64 (n := 3 + (a.data.size : Int)) (by omega) (by omega), w64 (by omega) (by omega)]; omega
    · unfold sizeC; rw [if_neg (by rw [hlf]; simp)]; exact e1
end Go.Proofs.YtfieabidajilmaaGreat
