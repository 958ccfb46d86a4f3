/-
  Statements whose order is open, walked in an order of one's own: what looks at no store, what reads the store of the beginning, what keeps it, what else there is; Keys looked for; nodes parted and put together: what the program computes; A kid parted, two neighbours put together, a branch mended: what the program computes; A branch mended: what the program computes; Keys put and found: what the program computes; Keys found and deleted: what the program computes; An own row as a box, and back. By an AI agent.
-/
import Derived.Test.YtfieabidajilmaaGreatMR5
import Derived.Test.YtfieabidajilmaaGreatMR6
namespace Aml.Y
open Go Go.RowKit
set_option linter.unusedVariables false
set_option linter.unusedSimpArgs false

/-- 0: looks at no store; 1: reads the store of the beginning; 2: keeps that; 4: makes a box; 3: else. -/
def cls (gs ns : List Nat) (i : Nat) (op : Op) : Nat := if gs.contains i then 2 else if ns.contains i then 3 else match Z.kX op with
  | 0 => 0
  | 1 => 1
  | 2 => 4
  | _ => 3
/-- May two that have no order change places? -/
def okP (a b : Nat) : Bool := a == 0 || (a == 1 && (decide (b < 3) || b == 4)) || (a == 4 && b == 4)
/-- The same store, but for its order. -/
structure StP (S T : St) : Prop where
  box : S.box.Perm T.box
  acc : S.acc.Perm T.acc
theorem StP.refl (S : St) : StP S S := ⟨.refl _, .refl _⟩
theorem StP.symm {S T : St} (h : StP S T) : StP T S := ⟨h.box.symm, h.acc.symm⟩
theorem StP.trans {S T U : St} (h : StP S T) (k : StP T U) : StP S U := ⟨h.box.trans k.box, h.acc.trans k.acc⟩
theorem StP.rel {w0 : W0} {g : Gh} {S T : St} {w : World} (h : StP S T) (r : Rel w0 g S w) : Rel w0 g T w :=
  ⟨r.below, r.imm, (h.box.map _).nodup_iff.1 r.nb, (h.acc.map _).nodup_iff.1 r.na, r.accw, r.fresh, fun l o ho => r.top l o (h.acc.mem_iff.2 ho), let ⟨ow, h1, h2⟩ := r.own
    ⟨ow, fun b ds hb => h1 b ds (h.box.mem_iff.2 hb), fun l o hl => h2 l o (h.acc.mem_iff.2 hl)⟩⟩
theorem nin_all {α : Type} : ∀ {l : List (Nat × α)} {b : Nat}, nin l b → ∀ p, p ∈ l → p.1 ≠ b
  | [], b, _, p, h => by cases h
  | (k, x) :: t, b, h, p, hp => by
      rcases List.mem_cons.1 hp with rfl | hp
      · exact h.1
      · exact nin_all h.2.2 p hp
theorem nin_ex {α : Type} (l : List (Nat × α)) : ∃ b, nin l b := by
  have : ∃ b, ∀ p, p ∈ l → p.1 < b := by
    induction l with
    | nil => exact ⟨0, fun p h => by cases h⟩
    | cons a l ih =>
      obtain ⟨b, hb⟩ := ih
      refine ⟨a.1 + b + 1, fun p hp => ?_⟩
      rcases List.mem_cons.1 hp with rfl | hp
      · omega
      · have := hb p hp; omega
  obtain ⟨b, hb⟩ := this
  exact ⟨b, nin_of fun p hp e => by have := hb p hp; omega⟩
theorem StP.nin {S T : St} (h : StP S T) {b : Nat} (k : nin S.box b) : nin T.box b := nin_of fun p hp => nin_all k p (h.box.mem_iff.2 hp)
theorem StP.yields {P : Program} {w0 : W0} {o : Oper} {ρ : Operand → DV} {S T : St} {K : DV → St → Prop} (h : StP S T) (y : YieldsE P w0 o ρ S K) : YieldsE P w0 o ρ T K :=
  fun g w r h1 h2 h3 => y g w r (h.symm.rel h1) h2 h3
/-- The store of the beginning is in it. -/
structure Hm (X T : St) : Prop where
  box : ∀ b x, lk X.box b = some x → (b, x) ∈ T.box
  acc : ∀ l o, lk X.acc l = some o → (l, o) ∈ T.acc
theorem Hm.of {X T : St} (h : Has X T) : Hm X T := ⟨fun b x hb => lk_mem (h.box b x hb), fun l o hl => lk_mem (h.acc l o hl)⟩
theorem Hm.perm {X S T : St} (h : Hm X S) (k : StP S T) : Hm X T := ⟨fun b x hb => k.box.mem_iff.1 (h.box b x hb), fun l o hl => k.acc.mem_iff.1 (h.acc l o hl)⟩
theorem Hm.has {X T : St} {w0 : W0} {g : Gh} {w : World} (h : Hm X T) (r : Rel w0 g T w) : Has X T := ⟨fun b x hb => lk_of_mem r.nb (h.box b x hb), fun l o hl => lk_of_mem r.na (h.acc l o hl)⟩
/-- Of some order of the store. -/
def PC (F : List DV → St → Prop) (fr : List DV) (S : St) : Prop := ∃ T, StP T S ∧ F fr T
theorem PC.mono {F G : List DV → St → Prop} (h : ∀ fr S, F fr S → G fr S) {fr : List DV} {S : St} (k : PC F fr S) : PC G fr S := let ⟨T, a, b⟩ := k; ⟨T, a, h _ _ b⟩
def Clo (K : List DV → St → Prop) : Prop := ∀ fr S T, StP S T → K fr S → K fr T
theorem PC.clo (F : List DV → St → Prop) : Clo (PC F) := fun _ _ _ h ⟨U, a, b⟩ => ⟨U, a.trans h, b⟩
def bodyO (P : Program) (w0 : W0) (S0 : St) (c : Nat) (o : Oper) (fr : List DV) (S : St) (K : List DV → St → Prop) : Prop :=
  (c = 0 ∧ ∃ d, (∀ S', QY P w0 S' o fr d) ∧ K (pt fr o.dst d) S) ∨
  (c = 1 ∧ Hm S0 S ∧ ∃ d, (∀ S', Hm S0 S' → QY P w0 S' o fr d) ∧ K (pt fr o.dst d) S) ∨
  (c = 2 ∧ YieldsE P w0 o (ev fr) S fun d S' => Hm S0 S' ∧ K (pt fr o.dst d) S') ∨
  (c = 3 ∧ YieldsE P w0 o (ev fr) S fun d S' => K (pt fr o.dst d) S') ∨
  (c = 4 ∧ Hm S0 S ∧ ∃ t, o.op = .alloc t ∧ okE (zD P t) = true ∧ ∀ b, nin S.box b → K (pt fr o.dst (.v (.pointer (some ⟨b, 0, none⟩)))) ⟨(b, cd (zD P t)) :: S.box, S.acc⟩)
def tauO (P : Program) (w0 : W0) (S0 : St) (c : Nat) (ops : Array Oper) (o : Oper) (fr : List DV) (S : St) (K : List DV → St → Prop) : Prop :=
  (wantB ops fr o.guard = some true ∧ bodyO P w0 S0 c o fr S K) ∨ (wantB ops fr o.guard = some false ∧ K (pt fr o.dst ud) S)

section
variable {P : Program} {w0 : W0} {S0 : St} {ops : Array Oper} {md : Region.Mode}
theorem bodyO_mono {c : Nat} {o : Oper} {fr : List DV} {S : St} {K K' : List DV → St → Prop} (h : ∀ fr S, K fr S → K' fr S) (b : bodyO P w0 S0 c o fr S K) : bodyO P w0 S0 c o fr S K' := by
  rcases b with ⟨c, d, q, k⟩ | ⟨c, hS, d, q, k⟩ | ⟨c, q⟩ | ⟨c, q⟩ | ⟨c, hS, t, ht, hz, k⟩
  · exact .inl ⟨c, d, q, h _ _ k⟩
  · exact .inr (.inl ⟨c, hS, d, q, h _ _ k⟩)
  · exact .inr (.inr (.inl ⟨c, yields_mono (fun d S hk => ⟨hk.1, h _ _ hk.2⟩) q⟩))
  · exact .inr (.inr (.inr (.inl ⟨c, yields_mono (fun d S hk => h _ _ hk) q⟩)))
  · exact .inr (.inr (.inr (.inr ⟨c, hS, t, ht, hz, fun b hb => h _ _ (k b hb)⟩)))
theorem tauO_mono {c : Nat} {o : Oper} {fr : List DV} {S : St} {K K' : List DV → St → Prop} (h : ∀ fr S, K fr S → K' fr S) (b : tauO P w0 S0 c ops o fr S K) : tauO P w0 S0 c ops o fr S K' :=
  b.imp (fun ⟨a, b⟩ => ⟨a, bodyO_mono h b⟩) fun ⟨a, b⟩ => ⟨a, h _ _ b⟩
/-- A store's order plays no part. -/
theorem tauO_clo {c : Nat} {o : Oper} {K : List DV → St → Prop} (hK : Clo K) : Clo fun fr S => tauO P w0 S0 c ops o fr S K := fun fr S T hp h => by
  rcases h with ⟨g, b⟩ | ⟨g, k⟩
  · refine .inl ⟨g, ?_⟩
    rcases b with ⟨c, d, q, k⟩ | ⟨c, hS, d, q, k⟩ | ⟨c, q⟩ | ⟨c, q⟩ | ⟨c, hS, t, ht, hz, k⟩
    · exact .inl ⟨c, d, q, hK _ _ _ hp k⟩
    · exact .inr (.inl ⟨c, hS.perm hp, d, q, hK _ _ _ hp k⟩)
    · exact .inr (.inr (.inl ⟨c, hp.yields q⟩))
    · exact .inr (.inr (.inr (.inl ⟨c, hp.yields q⟩)))
    · exact .inr (.inr (.inr (.inr ⟨c, hS.perm hp, t, ht, hz, fun b hb => hK _ ⟨(b, cd (zD P t)) :: S.box, S.acc⟩ _ ⟨hp.box.cons _, hp.acc⟩ (k b (hp.symm.nin hb))⟩)))
  · exact .inr ⟨g, hK _ _ _ hp k⟩
/-- What another one puts elsewhere is not seen. -/
theorem bodyO_put {c : Nat} {o : Oper} {fr : List DV} {S : St} {K : List DV → St → Prop} {dst : Option Tmp} {e : DV} (h1 : ∀ t, dst = some t → t ∉ o.looksAt ops) (h2 : ∀ t, dst = some t → o.dst ≠ some t) :
    bodyO P w0 S0 c o (pt fr dst e) S K ↔ bodyO P w0 S0 c o fr S fun fr' S' => K (pt fr' dst e) S' := by
  have hq : ∀ S d, QY P w0 S o (pt fr dst e) d ↔ QY P w0 S o fr d := fun S d =>
    ⟨yields_congr (fun x hx => ev_put (ops := ops) h1 x hx), yields_congr (fun x hx => (ev_put (ops := ops) h1 x hx).symm)⟩
  have hc : ∀ d, pt (pt fr dst e) o.dst d = pt (pt fr o.dst d) dst e := fun d => pt_comm fr e d h2
  have hy : ∀ K, YieldsE P w0 o (ev (pt fr dst e)) S K ↔ YieldsE P w0 o (ev fr) S K := fun K =>
    ⟨yields_congr (fun x hx => ev_put (ops := ops) h1 x hx), yields_congr (fun x hx => (ev_put (ops := ops) h1 x hx).symm)⟩
  unfold bodyO
  simp only [hq, hc, hy]
theorem tauO_put {c : Nat} {o : Oper} {fr : List DV} {S : St} {K : List DV → St → Prop} {dst : Option Tmp} {e : DV} (h1 : ∀ t, dst = some t → t ∉ o.looksAt ops) (h2 : ∀ t, dst = some t → o.dst ≠ some t) :
    tauO P w0 S0 c ops o (pt fr dst e) S K ↔ tauO P w0 S0 c ops o fr S fun fr' S' => K (pt fr' dst e) S' := by
  unfold tauO
  rw [want_put h1, bodyO_put h1 h2, pt_comm fr e ud h2]
theorem bodyO_monoP {c : Nat} {o : Oper} {fr : List DV} {S : St} {K K' : List DV → St → Prop} (h : ∀ e S, K (pt fr o.dst e) S → K' (pt fr o.dst e) S) (b : bodyO P w0 S0 c o fr S K) : bodyO P w0 S0 c o fr S K' := by
  rcases b with ⟨c, d, q, k⟩ | ⟨c, hS, d, q, k⟩ | ⟨c, q⟩ | ⟨c, q⟩ | ⟨c, hS, t, ht, hz, k⟩
  · exact .inl ⟨c, d, q, h _ _ k⟩
  · exact .inr (.inl ⟨c, hS, d, q, h _ _ k⟩)
  · exact .inr (.inr (.inl ⟨c, yields_mono (fun d S hk => ⟨hk.1, h _ _ hk.2⟩) q⟩))
  · exact .inr (.inr (.inr (.inl ⟨c, yields_mono (fun d S hk => h _ _ hk) q⟩)))
  · exact .inr (.inr (.inr (.inr ⟨c, hS, t, ht, hz, fun b hb => h _ _ (k b hb)⟩)))
theorem tauO_monoP {c : Nat} {o : Oper} {fr : List DV} {S : St} {K K' : List DV → St → Prop} (h : ∀ e S, K (pt fr o.dst e) S → K' (pt fr o.dst e) S) (b : tauO P w0 S0 c ops o fr S K) : tauO P w0 S0 c ops o fr S K' :=
  b.imp (fun ⟨a, b⟩ => ⟨a, bodyO_monoP h b⟩) fun ⟨a, b⟩ => ⟨a, h _ _ b⟩
theorem Hm.cons {X S : St} (h : Hm X S) {b : Nat} (v : List DV) : Hm X ⟨(b, v) :: S.box, S.acc⟩ := ⟨fun c x hc => List.mem_cons_of_mem _ (h.box c x hc), fun l o hl => h.acc l o hl⟩
/-- Two that are apart change places. -/
theorem tauO_comm0 {cx cy : Nat} {x y : Oper} (hap : x.apart ops y = true) (hk : okP cx cy = true) {fr : List DV} {S : St} {K : List DV → St → Prop} (hK : Clo K) (h : tauO P w0 S0 cx ops x fr S fun fr S => tauO P w0 S0 cy ops y fr S K) :
    tauO P w0 S0 cy ops y fr S fun fr S => tauO P w0 S0 cx ops x fr S K := by
  obtain ⟨b1, b2, b3⟩ := Oper.apart_spec hap
  have hw : ∀ e, wantB ops (pt fr y.dst e) x.guard = wantB ops fr x.guard := fun e => want_put b3
  have hq : ∀ {S d e}, QY P w0 S x fr d → QY P w0 S x (pt fr y.dst e) d := fun {S d e} q => yields_congr (fun z hz => (ev_put (ops := ops) b3 z hz).symm) q
  rcases h with ⟨hg, hb⟩ | ⟨hg, hb⟩
  · rcases hb with ⟨c, d, q, k⟩ | ⟨c, hS, d, q, k⟩ | ⟨c, -⟩ | ⟨c, -⟩ | ⟨c, hS, t, ht, hz, k⟩
    · rw [tauO_put b1 b2] at k
      exact tauO_monoP (fun e S' hk => .inl ⟨by rw [hw]; exact hg, .inl ⟨c, d, fun S'' => hq (q S''), hk⟩⟩) k
    · rw [tauO_put b1 b2] at k
      rcases k with ⟨g2, k⟩ | ⟨g2, k⟩
      · rcases k with ⟨c2, d2, q2, k⟩ | ⟨c2, hS2, d2, q2, k⟩ | ⟨c2, q2⟩ | ⟨c2, -⟩ | ⟨c2, hS2, t2, ht2, hz2, k2⟩
        · exact .inl ⟨g2, .inl ⟨c2, d2, q2, .inl ⟨by rw [hw]; exact hg, .inr (.inl ⟨c, hS, d, fun S' h' => hq (q S' h'), k⟩)⟩⟩⟩
        · exact .inl ⟨g2, .inr (.inl ⟨c2, hS2, d2, q2, .inl ⟨by rw [hw]; exact hg, .inr (.inl ⟨c, hS, d, fun S' h' => hq (q S' h'), k⟩)⟩⟩)⟩
        · exact .inl ⟨g2, .inr (.inr (.inl ⟨c2, yields_mono (fun e S' h' => ⟨h'.1, .inl ⟨by rw [hw]; exact hg, .inr (.inl ⟨c, h'.1, d, fun S'' h'' => hq (q S'' h''), h'.2⟩)⟩⟩) q2⟩))⟩
        · rw [c, c2] at hk; exact absurd hk (by decide)
        · exact .inl ⟨g2, .inr (.inr (.inr (.inr ⟨c2, hS2, t2, ht2, hz2, fun b hb => .inl ⟨by rw [hw]; exact hg, .inr (.inl ⟨c, Hm.cons hS _, d, fun S'' h'' => hq (q S'' h''), k2 b hb⟩)⟩⟩)))⟩
      · exact .inr ⟨g2, .inl ⟨by rw [hw]; exact hg, .inr (.inl ⟨c, hS, d, fun S' h' => hq (q S' h'), k⟩)⟩⟩
    · rw [c] at hk; simp [okP] at hk
    · rw [c] at hk; simp [okP] at hk
    · have hc2 : cy = 4 := by rw [c] at hk; simpa [okP] using hk
      subst hc2
      rcases Classical.em (wantB ops fr y.guard = some true) with g2 | g2
      · refine .inl ⟨g2, .inr (.inr (.inr (.inr ⟨rfl, hS, ?_⟩)))⟩
        obtain ⟨a0, ha0⟩ := nin_ex S.box
        have k0 : tauO P w0 S0 4 ops y (pt fr x.dst (.v (.pointer (some ⟨a0, 0, none⟩)))) ⟨(a0, cd (zD P t)) :: S.box, S.acc⟩ K := k a0 ha0
        rw [tauO_put b1 b2] at k0
        have gen : ∀ a, nin S.box a → ∃ t2, y.op = .alloc t2 ∧ okE (zD P t2) = true ∧ ∀ b, nin ((a, cd (zD P t)) :: S.box) b → K (pt (pt fr y.dst (.v (.pointer (some ⟨b, 0, none⟩)))) x.dst (.v (.pointer (some ⟨a, 0, none⟩)))) ⟨(b, cd (zD P t2)) :: (a, cd (zD P t)) :: S.box, S.acc⟩ := fun a ha => by
          have k1 : tauO P w0 S0 4 ops y (pt fr x.dst (.v (.pointer (some ⟨a, 0, none⟩)))) ⟨(a, cd (zD P t)) :: S.box, S.acc⟩ K := k a ha
          rw [tauO_put b1 b2] at k1
          rcases k1 with ⟨-, b⟩ | ⟨g3, -⟩
          · rcases b with ⟨c2, -⟩ | ⟨c2, -⟩ | ⟨c2, -⟩ | ⟨c2, -⟩ | ⟨c2, -, t2, ht2, hz2, k2⟩
            · cases c2
            · cases c2
            · cases c2
            · cases c2
            · exact ⟨t2, ht2, hz2, fun b hb => k2 b hb⟩
          · rw [g2] at g3; cases g3
        obtain ⟨t2, ht2, hz2, -⟩ := gen a0 ha0
        refine ⟨t2, ht2, hz2, fun b hb => .inl ⟨by rw [hw]; exact hg, .inr (.inr (.inr (.inr ⟨c, Hm.cons hS _, t, ht, hz, fun a ha => ?_⟩)))⟩⟩
        obtain ⟨t3, ht3, -, k3⟩ := gen a ha.2.2
        rw [ht2] at ht3; cases ht3
        exact hK _ ⟨(b, cd (zD P t2)) :: (a, cd (zD P t)) :: S.box, S.acc⟩ _ ⟨.swap _ _ _, .refl _⟩ (k3 b ⟨fun e => ha.2.1 e, fun e => ha.1 e, hb⟩)
      · obtain ⟨a0, ha0⟩ := nin_ex S.box
        have k0 : tauO P w0 S0 4 ops y (pt fr x.dst (.v (.pointer (some ⟨a0, 0, none⟩)))) ⟨(a0, cd (zD P t)) :: S.box, S.acc⟩ K := k a0 ha0
        rw [tauO_put b1 b2] at k0
        rcases k0 with ⟨g3, -⟩ | ⟨g3, -⟩
        · exact absurd g3 g2
        · refine .inr ⟨g3, .inl ⟨by rw [hw]; exact hg, .inr (.inr (.inr (.inr ⟨c, hS, t, ht, hz, fun a ha => ?_⟩)))⟩⟩
          have k1 : tauO P w0 S0 4 ops y (pt fr x.dst (.v (.pointer (some ⟨a, 0, none⟩)))) ⟨(a, cd (zD P t)) :: S.box, S.acc⟩ K := k a ha
          rw [tauO_put b1 b2] at k1
          rcases k1 with ⟨g4, -⟩ | ⟨g4, k1⟩
          · exact absurd g4 g2
          · exact k1
  · rw [tauO_put b1 b2] at hb
    exact tauO_monoP (fun e S' hk => .inr ⟨by rw [hw]; exact hg, hk⟩) hb
theorem tauO_comm {cx cy : Nat} {x y : Oper} (hap : x.apart ops y = true) (hk : okP cx cy = true) {fr : List DV} {S : St} {K : List DV → St → Prop} (h : tauO P w0 S0 cx ops x fr S (PC fun fr S => tauO P w0 S0 cy ops y fr S (PC K))) :
    tauO P w0 S0 cy ops y fr S (PC fun fr S => tauO P w0 S0 cx ops x fr S (PC K)) :=
  tauO_mono (fun fr S h => ⟨S, .refl S, h⟩) (tauO_comm0 hap hk (PC.clo K) (tauO_mono (fun fr S ⟨T, hp, h⟩ => tauO_clo (PC.clo K) _ _ _ hp h) h))

def tauI (P : Program) (w0 : W0) (S0 : St) (gs ns : List Nat) (ops : Array Oper) (i : Nat) (fr : List DV) (S : St) (K : List DV → St → Prop) : Prop := match ops[i]? with
  | none => K fr S
  | some o => tauO P w0 S0 (cls gs ns i o.op) ops o fr S K
def wpO (P : Program) (w0 : W0) (S0 : St) (gs ns : List Nat) (md : Region.Mode) (ops : Array Oper) (K : List DV → St → Prop) : Nat → Array Bool → List DV → St → Prop
  | 0, listed, fr, S => Region.ready md ops listed = [] ∧ K fr S
  | fuel + 1, listed, fr, S => (Region.ready md ops listed = [] → K fr S) ∧ ∀ i ∈ Region.ready md ops listed, tauI P w0 S0 gs ns ops i fr S (PC (wpO P w0 S0 gs ns md ops K fuel (listed.setIfInBounds i true)))
theorem wpO_first {gs ns D : List Nat} {K : List DV → St → Prop} {i : Nat} {oi : Oper} (hi : ops[i]? = some oi) :
    ∀ (fuel : Nat) (listed : Array Bool) (fr : List DV) (S : St),
      (∀ j, j ∈ D → listed.getD j true = false ∧ ∃ oj, ops[j]? = some oj ∧ ∃ e ∈ oj.after, Region.binds md e = true ∧ (e.on = i ∨ e.on ∈ D)) →
      (∀ j oj, ops[j]? = some oj → j ≠ i → listed.getD j true = false → j ∉ D → oi.apart ops oj = true ∧ okP (cls gs ns i oi.op) (cls gs ns j oj.op) = true) →
      (∀ l : List Nat, l.Nodup → (∀ k, k ∈ l → listed.getD k true = false) → l.length ≤ fuel + 1) →
      i ∈ Region.ready md ops listed → tauO P w0 S0 (cls gs ns i oi.op) ops oi fr S (PC (wpO P w0 S0 gs ns md ops K fuel (listed.setIfInBounds i true))) → wpO P w0 S0 gs ns md ops K (fuel + 1) listed fr S := by
  intro fuel
  induction fuel with
  | zero =>
    intro listed fr S _ _ hcnt hr H
    refine ⟨fun h => (by rw [h] at hr; cases hr), fun j hj => ?_⟩
    by_cases hji : j = i
    · subst hji; unfold tauI; simp only [hi]; exact H
    · exfalso
      have := hcnt [i, j] (by simp [Ne.symm hji]) fun k hk => by
        simp only [List.mem_cons, List.not_mem_nil, or_false] at hk
        rcases hk with rfl | rfl
        · exact (mem_ready.1 hr).1
        · exact (mem_ready.1 hj).1
      simp at this
  | succ fuel ih =>
    intro listed fr S hD hfree hcnt hr H
    refine ⟨fun h => (by rw [h] at hr; cases hr), fun j hj => ?_⟩
    by_cases hji : j = i
    · subst hji; unfold tauI; simp only [hi]; exact H
    · obtain ⟨hjun, oj, hoj, hall⟩ := mem_ready.1 hj
      have hlis : ∀ e ∈ oj.after, Region.binds md e = true → listed.getD e.on true = false → False := fun e he hb h0 => by
        have h1 := hall e he hb
        rcases Nat.lt_or_ge e.on listed.size with h' | h'
        · simp [h'] at h0 h1; rw [h0] at h1; cases h1
        · simp [Array.getElem?_eq_none h'] at h1
      have hjD : j ∉ D := fun hjD => by
        obtain ⟨_, oj', ho, e, he, hb, hor⟩ := hD j hjD
        rw [hoj] at ho; cases ho
        rcases hor with h | h
        · exact hlis e he hb (by rw [h]; exact (mem_ready.1 hr).1)
        · exact hlis e he hb (hD _ h).1
      have h1 : tauO P w0 S0 (cls gs ns i oi.op) ops oi fr S (PC fun fr S => tauO P w0 S0 (cls gs ns j oj.op) ops oj fr S (PC (wpO P w0 S0 gs ns md ops K fuel ((listed.setIfInBounds i true).setIfInBounds j true)))) :=
        tauO_mono (fun fr S h => PC.mono (fun fr S h => by
          have := h.2 j (ready_mono hj hji)
          unfold tauI at this; simp only [hoj] at this; exact this) h) H
      have hc := hfree j oj hoj hji hjun hjD
      have h2 := tauO_comm hc.1 hc.2 h1
      have hfree' : ∀ k ok, ops[k]? = some ok → k ≠ i → (listed.setIfInBounds j true).getD k true = false → k ∉ D → oi.apart ops ok = true ∧ okP (cls gs ns i oi.op) (cls gs ns k ok.op) = true := fun k ok hk hki hun hno => by
        refine hfree k ok hk hki ?_ hno
        by_cases hjk : j = k
        · subst hjk; exact hjun
        · rw [getD_set_ne true hjk] at hun; exact hun
      have hD' : ∀ k, k ∈ D → (listed.setIfInBounds j true).getD k true = false ∧ ∃ ok, ops[k]? = some ok ∧ ∃ e ∈ ok.after, Region.binds md e = true ∧ (e.on = i ∨ e.on ∈ D) := fun k hk => by
        refine ⟨?_, (hD k hk).2⟩
        rw [getD_set_ne true (show j ≠ k from fun e => hjD (by rw [e]; exact hk))]; exact (hD k hk).1
      unfold tauI
      simp only [hoj]
      have hcnt' : ∀ l : List Nat, l.Nodup → (∀ k, k ∈ l → (listed.setIfInBounds j true).getD k true = false) → l.length ≤ fuel + 1 := by
        intro l hn hl
        have hjs : j < listed.size := by
          rcases Nat.lt_or_ge j listed.size with h | h
          · exact h
          · rw [Array.getD_eq_getD_getElem?, Array.getElem?_eq_none h] at hjun; cases hjun
        have hjl : j ∉ l := fun hj => by
          have := hl j hj
          rw [Array.getD_eq_getD_getElem?, Array.getElem?_setIfInBounds] at this
          simp [hjs] at this
        have := hcnt (j :: l) (List.nodup_cons.2 ⟨hjl, hn⟩) fun k hk => by
          rcases List.mem_cons.1 hk with rfl | hk
          · exact hjun
          · have := hl k hk
            rw [getD_set_ne true (show j ≠ k from fun e => hjl (e ▸ hk))] at this
            exact this
        simp at this; omega
      refine tauO_mono (fun fr S h => PC.mono (fun fr S h => ih (listed.setIfInBounds j true) fr S hD' hfree' hcnt' (ready_mono hr (Ne.symm hji)) ?_) h) h2
      rw [Array.setIfInBounds_comm _ _ hji]
      exact h
/-- What comes behind an operation at any rate. -/
def depO (md : Region.Mode) (ops : Array Oper) (listed : Array Bool) (i : Nat) : List Nat := (List.range ops.size).foldl (fun D j => match ops[j]? with
  | some oj => if !(j == i) && !listed.getD j true && oj.after.any (fun e => Region.binds md e && (e.on == i || D.contains e.on)) then j :: D else D
  | none => D) []
/-- Is an operation free to come first? -/
def freeD (gs ns : List Nat) (md : Region.Mode) (ops : Array Oper) (listed : Array Bool) (i : Nat) (D : List Nat) : Bool := (D.all fun j => !listed.getD j true && match ops[j]? with
  | some oj => oj.after.any (fun e => Region.binds md e && (e.on == i || D.contains e.on))
  | none => false) && (List.range ops.size).all fun j => match ops[i]?, ops[j]? with
  | some oi, some oj => j == i || listed.getD j true || D.contains j || (oi.apart ops oj && okP (cls gs ns i oi.op) (cls gs ns j oj.op))
  | _, _ => false
def freeO (gs ns : List Nat) (md : Region.Mode) (ops : Array Oper) (listed : Array Bool) (i : Nat) : Bool := freeD gs ns md ops listed i (depO md ops listed i)
def lexO (gs ns : List Nat) (md : Region.Mode) (ops : Array Oper) : List Nat → Array Bool → Bool
  | [], listed => (Region.ready md ops listed).isEmpty
  | k :: ks, listed => (Region.ready md ops listed).contains k && freeO gs ns md ops listed k && lexO gs ns md ops ks (listed.setIfInBounds k true)
theorem freeD_dep {gs ns D : List Nat} {listed : Array Bool} {i : Nat} (h : freeD gs ns md ops listed i D = true) : ∀ j, j ∈ D → listed.getD j true = false ∧ ∃ oj, ops[j]? = some oj ∧ ∃ e ∈ oj.after, Region.binds md e = true ∧ (e.on = i ∨ e.on ∈ D) := by
  intro j hj
  simp only [freeD, Bool.and_eq_true] at h
  have := List.all_eq_true.1 h.1 j hj
  simp only [Bool.and_eq_true, Bool.not_eq_true'] at this
  refine ⟨this.1, ?_⟩
  obtain ⟨-, h2⟩ := this
  split at h2
  · rename_i oj ho
    obtain ⟨e, he, h3⟩ := Array.any_eq_true'.1 h2
    simp only [Bool.and_eq_true, Bool.or_eq_true, beq_iff_eq, List.contains_iff_mem] at h3
    exact ⟨oj, ho, e, he, h3⟩
  · cases h2
theorem freeD_spec {gs ns D : List Nat} {listed : Array Bool} {i : Nat} {oi : Oper} (hi : ops[i]? = some oi) (h : freeD gs ns md ops listed i D = true) : ∀ j oj, ops[j]? = some oj → j ≠ i → listed.getD j true = false → j ∉ D → oi.apart ops oj = true ∧ okP (cls gs ns i oi.op) (cls gs ns j oj.op) = true := by
  intro j oj hj hji hun hno
  simp only [freeD, Bool.and_eq_true] at h
  have hlt : j < ops.size := (Array.getElem?_eq_some_iff.1 hj).1
  have := List.all_eq_true.1 h.2 j (List.mem_range.2 hlt)
  simp only [hi, hj, hun, Bool.or_false, Bool.or_eq_true, beq_iff_eq, Bool.and_eq_true, List.contains_iff_mem] at this
  rcases this with (h | h) | h
  · exact absurd h hji
  · exact absurd h hno
  · exact h
/-- In the order that is given. -/
def LO (P : Program) (w0 : W0) (S0 : St) (gs ns : List Nat) (ops : Array Oper) (K : List DV → St → Prop) : List Nat → List DV → St → Prop
  | [], fr, S => K fr S
  | i :: is, fr, S => match ops[i]? with
    | none => False
    | some o => tauO P w0 S0 (cls gs ns i o.op) ops o fr S (LO P w0 S0 gs ns ops K is)
theorem wpO_lex {gs ns : List Nat} {K : List DV → St → Prop} : ∀ (l : List Nat) (listed : Array Bool) (fr : List DV) (S : St),
    (∀ l' : List Nat, l'.Nodup → (∀ k, k ∈ l' → listed.getD k true = false) → l'.length ≤ l.length) →
    lexO gs ns md ops l listed = true → LO P w0 S0 gs ns ops K l fr S → wpO P w0 S0 gs ns md ops K l.length listed fr S
  | [], _, _, _, _, hB, h => ⟨by simpa [lexO] using hB, h⟩
  | k :: l, listed, fr, S, hcnt, hB, h => by
    simp only [List.length_cons, lexO, Bool.and_eq_true] at hB
    obtain ⟨⟨hr, hf⟩, hB'⟩ := hB
    have hr' : k ∈ Region.ready md ops listed := by simpa using hr
    have hun := (mem_ready.1 hr').1
    unfold LO at h
    split at h
    · exact h.elim
    rename_i o h0
    refine wpO_first h0 l.length listed fr S (freeD_dep hf) (freeD_spec h0 hf) (by simpa using hcnt) hr' ?_
    refine tauO_mono (fun fr S h => ⟨S, .refl S, wpO_lex l _ fr S ?_ hB' h⟩) h
    intro l' hn hl'
    have hks : k < listed.size := by
      rcases Nat.lt_or_ge k listed.size with h | h
      · exact h
      · rw [Array.getD_eq_getD_getElem?, Array.getElem?_eq_none h] at hun; cases hun
    have hkl : k ∉ l' := fun hk => by
      have := hl' k hk
      rw [Array.getD_eq_getD_getElem?, Array.getElem?_setIfInBounds] at this
      simp [hks] at this
    have := hcnt (k :: l') (List.nodup_cons.2 ⟨hkl, hn⟩) fun m hm => by
      rcases List.mem_cons.1 hm with rfl | hm
      · exact hun
      · have := hl' m hm
        rw [getD_set_ne true (show k ≠ m from fun e => hkl (e ▸ hm))] at this
        exact this
    simp at this; omega
theorem bodyO_yields {c : Nat} {o : Oper} {fr : List DV} {S : St} {K : List DV → St → Prop} (h : bodyO P w0 S0 c o fr S K) : YieldsE P w0 o (ev fr) S fun d S' => K (pt fr o.dst d) S' := by
  rcases h with ⟨c, d, q, k⟩ | ⟨c, hS, d, q, k⟩ | ⟨c, q⟩ | ⟨c, q⟩ | ⟨c, hS, t, ht, hz, k⟩
  · exact yields_mono (fun d' S' h => by rw [h.1, h.2]; exact k) (q S)
  · exact yields_mono (fun d' S' h => by rw [h.1, h.2]; exact k) (q S hS)
  · exact yields_mono (fun d' S' h => h.2) q
  · exact q
  · exact y_alloc ht ⟨hz, k⟩
theorem wpAny_of_O {gs ns : List Nat} {ro : Option Nat} {g0 : Gh} {Q : Exit → List DV → St → Prop} : ∀ (fuel : Nat) (listed : Array Bool) (fr : List DV) (S : St) (g : Gh) (a : Act) (w : World), g0.le g → Rel w0 g S w → RepL g fr a.tmps.toList → Dk w0 g.obj a w →
    wpO P w0 S0 gs ns md ops (fun fr S => Q .normal fr S) fuel listed fr S → wpAnyIn (fz ro) 0 P md ops (Good w0 g0 Q) fuel listed a w
  | 0, listed, fr, S, g, a, w, k, h1, h2, h3, h => ⟨h.1, k.kd h3, g, fr, S, k, h1, h2, h.2⟩
  | fuel + 1, listed, fr, S, g, a, w, k, h1, h2, h3, h => by
    refine ⟨fun h0 => ⟨k.kd h3, g, fr, S, k, h1, h2, h.1 h0⟩, fun i hi => ?_⟩
    have hq := h.2 i hi
    unfold tauI at hq
    unfold wpOpIn
    split
    · rename_i ho; simp only [ho] at hq; obtain ⟨T, hp, hq⟩ := hq; exact wpAny_of_O fuel _ fr T g a w k (hp.symm.rel h1) h2 h3 hq
    · rename_i o ho
      simp only [ho] at hq
      rcases hq with ⟨hw, hb⟩ | ⟨hw, hk⟩
      · have hw' := wantB_sound (o := o) h2 hw
        rw [if_pos hw']
        refine wpIn_of_yields (bodyO_yields hb) h1 (fun x _ => rep_ev h2 x) h3 fun g' d' u S' w' k1 k2 k3 k4 k5 => ?_
        obtain ⟨T, hp, k4⟩ := k4
        exact wpAny_of_O fuel _ _ _ g' _ _ (k.trans k1) (hp.symm.rel k2) (repL_put (h2.mono k1) _ k3) (k1.dk k5) k4
      · have hw' := wantB_sound (o := o) h2 hw
        rw [if_neg (by simp [hw'])]
        obtain ⟨T, hp, hk⟩ := hk; exact ⟨fun _ _ => trivial, wpAny_of_O fuel _ _ _ g _ _ k (hp.symm.rel h1) (repL_put h2 _ (rep_ud g)) (h3.keep (put_defers _ _ _) fun _ _ h _ => h) hk⟩
/-- A region that draws its order, where an order serves. -/
theorem awp_drawO {id : Nat} {l : List Oper} {gs ns ord : List Nat} {fr : List DV} {S : St} {Q : Exit → List DV → St → Prop} (hm : P.follows .mixedOrders = true) (hB : lexO gs ns .any l.toArray ord (Array.replicate l.length false) = true) (hO : ord.length = l.length) (h : LO P w0 S0 gs ns l.toArray (fun fr S => Q .normal fr S) ord fr S) : AWp P w0 (.region id l.toArray true) fr S Q := by
  intro g a w h1 h2 h3
  refine wpA_region_any hm fun ro => ?_
  have hR : Rel w0 g S { w with drawn := w.drawn + 1 } := h1.grow (below_drew w)
  have hcnt : ∀ l' : List Nat, l'.Nodup → (∀ k, k ∈ l' → (Array.replicate l.length false).getD k true = false) → l'.length ≤ ord.length := by
    intro l' hn hl
    have hsub : ∀ k, k ∈ l' → k ∈ List.range l.length := fun k hk => by
      have := hl k hk
      rw [List.mem_range]
      rcases Nat.lt_or_ge k l.length with h | h
      · exact h
      · rw [Array.getD_eq_getD_getElem?, Array.getElem?_eq_none (by simpa using h)] at this; cases this
    have := hn.length_le_of_subset (l₂ := List.range l.length) hsub
    rw [hO]; simpa using this
  have := wpO_lex (P := P) (w0 := w0) (S0 := S0) (md := .any) (ops := l.toArray) ord (Array.replicate l.length false) fr S hcnt hB h
  have := wpAny_of_O (ro := ro) (g0 := g) (Q := Q) _ _ fr S g a _ (.refl g) hR h2 (h3.keep rfl fun _ _ h _ => h) this
  rw [hO] at this
  simpa using this
theorem load_has {k : TK} {S T : St} {x : DV} {K : DV → Prop} (hT : Has S T) (h : vLoad k S x K) : vLoad k T x K := by
  unfold vLoad at *
  split at h
  · split at h
    · rename_i ds hb
      simp only [hT.box _ _ hb]
      exact h
    · exact h.elim
  · exact h
  · split at h
    · rename_i hb
      simp only [hT.acc _ _ hb]
      exact h
    · rename_i hb
      simp only [hT.acc _ _ hb]
      exact h
    · exact h.elim
  · exact h.elim
end
/-- A call that hands back one value, at whatever store that keeps the one of the beginning. -/
def QO (P : Program) (w0 : W0) (S0 : St) (f : FuncId) (ds : List DV) [K : Cn (DV → Prop)] : Prop := ∃ d, (∀ T, Has S0 T → ACall P w0 f ds T fun d' S' => d' = d ∧ S' = T) ∧ K.k d
def vCallO (P : Program) (w0 : W0) (S0 : St) (cal : DV) (ds : List DV) (K : DV → Prop) : Prop := match cal with
  | .v (.func (.func f) a cap) => a.size = 0 ∧ okF P f = true ∧ cap.toList.all (fun u => u.oneCell') = true ∧ ds.all naccA = true ∧ @QO P w0 S0 f (ds ++ cap.toList.map .v) ⟨K⟩
  | _ => False
def opO (P : Program) (w0 : W0) (S0 : St) (op : Op) (fr : List DV) (S : St) (K : DV → St → Prop) : Prop := match op with
  | .load t x => Has S0 S ∧ vLoad (tk P t) S0 (ev fr x) (K · S)
  | .call ⟨.value cal, args, _⟩ => Has S0 S ∧ vCallO P w0 S0 (ev fr cal) (args.toList.map (ev fr)) (K · S)
  | .alloc t => Has S0 S ∧ okE (zD P t) = true ∧ bxK S (zD P t) K
  | op => selK (Z.kX op == 0) (opZ P w0 op fr S (K · S)) (vcOp P w0 op fr S K)
def stO (P : Program) (w0 : W0) (S0 : St) (gs ns : List Nat) (i : Nat) (op : Op) (fr : List DV) (S : St) (K : DV → St → Prop) : Prop :=
  selK (gs.contains i) (vcOp P w0 op fr S fun d S' => Has S0 S' ∧ K d S') (selK (ns.contains i) (vcOp P w0 op fr S K) (opO P w0 S0 op fr S K))
def stepO (P : Program) (w0 : W0) (S0 : St) (gs ns : List Nat) (ops : Array Oper) (K : List DV → St → Prop) (oo : Option Oper) (i : Nat) (fr : List DV) (S : St) : Prop := match oo with
  | none => False
  | some o => guardK ops fr o.guard (fun fr => stO P w0 S0 gs ns i o.op fr S fun d S' => K (pt fr o.dst d) S') (fun fr => K (pt fr o.dst ud) S)
def vcLO (P : Program) (w0 : W0) (S0 : St) (gs ns : List Nat) (ops : Array Oper) (K : List DV → St → Prop) : List Nat → List DV → St → Prop
  | [], fr, S => K fr S
  | i :: is, fr, S => stepO P w0 S0 gs ns ops (vcLO P w0 S0 gs ns ops K is) ops[i]? i fr S
section
variable {P : Program} {w0 : W0} {S0 : St} {ops : Array Oper} {md : Region.Mode}
theorem qy_hm {S0 : St} {o : Oper} {fr : List DV} {d : DV} (q : ∀ T, Has S0 T → QY P w0 T o fr d) (T : St) (hT : Hm S0 T) : QY P w0 T o fr d := fun g w ρ r => q T (hT.has r) g w ρ r
theorem stO_sound {gs ns : List Nat} {i : Nat} {o : Oper} {fr : List DV} {S : St} {K : List DV → St → Prop} (hs : okSl o.op = true) (h : stO P w0 S0 gs ns i o.op fr S fun d S' => K (pt fr o.dst d) S') : bodyO P w0 S0 (cls gs ns i o.op) o fr S K := by
  unfold stO at h
  cases hg : gs.contains i with
  | true =>
    rw [hg] at h
    have hc : cls gs ns i o.op = 2 := by unfold cls; rw [if_pos hg]
    rw [hc]
    have h' : vcOp P w0 o.op fr S fun d S' => Has S0 S' ∧ K (pt fr o.dst d) S' := h
    exact .inr (.inr (.inl ⟨rfl, yields_mono (fun d S' hk => ⟨.of hk.1, hk.2⟩) (vcOp_sound hs h')⟩))
  | false =>
    rw [hg] at h
    cases hn : ns.contains i with
    | true =>
      rw [hn] at h
      have hc : cls gs ns i o.op = 3 := by unfold cls; rw [if_neg (by rw [hg]; simp), if_pos hn]
      rw [hc]
      exact .inr (.inr (.inr (.inl ⟨rfl, vcOp_sound hs h⟩)))
    | false =>
      rw [hn] at h
      have hc : cls gs ns i o.op = (match Z.kX o.op with | 0 => 0 | 1 => 1 | 2 => 4 | _ => 3) := by unfold cls; rw [if_neg (by rw [hg]; simp), if_neg (by rw [hn]; simp)]
      rw [hc]
      replace h : opO P w0 S0 o.op fr S fun d S' => K (pt fr o.dst d) S' := h
      have gen : ∀ (h : selK (Z.kX o.op == 0) (opZ P w0 o.op fr S fun d => K (pt fr o.dst d) S) (vcOp P w0 o.op fr S fun d S' => K (pt fr o.dst d) S')), Z.kX o.op = 0 ∨ Z.kX o.op = 3 → bodyO P w0 S0 (match Z.kX o.op with | 0 => 0 | 1 => 1 | 2 => 4 | _ => 3) o fr S K := by
        intro h hk
        rcases hk with hk | hk
        · rw [hk] at h ⊢
          obtain ⟨d, q1, q2⟩ := Z.pure_detZ hk (show opZ P w0 o.op fr S fun d => K (pt fr o.dst d) S from h)
          exact .inl ⟨rfl, d, fun S' => by
            obtain ⟨d', k1, k2⟩ := opZ_sound hs (q1 S')
            subst k2; exact k1, q2⟩
        · rw [hk] at h ⊢
          exact .inr (.inr (.inr (.inl ⟨rfl, vcOp_sound hs h⟩)))
      cases hop : o.op with
      | load t x =>
        rw [hop] at h hs
        obtain ⟨hS, h⟩ := h
        obtain ⟨d, q1, q2⟩ := det_load (show vLoad (tk P t) S0 (ev fr x) (fun d => K (pt fr o.dst d) S) from h)
        refine .inr (.inl ⟨rfl, .of hS, d, qy_hm fun T hT => ?_, q2⟩)
        exact vcOp_sound (by rw [hop]; exact hs) (by rw [hop]; simpa [vcOp] using load_has hT q1)
      | alloc t =>
        rw [hop] at h
        exact .inr (.inr (.inr (.inr ⟨rfl, .of h.1, t, hop, h.2.1, h.2.2⟩)))
      | call c =>
        obtain ⟨callee, args, ts⟩ := c
        cases callee with
        | value cal =>
          rw [hop] at h hs
          obtain ⟨hS, h⟩ := h
          simp only [vCallO] at h
          split at h
          · rename_i f a cap hcal
            obtain ⟨h1, h2, h3, h4, d, h5, h6⟩ := h
            refine .inr (.inl ⟨rfl, .of hS, d, qy_hm fun T hT => ?_, h6⟩)
            exact vcOp_sound (by rw [hop]; exact hs) (by rw [hop]; simp only [vcOp, vCall, hcal]; exact ⟨h1, h3, by rw [h2, gX_t]; exact callK_id h4 (h5 T hT)⟩)
          · exact h.elim
        | builtin b =>
          rw [← hop]
          refine gen (by rw [hop] at h ⊢; exact h) ?_
          rw [hop]
          cases b <;> first | exact .inl rfl | exact .inr rfl
        | invoke r m =>
          rw [← hop]
          refine gen (by rw [hop] at h ⊢; exact h) ?_
          rw [hop]; exact .inr rfl
      | _ => rw [← hop]; refine gen (by rw [hop] at h ⊢; exact h) ?_; rw [hop]; first | exact .inl rfl | exact .inr rfl
theorem vcLO_sound {gs ns : List Nat} {K : List DV → St → Prop} (hs : ∀ (i : Nat) (o : Oper), ops[i]? = some o → okSl o.op = true) : ∀ (l : List Nat) {fr : List DV} {S : St}, vcLO P w0 S0 gs ns ops K l fr S → LO P w0 S0 gs ns ops K l fr S
  | [], fr, S, h => h
  | i :: is, fr, S, h => by
    unfold vcLO stepO at h
    unfold LO
    cases ho : ops[i]? with
    | none => rw [ho] at h; exact h
    | some o =>
      rw [ho] at h
      simp only at h ⊢
      rcases guardK_want h with ⟨hw, ha⟩ | ⟨hw, hb⟩
      · exact .inl ⟨hw, bodyO_mono (fun fr S h => vcLO_sound hs is h) (stO_sound (hs i o ho) ha)⟩
      · exact .inr ⟨hw, vcLO_sound hs is hb⟩
/-- What such a region asks. -/
def okO (l : List Oper) (gs ns ord : List Nat) : Bool := l.all (fun o => okSl o.op) && lexO gs ns .any l.toArray ord (Array.replicate l.length false) && (ord.length == l.length)
theorem ordK (gs ns ord : List Nat) {id : Nat} {l : List Oper} {fr : List DV} {S : St} {Q : Exit → List DV → St → Prop} (hm : P.follows .mixedOrders = true) (hB : okO l gs ns ord = true) (h : vcLO P w0 S gs ns l.toArray (fun fr S => normF fr fun fr => Q .normal fr S) ord fr S) : AWp P w0 (.region id l.toArray true) fr S Q := by
  simp only [okO, Bool.and_eq_true, beq_iff_eq] at hB
  refine awp_drawO hm hB.1.2 hB.2 (vcLO_sound (fun i o ho => ?_) ord h)
  have : l[i]? = some o := by simpa using ho
  exact List.all_eq_true.1 hB.1.1 o (List.mem_of_getElem? this)
/-- Some boxes, and what is in them. -/
def inL : List Nat → Nat → Prop
  | [], _ => False
  | a :: L, b => a = b ∨ inL L b
/-- A store, but for some boxes. -/
noncomputable def but (L : List Nat) (S : St) : St := ⟨S.box.filter fun p => @decide (¬ inL L p.1) (Classical.propDecidable _), S.acc⟩
theorem lk_but {L : List Nat} {S : St} {b : Nat} (h : ¬ inL L b) : lk (but L S).box b = lk S.box b := by
  obtain ⟨B, A⟩ := S
  show lk (B.filter _) b = lk B b
  induction B with
  | nil => rfl
  | cons p B ih =>
    obtain ⟨k, x⟩ := p
    rw [List.filter_cons]
    split
    · simp only [lk, ih]
    · rename_i hn
      have hk : ¬ k = b := fun e => hn (by subst e; exact @decide_eq_true _ (Classical.propDecidable _) h)
      rw [ih]; simp only [lk, if_neg hk]
theorem lk_but_in {L : List Nat} {S : St} {b : Nat} (h : inL L b) : lk (but L S).box b = none := by
  obtain ⟨B, A⟩ := S
  show lk (B.filter _) b = none
  induction B with
  | nil => rfl
  | cons p B ih =>
    obtain ⟨k, x⟩ := p
    rw [List.filter_cons]
    split
    · rename_i hn
      have hk : ¬ k = b := fun e => by
        subst e
        exact (@of_decide_eq_true _ (Classical.propDecidable _) hn) h
      simp only [lk, if_neg hk]; exact ih
    · exact ih
theorem has_but (L : List Nat) (S : St) : Has (but L S) S := ⟨fun b x hb => by
  by_cases h : inL L b
  · rw [lk_but_in h] at hb; cases hb
  · rwa [lk_but h] at hb, fun l o hl => hl⟩
theorem ordB (L gs ns ord : List Nat) {id : Nat} {l : List Oper} {fr : List DV} {S : St} {Q : Exit → List DV → St → Prop} (hm : P.follows .mixedOrders = true) (hB : okO l gs ns ord = true) (h : vcLO P w0 (but L S) gs ns l.toArray (fun fr S => normF fr fun fr => Q .normal fr S) ord fr S) : AWp P w0 (.region id l.toArray true) fr S Q := by
  simp only [okO, Bool.and_eq_true, beq_iff_eq] at hB
  refine awp_drawO hm hB.1.2 hB.2 (vcLO_sound (fun i o ho => ?_) ord h)
  have : l[i]? = some o := by simpa using ho
  exact List.all_eq_true.1 hB.1.1 o (List.mem_of_getElem? this)
theorem useO {f : FuncId} {args args' : List DV} {K : DV → Prop} {r : DV} (h : ∀ T, Has S0 T → ACall P w0 f args' T (fun d S' => d = r ∧ S' = T)) (hk : K r) (ha : WkL args args' := by exact WkL.refl _) : @QO P w0 S0 f args ⟨K⟩ :=
  ⟨r, fun T hT => acall_one (h T hT) ha ⟨rfl, rfl⟩, hk⟩
end
section
variable {P : Program} {w0 : W0} {S0 : St} {gs ns : List Nat} {ops : Array Oper} {fr : List DV} {S : St} {dst : Option Tmp} {op : Op} {ty : TypeId} {pos : String} {aft : Array Edge}
section
variable {K : List DV → St → Prop}
theorem o_nil : vcLO P w0 S0 gs ns ops K [] fr S = K fr S := rfl
theorem o_cons (i : Nat) (is : List Nat) : vcLO P w0 S0 gs ns ops K (i :: is) fr S = stepO P w0 S0 gs ns ops (vcLO P w0 S0 gs ns ops K is) ops[i]? i fr S := rfl
@[congr] theorem c_stepO {oo oo' : Option Oper} {i : Nat} (h : oo = oo') : stepO P w0 S0 gs ns ops K oo i fr S = stepO P w0 S0 gs ns ops K oo' i fr S := by cases h; rfl
theorem o_none (i : Nat) : stepO P w0 S0 gs ns ops K (some ⟨dst, op, ty, pos, aft, none⟩) i fr S = stO P w0 S0 gs ns i op fr S fun d S' => K (pt fr dst d) S' := rfl
end
variable {K : DV → St → Prop}
theorem o_st (i : Nat) : stO P w0 S0 gs ns i op fr S K = selK (gs.contains i) (vcOp P w0 op fr S fun d S' => Has S0 S' ∧ K d S') (selK (ns.contains i) (vcOp P w0 op fr S K) (opO P w0 S0 op fr S K)) := rfl
theorem o_load (t : TypeId) (x : Operand) : opO P w0 S0 (.load t x) fr S K = (Has S0 S ∧ vLoad (tk P t) S0 (ev fr x) (K · S)) := rfl
theorem o_alloc (t : TypeId) : opO P w0 S0 (.alloc t) fr S K = (Has S0 S ∧ okE (zD P t) = true ∧ bxK S (zD P t) K) := rfl
theorem o_call (cal : Operand) (a : List Operand) (ts : Array TypeId) : opO P w0 S0 (.call ⟨.value cal, a.toArray, ts⟩) fr S K = (Has S0 S ∧ vCallO P w0 S0 (ev fr cal) (a.map (ev fr)) (K · S)) := rfl
theorem o_callF (f : FuncId) (a cap : Array Value) (ds : List DV) (K : DV → Prop) : vCallO P w0 S0 (.v (.func (.func f) a cap)) ds K = (a.size = 0 ∧ okF P f = true ∧ cap.toList.all (fun u => u.oneCell') = true ∧ ds.all naccA = true ∧ @QO P w0 S0 f (ds ++ cap.toList.map .v) ⟨K⟩) := rfl
@[congr] theorem c_vCallO {cal cal' : DV} {ds ds' : List DV} {K : DV → Prop} (h1 : cal = cal') (h2 : ds = ds') : vCallO P w0 S0 cal ds K = vCallO P w0 S0 cal' ds' K := by cases h1; cases h2; rfl
theorem o_move (x : Operand) : opO P w0 S0 (.move x) fr S K = vcOpQ P w0 (.move x) fr S (K · S) := rfl
theorem o_assign (x : Operand) : opO P w0 S0 (.assign x) fr S K = vcOpQ P w0 (.assign x) fr S (K · S) := rfl
theorem o_fieldAddr (t : TypeId) (x : Operand) (f : Nat) : opO P w0 S0 (.fieldAddr t x f) fr S K = vcOpQ P w0 (.fieldAddr t x f) fr S (K · S) := rfl
theorem o_indexAddr (t : TypeId) (x i : Operand) : opO P w0 S0 (.indexAddr t x i) fr S K = vcOpQ P w0 (.indexAddr t x i) fr S (K · S) := rfl
theorem o_extract (x : Operand) (i : Nat) : opO P w0 S0 (.extract x i) fr S K = vcOpQ P w0 (.extract x i) fr S (K · S) := rfl
theorem o_nilCheck (x : Operand) : opO P w0 S0 (.nilCheck x) fr S K = vcOpQ P w0 (.nilCheck x) fr S (K · S) := rfl
theorem o_binOp (b : BinOp) (t : TypeId) (x y : Operand) (t' : TypeId) : opO P w0 S0 (.binOp b t x y t') fr S K = vcOpQ P w0 (.binOp b t x y t') fr S (K · S) := rfl
theorem o_slice (t : TypeId) (x : Operand) (lo hi mx : Option Operand) : opO P w0 S0 (.slice t x lo hi mx) fr S K = vcOpQ P w0 (.slice t x lo hi mx) fr S (K · S) := rfl
theorem o_build (t : TypeId) (parts : Array (Nat × Operand)) : opO P w0 S0 (.build t parts) fr S K = vcOpQ P w0 (.build t parts) fr S (K · S) := rfl
theorem o_buildSlice (t : TypeId) (len : Nat) (parts : Array (Nat × Operand)) : opO P w0 S0 (.buildSlice t len parts) fr S K = vcOpQ P w0 (.buildSlice t len parts) fr S (K · S) := rfl
theorem o_store (t : TypeId) (x y : Operand) : opO P w0 S0 (.store t x y) fr S K = vcOp P w0 (.store t x y) fr S K := rfl
theorem o_b_len (a : Array Operand) (ts : Array TypeId) : opO P w0 S0 (.call ⟨.builtin .len, a, ts⟩) fr S K = vcOpQ P w0 (.call ⟨.builtin .len, a, ts⟩) fr S (K · S) := rfl
theorem o_b_append (a : Array Operand) (ts : Array TypeId) : opO P w0 S0 (.call ⟨.builtin .append, a, ts⟩) fr S K = vcOp P w0 (.call ⟨.builtin .append, a, ts⟩) fr S K := rfl
theorem has_self (S : St) : Has S S = True := eq_true (.refl S)
theorem has_box {S0 : St} {B : List (Nat × List DV)} {A : List (Nat × Ob)} (b : Nat) (v : List DV) (hb : lk S0.box b = none) (h : Has S0 ⟨B, A⟩) : Has S0 ⟨(b, v) :: B, A⟩ = True := eq_true ⟨fun c x hc => by
  have h1 := h.box c x hc
  show lk ((b, v) :: B) c = some x
  rw [q_lk_ne (fun e => by rw [← e, hb] at hc; cases hc)]; exact h1, h.acc⟩
theorem has_acc {S0 : St} {B : List (Nat × List DV)} {A : List (Nat × Ob)} (l : Nat) (v : Ob) (hb : lk S0.acc l = none) (h : Has S0 ⟨B, A⟩) : Has S0 ⟨B, (l, v) :: A⟩ = True := eq_true ⟨h.box, fun c x hc => by
  have h1 := h.acc c x hc
  show lk ((l, v) :: A) c = some x
  rw [q_lk_ne (fun e => by rw [← e, hb] at hc; cases hc)]; exact h1⟩
theorem inL_nil (b : Nat) : inL [] b = False := rfl
theorem inL_cons (a : Nat) (L : List Nat) (b : Nat) : inL (a :: L) b = (a = b ∨ inL L b) := rfl
theorem has_but0 (L : List Nat) (S : St) : Has (but L S) S = True := eq_true (has_but L S)
theorem hb_get {L : List Nat} {B B' : List (Nat × List DV)} {A A' : List (Nat × Ob)} (h : Has (but L ⟨B, A⟩) ⟨B', A'⟩) {c : Nat} {x : List DV} (hc : ¬ inL L c) (hx : lk B c = some x) : lk B' c = some x :=
  h.box c x (by rw [lk_but hc]; exact hx)
theorem has_same {L : List Nat} {B B' : List (Nat × List DV)} {A A' : List (Nat × Ob)} (b : Nat) (v : List DV) (h : Has (but L ⟨B, A⟩) ⟨B', A'⟩) : Has (but L ⟨(b, v) :: B, A⟩) ⟨(b, v) :: B', A'⟩ = True := eq_true ⟨fun c x hc => by
  by_cases hL : inL L c
  · rw [lk_but_in hL] at hc; cases hc
  · rw [lk_but hL] at hc
    show lk ((b, v) :: B') c = some x
    simp only [lk] at hc ⊢
    split
    · rename_i e; rw [if_pos e] at hc; exact hc
    · rename_i e; rw [if_neg e] at hc; exact hb_get h hL hc, h.acc⟩
theorem has_other {L : List Nat} {B B' : List (Nat × List DV)} {A A' : List (Nat × Ob)} (b : Nat) (v w : List DV) (hi : inL L b) (h : Has (but L ⟨B, A⟩) ⟨B', A'⟩) : Has (but L ⟨(b, v) :: B, A⟩) ⟨(b, w) :: B', A'⟩ = True := eq_true ⟨fun c x hc => by
  by_cases hL : inL L c
  · rw [lk_but_in hL] at hc; cases hc
  · rw [lk_but hL] at hc
    have hne : ¬ b = c := fun e => hL (e ▸ hi)
    show lk ((b, w) :: B') c = some x
    simp only [lk, if_neg hne] at hc ⊢
    exact hb_get h hL hc, h.acc⟩
/-- One list is another one's end. -/
def Suf {α : Type} (l' l : List (Nat × α)) : Prop := ∃ p, l = p ++ l'
theorem suf_self {α : Type} (l : List (Nat × α)) : Suf l l = True := eq_true ⟨[], rfl⟩
theorem suf_cons {α : Type} (x : Nat × α) (l' l : List (Nat × α)) (h : Suf l' l) : Suf l' (x :: l) = True := eq_true (let ⟨p, e⟩ := h; ⟨x :: p, by rw [e]; rfl⟩)
theorem fn_suf {α : Type} {l' l : List (Nat × α)} (b : FN l) (h : Suf l' l) : lk l' b.n = none := by
  obtain ⟨p, e⟩ := h
  subst e
  refine nin_lk (nin_of fun q hq => nin_all b.h q (List.mem_append_right _ hq))
end
attribute [go_sem ↓] o_nil o_cons o_st o_load o_alloc o_call o_callF o_move o_assign o_fieldAddr o_indexAddr o_extract o_nilCheck o_binOp o_slice o_build o_buildSlice o_store o_b_len o_b_append
attribute [go_sem] o_none has_self has_box has_acc suf_self suf_cons fn_suf inL_nil inL_cons has_but0 has_same has_other lk_but lk_but_in
end Aml.Y

namespace Go.Proofs.YtfieabidajilmaaGreat
open Aml Go
set_option linter.unusedVariables false
set_option linter.unusedSimpArgs false
set_option maxRecDepth 100000
/-- Does the key stand in a row of cells where it would? -/
def hasN (l : List C) (key : ByteArray) : Bool := match l[idxN l key]? with
  | some c => eqS c.key key
  | none => false
theorem takeW_len {α : Type} {p : α → Bool} : ∀ {l : List α} {i : Nat}, i ≤ l.length → (∀ (x : Nat) c, x < i → l[x]? = some c → p c = true) → (∀ c, l[i]? = some c → p c = false) → (l.takeWhile p).length = i
  | [], i, h, _, _ => by simp at h; subst h; rfl
  | a :: l, 0, _, _, h2 => by
    have := h2 a rfl
    simp [List.takeWhile_cons, this]
  | a :: l, i + 1, h, h1, h2 => by
    have ha := h1 0 a (by omega) rfl
    have ih := takeW_len (p := p) (l := l) (i := i) (by simpa using h) (fun x c hx hc => h1 (x + 1) c (by omega) (by simpa using hc)) (fun c hc => h2 c (by simpa using hc))
    simp [List.takeWhile_cons, ha, ih]
theorem rise_mono {l : List C} (h : Rise l) (key : ByteArray) : ∀ (i j : Nat) (a b : C), i ≤ j → l[i]? = some a → l[j]? = some b → ltS b.key key = true → ltS a.key key = true := fun i j a b hij ha hb hk => by
  rcases Nat.lt_or_ge i j with q | q
  · obtain ⟨h1, rfl⟩ := List.getElem?_eq_some_iff.1 ha
    obtain ⟨h2, rfl⟩ := List.getElem?_eq_some_iff.1 hb
    exact ltS_trans (List.pairwise_iff_getElem.1 h i j h1 h2 q) hk
  · have : i = j := by omega
    subst this; cases getE ha hb; exact hk
set_option maxHeartbeats 4000000 in
theorem searchS (w0 : W0) (l : List C) (key : ByteArray) (S : St) (hl : ∀ (i j : Nat) (a b : C), i ≤ j → l[i]? = some a → l[j]? = some b → ltS b.key key = true → ltS a.key key = true) (hb : l.length ≤ 1073741824) :
    ACall Tryz.prog w0 98 [.sl 1 false (l.map fun c => dS c.key), dS key] S (fun d S' => d = .tup [dI (idxN l key), dB (hasN l key)] ∧ S' = S) := by
  refine fnS [] mx Tryz.func98 rfl rfl (by kernel_rfl) ?_; simp (maxDischargeDepth := 12) (maxSteps := 1000000) -implicitDefEqProofs only [Tryz.ntmps98, go_sem, Nat.reduceAdd, Nat.reduceSub, Nat.reduceMul, Nat.reduceLeDiff, Nat.reduceEqDiff, Nat.reduceGT, Nat.reduceBEq, reduceCtorEq, ↓reduceIte, Int.reduceToNat, Int.reduceLE, Int.reduceLT, Int.reduceNe, Int.reduceEq]
  refine loopK [] [0, 1, 6, 7, 8] (fun s : Nat × Nat => [(7, dI s.1), (8, dI s.2)]) (fun _ => S) (fun s => s.1 ≤ s.2 ∧ s.2 ≤ l.length ∧ (∀ (i : Nat) a, i < s.1 → l[i]? = some a → ltS a.key key = true) ∧ ∀ (i : Nat) a, s.2 ≤ i → l[i]? = some a → ltS a.key key = false) (fun s => s.2 - s.1) (0, l.length) mx (by kernel_rfl) ?_ ?_
  · simp (maxDischargeDepth := 12) (maxSteps := 1000000) -implicitDefEqProofs only [go_sem, Nat.reduceAdd, Nat.reduceSub, Nat.reduceMul, Nat.reduceLeDiff, Nat.reduceEqDiff, Nat.reduceGT, Nat.reduceBEq, reduceCtorEq, ↓reduceIte, Int.reduceToNat, Int.reduceLE, Int.reduceLT, Int.reduceNe, Int.reduceEq]
    exact ⟨Nat.zero_le _, fun i a h => absurd h (by omega), fun i a h e => absurd (List.getElem?_eq_some_iff.1 e).1 (by omega)⟩
  · rintro ⟨i, j⟩ ⟨h1, h2, h3, h4⟩
    simp only at h1 h2 h3 h4
    have eh : IntKind.i64.wrap ((IntKind.u64.wrap (IntKind.i64.wrap ((i : Int) + j))).fdiv (2 ^ min 1 64)) = (((i + j) / 2 : Nat) : Int) := by
      rw [w64 (n := (i : Int) + j) (by omega) (by omega), wu64 (by omega) (by omega), Int.fdiv_eq_ediv_of_nonneg _ (by decide)]
      simp only [show min 1 64 = 1 from rfl, Int.pow_one]
      rw [w64 (by omega) (by omega)]
      omega
    simp (maxDischargeDepth := 12) (maxSteps := 1000000) -implicitDefEqProofs only [go_sem, Nat.reduceAdd, Nat.reduceSub, Nat.reduceMul, Nat.reduceLeDiff, Nat.reduceEqDiff, Nat.reduceGT, Nat.reduceBEq, reduceCtorEq, ↓reduceIte, Int.reduceToNat, Int.reduceLE, Int.reduceLT, Int.reduceNe, Int.reduceEq, eh]
    refine ⟨fun hlt => ⟨by omega, fun a ha => use1 (lessCS w0 a.key key S) ?_⟩, fun hge => ?_⟩
    · simp (maxDischargeDepth := 12) (maxSteps := 1000000) -implicitDefEqProofs only [go_sem, Nat.reduceAdd, Nat.reduceSub, Nat.reduceMul, Nat.reduceLeDiff, Nat.reduceEqDiff, Nat.reduceGT, Nat.reduceBEq, reduceCtorEq, ↓reduceIte, Int.reduceToNat, Int.reduceLE, Int.reduceLT, Int.reduceNe, Int.reduceEq, eh]
      refine ⟨fun hap => ⟨((i + j) / 2 + 1, j), ⟨by simp only; omega, h2, fun x c hx hc => ?_, h4⟩, by simp only; omega, by rw [w64 (by omega) (by omega)]; rfl, rfl⟩, fun hap => ⟨(i, (i + j) / 2), ⟨by simp only; omega, by simp only; omega, h3, fun x c hx hc => ?_⟩, by simp only; omega, rfl, rfl⟩⟩
      · simp only at hx
        exact hl x ((i + j) / 2) c a (by omega) hc ha hap
      · simp only at hx
        refine Bool.eq_false_iff.2 fun hc' => ?_
        rw [hl ((i + j) / 2) x a c hx ha hc hc'] at hap; cases hap
    · have hij : i = j := by omega
      subst hij
      have hi : idxN l key = i := takeW_len h2 h3 fun c hc => h4 i c (Nat.le_refl _) hc
      refine ⟨fun hlt => ⟨hlt, fun a ha => ⟨fun he => Wk.tup (.cons (.eq ?_) (.cons (.eq ?_) .nil)), fun he => ⟨hlt, fun c hc => use1 (nanSS w0 c.key S) ?_⟩⟩⟩, fun hn => Wk.tup (.cons (.eq ?_) (.cons (.eq ?_) .nil))⟩
      · rw [hi]
      · unfold hasN; rw [hi, ha]; simp only [he]
      · simp (maxDischargeDepth := 12) (maxSteps := 1000000) -implicitDefEqProofs only [go_sem, Nat.reduceAdd, Nat.reduceSub, Nat.reduceMul, Nat.reduceLeDiff, Nat.reduceEqDiff, Nat.reduceGT, Nat.reduceBEq, reduceCtorEq, ↓reduceIte, Int.reduceToNat, Int.reduceLE, Int.reduceLT, Int.reduceNe, Int.reduceEq]
        unfold hasN; rw [hi, ha]
        simp only [he]
        exact Wk.tup (.cons (.refl _) (.cons (.refl _) .nil))
      · rw [hi]
      · unfold hasN; rw [hi, List.getElem?_eq_none (by omega)]
/-- Kids of cells. -/
def dK (l : List C) : List DV := l.map fun c => dT (kid0 c)
@[go_sem] theorem dK_len (l : List C) : (dK l).length = l.length := by unfold dK; rw [List.length_map]
@[go_sem] theorem dK_take (l : List C) (i : Nat) : (dK l).take i = dK (l.take i) := by unfold dK; rw [List.map_take]
@[go_sem] theorem dK_drop (l : List C) (i : Nat) : (dK l).drop i = dK (l.drop i) := by unfold dK; rw [List.map_drop]
@[go_sem] theorem el_dK (l : List C) (i : Nat) (F : DV → Prop) : elK (dK l) i F = ∀ c, l[i]? = some c → F (eT (kid0 c)) := by
  unfold dK
  rw [q_el_map]
  exact propext ⟨fun h c hc => by have := (h c hc).2; rwa [dT_eq] at this, fun h c hc => ⟨by rw [dT_eq]; rfl, by rw [dT_eq]; exact h c hc⟩⟩
@[go_sem] theorem ex_dK (l : List C) (i : Nat) (F : DV → Prop) : exK (dK l) i F = (i < l.length ∧ ∀ c, l[i]? = some c → F (eT (kid0 c))) := by
  unfold dK
  rw [q_ex_map]
  exact propext ⟨fun h => ⟨h.1, fun c hc => by have := (h.2 c hc).2; rwa [dT_eq] at this⟩, fun h => ⟨h.1, fun c hc => ⟨by rw [dT_eq]; rfl, by rw [dT_eq]; exact h.2 c hc⟩⟩⟩
theorem dK_app (l m : List C) : dK (l ++ m) = dK l ++ dK m := by unfold dK; rw [List.map_append]
/-- A branch, as the program has it. -/
def brT (p : Int) (l : List C) : DV := .agg [dI p, dB false, .sl 1 false (l.map fun c => dS c.key), .sl 2 false [], .sl 5 false (dK l)]
theorem eT_br {n : N} (hl : n.leaf = false) (h : ∀ c, c ∈ n.l → ∃ k, c.kid = [k]) : eT n = brT n.page n.l := by
  unfold eT brT kidsOf
  rw [hl]
  simp only [Bool.false_eq_true, if_false, List.map_nil, kids_map h, List.map_map]
  rfl
theorem eT_leaf {n : N} (hl : n.leaf = true) : eT n = .agg [dI n.page, dB true, .sl 1 false (n.l.map fun c => dS c.key), .sl 2 false (n.l.map dV2), .sl 5 false []] := by
  unfold eT kidsOf
  rw [hl]; rfl
theorem wk_leaf (p : Int) (l : List C) : Wk (.agg [dI p, dB true, .sl 1 false (l.map fun c => dS c.key), .sl 2 false (l.map dV2), .sl 0 true []]) (eT (.mk p true l)) := by
  rw [eT_leaf rfl]
  exact .agg (.cons (.refl _) (.cons (.refl _) (.cons (.refl _) (.cons (.refl _) (.cons (.nil _ _ _) .nil)))))
theorem wk_br (p : Int) (l : List C) (h : ∀ c, c ∈ l → ∃ k, c.kid = [k]) : Wk (.agg [dI p, dB false, .sl 1 false (l.map fun c => dS c.key), .sl 0 true [], .sl 5 false (dK l)]) (eT (.mk p false l)) := by
  rw [eT_br (n := .mk p false l) rfl h]
  exact .agg (.cons (.refl _) (.cons (.refl _) (.cons (.refl _) (.cons (.nil _ _ _) (.cons (.refl _) .nil)))))
theorem keyOf_get {l : List C} {a : C} (h : l[0]? = some a) : keyOf l = a.key := by
  cases l with
  | nil => cases h
  | cons b l => cases h; rfl
theorem keys_set (key : ByteArray) (l : List C) : (l.map fun c => dS c.key).set 0 (dS key) = (setKey key l).map fun c => dS c.key := by cases l <;> rfl
theorem kids_set {key : ByteArray} {l : List C} (h : ∀ c, c ∈ l → ∃ k, c.kid = [k]) : ∀ c, c ∈ setKey key l → ∃ k, c.kid = [k] := by
  cases l with
  | nil => exact h
  | cons b l =>
    intro c hc
    rcases List.mem_cons.1 hc with rfl | hc
    · exact h b List.mem_cons_self
    · exact h c (List.mem_cons_of_mem _ hc)
theorem dK_set (key : ByteArray) (l : List C) : dK (setKey key l) = dK l := by cases l <;> rfl
theorem wk_br0 (p : Int) (l : List C) (h : ∀ c, c ∈ l → ∃ k, c.kid = [k]) : Wk (.agg [dI p, dB false, .sl 1 false ((l.map fun c => dS c.key).set 0 (.v (.string { data := #[] }))), .sl 0 true [], .sl 5 false (dK l)]) (eT (.mk p false (setKey noS l))) := by
  have e : DV.v (Value.string { data := #[] }) = dS noS := rfl
  rw [e, keys_set, ← dK_set noS]
  exact wk_br p _ (kids_set h)
set_option maxHeartbeats 8000000 in
theorem partP (w0 : W0) (n : N) (i : Nat) (S : St) (hn : n.leaf = false → ∀ c, c ∈ n.l → ∃ k, c.kid = [k]) (hi : 0 < i) (hi2 : i < n.l.length) (h0 : n.l.length ≤ 524288) :
    ACall Tryz.prog w0 152 [eT n, dI i] S (fun d S' => d = .tup [eT (.mk 0 n.leaf (n.l.take i)), eT (.mk 0 n.leaf (if n.leaf then n.l.drop i else setKey noS (n.l.drop i))), dS (keyOf (n.l.drop i))] ∧ S' = S) := by
  cases hl : n.leaf with
  | true =>
    rw [eT_leaf hl]
    refine fnS [1, 8] mx Tryz.func152 rfl rfl (by kernel_rfl) ?_; simp (maxDischargeDepth := 12) (maxSteps := 1000000) -implicitDefEqProofs only [Tryz.ntmps152, go_sem, Nat.reduceAdd, Nat.reduceSub, Nat.reduceMul, Nat.reduceLeDiff, Nat.reduceEqDiff, Nat.reduceGT, Nat.reduceBEq, reduceCtorEq, ↓reduceIte, Int.reduceToNat, Int.reduceLE, Int.reduceLT, Int.reduceNe, Int.reduceEq]
    intro b b1 b2
    refine Y.ordK [8] [] [0, 3, 1, 2, 4, 5, 6, 7, 8, 9] mx (by kernel_rfl) ?_
    simp (maxDischargeDepth := 12) (maxSteps := 1000000) -implicitDefEqProofs only [go_sem, Nat.reduceAdd, Nat.reduceSub, Nat.reduceMul, Nat.reduceLeDiff, Nat.reduceEqDiff, Nat.reduceGT, Nat.reduceBEq, reduceCtorEq, ↓reduceIte, Int.reduceToNat, Int.reduceLE, Int.reduceLT, Int.reduceNe, Int.reduceEq]
    intro b3 b4
    refine ⟨by omega, useQ (cloneQS w0 ((n.l.take i).map fun c => dS c.key) _ (by rw [List.length_map, List.length_take]; omega)) ?_⟩
    simp (maxDischargeDepth := 12) (maxSteps := 1000000) -implicitDefEqProofs only [go_sem, Nat.reduceAdd, Nat.reduceSub, Nat.reduceMul, Nat.reduceLeDiff, Nat.reduceEqDiff, Nat.reduceGT, Nat.reduceBEq, reduceCtorEq, ↓reduceIte, Int.reduceToNat, Int.reduceLE, Int.reduceLT, Int.reduceNe, Int.reduceEq]
    refine ⟨by omega, useQ (cloneQS w0 ((n.l.drop i).map fun c => dS c.key) _ (by rw [List.length_map, List.length_drop]; omega)) ?_⟩
    simp (maxDischargeDepth := 12) (maxSteps := 1000000) -implicitDefEqProofs only [go_sem, Nat.reduceAdd, Nat.reduceSub, Nat.reduceMul, Nat.reduceLeDiff, Nat.reduceEqDiff, Nat.reduceGT, Nat.reduceBEq, reduceCtorEq, ↓reduceIte, Int.reduceToNat, Int.reduceLE, Int.reduceLT, Int.reduceNe, Int.reduceEq]
    refine ⟨by omega, fun a ha => ⟨by omega, useQ (cloneQV w0 ((n.l.take i).map dV2) _ (by rw [List.length_map, List.length_take]; omega)) ?_⟩⟩
    simp (maxDischargeDepth := 12) (maxSteps := 1000000) -implicitDefEqProofs only [go_sem, Nat.reduceAdd, Nat.reduceSub, Nat.reduceMul, Nat.reduceLeDiff, Nat.reduceEqDiff, Nat.reduceGT, Nat.reduceBEq, reduceCtorEq, ↓reduceIte, Int.reduceToNat, Int.reduceLE, Int.reduceLT, Int.reduceNe, Int.reduceEq]
    refine ⟨by omega, useQ (cloneQV w0 ((n.l.drop i).map dV2) _ (by rw [List.length_map, List.length_drop]; omega)) ?_⟩
    simp (maxDischargeDepth := 12) (maxSteps := 1000000) -implicitDefEqProofs only [go_sem, Nat.reduceAdd, Nat.reduceSub, Nat.reduceMul, Nat.reduceLeDiff, Nat.reduceEqDiff, Nat.reduceGT, Nat.reduceBEq, reduceCtorEq, ↓reduceIte, Int.reduceToNat, Int.reduceLE, Int.reduceLT, Int.reduceNe, Int.reduceEq]
    refine Y.ordB [b1.n, b2.n] [3, 4] [] [2, 0, 1, 3, 4, 5] mx (by kernel_rfl) ?_
    simp (maxDischargeDepth := 12) (maxSteps := 1000000) -implicitDefEqProofs only [go_sem, Nat.reduceAdd, Nat.reduceSub, Nat.reduceMul, Nat.reduceLeDiff, Nat.reduceEqDiff, Nat.reduceGT, Nat.reduceBEq, reduceCtorEq, ↓reduceIte, Int.reduceToNat, Int.reduceLE, Int.reduceLT, Int.reduceNe, Int.reduceEq]
    rw [keyOf_get ha]
    exact .tup (.cons (wk_leaf 0 _) (.cons (wk_leaf 0 _) (.cons (.refl _) .nil)))
  | false =>
    rw [eT_br hl (hn hl)]
    unfold brT
    refine fnS [1, 2, 8] mx Tryz.func152 rfl rfl (by kernel_rfl) ?_; simp (maxDischargeDepth := 12) (maxSteps := 1000000) -implicitDefEqProofs only [Tryz.ntmps152, go_sem, Nat.reduceAdd, Nat.reduceSub, Nat.reduceMul, Nat.reduceLeDiff, Nat.reduceEqDiff, Nat.reduceGT, Nat.reduceBEq, reduceCtorEq, ↓reduceIte, Int.reduceToNat, Int.reduceLE, Int.reduceLT, Int.reduceNe, Int.reduceEq]
    intro b b1 b2
    refine Y.ordK [8] [] [0, 3, 1, 2, 4, 5, 6, 7, 8, 9] mx (by kernel_rfl) ?_
    simp (maxDischargeDepth := 12) (maxSteps := 1000000) -implicitDefEqProofs only [go_sem, Nat.reduceAdd, Nat.reduceSub, Nat.reduceMul, Nat.reduceLeDiff, Nat.reduceEqDiff, Nat.reduceGT, Nat.reduceBEq, reduceCtorEq, ↓reduceIte, Int.reduceToNat, Int.reduceLE, Int.reduceLT, Int.reduceNe, Int.reduceEq]
    intro b3 b4
    refine Y.ordK [4, 9] [] [0, 2, 5, 7, 1, 3, 6, 8, 4, 10, 9, 11, 12, 13] mx (by kernel_rfl) ?_
    simp (maxDischargeDepth := 12) (maxSteps := 1000000) -implicitDefEqProofs only [go_sem, Nat.reduceAdd, Nat.reduceSub, Nat.reduceMul, Nat.reduceLeDiff, Nat.reduceEqDiff, Nat.reduceGT, Nat.reduceBEq, reduceCtorEq, ↓reduceIte, Int.reduceToNat, Int.reduceLE, Int.reduceLT, Int.reduceNe, Int.reduceEq]
    refine ⟨by omega, by omega, useK (cloneS w0 ((n.l.take i).map fun c => dS c.key) _ (by rw [List.length_map, List.length_take]; omega)) ?_⟩
    rintro d S' ⟨l1, rfl, rfl⟩
    simp (maxDischargeDepth := 12) (maxSteps := 1000000) -implicitDefEqProofs only [go_sem, Nat.reduceAdd, Nat.reduceSub, Nat.reduceMul, Nat.reduceLeDiff, Nat.reduceEqDiff, Nat.reduceGT, Nat.reduceBEq, reduceCtorEq, ↓reduceIte, Int.reduceToNat, Int.reduceLE, Int.reduceLT, Int.reduceNe, Int.reduceEq]
    refine useK (cloneS w0 ((n.l.drop i).map fun c => dS c.key) _ (by rw [List.length_map, List.length_drop]; omega)) ?_
    rintro d S' ⟨l2, rfl, rfl⟩
    simp (maxDischargeDepth := 12) (maxSteps := 1000000) -implicitDefEqProofs only [go_sem, Nat.reduceAdd, Nat.reduceSub, Nat.reduceMul, Nat.reduceLeDiff, Nat.reduceEqDiff, Nat.reduceGT, Nat.reduceBEq, reduceCtorEq, ↓reduceIte, Int.reduceToNat, Int.reduceLE, Int.reduceLT, Int.reduceNe, Int.reduceEq]
    refine ⟨by omega, by omega, fun a ha => ⟨by omega, useQ (cloneQT w0 (dK (n.l.take i)) _ (by rw [dK_len, List.length_take]; omega)) ?_⟩⟩
    simp (maxDischargeDepth := 12) (maxSteps := 1000000) -implicitDefEqProofs only [go_sem, Nat.reduceAdd, Nat.reduceSub, Nat.reduceMul, Nat.reduceLeDiff, Nat.reduceEqDiff, Nat.reduceGT, Nat.reduceBEq, reduceCtorEq, ↓reduceIte, Int.reduceToNat, Int.reduceLE, Int.reduceLT, Int.reduceNe, Int.reduceEq]
    refine ⟨by omega, useQ (cloneQT w0 (dK (n.l.drop i)) _ (by rw [dK_len, List.length_drop]; omega)) ?_⟩
    simp (maxDischargeDepth := 12) (maxSteps := 1000000) -implicitDefEqProofs only [go_sem, Nat.reduceAdd, Nat.reduceSub, Nat.reduceMul, Nat.reduceLeDiff, Nat.reduceEqDiff, Nat.reduceGT, Nat.reduceBEq, reduceCtorEq, ↓reduceIte, Int.reduceToNat, Int.reduceLE, Int.reduceLT, Int.reduceNe, Int.reduceEq]
    refine ⟨by omega, by omega, fun a' ha' => ?_⟩
    refine Y.ordB [b1.n, b2.n] [3, 4] [] [2, 0, 1, 3, 4, 5] mx (by kernel_rfl) ?_
    simp (maxDischargeDepth := 12) (maxSteps := 1000000) -implicitDefEqProofs only [go_sem, Nat.reduceAdd, Nat.reduceSub, Nat.reduceMul, Nat.reduceLeDiff, Nat.reduceEqDiff, Nat.reduceGT, Nat.reduceBEq, reduceCtorEq, ↓reduceIte, Int.reduceToNat, Int.reduceLE, Int.reduceLT, Int.reduceNe, Int.reduceEq]
    rw [keyOf_get ha]
    exact .tup (.cons (wk_br 0 _ fun c hc => hn hl c (List.mem_of_mem_take hc)) (.cons (wk_br0 0 _ fun c hc => hn hl c (List.mem_of_mem_drop hc)) (.cons (.refl _) .nil)))
end Go.Proofs.YtfieabidajilmaaGreat

namespace Go.Proofs.YtfieabidajilmaaGreat
open Aml Go
set_option linter.unusedVariables false
set_option linter.unusedSimpArgs false
set_option maxRecDepth 100000
theorem wk_form {p : Int} {l : List C} {K D : List DV} (h : ∀ c, c ∈ l → ∃ k, c.kid = [k]) (hK : K = l.map fun c => dS c.key) (hD : D = dK l) : Wk (.agg [dI p, dB false, .sl 1 false K, .sl 0 true [], .sl 5 false D]) (eT (.mk p false l)) := by
  subst hK; subst hD; exact wk_br p l h
theorem keys_with {l : List C} {k : Nat} {c : C} (h : l[k]? = some c) (q : ByteArray) (a b : N) : ((l.take (k + 1)).map fun c => dS c.key) ++ [dS q] ++ ((l.drop (k + 1)).map fun c => dS c.key) = (withC l k [cellN c.key a, cellN q b]).map fun c => dS c.key := by
  unfold withC
  rw [List.map_append, List.map_append, List.take_add_one, h]
  simp [cellN, C.key]
theorem kids_with (l : List C) (k : Nat) (x y : ByteArray) (a b : N) : dK (l.take k) ++ [eT a, eT b] ++ dK (l.drop (k + 1)) = dK (withC l k [cellN x a, cellN y b]) := by
  unfold withC
  rw [dK_app, dK_app, ← dT_eq, ← dT_eq]
  rfl
theorem keys_with1 {l : List C} {k : Nat} {c : C} (h : l[k]? = some c) (a : N) : (l.map fun c => dS c.key) = (withC l k [cellN c.key a]).map fun c => dS c.key := by
  obtain ⟨hi, rfl⟩ := List.getElem?_eq_some_iff.1 h
  have e : l.map (fun c => dS c.key) = (l.take k ++ l[k] :: l.drop (k + 1)).map fun c => dS c.key := by rw [← List.drop_eq_getElem_cons hi, List.take_append_drop]
  unfold withC
  rw [e, List.map_append, List.map_append, List.map_append, List.map_cons, List.append_assoc]
  rfl
theorem kids_with1 (l : List C) (k : Nat) (x : ByteArray) (a : N) : dK (l.take k) ++ [eT a] ++ dK (l.drop (k + 1)) = dK (withC l k [cellN x a]) := by
  unfold withC
  rw [dK_app, dK_app, ← dT_eq]
  rfl
theorem one_with {l m : List C} {k : Nat} (h : ∀ c, c ∈ l → ∃ k, c.kid = [k]) (hm : ∀ c, c ∈ m → ∃ k, c.kid = [k]) : ∀ c, c ∈ withC l k m → ∃ k, c.kid = [k] := fun c hc => by
  rcases mem_withC hc with hc | hc
  · exact h c hc
  · exact hm c hc
theorem one_cells2 (x y : ByteArray) (a b : N) : ∀ c, c ∈ [cellN x a, cellN y b] → ∃ k, c.kid = [k] := fun c hc => by
  simp only [List.mem_cons, List.not_mem_nil, or_false] at hc
  rcases hc with rfl | rfl
  · exact ⟨a, rfl⟩
  · exact ⟨b, rfl⟩
theorem one_cells1 (x : ByteArray) (a : N) : ∀ c, c ∈ [cellN x a] → ∃ k, c.kid = [k] := fun c hc => by
  simp only [List.mem_singleton] at hc
  subst hc; exact ⟨a, rfl⟩
theorem nd_one {d : Nat} {n : N} (h : Nd d n) : n.leaf = false → ∀ c, c ∈ n.l → ∃ k, c.kid = [k] := by
  cases d with
  | zero => intro hl; rw [h.1] at hl; cases hl
  | succ d => intro _ c hc; obtain ⟨_, k, hk, _⟩ := h.2.2 c hc; exact ⟨k, hk⟩
set_option maxHeartbeats 8000000 in
theorem splitP (w0 : W0) (d : Nat) (n kid : N) (c : C) (k : Nat) (S : St) (hn : Nd (d + 1) n) (hlen : n.l.length ≤ 262144) (hc : n.l[k]? = some c) (hk : c.kid = [kid]) (hkl : kid.l.length ≤ 524288) :
    ACall Tryz.prog w0 126 [eT n, dI k] S (fun d S' => d = .tup [eT (partedN n kid k c.key).1, dB (partedN n kid k c.key).2] ∧ S' = S) := by
  have hone := nd_one hn hn.1
  have hlt := (List.getElem?_eq_some_iff.1 hc).1
  obtain ⟨kid', hk', hkn⟩ : ∃ k', c.kid = [k'] ∧ Nd d k' := (hn.2.2 c (List.mem_of_getElem? hc)).2
  rw [hk] at hk'; cases hk'
  have hsm := nd_sm hkn
  generalize hp : partedN n kid k c.key = p
  rw [eT_br hn.1 hone]
  refine fnS [] mx Tryz.func126 rfl rfl (by kernel_rfl) ?_; simp (maxDischargeDepth := 12) (maxSteps := 1000000) -implicitDefEqProofs only [Tryz.ntmps126, go_sem, Nat.reduceAdd, Nat.reduceSub, Nat.reduceMul, Nat.reduceLeDiff, Nat.reduceEqDiff, Nat.reduceGT, Nat.reduceBEq, reduceCtorEq, ↓reduceIte, Int.reduceToNat, Int.reduceLE, Int.reduceLT, Int.reduceNe, Int.reduceEq]
  unfold brT
  simp (maxDischargeDepth := 12) (maxSteps := 1000000) -implicitDefEqProofs only [go_sem, Nat.reduceAdd, Nat.reduceSub, Nat.reduceMul, Nat.reduceLeDiff, Nat.reduceEqDiff, Nat.reduceGT, Nat.reduceBEq, reduceCtorEq, ↓reduceIte, Int.reduceToNat, Int.reduceLE, Int.reduceLT, Int.reduceNe, Int.reduceEq]
  intro b b1
  refine ⟨hlt, fun a ha => ?_⟩
  cases getE hc ha
  rw [kid0_eq hk]
  refine use1 (sizesP w0 kid _ hsm (by omega)) ?_
  simp (maxDischargeDepth := 12) (maxSteps := 1000000) -implicitDefEqProofs only [go_sem, Nat.reduceAdd, Nat.reduceSub, Nat.reduceMul, Nat.reduceLeDiff, Nat.reduceEqDiff, Nat.reduceGT, Nat.reduceBEq, reduceCtorEq, ↓reduceIte, Int.reduceToNat, Int.reduceLE, Int.reduceLT, Int.reduceNe, Int.reduceEq]
  refine use1 (atP w0 _ _ (sizes_bd kid hsm (by omega))) ?_
  simp (maxDischargeDepth := 12) (maxSteps := 1000000) -implicitDefEqProofs only [go_sem, Nat.reduceAdd, Nat.reduceSub, Nat.reduceMul, Nat.reduceLeDiff, Nat.reduceEqDiff, Nat.reduceGT, Nat.reduceBEq, reduceCtorEq, ↓reduceIte, Int.reduceToNat, Int.reduceLE, Int.reduceLT, Int.reduceNe, Int.reduceEq]
  refine ⟨fun h0 => ?_, fun h0 => ?_⟩
  · have e : p = (n, false) := by rw [← hp]; unfold partedN; simp only; rw [if_pos (by omega)]
    subst e
    exact .tup (.cons (.eq (eT_br hn.1 hone).symm) (.cons (.refl _) .nil))
  · have hat := atR_lt (sizesN kid) (by omega)
    have hsl : (sizesN kid).length = kid.l.length := by unfold sizesN; rw [List.length_map]
    obtain ⟨A, B, q, e, hpart⟩ : ∃ A B q, p = (.mk 0 false (withC n.l k [cellN c.key A, cellN q B]), true) ∧ ∀ S, ACall Tryz.prog w0 152 [eT kid, dI (atR (sizesN kid))] S (fun d S' => d = .tup [eT A, eT B, dS q] ∧ S' = S) :=
      ⟨_, _, _, by rw [← hp]; unfold partedN; simp only; rw [if_neg (by omega)], fun S => partP w0 kid (atR (sizesN kid)) S (nd_one hkn) (by omega) (by omega) hkl⟩
    refine ⟨hlt, fun a ha => ?_⟩
    cases getE hc ha
    rw [kid0_eq hk]
    refine use1 (hpart _) ?_
    simp (maxDischargeDepth := 12) (maxSteps := 1000000) -implicitDefEqProofs only [go_sem, Nat.reduceAdd, Nat.reduceSub, Nat.reduceMul, Nat.reduceLeDiff, Nat.reduceEqDiff, Nat.reduceGT, Nat.reduceBEq, reduceCtorEq, ↓reduceIte, Int.reduceToNat, Int.reduceLE, Int.reduceLT, Int.reduceNe, Int.reduceEq]
    intro b2 b3
    have ew : IntKind.i64.wrap ((k : Int) + 1) = ((k + 1 : Nat) : Int) := i_oneV k (by omega)
    rw [ew]
    refine useQ (swapS w0 (n.l.map fun c => dS c.key) [dS q] (k + 1) 0 _ _ (by rw [List.length_map]; omega) (by rw [List.length_map]; omega) (by simp)) ?_
    simp (maxDischargeDepth := 12) (maxSteps := 1000000) -implicitDefEqProofs only [go_sem, Nat.reduceAdd, Nat.reduceSub, Nat.reduceMul, Nat.reduceLeDiff, Nat.reduceEqDiff, Nat.reduceGT, Nat.reduceBEq, reduceCtorEq, ↓reduceIte, Int.reduceToNat, Int.reduceLE, Int.reduceLT, Int.reduceNe, Int.reduceEq]
    refine useQ (swapT w0 (dK n.l) [eT A, eT B] k 1 _ _ (by rw [dK_len]; omega) (by rw [dK_len]; omega) (by simp)) ?_
    simp (maxDischargeDepth := 12) (maxSteps := 1000000) -implicitDefEqProofs only [go_sem, Nat.reduceAdd, Nat.reduceSub, Nat.reduceMul, Nat.reduceLeDiff, Nat.reduceEqDiff, Nat.reduceGT, Nat.reduceBEq, reduceCtorEq, ↓reduceIte, Int.reduceToNat, Int.reduceLE, Int.reduceLT, Int.reduceNe, Int.reduceEq]
    subst e
    exact .tup (.cons (wk_form (one_with hone (one_cells2 _ _ _ _)) (keys_with hc _ A B) (kids_with _ _ _ _ _ _)) (.cons (.refl _) .nil))
set_option maxHeartbeats 8000000 in
theorem joinP (w0 : W0) (d : Nat) (a b : N) (key : ByteArray) (S : St) (ha : Nd d a) (hb : Nd d b) (h0 : a.l.length ≤ 262144) (h1 : b.l.length ≤ 262144) (hbn : b.leaf = false → b.l ≠ []) :
    ACall Tryz.prog w0 129 [eT a, eT b, dS key] S (fun d S' => d = eT (bothN a b key) ∧ S' = S) := by
  have hle := nd_leaf_eq ha hb
  generalize hp : bothN a b key = p
  cases hl : a.leaf with
  | true =>
    rw [hl] at hle
    rw [eT_leaf hl, eT_leaf hle.symm]
    refine fnS [] mx Tryz.func129 rfl rfl (by kernel_rfl) ?_; simp (maxDischargeDepth := 12) (maxSteps := 1000000) -implicitDefEqProofs only [Tryz.ntmps129, go_sem, Nat.reduceAdd, Nat.reduceSub, Nat.reduceMul, Nat.reduceLeDiff, Nat.reduceEqDiff, Nat.reduceGT, Nat.reduceBEq, reduceCtorEq, ↓reduceIte, Int.reduceToNat, Int.reduceLE, Int.reduceLT, Int.reduceNe, Int.reduceEq]
    intro b1 b2 b3
    refine use1 (cloneQS w0 (b.l.map fun c => dS c.key) _ (by rw [List.length_map]; omega)) ?_
    simp (maxDischargeDepth := 12) (maxSteps := 1000000) -implicitDefEqProofs only [go_sem, Nat.reduceAdd, Nat.reduceSub, Nat.reduceMul, Nat.reduceLeDiff, Nat.reduceEqDiff, Nat.reduceGT, Nat.reduceBEq, reduceCtorEq, ↓reduceIte, Int.reduceToNat, Int.reduceLE, Int.reduceLT, Int.reduceNe, Int.reduceEq]
    refine useQ (concatS w0 [a.l.map (fun c => dS c.key), b.l.map fun c => dS c.key] _ (by simp) (by simp [fl]; omega)) ?_ ⟨.full _ _ _, trivial⟩
    simp (maxDischargeDepth := 12) (maxSteps := 1000000) -implicitDefEqProofs only [go_sem, Nat.reduceAdd, Nat.reduceSub, Nat.reduceMul, Nat.reduceLeDiff, Nat.reduceEqDiff, Nat.reduceGT, Nat.reduceBEq, reduceCtorEq, ↓reduceIte, Int.reduceToNat, Int.reduceLE, Int.reduceLT, Int.reduceNe, Int.reduceEq]
    refine useQ (concatV w0 [a.l.map dV2, b.l.map dV2] _ (by simp) (by simp [fl]; omega)) ?_ ⟨.full _ _ _, trivial⟩
    simp (maxDischargeDepth := 12) (maxSteps := 1000000) -implicitDefEqProofs only [go_sem, Nat.reduceAdd, Nat.reduceSub, Nat.reduceMul, Nat.reduceLeDiff, Nat.reduceEqDiff, Nat.reduceGT, Nat.reduceBEq, reduceCtorEq, ↓reduceIte, Int.reduceToNat, Int.reduceLE, Int.reduceLT, Int.reduceNe, Int.reduceEq]
    refine useQ (concatT w0 [[], []] _ (by simp) (by simp [fl])) ?_ ⟨.full _ _ _, trivial⟩
    simp (maxDischargeDepth := 12) (maxSteps := 1000000) -implicitDefEqProofs only [go_sem, Nat.reduceAdd, Nat.reduceSub, Nat.reduceMul, Nat.reduceLeDiff, Nat.reduceEqDiff, Nat.reduceGT, Nat.reduceBEq, reduceCtorEq, ↓reduceIte, Int.reduceToNat, Int.reduceLE, Int.reduceLT, Int.reduceNe, Int.reduceEq]
    have e : eT p = .agg [dI 0, dB true, .sl 1 false (fl [a.l.map fun c => dS c.key, b.l.map fun c => dS c.key]), .sl 2 false (fl [a.l.map dV2, b.l.map dV2]), .sl 5 false (fl [[], []])] := by
      rw [← hp]; unfold bothN; rw [if_pos hle.symm, hl, eT_leaf rfl]; simp [fl, N.l, N.page]
    exact .eq e.symm
  | false =>
    rw [hl] at hle
    rw [eT_br hl (nd_one ha hl), eT_br hle.symm (nd_one hb hle.symm)]
    unfold brT
    refine fnS [4] mx Tryz.func129 rfl rfl (by kernel_rfl) ?_; simp (maxDischargeDepth := 12) (maxSteps := 1000000) -implicitDefEqProofs only [Tryz.ntmps129, go_sem, Nat.reduceAdd, Nat.reduceSub, Nat.reduceMul, Nat.reduceLeDiff, Nat.reduceEqDiff, Nat.reduceGT, Nat.reduceBEq, reduceCtorEq, ↓reduceIte, Int.reduceToNat, Int.reduceLE, Int.reduceLT, Int.reduceNe, Int.reduceEq]
    intro b1 b2 b3
    refine useK (cloneS w0 (b.l.map fun c => dS c.key) _ (by rw [List.length_map]; omega)) ?_
    rintro d S' ⟨l1, rfl, rfl⟩
    simp (maxDischargeDepth := 12) (maxSteps := 1000000) -implicitDefEqProofs only [go_sem, Nat.reduceAdd, Nat.reduceSub, Nat.reduceMul, Nat.reduceLeDiff, Nat.reduceEqDiff, Nat.reduceGT, Nat.reduceBEq, reduceCtorEq, ↓reduceIte, Int.reduceToNat, Int.reduceLE, Int.reduceLT, Int.reduceNe, Int.reduceEq]
    have hpos := List.length_pos_iff.2 (hbn hle.symm)
    refine ⟨by omega, hpos, fun c hc => ?_⟩
    refine shrK [] [7] mx (by kernel_rfl) ?_
    simp (maxDischargeDepth := 12) (maxSteps := 1000000) -implicitDefEqProofs only [go_sem, Nat.reduceAdd, Nat.reduceSub, Nat.reduceMul, Nat.reduceLeDiff, Nat.reduceEqDiff, Nat.reduceGT, Nat.reduceBEq, reduceCtorEq, ↓reduceIte, Int.reduceToNat, Int.reduceLE, Int.reduceLT, Int.reduceNe, Int.reduceEq]
    refine useQ (concatS w0 [a.l.map (fun c => dS c.key), (b.l.map fun c => dS c.key).set 0 (dS key)] _ (by simp) (by simp [fl]; omega)) ?_ ⟨.full _ _ _, trivial⟩
    simp (maxDischargeDepth := 12) (maxSteps := 1000000) -implicitDefEqProofs only [go_sem, Nat.reduceAdd, Nat.reduceSub, Nat.reduceMul, Nat.reduceLeDiff, Nat.reduceEqDiff, Nat.reduceGT, Nat.reduceBEq, reduceCtorEq, ↓reduceIte, Int.reduceToNat, Int.reduceLE, Int.reduceLT, Int.reduceNe, Int.reduceEq]
    refine useQ (concatV w0 [[], []] _ (by simp) (by simp [fl])) ?_ ⟨.full _ _ _, trivial⟩
    simp (maxDischargeDepth := 12) (maxSteps := 1000000) -implicitDefEqProofs only [go_sem, Nat.reduceAdd, Nat.reduceSub, Nat.reduceMul, Nat.reduceLeDiff, Nat.reduceEqDiff, Nat.reduceGT, Nat.reduceBEq, reduceCtorEq, ↓reduceIte, Int.reduceToNat, Int.reduceLE, Int.reduceLT, Int.reduceNe, Int.reduceEq]
    refine useQ (concatT w0 [dK a.l, dK b.l] _ (by simp) (by simp [fl, dK_len]; omega)) ?_ ⟨.full _ _ _, trivial⟩
    simp (maxDischargeDepth := 12) (maxSteps := 1000000) -implicitDefEqProofs only [go_sem, Nat.reduceAdd, Nat.reduceSub, Nat.reduceMul, Nat.reduceLeDiff, Nat.reduceEqDiff, Nat.reduceGT, Nat.reduceBEq, reduceCtorEq, ↓reduceIte, Int.reduceToNat, Int.reduceLE, Int.reduceLT, Int.reduceNe, Int.reduceEq]
    have e : eT p = .agg [dI 0, dB false, .sl 1 false (fl [a.l.map fun c => dS c.key, (b.l.map fun c => dS c.key).set 0 (dS key)]), .sl 2 false (fl [[], []]), .sl 5 false (fl [dK a.l, dK b.l])] := by
      rw [← hp]; unfold bothN; rw [if_neg (by rw [← hle]; simp), hl, keys_set, ← dK_set key b.l, eT_br rfl]
      · unfold brT; simp [fl, N.l, N.page, dK_app]
      · intro c hc
        rcases List.mem_append.1 hc with hc | hc
        · exact nd_one ha hl c hc
        · exact kids_set (nd_one hb hle.symm) c hc
    exact .eq e.symm
end Go.Proofs.YtfieabidajilmaaGreat

namespace Go.Proofs.YtfieabidajilmaaGreat
open Aml Go
set_option linter.unusedVariables false
set_option linter.unusedSimpArgs false
set_option maxRecDepth 100000
theorem withC_both {l m : List C} {j : Nat} (h : j + 1 < l.length) : withC (withC l (j + 1) []) j m = l.take j ++ m ++ l.drop (j + 1 + 1) := by
  unfold withC
  have e1 : (l.take (j + 1)).length = j + 1 := by rw [List.length_take]; omega
  rw [List.append_nil, List.take_append_of_le_length (by omega), List.take_take, show min j (j + 1) = j by omega, List.drop_append, e1, List.drop_eq_nil_of_le (by omega)]
  simp
theorem keys_both {l : List C} {j : Nat} {c : C} (hj : j + 1 < l.length) (h : l[j]? = some c) (b : N) : ((l.take (j + 1)).map fun c => dS c.key) ++ ((l.drop (j + 1 + 1)).map fun c => dS c.key) = (withC (withC l (j + 1) []) j [cellN c.key b]).map fun c => dS c.key := by
  rw [withC_both hj, List.map_append, List.map_append, List.take_add_one, h]
  simp [cellN, C.key]
theorem kids_both {l : List C} {j : Nat} (hj : j + 1 < l.length) (x : ByteArray) (b : N) : dK (l.take j) ++ [eT b] ++ dK (l.drop (j + 2)) = dK (withC (withC l (j + 1) []) j [cellN x b]) := by
  rw [withC_both hj, dK_app, dK_app, ← dT_eq]
  rfl
set_option maxHeartbeats 8000000 in
theorem mendP (w0 : W0) (d : Nat) (n : N) (k : Nat) (S : St) (hn : Nd (d + 1) n) (ht : totN n ≤ 131072) (hk : k < n.l.length) : ACall Tryz.prog w0 96 [eT n, dI k] S (fun e S' => e = eT (mendN n k) ∧ S' = S) := by
  have hlen := tot_len n
  have hone := nd_one hn hn.1
  obtain ⟨c, kid, hc, e1, e2, hkid, hkey, hnd⟩ := nd_kid hn hk
  have hkt := tot_kid (List.mem_of_getElem? hc) hkid
  have hkl := tot_len kid
  have hsm := nd_sm hnd
  have hm0 : mendN n k = mendN n k := rfl
  conv at hm0 => rhs; unfold mendN
  simp only [e1, e2] at hm0
  generalize hp : partedN n kid k c.key = p at hm0
  generalize mendN n k = m at hm0
  rw [eT_br hn.1 hone]
  refine fnS [7, 8] mx Tryz.func96 rfl rfl (by kernel_rfl) ?_; simp (maxDischargeDepth := 12) (maxSteps := 1000000) -implicitDefEqProofs only [Tryz.ntmps96, go_sem, Nat.reduceAdd, Nat.reduceSub, Nat.reduceMul, Nat.reduceLeDiff, Nat.reduceEqDiff, Nat.reduceGT, Nat.reduceBEq, reduceCtorEq, ↓reduceIte, Int.reduceToNat, Int.reduceLE, Int.reduceLT, Int.reduceNe, Int.reduceEq]
  unfold brT
  simp (maxDischargeDepth := 12) (maxSteps := 1000000) -implicitDefEqProofs only [go_sem, Nat.reduceAdd, Nat.reduceSub, Nat.reduceMul, Nat.reduceLeDiff, Nat.reduceEqDiff, Nat.reduceGT, Nat.reduceBEq, reduceCtorEq, ↓reduceIte, Int.reduceToNat, Int.reduceLE, Int.reduceLT, Int.reduceNe, Int.reduceEq]
  intro b b1
  refine use1 (splitP w0 d n kid c k _ hn (by omega) hc hkid (by omega)) ?_ ⟨.eq (eT_br hn.1 hone).symm, .refl _, trivial⟩
  rw [hp]
  simp (maxDischargeDepth := 12) (maxSteps := 1000000) -implicitDefEqProofs only [go_sem, Nat.reduceAdd, Nat.reduceSub, Nat.reduceMul, Nat.reduceLeDiff, Nat.reduceEqDiff, Nat.reduceGT, Nat.reduceBEq, reduceCtorEq, ↓reduceIte, Int.reduceToNat, Int.reduceLE, Int.reduceLT, Int.reduceNe, Int.reduceEq]
  intro b2
  refine ⟨fun h2 => ?_, fun h2 => ⟨hk, fun a ha => ?_⟩⟩
  · rw [if_pos h2] at hm0
    subst hm0
    simp (maxDischargeDepth := 12) (maxSteps := 1000000) -implicitDefEqProofs only [go_sem, Nat.reduceAdd, Nat.reduceSub, Nat.reduceMul, Nat.reduceLeDiff, Nat.reduceEqDiff, Nat.reduceGT, Nat.reduceBEq, reduceCtorEq, ↓reduceIte, Int.reduceToNat, Int.reduceLE, Int.reduceLT, Int.reduceNe, Int.reduceEq]
  · cases getE hc ha
    rw [if_neg (by rw [h2]; simp)] at hm0
    rw [e2]
    refine use1 (sizesP w0 kid _ hsm (by omega)) ?_
    simp (maxDischargeDepth := 12) (maxSteps := 1000000) -implicitDefEqProofs only [go_sem, Nat.reduceAdd, Nat.reduceSub, Nat.reduceMul, Nat.reduceLeDiff, Nat.reduceEqDiff, Nat.reduceGT, Nat.reduceBEq, reduceCtorEq, ↓reduceIte, Int.reduceToNat, Int.reduceLE, Int.reduceLT, Int.reduceNe, Int.reduceEq]
    refine use1 (lowP w0 _ _ (sizes_bd kid hsm (by omega))) ?_
    simp (maxDischargeDepth := 12) (maxSteps := 1000000) -implicitDefEqProofs only [go_sem, Nat.reduceAdd, Nat.reduceSub, Nat.reduceMul, Nat.reduceLeDiff, Nat.reduceEqDiff, Nat.reduceGT, Nat.reduceBEq, reduceCtorEq, ↓reduceIte, Int.reduceToNat, Int.reduceLE, Int.reduceLT, Int.reduceNe, Int.reduceEq]
    refine ⟨fun hlo => ?_, fun hlo => ⟨fun hl2 => ?_, fun hl2 => ?_⟩⟩
    · rw [if_pos (by rw [hlo]; rfl)] at hm0
      subst hm0
      exact .eq (eT_br hn.1 hone).symm
    · rw [if_pos (by rw [hlo, decide_eq_true (by omega)]; rfl)] at hm0
      subst hm0
      exact .eq (eT_br hn.1 hone).symm
    · rw [if_neg (by rw [hlo, decide_eq_false (by omega)]; simp)] at hm0
      refine use1 (nbP w0 n.l.length k _ (by omega) (by omega) (by omega) (by omega)) ?_
      obtain ⟨j, hj, hnb, hj1⟩ : ∃ j : Nat, (if k + 1 < n.l.length then k else k - 1) = j ∧ (if nbR (n.l.length : Int) k < (k : Int) then nbR (n.l.length : Int) k else (k : Int)) = (j : Int) ∧ j + 1 < n.l.length := by
        refine ⟨_, rfl, ?_, ?_⟩
        · unfold nbR
          split <;> split <;> split <;> omega
        · split <;> omega
      rw [hj] at hm0
      simp (maxDischargeDepth := 12) (maxSteps := 1000000) -implicitDefEqProofs only [go_sem, Nat.reduceAdd, Nat.reduceSub, Nat.reduceMul, Nat.reduceLeDiff, Nat.reduceEqDiff, Nat.reduceGT, Nat.reduceBEq, reduceCtorEq, ↓reduceIte, Int.reduceToNat, Int.reduceLE, Int.reduceLT, Int.reduceNe, Int.reduceEq, hnb]
      obtain ⟨c0, k0, hc0, f1, f2, hk0, hkey0, hnd0⟩ := nd_kid hn (k := j) (by omega)
      obtain ⟨c1, k1, hc1, g1, g2, hk1, hkey1, hnd1⟩ := nd_kid hn hj1
      simp only [f1, f2, g1, g2] at hm0
      have ht0 := tot_kid (List.mem_of_getElem? hc0) hk0
      have ht1 := tot_kid (List.mem_of_getElem? hc1) hk1
      have hl0 := tot_len k0
      have hl1 := tot_len k1
      have ew : IntKind.i64.wrap ((j : Int) + 1) = ((j + 1 : Nat) : Int) := i_oneV j (by omega)
      refine Y.ordK [] [] [0, 2, 5, 7, 8, 11, 13, 14, 1, 3, 4, 6, 9, 10, 12, 15, 16, 17, 18, 19] mx (by kernel_rfl) ?_
      simp (maxDischargeDepth := 12) (maxSteps := 1000000) -implicitDefEqProofs only [go_sem, Nat.reduceAdd, Nat.reduceSub, Nat.reduceMul, Nat.reduceLeDiff, Nat.reduceEqDiff, Nat.reduceGT, Nat.reduceBEq, reduceCtorEq, ↓reduceIte, Int.reduceToNat, Int.reduceLE, Int.reduceLT, Int.reduceNe, Int.reduceEq, ew]
      refine ⟨by omega, fun x hx => ⟨hj1, fun y hy => ⟨hj1, fun z hz => ?_⟩⟩⟩
      cases getE hc0 hx; cases getE hc1 hy; cases getE hc1 hz
      rw [f2, g2]
      have hbn : k1.leaf = false → k1.l ≠ [] := fun hl => by
        cases d with
        | zero => rw [hnd1.1] at hl; cases hl
        | succ d => exact hnd1.2.1
      refine Y.useO (fun T hT => joinP w0 d k0 k1 c1.key T hnd0 hnd1 (by omega) (by omega) hbn) ?_
      have hbo := nd_both hnd0 hnd1 hkey1
      have hbl : (bothN k0 k1 c1.key).l.length ≤ 524288 := by
        unfold bothN
        simp only [N.l_mk, List.length_append]
        split
        · omega
        · rw [setKey_len]; omega
      generalize bothN k0 k1 c1.key = bo at *
      have hw1 : Nd (d + 1) (.mk 0 false (withC n.l (j + 1) [])) := nd_with hn hj1 0 (.inl (by omega)) (fun c hc => by cases hc)
      have hwl := withC_len (m := []) hj1
      simp only [List.length_nil] at hwl
      have hw2 := nd_with hw1 (i := j) (by simp only [N.l_mk]; omega) 0 (m := [cellN c0.key bo]) (.inr (by simp)) fun c hc => by
        rw [List.mem_singleton] at hc; subst hc; exact cell_ok hkey0 hbo
      have hwc : (withC (withC n.l (j + 1) []) j [cellN c0.key bo])[j]? = some (cellN c0.key bo) := withC_at (by omega)
      have hwn := withC_len (l := withC n.l (j + 1) []) (i := j) (m := [cellN c0.key bo]) (by omega)
      simp only [List.length_cons, List.length_nil] at hwn
      simp only [N.l_mk] at hw2
      have hwk : Wk (.agg [dI 0, dB false, .sl 1 false (((n.l.take (j + 1)).map fun c => dS c.key) ++ ((n.l.drop (j + 1 + 1)).map fun c => dS c.key)), .sl 0 true [], .sl 5 false (dK (n.l.take j) ++ [eT bo] ++ dK (n.l.drop (j + 2)))]) (eT (.mk 0 false (withC (withC n.l (j + 1) []) j [cellN c0.key bo]))) :=
        wk_form (one_with (one_with hone (fun c hc => by cases hc)) (one_cells1 _ _)) (keys_both hj1 hc0 bo) (kids_both hj1 c0.key bo)
      have hsp : ∀ T, ACall Tryz.prog w0 126 [eT (.mk 0 false (withC (withC n.l (j + 1) []) j [cellN c0.key bo])), dI j] T (fun d S' => d = .tup [eT m, dB (partedN (.mk 0 false (withC (withC n.l (j + 1) []) j [cellN c0.key bo])) bo j c0.key).2] ∧ S' = T) := fun T => by
        rw [hm0]
        exact splitP w0 d (.mk 0 false (withC (withC n.l (j + 1) []) j [cellN c0.key bo])) bo (cellN c0.key bo) j T hw2 (by simp only [N.l_mk]; omega) hwc rfl hbl
      generalize (partedN (.mk 0 false (withC (withC n.l (j + 1) []) j [cellN c0.key bo])) bo j c0.key).2 = pb at hsp
      generalize N.mk 0 false (withC (withC n.l (j + 1) []) j [cellN c0.key bo]) = M at hwk hsp
      clear hm0 hw2 hwc hwn hwl hw1
      simp (maxDischargeDepth := 12) (maxSteps := 1000000) -implicitDefEqProofs only [go_sem, Nat.reduceAdd, Nat.reduceSub, Nat.reduceMul, Nat.reduceLeDiff, Nat.reduceEqDiff, Nat.reduceGT, Nat.reduceBEq, reduceCtorEq, ↓reduceIte, Int.reduceToNat, Int.reduceLE, Int.reduceLT, Int.reduceNe, Int.reduceEq]
      intro b3
      refine Y.ordK [] [] [0, 2, 3, 5, 7, 12, 1, 4, 6, 8, 9, 10, 11, 13, 14, 15, 16, 17, 18, 19] mx (by kernel_rfl) ?_
      simp (maxDischargeDepth := 12) (maxSteps := 1000000) -implicitDefEqProofs only [go_sem, Nat.reduceAdd, Nat.reduceSub, Nat.reduceMul, Nat.reduceLeDiff, Nat.reduceEqDiff, Nat.reduceGT, Nat.reduceBEq, reduceCtorEq, ↓reduceIte, Int.reduceToNat, Int.reduceLE, Int.reduceLT, Int.reduceNe, Int.reduceEq, ew]
      refine Y.useO (fun T hT => swapS w0 (n.l.map fun c => dS c.key) [] (j + 1) 1 false T (by rw [List.length_map]; omega) (by rw [List.length_map]; omega) (by simp)) ?_ ⟨.refl _, .refl _, .refl _, .nil _ _ _, trivial⟩
      simp (maxDischargeDepth := 12) (maxSteps := 1000000) -implicitDefEqProofs only [go_sem, Nat.reduceAdd, Nat.reduceSub, Nat.reduceMul, Nat.reduceLeDiff, Nat.reduceEqDiff, Nat.reduceGT, Nat.reduceBEq, reduceCtorEq, ↓reduceIte, Int.reduceToNat, Int.reduceLE, Int.reduceLT, Int.reduceNe, Int.reduceEq]
      refine Y.useO (fun T hT => swapT w0 (dK n.l) [eT bo] j 2 true T (by rw [dK_len]; omega) (by rw [dK_len]; omega) (by simp)) ?_
      simp (maxDischargeDepth := 12) (maxSteps := 1000000) -implicitDefEqProofs only [go_sem, Nat.reduceAdd, Nat.reduceSub, Nat.reduceMul, Nat.reduceLeDiff, Nat.reduceEqDiff, Nat.reduceGT, Nat.reduceBEq, reduceCtorEq, ↓reduceIte, Int.reduceToNat, Int.reduceLE, Int.reduceLT, Int.reduceNe, Int.reduceEq]
      refine Y.useO (fun T hT => hsp T) ?_ ⟨?_, .refl _, trivial⟩
      · simp (maxDischargeDepth := 12) (maxSteps := 1000000) -implicitDefEqProofs only [go_sem, Nat.reduceAdd, Nat.reduceSub, Nat.reduceMul, Nat.reduceLeDiff, Nat.reduceEqDiff, Nat.reduceGT, Nat.reduceBEq, reduceCtorEq, ↓reduceIte, Int.reduceToNat, Int.reduceLE, Int.reduceLT, Int.reduceNe, Int.reduceEq]
      · rw [List.map_append]; exact hwk
end Go.Proofs.YtfieabidajilmaaGreat

namespace Go.Proofs.YtfieabidajilmaaGreat
open Aml Go
set_option linter.unusedVariables false
set_option linter.unusedSimpArgs false
set_option maxRecDepth 100000
theorem wk_top {n : N} {x : DV} (h : eT n = x) : Wk (.agg [dI 0, dB false, .sl 1 true [.v (.string { data := #[] })], .sl 0 true [], .sl 5 true [x]]) (brT 0 [cellN noS n]) := by
  have e : brT 0 [cellN noS n] = .agg [dI 0, dB false, .sl 1 false [.v (.string { data := #[] })], .sl 2 false [], .sl 5 false [x]] := by
    rw [← h, ← dT_eq]; rfl
  rw [e]
  exact .agg (.cons (.refl _) (.cons (.refl _) (.cons (.full _ _ _) (.cons (.nil _ _ _) (.cons (.full _ _ _) .nil)))))
set_option maxHeartbeats 8000000 in
theorem topP (w0 : W0) : ∀ (d : Nat) (n : N) (S : St), Nd d n → totN n ≤ 131000 → ACall Tryz.prog w0 83 [eT n] S (fun e S' => e = eT (topN n) ∧ S' = S) := by
  have fin : ∀ (d : Nat) (n : N), Nd d n → totN n ≤ 131000 → atR (sizesN n) ≠ 0 → ∀ T, ACall Tryz.prog w0 96 [brT 0 [cellN noS n], dI 0] T (fun e S' => e = eT (mendN (.mk 0 false [cellN noS n]) 0) ∧ S' = T) := fun d n hn ht h0 T => by
    have hM : Nd (d + 1) (.mk 0 false [cellN noS n]) := ⟨rfl, List.cons_ne_nil _ _, fun c hc => by
      rw [N.l_mk, List.mem_singleton] at hc; subst hc; exact cell_ok (by rw [noS_size]; omega) hn⟩
    have := mendP w0 d (.mk 0 false [cellN noS n]) 0 T hM (by rw [totN_mk, tot_cons, tot_nil, tot_cell]; omega) (Nat.lt_add_one 0)
    rw [eT_br (n := .mk 0 false [cellN noS n]) rfl (one_cells1 _ _)] at this
    exact this
  intro d
  induction d with
  | zero =>
    intro n S hn ht
    have hlen := tot_len n
    have hsm := nd_sm hn
    have e1 := topN_else n (.inl hn.1)
    generalize topN n = m at e1
    have hf := fin 0 n hn ht
    rw [eT_leaf hn.1] at *
    refine fnS [] mx Tryz.func83 rfl rfl (by kernel_rfl) ?_; simp (maxDischargeDepth := 12) (maxSteps := 1000000) -implicitDefEqProofs only [Tryz.ntmps83, go_sem, Nat.reduceAdd, Nat.reduceSub, Nat.reduceMul, Nat.reduceLeDiff, Nat.reduceEqDiff, Nat.reduceGT, Nat.reduceBEq, reduceCtorEq, ↓reduceIte, Int.reduceToNat, Int.reduceLE, Int.reduceLT, Int.reduceNe, Int.reduceEq]
    intro b b1
    refine use1 (sizesP w0 n _ hsm (by omega)) ?_ ⟨.eq (eT_leaf hn.1).symm, trivial⟩
    simp (maxDischargeDepth := 12) (maxSteps := 1000000) -implicitDefEqProofs only [go_sem, Nat.reduceAdd, Nat.reduceSub, Nat.reduceMul, Nat.reduceLeDiff, Nat.reduceEqDiff, Nat.reduceGT, Nat.reduceBEq, reduceCtorEq, ↓reduceIte, Int.reduceToNat, Int.reduceLE, Int.reduceLT, Int.reduceNe, Int.reduceEq]
    refine use1 (atP w0 _ _ (sizes_bd n hsm (by omega))) ?_
    simp (maxDischargeDepth := 12) (maxSteps := 1000000) -implicitDefEqProofs only [go_sem, Nat.reduceAdd, Nat.reduceSub, Nat.reduceMul, Nat.reduceLeDiff, Nat.reduceEqDiff, Nat.reduceGT, Nat.reduceBEq, reduceCtorEq, ↓reduceIte, Int.reduceToNat, Int.reduceLE, Int.reduceLT, Int.reduceNe, Int.reduceEq]
    refine ⟨fun h0 => ?_, fun h0 => ?_⟩
    · rw [if_pos (by omega)] at e1
      subst e1
      exact .eq (eT_leaf hn.1).symm
    · rw [if_neg (by omega)] at e1
      subst e1
      refine use1 (hf (by omega) _) ?_ ⟨wk_top (eT_leaf hn.1), .refl _, trivial⟩
      simp (maxDischargeDepth := 12) (maxSteps := 1000000) -implicitDefEqProofs only [go_sem, Nat.reduceAdd, Nat.reduceSub, Nat.reduceMul, Nat.reduceLeDiff, Nat.reduceEqDiff, Nat.reduceGT, Nat.reduceBEq, reduceCtorEq, ↓reduceIte, Int.reduceToNat, Int.reduceLE, Int.reduceLT, Int.reduceNe, Int.reduceEq]
  | succ d ih =>
    intro n S hn ht
    have hlen := tot_len n
    have hsm := nd_sm hn
    have hone := nd_one hn hn.1
    generalize hm : topN n = m
    have hf := fin (d + 1) n hn ht
    rw [eT_br hn.1 hone] at *
    refine fnS [] mx Tryz.func83 rfl rfl (by kernel_rfl) ?_; simp (maxDischargeDepth := 12) (maxSteps := 1000000) -implicitDefEqProofs only [Tryz.ntmps83, go_sem, Nat.reduceAdd, Nat.reduceSub, Nat.reduceMul, Nat.reduceLeDiff, Nat.reduceEqDiff, Nat.reduceGT, Nat.reduceBEq, reduceCtorEq, ↓reduceIte, Int.reduceToNat, Int.reduceLE, Int.reduceLT, Int.reduceNe, Int.reduceEq]
    unfold brT
    simp (maxDischargeDepth := 12) (maxSteps := 1000000) -implicitDefEqProofs only [go_sem, Nat.reduceAdd, Nat.reduceSub, Nat.reduceMul, Nat.reduceLeDiff, Nat.reduceEqDiff, Nat.reduceGT, Nat.reduceBEq, reduceCtorEq, ↓reduceIte, Int.reduceToNat, Int.reduceLE, Int.reduceLT, Int.reduceNe, Int.reduceEq]
    intro b b1
    refine ⟨fun h1 => ⟨by omega, fun c hc => ?_⟩, fun h1 => ?_⟩
    · obtain ⟨c', kid, hc', _, e2, hkid, _, hnd⟩ := nd_kid hn (k := 0) (by omega)
      cases getE hc hc'
      have hl : n.l = [c] := by
        cases h : n.l with
        | nil => rw [h] at hc; cases hc
        | cons a r =>
          rw [h] at hc h1
          cases r with
          | nil => cases hc; rfl
          | cons _ _ => simp at h1; omega
      have hkt := tot_kid (List.mem_of_getElem? hc) hkid
      rw [e2]
      refine use1 (ih kid _ hnd (by omega)) ?_
      rw [topN_one n hn.1 hl hkid] at hm
      rw [hm]
      simp (maxDischargeDepth := 12) (maxSteps := 1000000) -implicitDefEqProofs only [go_sem, Nat.reduceAdd, Nat.reduceSub, Nat.reduceMul, Nat.reduceLeDiff, Nat.reduceEqDiff, Nat.reduceGT, Nat.reduceBEq, reduceCtorEq, ↓reduceIte, Int.reduceToNat, Int.reduceLE, Int.reduceLT, Int.reduceNe, Int.reduceEq]
    · have e1 := topN_else n (.inr (by omega))
      rw [hm] at e1
      refine use1 (sizesP w0 n _ hsm (by omega)) ?_ ⟨.eq (eT_br hn.1 hone).symm, trivial⟩
      simp (maxDischargeDepth := 12) (maxSteps := 1000000) -implicitDefEqProofs only [go_sem, Nat.reduceAdd, Nat.reduceSub, Nat.reduceMul, Nat.reduceLeDiff, Nat.reduceEqDiff, Nat.reduceGT, Nat.reduceBEq, reduceCtorEq, ↓reduceIte, Int.reduceToNat, Int.reduceLE, Int.reduceLT, Int.reduceNe, Int.reduceEq]
      refine use1 (atP w0 _ _ (sizes_bd n hsm (by omega))) ?_
      simp (maxDischargeDepth := 12) (maxSteps := 1000000) -implicitDefEqProofs only [go_sem, Nat.reduceAdd, Nat.reduceSub, Nat.reduceMul, Nat.reduceLeDiff, Nat.reduceEqDiff, Nat.reduceGT, Nat.reduceBEq, reduceCtorEq, ↓reduceIte, Int.reduceToNat, Int.reduceLE, Int.reduceLT, Int.reduceNe, Int.reduceEq]
      refine ⟨fun h0 => ?_, fun h0 => ?_⟩
      · rw [if_pos (by omega)] at e1
        subst e1
        exact .eq (eT_br hn.1 hone).symm
      · rw [if_neg (by omega)] at e1
        subst e1
        refine use1 (hf (by omega) _) ?_ ⟨wk_top (eT_br hn.1 hone), .refl _, trivial⟩
        simp (maxDischargeDepth := 12) (maxSteps := 1000000) -implicitDefEqProofs only [go_sem, Nat.reduceAdd, Nat.reduceSub, Nat.reduceMul, Nat.reduceLeDiff, Nat.reduceEqDiff, Nat.reduceGT, Nat.reduceBEq, reduceCtorEq, ↓reduceIte, Int.reduceToNat, Int.reduceLE, Int.reduceLT, Int.reduceNe, Int.reduceEq]
/-- What is looked for, in a row that rises. -/
theorem find_idx {l : List C} (h : Rise l) (key : ByteArray) : (hasN l key = false → l.find? (fun c => eqS c.key key) = none) ∧ ∀ c, l[idxN l key]? = some c → hasN l key = true → l.find? (fun c => eqS c.key key) = some c := by
  obtain ⟨A, B, hl, hA, hB⟩ := cut_at key h
  have hi : idxN l key = A.length := by rw [hl]; exact idx_app hA hB
  have hg : l[idxN l key]? = B[0]? := by rw [hi, hl, List.getElem?_append_right (Nat.le_refl _), Nat.sub_self]
  have f1 : A.find? (fun c => eqS c.key key) = none := List.find?_eq_none.2 fun x hx => by
    rw [eqS_no.2 (ltS_ne (hA x hx))]; simp
  have e : l.find? (fun c => eqS c.key key) = B.find? fun c => eqS c.key key := by rw [hl, List.find?_append, f1]; rfl
  rw [e]
  unfold hasN
  rw [hg]
  cases B with
  | nil => exact ⟨fun _ => rfl, fun c hc => by cases hc⟩
  | cons b B =>
    simp only [List.getElem?_cons_zero]
    refine ⟨fun hn => ?_, fun c hc hy => ?_⟩
    · rw [List.find?_cons, hn]
      refine List.find?_eq_none.2 fun x hx => ?_
      have hr : Rise (b :: B) := by rw [hl] at h; exact (List.pairwise_append.1 h).2.1
      have h1 : ltS b.key x.key = true := (List.pairwise_cons.1 hr).1 x hx
      have h2 : leS key b.key = true := leS_iff.2 (hB b List.mem_cons_self)
      rw [eqS_no.2 (ltS_ne (leS_lt h2 h1)).symm]; simp
    · cases hc
      rw [List.find?_cons, hy]
theorem leafPut_yes {l : List C} {key : ByteArray} (h : hasN l key = true) (val : ByteArray) : idxN l key + 1 ≤ l.length ∧ leafPut l key val = l.take (idxN l key) ++ [.mk key val [] []] ++ l.drop (idxN l key + 1) := by
  unfold hasN at h
  unfold leafPut
  split at h
  · rename_i c hc
    refine ⟨(List.getElem?_eq_some_iff.1 hc).1, ?_⟩
    simp only [hc, h, if_true]; rfl
  · cases h
theorem leafPut_no {l : List C} {key : ByteArray} (h : hasN l key = false) (val : ByteArray) : leafPut l key val = l.take (idxN l key) ++ [.mk key val [] []] ++ l.drop (idxN l key + 0) := by
  unfold hasN at h
  unfold leafPut
  split at h
  · rename_i c hc
    simp only [hc, h, Bool.false_eq_true, if_false]; rfl
  · rename_i hc
    simp only [hc]; rfl
theorem wk_val (key val : ByteArray) : Wk (.sl 2 true [.agg [dS val, .sl 0 true []]]) (.sl 2 true [dV2 (.mk key val [] [])]) := .sl ⟨.agg (.cons (.refl _) (.cons (.nil _ _ _) .nil)), trivial⟩
set_option maxHeartbeats 8000000 in
theorem putP (w0 : W0) (key val : ByteArray) (hk : key.size ≤ 16) (hv : val.size ≤ 400) : ∀ (d : Nat) (n : N) (S : St), Good d n → totN n + d + 8 ≤ 131000 → ACall Tryz.prog w0 84 [eT n, dS key, dS val] S (fun e S' => e = eT (putN key val n) ∧ S' = S) := by
  intro d
  induction d with
  | zero =>
    intro n S hg ht
    have hlen := tot_len n
    rw [putN_leaf key val n hg.1, eT_leaf hg.1, eT_leaf rfl]
    refine fnS [] mx Tryz.func84 rfl rfl (by kernel_rfl) ?_; simp (maxDischargeDepth := 12) (maxSteps := 1000000) -implicitDefEqProofs only [Tryz.ntmps84, go_sem, Nat.reduceAdd, Nat.reduceSub, Nat.reduceMul, Nat.reduceLeDiff, Nat.reduceEqDiff, Nat.reduceGT, Nat.reduceBEq, reduceCtorEq, ↓reduceIte, Int.reduceToNat, Int.reduceLE, Int.reduceLT, Int.reduceNe, Int.reduceEq]
    intro b b1
    refine use1 (searchS w0 n.l key _ (rise_mono hg.2.1 key) (by omega)) ?_
    simp (maxDischargeDepth := 12) (maxSteps := 1000000) -implicitDefEqProofs only [go_sem, Nat.reduceAdd, Nat.reduceSub, Nat.reduceMul, Nat.reduceLeDiff, Nat.reduceEqDiff, Nat.reduceGT, Nat.reduceBEq, reduceCtorEq, ↓reduceIte, Int.reduceToNat, Int.reduceLE, Int.reduceLT, Int.reduceNe, Int.reduceEq]
    refine ⟨fun hy => ?_, fun hno => ?_⟩
    · obtain ⟨hi, hput⟩ := leafPut_yes hy val
      refine useQ (swapS w0 (n.l.map fun c => dS c.key) [dS key] (idxN n.l key) 1 _ _ (by rw [List.length_map]; omega) (by rw [List.length_map]; omega) (by simp)) ?_
      simp (maxDischargeDepth := 12) (maxSteps := 1000000) -implicitDefEqProofs only [go_sem, Nat.reduceAdd, Nat.reduceSub, Nat.reduceMul, Nat.reduceLeDiff, Nat.reduceEqDiff, Nat.reduceGT, Nat.reduceBEq, reduceCtorEq, ↓reduceIte, Int.reduceToNat, Int.reduceLE, Int.reduceLT, Int.reduceNe, Int.reduceEq]
      refine useQ (swapV w0 (n.l.map dV2) [dV2 (.mk key val [] [])] (idxN n.l key) 1 true _ (by rw [List.length_map]; omega) (by rw [List.length_map]; omega) (by simp)) ?_ ⟨.refl _, .refl _, .refl _, wk_val key val, trivial⟩
      simp (maxDischargeDepth := 12) (maxSteps := 1000000) -implicitDefEqProofs only [go_sem, Nat.reduceAdd, Nat.reduceSub, Nat.reduceMul, Nat.reduceLeDiff, Nat.reduceEqDiff, Nat.reduceGT, Nat.reduceBEq, reduceCtorEq, ↓reduceIte, Int.reduceToNat, Int.reduceLE, Int.reduceLT, Int.reduceNe, Int.reduceEq]
      rw [hput]
      simp only [List.map_append, List.map_cons, List.map_nil]
      exact .agg (.cons (.refl _) (.cons (.refl _) (.cons (.refl _) (.cons (.refl _) (.cons (.nil _ _ _) .nil)))))
    · have hi := idx_le n.l key
      refine useQ (swapS w0 (n.l.map fun c => dS c.key) [dS key] (idxN n.l key) 0 _ _ (by rw [List.length_map]; omega) (by rw [List.length_map]; omega) (by simp)) ?_
      simp (maxDischargeDepth := 12) (maxSteps := 1000000) -implicitDefEqProofs only [go_sem, Nat.reduceAdd, Nat.reduceSub, Nat.reduceMul, Nat.reduceLeDiff, Nat.reduceEqDiff, Nat.reduceGT, Nat.reduceBEq, reduceCtorEq, ↓reduceIte, Int.reduceToNat, Int.reduceLE, Int.reduceLT, Int.reduceNe, Int.reduceEq]
      refine useQ (swapV w0 (n.l.map dV2) [dV2 (.mk key val [] [])] (idxN n.l key) 0 true _ (by rw [List.length_map]; omega) (by rw [List.length_map]; omega) (by simp)) ?_ ⟨.refl _, .refl _, .refl _, wk_val key val, trivial⟩
      simp (maxDischargeDepth := 12) (maxSteps := 1000000) -implicitDefEqProofs only [go_sem, Nat.reduceAdd, Nat.reduceSub, Nat.reduceMul, Nat.reduceLeDiff, Nat.reduceEqDiff, Nat.reduceGT, Nat.reduceBEq, reduceCtorEq, ↓reduceIte, Int.reduceToNat, Int.reduceLE, Int.reduceLT, Int.reduceNe, Int.reduceEq]
      rw [leafPut_no hno]
      simp only [List.map_append, List.map_cons, List.map_nil]
      exact .agg (.cons (.refl _) (.cons (.refl _) (.cons (.refl _) (.cons (.refl _) (.cons (.nil _ _ _) .nil)))))
  | succ d ih =>
    intro n S hg ht
    have hn := good_nd hg
    have hlen := tot_len n
    have hone := nd_one hn hn.1
    have hlt := way_lt hg.2.1 key
    obtain ⟨c, kid, hc, e1, e2, hkid, hkey, hnd⟩ := nd_kid hn (k := way n.l key) hlt
    obtain ⟨-, -, kid', hkid', hgk, -⟩ := hg.2.2.cell c (List.mem_of_getElem? hc)
    rw [hkid] at hkid'; cases hkid'
    have hkt := tot_kid (List.mem_of_getElem? hc) hkid
    have hw := wayP w0 n key
    rw [putN_br key val n hg.1 hc hkid]
    have hpt := tot_put hk hv hnd
    have hpn := nd_put hk hv hnd
    have ihk := ih kid
    generalize putN key val kid = pk at hpt hpn ihk ⊢
    have hM := nd_with hn hlt 0 (m := [cellN c.key pk]) (.inr (by simp)) fun c hc => by
      rw [List.mem_singleton] at hc; subst hc; exact cell_ok hkey hpn
    have hMt : totN (.mk 0 false (withC n.l (way n.l key) [cellN c.key pk])) ≤ 131072 := by
      have := tot_withC (m := [cellN c.key pk]) hc
      rw [totN_mk]
      rw [tot_cons, tot_nil, tot_cell, totC_kid hkid, ← totN_tot n] at this
      omega
    have hmend := fun T => mendP w0 d _ (way n.l key) T hM hMt (by rw [N.l_mk]; have := withC_len (m := [cellN c.key pk]) hlt; simp at this; omega)
    have hwk : Wk (.agg [dI 0, dB false, .sl 1 false (n.l.map fun c => dS c.key), .sl 0 true [], .sl 5 false (dK (n.l.take (way n.l key)) ++ [eT pk] ++ dK (n.l.drop (way n.l key + 1)))]) (eT (.mk 0 false (withC n.l (way n.l key) [cellN c.key pk]))) :=
      wk_form (one_with hone (one_cells1 _ _)) (keys_with1 hc pk) (kids_with1 n.l _ c.key pk)
    generalize mendN (.mk 0 false (withC n.l (way n.l key) [cellN c.key pk])) (way n.l key) = m at hmend ⊢
    generalize N.mk 0 false (withC n.l (way n.l key) [cellN c.key pk]) = M at hmend hwk
    clear hM hMt
    rw [eT_br hn.1 hone] at hw ⊢
    refine fnS [] mx Tryz.func84 rfl rfl (by kernel_rfl) ?_; simp (maxDischargeDepth := 12) (maxSteps := 1000000) -implicitDefEqProofs only [Tryz.ntmps84, go_sem, Nat.reduceAdd, Nat.reduceSub, Nat.reduceMul, Nat.reduceLeDiff, Nat.reduceEqDiff, Nat.reduceGT, Nat.reduceBEq, reduceCtorEq, ↓reduceIte, Int.reduceToNat, Int.reduceLE, Int.reduceLT, Int.reduceNe, Int.reduceEq]
    unfold brT
    simp (maxDischargeDepth := 12) (maxSteps := 1000000) -implicitDefEqProofs only [go_sem, Nat.reduceAdd, Nat.reduceSub, Nat.reduceMul, Nat.reduceLeDiff, Nat.reduceEqDiff, Nat.reduceGT, Nat.reduceBEq, reduceCtorEq, ↓reduceIte, Int.reduceToNat, Int.reduceLE, Int.reduceLT, Int.reduceNe, Int.reduceEq]
    intro b b1
    refine use1 (hw _ (by omega) hg.2.1) ?_
    simp (maxDischargeDepth := 12) (maxSteps := 1000000) -implicitDefEqProofs only [go_sem, Nat.reduceAdd, Nat.reduceSub, Nat.reduceMul, Nat.reduceLeDiff, Nat.reduceEqDiff, Nat.reduceGT, Nat.reduceBEq, reduceCtorEq, ↓reduceIte, Int.reduceToNat, Int.reduceLE, Int.reduceLT, Int.reduceNe, Int.reduceEq]
    refine ⟨hlt, fun x hx => ?_⟩
    cases getE hc hx
    rw [e2]
    refine useQ (ihk _ hgk (by omega)) ?_
    simp (maxDischargeDepth := 12) (maxSteps := 1000000) -implicitDefEqProofs only [go_sem, Nat.reduceAdd, Nat.reduceSub, Nat.reduceMul, Nat.reduceLeDiff, Nat.reduceEqDiff, Nat.reduceGT, Nat.reduceBEq, reduceCtorEq, ↓reduceIte, Int.reduceToNat, Int.reduceLE, Int.reduceLT, Int.reduceNe, Int.reduceEq]
    refine useQ (swapT w0 (dK n.l) [eT pk] (way n.l key) 1 true _ (by rw [dK_len]; omega) (by rw [dK_len]; omega) (by simp)) ?_
    simp (maxDischargeDepth := 12) (maxSteps := 1000000) -implicitDefEqProofs only [go_sem, Nat.reduceAdd, Nat.reduceSub, Nat.reduceMul, Nat.reduceLeDiff, Nat.reduceEqDiff, Nat.reduceGT, Nat.reduceBEq, reduceCtorEq, ↓reduceIte, Int.reduceToNat, Int.reduceLE, Int.reduceLT, Int.reduceNe, Int.reduceEq]
    refine useQ (hmend _) ?_ ⟨hwk, .refl _, trivial⟩
    simp (maxDischargeDepth := 12) (maxSteps := 1000000) -implicitDefEqProofs only [go_sem, Nat.reduceAdd, Nat.reduceSub, Nat.reduceMul, Nat.reduceLeDiff, Nat.reduceEqDiff, Nat.reduceGT, Nat.reduceBEq, reduceCtorEq, ↓reduceIte, Int.reduceToNat, Int.reduceLE, Int.reduceLT, Int.reduceNe, Int.reduceEq]
set_option maxHeartbeats 1000000 in
theorem PutP (w0 : W0) (key val : ByteArray) (hk : key.size ≤ 16) (hv : val.size ≤ 400) (d : Nat) (n : N) (S : St) (hg : Good d n) (ht : totN n + 2 * d + 16 ≤ 131000) : ACall Tryz.prog w0 44 [eT n, dS key, dS val] S (fun e S' => e = eT (Put key val n) ∧ S' = S) := by
  have h1 := putP w0 key val hk hv d n
  have h2 := tot_put hk hv (good_nd hg)
  have h3 := topP w0 d (putN key val n) 
  have h4 := nd_put hk hv (good_nd hg)
  unfold Put
  generalize putN key val n = p at *
  generalize topN p = q at *
  refine fnS [] mx Tryz.func44 rfl rfl (by kernel_rfl) ?_; simp (maxDischargeDepth := 12) (maxSteps := 1000000) -implicitDefEqProofs only [Tryz.ntmps44, go_sem, Nat.reduceAdd, Nat.reduceSub, Nat.reduceMul, Nat.reduceLeDiff, Nat.reduceEqDiff, Nat.reduceGT, Nat.reduceBEq, reduceCtorEq, ↓reduceIte, Int.reduceToNat, Int.reduceLE, Int.reduceLT, Int.reduceNe, Int.reduceEq]
  intro b b1
  refine use1 (h1 _ hg (by omega)) ?_
  simp (maxDischargeDepth := 12) (maxSteps := 1000000) -implicitDefEqProofs only [go_sem, Nat.reduceAdd, Nat.reduceSub, Nat.reduceMul, Nat.reduceLeDiff, Nat.reduceEqDiff, Nat.reduceGT, Nat.reduceBEq, reduceCtorEq, ↓reduceIte, Int.reduceToNat, Int.reduceLE, Int.reduceLT, Int.reduceNe, Int.reduceEq]
  refine use1 (h3 _ h4 (by omega)) ?_
  simp (maxDischargeDepth := 12) (maxSteps := 1000000) -implicitDefEqProofs only [go_sem, Nat.reduceAdd, Nat.reduceSub, Nat.reduceMul, Nat.reduceLeDiff, Nat.reduceEqDiff, Nat.reduceGT, Nat.reduceBEq, reduceCtorEq, ↓reduceIte, Int.reduceToNat, Int.reduceLE, Int.reduceLT, Int.reduceNe, Int.reduceEq]
end Go.Proofs.YtfieabidajilmaaGreat

namespace Go.Proofs.YtfieabidajilmaaGreat
open Aml Go
set_option linter.unusedVariables false
set_option linter.unusedSimpArgs false
set_option maxRecDepth 100000
set_option maxHeartbeats 8000000 in
theorem findP (w0 : W0) (key : ByteArray) (d : Nat) (n : N) (S : St) (hg : Good d n) (ht : totN n ≤ 131000) : ACall Tryz.prog w0 56 [eT n, dS key] S (fun e S' => e = .tup [dS ((findN key n).getD noS), dB (findN key n).isSome] ∧ S' = S) := by
  refine fnS [] mx Tryz.func56 rfl rfl (by kernel_rfl) ?_; simp (maxDischargeDepth := 12) (maxSteps := 1000000) -implicitDefEqProofs only [Tryz.ntmps56, go_sem, Nat.reduceAdd, Nat.reduceSub, Nat.reduceMul, Nat.reduceLeDiff, Nat.reduceEqDiff, Nat.reduceGT, Nat.reduceBEq, reduceCtorEq, ↓reduceIte, Int.reduceToNat, Int.reduceLE, Int.reduceLT, Int.reduceNe, Int.reduceEq]
  intro b
  refine loopK [] [1, 2] (fun s : Nat × N => []) (fun s => ⟨(b.n, cT s.2) :: S.box, S.acc⟩) (fun s => Good s.1 s.2 ∧ totN s.2 ≤ 131000 ∧ findN key s.2 = findN key n) (fun s => s.1) (d, n) mx (by kernel_rfl) ?_ ?_
  · simp (maxDischargeDepth := 12) (maxSteps := 1000000) -implicitDefEqProofs only [go_sem, Nat.reduceAdd, Nat.reduceSub, Nat.reduceMul, Nat.reduceLeDiff, Nat.reduceEqDiff, Nat.reduceGT, Nat.reduceBEq, reduceCtorEq, ↓reduceIte, Int.reduceToNat, Int.reduceLE, Int.reduceLT, Int.reduceNe, Int.reduceEq, cT]
    exact ⟨hg, ht⟩
  · rintro ⟨d, m⟩ ⟨hg, ht, he⟩
    simp only at hg ht he
    have hlen := tot_len m
    cases d with
    | zero =>
      have hl := hg.1
      have hf := find_idx hg.2.1 key
      rw [← he, findN_leaf key m hl]
      simp only [cT, hl, kidsOf_leaf hl, if_true]
      simp (maxDischargeDepth := 12) (maxSteps := 1000000) -implicitDefEqProofs only [go_sem, Nat.reduceAdd, Nat.reduceSub, Nat.reduceMul, Nat.reduceLeDiff, Nat.reduceEqDiff, Nat.reduceGT, Nat.reduceBEq, reduceCtorEq, ↓reduceIte, Int.reduceToNat, Int.reduceLE, Int.reduceLT, Int.reduceNe, Int.reduceEq]
      refine use1 (searchS w0 m.l key _ (rise_mono hg.2.1 key) (by omega)) ?_
      simp (maxDischargeDepth := 12) (maxSteps := 1000000) -implicitDefEqProofs only [go_sem, Nat.reduceAdd, Nat.reduceSub, Nat.reduceMul, Nat.reduceLeDiff, Nat.reduceEqDiff, Nat.reduceGT, Nat.reduceBEq, reduceCtorEq, ↓reduceIte, Int.reduceToNat, Int.reduceLE, Int.reduceLT, Int.reduceNe, Int.reduceEq]
      refine ⟨fun h => ?_, fun h => ?_⟩
      · rw [hf.1 h]; exact .refl _
      · obtain ⟨hi, -⟩ := leafPut_yes h noS
        refine ⟨by omega, fun a ha => ?_⟩
        rw [hf.2 a ha h]; exact .refl _
    | succ d =>
      have hn := good_nd hg
      have hone := nd_one hn hn.1
      have hlt := way_lt hg.2.1 key
      obtain ⟨c, kid, hc, e1, e2, hkid, hkey, hnd⟩ := nd_kid hn (k := way m.l key) hlt
      obtain ⟨-, -, kid', hkid', hgk, -⟩ := hg.2.2.cell c (List.mem_of_getElem? hc)
      rw [hkid] at hkid'; cases hkid'
      have hkt := tot_kid (List.mem_of_getElem? hc) hkid
      have hec : cT m = [dI m.page, dB false, .sl 1 false (m.l.map fun c => dS c.key), .sl 2 false [], .sl 5 false (dK m.l)] := by
        have := eT_br hn.1 hone
        unfold eT brT at this
        unfold cT
        exact DV.agg.inj this
      have hw := wayP w0 m key
      rw [eT_br hn.1 hone] at hw
      rw [hec]
      simp (maxDischargeDepth := 12) (maxSteps := 1000000) -implicitDefEqProofs only [go_sem, Nat.reduceAdd, Nat.reduceSub, Nat.reduceMul, Nat.reduceLeDiff, Nat.reduceEqDiff, Nat.reduceGT, Nat.reduceBEq, reduceCtorEq, ↓reduceIte, Int.reduceToNat, Int.reduceLE, Int.reduceLT, Int.reduceNe, Int.reduceEq]
      refine ⟨fun _ => useQ (hw _ (by omega) hg.2.1) ?_, fun h => absurd (by omega) h⟩
      simp (maxDischargeDepth := 12) (maxSteps := 1000000) -implicitDefEqProofs only [go_sem, Nat.reduceAdd, Nat.reduceSub, Nat.reduceMul, Nat.reduceLeDiff, Nat.reduceEqDiff, Nat.reduceGT, Nat.reduceBEq, reduceCtorEq, ↓reduceIte, Int.reduceToNat, Int.reduceLE, Int.reduceLT, Int.reduceNe, Int.reduceEq]
      refine ⟨hlt, fun x hx => ?_⟩
      cases getE hc hx
      rw [e2]
      refine ⟨(d, kid), ⟨hgk, by show totN kid ≤ 131000; omega, ?_⟩, Nat.lt_add_one d, ?_⟩
      · show findN key kid = findN key n
        rw [← he, findN_br key m hg.1 hc hkid]
      · exact .refl _
end Go.Proofs.YtfieabidajilmaaGreat

namespace Aml
open Go Go.RowKit
set_option linter.unusedVariables false
set_option linter.unusedSimpArgs false
def del (L : List (Nat × Ob)) (n : Nat) : List (Nat × Ob) := L.filter fun p => p.1 != n
theorem mem_del {L : List (Nat × Ob)} {n : Nat} {p : Nat × Ob} : p ∈ del L n ↔ p ∈ L ∧ p.1 ≠ n := by unfold del; simp
theorem del_none {L : List (Nat × Ob)} {n : Nat} (h : ∀ p, p ∈ L → p.1 ≠ n) : del L n = L := List.filter_eq_self.2 fun p hp => by simpa using h p hp
theorem ren_perm {n : Nat} {p : Nat × Ob} {o : Ob} : ∀ {L : List (Nat × Ob)}, (L.map (·.1)).Nodup → lk L n = some o → (ren L n p).Perm (p :: del L n)
  | [], _, h => by cases h
  | (k, x) :: t, hn, h => by
    simp only [List.map_cons, List.nodup_cons] at hn
    simp only [lk] at h
    simp only [ren]
    split
    · rename_i e
      subst e
      have h1 : del ((k, x) :: t) k = t := by
        have h2 : del t k = t := del_none fun q hq e => hn.1 (by rw [← e]; exact List.mem_map_of_mem hq)
        unfold del at *
        rw [List.filter_cons_of_neg (by simp)]; exact h2
      rw [h1]
    · rename_i e
      rw [if_neg e] at h
      have h1 : del ((k, x) :: t) n = (k, x) :: del t n := by unfold del; rw [List.filter_cons_of_pos (by simpa using e)]
      rw [h1]
      exact ((ren_perm hn.2 h).cons _).trans (.swap _ _ _)
/-- Elements that are cells in a box. -/
def Els (s : Nat) (xs : List DV) : Prop := ∀ d, d ∈ xs → okE d = true ∧ (cd d).length = s
def rowD (s c : Nat) (xs : List DV) : List DV := xs.flatMap cd ++ List.replicate ((c - xs.length) * s) .any
theorem els_len {s : Nat} : ∀ {xs : List DV}, Els s xs → (xs.flatMap cd).length = xs.length * s
  | [], _ => by simp
  | d :: xs, h => by
    rw [List.flatMap_cons, List.length_append, els_len fun x hx => h x (List.mem_cons_of_mem _ hx), (h d List.mem_cons_self).2, List.length_cons, Nat.succ_mul]; omega
theorem rowD_len {s c : Nat} {xs : List DV} (h : Els s xs) (hc : xs.length ≤ c) : (rowD s c xs).length = c * s := by
  unfold rowD
  rw [List.length_append, els_len h, List.length_replicate, ← Nat.add_mul]; congr 1; omega
section
variable {P : Program} {w0 : W0}
theorem Rel.openA {g : Gh} {S : St} {w : World} (h : Rel w0 g S w) {l s : Nat} {xs : List DV} (hl : lk S.acc l = some (.arr s xs)) (hn : xs ≠ []) (he : Els s xs) :
    ∃ b c, g.acc l xs.length = some (.slice (some ⟨b, 0, none⟩) xs.length c) ∧ xs.length ≤ c ∧ c ≤ maxLen ∧ nin S.box b ∧ Rel w0 g ⟨(b, rowD s c xs) :: S.box, del S.acc l⟩ w := by
  obtain ⟨ow, h⟩ := h.open_
  have hmem := lk_mem hl
  obtain ⟨hs, ⟨he0, _⟩ | ⟨b, c, cs, e, h1, h2, h3, h4, h5, h6, h7, h8, hA, us, h9, h10, h11, h12⟩⟩ := h.acc l _ hmem
  · exact absurd he0 hn
  have hbn : ∀ p, p ∈ S.box → p.1 ≠ b := by
    rintro ⟨b', ds⟩ hp rfl
    have := (h.box _ _ hp).1
    rw [h2] at this; cases this
  refine ⟨b, c, h1, h7, h8, nin_of hbn, RelO.close (ow := fun k => if k = b then some (.b b) else ow k) ⟨h.below, h.imm, ?_, ?_, h.accw, h.fresh, fun l' o' hl' => h.top l' o' (mem_del.1 hl').1, ?_, ?_, ?_⟩⟩
  · simp only [List.map_cons, List.nodup_cons]
    exact ⟨fun hm => by obtain ⟨p, hp, e⟩ := List.mem_map.1 hm; exact hbn p hp e, h.nb⟩
  · exact List.Sublist.nodup ((List.filter_sublist).map _) h.na
  · intro b' ds hb'
    rcases List.mem_cons.1 hb' with e' | hb'
    · cases e'
      refine ⟨if_pos rfl, h3, h4, cs, e, h5, ?_, hA⟩
      have hfl : (fl us).length = xs.length * s := by rw [fl_length h10, h9.len]
      have hcs : cs.toList = fl us ++ cs.toList.drop (xs.length * s) := by
        apply List.ext_getElem?
        intro k
        rcases Nat.lt_or_ge k (xs.length * s) with hk | hk
        · rw [List.getElem?_append_left (by omega)]
          obtain ⟨v, hv⟩ : ∃ v, (fl us)[k]? = some v := ⟨_, List.getElem?_eq_getElem (by omega)⟩
          obtain ⟨i, u, j, q1, q2, rfl⟩ := fl_inv h10 hv
          rw [hv, Array.getElem?_toList]
          exact h12 i u j v q1 q2
        · rw [List.getElem?_append_right (by omega), hfl, List.getElem?_drop]
          congr 1; omega
      rw [hcs]
      unfold rowD
      refine (repL_flat h9 fun d hd => (he d hd).1).append ?_
      have : (cs.toList.drop (xs.length * s)).length = (c - xs.length) * s := by rw [List.length_drop, Array.length_toList, h6, Nat.sub_mul]
      rw [← this]
      exact repL_anyR g _
    · have hne : b' ≠ b := hbn _ hb'
      exact (h.box b' ds hb').step (.refl g) fun ho => ⟨(if_neg hne).trans ho, rfl, fun _ hi => hi⟩
  · intro l' o' hl'
    obtain ⟨hm, hne⟩ := mem_del.1 hl'
    refine (h.acc l' o' hm).step (.refl g) fun b' ho => ⟨?_, rfl, fun _ hi => hi⟩
    have : b' ≠ b := by
      rintro rfl
      rw [h2] at ho
      cases ho
      exact hne rfl
    rw [if_neg this]; exact ho
  · intro b' k hk
    split at hk
    · rename_i e'; subst e'; exact lt_of_heap h5
    · exact h.owb _ _ hk
theorem regroup {g : Gh} {s : Nat} (hs : 0 < s) : ∀ {ys : List DV} {us : List Value}, RepL g (ys.flatMap cd) us → (∀ u, u ∈ us → u.oneCell' = true) → Els s ys →
    ∃ vs, RepL g ys vs ∧ (∀ (i : Nat) (u : Value), vs[i]? = some u → u.cells.size = s) ∧ (∀ (u : Value), u ∈ vs → ∀ x, x ∈ u.cells.toList → x.oneCell' = true) ∧ fl vs = us
  | [], us, h, _, _ => by
    have : us = [] := List.eq_nil_of_length_eq_zero (by have := h.len; simpa using this.symm)
    subst this
    exact ⟨[], RepL.nil g, by simp, by simp, rfl⟩
  | d :: ys, us, h, h1, he => by
    obtain ⟨hok, hlen⟩ := he d List.mem_cons_self
    have hs1 : RepL g (cd d) (us.take s) := by
      have := h.take s
      rwa [List.flatMap_cons, List.take_append_of_le_length (by omega), List.take_of_length_le (by omega)] at this
    have hs2 : RepL g (ys.flatMap cd) (us.drop s) := by
      have := h.drop s
      rwa [List.flatMap_cons, List.drop_append_of_le_length (by omega), List.drop_eq_nil_of_le (by omega), List.nil_append] at this
    obtain ⟨vs, q1, q2, q3, q4⟩ := regroup hs hs2 (fun u hu => h1 u (List.mem_of_mem_drop hu)) fun x hx => he x (List.mem_cons_of_mem _ hx)
    obtain ⟨v, r1, r2⟩ : ∃ v, Rep g d v ∧ v.cells.toList = us.take s := by
      have hone : ∀ u, u ∈ us.take s → u.oneCell' = true := fun u hu => h1 u (List.mem_of_mem_take hu)
      generalize us.take s = ts at *
      cases d with
      | agg ds => exact ⟨.agg ts.toArray, .agg ds ts hs1.len hs1.at_ hone, by simp [Value.cells]⟩
      | any => cases hok
      | tup ds => cases hok
      | v u0 =>
        obtain ⟨u, us', rfl, a1, a2⟩ := hs1.uncons
        have : us' = [] := List.eq_nil_of_length_eq_zero (by have := a2.len; simpa using this.symm)
        subst this
        exact ⟨u, a1, by have := hone u List.mem_cons_self; cases u <;> simp_all [Value.cells, Value.oneCell']⟩
      | sl a b c =>
        obtain ⟨u, us', rfl, a1, a2⟩ := hs1.uncons
        have : us' = [] := List.eq_nil_of_length_eq_zero (by have := a2.len; simpa using this.symm)
        subst this
        exact ⟨u, a1, by have := hone u List.mem_cons_self; cases u <;> simp_all [Value.cells, Value.oneCell']⟩
      | ifc a b =>
        obtain ⟨u, us', rfl, a1, a2⟩ := hs1.uncons
        have : us' = [] := List.eq_nil_of_length_eq_zero (by have := a2.len; simpa using this.symm)
        subst this
        exact ⟨u, a1, by have := hone u List.mem_cons_self; cases u <;> simp_all [Value.cells, Value.oneCell']⟩
      | acc a b =>
        obtain ⟨u, us', rfl, a1, a2⟩ := hs1.uncons
        have : us' = [] := List.eq_nil_of_length_eq_zero (by have := a2.len; simpa using this.symm)
        subst this
        exact ⟨u, a1, by have := hone u List.mem_cons_self; cases u <;> simp_all [Value.cells, Value.oneCell']⟩
      | ip a =>
        obtain ⟨u, us', rfl, a1, a2⟩ := hs1.uncons
        have : us' = [] := List.eq_nil_of_length_eq_zero (by have := a2.len; simpa using this.symm)
        subst this
        exact ⟨u, a1, by have := hone u List.mem_cons_self; cases u <;> simp_all [Value.cells, Value.oneCell']⟩
      | ap a b c d e =>
        obtain ⟨u, us', rfl, a1, a2⟩ := hs1.uncons
        have : us' = [] := List.eq_nil_of_length_eq_zero (by have := a2.len; simpa using this.symm)
        subst this
        exact ⟨u, a1, by have := hone u List.mem_cons_self; cases u <;> simp_all [Value.cells, Value.oneCell']⟩
      | mp a =>
        obtain ⟨u, us', rfl, a1, a2⟩ := hs1.uncons
        have : us' = [] := List.eq_nil_of_length_eq_zero (by have := a2.len; simpa using this.symm)
        subst this
        exact ⟨u, a1, by have := hone u List.mem_cons_self; cases u <;> simp_all [Value.cells, Value.oneCell']⟩
      | it a =>
        obtain ⟨u, us', rfl, a1, a2⟩ := hs1.uncons
        have : us' = [] := List.eq_nil_of_length_eq_zero (by have := a2.len; simpa using this.symm)
        subst this
        exact ⟨u, a1, by have := hone u List.mem_cons_self; cases u <;> simp_all [Value.cells, Value.oneCell']⟩
    have hul : (us.take s).length = s := by have := hs1.len; omega
    refine ⟨v :: vs, q1.cons r1, ?_, ?_, ?_⟩
    · intro i u hu
      cases i with
      | zero => simp at hu; subst hu; rw [← Array.length_toList, r2, hul]
      | succ i => exact q2 i u (by simpa using hu)
    · intro u hu x hx
      rcases List.mem_cons.1 hu with rfl | hu
      · rw [r2] at hx; exact h1 x (List.mem_of_mem_take hx)
      · exact q3 u hu x hx
    · show v.cells.toList ++ fl vs = us
      rw [r2, q4, List.take_append_drop]
theorem Rel.closeA {g : Gh} {S : St} {w : World} (h : Rel w0 g S w) {b s c : Nat} {ds ys : List DV} (hb : lk S.box b = some ds) (hs : 0 < s) (he : Els s ys) (hds : ds.take (ys.length * s) = ys.flatMap cd) (hdl : ds.length = c * s) (hc : ys.length ≤ c) (hcm : c ≤ maxLen) (L : List (Nat × Ob)) :
    ∃ m g', g.le g' ∧ (∀ p, p ∈ S.acc → p.1 ≠ m) ∧ (∀ p, p ∈ L → p.1 ≠ m) ∧ Rel w0 g' ⟨S.box.filter (fun p => p.1 != b), (m, .arr s ys) :: S.acc⟩ w ∧ Rep g' (.acc m ys.length) (.slice (some ⟨b, 0, none⟩) ys.length c) := by
  obtain ⟨ow, h⟩ := h.open_
  have hmem := lk_mem hb
  obtain ⟨o1, o2, o3, us, e, hh, hr, hone⟩ := h.box b ds hmem
  obtain ⟨m0, hm0⟩ := h.fresh
  obtain ⟨m, hm1, hm2, hm3⟩ : ∃ m, m0 ≤ m ∧ (∀ p, p ∈ S.acc → p.1 ≠ m) ∧ ∀ p, p ∈ L → p.1 ≠ m := by
    have : ∀ L : List (Nat × Ob), ∃ k, ∀ p, p ∈ L → p.1 < k := by
      intro L
      induction L with
      | nil => exact ⟨0, fun p h => by cases h⟩
      | cons a l ih =>
        obtain ⟨k, hk⟩ := ih
        refine ⟨a.1 + k + 1, fun p hp => ?_⟩
        rcases List.mem_cons.1 hp with rfl | hp
        · omega
        · have := hk p hp; omega
    obtain ⟨k1, q1⟩ := this S.acc
    obtain ⟨k2, q2⟩ := this L
    exact ⟨m0 + k1 + k2, by omega, fun p hp e => by have := q1 p hp; omega, fun p hp e => by have := q2 p hp; omega⟩
  have hle : g.le (g.setAcc m ys.length (.slice (some ⟨b, 0, none⟩) ys.length c)) := Gh.le_setAcc (.inl (hm0 _ _ hm1))
  have hself : (g.setAcc m ys.length (.slice (some ⟨b, 0, none⟩) ys.length c)).acc m ys.length = some (.slice (some ⟨b, 0, none⟩) ys.length c) := by simp [Gh.setAcc]
  have hbf : ∀ p, p ∈ S.box.filter (fun p => p.1 != b) → p ∈ S.box ∧ p.1 ≠ b := fun p hp => by simpa using hp
  refine ⟨m, _, hle, hm2, hm3, RelO.close (ow := fun k => if k = b then some (.a m) else ow k) ⟨h.below.le hle, h.imm, ?_, ?_, ?_, ?_, ?_, ?_, ?_, ?_⟩, .acc _ _ _ _ hself⟩
  · exact List.Sublist.nodup ((List.filter_sublist).map _) h.nb
  · simp only [List.map_cons, List.nodup_cons]
    exact ⟨fun hm => by obtain ⟨p, hp, e⟩ := List.mem_map.1 hm; exact hm2 p hp e, h.na⟩
  · intro l' n' u hu
    simp only [Gh.setAcc] at hu
    split at hu
    · rename_i e'
      obtain ⟨rfl, rfl⟩ := e'
      exact ⟨_, _, (Option.some.inj hu).symm, .inr ⟨b, 0, rfl⟩⟩
    · exact h.accw _ _ _ hu
  · refine ⟨m + 1, fun l' n' hl' => ?_⟩
    simp only [Gh.setAcc]
    rw [if_neg (by omega)]
    exact hm0 _ _ (by omega)
  · intro l' o' hl' k hk
    simp only [Gh.setAcc]
    rcases List.mem_cons.1 hl' with e' | hl'
    · cases e'
      simp only [Ob.len] at hk
      rw [if_neg (by omega)]
      exact hm0 _ _ hm1
    · rw [if_neg (fun e' => hm2 _ hl' e'.1)]
      exact h.top _ _ hl' k hk
  · intro b' ds' hb'
    obtain ⟨h1, h2⟩ := hbf _ hb'
    exact (h.box b' ds' h1).step hle fun ho => ⟨(if_neg h2).trans ho, rfl, fun _ hi => hi⟩
  · intro l' o' hl'
    rcases List.mem_cons.1 hl' with e' | hl'
    · cases e'
      have hR : RepL g (ys.flatMap cd) (us.toList.take (ys.length * s)) := by rw [← hds]; exact hr.take _
      obtain ⟨vs, q1, q2, q3, q4⟩ := regroup hs hR (fun u hu => hone u (List.mem_of_mem_take hu)) he
      refine ⟨hs, .inr ⟨b, c, us, e, hself, if_pos rfl, o2, o3, hh, ?_, hc, hcm, hone, vs, q1.mono hle, q2, q3, fun i u j x a1 a2 => ?_⟩⟩
      · have := hr.len; rw [hdl, Array.length_toList] at this; exact this.symm
      · have hj : j < s := by rw [← q2 i u a1]; exact (Array.getElem?_eq_some_iff.1 a2).1
        have hi : i < ys.length := by rw [q1.len]; exact (List.getElem?_eq_some_iff.1 a1).1
        have := fl_at q2 a1 a2
        rw [q4, List.getElem?_take, if_pos (lt_mul hi hj)] at this
        rw [← Array.getElem?_toList]; exact this
    · refine (h.acc l' o' hl').step hle fun b' ho => ⟨?_, rfl, fun _ hi => hi⟩
      have : b' ≠ b := by rintro rfl; rw [o1] at ho; cases ho
      rw [if_neg this]; exact ho
  · intro b' k hk
    split at hk
    · rename_i e'; subst e'; exact lt_of_heap hh
    · exact h.owb _ _ hk
/-- A function of an own row, walked where that is a box. -/
theorem acall_open {f : FuncId} {args : List DV} {S : St} {l s : Nat} {xs : List DV} {K : List DV → Prop} (hl : lk S.acc l = some (.arr s xs)) (hn : xs ≠ []) (hs : 0 < s) (he : Els s xs)
    (h : ∀ b c, nin S.box b → xs.length ≤ c → c ≤ maxLen → ACall P w0 f (.v (.slice (some ⟨b, 0, none⟩) xs.length c) :: args) ⟨(b, rowD s c xs) :: S.box, del S.acc l⟩ fun d S' => ∃ b' c' ds ys B, K ys ∧ d = .v (.slice (some ⟨b', 0, none⟩) ys.length c') ∧ lk S'.box b' = some ds ∧ S'.acc = del S.acc l ∧
      S'.box = B ∧ S.box.Sublist (B.filter fun p => p.1 != b') ∧ Els s ys ∧ ds.take (ys.length * s) = ys.flatMap cd ∧ ds.length = c' * s ∧ ys.length ≤ c' ∧ c' ≤ maxLen) :
    ACall P w0 f (.acc l xs.length :: args) S fun d S' => ∃ ys, ∃ m : FN S.acc, K ys ∧ d = .acc m.n ys.length ∧ S' = ⟨S.box, ren S.acc l (m.n, .arr s ys)⟩ := by
  intro g vs w h1 h2
  obtain ⟨b, c, hv, hc1, hc2, hbn, hR⟩ := h1.openA hl hn he
  have h2' : RepL g (.v (.slice (some ⟨b, 0, none⟩) xs.length c) :: args) vs.toList := by
    obtain ⟨u, us', e, r1, r2⟩ := h2.uncons
    rw [e]
    refine RepL.cons ?_ r2
    cases r1 with
    | acc _ _ o' c' ha =>
      rw [hv] at ha
      cases ha
      exact .v _ rfl
  refine (h b c hbn hc1 hc2 g vs w hR h2').mono ?_
  rintro e w' ⟨r, g', d, S', rfl, hle, hR', hd, b', c', ds, ys, B, hK, rfl, hb', hacc, rfl, hsub, he', hds, hdl, hc3, hc4⟩
  obtain ⟨m, g2, hle2, hm1, hm2, hR2, hA⟩ := hR'.closeA hb' hs he' hds hdl hc3 hc4 S.acc
  have hrv := rep_v hd
  subst hrv
  refine ⟨_, g2, _, ⟨S.box, ren S.acc l (m, .arr s ys)⟩, rfl, hle.trans hle2, ?_, hA, ys, ⟨m, nin_of hm2⟩, hK, rfl, rfl⟩
  rw [hacc] at hR2
  have hR3 := hR2.forget (S' := ⟨S.box, (m, .arr s ys) :: del S.acc l⟩) hsub (List.Sublist.refl _)
  exact (⟨.refl _, (ren_perm h1.na hl).symm⟩ : Y.StP ⟨S.box, (m, .arr s ys) :: del S.acc l⟩ ⟨S.box, ren S.acc l (m, .arr s ys)⟩).rel hR3
end
end Aml
