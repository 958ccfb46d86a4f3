/-
  Statements whose order is open, walked in an order of one's own: what looks at no store, what reads the store of the beginning, what keeps it, what else there is; Keys looked for; nodes parted and put together: what the program computes; A kid parted, two neighbours put together, a branch mended: what the program computes; A branch mended: what the program computes; Keys put and found: what the program computes; Keys found and deleted: what the program computes; An own row as a box, and back; Elements of an own row deleted: what the library computes; A key deleted: what the program computes; A key deleted, whole; where there is nothing: what the program computes; Entries of the model: strings compared, rows that lie apart; Where a name stands among a view's trees: what the program computes; A named tree set into an own row: what the library computes; A view's changes, plain; what the program computes; A view's tree changed, plain; what the program computes; Entries from a key on, by a stack of nodes and places; A scope out of which nothing jumps back; A cursor settles: what the program computes; A cursor is set ahead of a key: what the program computes; A cursor's next entry; some entries of a tree by name: what the program computes; Some entries of a view's tree: what the program computes; Views stay views; what one name holds: plain laws; What a view holds at one name: plain laws; The law's steps on a view: what the program computes; The law's example on views: what the program computes; ViewApart: what the program computes; From an argument that reads as a datum to an abstract value; from a walked call to the row's own words; ViewApart; A view's trees as the law has them: what the program computes; What is the same is the same: what the program computes; Trees of the program, and the iterator over their nodes; DERIVED: THE SHELF's CONTRACTS AT THIS DUMP, IN PLAIN WORDS (tools/lay-plain.mjs out of 'TryzShelf.lean', which tools/lay-shelf.mjs wrote): THE SAME DECLARATIONS UNDER THE SAME NAMES: 'import', 'namespace', 'open', 'def', 'theorem' AND NOTHING ELSE: no command of the shelf's: FOR A HAND-IN. Each laying: the table of numbers ('.._ren') and one theorem, a field a fact of the dump's own or the kernel's comparison; each contract: ONE APPLICATION; The library's sort of ints, as the walk speaks; How many pages a tree takes, and which it has: the program. By an AI agent.
-/
import Derived.Test.YtfieabidajilmaaGreatMN4
import Derived.Lib.Bytealg
import Derived.Lib.Overlaps
import Derived.Test.YtfieabidajilmaaGreatRows
import Derived.Test.YtfieabidajilmaaGreatMN3
import Derived.ProofKit
import Derived.OpenShut
import Derived.JoinedCond
import Derived.Carry
import Derived.Shelf.Small.Bits
import Derived.Shelf.Strconv.Itoa0
import Derived.Shelf.Sort.Plain
import Derived.Ground.Names2Prog
import Derived.Shelf.Slices.SearchI
import Derived.Shelf.Slices.In.SortNone
import Derived.Shelf.Slices.Empties
import Derived.Test.YtfieabidajilmaaGreatProg
import Derived.Test.YtfieabidajilmaaGreatMN2
import Derived.Sort.Grow
namespace Aml.Y
open Go Go.RowKit
set_option linter.unusedVariables false
set_option linter.unusedSimpArgs false

/-- 0: looks at no store; 1: reads the store of the beginning; 2: keeps that; 4: makes a box; 3: else. -/
def cls (gs ns : List Nat) (i : Nat) (op : Op) : Nat := if gs.contains i then 2 else if ns.contains i then 3 else match Z.kX op with
  | 0 => 0
  | 1 => 1
  | 2 => 4
  | _ => 3
/-- May two that have no order change places? -/
def okP (a b : Nat) : Bool := a == 0 || (a == 1 && (decide (b < 3) || b == 4)) || (a == 4 && b == 4)
/-- The same store, but for its order. -/
structure StP (S T : St) : Prop where
  box : S.box.Perm T.box
  acc : S.acc.Perm T.acc
theorem StP.refl (S : St) : StP S S := ⟨.refl _, .refl _⟩
theorem StP.symm {S T : St} (h : StP S T) : StP T S := ⟨h.box.symm, h.acc.symm⟩
theorem StP.trans {S T U : St} (h : StP S T) (k : StP T U) : StP S U := ⟨h.box.trans k.box, h.acc.trans k.acc⟩
theorem StP.rel {w0 : W0} {g : Gh} {S T : St} {w : World} (h : StP S T) (r : Rel w0 g S w) : Rel w0 g T w :=
  ⟨r.below, r.imm, (h.box.map _).nodup_iff.1 r.nb, (h.acc.map _).nodup_iff.1 r.na, r.accw, r.fresh, fun l o ho => r.top l o (h.acc.mem_iff.2 ho), let ⟨ow, h1, h2⟩ := r.own
    ⟨ow, fun b ds hb => h1 b ds (h.box.mem_iff.2 hb), fun l o hl => h2 l o (h.acc.mem_iff.2 hl)⟩⟩
theorem nin_all {α : Type} : ∀ {l : List (Nat × α)} {b : Nat}, nin l b → ∀ p, p ∈ l → p.1 ≠ b
  | [], b, _, p, h => by cases h
  | (k, x) :: t, b, h, p, hp => by
      rcases List.mem_cons.1 hp with rfl | hp
      · exact h.1
      · exact nin_all h.2.2 p hp
theorem nin_ex {α : Type} (l : List (Nat × α)) : ∃ b, nin l b := by
  have : ∃ b, ∀ p, p ∈ l → p.1 < b := by
    induction l with
    | nil => exact ⟨0, fun p h => by cases h⟩
    | cons a l ih =>
      obtain ⟨b, hb⟩ := ih
      refine ⟨a.1 + b + 1, fun p hp => ?_⟩
      rcases List.mem_cons.1 hp with rfl | hp
      · omega
      · have := hb p hp; omega
  obtain ⟨b, hb⟩ := this
  exact ⟨b, nin_of fun p hp e => by have := hb p hp; omega⟩
theorem StP.nin {S T : St} (h : StP S T) {b : Nat} (k : nin S.box b) : nin T.box b := nin_of fun p hp => nin_all k p (h.box.mem_iff.2 hp)
theorem StP.yields {P : Program} {w0 : W0} {o : Oper} {ρ : Operand → DV} {S T : St} {K : DV → St → Prop} (h : StP S T) (y : YieldsE P w0 o ρ S K) : YieldsE P w0 o ρ T K :=
  fun g w r h1 h2 h3 => y g w r (h.symm.rel h1) h2 h3
/-- The store of the beginning is in it. -/
structure Hm (X T : St) : Prop where
  box : ∀ b x, lk X.box b = some x → (b, x) ∈ T.box
  acc : ∀ l o, lk X.acc l = some o → (l, o) ∈ T.acc
theorem Hm.of {X T : St} (h : Has X T) : Hm X T := ⟨fun b x hb => lk_mem (h.box b x hb), fun l o hl => lk_mem (h.acc l o hl)⟩
theorem Hm.perm {X S T : St} (h : Hm X S) (k : StP S T) : Hm X T := ⟨fun b x hb => k.box.mem_iff.1 (h.box b x hb), fun l o hl => k.acc.mem_iff.1 (h.acc l o hl)⟩
theorem Hm.has {X T : St} {w0 : W0} {g : Gh} {w : World} (h : Hm X T) (r : Rel w0 g T w) : Has X T := ⟨fun b x hb => lk_of_mem r.nb (h.box b x hb), fun l o hl => lk_of_mem r.na (h.acc l o hl)⟩
/-- Of some order of the store. -/
def PC (F : List DV → St → Prop) (fr : List DV) (S : St) : Prop := ∃ T, StP T S ∧ F fr T
theorem PC.mono {F G : List DV → St → Prop} (h : ∀ fr S, F fr S → G fr S) {fr : List DV} {S : St} (k : PC F fr S) : PC G fr S := let ⟨T, a, b⟩ := k; ⟨T, a, h _ _ b⟩
def Clo (K : List DV → St → Prop) : Prop := ∀ fr S T, StP S T → K fr S → K fr T
theorem PC.clo (F : List DV → St → Prop) : Clo (PC F) := fun _ _ _ h ⟨U, a, b⟩ => ⟨U, a.trans h, b⟩
def bodyO (P : Program) (w0 : W0) (S0 : St) (c : Nat) (o : Oper) (fr : List DV) (S : St) (K : List DV → St → Prop) : Prop :=
  (c = 0 ∧ ∃ d, (∀ S', QY P w0 S' o fr d) ∧ K (pt fr o.dst d) S) ∨
  (c = 1 ∧ Hm S0 S ∧ ∃ d, (∀ S', Hm S0 S' → QY P w0 S' o fr d) ∧ K (pt fr o.dst d) S) ∨
  (c = 2 ∧ YieldsE P w0 o (ev fr) S fun d S' => Hm S0 S' ∧ K (pt fr o.dst d) S') ∨
  (c = 3 ∧ YieldsE P w0 o (ev fr) S fun d S' => K (pt fr o.dst d) S') ∨
  (c = 4 ∧ Hm S0 S ∧ ∃ t, o.op = .alloc t ∧ okE (zD P t) = true ∧ ∀ b, nin S.box b → K (pt fr o.dst (.v (.pointer (some ⟨b, 0, none⟩)))) ⟨(b, cd (zD P t)) :: S.box, S.acc⟩)
def tauO (P : Program) (w0 : W0) (S0 : St) (c : Nat) (ops : Array Oper) (o : Oper) (fr : List DV) (S : St) (K : List DV → St → Prop) : Prop :=
  (wantB ops fr o.guard = some true ∧ bodyO P w0 S0 c o fr S K) ∨ (wantB ops fr o.guard = some false ∧ K (pt fr o.dst ud) S)

section
variable {P : Program} {w0 : W0} {S0 : St} {ops : Array Oper} {md : Region.Mode}
theorem bodyO_mono {c : Nat} {o : Oper} {fr : List DV} {S : St} {K K' : List DV → St → Prop} (h : ∀ fr S, K fr S → K' fr S) (b : bodyO P w0 S0 c o fr S K) : bodyO P w0 S0 c o fr S K' := by
  rcases b with ⟨c, d, q, k⟩ | ⟨c, hS, d, q, k⟩ | ⟨c, q⟩ | ⟨c, q⟩ | ⟨c, hS, t, ht, hz, k⟩
  · exact .inl ⟨c, d, q, h _ _ k⟩
  · exact .inr (.inl ⟨c, hS, d, q, h _ _ k⟩)
  · exact .inr (.inr (.inl ⟨c, yields_mono (fun d S hk => ⟨hk.1, h _ _ hk.2⟩) q⟩))
  · exact .inr (.inr (.inr (.inl ⟨c, yields_mono (fun d S hk => h _ _ hk) q⟩)))
  · exact .inr (.inr (.inr (.inr ⟨c, hS, t, ht, hz, fun b hb => h _ _ (k b hb)⟩)))
theorem tauO_mono {c : Nat} {o : Oper} {fr : List DV} {S : St} {K K' : List DV → St → Prop} (h : ∀ fr S, K fr S → K' fr S) (b : tauO P w0 S0 c ops o fr S K) : tauO P w0 S0 c ops o fr S K' :=
  b.imp (fun ⟨a, b⟩ => ⟨a, bodyO_mono h b⟩) fun ⟨a, b⟩ => ⟨a, h _ _ b⟩
/-- A store's order plays no part. -/
theorem tauO_clo {c : Nat} {o : Oper} {K : List DV → St → Prop} (hK : Clo K) : Clo fun fr S => tauO P w0 S0 c ops o fr S K := fun fr S T hp h => by
  rcases h with ⟨g, b⟩ | ⟨g, k⟩
  · refine .inl ⟨g, ?_⟩
    rcases b with ⟨c, d, q, k⟩ | ⟨c, hS, d, q, k⟩ | ⟨c, q⟩ | ⟨c, q⟩ | ⟨c, hS, t, ht, hz, k⟩
    · exact .inl ⟨c, d, q, hK _ _ _ hp k⟩
    · exact .inr (.inl ⟨c, hS.perm hp, d, q, hK _ _ _ hp k⟩)
    · exact .inr (.inr (.inl ⟨c, hp.yields q⟩))
    · exact .inr (.inr (.inr (.inl ⟨c, hp.yields q⟩)))
    · exact .inr (.inr (.inr (.inr ⟨c, hS.perm hp, t, ht, hz, fun b hb => hK _ ⟨(b, cd (zD P t)) :: S.box, S.acc⟩ _ ⟨hp.box.cons _, hp.acc⟩ (k b (hp.symm.nin hb))⟩)))
  · exact .inr ⟨g, hK _ _ _ hp k⟩
/-- What another one puts elsewhere is not seen. -/
theorem bodyO_put {c : Nat} {o : Oper} {fr : List DV} {S : St} {K : List DV → St → Prop} {dst : Option Tmp} {e : DV} (h1 : ∀ t, dst = some t → t ∉ o.looksAt ops) (h2 : ∀ t, dst = some t → o.dst ≠ some t) :
    bodyO P w0 S0 c o (pt fr dst e) S K ↔ bodyO P w0 S0 c o fr S fun fr' S' => K (pt fr' dst e) S' := by
  have hq : ∀ S d, QY P w0 S o (pt fr dst e) d ↔ QY P w0 S o fr d := fun S d =>
    ⟨yields_congr (fun x hx => ev_put (ops := ops) h1 x hx), yields_congr (fun x hx => (ev_put (ops := ops) h1 x hx).symm)⟩
  have hc : ∀ d, pt (pt fr dst e) o.dst d = pt (pt fr o.dst d) dst e := fun d => pt_comm fr e d h2
  have hy : ∀ K, YieldsE P w0 o (ev (pt fr dst e)) S K ↔ YieldsE P w0 o (ev fr) S K := fun K =>
    ⟨yields_congr (fun x hx => ev_put (ops := ops) h1 x hx), yields_congr (fun x hx => (ev_put (ops := ops) h1 x hx).symm)⟩
  unfold bodyO
  simp only [hq, hc, hy]
theorem tauO_put {c : Nat} {o : Oper} {fr : List DV} {S : St} {K : List DV → St → Prop} {dst : Option Tmp} {e : DV} (h1 : ∀ t, dst = some t → t ∉ o.looksAt ops) (h2 : ∀ t, dst = some t → o.dst ≠ some t) :
    tauO P w0 S0 c ops o (pt fr dst e) S K ↔ tauO P w0 S0 c ops o fr S fun fr' S' => K (pt fr' dst e) S' := by
  unfold tauO
  rw [want_put h1, bodyO_put h1 h2, pt_comm fr e ud h2]
theorem bodyO_monoP {c : Nat} {o : Oper} {fr : List DV} {S : St} {K K' : List DV → St → Prop} (h : ∀ e S, K (pt fr o.dst e) S → K' (pt fr o.dst e) S) (b : bodyO P w0 S0 c o fr S K) : bodyO P w0 S0 c o fr S K' := by
  rcases b with ⟨c, d, q, k⟩ | ⟨c, hS, d, q, k⟩ | ⟨c, q⟩ | ⟨c, q⟩ | ⟨c, hS, t, ht, hz, k⟩
  · exact .inl ⟨c, d, q, h _ _ k⟩
  · exact .inr (.inl ⟨c, hS, d, q, h _ _ k⟩)
  · exact .inr (.inr (.inl ⟨c, yields_mono (fun d S hk => ⟨hk.1, h _ _ hk.2⟩) q⟩))
  · exact .inr (.inr (.inr (.inl ⟨c, yields_mono (fun d S hk => h _ _ hk) q⟩)))
  · exact .inr (.inr (.inr (.inr ⟨c, hS, t, ht, hz, fun b hb => h _ _ (k b hb)⟩)))
theorem tauO_monoP {c : Nat} {o : Oper} {fr : List DV} {S : St} {K K' : List DV → St → Prop} (h : ∀ e S, K (pt fr o.dst e) S → K' (pt fr o.dst e) S) (b : tauO P w0 S0 c ops o fr S K) : tauO P w0 S0 c ops o fr S K' :=
  b.imp (fun ⟨a, b⟩ => ⟨a, bodyO_monoP h b⟩) fun ⟨a, b⟩ => ⟨a, h _ _ b⟩
theorem Hm.cons {X S : St} (h : Hm X S) {b : Nat} (v : List DV) : Hm X ⟨(b, v) :: S.box, S.acc⟩ := ⟨fun c x hc => List.mem_cons_of_mem _ (h.box c x hc), fun l o hl => h.acc l o hl⟩
/-- Two that are apart change places. -/
theorem tauO_comm0 {cx cy : Nat} {x y : Oper} (hap : x.apart ops y = true) (hk : okP cx cy = true) {fr : List DV} {S : St} {K : List DV → St → Prop} (hK : Clo K) (h : tauO P w0 S0 cx ops x fr S fun fr S => tauO P w0 S0 cy ops y fr S K) :
    tauO P w0 S0 cy ops y fr S fun fr S => tauO P w0 S0 cx ops x fr S K := by
  obtain ⟨b1, b2, b3⟩ := Oper.apart_spec hap
  have hw : ∀ e, wantB ops (pt fr y.dst e) x.guard = wantB ops fr x.guard := fun e => want_put b3
  have hq : ∀ {S d e}, QY P w0 S x fr d → QY P w0 S x (pt fr y.dst e) d := fun {S d e} q => yields_congr (fun z hz => (ev_put (ops := ops) b3 z hz).symm) q
  rcases h with ⟨hg, hb⟩ | ⟨hg, hb⟩
  · rcases hb with ⟨c, d, q, k⟩ | ⟨c, hS, d, q, k⟩ | ⟨c, -⟩ | ⟨c, -⟩ | ⟨c, hS, t, ht, hz, k⟩
    · rw [tauO_put b1 b2] at k
      exact tauO_monoP (fun e S' hk => .inl ⟨by rw [hw]; exact hg, .inl ⟨c, d, fun S'' => hq (q S''), hk⟩⟩) k
    · rw [tauO_put b1 b2] at k
      rcases k with ⟨g2, k⟩ | ⟨g2, k⟩
      · rcases k with ⟨c2, d2, q2, k⟩ | ⟨c2, hS2, d2, q2, k⟩ | ⟨c2, q2⟩ | ⟨c2, -⟩ | ⟨c2, hS2, t2, ht2, hz2, k2⟩
        · exact .inl ⟨g2, .inl ⟨c2, d2, q2, .inl ⟨by rw [hw]; exact hg, .inr (.inl ⟨c, hS, d, fun S' h' => hq (q S' h'), k⟩)⟩⟩⟩
        · exact .inl ⟨g2, .inr (.inl ⟨c2, hS2, d2, q2, .inl ⟨by rw [hw]; exact hg, .inr (.inl ⟨c, hS, d, fun S' h' => hq (q S' h'), k⟩)⟩⟩)⟩
        · exact .inl ⟨g2, .inr (.inr (.inl ⟨c2, yields_mono (fun e S' h' => ⟨h'.1, .inl ⟨by rw [hw]; exact hg, .inr (.inl ⟨c, h'.1, d, fun S'' h'' => hq (q S'' h''), h'.2⟩)⟩⟩) q2⟩))⟩
        · rw [c, c2] at hk; exact absurd hk (by decide)
        · exact .inl ⟨g2, .inr (.inr (.inr (.inr ⟨c2, hS2, t2, ht2, hz2, fun b hb => .inl ⟨by rw [hw]; exact hg, .inr (.inl ⟨c, Hm.cons hS _, d, fun S'' h'' => hq (q S'' h''), k2 b hb⟩)⟩⟩)))⟩
      · exact .inr ⟨g2, .inl ⟨by rw [hw]; exact hg, .inr (.inl ⟨c, hS, d, fun S' h' => hq (q S' h'), k⟩)⟩⟩
    · rw [c] at hk; simp [okP] at hk
    · rw [c] at hk; simp [okP] at hk
    · have hc2 : cy = 4 := by rw [c] at hk; simpa [okP] using hk
      subst hc2
      rcases Classical.em (wantB ops fr y.guard = some true) with g2 | g2
      · refine .inl ⟨g2, .inr (.inr (.inr (.inr ⟨rfl, hS, ?_⟩)))⟩
        obtain ⟨a0, ha0⟩ := nin_ex S.box
        have k0 : tauO P w0 S0 4 ops y (pt fr x.dst (.v (.pointer (some ⟨a0, 0, none⟩)))) ⟨(a0, cd (zD P t)) :: S.box, S.acc⟩ K := k a0 ha0
        rw [tauO_put b1 b2] at k0
        have gen : ∀ a, nin S.box a → ∃ t2, y.op = .alloc t2 ∧ okE (zD P t2) = true ∧ ∀ b, nin ((a, cd (zD P t)) :: S.box) b → K (pt (pt fr y.dst (.v (.pointer (some ⟨b, 0, none⟩)))) x.dst (.v (.pointer (some ⟨a, 0, none⟩)))) ⟨(b, cd (zD P t2)) :: (a, cd (zD P t)) :: S.box, S.acc⟩ := fun a ha => by
          have k1 : tauO P w0 S0 4 ops y (pt fr x.dst (.v (.pointer (some ⟨a, 0, none⟩)))) ⟨(a, cd (zD P t)) :: S.box, S.acc⟩ K := k a ha
          rw [tauO_put b1 b2] at k1
          rcases k1 with ⟨-, b⟩ | ⟨g3, -⟩
          · rcases b with ⟨c2, -⟩ | ⟨c2, -⟩ | ⟨c2, -⟩ | ⟨c2, -⟩ | ⟨c2, -, t2, ht2, hz2, k2⟩
            · cases c2
            · cases c2
            · cases c2
            · cases c2
            · exact ⟨t2, ht2, hz2, fun b hb => k2 b hb⟩
          · rw [g2] at g3; cases g3
        obtain ⟨t2, ht2, hz2, -⟩ := gen a0 ha0
        refine ⟨t2, ht2, hz2, fun b hb => .inl ⟨by rw [hw]; exact hg, .inr (.inr (.inr (.inr ⟨c, Hm.cons hS _, t, ht, hz, fun a ha => ?_⟩)))⟩⟩
        obtain ⟨t3, ht3, -, k3⟩ := gen a ha.2.2
        rw [ht2] at ht3; cases ht3
        exact hK _ ⟨(b, cd (zD P t2)) :: (a, cd (zD P t)) :: S.box, S.acc⟩ _ ⟨.swap _ _ _, .refl _⟩ (k3 b ⟨fun e => ha.2.1 e, fun e => ha.1 e, hb⟩)
      · obtain ⟨a0, ha0⟩ := nin_ex S.box
        have k0 : tauO P w0 S0 4 ops y (pt fr x.dst (.v (.pointer (some ⟨a0, 0, none⟩)))) ⟨(a0, cd (zD P t)) :: S.box, S.acc⟩ K := k a0 ha0
        rw [tauO_put b1 b2] at k0
        rcases k0 with ⟨g3, -⟩ | ⟨g3, -⟩
        · exact absurd g3 g2
        · refine .inr ⟨g3, .inl ⟨by rw [hw]; exact hg, .inr (.inr (.inr (.inr ⟨c, hS, t, ht, hz, fun a ha => ?_⟩)))⟩⟩
          have k1 : tauO P w0 S0 4 ops y (pt fr x.dst (.v (.pointer (some ⟨a, 0, none⟩)))) ⟨(a, cd (zD P t)) :: S.box, S.acc⟩ K := k a ha
          rw [tauO_put b1 b2] at k1
          rcases k1 with ⟨g4, -⟩ | ⟨g4, k1⟩
          · exact absurd g4 g2
          · exact k1
  · rw [tauO_put b1 b2] at hb
    exact tauO_monoP (fun e S' hk => .inr ⟨by rw [hw]; exact hg, hk⟩) hb
theorem tauO_comm {cx cy : Nat} {x y : Oper} (hap : x.apart ops y = true) (hk : okP cx cy = true) {fr : List DV} {S : St} {K : List DV → St → Prop} (h : tauO P w0 S0 cx ops x fr S (PC fun fr S => tauO P w0 S0 cy ops y fr S (PC K))) :
    tauO P w0 S0 cy ops y fr S (PC fun fr S => tauO P w0 S0 cx ops x fr S (PC K)) :=
  tauO_mono (fun fr S h => ⟨S, .refl S, h⟩) (tauO_comm0 hap hk (PC.clo K) (tauO_mono (fun fr S ⟨T, hp, h⟩ => tauO_clo (PC.clo K) _ _ _ hp h) h))

def tauI (P : Program) (w0 : W0) (S0 : St) (gs ns : List Nat) (ops : Array Oper) (i : Nat) (fr : List DV) (S : St) (K : List DV → St → Prop) : Prop := match ops[i]? with
  | none => K fr S
  | some o => tauO P w0 S0 (cls gs ns i o.op) ops o fr S K
def wpO (P : Program) (w0 : W0) (S0 : St) (gs ns : List Nat) (md : Region.Mode) (ops : Array Oper) (K : List DV → St → Prop) : Nat → Array Bool → List DV → St → Prop
  | 0, listed, fr, S => Region.ready md ops listed = [] ∧ K fr S
  | fuel + 1, listed, fr, S => (Region.ready md ops listed = [] → K fr S) ∧ ∀ i ∈ Region.ready md ops listed, tauI P w0 S0 gs ns ops i fr S (PC (wpO P w0 S0 gs ns md ops K fuel (listed.setIfInBounds i true)))
theorem wpO_first {gs ns D : List Nat} {K : List DV → St → Prop} {i : Nat} {oi : Oper} (hi : ops[i]? = some oi) :
    ∀ (fuel : Nat) (listed : Array Bool) (fr : List DV) (S : St),
      (∀ j, j ∈ D → listed.getD j true = false ∧ ∃ oj, ops[j]? = some oj ∧ ∃ e ∈ oj.after, Region.binds md e = true ∧ (e.on = i ∨ e.on ∈ D)) →
      (∀ j oj, ops[j]? = some oj → j ≠ i → listed.getD j true = false → j ∉ D → oi.apart ops oj = true ∧ okP (cls gs ns i oi.op) (cls gs ns j oj.op) = true) →
      (∀ l : List Nat, l.Nodup → (∀ k, k ∈ l → listed.getD k true = false) → l.length ≤ fuel + 1) →
      i ∈ Region.ready md ops listed → tauO P w0 S0 (cls gs ns i oi.op) ops oi fr S (PC (wpO P w0 S0 gs ns md ops K fuel (listed.setIfInBounds i true))) → wpO P w0 S0 gs ns md ops K (fuel + 1) listed fr S := by
  intro fuel
  induction fuel with
  | zero =>
    intro listed fr S _ _ hcnt hr H
    refine ⟨fun h => (by rw [h] at hr; cases hr), fun j hj => ?_⟩
    by_cases hji : j = i
    · subst hji; unfold tauI; simp only [hi]; exact H
    · exfalso
      have := hcnt [i, j] (by simp [Ne.symm hji]) fun k hk => by
        simp only [List.mem_cons, List.not_mem_nil, or_false] at hk
        rcases hk with rfl | rfl
        · exact (mem_ready.1 hr).1
        · exact (mem_ready.1 hj).1
      simp at this
  | succ fuel ih =>
    intro listed fr S hD hfree hcnt hr H
    refine ⟨fun h => (by rw [h] at hr; cases hr), fun j hj => ?_⟩
    by_cases hji : j = i
    · subst hji; unfold tauI; simp only [hi]; exact H
    · obtain ⟨hjun, oj, hoj, hall⟩ := mem_ready.1 hj
      have hlis : ∀ e ∈ oj.after, Region.binds md e = true → listed.getD e.on true = false → False := fun e he hb h0 => by
        have h1 := hall e he hb
        rcases Nat.lt_or_ge e.on listed.size with h' | h'
        · simp [h'] at h0 h1; rw [h0] at h1; cases h1
        · simp [Array.getElem?_eq_none h'] at h1
      have hjD : j ∉ D := fun hjD => by
        obtain ⟨_, oj', ho, e, he, hb, hor⟩ := hD j hjD
        rw [hoj] at ho; cases ho
        rcases hor with h | h
        · exact hlis e he hb (by rw [h]; exact (mem_ready.1 hr).1)
        · exact hlis e he hb (hD _ h).1
      have h1 : tauO P w0 S0 (cls gs ns i oi.op) ops oi fr S (PC fun fr S => tauO P w0 S0 (cls gs ns j oj.op) ops oj fr S (PC (wpO P w0 S0 gs ns md ops K fuel ((listed.setIfInBounds i true).setIfInBounds j true)))) :=
        tauO_mono (fun fr S h => PC.mono (fun fr S h => by
          have := h.2 j (ready_mono hj hji)
          unfold tauI at this; simp only [hoj] at this; exact this) h) H
      have hc := hfree j oj hoj hji hjun hjD
      have h2 := tauO_comm hc.1 hc.2 h1
      have hfree' : ∀ k ok, ops[k]? = some ok → k ≠ i → (listed.setIfInBounds j true).getD k true = false → k ∉ D → oi.apart ops ok = true ∧ okP (cls gs ns i oi.op) (cls gs ns k ok.op) = true := fun k ok hk hki hun hno => by
        refine hfree k ok hk hki ?_ hno
        by_cases hjk : j = k
        · subst hjk; exact hjun
        · rw [getD_set_ne true hjk] at hun; exact hun
      have hD' : ∀ k, k ∈ D → (listed.setIfInBounds j true).getD k true = false ∧ ∃ ok, ops[k]? = some ok ∧ ∃ e ∈ ok.after, Region.binds md e = true ∧ (e.on = i ∨ e.on ∈ D) := fun k hk => by
        refine ⟨?_, (hD k hk).2⟩
        rw [getD_set_ne true (show j ≠ k from fun e => hjD (by rw [e]; exact hk))]; exact (hD k hk).1
      unfold tauI
      simp only [hoj]
      have hcnt' : ∀ l : List Nat, l.Nodup → (∀ k, k ∈ l → (listed.setIfInBounds j true).getD k true = false) → l.length ≤ fuel + 1 := by
        intro l hn hl
        have hjs : j < listed.size := by
          rcases Nat.lt_or_ge j listed.size with h | h
          · exact h
          · rw [Array.getD_eq_getD_getElem?, Array.getElem?_eq_none h] at hjun; cases hjun
        have hjl : j ∉ l := fun hj => by
          have := hl j hj
          rw [Array.getD_eq_getD_getElem?, Array.getElem?_setIfInBounds] at this
          simp [hjs] at this
        have := hcnt (j :: l) (List.nodup_cons.2 ⟨hjl, hn⟩) fun k hk => by
          rcases List.mem_cons.1 hk with rfl | hk
          · exact hjun
          · have := hl k hk
            rw [getD_set_ne true (show j ≠ k from fun e => hjl (e ▸ hk))] at this
            exact this
        simp at this; omega
      refine tauO_mono (fun fr S h => PC.mono (fun fr S h => ih (listed.setIfInBounds j true) fr S hD' hfree' hcnt' (ready_mono hr (Ne.symm hji)) ?_) h) h2
      rw [Array.setIfInBounds_comm _ _ hji]
      exact h
/-- What comes behind an operation at any rate. -/
def depO (md : Region.Mode) (ops : Array Oper) (listed : Array Bool) (i : Nat) : List Nat := (List.range ops.size).foldl (fun D j => match ops[j]? with
  | some oj => if !(j == i) && !listed.getD j true && oj.after.any (fun e => Region.binds md e && (e.on == i || D.contains e.on)) then j :: D else D
  | none => D) []
/-- Is an operation free to come first? -/
def freeD (gs ns : List Nat) (md : Region.Mode) (ops : Array Oper) (listed : Array Bool) (i : Nat) (D : List Nat) : Bool := (D.all fun j => !listed.getD j true && match ops[j]? with
  | some oj => oj.after.any (fun e => Region.binds md e && (e.on == i || D.contains e.on))
  | none => false) && (List.range ops.size).all fun j => match ops[i]?, ops[j]? with
  | some oi, some oj => j == i || listed.getD j true || D.contains j || (oi.apart ops oj && okP (cls gs ns i oi.op) (cls gs ns j oj.op))
  | _, _ => false
def freeO (gs ns : List Nat) (md : Region.Mode) (ops : Array Oper) (listed : Array Bool) (i : Nat) : Bool := freeD gs ns md ops listed i (depO md ops listed i)
def lexO (gs ns : List Nat) (md : Region.Mode) (ops : Array Oper) : List Nat → Array Bool → Bool
  | [], listed => (Region.ready md ops listed).isEmpty
  | k :: ks, listed => (Region.ready md ops listed).contains k && freeO gs ns md ops listed k && lexO gs ns md ops ks (listed.setIfInBounds k true)
theorem freeD_dep {gs ns D : List Nat} {listed : Array Bool} {i : Nat} (h : freeD gs ns md ops listed i D = true) : ∀ j, j ∈ D → listed.getD j true = false ∧ ∃ oj, ops[j]? = some oj ∧ ∃ e ∈ oj.after, Region.binds md e = true ∧ (e.on = i ∨ e.on ∈ D) := by
  intro j hj
  simp only [freeD, Bool.and_eq_true] at h
  have := List.all_eq_true.1 h.1 j hj
  simp only [Bool.and_eq_true, Bool.not_eq_true'] at this
  refine ⟨this.1, ?_⟩
  obtain ⟨-, h2⟩ := this
  split at h2
  · rename_i oj ho
    obtain ⟨e, he, h3⟩ := Array.any_eq_true'.1 h2
    simp only [Bool.and_eq_true, Bool.or_eq_true, beq_iff_eq, List.contains_iff_mem] at h3
    exact ⟨oj, ho, e, he, h3⟩
  · cases h2
theorem freeD_spec {gs ns D : List Nat} {listed : Array Bool} {i : Nat} {oi : Oper} (hi : ops[i]? = some oi) (h : freeD gs ns md ops listed i D = true) : ∀ j oj, ops[j]? = some oj → j ≠ i → listed.getD j true = false → j ∉ D → oi.apart ops oj = true ∧ okP (cls gs ns i oi.op) (cls gs ns j oj.op) = true := by
  intro j oj hj hji hun hno
  simp only [freeD, Bool.and_eq_true] at h
  have hlt : j < ops.size := (Array.getElem?_eq_some_iff.1 hj).1
  have := List.all_eq_true.1 h.2 j (List.mem_range.2 hlt)
  simp only [hi, hj, hun, Bool.or_false, Bool.or_eq_true, beq_iff_eq, Bool.and_eq_true, List.contains_iff_mem] at this
  rcases this with (h | h) | h
  · exact absurd h hji
  · exact absurd h hno
  · exact h
/-- In the order that is given. -/
def LO (P : Program) (w0 : W0) (S0 : St) (gs ns : List Nat) (ops : Array Oper) (K : List DV → St → Prop) : List Nat → List DV → St → Prop
  | [], fr, S => K fr S
  | i :: is, fr, S => match ops[i]? with
    | none => False
    | some o => tauO P w0 S0 (cls gs ns i o.op) ops o fr S (LO P w0 S0 gs ns ops K is)
theorem wpO_lex {gs ns : List Nat} {K : List DV → St → Prop} : ∀ (l : List Nat) (listed : Array Bool) (fr : List DV) (S : St),
    (∀ l' : List Nat, l'.Nodup → (∀ k, k ∈ l' → listed.getD k true = false) → l'.length ≤ l.length) →
    lexO gs ns md ops l listed = true → LO P w0 S0 gs ns ops K l fr S → wpO P w0 S0 gs ns md ops K l.length listed fr S
  | [], _, _, _, _, hB, h => ⟨by simpa [lexO] using hB, h⟩
  | k :: l, listed, fr, S, hcnt, hB, h => by
    simp only [List.length_cons, lexO, Bool.and_eq_true] at hB
    obtain ⟨⟨hr, hf⟩, hB'⟩ := hB
    have hr' : k ∈ Region.ready md ops listed := by simpa using hr
    have hun := (mem_ready.1 hr').1
    unfold LO at h
    split at h
    · exact h.elim
    rename_i o h0
    refine wpO_first h0 l.length listed fr S (freeD_dep hf) (freeD_spec h0 hf) (by simpa using hcnt) hr' ?_
    refine tauO_mono (fun fr S h => ⟨S, .refl S, wpO_lex l _ fr S ?_ hB' h⟩) h
    intro l' hn hl'
    have hks : k < listed.size := by
      rcases Nat.lt_or_ge k listed.size with h | h
      · exact h
      · rw [Array.getD_eq_getD_getElem?, Array.getElem?_eq_none h] at hun; cases hun
    have hkl : k ∉ l' := fun hk => by
      have := hl' k hk
      rw [Array.getD_eq_getD_getElem?, Array.getElem?_setIfInBounds] at this
      simp [hks] at this
    have := hcnt (k :: l') (List.nodup_cons.2 ⟨hkl, hn⟩) fun m hm => by
      rcases List.mem_cons.1 hm with rfl | hm
      · exact hun
      · have := hl' m hm
        rw [getD_set_ne true (show k ≠ m from fun e => hkl (e ▸ hm))] at this
        exact this
    simp at this; omega
theorem bodyO_yields {c : Nat} {o : Oper} {fr : List DV} {S : St} {K : List DV → St → Prop} (h : bodyO P w0 S0 c o fr S K) : YieldsE P w0 o (ev fr) S fun d S' => K (pt fr o.dst d) S' := by
  rcases h with ⟨c, d, q, k⟩ | ⟨c, hS, d, q, k⟩ | ⟨c, q⟩ | ⟨c, q⟩ | ⟨c, hS, t, ht, hz, k⟩
  · exact yields_mono (fun d' S' h => by rw [h.1, h.2]; exact k) (q S)
  · exact yields_mono (fun d' S' h => by rw [h.1, h.2]; exact k) (q S hS)
  · exact yields_mono (fun d' S' h => h.2) q
  · exact q
  · exact y_alloc ht ⟨hz, k⟩
theorem wpAny_of_O {gs ns : List Nat} {ro : Option Nat} {g0 : Gh} {Q : Exit → List DV → St → Prop} : ∀ (fuel : Nat) (listed : Array Bool) (fr : List DV) (S : St) (g : Gh) (a : Act) (w : World), g0.le g → Rel w0 g S w → RepL g fr a.tmps.toList → Dk w0 g.obj a w →
    wpO P w0 S0 gs ns md ops (fun fr S => Q .normal fr S) fuel listed fr S → wpAnyIn (fz ro) 0 P md ops (Good w0 g0 Q) fuel listed a w
  | 0, listed, fr, S, g, a, w, k, h1, h2, h3, h => ⟨h.1, k.kd h3, g, fr, S, k, h1, h2, h.2⟩
  | fuel + 1, listed, fr, S, g, a, w, k, h1, h2, h3, h => by
    refine ⟨fun h0 => ⟨k.kd h3, g, fr, S, k, h1, h2, h.1 h0⟩, fun i hi => ?_⟩
    have hq := h.2 i hi
    unfold tauI at hq
    unfold wpOpIn
    split
    · rename_i ho; simp only [ho] at hq; obtain ⟨T, hp, hq⟩ := hq; exact wpAny_of_O fuel _ fr T g a w k (hp.symm.rel h1) h2 h3 hq
    · rename_i o ho
      simp only [ho] at hq
      rcases hq with ⟨hw, hb⟩ | ⟨hw, hk⟩
      · have hw' := wantB_sound (o := o) h2 hw
        rw [if_pos hw']
        refine wpIn_of_yields (bodyO_yields hb) h1 (fun x _ => rep_ev h2 x) h3 fun g' d' u S' w' k1 k2 k3 k4 k5 => ?_
        obtain ⟨T, hp, k4⟩ := k4
        exact wpAny_of_O fuel _ _ _ g' _ _ (k.trans k1) (hp.symm.rel k2) (repL_put (h2.mono k1) _ k3) (k1.dk k5) k4
      · have hw' := wantB_sound (o := o) h2 hw
        rw [if_neg (by simp [hw'])]
        obtain ⟨T, hp, hk⟩ := hk; exact ⟨fun _ _ => trivial, wpAny_of_O fuel _ _ _ g _ _ k (hp.symm.rel h1) (repL_put h2 _ (rep_ud g)) (h3.keep (put_defers _ _ _) fun _ _ h _ => h) hk⟩
/-- A region that draws its order, where an order serves. -/
theorem awp_drawO {id : Nat} {l : List Oper} {gs ns ord : List Nat} {fr : List DV} {S : St} {Q : Exit → List DV → St → Prop} (hm : P.follows .mixedOrders = true) (hB : lexO gs ns .any l.toArray ord (Array.replicate l.length false) = true) (hO : ord.length = l.length) (h : LO P w0 S0 gs ns l.toArray (fun fr S => Q .normal fr S) ord fr S) : AWp P w0 (.region id l.toArray true) fr S Q := by
  intro g a w h1 h2 h3
  refine wpA_region_any hm fun ro => ?_
  have hR : Rel w0 g S { w with drawn := w.drawn + 1 } := h1.grow (below_drew w)
  have hcnt : ∀ l' : List Nat, l'.Nodup → (∀ k, k ∈ l' → (Array.replicate l.length false).getD k true = false) → l'.length ≤ ord.length := by
    intro l' hn hl
    have hsub : ∀ k, k ∈ l' → k ∈ List.range l.length := fun k hk => by
      have := hl k hk
      rw [List.mem_range]
      rcases Nat.lt_or_ge k l.length with h | h
      · exact h
      · rw [Array.getD_eq_getD_getElem?, Array.getElem?_eq_none (by simpa using h)] at this; cases this
    have := hn.length_le_of_subset (l₂ := List.range l.length) hsub
    rw [hO]; simpa using this
  have := wpO_lex (P := P) (w0 := w0) (S0 := S0) (md := .any) (ops := l.toArray) ord (Array.replicate l.length false) fr S hcnt hB h
  have := wpAny_of_O (ro := ro) (g0 := g) (Q := Q) _ _ fr S g a _ (.refl g) hR h2 (h3.keep rfl fun _ _ h _ => h) this
  rw [hO] at this
  simpa using this
theorem load_has {k : TK} {S T : St} {x : DV} {K : DV → Prop} (hT : Has S T) (h : vLoad k S x K) : vLoad k T x K := by
  unfold vLoad at *
  split at h
  · split at h
    · rename_i ds hb
      simp only [hT.box _ _ hb]
      exact h
    · exact h.elim
  · exact h
  · split at h
    · rename_i hb
      simp only [hT.acc _ _ hb]
      exact h
    · rename_i hb
      simp only [hT.acc _ _ hb]
      exact h
    · exact h.elim
  · exact h.elim
end
/-- A call that hands back one value, at whatever store that keeps the one of the beginning. -/
def QO (P : Program) (w0 : W0) (S0 : St) (f : FuncId) (ds : List DV) [K : Cn (DV → Prop)] : Prop := ∃ d, (∀ T, Has S0 T → ACall P w0 f ds T fun d' S' => d' = d ∧ S' = T) ∧ K.k d
def vCallO (P : Program) (w0 : W0) (S0 : St) (cal : DV) (ds : List DV) (K : DV → Prop) : Prop := match cal with
  | .v (.func (.func f) a cap) => a.size = 0 ∧ okF P f = true ∧ cap.toList.all (fun u => u.oneCell') = true ∧ ds.all naccA = true ∧ @QO P w0 S0 f (ds ++ cap.toList.map .v) ⟨K⟩
  | _ => False
def opO (P : Program) (w0 : W0) (S0 : St) (op : Op) (fr : List DV) (S : St) (K : DV → St → Prop) : Prop := match op with
  | .load t x => Has S0 S ∧ vLoad (tk P t) S0 (ev fr x) (K · S)
  | .call ⟨.value cal, args, _⟩ => Has S0 S ∧ vCallO P w0 S0 (ev fr cal) (args.toList.map (ev fr)) (K · S)
  | .alloc t => Has S0 S ∧ okE (zD P t) = true ∧ bxK S (zD P t) K
  | op => selK (Z.kX op == 0) (opZ P w0 op fr S (K · S)) (vcOp P w0 op fr S K)
def stO (P : Program) (w0 : W0) (S0 : St) (gs ns : List Nat) (i : Nat) (op : Op) (fr : List DV) (S : St) (K : DV → St → Prop) : Prop :=
  selK (gs.contains i) (vcOp P w0 op fr S fun d S' => Has S0 S' ∧ K d S') (selK (ns.contains i) (vcOp P w0 op fr S K) (opO P w0 S0 op fr S K))
def stepO (P : Program) (w0 : W0) (S0 : St) (gs ns : List Nat) (ops : Array Oper) (K : List DV → St → Prop) (oo : Option Oper) (i : Nat) (fr : List DV) (S : St) : Prop := match oo with
  | none => False
  | some o => guardK ops fr o.guard (fun fr => stO P w0 S0 gs ns i o.op fr S fun d S' => K (pt fr o.dst d) S') (fun fr => K (pt fr o.dst ud) S)
def vcLO (P : Program) (w0 : W0) (S0 : St) (gs ns : List Nat) (ops : Array Oper) (K : List DV → St → Prop) : List Nat → List DV → St → Prop
  | [], fr, S => K fr S
  | i :: is, fr, S => stepO P w0 S0 gs ns ops (vcLO P w0 S0 gs ns ops K is) ops[i]? i fr S
section
variable {P : Program} {w0 : W0} {S0 : St} {ops : Array Oper} {md : Region.Mode}
theorem qy_hm {S0 : St} {o : Oper} {fr : List DV} {d : DV} (q : ∀ T, Has S0 T → QY P w0 T o fr d) (T : St) (hT : Hm S0 T) : QY P w0 T o fr d := fun g w ρ r => q T (hT.has r) g w ρ r
theorem stO_sound {gs ns : List Nat} {i : Nat} {o : Oper} {fr : List DV} {S : St} {K : List DV → St → Prop} (hs : okSl o.op = true) (h : stO P w0 S0 gs ns i o.op fr S fun d S' => K (pt fr o.dst d) S') : bodyO P w0 S0 (cls gs ns i o.op) o fr S K := by
  unfold stO at h
  cases hg : gs.contains i with
  | true =>
    rw [hg] at h
    have hc : cls gs ns i o.op = 2 := by unfold cls; rw [if_pos hg]
    rw [hc]
    have h' : vcOp P w0 o.op fr S fun d S' => Has S0 S' ∧ K (pt fr o.dst d) S' := h
    exact .inr (.inr (.inl ⟨rfl, yields_mono (fun d S' hk => ⟨.of hk.1, hk.2⟩) (vcOp_sound hs h')⟩))
  | false =>
    rw [hg] at h
    cases hn : ns.contains i with
    | true =>
      rw [hn] at h
      have hc : cls gs ns i o.op = 3 := by unfold cls; rw [if_neg (by rw [hg]; simp), if_pos hn]
      rw [hc]
      exact .inr (.inr (.inr (.inl ⟨rfl, vcOp_sound hs h⟩)))
    | false =>
      rw [hn] at h
      have hc : cls gs ns i o.op = (match Z.kX o.op with | 0 => 0 | 1 => 1 | 2 => 4 | _ => 3) := by unfold cls; rw [if_neg (by rw [hg]; simp), if_neg (by rw [hn]; simp)]
      rw [hc]
      replace h : opO P w0 S0 o.op fr S fun d S' => K (pt fr o.dst d) S' := h
      have gen : ∀ (h : selK (Z.kX o.op == 0) (opZ P w0 o.op fr S fun d => K (pt fr o.dst d) S) (vcOp P w0 o.op fr S fun d S' => K (pt fr o.dst d) S')), Z.kX o.op = 0 ∨ Z.kX o.op = 3 → bodyO P w0 S0 (match Z.kX o.op with | 0 => 0 | 1 => 1 | 2 => 4 | _ => 3) o fr S K := by
        intro h hk
        rcases hk with hk | hk
        · rw [hk] at h ⊢
          obtain ⟨d, q1, q2⟩ := Z.pure_detZ hk (show opZ P w0 o.op fr S fun d => K (pt fr o.dst d) S from h)
          exact .inl ⟨rfl, d, fun S' => by
            obtain ⟨d', k1, k2⟩ := opZ_sound hs (q1 S')
            subst k2; exact k1, q2⟩
        · rw [hk] at h ⊢
          exact .inr (.inr (.inr (.inl ⟨rfl, vcOp_sound hs h⟩)))
      cases hop : o.op with
      | load t x =>
        rw [hop] at h hs
        obtain ⟨hS, h⟩ := h
        obtain ⟨d, q1, q2⟩ := det_load (show vLoad (tk P t) S0 (ev fr x) (fun d => K (pt fr o.dst d) S) from h)
        refine .inr (.inl ⟨rfl, .of hS, d, qy_hm fun T hT => ?_, q2⟩)
        exact vcOp_sound (by rw [hop]; exact hs) (by rw [hop]; simpa [vcOp] using load_has hT q1)
      | alloc t =>
        rw [hop] at h
        exact .inr (.inr (.inr (.inr ⟨rfl, .of h.1, t, hop, h.2.1, h.2.2⟩)))
      | call c =>
        obtain ⟨callee, args, ts⟩ := c
        cases callee with
        | value cal =>
          rw [hop] at h hs
          obtain ⟨hS, h⟩ := h
          simp only [vCallO] at h
          split at h
          · rename_i f a cap hcal
            obtain ⟨h1, h2, h3, h4, d, h5, h6⟩ := h
            refine .inr (.inl ⟨rfl, .of hS, d, qy_hm fun T hT => ?_, h6⟩)
            exact vcOp_sound (by rw [hop]; exact hs) (by rw [hop]; simp only [vcOp, vCall, hcal]; exact ⟨h1, h3, by rw [h2, gX_t]; exact callK_id h4 (h5 T hT)⟩)
          · exact h.elim
        | builtin b =>
          rw [← hop]
          refine gen (by rw [hop] at h ⊢; exact h) ?_
          rw [hop]
          cases b <;> first | exact .inl rfl | exact .inr rfl
        | invoke r m =>
          rw [← hop]
          refine gen (by rw [hop] at h ⊢; exact h) ?_
          rw [hop]; exact .inr rfl
      | _ => rw [← hop]; refine gen (by rw [hop] at h ⊢; exact h) ?_; rw [hop]; first | exact .inl rfl | exact .inr rfl
theorem vcLO_sound {gs ns : List Nat} {K : List DV → St → Prop} (hs : ∀ (i : Nat) (o : Oper), ops[i]? = some o → okSl o.op = true) : ∀ (l : List Nat) {fr : List DV} {S : St}, vcLO P w0 S0 gs ns ops K l fr S → LO P w0 S0 gs ns ops K l fr S
  | [], fr, S, h => h
  | i :: is, fr, S, h => by
    unfold vcLO stepO at h
    unfold LO
    cases ho : ops[i]? with
    | none => rw [ho] at h; exact h
    | some o =>
      rw [ho] at h
      simp only at h ⊢
      rcases guardK_want h with ⟨hw, ha⟩ | ⟨hw, hb⟩
      · exact .inl ⟨hw, bodyO_mono (fun fr S h => vcLO_sound hs is h) (stO_sound (hs i o ho) ha)⟩
      · exact .inr ⟨hw, vcLO_sound hs is hb⟩
/-- What such a region asks. -/
def okO (l : List Oper) (gs ns ord : List Nat) : Bool := l.all (fun o => okSl o.op) && lexO gs ns .any l.toArray ord (Array.replicate l.length false) && (ord.length == l.length)
theorem ordK (gs ns ord : List Nat) {id : Nat} {l : List Oper} {fr : List DV} {S : St} {Q : Exit → List DV → St → Prop} (hm : P.follows .mixedOrders = true) (hB : okO l gs ns ord = true) (h : vcLO P w0 S gs ns l.toArray (fun fr S => normF fr fun fr => Q .normal fr S) ord fr S) : AWp P w0 (.region id l.toArray true) fr S Q := by
  simp only [okO, Bool.and_eq_true, beq_iff_eq] at hB
  refine awp_drawO hm hB.1.2 hB.2 (vcLO_sound (fun i o ho => ?_) ord h)
  have : l[i]? = some o := by simpa using ho
  exact List.all_eq_true.1 hB.1.1 o (List.mem_of_getElem? this)
/-- Some boxes, and what is in them. -/
def inL : List Nat → Nat → Prop
  | [], _ => False
  | a :: L, b => a = b ∨ inL L b
/-- A store, but for some boxes. -/
noncomputable def but (L : List Nat) (S : St) : St := ⟨S.box.filter fun p => @decide (¬ inL L p.1) (Classical.propDecidable _), S.acc⟩
theorem lk_but {L : List Nat} {S : St} {b : Nat} (h : ¬ inL L b) : lk (but L S).box b = lk S.box b := by
  obtain ⟨B, A⟩ := S
  show lk (B.filter _) b = lk B b
  induction B with
  | nil => rfl
  | cons p B ih =>
    obtain ⟨k, x⟩ := p
    rw [List.filter_cons]
    split
    · simp only [lk, ih]
    · rename_i hn
      have hk : ¬ k = b := fun e => hn (by subst e; exact @decide_eq_true _ (Classical.propDecidable _) h)
      rw [ih]; simp only [lk, if_neg hk]
theorem lk_but_in {L : List Nat} {S : St} {b : Nat} (h : inL L b) : lk (but L S).box b = none := by
  obtain ⟨B, A⟩ := S
  show lk (B.filter _) b = none
  induction B with
  | nil => rfl
  | cons p B ih =>
    obtain ⟨k, x⟩ := p
    rw [List.filter_cons]
    split
    · rename_i hn
      have hk : ¬ k = b := fun e => by
        subst e
        exact (@of_decide_eq_true _ (Classical.propDecidable _) hn) h
      simp only [lk, if_neg hk]; exact ih
    · exact ih
theorem has_but (L : List Nat) (S : St) : Has (but L S) S := ⟨fun b x hb => by
  by_cases h : inL L b
  · rw [lk_but_in h] at hb; cases hb
  · rwa [lk_but h] at hb, fun l o hl => hl⟩
theorem ordB (L gs ns ord : List Nat) {id : Nat} {l : List Oper} {fr : List DV} {S : St} {Q : Exit → List DV → St → Prop} (hm : P.follows .mixedOrders = true) (hB : okO l gs ns ord = true) (h : vcLO P w0 (but L S) gs ns l.toArray (fun fr S => normF fr fun fr => Q .normal fr S) ord fr S) : AWp P w0 (.region id l.toArray true) fr S Q := by
  simp only [okO, Bool.and_eq_true, beq_iff_eq] at hB
  refine awp_drawO hm hB.1.2 hB.2 (vcLO_sound (fun i o ho => ?_) ord h)
  have : l[i]? = some o := by simpa using ho
  exact List.all_eq_true.1 hB.1.1 o (List.mem_of_getElem? this)
theorem useO {f : FuncId} {args args' : List DV} {K : DV → Prop} {r : DV} (h : ∀ T, Has S0 T → ACall P w0 f args' T (fun d S' => d = r ∧ S' = T)) (hk : K r) (ha : WkL args args' := by exact WkL.refl _) : @QO P w0 S0 f args ⟨K⟩ :=
  ⟨r, fun T hT => acall_one (h T hT) ha ⟨rfl, rfl⟩, hk⟩
end
section
variable {P : Program} {w0 : W0} {S0 : St} {gs ns : List Nat} {ops : Array Oper} {fr : List DV} {S : St} {dst : Option Tmp} {op : Op} {ty : TypeId} {pos : String} {aft : Array Edge}
section
variable {K : List DV → St → Prop}
theorem o_nil : vcLO P w0 S0 gs ns ops K [] fr S = K fr S := rfl
theorem o_cons (i : Nat) (is : List Nat) : vcLO P w0 S0 gs ns ops K (i :: is) fr S = stepO P w0 S0 gs ns ops (vcLO P w0 S0 gs ns ops K is) ops[i]? i fr S := rfl
@[congr] theorem c_stepO {oo oo' : Option Oper} {i : Nat} (h : oo = oo') : stepO P w0 S0 gs ns ops K oo i fr S = stepO P w0 S0 gs ns ops K oo' i fr S := by cases h; rfl
theorem o_none (i : Nat) : stepO P w0 S0 gs ns ops K (some ⟨dst, op, ty, pos, aft, none⟩) i fr S = stO P w0 S0 gs ns i op fr S fun d S' => K (pt fr dst d) S' := rfl
end
variable {K : DV → St → Prop}
theorem o_st (i : Nat) : stO P w0 S0 gs ns i op fr S K = selK (gs.contains i) (vcOp P w0 op fr S fun d S' => Has S0 S' ∧ K d S') (selK (ns.contains i) (vcOp P w0 op fr S K) (opO P w0 S0 op fr S K)) := rfl
theorem o_load (t : TypeId) (x : Operand) : opO P w0 S0 (.load t x) fr S K = (Has S0 S ∧ vLoad (tk P t) S0 (ev fr x) (K · S)) := rfl
theorem o_alloc (t : TypeId) : opO P w0 S0 (.alloc t) fr S K = (Has S0 S ∧ okE (zD P t) = true ∧ bxK S (zD P t) K) := rfl
theorem o_call (cal : Operand) (a : List Operand) (ts : Array TypeId) : opO P w0 S0 (.call ⟨.value cal, a.toArray, ts⟩) fr S K = (Has S0 S ∧ vCallO P w0 S0 (ev fr cal) (a.map (ev fr)) (K · S)) := rfl
theorem o_callF (f : FuncId) (a cap : Array Value) (ds : List DV) (K : DV → Prop) : vCallO P w0 S0 (.v (.func (.func f) a cap)) ds K = (a.size = 0 ∧ okF P f = true ∧ cap.toList.all (fun u => u.oneCell') = true ∧ ds.all naccA = true ∧ @QO P w0 S0 f (ds ++ cap.toList.map .v) ⟨K⟩) := rfl
@[congr] theorem c_vCallO {cal cal' : DV} {ds ds' : List DV} {K : DV → Prop} (h1 : cal = cal') (h2 : ds = ds') : vCallO P w0 S0 cal ds K = vCallO P w0 S0 cal' ds' K := by cases h1; cases h2; rfl
theorem o_move (x : Operand) : opO P w0 S0 (.move x) fr S K = vcOpQ P w0 (.move x) fr S (K · S) := rfl
theorem o_assign (x : Operand) : opO P w0 S0 (.assign x) fr S K = vcOpQ P w0 (.assign x) fr S (K · S) := rfl
theorem o_fieldAddr (t : TypeId) (x : Operand) (f : Nat) : opO P w0 S0 (.fieldAddr t x f) fr S K = vcOpQ P w0 (.fieldAddr t x f) fr S (K · S) := rfl
theorem o_indexAddr (t : TypeId) (x i : Operand) : opO P w0 S0 (.indexAddr t x i) fr S K = vcOpQ P w0 (.indexAddr t x i) fr S (K · S) := rfl
theorem o_extract (x : Operand) (i : Nat) : opO P w0 S0 (.extract x i) fr S K = vcOpQ P w0 (.extract x i) fr S (K · S) := rfl
theorem o_nilCheck (x : Operand) : opO P w0 S0 (.nilCheck x) fr S K = vcOpQ P w0 (.nilCheck x) fr S (K · S) := rfl
theorem o_binOp (b : BinOp) (t : TypeId) (x y : Operand) (t' : TypeId) : opO P w0 S0 (.binOp b t x y t') fr S K = vcOpQ P w0 (.binOp b t x y t') fr S (K · S) := rfl
theorem o_convert (s d : TypeId) (x : Operand) : opO P w0 S0 (.convert s d x) fr S K = opZ P w0 (.convert s d x) fr S (K · S) := rfl
theorem o_slice (t : TypeId) (x : Operand) (lo hi mx : Option Operand) : opO P w0 S0 (.slice t x lo hi mx) fr S K = vcOpQ P w0 (.slice t x lo hi mx) fr S (K · S) := rfl
theorem o_build (t : TypeId) (parts : Array (Nat × Operand)) : opO P w0 S0 (.build t parts) fr S K = vcOpQ P w0 (.build t parts) fr S (K · S) := rfl
theorem o_buildSlice (t : TypeId) (len : Nat) (parts : Array (Nat × Operand)) : opO P w0 S0 (.buildSlice t len parts) fr S K = vcOpQ P w0 (.buildSlice t len parts) fr S (K · S) := rfl
theorem o_store (t : TypeId) (x y : Operand) : opO P w0 S0 (.store t x y) fr S K = vcOp P w0 (.store t x y) fr S K := rfl
theorem o_makeSlice (t : TypeId) (x y : Operand) : opO P w0 S0 (.makeSlice t x y) fr S K = opZ P w0 (.makeSlice t x y) fr S (K · S) := rfl
theorem o_b_max (a : Array Operand) (ts : Array TypeId) : opO P w0 S0 (.call ⟨.builtin .max, a, ts⟩) fr S K = vcOpQ P w0 (.call ⟨.builtin .max, a, ts⟩) fr S (K · S) := rfl
theorem has_self (S : St) : Has S S = True := eq_true (.refl S)
theorem has_box {S0 : St} {B : List (Nat × List DV)} {A : List (Nat × Ob)} (b : Nat) (v : List DV) (hb : lk S0.box b = none) (h : Has S0 ⟨B, A⟩) : Has S0 ⟨(b, v) :: B, A⟩ = True := eq_true ⟨fun c x hc => by
  have h1 := h.box c x hc
  show lk ((b, v) :: B) c = some x
  rw [q_lk_ne (fun e => by rw [← e, hb] at hc; cases hc)]; exact h1, h.acc⟩
theorem has_acc {S0 : St} {B : List (Nat × List DV)} {A : List (Nat × Ob)} (l : Nat) (v : Ob) (hb : lk S0.acc l = none) (h : Has S0 ⟨B, A⟩) : Has S0 ⟨B, (l, v) :: A⟩ = True := eq_true ⟨h.box, fun c x hc => by
  have h1 := h.acc c x hc
  show lk ((l, v) :: A) c = some x
  rw [q_lk_ne (fun e => by rw [← e, hb] at hc; cases hc)]; exact h1⟩
theorem inL_nil (b : Nat) : inL [] b = False := rfl
theorem inL_cons (a : Nat) (L : List Nat) (b : Nat) : inL (a :: L) b = (a = b ∨ inL L b) := rfl
theorem has_but0 (L : List Nat) (S : St) : Has (but L S) S = True := eq_true (has_but L S)
theorem hb_get {L : List Nat} {B B' : List (Nat × List DV)} {A A' : List (Nat × Ob)} (h : Has (but L ⟨B, A⟩) ⟨B', A'⟩) {c : Nat} {x : List DV} (hc : ¬ inL L c) (hx : lk B c = some x) : lk B' c = some x :=
  h.box c x (by rw [lk_but hc]; exact hx)
theorem has_same {L : List Nat} {B B' : List (Nat × List DV)} {A A' : List (Nat × Ob)} (b : Nat) (v : List DV) (h : Has (but L ⟨B, A⟩) ⟨B', A'⟩) : Has (but L ⟨(b, v) :: B, A⟩) ⟨(b, v) :: B', A'⟩ = True := eq_true ⟨fun c x hc => by
  by_cases hL : inL L c
  · rw [lk_but_in hL] at hc; cases hc
  · rw [lk_but hL] at hc
    show lk ((b, v) :: B') c = some x
    simp only [lk] at hc ⊢
    split
    · rename_i e; rw [if_pos e] at hc; exact hc
    · rename_i e; rw [if_neg e] at hc; exact hb_get h hL hc, h.acc⟩
theorem has_other {L : List Nat} {B B' : List (Nat × List DV)} {A A' : List (Nat × Ob)} (b : Nat) (v w : List DV) (hi : inL L b) (h : Has (but L ⟨B, A⟩) ⟨B', A'⟩) : Has (but L ⟨(b, v) :: B, A⟩) ⟨(b, w) :: B', A'⟩ = True := eq_true ⟨fun c x hc => by
  by_cases hL : inL L c
  · rw [lk_but_in hL] at hc; cases hc
  · rw [lk_but hL] at hc
    have hne : ¬ b = c := fun e => hL (e ▸ hi)
    show lk ((b, w) :: B') c = some x
    simp only [lk, if_neg hne] at hc ⊢
    exact hb_get h hL hc, h.acc⟩
/-- One list is another one's end. -/
def Suf {α : Type} (l' l : List (Nat × α)) : Prop := ∃ p, l = p ++ l'
theorem suf_self {α : Type} (l : List (Nat × α)) : Suf l l = True := eq_true ⟨[], rfl⟩
theorem suf_cons {α : Type} (x : Nat × α) (l' l : List (Nat × α)) (h : Suf l' l) : Suf l' (x :: l) = True := eq_true (let ⟨p, e⟩ := h; ⟨x :: p, by rw [e]; rfl⟩)
theorem fn_suf {α : Type} {l' l : List (Nat × α)} (b : FN l) (h : Suf l' l) : lk l' b.n = none := by
  obtain ⟨p, e⟩ := h
  subst e
  refine nin_lk (nin_of fun q hq => nin_all b.h q (List.mem_append_right _ hq))
end
attribute [go_sem ↓] o_nil o_cons o_st o_load o_alloc o_call o_callF o_move o_assign o_fieldAddr o_indexAddr o_extract o_nilCheck o_binOp o_convert o_slice o_build o_buildSlice o_store o_makeSlice o_b_max
attribute [go_sem] o_none has_self has_box has_acc suf_self suf_cons fn_suf inL_nil inL_cons has_but0 has_same has_other lk_but lk_but_in
end Aml.Y

namespace Go.Proofs.YtfieabidajilmaaGreat
open Aml Go
set_option linter.unusedVariables false
set_option linter.unusedSimpArgs false
set_option maxRecDepth 100000
/-- Does the key stand in a row of cells where it would? -/
def hasN (l : List C) (key : ByteArray) : Bool := match l[idxN l key]? with
  | some c => eqS c.key key
  | none => false
theorem takeW_len {α : Type} {p : α → Bool} : ∀ {l : List α} {i : Nat}, i ≤ l.length → (∀ (x : Nat) c, x < i → l[x]? = some c → p c = true) → (∀ c, l[i]? = some c → p c = false) → (l.takeWhile p).length = i
  | [], i, h, _, _ => by simp at h; subst h; rfl
  | a :: l, 0, _, _, h2 => by
    have := h2 a rfl
    simp [List.takeWhile_cons, this]
  | a :: l, i + 1, h, h1, h2 => by
    have ha := h1 0 a (by omega) rfl
    have ih := takeW_len (p := p) (l := l) (i := i) (by simpa using h) (fun x c hx hc => h1 (x + 1) c (by omega) (by simpa using hc)) (fun c hc => h2 c (by simpa using hc))
    simp [List.takeWhile_cons, ha, ih]
theorem rise_mono {l : List C} (h : Rise l) (key : ByteArray) : ∀ (i j : Nat) (a b : C), i ≤ j → l[i]? = some a → l[j]? = some b → ltS b.key key = true → ltS a.key key = true := fun i j a b hij ha hb hk => by
  rcases Nat.lt_or_ge i j with q | q
  · obtain ⟨h1, rfl⟩ := List.getElem?_eq_some_iff.1 ha
    obtain ⟨h2, rfl⟩ := List.getElem?_eq_some_iff.1 hb
    exact ltS_trans (List.pairwise_iff_getElem.1 h i j h1 h2 q) hk
  · have : i = j := by omega
    subst this; cases getE ha hb; exact hk
set_option maxHeartbeats 4000000 in
theorem searchS (w0 : W0) (l : List C) (key : ByteArray) (S : St) (hl : ∀ (i j : Nat) (a b : C), i ≤ j → l[i]? = some a → l[j]? = some b → ltS b.key key = true → ltS a.key key = true) (hb : l.length ≤ 1073741824) :
    ACall Tryz.prog w0 98 [.sl 1 false (l.map fun c => dS c.key), dS key] S (fun d S' => d = .tup [dI (idxN l key), dB (hasN l key)] ∧ S' = S) := by
  refine fnS [] mx Tryz.func98 rfl rfl (by kernel_rfl) ?_; refine @goW _ (goS1 @Tryz.ntmps98 ?_)
  refine loopK [] [0, 1, 6, 7, 8] (fun s : Nat × Nat => [(7, dI s.1), (8, dI s.2)]) (fun _ => S) (fun s => s.1 ≤ s.2 ∧ s.2 ≤ l.length ∧ (∀ (i : Nat) a, i < s.1 → l[i]? = some a → ltS a.key key = true) ∧ ∀ (i : Nat) a, s.2 ≤ i → l[i]? = some a → ltS a.key key = false) (fun s => s.2 - s.1) (0, l.length) mx (by kernel_rfl) ?_ ?_
  · refine @goW _ (goS ?_)
    exact ⟨Nat.zero_le _, fun i a h => absurd h (by omega), fun i a h e => absurd (List.getElem?_eq_some_iff.1 e).1 (by omega)⟩
  · rintro ⟨i, j⟩ ⟨h1, h2, h3, h4⟩
    simp only at h1 h2 h3 h4
    have eh : IntKind.i64.wrap ((IntKind.u64.wrap (IntKind.i64.wrap ((i : Int) + j))).fdiv (2 ^ min 1 64)) = (((i + j) / 2 : Nat) : Int) := by
      rw [w64 (n := (i : Int) + j) (by omega) (by omega), wu64 (by omega) (by omega), Int.fdiv_eq_ediv_of_nonneg _ (by decide)]
      simp only [show min 1 64 = 1 from rfl, Int.pow_one]
      rw [w64 (by omega) (by omega)]
      omega
    refine @goW _ (goS1 @eh ?_)
    refine ⟨fun hlt => ⟨by omega, fun a ha => use1 (lessCS w0 a.key key S) ?_⟩, fun hge => ?_⟩
    · refine @goW _ (goS1 @eh ?_)
      refine ⟨fun hap => ⟨((i + j) / 2 + 1, j), ⟨by simp only; omega, h2, fun x c hx hc => ?_, h4⟩, by simp only; omega, by rw [w64 (by omega) (by omega)]; rfl, rfl⟩, fun hap => ⟨(i, (i + j) / 2), ⟨by simp only; omega, by simp only; omega, h3, fun x c hx hc => ?_⟩, by simp only; omega, rfl, rfl⟩⟩
      · simp only at hx
        exact hl x ((i + j) / 2) c a (by omega) hc ha hap
      · simp only at hx
        refine Bool.eq_false_iff.2 fun hc' => ?_
        rw [hl ((i + j) / 2) x a c hx ha hc hc'] at hap; cases hap
    · have hij : i = j := by omega
      subst hij
      have hi : idxN l key = i := takeW_len h2 h3 fun c hc => h4 i c (Nat.le_refl _) hc
      refine ⟨fun hlt => ⟨hlt, fun a ha => ⟨fun he => Wk.tup (.cons (.eq ?_) (.cons (.eq ?_) .nil)), fun he => ⟨hlt, fun c hc => use1 (nanSS w0 c.key S) ?_⟩⟩⟩, fun hn => Wk.tup (.cons (.eq ?_) (.cons (.eq ?_) .nil))⟩
      · rw [hi]
      · unfold hasN; rw [hi, ha]; simp only [he]
      · refine @goW _ (goS ?_)
        unfold hasN; rw [hi, ha]
        simp only [he]
        exact Wk.tup (.cons (.refl _) (.cons (.refl _) .nil))
      · rw [hi]
      · unfold hasN; rw [hi, List.getElem?_eq_none (by omega)]
/-- Kids of cells. -/
def dK (l : List C) : List DV := l.map fun c => dT (kid0 c)
@[go_sem] theorem dK_len (l : List C) : (dK l).length = l.length := by unfold dK; rw [List.length_map]
@[go_sem] theorem dK_take (l : List C) (i : Nat) : (dK l).take i = dK (l.take i) := by unfold dK; rw [List.map_take]
@[go_sem] theorem dK_drop (l : List C) (i : Nat) : (dK l).drop i = dK (l.drop i) := by unfold dK; rw [List.map_drop]
@[go_sem] theorem el_dK (l : List C) (i : Nat) (F : DV → Prop) : elK (dK l) i F = ∀ c, l[i]? = some c → F (eT (kid0 c)) := by
  unfold dK
  rw [q_el_map]
  exact propext ⟨fun h c hc => by have := (h c hc).2; rwa [dT_eq] at this, fun h c hc => ⟨by rw [dT_eq]; rfl, by rw [dT_eq]; exact h c hc⟩⟩
theorem dK_app (l m : List C) : dK (l ++ m) = dK l ++ dK m := by unfold dK; rw [List.map_append]
/-- A branch, as the program has it. -/
def brT (p : Int) (l : List C) : DV := .agg [dI p, dB false, .sl 1 false (l.map fun c => dS c.key), .sl 2 false [], .sl 5 false (dK l)]
theorem eT_br {n : N} (hl : n.leaf = false) (h : ∀ c, c ∈ n.l → ∃ k, c.kid = [k]) : eT n = brT n.page n.l := by
  unfold eT brT kidsOf
  rw [hl]
  simp only [Bool.false_eq_true, if_false, List.map_nil, kids_map h, List.map_map]
  rfl
theorem eT_leaf {n : N} (hl : n.leaf = true) : eT n = .agg [dI n.page, dB true, .sl 1 false (n.l.map fun c => dS c.key), .sl 2 false (n.l.map dV2), .sl 5 false []] := by
  unfold eT kidsOf
  rw [hl]; rfl
theorem wk_leaf (p : Int) (l : List C) : Wk (.agg [dI p, dB true, .sl 1 false (l.map fun c => dS c.key), .sl 2 false (l.map dV2), .sl 0 true []]) (eT (.mk p true l)) := by
  rw [eT_leaf rfl]
  exact .agg (.cons (.refl _) (.cons (.refl _) (.cons (.refl _) (.cons (.refl _) (.cons (.nil _ _ _) .nil)))))
theorem wk_br (p : Int) (l : List C) (h : ∀ c, c ∈ l → ∃ k, c.kid = [k]) : Wk (.agg [dI p, dB false, .sl 1 false (l.map fun c => dS c.key), .sl 0 true [], .sl 5 false (dK l)]) (eT (.mk p false l)) := by
  rw [eT_br (n := .mk p false l) rfl h]
  exact .agg (.cons (.refl _) (.cons (.refl _) (.cons (.refl _) (.cons (.nil _ _ _) (.cons (.refl _) .nil)))))
theorem keyOf_get {l : List C} {a : C} (h : l[0]? = some a) : keyOf l = a.key := by
  cases l with
  | nil => cases h
  | cons b l => cases h; rfl
theorem keys_set (key : ByteArray) (l : List C) : (l.map fun c => dS c.key).set 0 (dS key) = (setKey key l).map fun c => dS c.key := by cases l <;> rfl
theorem kids_set {key : ByteArray} {l : List C} (h : ∀ c, c ∈ l → ∃ k, c.kid = [k]) : ∀ c, c ∈ setKey key l → ∃ k, c.kid = [k] := by
  cases l with
  | nil => exact h
  | cons b l =>
    intro c hc
    rcases List.mem_cons.1 hc with rfl | hc
    · exact h b List.mem_cons_self
    · exact h c (List.mem_cons_of_mem _ hc)
theorem dK_set (key : ByteArray) (l : List C) : dK (setKey key l) = dK l := by cases l <;> rfl
theorem wk_br0 (p : Int) (l : List C) (h : ∀ c, c ∈ l → ∃ k, c.kid = [k]) : Wk (.agg [dI p, dB false, .sl 1 false ((l.map fun c => dS c.key).set 0 (.v (.string { data := #[] }))), .sl 0 true [], .sl 5 false (dK l)]) (eT (.mk p false (setKey noS l))) := by
  have e : DV.v (Value.string { data := #[] }) = dS noS := rfl
  rw [e, keys_set, ← dK_set noS]
  exact wk_br p _ (kids_set h)
set_option maxHeartbeats 8000000 in
theorem partP (w0 : W0) (n : N) (i : Nat) (S : St) (hn : n.leaf = false → ∀ c, c ∈ n.l → ∃ k, c.kid = [k]) (hi : 0 < i) (hi2 : i < n.l.length) (h0 : n.l.length ≤ 524288) :
    ACall Tryz.prog w0 152 [eT n, dI i] S (fun d S' => d = .tup [eT (.mk 0 n.leaf (n.l.take i)), eT (.mk 0 n.leaf (if n.leaf then n.l.drop i else setKey noS (n.l.drop i))), dS (keyOf (n.l.drop i))] ∧ S' = S) := by
  cases hl : n.leaf with
  | true =>
    rw [eT_leaf hl]
    refine fnS [1, 8] mx Tryz.func152 rfl rfl (by kernel_rfl) ?_; refine @goW _ (goS1 @Tryz.ntmps152 ?_)
    intro b b1 b2
    refine Y.ordK [8] [] [0, 3, 1, 2, 4, 5, 6, 7, 8, 9] mx (by kernel_rfl) ?_
    refine @goW _ (goS ?_)
    intro b3 b4
    refine ⟨by omega, useQ (cloneQS w0 ((n.l.take i).map fun c => dS c.key) _ (by rw [List.length_map, List.length_take]; omega)) ?_⟩
    refine @goW _ (goS ?_)
    refine ⟨by omega, useQ (cloneQS w0 ((n.l.drop i).map fun c => dS c.key) _ (by rw [List.length_map, List.length_drop]; omega)) ?_⟩
    refine @goW _ (goS ?_)
    refine ⟨by omega, fun a ha => ⟨by omega, useQ (cloneQV w0 ((n.l.take i).map dV2) _ (by rw [List.length_map, List.length_take]; omega)) ?_⟩⟩
    refine @goW _ (goS ?_)
    refine ⟨by omega, useQ (cloneQV w0 ((n.l.drop i).map dV2) _ (by rw [List.length_map, List.length_drop]; omega)) ?_⟩
    refine @goW _ (goS ?_)
    refine Y.ordB [b1.n, b2.n] [3, 4] [] [2, 0, 1, 3, 4, 5] mx (by kernel_rfl) ?_
    refine @goW _ (goS ?_)
    rw [keyOf_get ha]
    exact .tup (.cons (wk_leaf 0 _) (.cons (wk_leaf 0 _) (.cons (.refl _) .nil)))
  | false =>
    rw [eT_br hl (hn hl)]
    unfold brT
    refine fnS [1, 2, 8] mx Tryz.func152 rfl rfl (by kernel_rfl) ?_; refine @goW _ (goS1 @Tryz.ntmps152 ?_)
    intro b b1 b2
    refine Y.ordK [8] [] [0, 3, 1, 2, 4, 5, 6, 7, 8, 9] mx (by kernel_rfl) ?_
    refine @goW _ (goS ?_)
    intro b3 b4
    refine Y.ordK [4, 9] [] [0, 2, 5, 7, 1, 3, 6, 8, 4, 10, 9, 11, 12, 13] mx (by kernel_rfl) ?_
    refine @goW _ (goS ?_)
    refine ⟨by omega, by omega, useK (cloneS w0 ((n.l.take i).map fun c => dS c.key) _ (by rw [List.length_map, List.length_take]; omega)) ?_⟩
    rintro d S' ⟨l1, rfl, rfl⟩
    refine @goW _ (goS ?_)
    refine useK (cloneS w0 ((n.l.drop i).map fun c => dS c.key) _ (by rw [List.length_map, List.length_drop]; omega)) ?_
    rintro d S' ⟨l2, rfl, rfl⟩
    refine @goW _ (goS ?_)
    refine ⟨by omega, by omega, fun a ha => ⟨by omega, useQ (cloneQT w0 (dK (n.l.take i)) _ (by rw [dK_len, List.length_take]; omega)) ?_⟩⟩
    refine @goW _ (goS ?_)
    refine ⟨by omega, useQ (cloneQT w0 (dK (n.l.drop i)) _ (by rw [dK_len, List.length_drop]; omega)) ?_⟩
    refine @goW _ (goS ?_)
    refine ⟨by omega, by omega, fun a' ha' => ?_⟩
    refine Y.ordB [b1.n, b2.n] [3, 4] [] [2, 0, 1, 3, 4, 5] mx (by kernel_rfl) ?_
    refine @goW _ (goS ?_)
    rw [keyOf_get ha]
    exact .tup (.cons (wk_br 0 _ fun c hc => hn hl c (List.mem_of_mem_take hc)) (.cons (wk_br0 0 _ fun c hc => hn hl c (List.mem_of_mem_drop hc)) (.cons (.refl _) .nil)))
end Go.Proofs.YtfieabidajilmaaGreat

namespace Go.Proofs.YtfieabidajilmaaGreat
open Aml Go
set_option linter.unusedVariables false
set_option linter.unusedSimpArgs false
set_option maxRecDepth 100000
theorem wk_form {p : Int} {l : List C} {K D : List DV} (h : ∀ c, c ∈ l → ∃ k, c.kid = [k]) (hK : K = l.map fun c => dS c.key) (hD : D = dK l) : Wk (.agg [dI p, dB false, .sl 1 false K, .sl 0 true [], .sl 5 false D]) (eT (.mk p false l)) := by
  subst hK; subst hD; exact wk_br p l h
theorem keys_with {l : List C} {k : Nat} {c : C} (h : l[k]? = some c) (q : ByteArray) (a b : N) : ((l.take (k + 1)).map fun c => dS c.key) ++ [dS q] ++ ((l.drop (k + 1)).map fun c => dS c.key) = (withC l k [cellN c.key a, cellN q b]).map fun c => dS c.key := by
  unfold withC
  rw [List.map_append, List.map_append, List.take_add_one, h]
  simp [cellN, C.key]
theorem kids_with (l : List C) (k : Nat) (x y : ByteArray) (a b : N) : dK (l.take k) ++ [eT a, eT b] ++ dK (l.drop (k + 1)) = dK (withC l k [cellN x a, cellN y b]) := by
  unfold withC
  rw [dK_app, dK_app, ← dT_eq, ← dT_eq]
  rfl
theorem keys_with1 {l : List C} {k : Nat} {c : C} (h : l[k]? = some c) (a : N) : (l.map fun c => dS c.key) = (withC l k [cellN c.key a]).map fun c => dS c.key := by
  obtain ⟨hi, rfl⟩ := List.getElem?_eq_some_iff.1 h
  have e : l.map (fun c => dS c.key) = (l.take k ++ l[k] :: l.drop (k + 1)).map fun c => dS c.key := by rw [← List.drop_eq_getElem_cons hi, List.take_append_drop]
  unfold withC
  rw [e, List.map_append, List.map_append, List.map_append, List.map_cons, List.append_assoc]
  rfl
theorem kids_with1 (l : List C) (k : Nat) (x : ByteArray) (a : N) : dK (l.take k) ++ [eT a] ++ dK (l.drop (k + 1)) = dK (withC l k [cellN x a]) := by
  unfold withC
  rw [dK_app, dK_app, ← dT_eq]
  rfl
theorem one_with {l m : List C} {k : Nat} (h : ∀ c, c ∈ l → ∃ k, c.kid = [k]) (hm : ∀ c, c ∈ m → ∃ k, c.kid = [k]) : ∀ c, c ∈ withC l k m → ∃ k, c.kid = [k] := fun c hc => by
  rcases mem_withC hc with hc | hc
  · exact h c hc
  · exact hm c hc
theorem one_cells2 (x y : ByteArray) (a b : N) : ∀ c, c ∈ [cellN x a, cellN y b] → ∃ k, c.kid = [k] := fun c hc => by
  simp only [List.mem_cons, List.not_mem_nil, or_false] at hc
  rcases hc with rfl | rfl
  · exact ⟨a, rfl⟩
  · exact ⟨b, rfl⟩
theorem one_cells1 (x : ByteArray) (a : N) : ∀ c, c ∈ [cellN x a] → ∃ k, c.kid = [k] := fun c hc => by
  simp only [List.mem_singleton] at hc
  subst hc; exact ⟨a, rfl⟩
theorem nd_one {d : Nat} {n : N} (h : Nd d n) : n.leaf = false → ∀ c, c ∈ n.l → ∃ k, c.kid = [k] := by
  cases d with
  | zero => intro hl; rw [h.1] at hl; cases hl
  | succ d => intro _ c hc; obtain ⟨_, k, hk, _⟩ := h.2.2 c hc; exact ⟨k, hk⟩
set_option maxHeartbeats 8000000 in
theorem splitP (w0 : W0) (d : Nat) (n kid : N) (c : C) (k : Nat) (S : St) (hn : Nd (d + 1) n) (hlen : n.l.length ≤ 262144) (hc : n.l[k]? = some c) (hk : c.kid = [kid]) (hkl : kid.l.length ≤ 524288) :
    ACall Tryz.prog w0 126 [eT n, dI k] S (fun d S' => d = .tup [eT (partedN n kid k c.key).1, dB (partedN n kid k c.key).2] ∧ S' = S) := by
  have hone := nd_one hn hn.1
  have hlt := (List.getElem?_eq_some_iff.1 hc).1
  obtain ⟨kid', hk', hkn⟩ : ∃ k', c.kid = [k'] ∧ Nd d k' := (hn.2.2 c (List.mem_of_getElem? hc)).2
  rw [hk] at hk'; cases hk'
  have hsm := nd_sm hkn
  generalize hp : partedN n kid k c.key = p
  rw [eT_br hn.1 hone]
  refine fnS [] mx Tryz.func126 rfl rfl (by kernel_rfl) ?_; refine @goW _ (goS1 @Tryz.ntmps126 ?_)
  unfold brT
  refine @goW _ (goS ?_)
  intro b b1
  refine ⟨hlt, fun a ha => ?_⟩
  cases getE hc ha
  rw [kid0_eq hk]
  refine use1 (sizesP w0 kid _ hsm (by omega)) ?_
  refine @goW _ (goS ?_)
  refine use1 (atP w0 _ _ (sizes_bd kid hsm (by omega))) ?_
  refine @goW _ (goS ?_)
  refine ⟨fun h0 => ?_, fun h0 => ?_⟩
  · have e : p = (n, false) := by rw [← hp]; unfold partedN; simp only; rw [if_pos (by omega)]
    subst e
    exact .tup (.cons (.eq (eT_br hn.1 hone).symm) (.cons (.refl _) .nil))
  · have hat := atR_lt (sizesN kid) (by omega)
    have hsl : (sizesN kid).length = kid.l.length := by unfold sizesN; rw [List.length_map]
    obtain ⟨A, B, q, e, hpart⟩ : ∃ A B q, p = (.mk 0 false (withC n.l k [cellN c.key A, cellN q B]), true) ∧ ∀ S, ACall Tryz.prog w0 152 [eT kid, dI (atR (sizesN kid))] S (fun d S' => d = .tup [eT A, eT B, dS q] ∧ S' = S) :=
      ⟨_, _, _, by rw [← hp]; unfold partedN; simp only; rw [if_neg (by omega)], fun S => partP w0 kid (atR (sizesN kid)) S (nd_one hkn) (by omega) (by omega) hkl⟩
    refine ⟨hlt, fun a ha => ?_⟩
    cases getE hc ha
    rw [kid0_eq hk]
    refine use1 (hpart _) ?_
    refine @goW _ (goS ?_)
    intro b2 b3
    have ew : IntKind.i64.wrap ((k : Int) + 1) = ((k + 1 : Nat) : Int) := i_oneV k (by omega)
    rw [ew]
    refine useQ (swapS w0 (n.l.map fun c => dS c.key) [dS q] (k + 1) 0 _ _ (by rw [List.length_map]; omega) (by rw [List.length_map]; omega) (by simp)) ?_
    refine @goW _ (goS ?_)
    refine useQ (swapT w0 (dK n.l) [eT A, eT B] k 1 _ _ (by rw [dK_len]; omega) (by rw [dK_len]; omega) (by simp)) ?_
    refine @goW _ (goS ?_)
    subst e
    exact .tup (.cons (wk_form (one_with hone (one_cells2 _ _ _ _)) (keys_with hc _ A B) (kids_with _ _ _ _ _ _)) (.cons (.refl _) .nil))
set_option maxHeartbeats 8000000 in
theorem joinP (w0 : W0) (d : Nat) (a b : N) (key : ByteArray) (S : St) (ha : Nd d a) (hb : Nd d b) (h0 : a.l.length ≤ 262144) (h1 : b.l.length ≤ 262144) (hbn : b.leaf = false → b.l ≠ []) :
    ACall Tryz.prog w0 129 [eT a, eT b, dS key] S (fun d S' => d = eT (bothN a b key) ∧ S' = S) := by
  have hle := nd_leaf_eq ha hb
  generalize hp : bothN a b key = p
  cases hl : a.leaf with
  | true =>
    rw [hl] at hle
    rw [eT_leaf hl, eT_leaf hle.symm]
    refine fnS [] mx Tryz.func129 rfl rfl (by kernel_rfl) ?_; refine @goW _ (goS1 @Tryz.ntmps129 ?_)
    intro b1 b2 b3
    refine use1 (cloneQS w0 (b.l.map fun c => dS c.key) _ (by rw [List.length_map]; omega)) ?_
    refine @goW _ (goS ?_)
    refine useQ (concatS w0 [a.l.map (fun c => dS c.key), b.l.map fun c => dS c.key] _ (by simp) (by simp [fl]; omega)) ?_ ⟨.full _ _ _, trivial⟩
    refine @goW _ (goS ?_)
    refine useQ (concatV w0 [a.l.map dV2, b.l.map dV2] _ (by simp) (by simp [fl]; omega)) ?_ ⟨.full _ _ _, trivial⟩
    refine @goW _ (goS ?_)
    refine useQ (concatT w0 [[], []] _ (by simp) (by simp [fl])) ?_ ⟨.full _ _ _, trivial⟩
    refine @goW _ (goS ?_)
    have e : eT p = .agg [dI 0, dB true, .sl 1 false (fl [a.l.map fun c => dS c.key, b.l.map fun c => dS c.key]), .sl 2 false (fl [a.l.map dV2, b.l.map dV2]), .sl 5 false (fl [[], []])] := by
      rw [← hp]; unfold bothN; rw [if_pos hle.symm, hl, eT_leaf rfl]; simp [fl, N.l, N.page]
    exact .eq e.symm
  | false =>
    rw [hl] at hle
    rw [eT_br hl (nd_one ha hl), eT_br hle.symm (nd_one hb hle.symm)]
    unfold brT
    refine fnS [4] mx Tryz.func129 rfl rfl (by kernel_rfl) ?_; refine @goW _ (goS1 @Tryz.ntmps129 ?_)
    intro b1 b2 b3
    refine useK (cloneS w0 (b.l.map fun c => dS c.key) _ (by rw [List.length_map]; omega)) ?_
    rintro d S' ⟨l1, rfl, rfl⟩
    refine @goW _ (goS ?_)
    have hpos := List.length_pos_iff.2 (hbn hle.symm)
    refine ⟨by omega, hpos, fun c hc => ?_⟩
    refine shrK [] [7] mx (by kernel_rfl) ?_
    refine @goW _ (goS ?_)
    refine useQ (concatS w0 [a.l.map (fun c => dS c.key), (b.l.map fun c => dS c.key).set 0 (dS key)] _ (by simp) (by simp [fl]; omega)) ?_ ⟨.full _ _ _, trivial⟩
    refine @goW _ (goS ?_)
    refine useQ (concatV w0 [[], []] _ (by simp) (by simp [fl])) ?_ ⟨.full _ _ _, trivial⟩
    refine @goW _ (goS ?_)
    refine useQ (concatT w0 [dK a.l, dK b.l] _ (by simp) (by simp [fl, dK_len]; omega)) ?_ ⟨.full _ _ _, trivial⟩
    refine @goW _ (goS ?_)
    have e : eT p = .agg [dI 0, dB false, .sl 1 false (fl [a.l.map fun c => dS c.key, (b.l.map fun c => dS c.key).set 0 (dS key)]), .sl 2 false (fl [[], []]), .sl 5 false (fl [dK a.l, dK b.l])] := by
      rw [← hp]; unfold bothN; rw [if_neg (by rw [← hle]; simp), hl, keys_set, ← dK_set key b.l, eT_br rfl]
      · unfold brT; simp [fl, N.l, N.page, dK_app]
      · intro c hc
        rcases List.mem_append.1 hc with hc | hc
        · exact nd_one ha hl c hc
        · exact kids_set (nd_one hb hle.symm) c hc
    exact .eq e.symm
end Go.Proofs.YtfieabidajilmaaGreat

namespace Go.Proofs.YtfieabidajilmaaGreat
open Aml Go
set_option linter.unusedVariables false
set_option linter.unusedSimpArgs false
set_option maxRecDepth 100000
theorem withC_both {l m : List C} {j : Nat} (h : j + 1 < l.length) : withC (withC l (j + 1) []) j m = l.take j ++ m ++ l.drop (j + 1 + 1) := by
  unfold withC
  have e1 : (l.take (j + 1)).length = j + 1 := by rw [List.length_take]; omega
  rw [List.append_nil, List.take_append_of_le_length (by omega), List.take_take, show min j (j + 1) = j by omega, List.drop_append, e1, List.drop_eq_nil_of_le (by omega)]
  simp
theorem keys_both {l : List C} {j : Nat} {c : C} (hj : j + 1 < l.length) (h : l[j]? = some c) (b : N) : ((l.take (j + 1)).map fun c => dS c.key) ++ ((l.drop (j + 1 + 1)).map fun c => dS c.key) = (withC (withC l (j + 1) []) j [cellN c.key b]).map fun c => dS c.key := by
  rw [withC_both hj, List.map_append, List.map_append, List.take_add_one, h]
  simp [cellN, C.key]
theorem kids_both {l : List C} {j : Nat} (hj : j + 1 < l.length) (x : ByteArray) (b : N) : dK (l.take j) ++ [eT b] ++ dK (l.drop (j + 2)) = dK (withC (withC l (j + 1) []) j [cellN x b]) := by
  rw [withC_both hj, dK_app, dK_app, ← dT_eq]
  rfl
set_option maxHeartbeats 8000000 in
theorem mendP (w0 : W0) (d : Nat) (n : N) (k : Nat) (S : St) (hn : Nd (d + 1) n) (ht : totN n ≤ 131072) (hk : k < n.l.length) : ACall Tryz.prog w0 96 [eT n, dI k] S (fun e S' => e = eT (mendN n k) ∧ S' = S) := by
  have hlen := tot_len n
  have hone := nd_one hn hn.1
  obtain ⟨c, kid, hc, e1, e2, hkid, hkey, hnd⟩ := nd_kid hn hk
  have hkt := tot_kid (List.mem_of_getElem? hc) hkid
  have hkl := tot_len kid
  have hsm := nd_sm hnd
  have hm0 : mendN n k = mendN n k := rfl
  conv at hm0 => rhs; unfold mendN
  simp only [e1, e2] at hm0
  generalize hp : partedN n kid k c.key = p at hm0
  generalize mendN n k = m at hm0
  rw [eT_br hn.1 hone]
  refine fnS [7, 8] mx Tryz.func96 rfl rfl (by kernel_rfl) ?_; (refine @goW _ ?_; refine goS1 @Tryz.ntmps96 ?_)
  unfold brT
  (refine @goW _ ?_; refine goS ?_)
  intro b b1
  refine use1 (splitP w0 d n kid c k _ hn (by omega) hc hkid (by omega)) ?_ ⟨.eq (eT_br hn.1 hone).symm, .refl _, trivial⟩
  rw [hp]
  (refine @goW _ ?_; refine goS ?_)
  intro b2
  refine ⟨fun h2 => ?_, fun h2 => ⟨hk, fun a ha => ?_⟩⟩
  · rw [if_pos h2] at hm0
    subst hm0
    (refine @goW _ ?_; exact goT)
  · cases getE hc ha
    rw [if_neg (by rw [h2]; simp)] at hm0
    rw [e2]
    refine use1 (sizesP w0 kid _ hsm (by omega)) ?_
    (refine @goW _ ?_; refine goS ?_)
    refine use1 (lowP w0 _ _ (sizes_bd kid hsm (by omega))) ?_
    (refine @goW _ ?_; refine goS ?_)
    refine ⟨fun hlo => ?_, fun hlo => ⟨fun hl2 => ?_, fun hl2 => ?_⟩⟩
    · rw [if_pos (by rw [hlo]; rfl)] at hm0
      subst hm0
      exact .eq (eT_br hn.1 hone).symm
    · rw [if_pos (by rw [hlo, decide_eq_true (by omega)]; rfl)] at hm0
      subst hm0
      exact .eq (eT_br hn.1 hone).symm
    · rw [if_neg (by rw [hlo, decide_eq_false (by omega)]; simp)] at hm0
      refine use1 (nbP w0 n.l.length k _ (by omega) (by omega) (by omega) (by omega)) ?_
      obtain ⟨j, hj, hnb, hj1⟩ : ∃ j : Nat, (if k + 1 < n.l.length then k else k - 1) = j ∧ (if nbR (n.l.length : Int) k < (k : Int) then nbR (n.l.length : Int) k else (k : Int)) = (j : Int) ∧ j + 1 < n.l.length := by
        refine ⟨_, rfl, ?_, ?_⟩
        · unfold nbR
          split <;> split <;> split <;> omega
        · split <;> omega
      rw [hj] at hm0
      (refine @goW _ ?_; refine goS1 @hnb ?_)
      obtain ⟨c0, k0, hc0, f1, f2, hk0, hkey0, hnd0⟩ := nd_kid hn (k := j) (by omega)
      obtain ⟨c1, k1, hc1, g1, g2, hk1, hkey1, hnd1⟩ := nd_kid hn hj1
      simp only [f1, f2, g1, g2] at hm0
      have ht0 := tot_kid (List.mem_of_getElem? hc0) hk0
      have ht1 := tot_kid (List.mem_of_getElem? hc1) hk1
      have hl0 := tot_len k0
      have hl1 := tot_len k1
      have ew : IntKind.i64.wrap ((j : Int) + 1) = ((j + 1 : Nat) : Int) := i_oneV j (by omega)
      refine Y.ordK [] [] [0, 2, 5, 7, 8, 11, 13, 14, 1, 3, 4, 6, 9, 10, 12, 15, 16, 17, 18, 19] mx (by kernel_rfl) ?_
      (refine @goW _ ?_; refine goS1 @ew ?_)
      refine ⟨by omega, fun x hx => ⟨hj1, fun y hy => ⟨hj1, fun z hz => ?_⟩⟩⟩
      cases getE hc0 hx; cases getE hc1 hy; cases getE hc1 hz
      rw [f2, g2]
      have hbn : k1.leaf = false → k1.l ≠ [] := fun hl => by
        cases d with
        | zero => rw [hnd1.1] at hl; cases hl
        | succ d => exact hnd1.2.1
      refine Y.useO (fun T hT => joinP w0 d k0 k1 c1.key T hnd0 hnd1 (by omega) (by omega) hbn) ?_
      have hbo := nd_both hnd0 hnd1 hkey1
      have hbl : (bothN k0 k1 c1.key).l.length ≤ 524288 := by
        unfold bothN
        simp only [N.l_mk, List.length_append]
        split
        · omega
        · rw [setKey_len]; omega
      generalize bothN k0 k1 c1.key = bo at *
      have hw1 : Nd (d + 1) (.mk 0 false (withC n.l (j + 1) [])) := nd_with hn hj1 0 (.inl (by omega)) (fun c hc => by cases hc)
      have hwl := withC_len (m := []) hj1
      simp only [List.length_nil] at hwl
      have hw2 := nd_with hw1 (i := j) (by simp only [N.l_mk]; omega) 0 (m := [cellN c0.key bo]) (.inr (by simp)) fun c hc => by
        rw [List.mem_singleton] at hc; subst hc; exact cell_ok hkey0 hbo
      have hwc : (withC (withC n.l (j + 1) []) j [cellN c0.key bo])[j]? = some (cellN c0.key bo) := withC_at (by omega)
      have hwn := withC_len (l := withC n.l (j + 1) []) (i := j) (m := [cellN c0.key bo]) (by omega)
      simp only [List.length_cons, List.length_nil] at hwn
      simp only [N.l_mk] at hw2
      have hwk : Wk (.agg [dI 0, dB false, .sl 1 false (((n.l.take (j + 1)).map fun c => dS c.key) ++ ((n.l.drop (j + 1 + 1)).map fun c => dS c.key)), .sl 0 true [], .sl 5 false (dK (n.l.take j) ++ [eT bo] ++ dK (n.l.drop (j + 2)))]) (eT (.mk 0 false (withC (withC n.l (j + 1) []) j [cellN c0.key bo]))) :=
        wk_form (one_with (one_with hone (fun c hc => by cases hc)) (one_cells1 _ _)) (keys_both hj1 hc0 bo) (kids_both hj1 c0.key bo)
      have hsp : ∀ T, ACall Tryz.prog w0 126 [eT (.mk 0 false (withC (withC n.l (j + 1) []) j [cellN c0.key bo])), dI j] T (fun d S' => d = .tup [eT m, dB (partedN (.mk 0 false (withC (withC n.l (j + 1) []) j [cellN c0.key bo])) bo j c0.key).2] ∧ S' = T) := fun T => by
        rw [hm0]
        exact splitP w0 d (.mk 0 false (withC (withC n.l (j + 1) []) j [cellN c0.key bo])) bo (cellN c0.key bo) j T hw2 (by simp only [N.l_mk]; omega) hwc rfl hbl
      generalize (partedN (.mk 0 false (withC (withC n.l (j + 1) []) j [cellN c0.key bo])) bo j c0.key).2 = pb at hsp
      generalize N.mk 0 false (withC (withC n.l (j + 1) []) j [cellN c0.key bo]) = M at hwk hsp
      clear hm0 hw2 hwc hwn hwl hw1
      (refine @goW _ ?_; refine goS ?_)
      intro b3
      refine Y.ordK [] [] [0, 2, 3, 5, 7, 12, 1, 4, 6, 8, 9, 10, 11, 13, 14, 15, 16, 17, 18, 19] mx (by kernel_rfl) ?_
      (refine @goW _ ?_; refine goS1 @ew ?_)
      refine Y.useO (fun T hT => swapS w0 (n.l.map fun c => dS c.key) [] (j + 1) 1 false T (by rw [List.length_map]; omega) (by rw [List.length_map]; omega) (by simp)) ?_ ⟨.refl _, .refl _, .refl _, .nil _ _ _, trivial⟩
      (refine @goW _ ?_; refine goS ?_)
      refine Y.useO (fun T hT => swapT w0 (dK n.l) [eT bo] j 2 true T (by rw [dK_len]; omega) (by rw [dK_len]; omega) (by simp)) ?_
      (refine @goW _ ?_; refine goS ?_)
      refine Y.useO (fun T hT => hsp T) ?_ ⟨?_, .refl _, trivial⟩
      · (refine @goW _ ?_; exact goT)
      · rw [List.map_append]; exact hwk
end Go.Proofs.YtfieabidajilmaaGreat

namespace Go.Proofs.YtfieabidajilmaaGreat
open Aml Go
set_option linter.unusedVariables false
set_option linter.unusedSimpArgs false
set_option maxRecDepth 100000
theorem wk_top {n : N} {x : DV} (h : eT n = x) : Wk (.agg [dI 0, dB false, .sl 1 true [.v (.string { data := #[] })], .sl 0 true [], .sl 5 true [x]]) (brT 0 [cellN noS n]) := by
  have e : brT 0 [cellN noS n] = .agg [dI 0, dB false, .sl 1 false [.v (.string { data := #[] })], .sl 2 false [], .sl 5 false [x]] := by
    rw [← h, ← dT_eq]; rfl
  rw [e]
  exact .agg (.cons (.refl _) (.cons (.refl _) (.cons (.full _ _ _) (.cons (.nil _ _ _) (.cons (.full _ _ _) .nil)))))
set_option maxHeartbeats 8000000 in
theorem topP (w0 : W0) : ∀ (d : Nat) (n : N) (S : St), Nd d n → totN n ≤ 131000 → ACall Tryz.prog w0 83 [eT n] S (fun e S' => e = eT (topN n) ∧ S' = S) := by
  have fin : ∀ (d : Nat) (n : N), Nd d n → totN n ≤ 131000 → atR (sizesN n) ≠ 0 → ∀ T, ACall Tryz.prog w0 96 [brT 0 [cellN noS n], dI 0] T (fun e S' => e = eT (mendN (.mk 0 false [cellN noS n]) 0) ∧ S' = T) := fun d n hn ht h0 T => by
    have hM : Nd (d + 1) (.mk 0 false [cellN noS n]) := ⟨rfl, List.cons_ne_nil _ _, fun c hc => by
      rw [N.l_mk, List.mem_singleton] at hc; subst hc; exact cell_ok (by rw [noS_size]; omega) hn⟩
    have := mendP w0 d (.mk 0 false [cellN noS n]) 0 T hM (by rw [totN_mk, tot_cons, tot_nil, tot_cell]; omega) (Nat.lt_add_one 0)
    rw [eT_br (n := .mk 0 false [cellN noS n]) rfl (one_cells1 _ _)] at this
    exact this
  intro d
  induction d with
  | zero =>
    intro n S hn ht
    have hlen := tot_len n
    have hsm := nd_sm hn
    have e1 := topN_else n (.inl hn.1)
    generalize topN n = m at e1
    have hf := fin 0 n hn ht
    rw [eT_leaf hn.1] at *
    refine fnS [] mx Tryz.func83 rfl rfl (by kernel_rfl) ?_; (refine @goW _ ?_; refine goS1 @Tryz.ntmps83 ?_)
    intro b b1
    refine use1 (sizesP w0 n _ hsm (by omega)) ?_ ⟨.eq (eT_leaf hn.1).symm, trivial⟩
    (refine @goW _ ?_; refine goS ?_)
    refine use1 (atP w0 _ _ (sizes_bd n hsm (by omega))) ?_
    (refine @goW _ ?_; refine goS ?_)
    refine ⟨fun h0 => ?_, fun h0 => ?_⟩
    · rw [if_pos (by omega)] at e1
      subst e1
      exact .eq (eT_leaf hn.1).symm
    · rw [if_neg (by omega)] at e1
      subst e1
      refine use1 (hf (by omega) _) ?_ ⟨wk_top (eT_leaf hn.1), .refl _, trivial⟩
      (refine @goW _ ?_; exact goT)
  | succ d ih =>
    intro n S hn ht
    have hlen := tot_len n
    have hsm := nd_sm hn
    have hone := nd_one hn hn.1
    generalize hm : topN n = m
    have hf := fin (d + 1) n hn ht
    rw [eT_br hn.1 hone] at *
    refine fnS [] mx Tryz.func83 rfl rfl (by kernel_rfl) ?_; (refine @goW _ ?_; refine goS1 @Tryz.ntmps83 ?_)
    unfold brT
    (refine @goW _ ?_; refine goS ?_)
    intro b b1
    refine ⟨fun h1 => ⟨by omega, fun c hc => ?_⟩, fun h1 => ?_⟩
    · obtain ⟨c', kid, hc', _, e2, hkid, _, hnd⟩ := nd_kid hn (k := 0) (by omega)
      cases getE hc hc'
      have hl : n.l = [c] := by
        cases h : n.l with
        | nil => rw [h] at hc; cases hc
        | cons a r =>
          rw [h] at hc h1
          cases r with
          | nil => cases hc; rfl
          | cons _ _ => simp at h1; omega
      have hkt := tot_kid (List.mem_of_getElem? hc) hkid
      rw [e2]
      refine use1 (ih kid _ hnd (by omega)) ?_
      rw [topN_one n hn.1 hl hkid] at hm
      rw [hm]
      (refine @goW _ ?_; exact goT)
    · have e1 := topN_else n (.inr (by omega))
      rw [hm] at e1
      refine use1 (sizesP w0 n _ hsm (by omega)) ?_ ⟨.eq (eT_br hn.1 hone).symm, trivial⟩
      (refine @goW _ ?_; refine goS ?_)
      refine use1 (atP w0 _ _ (sizes_bd n hsm (by omega))) ?_
      (refine @goW _ ?_; refine goS ?_)
      refine ⟨fun h0 => ?_, fun h0 => ?_⟩
      · rw [if_pos (by omega)] at e1
        subst e1
        exact .eq (eT_br hn.1 hone).symm
      · rw [if_neg (by omega)] at e1
        subst e1
        refine use1 (hf (by omega) _) ?_ ⟨wk_top (eT_br hn.1 hone), .refl _, trivial⟩
        (refine @goW _ ?_; exact goT)
theorem leafPut_yes {l : List C} {key : ByteArray} (h : hasN l key = true) (val : ByteArray) : idxN l key + 1 ≤ l.length ∧ leafPut l key val = l.take (idxN l key) ++ [.mk key val [] []] ++ l.drop (idxN l key + 1) := by
  unfold hasN at h
  unfold leafPut
  split at h
  · rename_i c hc
    refine ⟨(List.getElem?_eq_some_iff.1 hc).1, ?_⟩
    simp only [hc, h, if_true]; rfl
  · cases h
theorem leafPut_no {l : List C} {key : ByteArray} (h : hasN l key = false) (val : ByteArray) : leafPut l key val = l.take (idxN l key) ++ [.mk key val [] []] ++ l.drop (idxN l key + 0) := by
  unfold hasN at h
  unfold leafPut
  split at h
  · rename_i c hc
    simp only [hc, h, Bool.false_eq_true, if_false]; rfl
  · rename_i hc
    simp only [hc]; rfl
theorem wk_val (key val : ByteArray) : Wk (.sl 2 true [.agg [dS val, .sl 0 true []]]) (.sl 2 true [dV2 (.mk key val [] [])]) := .sl ⟨.agg (.cons (.refl _) (.cons (.nil _ _ _) .nil)), trivial⟩
set_option maxHeartbeats 8000000 in
theorem putP (w0 : W0) (key val : ByteArray) (hk : key.size ≤ 16) (hv : val.size ≤ 400) : ∀ (d : Nat) (n : N) (S : St), Good d n → totN n + d + 8 ≤ 131000 → ACall Tryz.prog w0 84 [eT n, dS key, dS val] S (fun e S' => e = eT (putN key val n) ∧ S' = S) := by
  intro d
  induction d with
  | zero =>
    intro n S hg ht
    have hlen := tot_len n
    rw [putN_leaf key val n hg.1, eT_leaf hg.1, eT_leaf rfl]
    refine fnS [] mx Tryz.func84 rfl rfl (by kernel_rfl) ?_; (refine @goW _ ?_; refine goS1 @Tryz.ntmps84 ?_)
    intro b b1
    refine use1 (searchS w0 n.l key _ (rise_mono hg.2.1 key) (by omega)) ?_
    (refine @goW _ ?_; refine goS ?_)
    refine ⟨fun hy => ?_, fun hno => ?_⟩
    · obtain ⟨hi, hput⟩ := leafPut_yes hy val
      refine useQ (swapS w0 (n.l.map fun c => dS c.key) [dS key] (idxN n.l key) 1 _ _ (by rw [List.length_map]; omega) (by rw [List.length_map]; omega) (by simp)) ?_
      (refine @goW _ ?_; refine goS ?_)
      refine useQ (swapV w0 (n.l.map dV2) [dV2 (.mk key val [] [])] (idxN n.l key) 1 true _ (by rw [List.length_map]; omega) (by rw [List.length_map]; omega) (by simp)) ?_ ⟨.refl _, .refl _, .refl _, wk_val key val, trivial⟩
      (refine @goW _ ?_; refine goS ?_)
      rw [hput]
      simp only [List.map_append, List.map_cons, List.map_nil]
      exact .agg (.cons (.refl _) (.cons (.refl _) (.cons (.refl _) (.cons (.refl _) (.cons (.nil _ _ _) .nil)))))
    · have hi := idx_le n.l key
      refine useQ (swapS w0 (n.l.map fun c => dS c.key) [dS key] (idxN n.l key) 0 _ _ (by rw [List.length_map]; omega) (by rw [List.length_map]; omega) (by simp)) ?_
      (refine @goW _ ?_; refine goS ?_)
      refine useQ (swapV w0 (n.l.map dV2) [dV2 (.mk key val [] [])] (idxN n.l key) 0 true _ (by rw [List.length_map]; omega) (by rw [List.length_map]; omega) (by simp)) ?_ ⟨.refl _, .refl _, .refl _, wk_val key val, trivial⟩
      (refine @goW _ ?_; refine goS ?_)
      rw [leafPut_no hno]
      simp only [List.map_append, List.map_cons, List.map_nil]
      exact .agg (.cons (.refl _) (.cons (.refl _) (.cons (.refl _) (.cons (.refl _) (.cons (.nil _ _ _) .nil)))))
  | succ d ih =>
    intro n S hg ht
    have hn := good_nd hg
    have hlen := tot_len n
    have hone := nd_one hn hn.1
    have hlt := way_lt hg.2.1 key
    obtain ⟨c, kid, hc, e1, e2, hkid, hkey, hnd⟩ := nd_kid hn (k := way n.l key) hlt
    obtain ⟨-, -, kid', hkid', hgk, -⟩ := hg.2.2.cell c (List.mem_of_getElem? hc)
    rw [hkid] at hkid'; cases hkid'
    have hkt := tot_kid (List.mem_of_getElem? hc) hkid
    have hw := wayP w0 n key
    rw [putN_br key val n hg.1 hc hkid]
    have hpt := tot_put hk hv hnd
    have hpn := nd_put hk hv hnd
    have ihk := ih kid
    generalize putN key val kid = pk at hpt hpn ihk ⊢
    have hM := nd_with hn hlt 0 (m := [cellN c.key pk]) (.inr (by simp)) fun c hc => by
      rw [List.mem_singleton] at hc; subst hc; exact cell_ok hkey hpn
    have hMt : totN (.mk 0 false (withC n.l (way n.l key) [cellN c.key pk])) ≤ 131072 := by
      have := tot_withC (m := [cellN c.key pk]) hc
      rw [totN_mk]
      rw [tot_cons, tot_nil, tot_cell, totC_kid hkid, ← totN_tot n] at this
      omega
    have hmend := fun T => mendP w0 d _ (way n.l key) T hM hMt (by rw [N.l_mk]; have := withC_len (m := [cellN c.key pk]) hlt; simp at this; omega)
    have hwk : Wk (.agg [dI 0, dB false, .sl 1 false (n.l.map fun c => dS c.key), .sl 0 true [], .sl 5 false (dK (n.l.take (way n.l key)) ++ [eT pk] ++ dK (n.l.drop (way n.l key + 1)))]) (eT (.mk 0 false (withC n.l (way n.l key) [cellN c.key pk]))) :=
      wk_form (one_with hone (one_cells1 _ _)) (keys_with1 hc pk) (kids_with1 n.l _ c.key pk)
    generalize mendN (.mk 0 false (withC n.l (way n.l key) [cellN c.key pk])) (way n.l key) = m at hmend ⊢
    generalize N.mk 0 false (withC n.l (way n.l key) [cellN c.key pk]) = M at hmend hwk
    clear hM hMt
    rw [eT_br hn.1 hone] at hw ⊢
    refine fnS [] mx Tryz.func84 rfl rfl (by kernel_rfl) ?_; (refine @goW _ ?_; refine goS1 @Tryz.ntmps84 ?_)
    unfold brT
    (refine @goW _ ?_; refine goS ?_)
    intro b b1
    refine use1 (hw _ (by omega) hg.2.1) ?_
    (refine @goW _ ?_; refine goS ?_)
    refine ⟨hlt, fun x hx => ?_⟩
    cases getE hc hx
    rw [e2]
    refine useQ (ihk _ hgk (by omega)) ?_
    (refine @goW _ ?_; refine goS ?_)
    refine useQ (swapT w0 (dK n.l) [eT pk] (way n.l key) 1 true _ (by rw [dK_len]; omega) (by rw [dK_len]; omega) (by simp)) ?_
    (refine @goW _ ?_; refine goS ?_)
    refine useQ (hmend _) ?_ ⟨hwk, .refl _, trivial⟩
    (refine @goW _ ?_; exact goT)
set_option maxHeartbeats 1000000 in
theorem PutP (w0 : W0) (key val : ByteArray) (hk : key.size ≤ 16) (hv : val.size ≤ 400) (d : Nat) (n : N) (S : St) (hg : Good d n) (ht : totN n + 2 * d + 16 ≤ 131000) : ACall Tryz.prog w0 44 [eT n, dS key, dS val] S (fun e S' => e = eT (Put key val n) ∧ S' = S) := by
  have h1 := putP w0 key val hk hv d n
  have h2 := tot_put hk hv (good_nd hg)
  have h3 := topP w0 d (putN key val n) 
  have h4 := nd_put hk hv (good_nd hg)
  unfold Put
  generalize putN key val n = p at *
  generalize topN p = q at *
  refine fnS [] mx Tryz.func44 rfl rfl (by kernel_rfl) ?_; (refine @goW _ ?_; refine goS1 @Tryz.ntmps44 ?_)
  intro b b1
  refine use1 (h1 _ hg (by omega)) ?_
  (refine @goW _ ?_; refine goS ?_)
  refine use1 (h3 _ h4 (by omega)) ?_
  (refine @goW _ ?_; exact goT)
end Go.Proofs.YtfieabidajilmaaGreat

namespace Go.Proofs.YtfieabidajilmaaGreat
open Aml Go
set_option linter.unusedVariables false
set_option linter.unusedSimpArgs false
set_option maxRecDepth 100000
end Go.Proofs.YtfieabidajilmaaGreat

namespace Aml
open Go Go.RowKit
set_option linter.unusedVariables false
set_option linter.unusedSimpArgs false
def del (L : List (Nat × Ob)) (n : Nat) : List (Nat × Ob) := L.filter fun p => p.1 != n
theorem mem_del {L : List (Nat × Ob)} {n : Nat} {p : Nat × Ob} : p ∈ del L n ↔ p ∈ L ∧ p.1 ≠ n := by unfold del; simp
theorem del_none {L : List (Nat × Ob)} {n : Nat} (h : ∀ p, p ∈ L → p.1 ≠ n) : del L n = L := List.filter_eq_self.2 fun p hp => by simpa using h p hp
theorem ren_perm {n : Nat} {p : Nat × Ob} {o : Ob} : ∀ {L : List (Nat × Ob)}, (L.map (·.1)).Nodup → lk L n = some o → (ren L n p).Perm (p :: del L n)
  | [], _, h => by cases h
  | (k, x) :: t, hn, h => by
    simp only [List.map_cons, List.nodup_cons] at hn
    simp only [lk] at h
    simp only [ren]
    split
    · rename_i e
      subst e
      have h1 : del ((k, x) :: t) k = t := by
        have h2 : del t k = t := del_none fun q hq e => hn.1 (by rw [← e]; exact List.mem_map_of_mem hq)
        unfold del at *
        rw [List.filter_cons_of_neg (by simp)]; exact h2
      rw [h1]
    · rename_i e
      rw [if_neg e] at h
      have h1 : del ((k, x) :: t) n = (k, x) :: del t n := by unfold del; rw [List.filter_cons_of_pos (by simpa using e)]
      rw [h1]
      exact ((ren_perm hn.2 h).cons _).trans (.swap _ _ _)
/-- Elements that are cells in a box. -/
def Els (s : Nat) (xs : List DV) : Prop := ∀ d, d ∈ xs → okE d = true ∧ (cd d).length = s
def rowD (s c : Nat) (xs : List DV) : List DV := xs.flatMap cd ++ List.replicate ((c - xs.length) * s) .any
theorem els_len {s : Nat} : ∀ {xs : List DV}, Els s xs → (xs.flatMap cd).length = xs.length * s
  | [], _ => by simp
  | d :: xs, h => by
    rw [List.flatMap_cons, List.length_append, els_len fun x hx => h x (List.mem_cons_of_mem _ hx), (h d List.mem_cons_self).2, List.length_cons, Nat.succ_mul]; omega
theorem rowD_len {s c : Nat} {xs : List DV} (h : Els s xs) (hc : xs.length ≤ c) : (rowD s c xs).length = c * s := by
  unfold rowD
  rw [List.length_append, els_len h, List.length_replicate, ← Nat.add_mul]; congr 1; omega
section
variable {P : Program} {w0 : W0}
theorem Rel.openA {g : Gh} {S : St} {w : World} (h : Rel w0 g S w) {l s : Nat} {xs : List DV} (hl : lk S.acc l = some (.arr s xs)) (hn : xs ≠ []) (he : Els s xs) :
    ∃ b c, g.acc l xs.length = some (.slice (some ⟨b, 0, none⟩) xs.length c) ∧ xs.length ≤ c ∧ c ≤ maxLen ∧ nin S.box b ∧ Rel w0 g ⟨(b, rowD s c xs) :: S.box, del S.acc l⟩ w := by
  obtain ⟨ow, h⟩ := h.open_
  have hmem := lk_mem hl
  obtain ⟨hs, ⟨he0, _⟩ | ⟨b, c, cs, e, h1, h2, h3, h4, h5, h6, h7, h8, hA, us, h9, h10, h11, h12⟩⟩ := h.acc l _ hmem
  · exact absurd he0 hn
  have hbn : ∀ p, p ∈ S.box → p.1 ≠ b := by
    rintro ⟨b', ds⟩ hp rfl
    have := (h.box _ _ hp).1
    rw [h2] at this; cases this
  refine ⟨b, c, h1, h7, h8, nin_of hbn, RelO.close (ow := fun k => if k = b then some (.b b) else ow k) ⟨h.below, h.imm, ?_, ?_, h.accw, h.fresh, fun l' o' hl' => h.top l' o' (mem_del.1 hl').1, ?_, ?_, ?_⟩⟩
  · simp only [List.map_cons, List.nodup_cons]
    exact ⟨fun hm => by obtain ⟨p, hp, e⟩ := List.mem_map.1 hm; exact hbn p hp e, h.nb⟩
  · exact List.Sublist.nodup ((List.filter_sublist).map _) h.na
  · intro b' ds hb'
    rcases List.mem_cons.1 hb' with e' | hb'
    · cases e'
      refine ⟨if_pos rfl, h3, h4, cs, e, h5, ?_, hA⟩
      have hfl : (fl us).length = xs.length * s := by rw [fl_length h10, h9.len]
      have hcs : cs.toList = fl us ++ cs.toList.drop (xs.length * s) := by
        apply List.ext_getElem?
        intro k
        rcases Nat.lt_or_ge k (xs.length * s) with hk | hk
        · rw [List.getElem?_append_left (by omega)]
          obtain ⟨v, hv⟩ : ∃ v, (fl us)[k]? = some v := ⟨_, List.getElem?_eq_getElem (by omega)⟩
          obtain ⟨i, u, j, q1, q2, rfl⟩ := fl_inv h10 hv
          rw [hv, Array.getElem?_toList]
          exact h12 i u j v q1 q2
        · rw [List.getElem?_append_right (by omega), hfl, List.getElem?_drop]
          congr 1; omega
      rw [hcs]
      unfold rowD
      refine (repL_flat h9 fun d hd => (he d hd).1).append ?_
      have : (cs.toList.drop (xs.length * s)).length = (c - xs.length) * s := by rw [List.length_drop, Array.length_toList, h6, Nat.sub_mul]
      rw [← this]
      exact repL_anyR g _
    · have hne : b' ≠ b := hbn _ hb'
      exact (h.box b' ds hb').step (.refl g) fun ho => ⟨(if_neg hne).trans ho, rfl, fun _ hi => hi⟩
  · intro l' o' hl'
    obtain ⟨hm, hne⟩ := mem_del.1 hl'
    refine (h.acc l' o' hm).step (.refl g) fun b' ho => ⟨?_, rfl, fun _ hi => hi⟩
    have : b' ≠ b := by
      rintro rfl
      rw [h2] at ho
      cases ho
      exact hne rfl
    rw [if_neg this]; exact ho
  · intro b' k hk
    split at hk
    · rename_i e'; subst e'; exact lt_of_heap h5
    · exact h.owb _ _ hk
theorem regroup {g : Gh} {s : Nat} (hs : 0 < s) : ∀ {ys : List DV} {us : List Value}, RepL g (ys.flatMap cd) us → (∀ u, u ∈ us → u.oneCell' = true) → Els s ys →
    ∃ vs, RepL g ys vs ∧ (∀ (i : Nat) (u : Value), vs[i]? = some u → u.cells.size = s) ∧ (∀ (u : Value), u ∈ vs → ∀ x, x ∈ u.cells.toList → x.oneCell' = true) ∧ fl vs = us
  | [], us, h, _, _ => by
    have : us = [] := List.eq_nil_of_length_eq_zero (by have := h.len; simpa using this.symm)
    subst this
    exact ⟨[], RepL.nil g, by simp, by simp, rfl⟩
  | d :: ys, us, h, h1, he => by
    obtain ⟨hok, hlen⟩ := he d List.mem_cons_self
    have hs1 : RepL g (cd d) (us.take s) := by
      have := h.take s
      rwa [List.flatMap_cons, List.take_append_of_le_length (by omega), List.take_of_length_le (by omega)] at this
    have hs2 : RepL g (ys.flatMap cd) (us.drop s) := by
      have := h.drop s
      rwa [List.flatMap_cons, List.drop_append_of_le_length (by omega), List.drop_eq_nil_of_le (by omega), List.nil_append] at this
    obtain ⟨vs, q1, q2, q3, q4⟩ := regroup hs hs2 (fun u hu => h1 u (List.mem_of_mem_drop hu)) fun x hx => he x (List.mem_cons_of_mem _ hx)
    obtain ⟨v, r1, r2⟩ : ∃ v, Rep g d v ∧ v.cells.toList = us.take s := by
      have hone : ∀ u, u ∈ us.take s → u.oneCell' = true := fun u hu => h1 u (List.mem_of_mem_take hu)
      generalize us.take s = ts at *
      cases d with
      | agg ds => exact ⟨.agg ts.toArray, .agg ds ts hs1.len hs1.at_ hone, by simp [Value.cells]⟩
      | any => cases hok
      | tup ds => cases hok
      | v u0 =>
        obtain ⟨u, us', rfl, a1, a2⟩ := hs1.uncons
        have : us' = [] := List.eq_nil_of_length_eq_zero (by have := a2.len; simpa using this.symm)
        subst this
        exact ⟨u, a1, by have := hone u List.mem_cons_self; cases u <;> simp_all [Value.cells, Value.oneCell']⟩
      | sl a b c =>
        obtain ⟨u, us', rfl, a1, a2⟩ := hs1.uncons
        have : us' = [] := List.eq_nil_of_length_eq_zero (by have := a2.len; simpa using this.symm)
        subst this
        exact ⟨u, a1, by have := hone u List.mem_cons_self; cases u <;> simp_all [Value.cells, Value.oneCell']⟩
      | ifc a b =>
        obtain ⟨u, us', rfl, a1, a2⟩ := hs1.uncons
        have : us' = [] := List.eq_nil_of_length_eq_zero (by have := a2.len; simpa using this.symm)
        subst this
        exact ⟨u, a1, by have := hone u List.mem_cons_self; cases u <;> simp_all [Value.cells, Value.oneCell']⟩
      | acc a b =>
        obtain ⟨u, us', rfl, a1, a2⟩ := hs1.uncons
        have : us' = [] := List.eq_nil_of_length_eq_zero (by have := a2.len; simpa using this.symm)
        subst this
        exact ⟨u, a1, by have := hone u List.mem_cons_self; cases u <;> simp_all [Value.cells, Value.oneCell']⟩
      | ip a =>
        obtain ⟨u, us', rfl, a1, a2⟩ := hs1.uncons
        have : us' = [] := List.eq_nil_of_length_eq_zero (by have := a2.len; simpa using this.symm)
        subst this
        exact ⟨u, a1, by have := hone u List.mem_cons_self; cases u <;> simp_all [Value.cells, Value.oneCell']⟩
      | ap a b c d e =>
        obtain ⟨u, us', rfl, a1, a2⟩ := hs1.uncons
        have : us' = [] := List.eq_nil_of_length_eq_zero (by have := a2.len; simpa using this.symm)
        subst this
        exact ⟨u, a1, by have := hone u List.mem_cons_self; cases u <;> simp_all [Value.cells, Value.oneCell']⟩
      | mp a =>
        obtain ⟨u, us', rfl, a1, a2⟩ := hs1.uncons
        have : us' = [] := List.eq_nil_of_length_eq_zero (by have := a2.len; simpa using this.symm)
        subst this
        exact ⟨u, a1, by have := hone u List.mem_cons_self; cases u <;> simp_all [Value.cells, Value.oneCell']⟩
      | it a =>
        obtain ⟨u, us', rfl, a1, a2⟩ := hs1.uncons
        have : us' = [] := List.eq_nil_of_length_eq_zero (by have := a2.len; simpa using this.symm)
        subst this
        exact ⟨u, a1, by have := hone u List.mem_cons_self; cases u <;> simp_all [Value.cells, Value.oneCell']⟩
    have hul : (us.take s).length = s := by have := hs1.len; omega
    refine ⟨v :: vs, q1.cons r1, ?_, ?_, ?_⟩
    · intro i u hu
      cases i with
      | zero => simp at hu; subst hu; rw [← Array.length_toList, r2, hul]
      | succ i => exact q2 i u (by simpa using hu)
    · intro u hu x hx
      rcases List.mem_cons.1 hu with rfl | hu
      · rw [r2] at hx; exact h1 x (List.mem_of_mem_take hx)
      · exact q3 u hu x hx
    · show v.cells.toList ++ fl vs = us
      rw [r2, q4, List.take_append_drop]
theorem Rel.closeA {g : Gh} {S : St} {w : World} (h : Rel w0 g S w) {b s c : Nat} {ds ys : List DV} (hb : lk S.box b = some ds) (hs : 0 < s) (he : Els s ys) (hds : ds.take (ys.length * s) = ys.flatMap cd) (hdl : ds.length = c * s) (hc : ys.length ≤ c) (hcm : c ≤ maxLen) (L : List (Nat × Ob)) :
    ∃ m g', g.le g' ∧ (∀ p, p ∈ S.acc → p.1 ≠ m) ∧ (∀ p, p ∈ L → p.1 ≠ m) ∧ Rel w0 g' ⟨S.box.filter (fun p => p.1 != b), (m, .arr s ys) :: S.acc⟩ w ∧ Rep g' (.acc m ys.length) (.slice (some ⟨b, 0, none⟩) ys.length c) := by
  obtain ⟨ow, h⟩ := h.open_
  have hmem := lk_mem hb
  obtain ⟨o1, o2, o3, us, e, hh, hr, hone⟩ := h.box b ds hmem
  obtain ⟨m0, hm0⟩ := h.fresh
  obtain ⟨m, hm1, hm2, hm3⟩ : ∃ m, m0 ≤ m ∧ (∀ p, p ∈ S.acc → p.1 ≠ m) ∧ ∀ p, p ∈ L → p.1 ≠ m := by
    have : ∀ L : List (Nat × Ob), ∃ k, ∀ p, p ∈ L → p.1 < k := by
      intro L
      induction L with
      | nil => exact ⟨0, fun p h => by cases h⟩
      | cons a l ih =>
        obtain ⟨k, hk⟩ := ih
        refine ⟨a.1 + k + 1, fun p hp => ?_⟩
        rcases List.mem_cons.1 hp with rfl | hp
        · omega
        · have := hk p hp; omega
    obtain ⟨k1, q1⟩ := this S.acc
    obtain ⟨k2, q2⟩ := this L
    exact ⟨m0 + k1 + k2, by omega, fun p hp e => by have := q1 p hp; omega, fun p hp e => by have := q2 p hp; omega⟩
  have hle : g.le (g.setAcc m ys.length (.slice (some ⟨b, 0, none⟩) ys.length c)) := Gh.le_setAcc (.inl (hm0 _ _ hm1))
  have hself : (g.setAcc m ys.length (.slice (some ⟨b, 0, none⟩) ys.length c)).acc m ys.length = some (.slice (some ⟨b, 0, none⟩) ys.length c) := by simp [Gh.setAcc]
  have hbf : ∀ p, p ∈ S.box.filter (fun p => p.1 != b) → p ∈ S.box ∧ p.1 ≠ b := fun p hp => by simpa using hp
  refine ⟨m, _, hle, hm2, hm3, RelO.close (ow := fun k => if k = b then some (.a m) else ow k) ⟨h.below.le hle, h.imm, ?_, ?_, ?_, ?_, ?_, ?_, ?_, ?_⟩, .acc _ _ _ _ hself⟩
  · exact List.Sublist.nodup ((List.filter_sublist).map _) h.nb
  · simp only [List.map_cons, List.nodup_cons]
    exact ⟨fun hm => by obtain ⟨p, hp, e⟩ := List.mem_map.1 hm; exact hm2 p hp e, h.na⟩
  · intro l' n' u hu
    simp only [Gh.setAcc] at hu
    split at hu
    · rename_i e'
      obtain ⟨rfl, rfl⟩ := e'
      exact ⟨_, _, (Option.some.inj hu).symm, .inr ⟨b, 0, rfl⟩⟩
    · exact h.accw _ _ _ hu
  · refine ⟨m + 1, fun l' n' hl' => ?_⟩
    simp only [Gh.setAcc]
    rw [if_neg (by omega)]
    exact hm0 _ _ (by omega)
  · intro l' o' hl' k hk
    simp only [Gh.setAcc]
    rcases List.mem_cons.1 hl' with e' | hl'
    · cases e'
      simp only [Ob.len] at hk
      rw [if_neg (by omega)]
      exact hm0 _ _ hm1
    · rw [if_neg (fun e' => hm2 _ hl' e'.1)]
      exact h.top _ _ hl' k hk
  · intro b' ds' hb'
    obtain ⟨h1, h2⟩ := hbf _ hb'
    exact (h.box b' ds' h1).step hle fun ho => ⟨(if_neg h2).trans ho, rfl, fun _ hi => hi⟩
  · intro l' o' hl'
    rcases List.mem_cons.1 hl' with e' | hl'
    · cases e'
      have hR : RepL g (ys.flatMap cd) (us.toList.take (ys.length * s)) := by rw [← hds]; exact hr.take _
      obtain ⟨vs, q1, q2, q3, q4⟩ := regroup hs hR (fun u hu => hone u (List.mem_of_mem_take hu)) he
      refine ⟨hs, .inr ⟨b, c, us, e, hself, if_pos rfl, o2, o3, hh, ?_, hc, hcm, hone, vs, q1.mono hle, q2, q3, fun i u j x a1 a2 => ?_⟩⟩
      · have := hr.len; rw [hdl, Array.length_toList] at this; exact this.symm
      · have hj : j < s := by rw [← q2 i u a1]; exact (Array.getElem?_eq_some_iff.1 a2).1
        have hi : i < ys.length := by rw [q1.len]; exact (List.getElem?_eq_some_iff.1 a1).1
        have := fl_at q2 a1 a2
        rw [q4, List.getElem?_take, if_pos (lt_mul hi hj)] at this
        rw [← Array.getElem?_toList]; exact this
    · refine (h.acc l' o' hl').step hle fun b' ho => ⟨?_, rfl, fun _ hi => hi⟩
      have : b' ≠ b := by rintro rfl; rw [o1] at ho; cases ho
      rw [if_neg this]; exact ho
  · intro b' k hk
    split at hk
    · rename_i e'; subst e'; exact lt_of_heap hh
    · exact h.owb _ _ hk
/-- A function of an own row, walked where that is a box. -/
theorem acall_open {f : FuncId} {args : List DV} {S : St} {l s : Nat} {xs : List DV} {K : List DV → Prop} (hl : lk S.acc l = some (.arr s xs)) (hn : xs ≠ []) (hs : 0 < s) (he : Els s xs)
    (h : ∀ b c, nin S.box b → xs.length ≤ c → c ≤ maxLen → ACall P w0 f (.v (.slice (some ⟨b, 0, none⟩) xs.length c) :: args) ⟨(b, rowD s c xs) :: S.box, del S.acc l⟩ fun d S' => ∃ b' c' ds ys B, K ys ∧ d = .v (.slice (some ⟨b', 0, none⟩) ys.length c') ∧ lk S'.box b' = some ds ∧ S'.acc = del S.acc l ∧
      S'.box = B ∧ S.box.Sublist (B.filter fun p => p.1 != b') ∧ Els s ys ∧ ds.take (ys.length * s) = ys.flatMap cd ∧ ds.length = c' * s ∧ ys.length ≤ c' ∧ c' ≤ maxLen) :
    ACall P w0 f (.acc l xs.length :: args) S fun d S' => ∃ ys, ∃ m : FN S.acc, K ys ∧ d = .acc m.n ys.length ∧ S' = ⟨S.box, ren S.acc l (m.n, .arr s ys)⟩ := by
  intro g vs w h1 h2
  obtain ⟨b, c, hv, hc1, hc2, hbn, hR⟩ := h1.openA hl hn he
  have h2' : RepL g (.v (.slice (some ⟨b, 0, none⟩) xs.length c) :: args) vs.toList := by
    obtain ⟨u, us', e, r1, r2⟩ := h2.uncons
    rw [e]
    refine RepL.cons ?_ r2
    cases r1 with
    | acc _ _ o' c' ha =>
      rw [hv] at ha
      cases ha
      exact .v _ rfl
  refine (h b c hbn hc1 hc2 g vs w hR h2').mono ?_
  rintro e w' ⟨r, g', d, S', rfl, hle, hR', hd, b', c', ds, ys, B, hK, rfl, hb', hacc, rfl, hsub, he', hds, hdl, hc3, hc4⟩
  obtain ⟨m, g2, hle2, hm1, hm2, hR2, hA⟩ := hR'.closeA hb' hs he' hds hdl hc3 hc4 S.acc
  have hrv := rep_v hd
  subst hrv
  refine ⟨_, g2, _, ⟨S.box, ren S.acc l (m, .arr s ys)⟩, rfl, hle.trans hle2, ?_, hA, ys, ⟨m, nin_of hm2⟩, hK, rfl, rfl⟩
  rw [hacc] at hR2
  have hR3 := hR2.forget (S' := ⟨S.box, (m, .arr s ys) :: del S.acc l⟩) hsub (List.Sublist.refl _)
  exact (⟨.refl _, (ren_perm h1.na hl).symm⟩ : Y.StP ⟨S.box, (m, .arr s ys) :: del S.acc l⟩ ⟨S.box, ren S.acc l (m, .arr s ys)⟩).rel hR3
end
end Aml

namespace Go.Proofs.YtfieabidajilmaaGreat
open Aml Go
set_option linter.unusedVariables false
set_option linter.unusedSimpArgs false
set_option maxRecDepth 100000
theorem els_take {s : Nat} {xs : List DV} (h : Els s xs) (n : Nat) : Els s (xs.take n) := fun d hd => h d (List.mem_of_mem_take hd)
theorem els_drop {s : Nat} {xs : List DV} (h : Els s xs) (n : Nat) : Els s (xs.drop n) := fun d hd => h d (List.mem_of_mem_drop hd)
theorem els_app {s : Nat} {xs ys : List DV} (h : Els s xs) (k : Els s ys) : Els s (xs ++ ys) := fun d hd => (List.mem_append.1 hd).elim (h d) (k d)
theorem putL_len {ds cs : List DV} {o : Nat} (h : o + cs.length ≤ ds.length) : (putL ds o cs).length = ds.length := by
  unfold putL
  simp only [List.length_append, List.length_take, List.length_drop]; omega
theorem take_putL {ds cs : List DV} {o : Nat} (h : o + cs.length ≤ ds.length) : (putL ds o cs).take (o + cs.length) = ds.take o ++ cs := by
  unfold putL
  rw [List.take_append_of_le_length (by simp only [List.length_append, List.length_take]; omega)]
  exact List.take_of_length_le (by simp only [List.length_append, List.length_take]; omega)
theorem take_putL_lo {ds cs : List DV} {o k : Nat} (hk : k ≤ o) (h : o + cs.length ≤ ds.length) : (putL ds o cs).take k = ds.take k := by
  unfold putL
  rw [List.take_append_of_le_length (by simp only [List.length_append, List.length_take]; omega), List.take_append_of_le_length (by simp only [List.length_take]; omega), List.take_take, Nat.min_eq_left hk]
end Go.Proofs.YtfieabidajilmaaGreat

namespace Go.Proofs.YtfieabidajilmaaGreat
open Aml Go
set_option linter.unusedVariables false
set_option linter.unusedSimpArgs false
set_option maxRecDepth 100000
end Go.Proofs.YtfieabidajilmaaGreat

namespace Go.Proofs.YtfieabidajilmaaGreat
open Aml Go
set_option linter.unusedVariables false
set_option linter.unusedSimpArgs false
set_option maxRecDepth 100000
def emN : N := .mk 0 true []
theorem em_good : Good 0 emN := ⟨rfl, List.Pairwise.nil, fun c hc => by cases hc⟩
theorem em_root : RootG emN := ⟨0, em_good, by decide, .inl rfl⟩
theorem emP (w0 : W0) (S : St) : ACall Tryz.prog w0 38 [] S (fun e S' => e = eT emN ∧ S' = S) := by
  refine fnS [] mx Tryz.func38 rfl rfl (by kernel_rfl) ?_; (refine @goW _ ?_; refine goS1 @Tryz.ntmps38 ?_)
  intro b
  exact .agg (.cons (.refl _) (.cons (.refl _) (.cons (.nil _ _ _) (.cons (.nil _ _ _) (.cons (.nil _ _ _) .nil)))))
theorem one_key {key : ByteArray} {l : List C} (h : Rise l) (ha : ∀ c, c ∈ l → c.key = key) : l.length ≤ 1 := by
  cases l with
  | nil => simp
  | cons a l =>
    cases l with
    | nil => simp
    | cons b l =>
      have h1 : ltS a.key b.key = true := (List.pairwise_cons.1 h).1 b List.mem_cons_self
      rw [ha a List.mem_cons_self, ha b (List.mem_cons_of_mem _ List.mem_cons_self), ltS_irrefl] at h1
      cases h1
theorem del_empty {key : ByteArray} {n : N} (h : RootG n) (hf : (findN key n).isSome = true) (hl : (Del key n).l = []) : Del key n = emN := by
  have hen := (root_del key h).2
  obtain ⟨d, hg, hs, h2⟩ := h
  cases d with
  | zero =>
    unfold Del at hl ⊢
    rw [if_pos hf] at hl ⊢
    rw [withoutN_leaf key n hg.1] at hl ⊢
    have e1 := topN_else (.mk 0 true (n.l.filter fun c => !eqS c.key key)) (.inl rfl)
    split at e1
    · rw [e1] at hl ⊢
      rw [N.l_mk] at hl
      rw [hl]; rfl
    · rw [e1] at hl
      have hnd : Nd 0 (.mk 0 true (n.l.filter fun c => !eqS c.key key)) := by
        have := nd_without (key := key) (good_nd hg)
        rwa [withoutN_leaf key n hg.1] at this
      have hM : Nd 1 (.mk 0 false [cellN noS (.mk 0 true (n.l.filter fun c => !eqS c.key key))]) := ⟨rfl, List.cons_ne_nil _ _, fun c hc => by
        rw [N.l_mk, List.mem_singleton] at hc; subst hc; exact cell_ok (by rw [noS_size]; omega) hnd⟩
      have := (nd_mend hM (Nat.lt_add_one 0)).2.1
      exact absurd hl this
  | succ d =>
    exfalso
    rw [enN_eq, hl, List.flatMap_nil] at hen
    have hlen : 2 ≤ n.l.length := h2.resolve_left (by rw [hg.1]; simp)
    have hall : ∀ c, c ∈ enN n → c.key = key := fun c hc => by
      have := List.filter_eq_nil_iff.1 hen.symm c hc
      simp at this
      exact eqS_iff.1 this
    have h1 := one_key (good_rise hg) hall
    rw [enN_eq, hg.1] at h1
    match hn : n.l, hlen with
    | a :: b :: r, _ =>
      obtain ⟨x, hx⟩ := cell_ne (hg.2.2.cell a (by rw [hn]; exact List.mem_cons_self))
      obtain ⟨y, hy⟩ := cell_ne (hg.2.2.cell b (by rw [hn]; exact List.mem_cons_of_mem _ List.mem_cons_self))
      rw [hn, List.flatMap_cons, List.flatMap_cons] at h1
      have p1 := List.length_pos_of_mem hx
      have p2 := List.length_pos_of_mem hy
      simp only [List.length_append] at h1
      omega
end Go.Proofs.YtfieabidajilmaaGreat

namespace Aml
open Go Go.RowKit
set_option linter.unusedVariables false
set_option linter.unusedSimpArgs false
/-- Less, equal or more, as a number. -/
def cmpS (a b : ByteArray) : Int := if Op.bytesLess a.data.toList b.data.toList = true then -1 else if Op.bytesLess b.data.toList a.data.toList = true then 1 else 0
theorem cmp_less : ∀ x y : List UInt8, Lib.compareBytes x y = if Op.bytesLess x y = true then -1 else if Op.bytesLess y x = true then 1 else 0
  | [], [] => rfl
  | [], _ :: _ => rfl
  | _ :: _, [] => rfl
  | x :: a, y :: b => by
    unfold Lib.compareBytes Op.bytesLess
    by_cases h1 : x < y
    · simp [h1]
    · by_cases h2 : y < x
      · have : (x == y) = false := by
          rw [beq_eq_false_iff_ne]; rintro rfl; exact h1 h2
        simp [h1, h2, this]
      · have : x = y := by
          have := UInt8.le_antisymm (UInt8.not_lt.1 h2) (UInt8.not_lt.1 h1)
          exact this
        subst this
        simp [h1, cmp_less a b]
section
variable {P : Program} {w0 : W0}
theorem cmpX {f : FuncId} {fn : Func} (hf : P.funcs[f]? = some fn) (hname : (fn.name == "runtime.NumGoroutine") = false) (hb : fn.body.isNone = true) (hn : Extern.findNext fn = none) (he : Extern.find fn = some Extern.BytealgCompare.compare)
    (a b : ByteArray) (S : St) {K : DV → St → Prop} (hk : K (.v (.int .i64 (cmpS a b))) S) : @XC P w0 f [.v (.string a), .v (.string b)] S ⟨K⟩ := by
  intro g w us h r
  obtain ⟨u1, us1, rfl, r1, r⟩ := r.uncons
  obtain ⟨u2, us2, rfl, r2, r⟩ := r.uncons
  have : us2 = [] := List.eq_nil_of_length_eq_zero r.len.symm
  subst this
  cases r1; cases r2
  refine ⟨.int .i64 (cmpS a b), w, g, _, S, ?_, .refl g, h, .v _ rfl, hk⟩
  rw [run_callFunc_extern hf hname hb hn he]
  have := Lib.run_compareString (P := P) a b w
  rw [cmp_less] at this
  unfold cmpS
  rw [show [Value.string a, Value.string b].toArray = #[.string a, .string b] from rfl, this]; rfl
theorem overX {f : FuncId} {fn : Func} (hf : P.funcs[f]? = some fn) (hname : (fn.name == "runtime.NumGoroutine") = false) (hb : fn.body.isNone = true) (hn : Extern.findNext fn = none) {t tb e : TypeId} (he : Extern.find fn = some (Extern.SlicesOverlaps.overlaps #[t, t] #[tb]))
    (ht : P.underlying t = some (.slice e)) {size : Nat} (hz : ∀ w, (Go.sizeOf e).run P w = .ok size w) {s : Nat} (hs : 0 < s) (fl : Bool) (xs : List DV) {b : Nat} {ds : List DV} {S : St} (hbx : lk S.box b = some ds) (o n c : Nat) {K : DV → St → Prop} (hk : K (.v (.bool false)) S) :
    @XC P w0 f [.sl s fl xs, .v (.slice (some ⟨b, o, none⟩) n c)] S ⟨K⟩ := by
  intro g w us h r
  obtain ⟨u1, us1, rfl, r1, r⟩ := r.uncons
  obtain ⟨u2, us2, rfl, r2, r⟩ := r.uncons
  have : us2 = [] := List.eq_nil_of_length_eq_zero r.len.symm
  subst this
  cases r2
  refine ⟨.bool false, w, g, _, S, ?_, .refl g, h, .v _ rfl, hk⟩
  rw [run_callFunc_extern hf hname hb hn he]
  obtain ⟨ow, ho⟩ := h.open_
  obtain ⟨_, _, hnone, cs, te, hcs, _, _⟩ := ho.box b ds (lk_mem hbx)
  suffices hrun : (Extern.SlicesOverlaps.overlaps #[t, t] #[tb] #[u1, .slice (some ⟨b, o, none⟩) n c]).run P w = .ok (.bool false) w by
    rw [show [u1, Value.slice (some ⟨b, o, none⟩) n c].toArray = #[u1, .slice (some ⟨b, o, none⟩) n c] from rfl, hrun]; rfl
  rcases rep_sl r1 with ⟨he, o', c', hv', _⟩ | ⟨b', o', c', us, hv', hr, hfl, hlc, hcm, hzz, hone, hc⟩
  · rw [hv']
    cases o' with
    | none =>
      change Sem.run P (α := Value) (do
        let some t := (#[t, t] : Array TypeId)[0]? | stuck "slices.overlaps: no parameter types"
        let .slice elem ← underlying t | stuck "slices.overlaps: slice type expected"
        let size ← sizeOf elem
        pure (Value.bool false)) w = _
      simp [run_underlying ht, hz]
    | some a =>
      change Sem.run P (α := Value) (do
        let some t := (#[t, t] : Array TypeId)[0]? | stuck "slices.overlaps: no parameter types"
        let .slice elem ← underlying t | stuck "slices.overlaps: slice type expected"
        let size ← sizeOf elem
        match (some a : Option Addr), (some ⟨b, o, none⟩ : Option Addr) with
        | some a, some b =>
          if 0 = 0 ∨ n = 0 ∨ size = 0 then pure (Value.bool false)
          else if a.block != b.block && (← frozen a) && (← frozen b) then unsupported .addressObserved
          else do
            if a.block != b.block then do
              noView a; noView b
              if ← mayBeOne a b then return Value.bool ((← choose (.extern "sameAddr.stringBytes" 2)) == 1)
            pure (Value.bool (a.block == b.block && a.off < b.off + n * size && b.off < a.off + 0 * size))
        | _, _ => pure (Value.bool false)) w = _
      simp [run_underlying ht, hz]
  · rw [hv']
    change Sem.run P (α := Value) (do
      let some t := (#[t, t] : Array TypeId)[0]? | stuck "slices.overlaps: no parameter types"
      let .slice elem ← underlying t | stuck "slices.overlaps: slice type expected"
      let size ← sizeOf elem
      match (some ⟨b', o', none⟩ : Option Addr), (some ⟨b, o, none⟩ : Option Addr) with
      | some a, some b =>
        if xs.length = 0 ∨ n = 0 ∨ size = 0 then pure (Value.bool false)
        else if a.block != b.block && (← frozen a) && (← frozen b) then unsupported .addressObserved
        else do
          if a.block != b.block then do
            noView a; noView b
            if ← mayBeOne a b then return Value.bool ((← choose (.extern "sameAddr.stringBytes" 2)) == 1)
          pure (Value.bool (a.block == b.block && a.off < b.off + n * size && b.off < a.off + xs.length * size))
      | _, _ => pure (Value.bool false)) w = _
    by_cases h0 : xs.length = 0 ∨ n = 0 ∨ size = 0
    · rcases h0 with h0 | h0 | h0
      · have h0 := List.eq_nil_of_length_eq_zero h0
        simp [run_underlying ht, hz, h0]
      · simp [run_underlying ht, hz, h0]
      · simp [run_underlying ht, hz, h0]
    · have hu : 0 < us.length := by have := hr.len; omega
      have h1 : ¬ xs = [] := fun e => h0 (.inl (by rw [e]; rfl))
      have h2 : ¬ n = 0 := fun e => h0 (.inr (.inl e))
      have h3 : ¬ size = 0 := fun e => h0 (.inr (.inr e))
      have hsz := hzz 0 us[0] (List.getElem?_eq_getElem hu)
      have himm := hc 0 us[0] 0 (us[0].cells[0]'(by omega)) (List.getElem?_eq_getElem hu) (Array.getElem?_eq_getElem (by omega))
      have hne : b' ≠ b := by rintro rfl; rw [hnone] at himm; cases himm
      have hcell := ho.imm _ _ _ himm
      have hbl : w.heap[b]? = some (.cells cs te (0, 0)) := hcs
      have hfb : ∀ i, w.frozen? ⟨b, i, none⟩ = false := fun i => by simp [World.frozen?, hbl]
      have hsb : w.shape? b = some (te, cs.size) := by simp [World.shape?, hbl]
      obtain ⟨ta, ka, hsa⟩ : ∃ ta ka, w.shape? b' = some (ta, ka + 1) := by
        unfold World.cell? at hcell
        unfold World.shape?
        split at hcell
        · rename_i cc tt ff e1
          simp only [Option.isSome_none, Bool.false_eq_true, if_false] at hcell
          have : 0 < cc.size := by
            have := (Array.getElem?_eq_some_iff.1 hcell).1
            omega
          simp only at e1
          rw [e1]
          exact ⟨tt, cc.size - 1, by simp only [Option.some.injEq, Prod.mk.injEq, true_and]; omega⟩
        · cases hcell
      have hnb : (b' != b) = true := by simpa using hne
      have hnb' : (b' == b) = false := by simpa using hne
      have hfb1 := hfb o
      have hfb2 := hfb cs.size
      cases hfa : w.frozen? ⟨b', o', none⟩ <;> cases hfe : w.frozen? ⟨b', ka + 1, none⟩ <;>
        simp [run_underlying ht, hz, h1, h2, h3, hne, hnb, hnb', frozen, noView, viewAt, mayBeOne, stringish, shape, Sem.run, hsa, hsb, hfa, hfe, hfb1, hfb2]
end
end Aml

namespace Go.Proofs.YtfieabidajilmaaGreat
open Aml Go
set_option linter.unusedVariables false
set_option linter.unusedSimpArgs false
set_option maxRecDepth 100000
/-- A named tree, as the program has it. -/
@[go_sem] def dBk (c : C) : DV := .agg [dS c.key, dI (kid0 c).page, dB (kid0 c).leaf, .sl 1 false ((kid0 c).l.map fun c => dS c.key), .sl 2 false ((if (kid0 c).leaf then (kid0 c).l else []).map dV2), .sl 5 false ((kidsOf (kid0 c)).map dT)]
/-- A view, as the program has it. -/
@[go_sem] def eV (n : N) (l : List C) : DV := .agg [dI n.page, dB n.leaf, .sl 1 false (n.l.map fun c => dS c.key), .sl 2 false ((if n.leaf then n.l else []).map dV2), .sl 5 false ((kidsOf n).map dT), .sl 6 false (l.map dBk)]
theorem cmpS_lt (a b : ByteArray) : cmpS a b < 0 ↔ ltS a b = true := by
  show (if ltS a b = true then (-1 : Int) else if ltS b a = true then 1 else 0) < 0 ↔ _
  split
  · rename_i h; simp [h]
  · rename_i h
    constructor
    · intro k; split at k <;> omega
    · intro k; exact absurd k h
theorem cmpS_eq (a b : ByteArray) : cmpS a b = 0 ↔ eqS a b = true := by
  show (if ltS a b = true then (-1 : Int) else if ltS b a = true then 1 else 0) = 0 ↔ _
  split
  · rename_i h
    rw [eqS_no.2 (ltS_ne h)]; simp
  · rename_i h
    split
    · rename_i k
      rw [eqS_no.2 (ltS_ne k).symm]; simp
    · rename_i k
      rcases ltS_tri a b with q | rfl | q
      · exact absurd q h
      · simp [eqS_self]
      · exact absurd q k
theorem cmpW (w0 : W0) (a b : ByteArray) (S : St) : ACall Tryz.prog w0 80 [dS a, dS b] S (fun d S' => d = dI (cmpS a b) ∧ S' = S) := by
  refine fnS [] mx Tryz.func80 rfl rfl (by kernel_rfl) ?_; (refine @goW _ ?_; refine goS1 @Tryz.ntmps80 ?_)
  refine use1 (r := dI (cmpS a b)) ?_ ?_
  · refine fnS [] mx Tryz.func115 rfl rfl (by kernel_rfl) ?_; (refine @goW _ ?_; refine goS1 @Tryz.ntmps115 ?_)
    refine cmpX Tryz.func140 (by kernel_rfl) rfl (by kernel_rfl) (by kernel_rfl) _ _ _ ?_
    (refine @goW _ ?_; exact goT)
  · (refine @goW _ ?_; exact goT)
theorem cmpB (w0 : W0) (c : C) (key : ByteArray) (S : St) : ACall Tryz.prog w0 79 [dBk c, dS key] S (fun d S' => d = dI (cmpS c.key key) ∧ S' = S) := by
  refine fnS [] mx Tryz.func79 rfl rfl (by kernel_rfl) ?_; (refine @goW _ ?_; refine goS1 @Tryz.ntmps79 ?_)
  intro b
  refine use1 (cmpW w0 _ _ _) ?_
  (refine @goW _ ?_; exact goT)
set_option maxHeartbeats 4000000 in
theorem searchB (w0 : W0) (l : List C) (key : ByteArray) (S : St) (hr : Rise l) (hb : l.length ≤ 1073741824) :
    ACall Tryz.prog w0 78 [.sl 6 false (l.map dBk), dS key, .v (.func (.func 79) #[] #[])] S (fun d S' => d = .tup [dI (idxN l key), dB (hasN l key)] ∧ S' = S) := by
  have hl := rise_mono hr key
  refine fnS [] mx Tryz.func78 rfl rfl (by kernel_rfl) ?_; (refine @goW _ ?_; refine goS1 @Tryz.ntmps78 ?_)
  refine loopK [] [0, 1, 2, 8, 9, 10] (fun s : Nat × Nat => [(9, dI s.1), (10, dI s.2)]) (fun _ => S) (fun s => s.1 ≤ s.2 ∧ s.2 ≤ l.length ∧ (∀ (i : Nat) a, i < s.1 → l[i]? = some a → ltS a.key key = true) ∧ ∀ (i : Nat) a, s.2 ≤ i → l[i]? = some a → ltS a.key key = false) (fun s => s.2 - s.1) (0, l.length) mx (by kernel_rfl) ?_ ?_
  · (refine @goW _ ?_; refine goS ?_)
    exact ⟨Nat.zero_le _, fun i a h => absurd h (by omega), fun i a h e => absurd (List.getElem?_eq_some_iff.1 e).1 (by omega)⟩
  · rintro ⟨i, j⟩ ⟨h1, h2, h3, h4⟩
    simp only at h1 h2 h3 h4
    have eh : IntKind.i64.wrap ((IntKind.u64.wrap (IntKind.i64.wrap ((i : Int) + j))).fdiv (2 ^ min 1 64)) = (((i + j) / 2 : Nat) : Int) := by
      rw [w64 (n := (i : Int) + j) (by omega) (by omega), wu64 (by omega) (by omega), Int.fdiv_eq_ediv_of_nonneg _ (by decide)]
      simp only [show min 1 64 = 1 from rfl, Int.pow_one]
      rw [w64 (by omega) (by omega)]
      omega
    (refine @goW _ ?_; refine goS1 @eh ?_)
    refine ⟨fun hlt => ⟨by omega, fun a ha => use1 (cmpB w0 a key S) ?_⟩, fun hge => ?_⟩
    · (refine @goW _ ?_; refine goS2 @eh @cmpS_lt ?_)
      refine ⟨fun hap => ⟨((i + j) / 2 + 1, j), ⟨by simp only; omega, h2, fun x c hx hc => ?_, h4⟩, by simp only; omega, by rw [w64 (by omega) (by omega)]; rfl, rfl⟩, fun hap => ⟨(i, (i + j) / 2), ⟨by simp only; omega, by simp only; omega, h3, fun x c hx hc => ?_⟩, by simp only; omega, rfl, rfl⟩⟩
      · simp only at hx
        exact hl x ((i + j) / 2) c a (by omega) hc ha hap
      · simp only at hx
        refine Bool.eq_false_iff.2 fun hc' => ?_
        have := hl ((i + j) / 2) x a c hx ha hc hc'
        simp only [this] at hap; simp at hap
    · have hij : i = j := by omega
      subst hij
      have hi : idxN l key = i := takeW_len h2 h3 fun c hc => h4 i c (Nat.le_refl _) hc
      refine ⟨fun hlt => ⟨hlt, fun a ha => use1 (cmpB w0 a key S) ?_⟩, fun hn => Wk.tup (.cons (.eq ?_) (.cons (.eq ?_) .nil))⟩
      · (refine @goW _ ?_; refine goS ?_)
        have e : decide (cmpS a.key key = 0) = eqS a.key key := by rw [Bool.eq_iff_iff, decide_eq_true_iff, cmpS_eq]
        unfold hasN; rw [hi, ha, e]
        exact Wk.tup (.cons (.refl _) (.cons (.refl _) .nil))
      · rw [hi]
      · unfold hasN; rw [hi, List.getElem?_eq_none (by omega)]
theorem findV (w0 : W0) (n : N) (l : List C) (key : ByteArray) (S : St) (hr : Rise l) (hb : l.length ≤ 1073741824) :
    ACall Tryz.prog w0 40 [eV n l, dS key] S (fun d S' => d = .tup [dI (idxN l key), dB (hasN l key)] ∧ S' = S) := by
  refine fnS [] mx Tryz.func40 rfl rfl (by kernel_rfl) ?_; (refine @goW _ ?_; refine goS1 @Tryz.ntmps40 ?_)
  intro b
  refine use1 (searchB w0 l key _ hr hb) ?_
  (refine @goW _ ?_; exact goT)
/-- May it be a key? -/
def okKey (k : ByteArray) : Bool := decide (0 < k.size) && decide (k.size ≤ 16)
theorem keyV (w0 : W0) (k : ByteArray) (S : St) : ACall Tryz.prog w0 41 [dS k] S (fun d S' => d = dB (okKey k) ∧ S' = S) := by
  refine fnS [] mx Tryz.func41 rfl rfl (by kernel_rfl) ?_; (refine @goW _ ?_; refine goS1 @Tryz.ntmps41 ?_)
  have e : eqS k { data := #[] } = !decide (0 < k.size) := by
    have h1 : eqS k { data := #[] } = decide (k.data.toList = []) := rfl
    have h2 : k.size = k.data.toList.length := rfl
    rw [h1, h2]
    cases k.data.toList <;> simp
  rw [e]
  unfold okKey
  refine ⟨fun h => ?_, fun h => ?_⟩
  · rw [Bool.not_eq_false'] at h
    rw [h, Bool.true_and, Bool.eq_iff_iff, decide_eq_true_iff, decide_eq_true_iff]; omega
  · rw [Bool.not_eq_true'] at h
    rw [h]; rfl
theorem emptyV (w0 : W0) (S : St) : ACall Tryz.prog w0 9 [] S (fun d S' => d = eV emN [] ∧ S' = S) := by
  refine fnS [] mx Tryz.func9 rfl rfl (by kernel_rfl) ?_; (refine @goW _ ?_; refine goS1 @Tryz.ntmps9 ?_)
  intro b
  refine use1 (emP w0 _) ?_
  (refine @goW _ ?_; exact goT)
theorem cloneB (w0 : W0) (l : List DV) (S : St) (h0 : l.length ≤ 1048576) : ACall Tryz.prog w0 43 [dR 6 l] S fun d S' => ∃ b : FN S.acc, d = .acc b.n l.length ∧ S' = ⟨S.box, (b.n, .arr 6 l) :: S.acc⟩ := by
  refine nilK 6 (by omega) ?_
  refine fnO [] mx Tryz.func43 rfl rfl (by kernel_rfl) ?_; (refine @goW _ ?_; refine goS1 @Tryz.ntmps43 ?_)
  intro b hb
  refine ⟨fun h1 => .inl ⟨Classical.byContradiction fun hn => ?_, 0, rfl⟩, fun h1 => ⟨by omega, by unfold maxLen; omega, fun c => .inr ⟨c, rfl, rfl⟩⟩⟩
  rw [hb hn] at h1; cases h1
set_option maxHeartbeats 1000000 in
theorem numV (w0 : W0) (S : St) : ACall Tryz.prog w0 85 [.v (.int .u64 0), dI 2] S (fun d S' => ∃ l : FN S.acc, d = .acc l.n 2 ∧ S' = ⟨S.box, (l.n, .arr 1 [.v (.int .u8 0), .v (.int .u8 0)]) :: S.acc⟩) := by
  refine fnO [] mx Tryz.func85 rfl rfl (by kernel_rfl) ?_; (refine @goW _ ?_; refine goS1 @Tryz.ntmps85 ?_)
  refine ⟨fun h => absurd h (by omega), fun _ => ⟨by omega, fun b => ?_⟩⟩
  refine loopN [] 2 [0, 1, 5, 16, 17] (fun k => [(17, dI k)]) (fun _ => ⟨S.box, (b.n, .arr 1 [.v (.int .u8 0), .v (.int .u8 0)]) :: S.acc⟩) (fun _ => True) mx (by kernel_rfl) ?_ ?_
  · (refine @goW _ ?_; exact goT)
  · intro k hk _
    (refine @goW _ ?_; refine goS ?_)
    refine ⟨fun hlt => ?_, fun _ => ⟨b, rfl, rfl⟩⟩
    have : k = 0 ∨ k = 1 := by omega
    rcases this with rfl | rfl
    · exact ⟨by decide, by decide, by decide, _, rfl, rfl, by omega, by decide, Aml.Sub.refl _⟩
    · exact ⟨by decide, by decide, by decide, _, rfl, rfl, by omega, by decide, Aml.Sub.refl _⟩
theorem nowhereV (w0 : W0) (S : St) : ACall Tryz.prog w0 45 [] S (fun d S' => d = dS ⟨#[0, 0]⟩ ∧ S' = S) := by
  refine fnS [] mx Tryz.func45 rfl rfl (by kernel_rfl) ?_; (refine @goW _ ?_; refine goS1 @Tryz.ntmps45 ?_)
  refine useK (numV w0 S) ?_
  rintro d S' ⟨l, rfl, rfl⟩
  (refine @goW _ ?_; refine goS ?_)
  exact ⟨by decide, by decide⟩
end Go.Proofs.YtfieabidajilmaaGreat

namespace Go.Proofs.YtfieabidajilmaaGreat
open Aml Go
set_option linter.unusedVariables false
set_option linter.unusedSimpArgs false
set_option maxRecDepth 100000
theorem drop_putL {ds cs : List DV} {o : Nat} (h : o + cs.length ≤ ds.length) : (putL ds o cs).drop o = cs ++ ds.drop (o + cs.length) := by
  unfold putL
  rw [List.append_assoc, List.drop_append_of_le_length (by simp only [List.length_take]; omega), List.drop_eq_nil_of_le (by simp only [List.length_take]; omega), List.nil_append]
theorem put_up {L X Y : List DV} {p q r : Nat} (hX : p + X.length = q) (hY : q + Y.length = r) (hr : r ≤ L.length) : (putL (putL L p X) q Y).take r = L.take p ++ X ++ Y ∧ (putL (putL L p X) q Y).length = L.length := by
  have l1 := putL_len (ds := L) (cs := X) (o := p) (by omega)
  refine ⟨?_, (putL_len (by omega)).trans l1⟩
  rw [← hY, take_putL (by omega), ← hX, take_putL (by omega)]
theorem put_dn {L X Y : List DV} {p q r : Nat} (hX : p + X.length = q) (hY : q + Y.length = r) (hr : r ≤ L.length) : (putL (putL L q Y) p X).take r = L.take p ++ X ++ Y ∧ (putL (putL L q Y) p X).length = L.length := by
  have l1 := putL_len (ds := L) (cs := Y) (o := q) (by omega)
  refine ⟨?_, (putL_len (by omega)).trans l1⟩
  have e : putL (putL L q Y) p X = L.take p ++ X ++ (Y ++ L.drop r) := by
    have h1 := drop_putL (ds := L) (cs := Y) (o := q) (by omega)
    have h2 := take_putL_lo (ds := L) (cs := Y) (o := q) (k := p) (by omega) (by omega)
    rw [hY] at h1
    show (putL L q Y).take p ++ X ++ (putL L q Y).drop (p + X.length) = _
    rw [hX, h1, h2]
  rw [e, ← List.append_assoc]
  have hl : (L.take p ++ X ++ Y).length = r := by simp only [List.length_append, List.length_take]; omega
  rw [← hl, List.take_left]
/-- An own row's cells, cut. -/
theorem rowD_take {s c i : Nat} {xs : List DV} (he : Els s xs) (hi : i ≤ xs.length) : (rowD s c xs).take (i * s) = (xs.take i).flatMap cd := by
  have e : xs.flatMap cd = (xs.take i).flatMap cd ++ (xs.drop i).flatMap cd := by rw [← List.flatMap_append, List.take_append_drop]
  have l1 : ((xs.take i).flatMap cd).length = i * s := by rw [els_len (els_take he _), List.length_take]; congr 1; omega
  unfold rowD
  rw [e, List.append_assoc, List.take_append_of_le_length (by omega), List.take_of_length_le (by omega)]
theorem rowD_mid {s c i : Nat} {xs : List DV} (he : Els s xs) (hi : i ≤ xs.length) : ((rowD s c xs).drop (i * s)).take ((xs.length - i) * s) = (xs.drop i).flatMap cd := by
  have e : xs.flatMap cd = (xs.take i).flatMap cd ++ (xs.drop i).flatMap cd := by rw [← List.flatMap_append, List.take_append_drop]
  have l1 : ((xs.take i).flatMap cd).length = i * s := by rw [els_len (els_take he _), List.length_take]; congr 1; omega
  have l2 : ((xs.drop i).flatMap cd).length = (xs.length - i) * s := by rw [els_len (els_drop he _), List.length_drop]
  unfold rowD
  rw [e, List.append_assoc, List.drop_append, l1, List.drop_eq_nil_of_le (by omega), List.nil_append, Nat.sub_self, List.drop_zero, List.take_append_of_le_length (by omega), List.take_of_length_le (by omega)]
set_option maxHeartbeats 8000000 in
theorem insB1 (w0 : W0) (S : St) (l : Nat) (xs : List DV) (i : Nat) (x : DV) (hl : lk S.acc l = some (.arr 6 xs)) (he : Els 6 xs) (hn : xs ≠ []) (hi : i ≤ xs.length) (hx : okE x = true) (hx6 : (cd x).length = 6) (hb : xs.length ≤ 524288) :
    ACall Tryz.prog w0 42 [.acc l xs.length, dI i, .sl 6 false [x]] S fun d S' => ∃ m : FN S.acc, d = .acc m.n (xs.length + 1) ∧ S' = ⟨S.box, ren S.acc l (m.n, .arr 6 (xs.take i ++ [x] ++ xs.drop i))⟩ := by
  have hyl : (xs.take i ++ [x] ++ xs.drop i).length = xs.length + 1 := by simp only [List.length_append, List.length_take, List.length_drop, List.length_singleton]; omega
  refine (acall_open (P := Tryz.prog) (w0 := w0) (K := fun ys => ys = xs.take i ++ [x] ++ xs.drop i) hl hn (by omega) he fun b c hbn hc1 hc2 => ?_).mono ?_
  · have hrow := rowD_len he hc1
    have htk := fun k h => rowD_take (s := 6) (c := c) (i := k) he h
    have hmd := rowD_mid (s := 6) (c := c) he hi
    generalize rowD 6 c xs = ds at *
    have e1 : IntKind.i64.wrap ((xs.length : Int) + 1) = ((xs.length + 1 : Nat) : Int) := by rw [w64 (by omega) (by omega)]; rfl
    have e2 : IntKind.i64.wrap (((xs.length + 1 : Nat) : Int) - i) = ((xs.length + 1 - i : Nat) : Int) := by rw [w64 (by omega) (by omega)]; omega
    have e3 : IntKind.i64.wrap ((i : Int) + 1) = ((i + 1 : Nat) : Int) := by rw [w64 (by omega) (by omega)]; rfl
    refine fnO [] mx Tryz.func42 rfl rfl (by kernel_rfl) ?_; simp (maxDischargeDepth := 12) (maxSteps := 1000000) -implicitDefEqProofs only [Tryz.ntmps42, go_sem, Nat.reduceAdd, Nat.reduceSub, Nat.reduceMul, Nat.reduceLeDiff, Nat.reduceEqDiff, Nat.reduceGT, Nat.reduceBEq, reduceCtorEq, ↓reduceIte, Int.reduceToNat, Int.reduceLE, Int.reduceLT, Int.reduceNe, Int.reduceEq, e1, e2, e3, Nat.sub_zero, ite_self, Int.toNat_natCast, List.drop_zero]
    have hels : Els 6 (xs.take i ++ [x] ++ xs.drop i) := els_app (els_app (els_take he _) fun d hd => by rw [List.mem_singleton] at hd; subst hd; exact ⟨hx, hx6⟩) (els_drop he _)
    have hcat : (xs.take i ++ [x] ++ xs.drop i).flatMap cd = ds.take (i * 6) ++ cd x ++ (xs.drop i).flatMap cd := by
      rw [htk i hi, List.flatMap_append, List.flatMap_append, List.flatMap_cons, List.flatMap_nil, List.append_nil]
    have hmdl : ((xs.drop i).flatMap cd).length = (xs.length - i) * 6 := by rw [els_len (els_drop he _), List.length_drop]
    have hxc : [x].flatMap cd = cd x := by simp
    have hok : ∀ d, d ∈ [x] → okE d = true := fun d hd => by rw [List.mem_singleton] at hd; subst hd; exact hx
    generalize hys : xs.take i ++ [x] ++ xs.drop i = ys at *
    have hf1 : ∀ Z : List DV, S.box.Sublist (((b, Z) :: S.box).filter fun p => p.1 != b) := fun Z => by
      rw [List.filter_cons_of_neg (by simp)]
      rw [List.filter_eq_self.2 fun p hp => by simpa using Y.nin_all hbn p hp]
      exact List.Sublist.refl _
    have hf2 : ∀ (b1 : FN ((b, ds) :: S.box)) (Z : List DV), S.box.Sublist (((b1.n, Z) :: (b, ds) :: S.box).filter fun p => p.1 != b1.n) := fun b1 Z => by
      have h1 : ∀ p, p ∈ (b, ds) :: S.box → p.1 ≠ b1.n := Y.nin_all b1.h
      rw [List.filter_cons_of_neg (by simp)]
      rw [List.filter_eq_self.2 fun p hp => by simpa using h1 p hp]
      exact List.sublist_cons_self _ _
    have hcd := hx6
    rw [hxc]
    generalize cd x = X at *
    generalize (xs.drop i).flatMap cd = Y at *
    have hzl := zeroL_len (z := .agg [.v (.string ByteArray.empty), .v (.int .i64 0), .v (.bool false), .sl 0 true [], .sl 0 true [], .sl 0 true []]) (s := 6) rfl (xs.length + 1 - i)
    generalize zeroL (.agg [.v (.string ByteArray.empty), .v (.int .i64 0), .v (.bool false), .sl 0 true [], .sl 0 true [], .sl 0 true []]) (xs.length + 1 - i) = Z at *
    refine ⟨hi, hc1, fun hin => ⟨by omega, hc1, hok, fun h1 => ?_, fun h1 => ⟨by omega, by unfold maxLen at *; omega, fun C h2 h3 b1 => ?_⟩⟩, fun hin => ⟨fun h1 => ?_, fun h1 => ?_⟩⟩
    · refine ⟨b, c, putL ds (xs.length * 6) X, ys, _, rfl, by rw [hyl], by simp only [lk, if_true], rfl, hf1 _, hels, ?_, (putL_len (by omega)).trans hrow, by omega, hc2⟩
      have h2 := take_putL (ds := ds) (cs := X) (o := xs.length * 6) (by omega)
      have hY : Y = [] := List.eq_nil_of_length_eq_zero (by omega)
      rw [hyl, hcat, hin, hY, show (xs.length + 1) * 6 = xs.length * 6 + X.length by omega, h2]; simp
    · have hY : Y = [] := List.eq_nil_of_length_eq_zero (by omega)
      refine ⟨b1.n, C, _, ys, _, rfl, by rw [hyl], by simp only [lk, if_true]; rfl, rfl, hf2 b1 _, hels, ?_, ?_, by omega, h3⟩
      · rw [hyl, hcat, hin, hY, List.append_nil]
        rw [List.take_append_of_le_length (by simp only [List.length_append, List.length_take]; omega)]
        exact List.take_of_length_le (by simp only [List.length_append, List.length_take]; omega)
      · simp only [List.length_append, List.length_take, List.length_replicate]; omega
    · have e4 : i + (xs.length + 1 - i) = xs.length + 1 := by omega
      rw [e4]
      refine ⟨by omega, by omega, by omega, by omega, by omega, by omega, by unfold maxLen at *; omega, fun C h2 h3 b1 => ?_⟩
      have e5 : ¬ C = i := by omega
      have e6 : ¬ C = i + 1 := by omega
      have e7 : ¬ c = i := by omega
      have e8 : min (xs.length - i) (xs.length + 1 - (i + 1)) = xs.length - i := by omega
      simp only [e5, e6, e7, e8, if_false, hmd]
      have hL : (ds.take (i * 6) ++ Z ++ List.replicate ((C - (xs.length + 1)) * 6) DV.any).length = C * 6 := by
        simp only [List.length_append, List.length_take, List.length_replicate]; omega
      have hLt : (ds.take (i * 6) ++ Z ++ List.replicate ((C - (xs.length + 1)) * 6) DV.any).take (i * 6) = ds.take (i * 6) := by
        rw [List.append_assoc, List.take_append_of_le_length (by simp only [List.length_take]; omega), List.take_take, Nat.min_self]
      generalize ds.take (i * 6) ++ Z ++ List.replicate ((C - (xs.length + 1)) * 6) DV.any = L at *
      have hp := put_up (L := L) (X := X) (Y := Y) (p := i * 6) (q := (i + 1) * 6) (r := (xs.length + 1) * 6) (by omega) (by omega) (by omega)
      refine ⟨by omega, by omega, by simp only [List.length_replicate]; omega, hok, by omega, by omega, by omega, hi, hc1, ?_, by omega, b1.n, C, _, ys, _, rfl, by rw [hyl], by simp only [lk, if_true]; rfl, rfl, hf2 b1 _, hels, ?_, ?_, by omega, h3⟩
      · rw [putL_len (by omega)]; omega
      · rw [hyl, hp.1, hLt, hcat]
      · rw [hp.2, hL]
    · refine ⟨by omega, hi, by omega, ?_⟩
      refine overX (t := Tryz.f81.params.getD 0 0) (tb := Tryz.f81.resultTypes.getD 0 0) (e := elT Tryz.prog (Tryz.f81.params.getD 0 0)) Tryz.func81 (by kernel_rfl) rfl (by kernel_rfl) (by kernel_rfl) (by kernel_rfl) (size := 6) (fun w => rfl) (by omega) false [x] (ds := ds) (by simp only [lk, if_true]) _ _ _ ?_
      simp (maxDischargeDepth := 12) (maxSteps := 1000000) -implicitDefEqProofs only [go_sem, Nat.reduceAdd, Nat.reduceSub, Nat.reduceMul, Nat.reduceLeDiff, Nat.reduceEqDiff, Nat.reduceGT, Nat.reduceBEq, reduceCtorEq, ↓reduceIte, Int.reduceToNat, Int.reduceLE, Int.reduceLT, Int.reduceNe, Int.reduceEq, e1, e2, e3, Nat.sub_zero, ite_self, Int.toNat_natCast, List.drop_zero]
      have e5 : ¬ c = i + 1 := by omega
      have e7 : ¬ c = i := by omega
      have e8 : min (xs.length + 1 - i) (xs.length + 1 - (i + 1)) = xs.length - i := by omega
      simp only [e5, e7, e8, if_false, hmd, hxc]
      have hp := put_dn (L := ds) (X := X) (Y := Y) (p := i * 6) (q := (i + 1) * 6) (r := (xs.length + 1) * 6) (by omega) (by omega) (by omega)
      refine ⟨hi, by omega, by omega, by omega, by omega, by omega, by omega, by omega, ?_, hok, by omega, b, c, putL (putL ds ((i + 1) * 6) Y) (i * 6) X, ys, _, rfl, by rw [hyl], by simp only [lk, if_true], rfl, hf1 _, hels, ?_, ?_, by omega, hc2⟩
      · rw [putL_len (by omega)]; omega
      · rw [hyl, hp.1, hcat]
      · rw [hp.2, hrow]
  · rintro d S' ⟨ys, m, rfl, rfl, rfl⟩
    exact ⟨m, by rw [hyl], rfl⟩
theorem insB0 (w0 : W0) (S : St) (l : Nat) (x : DV) (hl : lk S.acc l = some (.arr 6 [])) (hx : okE x = true) (hx6 : (cd x).length = 6) :
    ACall Tryz.prog w0 42 [.acc l 0, dI 0, .sl 6 false [x]] S fun d S' => d = .acc l 1 ∧ S' = ⟨S.box, up S.acc l (.tl 6 [x])⟩ := by
  refine fnO [] mx Tryz.func42 rfl rfl (by kernel_rfl) ?_; (refine @goW _ ?_; refine goS2 @Tryz.ntmps42 @hl ?_)
  unfold maxLen; omega
end Go.Proofs.YtfieabidajilmaaGreat

namespace Go.Proofs.YtfieabidajilmaaGreat
open Aml Go
set_option linter.unusedVariables false
set_option linter.unusedSimpArgs false
set_option maxRecDepth 100000
theorem nd_inj : ∀ {d e : Nat} {n : N}, Nd d n → Nd e n → d = e
  | 0, 0, _, _, _ => rfl
  | 0, e + 1, n, h, k => by have := h.1; rw [k.1] at this; cases this
  | d + 1, 0, n, h, k => by have := h.1; rw [k.1] at this; cases this
  | d + 1, e + 1, n, h, k => by
    obtain ⟨c, hc⟩ := List.exists_mem_of_ne_nil _ h.2.1
    obtain ⟨_, x, hx, h1⟩ := h.2.2 c hc
    obtain ⟨_, y, hy, h2⟩ := k.2.2 c hc
    rw [hx] at hy; cases hy
    rw [nd_inj h1 h2]
/-- A tree that may be, behind so many steps. -/
def TB (k : Nat) (n : N) : Prop := RootG n ∧ ∃ d, Good d n ∧ d ≤ k ∧ totN n ≤ 120 * k
theorem tb_mono {k m : Nat} {n : N} (h : TB k n) (hm : k ≤ m) : TB m n := let ⟨h1, d, h2, h3, h4⟩ := h; ⟨h1, d, h2, by omega, by omega⟩
theorem tb_put {k : Nat} {n : N} {key val : ByteArray} (h : TB k n) (hk : k ≤ 116) (h0 : key ≠ noS) (h1 : key.size ≤ 16) (h2 : val.size ≤ 400) : TB (k + 1) (Put key val n) := by
  obtain ⟨hr, d, hg, hd, ht⟩ := h
  have hr' := (root_put (val := val) h0 h1 h2 hr).1
  obtain ⟨d', hg', q⟩ := hr'
  obtain ⟨e, he, hn, hT⟩ := nd_Put h1 h2 (good_nd hg)
  have := nd_inj (good_nd hg') hn
  exact ⟨⟨d', hg', q⟩, d', hg', by omega, by omega⟩
theorem tb_del {k : Nat} {n : N} {key : ByteArray} (h : TB k n) (hk : k ≤ 116) : TB (k + 1) (Del key n) := by
  obtain ⟨hr, d, hg, hd, ht⟩ := h
  have hr' := (root_del key hr).1
  obtain ⟨d', hg', q⟩ := hr'
  obtain ⟨e, he, hn, hT⟩ := nd_Del (key := key) (good_nd hg)
  have := nd_inj (good_nd hg') hn
  exact ⟨⟨d', hg', q⟩, d', hg', by omega, by omega⟩
theorem tb_em (k : Nat) : TB k emN := ⟨em_root, 0, em_good, by omega, by show 0 ≤ _; omega⟩
theorem tbPut (w0 : W0) {k : Nat} {n : N} {key val : ByteArray} (h : TB k n) (hk : k ≤ 116) (h1 : key.size ≤ 16) (h2 : val.size ≤ 400) (S : St) : ACall Tryz.prog w0 44 [eT n, dS key, dS val] S (fun e S' => e = eT (Put key val n) ∧ S' = S) := by
  obtain ⟨hr, d, hg, hd, ht⟩ := h
  exact PutP w0 key val h1 h2 d n S hg (by omega)
/-- Nowhere yet: a tree's root. -/
def nwS : ByteArray := ⟨#[0, 0]⟩
/-- A view behind so many steps. -/
structure VI (k : Nat) (n : N) (l : List C) : Prop where
  dir : TB k n
  rise : Rise l
  cell : ∀ c, c ∈ l → c = cellN c.key (kid0 c) ∧ TB k (kid0 c) ∧ okKey c.key = true
  len : l.length ≤ k
  en : enN n = l.map fun c => .mk c.key nwS [] []
theorem vi_em (k : Nat) : VI k emN [] := ⟨tb_em k, List.Pairwise.nil, fun c hc => absurd hc List.not_mem_nil, Nat.zero_le _, rfl⟩
/-- A tree made. -/
def mkV (name : ByteArray) (n : N) (l : List C) : (N × List C) × Int :=
  if okKey name then (if hasN l name then ((n, l), 38) else ((Put name nwS n, l.take (idxN l name) ++ [cellN name emN] ++ l.drop (idxN l name)), 0)) else ((n, l), 34)
theorem okKey_ne {k : ByteArray} (h : okKey k = true) : k ≠ noS ∧ k.size ≤ 16 := by
  unfold okKey at h
  simp only [Bool.and_eq_true, decide_eq_true_eq] at h
  exact ⟨fun e => by rw [e, noS_size] at h; omega, h.2⟩
set_option maxHeartbeats 8000000 in
theorem makeV (w0 : W0) (k : Nat) (name : ByteArray) (n : N) (l : List C) (S : St) (h : VI k n l) (hk : k ≤ 116) : ACall Tryz.prog w0 11 [eV n l, dS name] S (fun d S' => d = .tup [eV (mkV name n l).1.1 (mkV name n l).1.2, dI (mkV name n l).2] ∧ S' = S) := by
  have hln := h.len
  have hdir := h.dir
  have hrise := h.rise
  clear h
  have hil := idx_le l name
  have hput := fun (a : name.size ≤ 16) S => tbPut w0 (key := name) (val := nwS) hdir hk a (by decide) S
  have q1 : okKey name = false → mkV name n l = ((n, l), 34) := fun e => by unfold mkV; rw [e]; rfl
  have q2 : okKey name = true → hasN l name = true → mkV name n l = ((n, l), 38) := fun e f => by unfold mkV; rw [e, f]; rfl
  have q3 : okKey name = true → hasN l name = false → mkV name n l = ((Put name nwS n, l.take (idxN l name) ++ [cellN name emN] ++ l.drop (idxN l name)), 0) := fun e f => by unfold mkV; rw [e, f]; rfl
  have hcl := cloneB w0 (l.map dBk) 
  have hx6 : (cd (dBk (cellN name emN))).length = 6 := rfl
  have hx : okE (dBk (cellN name emN)) = true := rfl
  generalize Put name nwS n = D at *
  generalize hI : idxN l name = i at *
  generalize mkV name n l = R at *
  refine fnS [7] mx Tryz.func11 rfl rfl (by kernel_rfl) ?_; (refine @goW _ ?_; refine goS1 @Tryz.ntmps11 ?_)
  intro b b1
  refine use1 (findV w0 n l name _ hrise (by omega)) ?_
  (refine @goW _ ?_; refine goS ?_)
  refine use1 (keyV w0 name _) ?_
  (refine @goW _ ?_; refine goS ?_)
  cases hok : okKey name with
  | false => 
    rw [q1 hok]
    (refine @goW _ ?_; exact goT)
    all_goals exact .refl _
  | true =>
    (refine @goW _ ?_; refine goS ?_)
    refine ⟨fun hh => by rw [q2 hok hh]; exact .refl _, fun hh => ?_⟩
    rw [q3 hok hh]
    obtain ⟨_, hsz⟩ := okKey_ne hok
    refine useK (hcl _ (by rw [List.length_map]; omega)) ?_
    rintro d S' ⟨b2, rfl, rfl⟩
    (refine @goW _ ?_; refine goS ?_)
    refine use1 (emP w0 _) ?_
    (refine @goW _ ?_; refine goS ?_)
    rw [hI]
    refine .inl ?_
    by_cases hl : l = []
    · subst hl
      obtain rfl : i = 0 := by simpa using hil
      refine useK (insB0 w0 _ b2.n (dBk (cellN name emN)) (by (refine @goW _ ?_; exact goT)) hx hx6) ?_ ⟨.refl _, .refl _, .full _ _ _, trivial⟩
      rintro d S' ⟨rfl, rfl⟩
      (refine @goW _ ?_; refine goS ?_)
      refine shrK [] [8] mx (by kernel_rfl) ?_
      (refine @goW _ ?_; refine goS ?_)
      refine useQ (nowhereV w0 _) ?_
      (refine @goW _ ?_; refine goS ?_)
      refine useQ (hput hsz _) ?_
      (refine @goW _ ?_; exact goT)
    · refine useK (insB1 w0 _ b2.n (l.map dBk) i (dBk (cellN name emN)) (by (refine @goW _ ?_; exact goT)) (fun d hd => by obtain ⟨c, _, rfl⟩ := List.mem_map.1 hd; exact ⟨rfl, rfl⟩) (by simpa using hl) (by rw [List.length_map]; exact hil) hx hx6 (by rw [List.length_map]; omega)) ?_ ⟨.eq (by rw [List.length_map]), .refl _, .full _ _ _, trivial⟩
      rintro d S' ⟨m, rfl, rfl⟩
      (refine @goW _ ?_; refine goS ?_)
      refine shrK [] [8] mx (by kernel_rfl) ?_
      (refine @goW _ ?_; refine goS ?_)
      refine ⟨by omega, useQ (nowhereV w0 _) ?_⟩
      (refine @goW _ ?_; refine goS ?_)
      refine useQ (hput hsz _) ?_
      (refine @goW _ ?_; refine goS ?_)
      rw [List.map_append, List.map_append]; exact .refl _
/-- A tree dropped. -/
def drV (name : ByteArray) (n : N) (l : List C) : (N × List C) × Int :=
  if hasN l name then ((Del name n, l.take (idxN l name) ++ l.drop (idxN l name + 1)), 0) else ((n, l), 32)
theorem has_lt {l : List C} {name : ByteArray} (h : hasN l name = true) : idxN l name < l.length := by
  unfold hasN at h
  split at h
  · rename_i e; exact (List.getElem?_eq_some_iff.1 e).1
  · cases h
end Go.Proofs.YtfieabidajilmaaGreat

namespace Go.Proofs.YtfieabidajilmaaGreat
open Aml Go
set_option linter.unusedVariables false
set_option linter.unusedSimpArgs false
set_option maxRecDepth 100000
/-- A named tree changed. -/
def chV (name : ByteArray) (f : N → N × Int) (n : N) (l : List C) : (N × List C) × Int :=
  if hasN l name then (match l[idxN l name]? with
    | some c => if (f (kid0 c)).2 = 0 then ((Put name nwS n, l.set (idxN l name) (cellN c.key (f (kid0 c)).1)), 0) else ((n, l), (f (kid0 c)).2)
    | none => ((n, l), 32)) else ((n, l), 32)
theorem has_at {l : List C} {name : ByteArray} (h : hasN l name = true) : ∃ c, l[idxN l name]? = some c ∧ c.key = name := by
  unfold hasN at h
  split at h
  · rename_i c e; exact ⟨c, e, eqS_iff.1 h⟩
  · cases h
set_option maxHeartbeats 8000000 in
theorem changeV (w0 : W0) (k : Nat) (name : ByteArray) (f : N → N × Int) (g : Nat) (cs : List Value) (n : N) (l : List C) (S : St) (h : VI k n l) (hk : k ≤ 116)
    (hg : okF Tryz.prog g = true) (hcs : cs.all (fun u => u.oneCell') = true)
    (hf : ∀ c, l[idxN l name]? = some c → ∀ T, Has S T → ACall Tryz.prog w0 g (eT (kid0 c) :: cs.map .v) T (fun d S' => d = .tup [eT (f (kid0 c)).1, dI (f (kid0 c)).2] ∧ S' = T)) :
    ACall Tryz.prog w0 52 [eV n l, dS name, .v (.func (.func g) #[] cs.toArray)] S (fun d S' => d = .tup [eV (chV name f n l).1.1 (chV name f n l).1.2, dI (chV name f n l).2] ∧ S' = S) := by
  have hln := h.len
  have hdir := h.dir
  have hrise := h.rise
  have hsz : hasN l name = true → name.size ≤ 16 := fun hh => by
    obtain ⟨c, hc, rfl⟩ := has_at hh
    exact (okKey_ne (h.cell c (List.mem_of_getElem? hc)).2.2).2
  clear h
  have hlt := has_lt (l := l) (name := name)
  have hput := fun (a : name.size ≤ 16) S => tbPut w0 (key := name) (val := nwS) hdir hk a (by decide) S
  have q1 : hasN l name = false → chV name f n l = ((n, l), 32) := fun e => by unfold chV; rw [e]; rfl
  have q2 : hasN l name = true → ∀ c, l[idxN l name]? = some c → (f (kid0 c)).2 ≠ 0 → chV name f n l = ((n, l), (f (kid0 c)).2) := fun e c hc h0 => by unfold chV; rw [e, hc]; simp only [if_true]; rw [if_neg h0]
  have q3 : hasN l name = true → ∀ c, l[idxN l name]? = some c → (f (kid0 c)).2 = 0 → chV name f n l = ((Put name nwS n, l.set (idxN l name) (cellN c.key (f (kid0 c)).1)), 0) := fun e c hc h0 => by unfold chV; rw [e, hc]; simp only [if_true]; rw [if_pos h0]
  have hcl := cloneB w0 (l.map dBk) 
  generalize Put name nwS n = D at *
  generalize chV name f n l = R at *
  refine fnS [9] mx Tryz.func52 rfl rfl (by kernel_rfl) ?_; (refine @goW _ ?_; refine goS1 @Tryz.ntmps52 ?_)
  intro b b1
  refine use1 (findV w0 n l name _ hrise (by omega)) ?_
  generalize hI : idxN l name = i at *
  (refine @goW _ ?_; refine goS ?_)
  refine ⟨fun hh => ?_, fun hh => by rw [q1 hh]; exact .refl _⟩
  have hil := hlt hh
  refine ⟨hil, fun c hc => ?_⟩
  (refine @goW _ ?_; refine goS2 @hg @hcs ?_)
  have hF := hf c hc
  have q2' := q2 hh c hc
  have q3' := q3 hh c hc
  generalize (f (kid0 c)).1 = m at *
  generalize (f (kid0 c)).2 = e at *
  refine ⟨hcs, use1 (hF _ (by (refine @goW _ ?_; exact goT))) ?_⟩
  (refine @goW _ ?_; refine goS ?_)
  intro b2
  refine ⟨fun he => by rw [q2' he]; exact .refl _, fun he => ?_⟩
  rw [q3' (Classical.not_not.1 he)]
  refine useK (hcl _ (by rw [List.length_map]; omega)) ?_
  rintro d S' ⟨l1, rfl, rfl⟩
  (refine @goW _ ?_; refine goS ?_)
  refine ⟨hil, hil, fun a ha => ?_⟩
  cases getE hc ha
  refine shrK [] [12] mx (by kernel_rfl) ?_
  (refine @goW _ ?_; refine goS ?_)
  refine useQ (nowhereV w0 _) ?_
  (refine @goW _ ?_; refine goS ?_)
  refine useQ (hput (hsz hh) _) ?_
  (refine @goW _ ?_; refine goS ?_)
  rw [List.map_set]
  exact .refl _
/-- A key's value put into a named tree. -/
def puV (name key val : ByteArray) (n : N) (l : List C) : (N × List C) × Int :=
  if okKey key && decide (val.size ≤ 400) then chV name (fun t => (Put key val t, 0)) n l else ((n, l), 34)
/-- A key taken out of a named tree. -/
def deV (name key : ByteArray) (n : N) (l : List C) : (N × List C) × Int :=
  chV name (fun t => if (findN key t).isSome then (Del key t, 0) else (t, 33)) n l
set_option maxHeartbeats 1000000 in
theorem putC (w0 : W0) (k : Nat) (key val : ByteArray) (t : N) (b1 b2 : Nat) (T : St) (ht : TB k t) (hk : k ≤ 116) (hs : key.size ≤ 16) (hv : val.size ≤ 400) (h1 : lk T.box b1 = some [dS key]) (h2 : lk T.box b2 = some [dS val]) :
    ACall Tryz.prog w0 53 [eT t, .v (.pointer (some ⟨b1, 0, none⟩)), .v (.pointer (some ⟨b2, 0, none⟩))] T (fun d S' => d = .tup [eT (Put key val t), dI 0] ∧ S' = T) := by
  have hp := fun S => tbPut w0 ht hk hs hv S
  generalize Put key val t = p at *
  refine fnS [] mx Tryz.func53 rfl rfl (by kernel_rfl) ?_; simp only [Tryz.ntmps53, List.length_cons, List.length_nil, Nat.reduceAdd, Nat.reduceSub, List.reduceReplicate, List.cons_append, List.nil_append]; (refine @goW _ ?_; refine goS3 @Tryz.ntmps53 @h1 @h2 ?_)
  intro b b3
  refine use1 (hp _) ?_
  (refine @goW _ ?_; exact goT2 @h1 @h2)
set_option maxHeartbeats 8000000 in
theorem putV (w0 : W0) (k : Nat) (name key val : ByteArray) (n : N) (l : List C) (S : St) (h : VI k n l) (hk : k ≤ 116) : ACall Tryz.prog w0 15 [eV n l, dS name, dS key, dS val] S (fun d S' => d = .tup [eV (puV name key val n l).1.1 (puV name key val n l).1.2, dI (puV name key val n l).2] ∧ S' = S) := by
  have q1 : okKey key = false → puV name key val n l = ((n, l), 34) := fun e => by unfold puV; rw [e]; rfl
  have q2 : ¬ val.size ≤ 400 → puV name key val n l = ((n, l), 34) := fun e => by unfold puV; rw [decide_eq_false e, Bool.and_false]; rfl
  have q3 : okKey key = true → val.size ≤ 400 → puV name key val n l = chV name (fun t => (Put key val t, 0)) n l := fun e f => by unfold puV; rw [e, decide_eq_true f]; rfl
  have hch := fun g cs S => changeV w0 k name (fun t => (Put key val t, 0)) g cs n l S h hk
  generalize puV name key val n l = R at *
  generalize chV name (fun t => (Put key val t, 0)) n l = Q at *
  refine fnS [] mx Tryz.func15 rfl rfl (by kernel_rfl) ?_; (refine @goW _ ?_; refine goS1 @Tryz.ntmps15 ?_)
  intro b b1 b2 b3
  refine use1 (keyV w0 key _) ?_
  (refine @goW _ ?_; refine goS ?_)
  refine ⟨fun e => by rw [q1 e]; exact .refl _, fun e => ⟨fun e2 => by rw [q2 (by omega)]; exact .refl _, fun e2 => ?_⟩⟩
  rw [q3 e (by omega)]
  refine use1 (hch 53 [.pointer (some ⟨b1.n, 0, none⟩), .pointer (some ⟨b2.n, 0, none⟩)] _ (by kernel_rfl) rfl fun c hc T hT => putC w0 k key val (kid0 c) b1.n b2.n T (h.cell c (List.mem_of_getElem? hc)).2.1 hk (okKey_ne e).2 (by omega) (hT.box _ _ (by (refine @goW _ ?_; exact goT))) (hT.box _ _ (by (refine @goW _ ?_; exact goT)))) ?_
  (refine @goW _ ?_; exact goT)
end Go.Proofs.YtfieabidajilmaaGreat

namespace Go.Proofs.YtfieabidajilmaaGreat
open Aml Go
set_option linter.unusedVariables false
set_option linter.unusedSimpArgs false
set_option maxRecDepth 100000
end Go.Proofs.YtfieabidajilmaaGreat

namespace Aml
open Go Go.RowKit
set_option linter.unusedVariables false
set_option linter.unusedSimpArgs false
section
variable {P : Program} {F : Fence} {n : Nat} {Q : Exit → Act → World → Prop} {a : Act} {w : World} {b : Frame} {k : List Item} {cs : List Frame}
end
section
variable {P : Program} {w0 : W0}
end
end Aml

namespace Go.Proofs.YtfieabidajilmaaGreat
open Aml Go
set_option linter.unusedVariables false
set_option linter.unusedSimpArgs false
set_option maxRecDepth 100000
end Go.Proofs.YtfieabidajilmaaGreat

namespace Go.Proofs.YtfieabidajilmaaGreat
open Aml Go
set_option linter.unusedVariables false
set_option linter.unusedSimpArgs false
set_option maxRecDepth 100000
end Go.Proofs.YtfieabidajilmaaGreat

namespace Go.Proofs.YtfieabidajilmaaGreat
open Aml Go
set_option linter.unusedVariables false
set_option linter.unusedSimpArgs false
set_option maxRecDepth 100000
end Go.Proofs.YtfieabidajilmaaGreat

namespace Go.Proofs.YtfieabidajilmaaGreat
open Aml Go
set_option linter.unusedVariables false
set_option linter.unusedSimpArgs false
set_option maxRecDepth 100000
end Go.Proofs.YtfieabidajilmaaGreat

namespace Go.Proofs.YtfieabidajilmaaGreat
open Aml Go
set_option linter.unusedVariables false
set_option linter.unusedSimpArgs false
set_option maxRecDepth 100000
theorem cut_lt {name : ByteArray} {l : List C} (h : Rise l) (hn : hasN l name = false) : ∃ A B, l = A ++ B ∧ idxN l name = A.length ∧ (∀ a, a ∈ A → ltS a.key name = true) ∧ ∀ b, b ∈ B → ltS name b.key = true := by
  obtain ⟨A, B, hl, h1, h2⟩ := cut_at name h
  have hi : idxN l name = A.length := by rw [hl]; exact idx_app h1 h2
  refine ⟨A, B, hl, hi, h1, fun b hb => ?_⟩
  cases B with
  | nil => cases hb
  | cons x B =>
    have hx : eqS x.key name = false := by
      unfold hasN at hn
      rw [hi, hl, List.getElem?_append_right (Nat.le_refl _), Nat.sub_self] at hn
      exact hn
    have hxl : ltS name x.key = true := by
      rcases ltS_tri x.key name with q | q | q
      · rw [h2 x List.mem_cons_self] at q; cases q
      · exact absurd q (eqS_no.1 hx)
      · exact q
    rcases List.mem_cons.1 hb with rfl | hb
    · exact hxl
    · have hr : Rise (x :: B) := by rw [hl] at h; exact (List.pairwise_append.1 h).2.1
      exact ltS_trans hxl ((List.pairwise_cons.1 hr).1 b hb)
theorem cut_eq {name : ByteArray} {l : List C} (h : Rise l) (hn : hasN l name = true) : ∃ A b B, l = A ++ b :: B ∧ b.key = name ∧ idxN l name = A.length ∧ (∀ a, a ∈ A → ltS a.key name = true) ∧ ∀ b, b ∈ B → ltS name b.key = true := by
  obtain ⟨A, B, hl, h1, h2⟩ := cut_at name h
  have hi : idxN l name = A.length := by rw [hl]; exact idx_app h1 h2
  obtain ⟨c, hc, hk⟩ := has_at hn
  rw [hi, hl, List.getElem?_append_right (Nat.le_refl _), Nat.sub_self] at hc
  cases B with
  | nil => cases hc
  | cons x B =>
    obtain rfl : x = c := by simpa using hc
    have hr : Rise (x :: B) := by rw [hl] at h; exact (List.pairwise_append.1 h).2.1
    exact ⟨A, x, B, hl, hk, hi, h1, fun b hb => by rw [← hk]; exact (List.pairwise_cons.1 hr).1 b hb⟩
def dirC (c : C) : C := .mk c.key nwS [] []
theorem ins_cut {name val : ByteArray} {A B M : List C} (h1 : ∀ a, a ∈ A → ltS a.key name = true) (h2 : ∀ b, b ∈ B → ltS name b.key = true) (hM : ∀ m, m ∈ M → m.key = name) : insE name val (A ++ M ++ B) = A ++ .mk name val [] [] :: B := by
  unfold insE
  simp only [List.filter_append]
  rw [flt_all h1, flt_no (l := M) (fun m hm => by rw [hM m hm, ltS_irrefl]), flt_no (l := B) (fun b hb => ltS_asymm (h2 b hb)), flt_no (l := A) (fun a ha => ltS_asymm (h1 a ha)), flt_no (l := M) (fun m hm => by rw [hM m hm, ltS_irrefl]), flt_all h2]
  simp
theorem del_cut {name : ByteArray} {A B M : List C} (h1 : ∀ a, a ∈ A → ltS a.key name = true) (h2 : ∀ b, b ∈ B → ltS name b.key = true) (hM : ∀ m, m ∈ M → m.key = name) : delE name (A ++ M ++ B) = A ++ B := by
  unfold delE
  simp only [List.filter_append]
  rw [flt_all (l := A) (fun a ha => by rw [eqS_no.2 (ltS_ne (h1 a ha))]; rfl), flt_no (l := M) (fun m hm => by rw [hM m hm, eqS_self]; rfl), flt_all (l := B) (fun b hb => by rw [eqS_no.2 (ltS_ne (h2 b hb)).symm]; rfl)]
  simp
theorem rise_cut {name : ByteArray} {A B : List C} {m : C} (h : Rise (A ++ B)) (h1 : ∀ a, a ∈ A → ltS a.key name = true) (h2 : ∀ b, b ∈ B → ltS name b.key = true) (hm : m.key = name) : Rise (A ++ m :: B) := by
  unfold Rise at *
  rw [List.pairwise_append] at h ⊢
  refine ⟨h.1, List.pairwise_cons.2 ⟨fun b hb => by rw [hm]; exact h2 b hb, h.2.1⟩, fun a ha b hb => ?_⟩
  rcases List.mem_cons.1 hb with rfl | hb
  · rw [hm]; exact h1 a ha
  · exact h.2.2 a ha b hb
theorem map_lt {name : ByteArray} {A : List C} (h : ∀ a, a ∈ A → ltS a.key name = true) : ∀ a, a ∈ A.map dirC → ltS a.key name = true := fun a ha => by
  obtain ⟨c, hc, rfl⟩ := List.mem_map.1 ha; exact h c hc
theorem map_gt {name : ByteArray} {A : List C} (h : ∀ a, a ∈ A → ltS name a.key = true) : ∀ a, a ∈ A.map dirC → ltS name a.key = true := fun a ha => by
  obtain ⟨c, hc, rfl⟩ := List.mem_map.1 ha; exact h c hc
theorem vi_mono {k m : Nat} {n : N} {l : List C} (h : VI k n l) (hm : k ≤ m) : VI m n l := ⟨tb_mono h.dir hm, h.rise, fun c hc => ⟨(h.cell c hc).1, tb_mono (h.cell c hc).2.1 hm, (h.cell c hc).2.2⟩, Nat.le_trans h.len hm, h.en⟩
theorem kid0_cell (name : ByteArray) (t : N) : kid0 (cellN name t) = t := rfl
theorem vi_mk {k : Nat} {n : N} {l : List C} (h : VI k n l) (hk : k ≤ 116) (name : ByteArray) : VI (k + 1) (mkV name n l).1.1 (mkV name n l).1.2 := by
  unfold mkV
  cases hok : okKey name with
  | false => exact vi_mono h (by omega)
  | true =>
    cases hh : hasN l name with
    | true => exact vi_mono h (by omega)
    | false =>
      obtain ⟨A, B, hl, hi, h1, h2⟩ := cut_lt h.rise hh
      obtain ⟨hne, hsz⟩ := okKey_ne hok
      have hlen := h.len
      have e : l.take (idxN l name) ++ [cellN name emN] ++ l.drop (idxN l name) = A ++ cellN name emN :: B := by rw [hi, hl]; simp
      simp only [if_true, if_false, Bool.false_eq_true]
      rw [e]
      have hr := h.rise
      have hce := h.cell
      have hen := h.en
      rw [hl] at hr hce hlen
      refine ⟨tb_put h.dir hk hne hsz (by decide), rise_cut hr h1 h2 rfl, fun c hc => ?_, by simp only [List.length_append, List.length_cons] at *; omega, ?_⟩
      · have old : ∀ c, c ∈ A ++ B → c = cellN c.key (kid0 c) ∧ TB (k + 1) (kid0 c) ∧ okKey c.key = true := fun c hc => ⟨(hce c hc).1, tb_mono (hce c hc).2.1 (by omega), (hce c hc).2.2⟩
        rcases List.mem_append.1 hc with hc | hc
        · exact old c (List.mem_append_left _ hc)
        · rcases List.mem_cons.1 hc with rfl | hc
          · exact ⟨rfl, tb_em _, hok⟩
          · exact old c (List.mem_append_right _ hc)
      · rw [(root_put (val := nwS) hne hsz (by decide) h.dir.1).2, hen, hl]
        have := ins_cut (name := name) (val := nwS) (A := A.map dirC) (B := B.map dirC) (M := []) (map_lt h1) (map_gt h2) (fun m hm => by cases hm)
        rw [List.append_nil] at this
        show insE name nwS (List.map dirC (A ++ B)) = List.map dirC (A ++ cellN name emN :: B)
        rw [List.map_append, this, List.map_append, List.map_cons]; rfl
theorem vi_dr {k : Nat} {n : N} {l : List C} (h : VI k n l) (hk : k ≤ 116) (name : ByteArray) : VI (k + 1) (drV name n l).1.1 (drV name n l).1.2 := by
  unfold drV
  cases hh : hasN l name with
  | false => exact vi_mono h (by omega)
  | true =>
    obtain ⟨A, b, B, hl, hb, hi, h1, h2⟩ := cut_eq h.rise hh
    have hlen := h.len
    have e : l.take (idxN l name) ++ l.drop (idxN l name + 1) = A ++ B := by rw [hi, hl]; simp
    simp only [if_true]
    rw [e]
    have hr := h.rise
    have hce := h.cell
    have hen := h.en
    rw [hl] at hr hce hlen
    refine ⟨tb_del h.dir hk, hr.sublist (List.Sublist.append_left (List.sublist_cons_self _ _) _), fun c hc => ?_, by simp only [List.length_append, List.length_cons] at *; omega, ?_⟩
    · have hm : c ∈ A ++ b :: B := (List.Sublist.append_left (List.sublist_cons_self _ _) _).subset hc
      exact ⟨(hce c hm).1, tb_mono (hce c hm).2.1 (by omega), (hce c hm).2.2⟩
    · rw [(root_del name h.dir.1).2, hen, hl]
      have := del_cut (name := name) (A := A.map dirC) (B := B.map dirC) (M := [dirC b]) (map_lt h1) (map_gt h2) (fun m hm => by rw [List.mem_singleton] at hm; subst hm; exact hb)
      show delE name (List.map dirC (A ++ b :: B)) = List.map dirC (A ++ B)
      rw [List.map_append, List.map_append, List.map_cons, ← this]; simp
theorem vi_ch {k : Nat} {n : N} {l : List C} (h : VI k n l) (hk : k ≤ 116) (name : ByteArray) (f : N → N × Int) (hf : ∀ t, TB k t → TB (k + 1) (f t).1) : VI (k + 1) (chV name f n l).1.1 (chV name f n l).1.2 := by
  unfold chV
  cases hh : hasN l name with
  | false => exact vi_mono h (by omega)
  | true =>
    obtain ⟨A, b, B, hl, hb, hi, h1, h2⟩ := cut_eq h.rise hh
    have hlen := h.len
    have hgb : l[idxN l name]? = some b := by rw [hi, hl]; simp
    simp only [if_true, hgb]
    split
    · have hr := h.rise
      have hce := h.cell
      have hen := h.en
      have e : l.set (idxN l name) (cellN b.key (f (kid0 b)).1) = A ++ cellN b.key (f (kid0 b)).1 :: B := by rw [hi, hl]; simp
      simp only
      rw [e]
      rw [hl] at hr hce hlen
      have hbc := hce b (by simp)
      obtain ⟨hne, hsz⟩ := okKey_ne hbc.2.2
      rw [hb] at hne hsz
      have hr2 : Rise (A ++ B) := hr.sublist (List.Sublist.append_left (List.sublist_cons_self _ _) _)
      refine ⟨tb_put h.dir hk hne hsz (by decide), rise_cut hr2 h1 h2 hb, fun c hc => ?_, by simp only [List.length_append, List.length_cons] at *; omega, ?_⟩
      · have old : ∀ c, c ∈ A ++ b :: B → c = cellN c.key (kid0 c) ∧ TB (k + 1) (kid0 c) ∧ okKey c.key = true := fun c hc => ⟨(hce c hc).1, tb_mono (hce c hc).2.1 (by omega), (hce c hc).2.2⟩
        rcases List.mem_append.1 hc with hc | hc
        · exact old c (List.mem_append_left _ hc)
        · rcases List.mem_cons.1 hc with rfl | hc
          · exact ⟨rfl, hf _ hbc.2.1, hbc.2.2⟩
          · exact old c (List.mem_append_right _ (List.mem_cons_of_mem _ hc))
      · rw [(root_put (val := nwS) hne hsz (by decide) h.dir.1).2, hen, hl]
        have := ins_cut (name := name) (val := nwS) (A := A.map dirC) (B := B.map dirC) (M := [dirC b]) (map_lt h1) (map_gt h2) (fun m hm => by rw [List.mem_singleton] at hm; subst hm; exact hb)
        show insE name nwS (List.map dirC (A ++ b :: B)) = List.map dirC (A ++ cellN b.key (f (kid0 b)).1 :: B)
        rw [List.map_append, List.map_cons, List.map_append, List.map_cons]
        have e2 : List.map dirC A ++ dirC b :: List.map dirC B = List.map dirC A ++ [dirC b] ++ List.map dirC B := by simp
        rw [e2, this, ← hb]; rfl
    · exact vi_mono h (by omega)
theorem vi_pu {k : Nat} {n : N} {l : List C} (h : VI k n l) (hk : k ≤ 116) (name key val : ByteArray) : VI (k + 1) (puV name key val n l).1.1 (puV name key val n l).1.2 := by
  unfold puV
  split
  · rename_i hc
    simp only [Bool.and_eq_true, decide_eq_true_eq] at hc
    obtain ⟨hne, hsz⟩ := okKey_ne hc.1
    exact vi_ch h hk name _ fun t ht => tb_put ht hk hne hsz hc.2
  · exact vi_mono h (by omega)
end Go.Proofs.YtfieabidajilmaaGreat

namespace Go.Proofs.YtfieabidajilmaaGreat
open Aml Go
set_option linter.unusedVariables false
set_option linter.unusedSimpArgs false
set_option maxRecDepth 100000
end Go.Proofs.YtfieabidajilmaaGreat

namespace Go.Proofs.YtfieabidajilmaaGreat
open Aml Go
set_option linter.unusedVariables false
set_option linter.unusedSimpArgs false
set_option maxRecDepth 100000
/-- A step of a law on views. -/
structure Sv where
  op : Int
  name : ByteArray
  key : ByteArray
  byte : Int
  size : Int
/-- A step's value. -/
def vaS (s : Sv) : ByteArray := strOfNums (List.replicate s.size.toNat s.byte)
theorem by_rep (n : Nat) (x : Int) : okBy (List.replicate n (.v (.int .u8 x))) = true ∧ byD (List.replicate n (.v (.int .u8 x))) = List.replicate n x := by
  induction n with
  | zero => exact ⟨rfl, rfl⟩
  | succ n ih => 
    rw [List.replicate_succ, List.replicate_succ]
    exact ⟨ih.1, by show x :: byD _ = _; rw [ih.2]⟩
end Go.Proofs.YtfieabidajilmaaGreat

namespace Go.Proofs.YtfieabidajilmaaGreat
open Aml Go
set_option linter.unusedVariables false
set_option linter.unusedSimpArgs false
set_option maxRecDepth 100000
end Go.Proofs.YtfieabidajilmaaGreat

namespace Go.Proofs.YtfieabidajilmaaGreat
open Aml Go
set_option linter.unusedVariables false
set_option linter.unusedSimpArgs false
set_option maxRecDepth 100000
/-- A step on a view. -/
def stV (s : Sv) (q : N × List C) : (N × List C) × Int :=
  if s.op = 0 then mkV s.name q.1 q.2 else if s.op = 1 then drV s.name q.1 q.2 else if s.op = 2 then puV s.name s.key (vaS s) q.1 q.2 else if s.op = 3 then deV s.name s.key q.1 q.2 else (q, 0)
theorem st1 {s : Sv} {q : N × List C} (h : s.op = 1) : drV s.name q.1 q.2 = stV s q := by unfold stV; rw [if_neg (by omega), if_pos h]
theorem st2 {s : Sv} {q : N × List C} (h : s.op = 2) : puV s.name s.key (vaS s) q.1 q.2 = stV s q := by unfold stV; rw [if_neg (by omega), if_neg (by omega), if_pos h]
end Go.Proofs.YtfieabidajilmaaGreat

namespace Go.Proofs.YtfieabidajilmaaGreat
open Aml Go Go.RowKit Go.ChangeShapes
set_option linter.unusedVariables false
set_option linter.unusedSimpArgs false

/-- All that is there at the start stays. -/
def gW (W : World) : Gh := ⟨fun b i => W.cell? ⟨b, i, none⟩, fun _ _ => none, fun _ => none⟩
theorem rel_start (W : World) : Rel W (gW W) ⟨[], []⟩ W :=
  ⟨⟨Below.refl _ _, fun _ _ h => (by cases h), ⟨fun _ _ _ h => (by cases h), fun _ _ _ h => (by cases h), fun _ _ h => (by cases h)⟩⟩, fun _ _ _ h => h, by simp, by simp, fun _ _ _ h => (by cases h), ⟨0, fun _ _ _ => rfl⟩, fun _ _ h => (by cases h), fun _ => none, fun _ _ h => (by cases h), fun _ _ h => (by cases h)⟩

/-- A type's data, read as a Lean type. -/
def Rd (P : Program) (W : World) (t : TypeId) {α : Type} (en : α → List DV) (sz : α → Nat) (ok : α → Prop) : Prop :=
  ∀ (H : Type) (enc : TypeId × Value → H) (n : Nat) (cs : List Value) (x : DataW H × List MemPlace), DataW.trod enc P W 0 (fun _ => true) true n t cs = some x →
    ∃ a, ok a ∧ sz a ≤ Rows.uptoBulk x.1 ∧ RepL (gW W) (en a) cs ∧ ∀ u, u ∈ cs → u.oneCell' = true

section
variable {P : Program} {W : World}
theorem Rd.conv {t : TypeId} {α β : Type} {en : α → List DV} {sz : α → Nat} {ok : α → Prop} {en' : β → List DV} {sz' : β → Nat} {ok' : β → Prop} (h : Rd P W t en sz ok) (f : α → β) (he : ∀ a, en a = en' (f a)) (hs : ∀ a, sz' (f a) ≤ sz a) (ho : ∀ a, ok a → ok' (f a)) : Rd P W t en' sz' ok' :=
  fun H enc n cs x hx => let ⟨a, h1, h2, h3, h4⟩ := h H enc n cs x hx; ⟨f a, ho a h1, Nat.le_trans (hs a) h2, by rw [← he]; exact h3, h4⟩
theorem rd_int {t : TypeId} (k : IntKind) (ht : P.underlying t = some (.int k)) : Rd P W t (fun n : Int => [.v (.int k n)]) (fun _ => 1) (fun n => (Lit.int k n).wf = true) := by
  intro H enc n cs x hx
  obtain ⟨m, rfl, rfl, hw⟩ := DataW.trod_int ht hx
  exact ⟨m, hw, by simp [Rows.uptoBulk], RepL.cons (.v _ rfl) (RepL.nil _), by simp [Value.oneCell']⟩
theorem rd_i64 {t : TypeId} (ht : P.underlying t = some (.int .i64)) : Rd P W t (fun n : Int => [dI n]) (fun _ => 1) (fun n => -9223372036854775808 ≤ n ∧ n ≤ 9223372036854775807) :=
  (rd_int .i64 ht).conv id (fun _ => rfl) (fun _ => Nat.le_refl _) fun _ h => bounds_i64 h
theorem rd_u8 {t : TypeId} (ht : P.underlying t = some (.int .u8)) : Rd P W t (fun n : Int => [dY n]) (fun _ => 1) (fun n => 0 ≤ n ∧ n ≤ 255) :=
  (rd_int .u8 ht).conv id (fun _ => rfl) (fun _ => Nat.le_refl _) fun _ h => bounds_u8 h
theorem rd_str {t : TypeId} (ht : P.underlying t = some .string) : Rd P W t (fun s : ByteArray => [dS s]) (fun s => s.size + 1) (fun _ => True) := by
  intro H enc n cs x hx
  obtain ⟨s, rfl, rfl, hs⟩ := DataW.trod_string ht hx
  exact ⟨s, trivial, (show s.size + 1 ≤ s.data.toList.length + 1 by rw [Array.length_toList]; exact Nat.le_refl _), RepL.cons (.v _ rfl) (RepL.nil _), by simp [Value.oneCell']⟩

theorem pick_list {α : Type} {Q : Nat → α → Prop} : ∀ (n : Nat), (∀ i, i < n → ∃ a, Q i a) → ∃ l : List α, l.length = n ∧ ∀ (i : Nat) (a : α), l[i]? = some a → Q i a
  | 0, _ => ⟨[], rfl, by simp⟩
  | n + 1, h => by
    obtain ⟨l, h1, h2⟩ := pick_list n fun i hi => h i (by omega)
    obtain ⟨a, ha⟩ := h n (by omega)
    refine ⟨l ++ [a], by simp [h1], fun i b hb => ?_⟩
    by_cases hi : i < n
    · rw [List.getElem?_append_left (by omega)] at hb; exact h2 i b hb
    · have hlt : i < (l ++ [a]).length := (List.getElem?_eq_some_iff.1 hb).1
      have : i = n := by simp at hlt; omega
      subst this
      rw [List.getElem?_append_right (by omega), h1] at hb
      simp at hb; subst hb; exact ha
theorem bulk_sum {H α : Type} {sz : α → Nat} : ∀ {l : List α} {es : List (DataW H)}, l.length = es.length → (∀ (i : Nat) (a : α) (e : DataW H), l[i]? = some a → es[i]? = some e → sz a ≤ Rows.uptoBulk e) → (l.map sz).sum ≤ Rows.uptoBulkAll es
  | [], [], _, _ => by simp [Rows.uptoBulkAll]
  | [], _ :: _, h, _ => by simp at h
  | _ :: _, [], h, _ => by simp at h
  | a :: l, e :: es, h, hs => by
    have h1 := hs 0 a e rfl rfl
    have h2 := bulk_sum (l := l) (es := es) (by simpa using h) fun i a e x y => hs (i + 1) a e (by simpa using x) (by simpa using y)
    simp only [List.map_cons, List.sum_cons, Rows.uptoBulkAll]
    omega
theorem cells_read {a : Addr} {k : Nat} {cs : List Value} (h : W.cells? 0 a k = some cs) : cs.length = k ∧ ∀ j, j < k → W.cell? (a.add j) = cs[j]? := by
  unfold World.cells? at h
  rw [if_pos (Nat.zero_le _)] at h
  exact ⟨by simpa using mapM_some_length h, fun j hj => mapM_some_get h j j (by simp [hj])⟩

theorem rd_sliceG {t e : TypeId} {α : Type} {en : α → List DV} {sz : α → Nat} {ok : α → Prop} (h : Rd P W e en sz ok) (ht : P.underlying t = some (.slice e)) {k : Nat} (hk : P.cellsOf e = k) (hk0 : 0 < k) (enE : α → DV) (mk : List Value → Value)
    (hmk : ∀ a cs, RepL (gW W) (en a) cs → (∀ u, u ∈ cs → u.oneCell' = true) → cs.length = k → Rep (gW W) (enE a) (mk cs) ∧ (mk cs).cells.toList = cs) :
    Rd P W t (fun l : List α => [.sl k false (l.map enE)]) (fun l => (l.map sz).sum + 1) (fun l => ∀ a, a ∈ l → ok a) := by
  intro H enc n cs x hx
  rcases DataW.trod_slice ht hx with ⟨rfl, rfl⟩ | ⟨a, len, cap, elems, rest, n', rfl, rfl, rfl, -, hlc, hcm, hel, hget, -, -⟩
  · exact ⟨[], by simp, by simp [Rows.uptoBulk], RepL.cons (.nil _ _ _ _ (by simp)) (RepL.nil _), by simp [Value.oneCell']⟩
  · have hq : ∀ i, i < len → ∃ p : α × List Value, ok p.1 ∧ (∀ y, elems[i]? = some y → sz p.1 ≤ Rows.uptoBulk y.1) ∧ W.cells? 0 (a.add (i * k)) k = some p.2 ∧ RepL (gW W) (en p.1) p.2 ∧ ∀ u, u ∈ p.2 → u.oneCell' = true := by
      intro i hi
      have h1 := hget i hi
      rw [hk] at h1
      have h2 : elems[i]? = some elems[i] := List.getElem?_eq_getElem (by omega)
      rw [h2, Option.bind_eq_some_iff] at h1
      obtain ⟨ci, hc, htr⟩ := h1
      obtain ⟨b, b1, b2, b3, b4⟩ := h H enc n' ci _ htr
      exact ⟨(b, ci), b1, fun y hy => by rw [h2] at hy; cases hy; exact b2, hc, b3, b4⟩
    obtain ⟨ps, hpl, hps⟩ := pick_list len hq
    refine ⟨ps.map (·.1), fun b hb => ?_, ?_, ?_, by simp [Value.oneCell']⟩
    · obtain ⟨p, hp, rfl⟩ := List.mem_map.1 hb
      obtain ⟨i, hi⟩ := List.getElem?_of_mem hp
      exact (hps i p hi).1
    · have := bulk_sum (sz := sz) (l := ps.map (·.1)) (es := elems.map (·.1)) (by simp [hpl, hel]) fun i b e x y => by
        rw [List.getElem?_map, Option.map_eq_some_iff] at x y
        obtain ⟨p, hp, rfl⟩ := x
        obtain ⟨y, hy, rfl⟩ := y
        exact (hps i p hp).2.1 y hy
      simp only [Rows.uptoBulk]
      omega
    · refine RepL.cons ?_ (RepL.nil _)
      by_cases h0 : len = 0
      · subst h0
        have : ps = [] := List.eq_nil_of_length_eq_zero hpl
        subst this
        exact .nil _ _ _ _ (by simp)
      · have hspot : a.spot = none := by
          obtain ⟨p, hp⟩ : ∃ p, ps[0]? = some p := ⟨_, List.getElem?_eq_getElem (by omega)⟩
          obtain ⟨hl, hc⟩ := cells_read (hps 0 p hp).2.2.1
          have := hc 0 (by omega)
          rw [List.getElem?_eq_getElem (by omega)] at this
          simp only [Nat.zero_mul, Addr.add, if_true] at this
          unfold World.cell? at this
          split at this
          · split at this
            · cases this
            · rename_i hs; simpa using hs
          · cases this
        obtain ⟨b, o, sp⟩ := a
        simp only at hspot
        subst hspot
        have hus : (ps.map fun p => mk p.2).length = len := by simp [hpl]
        have hmk' : ∀ (i : Nat) (p : α × List Value), ps[i]? = some p → Rep (gW W) (enE p.1) (mk p.2) ∧ (mk p.2).cells.toList = p.2 ∧ p.2.length = k := fun i p hp => by
          have hc := (cells_read (hps i p hp).2.2.1).1
          have := hmk p.1 p.2 (hps i p hp).2.2.2.1 (hps i p hp).2.2.2.2 hc
          exact ⟨this.1, this.2, hc⟩
        have := Rep.sl (g := gW W) k false ((ps.map (·.1)).map enE) b o cap (ps.map fun p => mk p.2) (by simp) (by simp) (by rw [hus]; exact hlc) hcm
          (fun i d u hd hu => by
            simp only [List.map_map, List.getElem?_map, Option.map_eq_some_iff] at hd hu
            obtain ⟨p, hp, rfl⟩ := hd
            obtain ⟨q, hq, rfl⟩ := hu
            rw [hp] at hq; cases hq
            exact (hmk' i p hp).1)
          (fun i u hu => by
            rw [List.getElem?_map, Option.map_eq_some_iff] at hu
            obtain ⟨p, hp, rfl⟩ := hu
            have := hmk' i p hp
            rw [← Array.length_toList, this.2.1, this.2.2])
          (fun u hu x hx => by
            obtain ⟨p, hp, rfl⟩ := List.mem_map.1 hu
            obtain ⟨i, hi⟩ := List.getElem?_of_mem hp
            rw [(hmk' i p hi).2.1] at hx
            exact (hps i p hi).2.2.2.2 x hx)
          (fun i u j x hu hx => by
            rw [List.getElem?_map, Option.map_eq_some_iff] at hu
            obtain ⟨p, hp, rfl⟩ := hu
            have hm := hmk' i p hp
            have hc := (cells_read (hps i p hp).2.2.1).2
            rw [← Array.getElem?_toList, hm.2.1] at hx
            have hj : j < k := by rw [← hm.2.2]; exact (List.getElem?_eq_some_iff.1 hx).1
            have := hc j hj
            rw [hx] at this
            show W.cell? ⟨b, o + i * k + j, none⟩ = some x
            have e : (Addr.add ⟨b, o, none⟩ (i * k)).add j = ⟨b, o + i * k + j, none⟩ := by
              unfold Addr.add
              split <;> split <;> simp_all
            rw [← e]; exact this)
        rw [hus] at this
        exact this
theorem rd_sliceA {t e : TypeId} {α : Type} {en : α → List DV} {sz : α → Nat} {ok : α → Prop} (h : Rd P W e en sz ok) (ht : P.underlying t = some (.slice e)) {k : Nat} (hk : P.cellsOf e = k) (hk0 : 0 < k) :
    Rd P W t (fun l : List α => [.sl k false (l.map fun a => .agg (en a))]) (fun l => (l.map sz).sum + 1) (fun l => ∀ a, a ∈ l → ok a) :=
  rd_sliceG h ht hk hk0 (fun a => .agg (en a)) (fun cs => .agg cs.toArray) fun a cs hr h1 hl => ⟨.agg _ _ hr.len hr.at_ h1, rfl⟩

/-- The fields from one on. -/
def RdF (P : Program) (W : World) (total off : Nat) (fs : List Field) {α : Type} (en : α → List DV) (sz : α → Nat) (ok : α → Prop) : Prop :=
  ∀ (H : Type) (enc : TypeId × Value → H) (n : Nat) (cs : List Value) (xs : List (DataW H × List MemPlace)), cs.length = total → xs.length = fs.length →
    (∀ (i : Nat) (f : Field), fs[i]? = some f → DataW.trod enc P W 0 (fun _ => true) true n f.type ((cs.drop f.offset).take (P.cellsOf f.type)) = xs[i]?) →
    ∃ a, ok a ∧ sz a ≤ Rows.uptoBulkAll (xs.map (·.1)) ∧ RepL (gW W) (en a) (cs.drop off) ∧ ∀ u, u ∈ cs.drop off → u.oneCell' = true
theorem rdF_nil {total : Nat} : RdF P W total total [] (fun _ : Unit => []) (fun _ => 0) (fun _ => True) := by
  intro H enc n cs xs hc hx hg
  refine ⟨(), trivial, Nat.zero_le _, ?_, ?_⟩
  · rw [List.drop_eq_nil_of_le (by omega)]; exact RepL.nil _
  · rw [List.drop_eq_nil_of_le (by omega)]; simp
theorem rdF_cons {total off k : Nat} {f : Field} {fs : List Field} {α β : Type} {en : α → List DV} {sz : α → Nat} {ok : α → Prop} {en' : β → List DV} {sz' : β → Nat} {ok' : β → Prop} (h : Rd P W f.type en sz ok) (hf : f.offset = off) (hk : P.cellsOf f.type = k) (h' : RdF P W total (off + k) fs en' sz' ok') :
    RdF P W total off (f :: fs) (fun p : α × β => en p.1 ++ en' p.2) (fun p => sz p.1 + sz' p.2) (fun p => ok p.1 ∧ ok' p.2) := by
  intro H enc n cs xs hc hx hg
  cases xs with
  | nil => simp at hx
  | cons x xs =>
    have h0 := hg 0 f rfl
    rw [hf, hk] at h0
    obtain ⟨a, a1, a2, a3, a4⟩ := h H enc n _ x h0
    obtain ⟨b, b1, b2, b3, b4⟩ := h' H enc n cs xs hc (by simpa using hx) fun i f hf => by have := hg (i + 1) f (by simpa using hf); simpa using this
    have e : cs.drop off = (cs.drop off).take k ++ cs.drop (off + k) := by rw [← List.drop_drop, List.take_append_drop]
    refine ⟨(a, b), ⟨a1, b1⟩, ?_, ?_, ?_⟩
    · simp only [List.map_cons, Rows.uptoBulkAll]; omega
    · rw [e]; exact a3.append b3
    · intro u hu
      rw [e, List.mem_append] at hu
      exact hu.elim (a4 u) (b4 u)
theorem rd_struct {t : TypeId} {fs : Array Field} {α : Type} {en : α → List DV} {sz : α → Nat} {ok : α → Prop} (ht : P.underlying t = some (.struct fs)) {total : Nat} (hc : P.cellsOf t = total) {fl : List Field} (hfl : fs.toList = fl) (h : RdF P W total 0 fl en sz ok) :
    Rd P W t en (fun a => sz a + 1) ok := by
  intro H enc n cs x hx
  subst hfl
  obtain ⟨xs, n', rfl, rfl, h1, h2, h3⟩ := DataW.trod_struct ht hx
  obtain ⟨a, a1, a2, a3, a4⟩ := h H enc n' cs xs (by rw [h1, hc]) (by simpa using h2) fun i f hf => h3 i f (by simpa using hf)
  exact ⟨a, a1, by simp only [Rows.uptoBulk]; omega, by simpa using a3, by simpa using a4⟩

/-- Arguments, one by one. -/
def RdA (P : Program) (W : World) (ts : List TypeId) {α : Type} (en : α → List DV) (sz : α → Nat) (ok : α → Prop) : Prop :=
  ∀ (H : Type) (enc : TypeId × Value → H) (base : Nat) (vs : List Value) (ds : List (DataW H)) (p : List MemPlace), (∀ (j : Nat) t v, ts[j]? = some t → vs[j]? = some v → Value.okWide P W .any base t v) → DataW.TrodAll enc P W 0 (fun _ => true) true ts vs ds p →
    ∃ a, ok a ∧ sz a ≤ Rows.uptoBulkAll ds ∧ RepL (gW W) (en a) vs
theorem rdA_nil : RdA P W [] (fun _ : Unit => []) (fun _ => 0) (fun _ => True) := by
  intro H enc base vs ds p hv h
  obtain ⟨rfl, rfl, rfl⟩ := trodAll_nil h
  exact ⟨(), trivial, Nat.zero_le _, RepL.nil _⟩
def oneT (P : Program) (t : TypeId) : Bool := match P.underlying t with
  | some .bool | some .string | some (.int _) | some (.slice _) => true
  | _ => false
theorem okWide_one {t : TypeId} (ht : oneT P t = true) {base : Nat} {v : Value} (h : Value.okWide P W .any base t v) : v.cells = #[v] ∧ v.oneCell' = true := by
  unfold oneT at ht
  unfold Value.okWide Cell.okWide Cell.ok at h
  split at ht
  · rename_i hu; rw [hu] at h; cases v <;> simp_all [Value.cells, Value.oneCell']
  · rename_i hu; rw [hu] at h; cases v <;> simp_all [Value.cells, Value.oneCell']
  · rename_i hu; rw [hu] at h; cases v <;> simp_all [Value.cells, Value.oneCell']
  · rename_i hu; rw [hu] at h; cases v <;> simp_all [Value.cells, Value.oneCell']
  · cases ht
theorem rdA_one {t : TypeId} {ts : List TypeId} {α β : Type} {en : α → DV} {sz : α → Nat} {ok : α → Prop} {en' : β → List DV} {sz' : β → Nat} {ok' : β → Prop} (h : Rd P W t (fun a => [en a]) sz ok) (ht : oneT P t = true) (h' : RdA P W ts en' sz' ok') :
    RdA P W (t :: ts) (fun p : α × β => en p.1 :: en' p.2) (fun p => sz p.1 + sz' p.2) (fun p => ok p.1 ∧ ok' p.2) := by
  intro H enc base vs ds p hv hA
  obtain ⟨v, vs', d, ds', p1, q1, rfl, rfl, rfl, h1, h2⟩ := trodAll_cons hA
  obtain ⟨b, b1, b2, b3⟩ := h' H enc base vs' ds' q1 (fun j t v x y => hv (j + 1) t v (by simpa using x) (by simpa using y)) h2
  obtain ⟨n, hn⟩ := h1
  obtain ⟨a, a1, a2, a3, a4⟩ := h H enc n _ _ hn
  obtain ⟨hc, ho⟩ := okWide_one ht (hv 0 t v rfl rfl)
  rw [hc] at a3
  refine ⟨(a, b), ⟨a1, b1⟩, by simp only [Rows.uptoBulkAll]; simp only at a2; omega, RepL.cons ?_ b3⟩
  obtain ⟨u, us, he, r1, r2⟩ := a3.uncons
  simp only [List.cons.injEq] at he
  rw [he.1]; exact r1
/-- Behind the call each argument reads as it did. -/
theorem trodAll_stays {H : Type} {enc : TypeId × Value → H} (hl : laidOutB P = true) {W' : World} (hb : Below W.heap.size W W') {sp : Nat → Bool} : ∀ {ts : List TypeId} {vs : List Value} {ds : List (DataW H)} {ps : List MemPlace}, (∀ t, t ∈ ts → P.readableRec t = true ∧ t < P.types.size) →
    DataW.TrodAll enc P W 0 (fun _ => true) true ts vs ds ps → (∀ p, p ∈ ps → p.block < W.heap.size ∧ sp p.block = true) → DataW.TrodAll enc P W' 0 sp true ts vs ds ps
  | [], vs, ds, ps, _, h, _ => by
    obtain ⟨rfl, rfl, rfl⟩ := trodAll_nil h
    exact rfl
  | t :: ts, vs, ds, ps, ht, h, hp => by
    obtain ⟨v, vs', d, ds', p1, q1, rfl, rfl, rfl, h1, h2⟩ := trodAll_cons h
    exact ⟨p1, q1, WideElems.Trod_stays hl (ht t List.mem_cons_self).1 (ht t List.mem_cons_self).2 h1 (fun x hx => hb.same (hp x (List.mem_append_left _ hx)).1) (fun x hx => (hp x (List.mem_append_left _ hx)).2),
      trodAll_stays hl hb (fun t' ht' => ht t' (List.mem_cons_of_mem _ ht')) h2 fun x hx => hp x (List.mem_append_right _ hx), rfl⟩

/-- THE LAW's CONTRACT, out of a walked call. -/
theorem law_contract {H : Type} (enc : TypeId × Value → H) {f : FuncId} {fn : Func} {s : ChangeSpec} {ts : List TypeId} {α : Type} {en : α → List DV} {sz : α → Nat} {ok : α → Prop} {tb : TypeId} (hr : RdA P W ts en sz ok) (hts : fn.params = ts.toArray) (hres : fn.resultTypes = #[tb]) (htb : P.underlying tb = some .bool) (hvars : s.vars = [])
    (hl : laidOutB P = true) (hT : ∀ t, t ∈ ts → P.readableRec t = true ∧ t < P.types.size) (hspec : ∀ ds : List (DataW H), ds.length = ts.length → s.fn H ds = { results := [.lit (.bool true)], args := ds })
    (hcall : ∀ a, ok a → sz a ≤ 1048576 → ACall P W f (en a) ⟨[], []⟩ fun d _ => d = dB true)
    (base : Nat) (args : Array Value) (ds gs : List (DataW H)) (before : List MemPlace) (hval : ∀ (j : Nat) t v, fn.params[j]? = some t → args[j]? = some v → Value.okWide P W .any base t v)
    (hW : DataW.Whole enc P fn.params.toList s.vars false W args.toList ds gs before) (hk : Rows.uptoBulkAll (ds ++ gs) ≤ 1048576) :
    Calls P f args W fun e W' => ∃ v, e = .returned v ∧ s.post enc P fn false true false false W args v W' := by
  have hW' := hW
  obtain ⟨p, q, hA, hV, rfl, hfz, hnd⟩ := hW
  rw [hvars] at hV
  have hgs : gs = [] ∧ q = [] := by
    cases gs with
    | nil => exact ⟨rfl, hV⟩
    | cons g gs => exact hV.elim
  obtain ⟨rfl, rfl⟩ := hgs
  rw [hts] at hA
  simp only [List.append_nil] at hk
  obtain ⟨a, a1, a2, a3⟩ := hr H enc base args.toList ds p (fun j t v x y => hval j t v (by rw [hts]; simpa using x) (by simpa using y)) (by simpa using hA)
  have hc := hcall a a1 (Nat.le_trans a2 hk) (gW W) args W (rel_start W) a3
  refine hc.mono ?_
  rintro e W' ⟨r, g', d, S', rfl, hle, hR, hd, rfl⟩
  have hb := hR.below.base
  have hrv : r = .bool true := rep_bool hd
  subst hrv
  have hlen : ds.length = ts.length := by
    have : ∀ {ts : List TypeId} {vs : List Value} {ds : List (DataW H)} {ps : List MemPlace}, DataW.TrodAll enc P W 0 (fun _ => true) true ts vs ds ps → ds.length = ts.length := by
      intro ts
      induction ts with
      | nil => intro vs ds ps h; obtain ⟨rfl, rfl, rfl⟩ := trodAll_nil h; rfl
      | cons t ts ih =>
        intro vs ds ps h
        obtain ⟨v, vs', d, ds', p1, q1, rfl, rfl, rfl, h1, h2⟩ := trodAll_cons h
        simp [ih h2]
    exact this (by simpa using hA)
  have hsp := hspec ds hlen
  have hold : ∀ x, x ∈ p → x.block < W.heap.size := fun x hx => hW'.lt x (by simpa using hx)
  have hres' : ∀ (b : Nat) (sp : Nat → Bool) (hd : Bool), DataW.TrodAll enc P W' b sp hd fn.resultTypes.toList ((Value.bool true).resultList fn.resultTypes.size) (s.fn H (ds ++ [])).results [] := by
    intro b sp hd
    rw [List.append_nil, hsp, hres]
    exact trodAll_cons_mk (shut_bool htb _) trodAll_mk0
  have hargs' : ∀ sp : Nat → Bool, (∀ x, x ∈ p → sp x.block = true) → DataW.TrodAll enc P W' 0 sp true fn.params.toList args.toList (s.fn H (ds ++ [])).args p := by
    intro sp hs
    rw [List.append_nil, hsp, hts]
    exact trodAll_stays hl hb hT (by simpa using hA) fun x hx => ⟨hold x hx, hs x hx⟩
  have hvars' : ∀ sp : Nat → Bool, DataW.TrodVars enc P W' sp s.vars (s.fn H (ds ++ [])).vars [] := by
    intro sp
    rw [List.append_nil, hsp, hvars]
    exact rfl
  refine ⟨.bool true, rfl, ds, [], p ++ [], [], p, [], hW', hres' _ _ _, hargs' _ (fun x hx => by simpa using hold x hx), hvars' _, World.keptBut_mono (fun x hx => ⟨hx, .inr (by simpa using hx)⟩) (hb.frame _), fun _ => ?_⟩
  refine ⟨?_, _, _, ([] ++ p) ++ [], ⟨[] ++ p, [], trodAll_append (hargs' _ (fun _ _ => rfl)) (hres' _ _ _), hvars' _, rfl, ?_, ?_⟩, ?_⟩
  · exact ok_one hres rfl (okWide_bool_mk htb _)
  · intro b off hp
    have hp : MemPlace.cell b off ∈ p := by simpa using hp
    rw [hb.frozen (hold _ hp)]
    exact hfz b off (by simpa using hp)
  · intro ha; cases ha
  · intro x hx _
    simpa using hx
end
end Go.Proofs.YtfieabidajilmaaGreat

namespace Go.Proofs.YtfieabidajilmaaGreat
open Aml Go Go.RowKit Go.ChangeShapes
set_option linter.unusedVariables false
set_option linter.unusedSimpArgs false
set_option maxRecDepth 100000
end Go.Proofs.YtfieabidajilmaaGreat

namespace Go.Proofs.YtfieabidajilmaaGreat
open Aml Go
set_option linter.unusedVariables false
set_option linter.unusedSimpArgs false
set_option maxRecDepth 100000
/-- A view, as the law has it. -/
@[go_sem] def dBl (c : C) : DV := .agg [dS c.key, dI (kid0 c).page, dB (kid0 c).leaf, .sl 4 false ((kid0 c).l.map dC)]
@[go_sem] def eL (n : N) (l : List C) : DV := .agg [dI n.page, dB n.leaf, .sl 4 false (n.l.map dC), .sl 4 false (l.map dBl)]
end Go.Proofs.YtfieabidajilmaaGreat

namespace Go.Proofs.YtfieabidajilmaaGreat
open Aml Go
set_option linter.unusedVariables false
set_option linter.unusedSimpArgs false
set_option maxRecDepth 100000
end Go.Proofs.YtfieabidajilmaaGreat

namespace Go.Proofs.YtfieabidajilmaaGreat
open Aml Go
set_option linter.unusedVariables false
set_option linter.unusedSimpArgs false
set_option maxRecDepth 100000

mutual
/-- The nodes in the order in which they come; none below one of which something is so. -/
def visN (ends : N → Bool) : N → List N
  | .mk p b l => .mk p b l :: (if ends (.mk p b l) then [] else if b then [] else visCs ends l)
def visC (ends : N → Bool) : C → List N
  | .mk _ _ _ kid => visNs ends kid
def visCs (ends : N → Bool) : List C → List N
  | [] => []
  | c :: l => visCs ends l ++ visC ends c
def visNs (ends : N → Bool) : List N → List N
  | [] => []
  | n :: _ => visN ends n
end
theorem visNs_eq (ends : N → Bool) : ∀ l, visNs ends l = (l.take 1).flatMap (visN ends)
  | [] => by simp [visNs]
  | n :: l => by simp [visNs]
theorem visCs_eq (ends : N → Bool) : ∀ l, visCs ends l = (l.flatMap fun c => c.kid.take 1).reverse.flatMap (visN ends)
  | [] => by simp [visCs]
  | c :: l => by
    cases c with | mk k d ps kid =>
    have hr : (kid.take 1).reverse = kid.take 1 := by cases kid <;> rfl
    simp only [visCs, visC, visNs_eq, visCs_eq ends l, List.flatMap_cons, List.reverse_append, List.flatMap_append, C.kid_mk, hr]
theorem visN_eq (ends : N → Bool) (n : N) : visN ends n = n :: (if ends n then [] else (kidsOf n).reverse.flatMap (visN ends)) := by
  cases n with | mk p b l =>
  simp only [visN, kidsOf, N.leaf_mk, N.l_mk, visCs_eq]
  cases b <;> simp
/-- What is still to come, the last first. -/
def visS (ends : N → Bool) (s : List N) : List N := s.reverse.flatMap (visN ends)
theorem visS_snoc (ends : N → Bool) (s : List N) (x : N) : visS ends (s ++ [x]) = x :: visS ends (s ++ if ends x then [] else kidsOf x) := by
  unfold visS
  rw [List.reverse_append, List.reverse_cons, List.reverse_nil, List.nil_append, List.flatMap_append, List.flatMap_cons, List.flatMap_nil, List.append_nil, visN_eq, List.cons_append]
  congr 1
  cases ends x <;> simp [List.reverse_append, List.flatMap_append]
set_option maxHeartbeats 4000000 in
theorem nodesW (w0 : W0) (n : N) (fe : FuncId) (S : St) : ACall Tryz.prog w0 106 [eT n, .v (.func (.func fe) #[] #[])] S (fun d S' => ∃ (b : FN S.box) (c : FN ((b.n, cT n) :: S.box)), d = .v (.func (.func 135) #[] #[.pointer (some ⟨b.n, 0, none⟩), .pointer (some ⟨c.n, 0, none⟩)]) ∧ S' = ⟨(c.n, [.v (.func (.func fe) #[] #[])]) :: (b.n, cT n) :: S.box, S.acc⟩) := by
  refine fnO [] mx Tryz.func106 rfl rfl (by kernel_rfl) ?_; refine @goW _ (goS1 @Tryz.ntmps106 ?_)
  exact fun b c => ⟨b, c, rfl, rfl⟩
theorem ex_snoc {α : Type} (f : α → DV) (l : List α) {d : DV} (ho : okE d = true) (F : DV → Prop) : exK (l.map f ++ [d]) l.length F = F d := by
  unfold exK
  have h : (l.map f ++ [d])[l.length]? = some d := by rw [List.getElem?_append_right (by simp)]; simp
  simp [h]
  exact fun _ => ho
theorem take_map_snoc {α : Type} (f : α → DV) (l : List α) (d : DV) : (l.map f ++ [d]).take l.length = l.map f := by
  rw [List.take_append_of_le_length (by rw [List.length_map]; exact Nat.le_refl _)]
  exact List.take_of_length_le (by rw [List.length_map]; exact Nat.le_refl _)
theorem lk_ren_new {L : List (Nat × Ob)} {w m : Nat} {o o' : Ob} (h : lk L w = some o') (hm : nin L m) : lk (ren L w (m, o)) m = some o := by
  induction L with
  | nil => cases h
  | cons p t ih =>
    obtain ⟨k, x⟩ := p
    simp only [lk] at h
    simp only [ren]
    split
    · simp [lk]
    · rename_i hne
      rw [if_neg hne] at h
      have hk : ¬ k = m := fun e => by have := nin_lk hm; rw [← e] at this; simp [lk] at this
      have hm' : nin t m := hm.2.2
      simp only [lk, if_neg hk]
      exact ih h hm'
theorem lk_ren_old {L : List (Nat × Ob)} {w m c : Nat} {o : Ob} (h1 : c ≠ w) (h2 : c ≠ m) : lk (ren L w (m, o)) c = lk L c := by
  induction L with
  | nil => rfl
  | cons p t ih =>
    obtain ⟨k, x⟩ := p
    simp only [ren]
    split
    · rename_i e; subst e; simp only [lk]; rw [if_neg (fun e => h2 e.symm), if_neg (fun e => h1 e.symm)]
    · simp only [lk, ih]
theorem lk_dom {α : Type} : ∀ {L L' : List (Nat × α)} {n : Nat}, L.map (·.1) = L'.map (·.1) → lk L n = none → lk L' n = none
  | [], [], _, _, _ => rfl
  | [], _ :: _, _, h, _ => by simp at h
  | _ :: _, [], _, h, _ => by simp at h
  | (k, x) :: t, (k', x') :: t', n, h, hn => by
    simp only [List.map_cons, List.cons.injEq] at h
    obtain ⟨e, h⟩ := h
    subst e
    simp only [lk] at hn ⊢
    split at hn
    · cases hn
    · rename_i hne; rw [if_neg hne]; exact lk_dom h hn
theorem visS_len (ends : N → Bool) (s : List N) : s.length ≤ (visS ends s).length := by
  unfold visS
  rw [← List.length_reverse]
  induction s.reverse with
  | nil => exact Nat.le_refl 0
  | cons x t ih => rw [List.flatMap_cons, visN_eq]; simp only [List.length_append, List.length_cons]; omega
theorem lk_up (L : List (Nat × List DV)) (b c : Nat) (v : List DV) : lk (up L b v) c = if b = c then (lk L c).map (fun _ => v) else lk L c := by
  split
  · rename_i e; subst e; exact lk_up_same _ _ _
  · rename_i e; exact lk_up_ne e _ _
theorem Has_upd {X T : St} {b : Nat} (h : Has X T) (v : List DV) : Has ⟨up X.box b v, X.acc⟩ ⟨up T.box b v, T.acc⟩ := ⟨fun c x hc => by
  simp only [lk_up] at hc ⊢
  split at hc
  · rename_i e
    obtain ⟨y, hy, rfl⟩ := Option.map_eq_some_iff.1 hc
    rw [h.box _ _ hy, if_pos e]; rfl
  · rename_i e
    rw [if_neg e]; exact h.box _ _ hc, h.acc⟩
theorem up_same {α : Type} {L : List (Nat × α)} {b : Nat} {v : α} (h : lk L b = some v) : up L b v = L := by
  induction L with
  | nil => rfl
  | cons p t ih =>
    obtain ⟨k, x⟩ := p
    simp only [lk] at h
    simp only [up]
    split
    · rename_i e; rw [if_pos e] at h; cases h; rfl
    · rename_i e; rw [if_neg e] at h; rw [ih h]
theorem lk_upA (L : List (Nat × Ob)) (b c : Nat) (v : Ob) : lk (up L b v) c = if b = c then (lk L c).map (fun _ => v) else lk L c := by
  split
  · rename_i e; subst e; exact lk_up_same _ _ _
  · rename_i e; exact lk_up_ne e _ _
theorem Has_upd2 {X T : St} {b l : Nat} (h : Has X T) (v : List DV) (o : Ob) : Has ⟨up X.box b v, up X.acc l o⟩ ⟨up T.box b v, up T.acc l o⟩ := ⟨(Has_upd h v).box, fun c x hc => by
  simp only [lk_upA] at hc ⊢
  split at hc
  · rename_i e
    obtain ⟨y, hy, rfl⟩ := Option.map_eq_some_iff.1 hc
    rw [h.acc _ _ hy, if_pos e]; rfl
  · rename_i e
    rw [if_neg e]; exact h.acc _ _ hc⟩
theorem Kp_up2 {X T : St} {b l : Nat} {v : List DV} {o : Ob} (hb : ¬ lk X.box b = none) (hl : ¬ lk X.acc l = none) : Kp X T ⟨up T.box b v, up T.acc l o⟩ := ⟨fun c x hc hx => by
  show lk (up T.box b v) c = some x
  rw [lk_up_ne (fun e => hb (by rw [e]; exact hc))]; exact hx, fun c x hc hx => by
  show lk (up T.acc l o) c = some x
  rw [lk_up_ne (fun e => hl (by rw [e]; exact hc))]; exact hx⟩
structure Wk1 where
  T : St
  w : Nat
  pre : List N
  s : List N
set_option maxHeartbeats 8000000 in
/-- The iterator: at the yield of whatever loop, with whatever store of the caller's. -/
theorem iterW (w0 : W0) (l b2 b3 : Nat) (n : N) (ends : N → Bool) (fe : FuncId) (X : List N → St) (B : Nat) (hB : (visN ends n).length ≤ B) (hB2 : B ≤ 1048576)
    (h2 : ∀ pre, lk (X pre).box b2 = some (cT n)) (h3 : ∀ pre, lk (X pre).box b3 = some [.v (.func (.func fe) #[] #[])]) (hfe : okF Tryz.prog fe = true)
    (hend : ∀ x T, ACall Tryz.prog w0 fe [eT x] T (fun d T' => d = dB (ends x) ∧ T' = T))
    (hdb : ∀ pre, (X pre).box.map (·.1) = (X []).box.map (·.1)) (hda : ∀ pre, (X pre).acc.map (·.1) = (X []).acc.map (·.1))
    (hy : YK Tryz.prog w0 l X (fun x => [eT x]) (visN ends n)) : ∀ T, Has (X []) T → ACall Tryz.prog w0 135 [.v (.func (.yield l) #[] #[]), .v (.pointer (some ⟨b2, 0, none⟩)), .v (.pointer (some ⟨b3, 0, none⟩))] T (fun _ T' => Has (X (visN ends n)) T') := by
  intro T hT
  have t2 : lk T.box b2 = some (cT n) := hT.box _ _ (h2 [])
  have t3 : lk T.box b3 = some [.v (.func (.func fe) #[] #[])] := hT.box _ _ (h3 [])
  refine fnO [0] mx Tryz.func135 rfl rfl (by kernel_rfl) ?_; simp only [Tryz.ntmps135, List.length_cons, List.length_nil, Nat.reduceAdd, Nat.reduceSub, List.reduceReplicate, List.cons_append, List.nil_append]; refine @goW _ (goS3 @Tryz.ntmps135 @t2 @t3 ?_)
  refine arrR (by kernel_rfl) ?_
  simp (maxDischargeDepth := 12) (maxSteps := 1000000) -implicitDefEqProofs only [go_sem, Nat.reduceAdd, Nat.reduceSub, Nat.reduceMul, Nat.reduceLeDiff, Nat.reduceEqDiff, Nat.reduceGT, Nat.reduceBEq, reduceCtorEq, ↓reduceIte, Int.reduceToNat, Int.reduceLE, Int.reduceLT, Int.reduceNe, Int.reduceEq, t2, t3, cT]
  intro lb
  refine loopK [] [0, 2, 4] (fun s : Wk1 => [(4, .acc s.w s.s.length)]) (fun s => s.T) (fun s => Has (X s.pre) s.T ∧ lk s.T.acc s.w = some (.arr 5 (s.s.map dT)) ∧ lk (X s.pre).acc s.w = none ∧ s.pre ++ visS ends s.s = visN ends n) (fun s => (visN ends n).length - s.pre.length) ⟨⟨T.box, (lb.n, .arr 5 [dT n]) :: T.acc⟩, lb.n, [], [n]⟩ mx (by kernel_rfl) ?_ ?_
  · have hnone : lk T.acc lb.n = none := fn_lk lb
    refine ⟨⟨⟨hT.box, fun l' o ho => ?_⟩, by simp [lk], ?_, ?_⟩, ?_, ?_⟩
    · have := hT.acc _ _ ho
      show lk ((lb.n, _) :: T.acc) l' = _
      simp only [lk]
      rw [if_neg (fun e => by rw [e, this] at hnone; cases hnone)]; exact this
    · show lk (X []).acc lb.n = none
      cases hx : lk (X []).acc lb.n with
      | none => rfl
      | some o => rw [hT.acc _ _ hx] at hnone; cases hnone
    · show [] ++ visS ends [n] = visN ends n
      simp [visS]
    · exact @goW _ goT
    · exact @goW _ goT
  · rintro ⟨T, w, pre, st⟩ ⟨hT', hw, hwX, hV⟩
    simp only at hT' hw hwX hV
    have t2 : lk T.box b2 = some (cT n) := hT'.box _ _ (h2 pre)
    have t3 : lk T.box b3 = some [.v (.func (.func fe) #[] #[])] := hT'.box _ _ (h3 pre)
    rcases List.eq_nil_or_concat st with rfl | ⟨st, x, rfl⟩
    · have hV' : pre = visN ends n := by simpa [visS] using hV
      refine @goW _ (goS2 @t3 @hw ?_)
      rw [← hV']
      exact ⟨fun h => absurd h (by omega), fun _ => hT'⟩
    · rw [List.concat_eq_append] at hw hV ⊢
      rw [visS_snoc] at hV
      have hlen : (st ++ [x]).length = st.length + 1 := by simp
      have hw2 : lk T.acc w = some (.arr 5 (st.map dT ++ [eT x])) := by rw [hw, List.map_append, List.map_cons, List.map_nil, dT_eq]
      have hsl := visS_len ends (st ++ if ends x then [] else kidsOf x)
      have hVl : pre.length + (1 + (visS ends (st ++ if ends x then [] else kidsOf x)).length) ≤ B := by rw [← hV] at hB; simp only [List.length_append, List.length_cons] at hB; omega
      rw [List.length_append] at hsl
      have ewrap : IntKind.i64.wrap (((st.length + 1 : Nat) : Int) - 1) = (st.length : Int) := by rw [w64] <;> omega
      refine @goW _ (goS6 @t3 @hw2 @hlen @ewrap @ex_snoc @take_map_snoc ?_)
      refine ⟨fun _ b5 => .inl ⟨.inr (by omega), ⟨_, _, _, rfl⟩, fun m => ?_⟩, fun h => absurd (by omega) h⟩
      have hbn : lk T.box b5.n = none := fn_lk b5
      have hmn : lk T.acc m.n = none := fn_lk m
      have hXb : lk (X pre).box b5.n = none := by
        cases hx : lk (X pre).box b5.n with
        | none => rfl
        | some o => rw [hT'.box _ _ hx] at hbn; cases hbn
      have hXm : lk (X pre).acc m.n = none := by
        cases hx : lk (X pre).acc m.n with
        | none => rfl
        | some o => rw [hT'.acc _ _ hx] at hmn; cases hmn
      have hmw : m.n ≠ w := by rintro e; rw [e, hw] at hmn; cases hmn
      have hT1 : Has (X pre) ⟨(b5.n, cT x) :: T.box, ren T.acc w (m.n, .arr 5 (st.map dT))⟩ := ⟨fun c y hc => by
        simp only [lk]
        rw [if_neg (fun e => by rw [← e, hXb] at hc; cases hc)]; exact hT'.box c y hc, fun c o hc => by
        rw [lk_ren_old (fun e => by rw [e, hwX] at hc; cases hc) (fun e => by rw [e, hXm] at hc; cases hc)]; exact hT'.acc c o hc⟩
      have hpre : (pre ++ [x]) <+: visN ends n := ⟨_, by rw [List.append_assoc]; exact hV⟩
      refine useY (hy pre x _ hpre hT1) ?_
      rintro d T2 ⟨rfl, hT2, hK⟩
      have u5 : lk T2.box b5.n = some (cT x) := hK.box _ _ hXb (by simp only [lk, if_true]; rfl)
      have um : lk T2.acc m.n = some (.arr 5 (st.map dT)) := hK.acc _ _ hXm (lk_ren_new hw m.h)
      have u3 : lk T2.box b3 = some [.v (.func (.func fe) #[] #[])] := hT2.box _ _ (h3 _)
      have hX2m : lk (X (pre ++ [x])).acc m.n = none := lk_dom ((hda _).trans (hda _).symm) hXm
      have hmeas : (visN ends n).length - (pre ++ [x]).length < (visN ends n).length - pre.length := by
        have := hpre.length_le
        rw [List.length_append] at this ⊢
        simp only [List.length_cons, List.length_nil] at *
        omega
      simp (maxDischargeDepth := 12) (maxSteps := 1000000) -implicitDefEqProofs only [go_sem, Nat.reduceAdd, Nat.reduceSub, Nat.reduceMul, Nat.reduceLeDiff, Nat.reduceEqDiff, Nat.reduceGT, Nat.reduceBEq, reduceCtorEq, ↓reduceIte, Int.reduceToNat, Int.reduceLE, Int.reduceLT, Int.reduceNe, Int.reduceEq, u5, um, u3, cT, hfe]
      refine use1 (hend x _) ?_
      simp (maxDischargeDepth := 12) (maxSteps := 1000000) -implicitDefEqProofs only [go_sem, Nat.reduceAdd, Nat.reduceSub, Nat.reduceMul, Nat.reduceLeDiff, Nat.reduceEqDiff, Nat.reduceGT, Nat.reduceBEq, reduceCtorEq, ↓reduceIte, Int.reduceToNat, Int.reduceLE, Int.reduceLT, Int.reduceNe, Int.reduceEq, u5, um, u3, cT]
      have hlV : (st.length + (kidsOf x).length) * 88 ≤ 140737488355328 ∧ st.length + (kidsOf x).length ≤ maxLen ∨ ends x = true := by
        cases he : ends x
        · rw [he] at hsl hVl
          simp only [Bool.false_eq_true, if_false] at hsl hVl
          refine .inl ⟨by omega, ?_⟩
          have : maxLen = 9223372036854775807 := rfl
          omega
        · exact .inr rfl
      refine ⟨fun he => ?_, fun he => ?_⟩
      · rw [he, if_pos rfl, List.append_nil] at hV
        refine ⟨⟨T2, m.n, pre ++ [x], st⟩, ⟨hT2, um, hX2m, by rw [List.append_assoc]; exact hV⟩, hmeas, .refl _, .refl _⟩
      · rw [he, if_neg (by simp)] at hV
        obtain ⟨q1, q2⟩ := hlV.resolve_right (by rw [he]; simp)
        refine ⟨q1, q2, ⟨⟨T2.box, up T2.acc m.n (.arr 5 ((st ++ kidsOf x).map dT))⟩, m.n, pre ++ [x], st ++ kidsOf x⟩, ⟨⟨hT2.box, fun l o hl => ?_⟩, ?_, hX2m, by rw [List.append_assoc]; exact hV⟩, hmeas, Wk.eq (by rw [List.length_append]), .refl _⟩
        · show lk (up T2.acc m.n _) l = some o
          rw [lk_up_ne (fun e => by rw [← e, hX2m] at hl; cases hl)]
          exact hT2.acc l o hl
        · show lk (up T2.acc m.n _) m.n = _
          rw [lk_up_same, um]; rfl
end Go.Proofs.YtfieabidajilmaaGreat

namespace Go.Proofs
open Go.Shelf
def Tryz.lays189_ren : Go.Shelf.Ren := ⟨fun | 189 => 112 | 125 => 138 | 257 => 137 | 128 => 168 | 129 => 169 | 294 => 160 | 295 => 161 | 296 => 162 | 297 => 163 | 298 => 164 | 299 => 165 | 216 => 109 | 300 => 166 | 301 => 167 | 328 => 179 | 329 => 180 | 330 => 181 | 331 => 182 | 332 => 183 | 215 => 136 | 343 => 191 | n => n, fun | 28 => 69 | 3 => 3 | 46 => 181 | 0 => 0 | 51 => 234 | 53 => 83 | 4 => 4 | 183 => 228 | 182 => 227 | 131 => 92 | 5 => 5 | 9 => 9 | 218 => 250 | 222 => 254 | 228 => 262 | 229 => 263 | n => n, fun | n => n⟩
theorem Tryz.lays189 : Go.Proofs.Lays.n189 Tryz.prog Tryz.lays189_ren := {
  mixed := by kernel_rfl
  f125 := Tryz.func138.trans (congrArg some (by kernel_rfl))
  f128 := Tryz.func168.trans (congrArg some (by kernel_rfl))
  f129 := Tryz.func169.trans (congrArg some (by kernel_rfl))
  f189 := Tryz.func112.trans (congrArg some (by kernel_rfl))
  f215 := Tryz.func136.trans (congrArg some (by kernel_rfl))
  f216 := Tryz.func109.trans (congrArg some (by kernel_rfl))
  f257 := Tryz.func137.trans (congrArg some (by kernel_rfl))
  f294 := Tryz.func160.trans (congrArg some (by kernel_rfl))
  f295 := Tryz.func161.trans (congrArg some (by kernel_rfl))
  f296 := Tryz.func162.trans (congrArg some (by kernel_rfl))
  f297 := Tryz.func163.trans (congrArg some (by kernel_rfl))
  f298 := Tryz.func164.trans (congrArg some (by kernel_rfl))
  f299 := Tryz.func165.trans (congrArg some (by kernel_rfl))
  f300 := Tryz.func166.trans (congrArg some (by kernel_rfl))
  f301 := Tryz.func167.trans (congrArg some (by kernel_rfl))
  f328 := Tryz.func179.trans (congrArg some (by kernel_rfl))
  f329 := Tryz.func180.trans (congrArg some (by kernel_rfl))
  f330 := Tryz.func181.trans (congrArg some (by kernel_rfl))
  f331 := Tryz.func182.trans (congrArg some (by kernel_rfl))
  f332 := Tryz.func183.trans (congrArg some (by kernel_rfl))
  f343 := Tryz.func191.trans (congrArg some (by kernel_rfl))
  t0 := Tryz.underlying0
  a0 := Tryz.isAgg0
  z0 := Tryz.sizeOf0
  v0 := Tryz.zeroValue0
  t3 := Tryz.underlying3
  a3 := Tryz.isAgg3
  z3 := Tryz.sizeOf3
  v3 := Tryz.zeroValue3
  t4 := Tryz.underlying4
  a4 := Tryz.isAgg4
  z4 := Tryz.sizeOf4
  v4 := Tryz.zeroValue4
  t5 := Tryz.underlying5
  a5 := Tryz.isAgg5
  z5 := Tryz.sizeOf5
  v5 := Tryz.zeroValue5
  t9 := Tryz.underlying9
  a9 := Tryz.isAgg9
  z9 := Tryz.sizeOf9
  v9 := Tryz.zeroValue9
  t28 := Tryz.underlying69
  a28 := Tryz.isAgg69
  z28 := Tryz.sizeOf69
  v28 := Tryz.zeroValue69
  t46 := Tryz.underlying181
  a46 := Tryz.isAgg181
  z46 := Tryz.sizeOf181
  v46 := Tryz.zeroValue181
  t51 := Tryz.underlying234
  a51 := Tryz.isAgg234
  z51 := Tryz.sizeOf234
  v51 := Tryz.zeroValue234
  t53 := Tryz.underlying83
  a53 := Tryz.isAgg83
  z53 := Tryz.sizeOf83
  v53 := Tryz.zeroValue83
  t131 := Tryz.underlying92
  a131 := Tryz.isAgg92
  z131 := Tryz.sizeOf92
  v131 := Tryz.zeroValue92
  t182 := Tryz.underlying227
  a182 := Tryz.isAgg227
  z182 := Tryz.sizeOf227
  v182 := Tryz.zeroValue227
  t183 := Tryz.underlying228
  a183 := Tryz.isAgg228
  z183 := Tryz.sizeOf228
  v183 := Tryz.zeroValue228
  t218 := Tryz.underlying250
  a218 := Tryz.isAgg250
  z218 := Tryz.sizeOf250
  v218 := Tryz.zeroValue250
  t222 := Tryz.underlying254
  a222 := Tryz.isAgg254
  z222 := Tryz.sizeOf254
  v222 := Tryz.zeroValue254
  t228 := Tryz.underlying262
  a228 := Tryz.isAgg262
  z228 := Tryz.sizeOf262
  v228 := Tryz.zeroValue262
  t229 := Tryz.underlying263
  a229 := Tryz.isAgg263
  z229 := Tryz.sizeOf263
  v229 := Tryz.zeroValue263 }
open Go.Sort Go.RowKit in
theorem Tryz.slices_Sort_int (blk off cap : Nat) (zs : List Int) (w : World) (hH : Holds (Value.int .i64) w blk off zs.toArray) (hblk : blk < w.heap.size) (hsz : zs.length < 4611686018427387904) :
    Calls Tryz.prog 112 #[.slice (some ⟨blk, off, none⟩) zs.length cap] w fun e w' =>
      e = .returned (.tuple #[]) ∧ ∃ n os, w' = grow (putRow (Value.int .i64) (Sort.ahead w n) blk off (zs.mergeSort fun x y => decide (x ≤ y)).toArray) os := Any.slices_Sort_int Tryz.lays189 blk off cap zs w hH hblk hsz
open Go.RowKit Go.Sort in
/-- .. and plain. (LAID: no walk: one application.) -/
theorem Tryz.slices_Sort_int_none (p : Option Addr) (cap : Nat) (w : World) :
    Calls Tryz.prog 112 #[.slice p 0 cap] w fun e w' => e = .returned (.tuple #[]) ∧ w' = w := Any.slices_Sort_int_none Tryz.lays189 p cap w
end Go.Proofs

namespace Go.Proofs.YtfieabidajilmaaGreat
open Aml Go
set_option linter.unusedVariables false
set_option linter.unusedSimpArgs false
set_option maxRecDepth 100000

/-- Numbers, rising. -/
def srt (l : List Int) : List Int := l.mergeSort fun x y => decide (x ≤ y)
theorem srt_length (l : List Int) : (srt l).length = l.length := List.length_mergeSort l

theorem get_bang {l : List Int} {j : Nat} {a : Int} (h : l[j]? = some a) : l.toArray[j]! = a := by
  obtain ⟨hlt, rfl⟩ := List.getElem?_eq_some_iff.1 h
  rw [getElem!_pos l.toArray j (by simpa using hlt)]
  simp
theorem sorted_heap {w : World} {n b e : Nat} {cs : Array Value} {zs : List Int} {os : Array Obj} (hb : w.heap[b]? = some (.cells cs e (0, 0))) (hn : zs.length ≤ cs.size) :
    ∃ cs', (Go.Sort.grow (Go.Sort.putRow (Value.int .i64) (Go.Sort.ahead w n) b 0 zs.toArray) os).heap[b]? = some (.cells cs' e (0, 0)) ∧ cs'.size = cs.size ∧ (∀ (i : Nat) (a : Int), zs[i]? = some a → cs'[i]? = some (.int .i64 a)) ∧ ∀ x, x ∈ cs'.toList → x ∈ cs.toList ∨ ∃ a, x = .int .i64 a := by
  refine ⟨Go.Sort.putCells (Value.int .i64) 0 zs.toArray cs, ?_, by simp [Go.Sort.putCells], fun i a hi => ?_, fun x hx => ?_⟩
  · rw [Go.Sort.heap_grow_old _ _ (by have := (Array.getElem?_eq_some_iff.1 hb).1; simpa using this)]
    simp only [Go.Sort.putRow, Go.Sort.mapBlock, Go.Sort.heap_ahead, Array.getElem?_modify, if_true, hb, Option.map_some, Go.Sort.onCells]
  · have hlt : i < zs.length := (List.getElem?_eq_some_iff.1 hi).1
    have hc : cs[i]? = some cs[i] := Array.getElem?_eq_getElem (by omega)
    simp only [Go.Sort.putCells, Array.getElem?_mapIdx, hc, Option.map_some]
    rw [if_pos (by simp; omega)]
    simp only [Nat.sub_zero]
    rw [get_bang hi]
  · obtain ⟨i, hi⟩ := List.mem_iff_getElem?.1 hx
    rw [Array.getElem?_toList] at hi
    simp only [Go.Sort.putCells, Array.getElem?_mapIdx, Option.map_eq_some_iff] at hi
    obtain ⟨y, hy, rfl⟩ := hi
    split
    · exact .inr ⟨_, rfl⟩
    · exact .inl (Array.mem_toList_iff.2 (Array.mem_of_getElem? hy))

set_option maxHeartbeats 400000 in
/-- slices.Sort at []int, of a growing slice. -/
theorem sort_int (w0 : W0) {l : Nat} {zs : List Int} {S : St} (hl : lk S.acc l = some (.arr 1 (zs.map dI))) (hsz : zs.length < 4611686018427387904) :
    ACall Tryz.prog w0 112 [.acc l zs.length] S (fun d S' => d = .tup [] ∧ S' = ⟨S.box, up S.acc l (.arr 1 ((srt zs).map dI))⟩) := by
  intro g vs w h1 h2
  obtain ⟨u, us, hvs, hr, h3⟩ := h2.uncons
  have hus : us = [] := List.eq_nil_of_length_eq_zero (by have := h3.len; simpa using this.symm)
  subst hus
  have hvs' : vs = #[u] := by rw [← Array.toArray_toList (xs := vs), hvs]
  subst hvs'
  obtain ⟨o, c, hv, ha⟩ := rep_acc hr
  subst hv
  by_cases hz : zs = []
  · subst hz
    refine (Tryz.slices_Sort_int_none o c w).mono ?_
    rintro e w' ⟨rfl, rfl⟩
    refine ⟨_, g, .tup [], _, rfl, .refl g, ?_, .tup [] [] rfl (by intro i d u h; simp at h), rfl, rfl⟩
    have : srt [] = [] := by simp [srt]
    rw [this, up_self hl]
    exact h1
  · have hpos : 0 < zs.length := List.length_pos_iff.2 hz
    obtain ⟨ow, hO⟩ := h1.open_
    obtain ⟨hs, ⟨he, o2, _⟩ | ⟨b, c2, cs, e, q1, q2, q3, q4, q5, q6, q7, q8, q8x, us, q9, q10, q11, q12⟩⟩ := hO.acc l _ (lk_mem hl)
    · exact absurd (by simpa using he) hz
    · rw [List.length_map] at q1 q7
      have q1' := q1
      rw [ha] at q1
      simp only [Option.some.injEq, Value.slice.injEq, true_and] at q1
      obtain ⟨rfl, rfl⟩ := q1
      rw [Nat.mul_one] at q6
      have hul : us.length = zs.length := by have := q9.len; simpa using this.symm
      have hus : ∀ (i : Nat) (a : Int), zs[i]? = some a → us[i]? = some (.int .i64 a) := by
        intro i a hi
        have hlt : i < us.length := by rw [hul]; exact (List.getElem?_eq_some_iff.1 hi).1
        have hu : us[i]? = some us[i] := List.getElem?_eq_getElem hlt
        have := q9.at_ i (dI a) _ (by simp [hi]) hu
        have := rep_v this
        rw [hu, this]
      have hcs : ∀ (i : Nat) (a : Int), zs[i]? = some a → cs[i]? = some (.int .i64 a) := by
        intro i a hi
        have := q12 i _ 0 _ (hus i a hi) (show (Value.int IntKind.i64 a).cells[0]? = some (.int .i64 a) by rfl)
        simpa using this
      have hH : Go.Sort.Holds (Value.int .i64) w b 0 zs.toArray := by
        intro j hj
        have hj' : j < zs.length := by simpa using hj
        have hi : zs[j]? = some zs[j] := List.getElem?_eq_getElem hj'
        constructor
        · rw [cells_at q5, Nat.zero_add, hcs j _ hi, get_bang hi]
        · simp [World.frozen?, q5]
      refine (Tryz.slices_Sort_int b 0 c zs w hH (lt_of_heap q5) hsz).mono ?_
      rintro ex w' ⟨rfl, n, os, rfl⟩
      obtain ⟨cs', h5, h6, h7, h8⟩ := sorted_heap (n := n) (os := os) (zs := srt zs) q5 (by rw [srt_length]; omega)
      refine ⟨_, g, .tup [], _, rfl, .refl g, ?_, .tup [] [] rfl (by intro i d u h; simp at h), rfl, rfl⟩
      refine h1.rearr (us := (srt zs).map fun a => Value.int .i64 a) (b := b) (c := c) (e := e) (cs := cs') hl (by rw [List.length_map]; exact ha) (by simp [srt_length]) (by omega) h5 (by omega) ?_ (by simp) ?_ ?_ ?_ ?_ ?_ fun x hx => (h8 x hx).elim (q8x x) fun ⟨a, e⟩ => by rw [e]; rfl
      · refine h1.below.step ⟨rfl, rfl, rfl, by simp, fun k hk => ?_⟩ b (nc_cells q5) fun k hk hne => ?_
        · rw [Go.Sort.heap_grow_old _ _ (by simp; exact Nat.lt_of_lt_of_le hk h1.below.size)]
          have : b ≠ k := by omega
          simp [Go.Sort.putRow, Go.Sort.mapBlock, Array.getElem?_modify, this]
        · rw [Go.Sort.heap_grow_old _ _ (by simp; exact hk)]
          have : b ≠ k := fun e => hne e.symm
          simp [Go.Sort.putRow, Go.Sort.mapBlock, Array.getElem?_modify, this]
      · intro k hk hne
        rw [Go.Sort.heap_grow_old _ _ (by simp; exact hk)]
        have : b ≠ k := fun e => hne e.symm
        simp [Go.Sort.putRow, Go.Sort.mapBlock, Array.getElem?_modify, this]
      · exact ⟨by simp, fun i d u a1 a2 => by
          simp only [List.getElem?_map, Option.map_eq_some_iff] at a1 a2
          obtain ⟨x, hx, rfl⟩ := a1
          obtain ⟨y, hy, rfl⟩ := a2
          rw [hx] at hy; cases hy
          exact .v _ rfl⟩
      · intro i u hi
        simp only [List.getElem?_map, Option.map_eq_some_iff] at hi
        obtain ⟨x, _, rfl⟩ := hi; rfl
      · intro u hu x hx
        obtain ⟨a, _, rfl⟩ := List.mem_map.1 hu
        simp [Value.cells] at hx
        subst hx; rfl
      · intro i u j x hi hj
        simp only [List.getElem?_map, Option.map_eq_some_iff] at hi
        obtain ⟨a, ha', rfl⟩ := hi
        have hj0 : j = 0 := by have := (Array.getElem?_eq_some_iff.1 hj).1; simp [Value.cells] at this; exact this
        subst hj0
        simp [Value.cells] at hj
        subst hj
        simpa using h7 i a ha'
end Go.Proofs.YtfieabidajilmaaGreat

namespace Go.Proofs.YtfieabidajilmaaGreat
open Aml Go
set_option linter.unusedVariables false
set_option linter.unusedSimpArgs false
set_option maxRecDepth 100000

set_option maxHeartbeats 400000 in
theorem laidW (w0 : W0) (x : N) (S : St) : ACall Tryz.prog w0 105 [eT x] S (fun d S' => d = dB (decide (x.page ≠ 0)) ∧ S' = S) := by
  refine fnS [] mx Tryz.func105 rfl rfl (by kernel_rfl) ?_; exact @goW _ (goT1 @Tryz.ntmps105)
set_option maxHeartbeats 400000 in
theorem neverW (w0 : W0) (x : N) (S : St) : ACall Tryz.prog w0 111 [eT x] S (fun d S' => d = dB false ∧ S' = S) := by
  refine fnS [] mx Tryz.func111 rfl rfl (by kernel_rfl) ?_; exact @goW _ (goT1 @Tryz.ntmps111)
/-- What a cell of a leaf takes. -/
def fc1 (c : C) : Nat := if c.pages = [] then need (c.data.size : Int) else 0
def fcS (l : List C) : Nat := (l.map fc1).sum
/-- What a node takes, without those below. -/
def fr1 (x : N) : Nat := if x.page ≠ 0 then 0 else if x.leaf = true ∧ x.l = [] then 0 else 1 + fcS (if x.leaf then x.l else [])
theorem fcS_succ {l : List C} {k : Nat} {c : C} (h : l[k]? = some c) : fcS (l.take (k + 1)) = fcS (l.take k) + fc1 c := by
  unfold fcS
  rw [List.take_add_one, h]; simp
theorem fcS_take (l : List C) (k : Nat) : fcS (l.take k) ≤ fcS l := by
  have := congrArg fcS (List.take_append_drop k l)
  simp only [fcS, List.map_append, List.sum_append] at this ⊢
  omega
def frS (l : List N) : Nat := (l.map fr1).sum
theorem frS_snoc (l : List N) (x : N) : frS (l ++ [x]) = frS l + fr1 x := by simp [frS]
theorem frS_pre {l m : List N} (h : l <+: m) : frS l ≤ frS m := by
  obtain ⟨t, rfl⟩ := h
  simp [frS]
def laidB (x : N) : Bool := decide (x.page ≠ 0)
set_option maxHeartbeats 8000000 in
set_option maxHeartbeats 8000000 in
theorem freshP (w0 : W0) (n : N) (S : St) (hV : (visN laidB n).length ≤ 1048576) (hF : frS (visN laidB n) ≤ 1099511627776) (hl : ∀ x, x ∈ visN laidB n → x.l.length ≤ 1048576) :
    ACall Tryz.prog w0 67 [eT n] S (fun d S' => d = dI (frS (visN laidB n)) ∧ S' = S) := by
  refine fnS [] mx Tryz.func67 rfl rfl (by kernel_rfl) ?_; refine @goW _ (goS1 @Tryz.ntmps67 ?_)
  intro b b1 b2
  refine useK (nodesW w0 n 105 _) ?_
  rintro d S' ⟨b3, b4, rfl, rfl⟩
  refine @goW _ (goS ?_)
  refine rangeK [11] (fun pre => ⟨(b4.n, [.v (.func (.func 105) #[] #[])]) :: (b3.n, cT n) :: (b2.n, [dI (frS pre)]) :: (b1.n, [.v (.func (.func 105) #[] #[])]) :: (b.n, cT n) :: S.box, S.acc⟩) (fun x => [eT x]) (visN laidB n) mx (by kernel_rfl) rfl rfl rfl (fun _ => rfl) (fun _ => rfl) (fun _ => rfl) ?_ ?_ ?_
  · intro l w1 hy T hT
    exact iterW w1 l b3.n b4.n n laidB 105 _ _ hV (Nat.le_refl _) (fun _ => by exact @goW _ goT) (fun _ => by exact @goW _ goT) (by simp only [go_sem]) (fun x T => laidW w1 x T) (fun _ => rfl) (fun _ => rfl) hy T hT
  · intro pre x T hp hT
    have t2 : lk T.box b2.n = some [dI (frS pre)] := hT.box _ _ (by exact @goW _ goT)
    have t1 : lk T.box b1.n = some [.v (.func (.func 105) #[] #[])] := hT.box _ _ (by exact @goW _ goT)
    simp only [setPs]
    refine @goW _ (goS2 @t1 @t2 ?_)
    intro b5
    refine use1 (laidW w0 x _) ?_
    have hfr := frS_snoc pre x
    have hfp := Nat.le_trans (frS_pre hp) hF
    have hxl := hl x (by obtain ⟨t, ht⟩ := hp; rw [← ht]; simp)
    have hb5 : ¬ b5.n = b2.n := fun e => by have := fn_lk b5; rw [e, t2] at this; cases this
    have h1 : fr1 x = if x.page ≠ 0 then 0 else if x.leaf = true ∧ x.l = [] then 0 else 1 + fcS (if x.leaf then x.l else []) := rfl
    have hH : ∀ v, v = (frS (pre ++ [x]) : Int) → Has _ ⟨up T.box b2.n [dI v], T.acc⟩ := fun v hv => by rw [hv]; exact Has_upd hT _
    have hu : ∀ v : Int, up ((b4.n, [.v (.func (.func 105) #[] #[])]) :: (b3.n, cT n) :: (b2.n, [dI (frS pre)]) :: (b1.n, [.v (.func (.func 105) #[] #[])]) :: (b.n, cT n) :: S.box) b2.n [dI v] = (b4.n, [.v (.func (.func 105) #[] #[])]) :: (b3.n, cT n) :: (b2.n, [dI v]) :: (b1.n, [.v (.func (.func 105) #[] #[])]) :: (b.n, cT n) :: S.box := fun v => by exact @goW _ goT
    have hK : ∀ v, Kp ⟨(b4.n, [.v (.func (.func 105) #[] #[])]) :: (b3.n, cT n) :: (b2.n, [dI (frS pre)]) :: (b1.n, [.v (.func (.func 105) #[] #[])]) :: (b.n, cT n) :: S.box, S.acc⟩ T ⟨up T.box b2.n v, T.acc⟩ := fun v => Kp.up (by exact @goW _ goT)
    simp only [hu] at hH
    refine @goW _ (goS2 @t1 @t2 ?_)
    refine ⟨fun hp0 => ?_, fun hp0 => ⟨fun hlf => ⟨fun hl0 => ?_, fun hl0 => ?_⟩, fun hlf => ?_⟩⟩
    · rw [if_pos hp0] at h1
      rw [h1] at hfr
      rw [hfr]
      exact ⟨hT.consB b5 _ rfl, (Kp.refl _ _).consB b5 _ rfl⟩
    · have hl1 : x.l = [] := List.eq_nil_of_length_eq_zero (by omega)
      rw [if_neg hp0, if_pos ⟨hlf, hl1⟩] at h1
      rw [h1] at hfr
      rw [hfr]
      exact ⟨hT.consB b5 _ rfl, (Kp.refl _ _).consB b5 _ rfl⟩
    all_goals
      have hlL : (if x.leaf = true then x.l else []).length ≤ 1048576 := by split <;> first | exact hxl | exact Nat.zero_le _
      generalize hL : (if x.leaf = true then x.l else []) = L at *
      have h1 : fr1 x = 1 + fcS L := by
        rw [h1, if_neg hp0, if_neg (fun e => by simp_all)]
      refine loopN [11] L.length [3, 4, 11, 28, 29, 30] (fun k => [(30, dI k)]) (fun k => ⟨up T.box b2.n [dI ((frS pre + 1 + fcS (L.take k) : Nat) : Int)], T.acc⟩) (fun _ => True) mx (by kernel_rfl) ?_ ?_
      · refine @goW _ (goS ?_)
        refine .consB ?_
        rw [show IntKind.i64.wrap ((frS pre : Int) + 1) = ((frS pre + 1 + fcS [] : Nat) : Int) from by rw [w64 (by omega) (by omega)]; simp [fcS]]
        exact .refl _
      · intro k hk _
        have e2 : ∀ z : List DV, lk (up T.box b2.n z) b2.n = some z := fun z => by rw [lk_up_same, t2]; rfl
        have hle := fcS_take L k
        refine @goW _ (goS2 @t1 @t2 ?_)
        refine ⟨fun hlt => ⟨hlt, fun c hc b6 => ⟨fun hp0 => ?_, fun hp0 => ⟨hlt, by rw [w64 (by omega) (by omega)]; omega, .consB ?_⟩⟩⟩, fun hge => ?_⟩
        · have hne : ¬ b6.n = b2.n := fun e => by have := fn_lk b6; rw [e, e2] at this; cases this
          have hpl : c.pages = [] := List.eq_nil_of_length_eq_zero (by omega)
          refine lexK mx (by kernel_rfl) ?_
          refine @goW _ (goS2 @e2 @hne ?_)
          refine useX (fun B hB => needP w0 _ _) ?_
          have hc1 : fc1 c = need (c.data.size : Int) := if_pos hpl
          have hs := fcS_succ hc
          have hle' := fcS_take L (k + 1)
          refine @goW _ (goS3 @e2 @hne @up_up ?_)
          refine ⟨hlt, by rw [w64 (by omega) (by omega)]; omega, .consB ?_⟩
          rw [show IntKind.i64.wrap (((frS pre + 1 + fcS (L.take k) : Nat) : Int) + (need (c.data.size : Int) : Int)) = ((frS pre + 1 + fcS (L.take (k + 1)) : Nat) : Int) from by rw [w64 (by omega) (by omega)]; omega]
          exact .refl _
        · rw [fcS_succ hc, show fc1 c = 0 from if_neg fun e => by rw [e] at hp0; exact hp0 rfl]
          exact .refl _
        · have hkL : k = L.length := by omega
          rw [hkL, List.take_length]
          exact ⟨hH _ (by omega), hK _⟩
  · exact @goW _ goT
/-- The pages of a node, without those below. -/
def pg1 (x : N) : List Int := (if x.page ≠ 0 then [x.page] else []) ++ (if x.leaf then x.l else []).flatMap C.pages
def pgS (l : List N) : List Int := l.flatMap pg1
theorem pgS_snoc (l : List N) (x : N) : pgS (l ++ [x]) = pgS l ++ pg1 x := by simp [pgS]
theorem pgS_pre {l m : List N} (h : l <+: m) : (pgS l).length ≤ (pgS m).length := by
  obtain ⟨t, rfl⟩ := h
  simp [pgS]
def noB (x : N) : Bool := false
set_option maxHeartbeats 8000000 in
theorem pagesP (w0 : W0) (n : N) (S : St) (hV : (visN noB n).length ≤ 1048576) (hF : (pgS (visN noB n)).length ≤ 1073741824) (hl : ∀ x, x ∈ visN noB n → x.l.length ≤ 1048576) :
    ACall Tryz.prog w0 71 [eT n] S (fun d S' => ∃ m : FN S.acc, d = .acc m.n (pgS (visN noB n)).length ∧ S' = ⟨S.box, (m.n, .arr 1 ((srt (pgS (visN noB n))).map dI)) :: S.acc⟩) := by
  refine fnP [] mx Tryz.func71 rfl rfl (by kernel_rfl) ?_; refine @goW _ (goS1 @Tryz.ntmps71 ?_)
  intro b b1
  refine useK (nodesW w0 n 111 _) ?_
  rintro d S' ⟨b3, b4, rfl, rfl⟩
  refine @goW _ (goS ?_)
  refine awp_growB b1.n 0 1 (by omega) (ds := [.sl 0 true []]) (by exact @goW _ goT) rfl fun lb => ?_
  refine @goW _ (goS ?_)
  refine rangeK [] (fun pre => ⟨(b4.n, [.v (.func (.func 111) #[] #[])]) :: (b3.n, cT n) :: (b1.n, [.acc lb.n (pgS pre).length]) :: (b.n, cT n) :: S.box, (lb.n, .arr 1 ((pgS pre).map dI)) :: S.acc⟩) (fun x => [eT x]) (visN noB n) mx (by kernel_rfl) rfl rfl rfl (fun _ => rfl) (fun _ => rfl) (fun _ => rfl) ?_ ?_ ?_
  · intro l w1 hy T hT
    exact iterW w1 l b3.n b4.n n noB 111 _ _ hV (Nat.le_refl _) (fun _ => by exact @goW _ goT) (fun _ => by exact @goW _ goT) (by simp only [go_sem]) (fun x T => neverW w1 x T) (fun _ => rfl) (fun _ => rfl) hy T hT
  · intro pre x T hp hT
    have t1 : lk T.box b1.n = some [.acc lb.n (pgS pre).length] := hT.box _ _ (by exact @goW _ goT)
    have u1 : lk T.acc lb.n = some (.arr 1 ((pgS pre).map dI)) := hT.acc _ _ (by exact @goW _ goT)
    have hxl := hl x (by obtain ⟨t, ht⟩ := hp; rw [← ht]; simp)
    have hpl := Nat.le_trans (pgS_pre hp) hF
    rw [pgS_snoc] at hpl
    have h1 : pg1 x = (if x.page ≠ 0 then [x.page] else []) ++ (if x.leaf then x.l else []).flatMap C.pages := rfl
    rw [List.length_append] at hpl
    have hH : ∀ l : List Int, l = pgS (pre ++ [x]) → Has _ ⟨up T.box b1.n [.acc lb.n l.length], up T.acc lb.n (.arr 1 (l.map dI))⟩ := fun v hv => by rw [hv]; exact Has_upd2 hT _ _
    have hu : ∀ (l : List Int), (⟨up ((b4.n, [.v (.func (.func 111) #[] #[])]) :: (b3.n, cT n) :: (b1.n, [.acc lb.n (pgS pre).length]) :: (b.n, cT n) :: S.box) b1.n [.acc lb.n l.length], up ((lb.n, .arr 1 ((pgS pre).map dI)) :: S.acc) lb.n (.arr 1 (l.map dI))⟩ : St) = ⟨(b4.n, [.v (.func (.func 111) #[] #[])]) :: (b3.n, cT n) :: (b1.n, [.acc lb.n l.length]) :: (b.n, cT n) :: S.box, (lb.n, .arr 1 (l.map dI)) :: S.acc⟩ := fun v => by exact @goW _ goT
    have hK : ∀ v o, Kp ⟨(b4.n, [.v (.func (.func 111) #[] #[])]) :: (b3.n, cT n) :: (b1.n, [.acc lb.n (pgS pre).length]) :: (b.n, cT n) :: S.box, (lb.n, .arr 1 ((pgS pre).map dI)) :: S.acc⟩ T ⟨up T.box b1.n v, up T.acc lb.n o⟩ := fun v o => Kp_up2 (by exact @goW _ goT) (by exact @goW _ goT)
    simp only [hu] at hH
    simp only [setPs]
    refine @goW _ (goS2 @t1 @u1 ?_)
    intro b5
    have hb5 : ¬ b5.n = b1.n := fun e => by have := fn_lk b5; rw [e, t1] at this; cases this
    have hm8 : maxLen = 9223372036854775807 := rfl
    refine ⟨fun hp0 => ⟨by omega, by omega, ?_⟩, fun hp0 => ?_⟩
    all_goals
      have hlL : (if x.leaf = true then x.l else []).length ≤ 1048576 := by split <;> first | exact hxl | exact Nat.zero_le _
      generalize hL : (if x.leaf = true then x.l else []) = L at *
      obtain ⟨P0, hP0⟩ : ∃ P0, P0 = pgS pre ++ (if x.page ≠ 0 then [x.page] else []) := ⟨_, rfl⟩
      have hx : pgS (pre ++ [x]) = P0 ++ L.flatMap C.pages := by rw [pgS_snoc, h1, hP0, List.append_assoc]
      have hxlen : P0.length + (L.flatMap C.pages).length ≤ 1073741824 := by
        rw [h1] at hpl
        rw [hP0]
        simp only [List.length_append] at hpl ⊢
        omega
      have htk : ∀ k, ((L.take k).flatMap C.pages).length ≤ (L.flatMap C.pages).length := fun k => by
        have := congrArg (List.flatMap C.pages) (List.take_append_drop k L)
        have := congrArg List.length this
        simp only [List.flatMap_append, List.length_append] at this
        omega
      refine loopN [] L.length [3, 9, 19, 20, 21] (fun k => [(21, dI k)]) (fun k => ⟨up T.box b1.n [.acc lb.n (P0 ++ (L.take k).flatMap C.pages).length], up T.acc lb.n (.arr 1 ((P0 ++ (L.take k).flatMap C.pages).map dI))⟩) (fun _ => True) mx (by kernel_rfl) ?_ ?_
      · refine @goW _ (goS ?_)
        refine .consB ?_
        first
          | (rw [if_pos (show x.page ≠ 0 from hp0)] at hP0
             subst hP0
             simp only [List.flatMap_nil, List.length_append, List.length_cons, List.length_nil, Nat.add_zero, Nat.zero_add, List.append_nil, List.map_append, List.map_cons, List.map_nil]
             exact .refl _)
          | (rw [if_neg (show ¬ x.page ≠ 0 from hp0), List.append_nil] at hP0
             subst hP0
             simp only [List.flatMap_nil, List.length_nil, Nat.add_zero, List.append_nil]
             rw [up_same t1, up_same u1]
             exact .refl _)
      · intro k hk _
        have e2 : ∀ z : List DV, lk (up T.box b1.n z) b1.n = some z := fun z => by rw [lk_up_same, t1]; rfl
        have e3 : ∀ z : Ob, lk (up T.acc lb.n z) lb.n = some z := fun z => by rw [lk_up_same, u1]; rfl
        have htk0 := htk k
        have htk1 := htk (k + 1)
        have hsu : ∀ {c : C}, L[k]? = some c → (L.take (k + 1)).flatMap C.pages = (L.take k).flatMap C.pages ++ c.pages := fun {c} hc => by rw [List.take_add_one, hc]; simp
        refine @goW _ (goS3 @e2 @e3 @up_up ?_)
        refine ⟨fun hlt => ⟨hlt, fun c hc b6 => ?_⟩, fun hge => ?_⟩
        · have hs := hsu hc
          have hs2 := congrArg List.length hs
          rw [List.length_append] at hs2
          refine ⟨by omega, by omega, hlt, by rw [w64 (by omega) (by omega)]; omega, .consB ?_⟩
          rw [hs]
          simp only [List.length_append, Nat.add_assoc, List.append_assoc]
          exact .refl _
        · have hkL : k = L.length := by omega
          rw [hkL, List.take_length]
          rw [hkL, List.take_length] at htk0
          have hxl2 := congrArg List.length hx
          rw [List.length_append] at hxl2
          refine ⟨?_, hK _ _⟩
          have := hH (P0 ++ L.flatMap C.pages) hx.symm
          rw [List.length_append] at this
          exact this
  · refine @goW _ (goS ?_)
    refine .inl ?_
    refine useK (sort_int w0 (S := ⟨_, (lb.n, .arr 1 ((pgS (visN noB n)).map dI)) :: S.acc⟩) (l := lb.n) (zs := pgS (visN noB n)) (by exact @goW _ goT) (by omega)) ?_
    rintro d S' ⟨rfl, rfl⟩
    refine @goW _ (goS ?_)
    exact ⟨_, _, .refl _, .consB (.consB (.consB (.consB (.refl _)))), lb, rfl, rfl⟩
end Go.Proofs.YtfieabidajilmaaGreat
