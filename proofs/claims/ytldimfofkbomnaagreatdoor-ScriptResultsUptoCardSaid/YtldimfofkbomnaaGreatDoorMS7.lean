/-
  A text that is being built, in the store: it is made, and its methods are called; Contracts of the library, turned to calls: what is handed back needs no store; Facts on the types and functions of the translation, printed by program (wip/tools/types.py); A text that is being built, in this program: its methods' contracts; DERIVED: THE SHELF's CONTRACTS AT THIS DUMP, IN PLAIN WORDS (tools/lay-plain.mjs out of 'TryzShelf.lean', which tools/lay-shelf.mjs wrote): THE SAME DECLARATIONS UNDER THE SAME NAMES: 'import', 'namespace', 'open', 'def', 'theorem' AND NOTHING ELSE: no command of the shelf's: FOR A HAND-IN. Each laying: the table of numbers ('.._ren') and one theorem, a field a fact of the dump's own or the kernel's comparison; each contract: ONE APPLICATION; Signs that stand as they are, and their decoding: what the program computes; Quoting: what the program computes; Quoting a text: what the program computes; Quoting a text: what the reference computes; Unquoting a text: what the reference computes; Numbers of 16, parsed: what the library computes; Unquoting a text: what the program computes; Numbers as text; Numbers: the library's two roads, and that the one undoes the other; Names of kinds; the library's contracts that what is parsed rests on. By an AI agent.
-/
import Derived.Test.YtldimfofkbomnaaGreatDoorMS5
import Derived.Test.YtldimfofkbomnaaGreatDoorMS6
import Derived.Test.YtldimfofkbomnaaGreatDoorMS2
import Derived.Test.YtldimfofkbomnaaGreatDoorProg
import Derived.KernelRfl
import Derived.Shelf.Strings.Builder1
import Derived.Shelf.Strings.Builder2
import Derived.Shelf.Strings.OnBuilder
import Derived.Shelf.Small.Utf8
import Derived.Shelf.Small.Strs
import Derived.Shelf.Strings.BuilderF
import Derived.Shelf.Strings.BuilderK
import Derived.Shelf.Strings.BuilderRune
import Derived.Shelf.Strconv.Atoi
import Derived.Shelf.Strconv.Itoa0
import Derived.Shelf.Strconv.Itoa1
import Derived.Shelf.LaysM
import Derived.Shelf.Strconv.Itoa2
import Derived.Shelf.Strconv.Itoa3
import Derived.Shelf.Strconv.AtoiErrFast
import Derived.Shelf.Strconv.ParseIntEmpty
import Derived.Shelf.Strconv.AtoiFail
import Derived.Shelf.Strconv.Clone
import Derived.Shelf.Strconv.SyntaxError
import Derived.Shelf.LaysC
import Derived.Shelf.Strconv.ToError
import Derived.Shelf.Strconv.Lower
import Derived.Shelf.Strconv.ParseUint10
import Derived.Shelf.Strconv.ParseUint10Empty
import Derived.Shelf.Strconv.ParseUint10Any
import Derived.Shelf.Strconv.ParseInt10
import Derived.Shelf.Strconv.AtoiLong
import Derived.Shelf.Strconv.AtoiInnerAll
import Derived.Shelf.Strconv.RangeError
import Derived.Shelf.Strconv.ToErrorRange
import Derived.Shelf.Strconv.AtoiAll
import Derived.Shelf.Strings.Search1
import Derived.Shelf.Strings.Search2
import Derived.Shelf.Strings.Search3
import Derived.Shelf.Strings.Cut
import Derived.Shelf.Strings.Count
import Derived.Shelf.Strings.Shaped
import Derived.Shelf.Strings.Split
import Derived.Shelf.Unicode.Decode
import Derived.Shelf.Strings.Runes
import Derived.Shelf.Strings.RuneCount
import Derived.Shelf.Strings.Explode
import Derived.Shelf.Unicode.DecodeSlow
import Derived.Shelf.Unicode.DecodeAny
import Derived.Test.YtldimfofkbomnaaGreatDoorMS1
import Derived.Lib.RuneCountTail
set_option linter.unusedVariables false
set_option linter.unusedSimpArgs false
set_option maxRecDepth 100000
set_option maxHeartbeats 16000000
namespace Aml
open Go Go.RowKit Go.Shelf Go.Proofs
section
variable {P : Program} {w0 : W0}
theorem Rel.setSb {g : Gh} {S : St} {w : World} (h : Rel w0 g S w) {l : Nat} {T e : TypeId} {bs : List UInt8} (hl : lk S.acc l = some (.sb T e bs)) : ∃ b p v, g.acc l 0 = some (.slice (some ⟨b, 0, none⟩) 0 0) ∧ SbW T e b p v (Lib.byteCells bs) w ∧
  ∀ bs' w', SbP T e b v (Lib.byteCells bs') w w' → Rel w0 g ⟨S.box, up S.acc l (.sb T e bs')⟩ w' := by
 obtain ⟨ow, h⟩ := h.open_
 have hm := lk_mem hl
 obtain ⟨b, p, v, q1, q2, q3, q4, q5, q6, q7⟩ := h.acc l _ hm
 have hrow : w.ownsRowF 0 e 1 v bs.length (Lib.byteCells bs) := by
  rcases q7 with ⟨rfl, rfl⟩ | ⟨r, c, cs, z, rfl, k1, k2, k3, k4, k5, k6, k7, k8, k9, k10⟩
  ·exact World.ownsRowF_nil w 0 e 1
  ·exact ⟨by simp [Lib.byteCells], .inr ⟨r, c, cs, z, rfl, Nat.zero_le _, k5, by omega, k7, k8, by omega, by rw [Nat.mul_one]; exact k10⟩⟩
 have hown : ∀ r, v.ownBlock = some r → r ≠ b ∧ ow r = some (.a l) ∧ w0.heap.size ≤ r ∧ (∀ i, g.imm r i = none) ∧ ∀ o, w.heap[r]? = some o → nc o = false := by
  intro r hr
  rcases q7 with ⟨rfl, rfl⟩ | ⟨r', c, cs, z, rfl, k1, k2, k3, k4, k5, k6⟩
  ·cases hr
  ·cases hr
   exact ⟨k1, k2, k3, k4, nc_cells k5⟩
 have hne : v.ownBlock ≠ some b := fun e => (hown b e).1 rfl
 refine ⟨b, p, v, q1, ⟨q5, q6, by rw [Lib.byteCells_length]; exact hrow, hne⟩, fun bs' w' hp => ?_⟩
 obtain ⟨p', v', a1, a2, a3, a4, a5⟩ := hp.at_
 have keep : ∀ k, k < w.heap.size → ow k ≠ some (.a l) → w'.heap[k]? = w.heap[k]? := fun k hk hn => hp.block k hk (by rintro rfl; exact hn q2) (fun e => hn (hown k e).2.1)
 have keepI : ∀ k i u, g.imm k i = some u → w'.heap[k]? = w.heap[k]? := fun k i u hu => by
  have hc := h.imm _ _ _ hu
  refine hp.block k (World.block_lt_of_cell? w _ hc) (by rintro rfl; rw [q4] at hu; cases hu) (fun e => ?_)
  rw [(hown k e).2.2.2.1] at hu; cases hu
 have hown' : ∀ r, v'.ownBlock = some r → w0.heap.size ≤ r ∧ (∀ i, g.imm r i = none) ∧ (∀ k, ow r = some k → k = .a l) := by
  intro r hr
  rcases a5 with e1 | ⟨r', e1, e2⟩
  ·rw [e1] at hr
   obtain ⟨_, c2, c3, c4, _⟩ := hown r hr
   exact ⟨c3, c4, fun k hk => by rw [c2] at hk; exact (Option.some.inj hk).symm⟩
  ·rw [e1] at hr; cases hr
   refine ⟨Nat.le_trans h.below.size e2, fun i => ?_, fun k hk => by have := h.owb _ _ hk; omega⟩
   cases hi : g.imm r i with
   | none => rfl
   | some u => have := World.block_lt_of_cell? w _ (h.imm _ _ _ hi); simp at this; omega
 refine RelO.close (ow := fun x => if v'.ownBlock = some x then some (.a l) else ow x) ⟨⟨?_, fun k o ho => ?_, h.below.req⟩, fun k i u hu => ?_, h.nb, ?_, h.accw, h.fresh, ?_, ?_, ?_, ?_⟩
 ·refine h.below.base.trans ⟨hp.os, hp.tape, hp.output, hp.size, fun k hk => ?_⟩
  refine hp.block k (Nat.lt_of_lt_of_le hk h.below.size) (by rintro rfl; omega) (fun e => ?_)
  have := (hown k e).2.2.1
  omega
 ·obtain ⟨c1, c2⟩ := h.below.obj k o ho
  refine ⟨(hp.block k (lt_of_heap c1) (by rintro rfl; rw [q5] at c1; cases c1; simp [nc] at c2) (fun e => ?_)).trans c1, c2⟩
  rw [(hown k e).2.2.2.2 o c1] at c2; cases c2
 ·rw [World.cell?_of_block (w := w) (w' := w') (a := ⟨k, i, none⟩) (keepI k i u hu)]
  exact h.imm _ _ _ hu
 ·rw [map_up]; exact h.na
 ·intro l' o'' hm' k hk
  rcases mem_up h.na hm' with e | ⟨hm', hne⟩
  ·simp only [Prod.mk.injEq] at e
   obtain ⟨rfl, rfl⟩ := e
   exact h.top _ _ hm k hk
  ·exact h.top _ _ hm' k hk
 ·intro b' ds hb
  refine (h.box _ _ hb).step (.refl g) fun ho => ⟨?_, keep b' (h.owb _ _ ho) (by rw [ho]; simp), fun _ hi => hi⟩
  rw [if_neg (fun e => by cases (hown' _ e).2.2 _ ho)]
  exact ho
 ·intro l' o'' hm'
  rcases mem_up h.na hm' with e' | ⟨hm', hnl⟩
  ·simp only [Prod.mk.injEq] at e'
   obtain ⟨rfl, rfl⟩ := e'
   refine ⟨b, p', v', q1, (if_neg a4).trans q2, q3, q4, a1, a2, ?_⟩
   ·rw [Lib.byteCells_length] at a3
    rcases a3.2 with ⟨e1, e2⟩ | ⟨r, c, cs, z, rfl, _, k1, k2, k3, k4, k5, k6⟩
    ·exact .inl ⟨e1, List.eq_nil_of_length_eq_zero e2⟩
    ·obtain ⟨c1, c2, c3⟩ := hown' r rfl
     exact .inr ⟨r, c, cs, z, rfl, fun e => a4 (by rw [e]; rfl), if_pos rfl, c1, c2, k1, by omega, k3, k4, by omega, by rw [Nat.mul_one] at k6; exact k6⟩
  ·refine (h.acc _ _ hm').step (.refl g) fun b' ho => ⟨?_, keep b' (h.owb _ _ ho) (by rw [ho]; simp only [ne_eq, Option.some.injEq, Key.a.injEq]; exact hnl), fun _ hi => hi⟩
   rw [if_neg (fun e => hnl (by have := (hown' _ e).2.2 _ ho; cases this; rfl))]
   exact ho
 ·intro b' k hk
  split at hk
  ·rename_i e
   rcases a3.2 with ⟨e1, e2⟩ | ⟨r, c, cs, z, rfl, _, k1, _⟩
   ·rw [e1] at e; cases e
   ·cases e; exact lt_of_heap k1
  ·exact Nat.lt_of_lt_of_le (h.owb _ _ hk) hp.size
theorem Rel.newSb {g : Gh} {S : St} {w : World} (h : Rel w0 g S w) (T e : TypeId) :
  ∃ l g', g.le g' ∧ (∀ p, p ∈ S.acc → p.1 ≠ l) ∧ Rel w0 g' ⟨S.box, (l, .sb T e []) :: S.acc⟩ (w.alloc (.cells #[.pointer none, .slice none 0 0] T)) ∧ g'.acc l 0 = some (.slice (some ⟨w.heap.size, 0, none⟩) 0 0) := by
 obtain ⟨ow, h⟩ := h.open_
 have hnow : ow w.heap.size = none := by
  cases ho : ow w.heap.size with
  | none => rfl
  | some q => have := h.owb _ q ho; omega
 have h' := h.grow (below_alloc w (.cells #[.pointer none, .slice none 0 0] T))
 obtain ⟨m, hm'⟩ := h'.fresh
 have hnone : ∀ i, g.imm w.heap.size i = none := by
  intro i
  cases hi : g.imm w.heap.size i with
  | none => rfl
  | some u => have := World.block_lt_of_cell? w _ (h.imm _ _ _ hi); simp at this
 have hne : ∀ p, p ∈ S.acc → p.1 ≠ m := by
  rintro ⟨l', o'⟩ hp rfl
  obtain ⟨u, hu⟩ := (h'.acc _ _ hp).has
  rw [hm' _ _ (Nat.le_refl _)] at hu; cases hu
 have hle : g.le (g.setAcc m 0 (.slice (some ⟨w.heap.size, 0, none⟩) 0 0)) := Gh.le_setAcc (.inl (hm' _ _ (Nat.le_refl _)))
 have hself : (g.setAcc m 0 (.slice (some ⟨w.heap.size, 0, none⟩) 0 0)).acc m 0 = some (.slice (some ⟨w.heap.size, 0, none⟩) 0 0) := by simp [Gh.setAcc]
 refine ⟨m, _, hle, hne, RelO.close (ow := fun x => if x = w.heap.size then some (.a m) else ow x) ⟨h'.below.le hle, h'.imm, h'.nb, ?_, ?_, ?_, ?_, ?_, ?_, ?_⟩, hself⟩
 ·simp only [List.map_cons, List.nodup_cons]
  refine ⟨fun hx => ?_, h'.na⟩
  obtain ⟨p, hp, e⟩ := List.mem_map.1 hx
  exact hne p hp e
 ·intro l' n u hu
  simp only [Gh.setAcc] at hu
  split at hu
  ·rename_i e; obtain ⟨rfl, rfl⟩ := e; exact ⟨_, _, (Option.some.inj hu).symm, .inl rfl⟩
  ·exact h'.accw _ _ _ hu
 ·refine ⟨m + 1, fun l n hl => ?_⟩
  simp only [Gh.setAcc]
  rw [if_neg (by omega)]
  exact hm' _ _ (by omega)
 ·intro l o hl k hk
  simp only [Gh.setAcc]
  rcases List.mem_cons.1 hl with e | hl
  ·simp only [Prod.mk.injEq] at e
   obtain ⟨rfl, rfl⟩ := e
   simp only [Ob.len] at hk
   rw [if_neg (by omega)]
   exact hm' _ _ (Nat.le_refl _)
  ·rw [if_neg (fun e => hne _ hl e.1)]
   exact h'.top _ _ hl k hk
 ·intro b' ds hb'
  refine (h'.box b' ds hb').step hle fun ho => ⟨?_, rfl, fun _ hi => hi⟩
  split
  ·rename_i e; subst e; exact absurd (hnow.symm.trans ho) (by simp)
  ·exact ho
 ·intro l o hl
  rcases List.mem_cons.1 hl with e' | hl
  ·simp only [Prod.mk.injEq] at e'
   obtain ⟨rfl, rfl⟩ := e'
   exact ⟨_, _, _, hself, if_pos rfl, h.below.size, hnone, heap_alloc_new w _, .inl rfl, .inl ⟨rfl, rfl⟩⟩
  ·refine (h'.acc l o hl).step hle fun b' ho => ⟨?_, rfl, fun _ hi => hi⟩
   split
   ·rename_i e; subst e; exact absurd (hnow.symm.trans ho) (by simp)
   ·exact ho
 ·intro b' q hq
  split at hq
  ·rename_i e; subst e; simp
  ·exact h'.owb _ _ hq
theorem y_newSb {o : Oper} {T : TypeId} (e : TypeId) (ho : o.op = .alloc T) (hz : (P.info? T).bind (·.zero) = some (.agg #[.pointer none, .slice none 0 0])) {ρD : Operand → DV} {S : St} {K : DV → St → Prop}
  (h : ∀ l, nin S.acc l → K (.it l) ⟨S.box, (l, .sb T e []) :: S.acc⟩) : YieldsE P w0 o ρD S K := by
 intro g w ρ h1 h2 hcst
 obtain ⟨i, hi, hz⟩ := Option.bind_eq_some_iff.1 hz
 have hrun : (execOp ρ o).run P w = .ok (.value (.pointer (some ⟨w.heap.size, 0, none⟩))) (w.alloc (.cells #[.pointer none, .slice none 0 0] T)) := by
  simp [execOp, ho, Instr.alloc, newVar, newRow, zeroValue, typeInfo, hi, hz, Value.cells]
 rw [hrun]
 obtain ⟨l, g', hle, hne, hR, ha⟩ := h1.newSb T e
 exact ⟨g', _, _, hle, hR, .it l _ ha, h l (nin_of hne)⟩
theorem sbR (e : TypeId) {id : Nat} {o : Oper} {rest : List Oper} {fr : List DV} {S : St} {Q : Exit → List DV → St → Prop} {T : TypeId} (hg : o.guard = none) (ho : o.op = .alloc T) (hz : (P.info? T).bind (·.zero) = some (.agg #[.pointer none, .slice none 0 0]))
  (hs : rest.all (fun o => okSl o.op) = true) (h : ∀ l : FN S.acc, vcLA P w0 (o :: rest).toArray (fun fr S => normF fr fun fr => Q .normal fr S) rest (pt fr o.dst (.it l.n)) ⟨S.box, (l.n, .sb T e []) :: S.acc⟩) :
  AWp P w0 (.region id (o :: rest).toArray false) fr S Q := by
 refine awp_region ?_
 unfold LWp
 unfold guardK
 rw [hg]
 refine y_newSb e ho hz fun l hl => ?_
 have h' := n_fresh S.acc fun l => vcLA P w0 (o :: rest).toArray (fun fr S => normF fr fun fr => Q .normal fr S) rest (pt fr o.dst (.it l)) ⟨S.box, (l, .sb T e []) :: S.acc⟩
 exact vcLA_sound rest hs (Eq.mpr h' h l hl)
theorem sbCall {f : FuncId} {l : Nat} {T e : TypeId} {bs bs' : List UInt8} {S : St} (hl : lk S.acc l = some (.sb T e bs)) {us : List Value} {r : Value} {d : DV} (hd : ∀ g, Rep g d r)
  (hc : ∀ b p v w, SbW T e b p v (Lib.byteCells bs) w → Calls P f (.pointer (some ⟨b, 0, none⟩) :: us).toArray w fun x w' => x = .returned r ∧ SbP T e b v (Lib.byteCells bs') w w') :
  ACall P w0 f (.it l :: us.map .v) S (fun d' S' => d' = d ∧ S' = ⟨S.box, up S.acc l (.sb T e bs')⟩) := by
 intro g vs w h hr
 obtain ⟨b, p, v, q1, q2, q3⟩ := h.setSb hl
 obtain ⟨u, us', hvs, r1, r2⟩ := hr.uncons
 obtain ⟨b', rfl, hb'⟩ := rep_it r1
 rw [q1] at hb'; cases hb'
 have e1 : us' = us := by
  refine List.ext_getElem? fun i => ?_
  have hlen : us.length = us'.length := by simpa using r2.len
  by_cases hi : i < us.length
  ·rw [List.getElem?_eq_getElem hi, List.getElem?_eq_getElem (by omega)]
   have := r2.at_ i (.v us[i]) us'[i] (by simp [hi]) (List.getElem?_eq_getElem (by omega))
   rw [rep_v this]
  ·rw [List.getElem?_eq_none (by omega), List.getElem?_eq_none (by omega)]
 subst e1
 have e2 : vs = (.pointer (some ⟨b, 0, none⟩) :: us').toArray := by rw [← hvs]
 rw [e2]
 refine (hc b p v w q2).mono ?_
 rintro x w' ⟨rfl, hp⟩
 exact ⟨r, g, d, _, rfl, .refl g, q3 _ _ hp, hd g, rfl, rfl⟩
end
end Aml
namespace Aml
open Go Go.RowKit
attribute [go_sem ↓] q_conv_is
@[go_sem] theorem n_hasAcc_it (l : Nat) (ds : List DV) : hasAcc (.it l :: ds) = hasAcc ds := rfl
@[go_sem] theorem n_shr_it (S : St) (l : Nat) (K : DV → St → Prop) : shr S (.it l) K = K (.it l) S := rfl
section
variable {P : Program} {w0 : W0}
theorem scopeX (ss : List Nat := []) {c : Code} {fr : List DV} {S : St} {Q : Exit → List DV → St → Prop} (hm : P.follows .mixedOrders = true) (hc : okC ss c = true) (h : vw P w0 ss c fr S (noG Q)) : AWp P w0 (.scope c) fr S Q := awp_scope (vw_sound hm c hc h)
theorem useT {f : FuncId} {args args' : List DV} {S T : St} {K : DV → St → Prop} {r : DV} (h : ACall P w0 f args' S (fun d S' => d = r ∧ S' = T)) (hk : K r T) (ha : WkL args args' := by exact WkL.refl _) : @AC P w0 f args S ⟨K⟩ := acall_use h ha fun d S' q => ⟨r, by rw [q.1]; exact .refl _, by rw [q.2]; exact hk⟩
def Kn (w0 : W0) (X : World → Prop) : Prop := ∀ w, Below w0.heap.size w0.w w → X w
theorem Rel.kn {g : Gh} {S : St} {w : World} (h : Rel w0 g S w) {X : World → Prop} (k : Kn w0 X) : X w := k w h.below.base
theorem acall_shelf {f : FuncId} {ds : List DV} {us : List Value} {S : St} {Kd : DV → Prop} (ha : ∀ g vs, RepL g ds vs → vs = us)
  (hc : Kn w0 fun w => Calls P f us.toArray w fun e w' => ∃ r d, e = .returned r ∧ (∀ g, Rep g d r) ∧ Kd d ∧ Below w.heap.size w w') : ACall P w0 f ds S (fun d S' => Kd d ∧ S' = S) := by
 intro g vs w h hr
 have e1 := ha g vs.toList hr
 have e2 : vs = us.toArray := by rw [← e1]
 rw [e2]
 refine (h.kn hc).mono ?_
 rintro e w' ⟨r, d, rfl, hd, hk, hb⟩
 exact ⟨r, g, d, S, rfl, .refl g, h.growB hb, hd g, hk, rfl⟩
theorem reps_v (us : List Value) : ∀ g vs, RepL g (us.map DV.v) vs → vs = us := by
 intro g vs h
 refine List.ext_getElem? fun i => ?_
 have hlen : us.length = vs.length := by simpa using h.len
 by_cases hi : i < us.length
 ·rw [List.getElem?_eq_getElem hi, List.getElem?_eq_getElem (by omega)]
  have := h.at_ i (.v us[i]) vs[i] (by simp [hi]) (List.getElem?_eq_getElem (by omega))
  rw [rep_v this]
 ·rw [List.getElem?_eq_none (by omega), List.getElem?_eq_none (by omega)]
theorem acall_shelf1 {f : FuncId} {us : List Value} {S : St} {r : Value} {d : DV} (hd : ∀ g, Rep g d r)
  (hc : Kn w0 fun w => Calls P f us.toArray w fun e w' => e = .returned r ∧ Below w.heap.size w w') : ACall P w0 f (us.map DV.v) S (fun d' S' => d' = d ∧ S' = S) :=
 acall_shelf (reps_v us) fun w hw => (hc w hw).mono fun e w' h => ⟨r, d, h.1, hd, rfl, h.2⟩
theorem rep_tup2 {g : Gh} {a b : DV} {x y : Value} (h1 : Rep g a x) (h2 : Rep g b y) : Rep g (.tup [a, b]) (.tuple #[x, y]) :=
 .tup [a, b] [x, y] rfl fun i d u p q => by
  match i with
  | 0 => simp at p q; subst p; subst q; exact h1
  | 1 => simp at p q; subst p; subst q; exact h2
  | n + 2 => simp at p
theorem rep_tup3 {g : Gh} {a b c : DV} {x y z : Value} (h1 : Rep g a x) (h2 : Rep g b y) (h3 : Rep g c z) : Rep g (.tup [a, b, c]) (.tuple #[x, y, z]) :=
 .tup [a, b, c] [x, y, z] rfl fun i d u p q => by
  match i with
  | 0 => simp at p q; subst p; subst q; exact h1
  | 1 => simp at p q; subst p; subst q; exact h2
  | 2 => simp at p q; subst p; subst q; exact h3
  | n + 3 => simp at p
theorem acall_row {f : FuncId} {fl : Bool} {xs : List ByteArray} {us : List Value} {S : St} {r : Value} {d : DV} (hd : ∀ g, Rep g d r) (hne : xs ≠ [])
  (hc : ∀ bk o c w, (∀ (j : Nat) x, xs[j]? = some x → w.cell? ⟨bk, o + j, none⟩ = some (.string x)) → bk < w.heap.size → xs.length ≤ c → Calls P f (.slice (some ⟨bk, o, none⟩) xs.length c :: us).toArray w fun e w' => e = .returned r ∧ Below w.heap.size w w') :
  ACall P w0 f (.sl 1 fl (xs.map fun x => .v (.string x)) :: us.map DV.v) S (fun d' S' => d' = d ∧ S' = S) := by
 intro g vs w h hr
 obtain ⟨u, us', hvs, r1, r2⟩ := hr.uncons
 have e1 := reps_v us g us' r2
 subst e1
 have e2 : vs = (u :: us').toArray := by rw [← hvs]
 rcases rep_sl r1 with ⟨he, _⟩ | ⟨b, o, c, ws, hv, hrl, hfl, hlc, hcm, hzz, hone, hcell⟩
 ·simp at he; exact absurd he hne
 ·have hwl : xs.length = ws.length := by simpa using hrl.len
  have hcells : ∀ (j : Nat) x, xs[j]? = some x → w.cell? ⟨b, o + j, none⟩ = some (.string x) := by
   intro j x hx
   have hj : j < ws.length := by have := (List.getElem?_eq_some_iff.1 hx).1; omega
   have h1 : Rep g (.v (.string x)) ws[j] := hrl.at_ j _ _ (by rw [List.getElem?_map, hx]; rfl) (List.getElem?_eq_getElem hj)
   have h2 := rep_v h1
   have h3 := hcell j ws[j] 0 (.string x) (List.getElem?_eq_getElem hj) (by rw [h2]; rfl)
   have h4 := h.imm _ _ _ h3
   simpa using h4
  have hlt : b < w.heap.size := by
   have hpos : 0 < xs.length := List.length_pos_iff.2 hne
   exact World.block_lt_of_cell? w _ (hcells 0 xs[0] (List.getElem?_eq_getElem hpos))
  rw [e2, hv]
  rw [List.length_map]
  refine (hc b o c w hcells hlt (by rw [List.length_map] at hlc; exact hlc)).mono ?_
  rintro e w' ⟨rfl, hb⟩
  exact ⟨r, g, d, S, rfl, .refl g, h.growB hb, hd g, rfl, rfl⟩
theorem acall_newrow {f : FuncId} {us : List Value} {xs : List ByteArray} {e0 : TypeId} {S : St} (hm : xs.length ≤ maxLen) (hne : xs ≠ [])
  (hc : Kn w0 fun w => Calls P f us.toArray w fun e w' => e = .returned (.slice (some ⟨w.heap.size, 0, none⟩) xs.length xs.length) ∧ w' = w.alloc (.cells (xs.map Value.string).toArray e0)) :
  ACall P w0 f (us.map DV.v) S (fun d S' => d = .sl 1 true (xs.map fun x => .v (.string x)) ∧ S' = S) := by
 intro g vs w h hr
 have e1 := reps_v us g vs.toList hr
 have e2 : vs = us.toArray := by rw [← e1]
 rw [e2]
 refine (h.kn hc).mono ?_
 rintro e w' ⟨rfl, rfl⟩
 obtain ⟨hle, hR⟩ := h.newImm (below_alloc w (.cells (xs.map Value.string).toArray e0)) (Nat.le_refl _) (heap_alloc_new w _)
 refine ⟨_, _, _, S, rfl, hle, hR, ?_, rfl, rfl⟩
 have := Rep.sl (g := g.setImm w.heap.size fun i => ((xs.map Value.string).toArray)[i]?) 1 true (xs.map fun x => DV.v (.string x)) w.heap.size 0 xs.length (xs.map Value.string) (by simp) (fun _ => by simp) (by simp) hm
  (fun i d u p q => by
   rw [List.getElem?_map, Option.map_eq_some_iff] at p q
   obtain ⟨z, hz, rfl⟩ := p
   obtain ⟨z', hz', rfl⟩ := q
   rw [hz] at hz'; cases hz'
   exact .v _ rfl)
  (fun i u p => by
   rw [List.getElem?_map, Option.map_eq_some_iff] at p
   obtain ⟨z, hz, rfl⟩ := p
   rfl)
  (fun u hu x hx => by
   obtain ⟨z, hz, rfl⟩ := List.mem_map.1 hu
   simp [Value.cells] at hx
   subst hx; rfl)
  (fun i u j x p q => by
   rw [List.getElem?_map, Option.map_eq_some_iff] at p
   obtain ⟨z, hz, rfl⟩ := p
   have hj : j = 0 := by
    have := (Array.getElem?_eq_some_iff.1 q).1
    simp [Value.cells] at this; omega
   subst hj
   simp [Value.cells] at q
   subst q
   simp only [Gh.setImm, if_true, Nat.mul_one, Nat.zero_add, Nat.add_zero]
   rw [List.getElem?_toArray, List.getElem?_map, hz]; rfl)
 simpa using this
end
end Aml
namespace Go.Proofs.YtldimfofkbomnaaGreatDoor
open Aml
@[go_sem] theorem ty.k1 : tk Tryz.prog 1 = .fn := by kernel_rfl
@[go_sem] theorem ty.z1 : zD Tryz.prog 1 = .v .nilFunc := by kernel_rfl
@[go_sem] theorem ty.c1 : Tryz.prog.cellsOf 1 = 1 := by kernel_rfl
@[go_sem] theorem ty.i1 : (Tryz.prog.info? 1).isSome = true := by kernel_rfl
@[go_sem] theorem ty.k2 : tk Tryz.prog 2 = .int .i64 := by kernel_rfl
@[go_sem] theorem ty.z2 : zD Tryz.prog 2 = .v (.int .i64 0) := by kernel_rfl
@[go_sem] theorem ty.c2 : Tryz.prog.cellsOf 2 = 1 := by kernel_rfl
@[go_sem] theorem ty.i2 : (Tryz.prog.info? 2).isSome = true := by kernel_rfl
@[go_sem] theorem ty.k3 : tk Tryz.prog 3 = .int .i64 := by kernel_rfl
@[go_sem] theorem ty.z3 : zD Tryz.prog 3 = .v (.int .i64 0) := by kernel_rfl
@[go_sem] theorem ty.c3 : Tryz.prog.cellsOf 3 = 1 := by kernel_rfl
@[go_sem] theorem ty.i3 : (Tryz.prog.info? 3).isSome = true := by kernel_rfl
@[go_sem] theorem ty.k4 : tk Tryz.prog 4 = .one := by kernel_rfl
@[go_sem] theorem ty.z4 : zD Tryz.prog 4 = .v (.bool false) := by kernel_rfl
@[go_sem] theorem ty.c4 : Tryz.prog.cellsOf 4 = 1 := by kernel_rfl
@[go_sem] theorem ty.i4 : (Tryz.prog.info? 4).isSome = true := by kernel_rfl
@[go_sem] theorem ty.k5 : tk Tryz.prog 5 = .int .u8 := by kernel_rfl
@[go_sem] theorem ty.z5 : zD Tryz.prog 5 = .v (.int .u8 0) := by kernel_rfl
@[go_sem] theorem ty.c5 : Tryz.prog.cellsOf 5 = 1 := by kernel_rfl
@[go_sem] theorem ty.i5 : (Tryz.prog.info? 5).isSome = true := by kernel_rfl
@[go_sem] theorem ty.k6 : tk Tryz.prog 6 = .int .u8 := by kernel_rfl
@[go_sem] theorem ty.z6 : zD Tryz.prog 6 = .v (.int .u8 0) := by kernel_rfl
@[go_sem] theorem ty.c6 : Tryz.prog.cellsOf 6 = 1 := by kernel_rfl
@[go_sem] theorem ty.k7 : tk Tryz.prog 7 = .st [(0, 1, false), (1, 1, false), (2, 1, false), (3, 1, false)] 4 := by kernel_rfl
@[go_sem] theorem ty.q7 : eqK Tryz.prog 7 = some [.int .i64, .int .i64, .bool, .int .u8] := by kernel_rfl
@[go_sem] theorem ty.z7 : zD Tryz.prog 7 = .agg [.v (.int .i64 0), .v (.int .i64 0), .v (.bool false), .v (.int .u8 0)] := by kernel_rfl
@[go_sem] theorem ty.c7 : Tryz.prog.cellsOf 7 = 4 := by kernel_rfl
@[go_sem] theorem ty.k8 : tk Tryz.prog 8 = .st [(0, 1, false), (1, 1, false), (2, 1, false), (3, 1, false)] 4 := by kernel_rfl
@[go_sem] theorem ty.q8 : eqK Tryz.prog 8 = some [.int .i64, .int .i64, .bool, .int .u8] := by kernel_rfl
@[go_sem] theorem ty.c8 : Tryz.prog.cellsOf 8 = 4 := by kernel_rfl
@[go_sem] theorem ty.k9 : tk Tryz.prog 9 = .str := by kernel_rfl
@[go_sem] theorem ty.z9 : zD Tryz.prog 9 = .v (.string ByteArray.empty) := by kernel_rfl
@[go_sem] theorem ty.c9 : Tryz.prog.cellsOf 9 = 1 := by kernel_rfl
@[go_sem] theorem ty.i9 : (Tryz.prog.info? 9).isSome = true := by kernel_rfl
@[go_sem] theorem ty.k10 : tk Tryz.prog 10 = .str := by kernel_rfl
@[go_sem] theorem ty.z20 : zD Tryz.prog 20 = .v .nilIface := by kernel_rfl
@[go_sem] theorem ty.c20 : Tryz.prog.cellsOf 20 = 1 := by kernel_rfl
@[go_sem] theorem ty.i20 : (Tryz.prog.info? 20).isSome = true := by kernel_rfl
@[go_sem] theorem ty.k21 : tk Tryz.prog 21 = .int .i32 := by kernel_rfl
@[go_sem] theorem ty.z21 : zD Tryz.prog 21 = .v (.int .i32 0) := by kernel_rfl
@[go_sem] theorem ty.c21 : Tryz.prog.cellsOf 21 = 1 := by kernel_rfl
@[go_sem] theorem ty.i21 : (Tryz.prog.info? 21).isSome = true := by kernel_rfl
@[go_sem] theorem ty.k22 : tk Tryz.prog 22 = .sl 9 1 16 true := by kernel_rfl
@[go_sem] theorem ty.e22 : elT Tryz.prog 22 = 9 := by kernel_rfl
@[go_sem] theorem ty.c22 : Tryz.prog.cellsOf 22 = 1 := by kernel_rfl
@[go_sem] theorem ty.i22 : (Tryz.prog.info? 22).isSome = true := by kernel_rfl
@[go_sem] theorem ty.k24 : tk Tryz.prog 24 = .st [(0, 1, false), (1, 1, false), (2, 1, false), (3, 1, false), (4, 1, false), (5, 1, false), (6, 1, false), (7, 1, false), (8, 1, false), (9, 1, false), (10, 1, false)] 11 := by kernel_rfl
@[go_sem] theorem ty.z24 : zD Tryz.prog 24 = .agg [.v (.int .i64 0), .v (.int .i64 0), .v (.int .i64 0), .v (.int .i64 0), .v (.string ByteArray.empty), .v (.string ByteArray.empty), .v (.string ByteArray.empty), .v (.int .i64 0), .v (.int .i64 0), .v (.int .i64 0), .sl 0 true []] := by kernel_rfl
@[go_sem] theorem ty.c24 : Tryz.prog.cellsOf 24 = 11 := by kernel_rfl
@[go_sem] theorem ty.i24 : (Tryz.prog.info? 24).isSome = true := by kernel_rfl
@[go_sem] theorem ty.k31 : tk Tryz.prog 31 = .int .i64 := by kernel_rfl
@[go_sem] theorem ty.z31 : zD Tryz.prog 31 = .v (.int .i64 0) := by kernel_rfl
@[go_sem] theorem ty.k37 : tk Tryz.prog 37 = .sl 24 11 128 true := by kernel_rfl
@[go_sem] theorem ty.e37 : elT Tryz.prog 37 = 24 := by kernel_rfl
@[go_sem] theorem ty.z37 : zD Tryz.prog 37 = .sl 0 true [] := by kernel_rfl
@[go_sem] theorem ty.c37 : Tryz.prog.cellsOf 37 = 1 := by kernel_rfl
@[go_sem] theorem ty.i37 : (Tryz.prog.info? 37).isSome = true := by kernel_rfl
@[go_sem] theorem ty.k42 : tk Tryz.prog 42 = .sl 93 3 40 true := by kernel_rfl
@[go_sem] theorem ty.k44 : tk Tryz.prog 44 = .st [(0, 1, false), (1, 1, false), (2, 1, false), (3, 1, false)] 4 := by kernel_rfl
@[go_sem] theorem ty.q44 : eqK Tryz.prog 44 = some [.int .i64, .int .i64, .int .i64, .int .i64] := by kernel_rfl
@[go_sem] theorem ty.z44 : zD Tryz.prog 44 = .agg [.v (.int .i64 0), .v (.int .i64 0), .v (.int .i64 0), .v (.int .i64 0)] := by kernel_rfl
@[go_sem] theorem ty.c44 : Tryz.prog.cellsOf 44 = 4 := by kernel_rfl
@[go_sem] theorem ty.i44 : (Tryz.prog.info? 44).isSome = true := by kernel_rfl
@[go_sem] theorem ty.k45 : tk Tryz.prog 45 = .sl 96 6 64 true := by kernel_rfl
@[go_sem] theorem ty.z46 : zD Tryz.prog 46 = .agg [.v (.int .i64 0), .v (.int .i64 0), .sl 0 true [], .v (.int .i64 0), .v (.int .i64 0), .v (.int .i64 0), .v (.int .i64 0), .sl 0 true []] := by kernel_rfl
@[go_sem] theorem ty.c46 : Tryz.prog.cellsOf 46 = 8 := by kernel_rfl
@[go_sem] theorem ty.i46 : (Tryz.prog.info? 46).isSome = true := by kernel_rfl
@[go_sem] theorem ty.k47 : tk Tryz.prog 47 = .st [(0, 1, false), (1, 1, false), (2, 1, false), (3, 4, true), (7, 1, false)] 8 := by kernel_rfl
@[go_sem] theorem ty.z47 : zD Tryz.prog 47 = .agg [.v (.int .i64 0), .v (.int .i64 0), .sl 0 true [], .v (.int .i64 0), .v (.int .i64 0), .v (.int .i64 0), .v (.int .i64 0), .sl 0 true []] := by kernel_rfl
@[go_sem] theorem ty.k51 : tk Tryz.prog 51 = .sl 5 1 1 true := by kernel_rfl
@[go_sem] theorem ty.e51 : elT Tryz.prog 51 = 5 := by kernel_rfl
@[go_sem] theorem ty.z51 : zD Tryz.prog 51 = .sl 0 true [] := by kernel_rfl
@[go_sem] theorem ty.c51 : Tryz.prog.cellsOf 51 = 1 := by kernel_rfl
@[go_sem] theorem ty.i51 : (Tryz.prog.info? 51).isSome = true := by kernel_rfl
@[go_sem] theorem ty.k52 : tk Tryz.prog 52 = .int .u64 := by kernel_rfl
@[go_sem] theorem ty.z52 : zD Tryz.prog 52 = .v (.int .u64 0) := by kernel_rfl
@[go_sem] theorem ty.z53 : zD Tryz.prog 53 = .v .nilIface := by kernel_rfl
@[go_sem] theorem ty.c53 : Tryz.prog.cellsOf 53 = 1 := by kernel_rfl
@[go_sem] theorem ty.i53 : (Tryz.prog.info? 53).isSome = true := by kernel_rfl
@[go_sem] theorem ty.k54 : tk Tryz.prog 54 = .ifc ["Error"] := by kernel_rfl
@[go_sem] theorem ty.z59 : zD Tryz.prog 59 = .agg [.v (.pointer none), .sl 0 true []] := by kernel_rfl
@[go_sem] theorem ty.i64 : (Tryz.prog.info? 64).isSome = true := by kernel_rfl
@[go_sem] theorem ty.k68 : tk Tryz.prog 68 = .int .u64 := by kernel_rfl
@[go_sem] theorem ty.k70 : tk Tryz.prog 70 = .sl 75 3 32 true := by kernel_rfl
@[go_sem] theorem ty.e70 : elT Tryz.prog 70 = 75 := by kernel_rfl
@[go_sem] theorem ty.z70 : zD Tryz.prog 70 = .sl 0 true [] := by kernel_rfl
@[go_sem] theorem ty.k72 : tk Tryz.prog 72 = .fn := by kernel_rfl
@[go_sem] theorem ty.z72 : zD Tryz.prog 72 = .v .nilFunc := by kernel_rfl
@[go_sem] theorem ty.k73 : tk Tryz.prog 73 = .fn := by kernel_rfl
@[go_sem] theorem ty.k75 : tk Tryz.prog 75 = .st [(0, 1, false), (1, 1, false), (2, 1, false)] 3 := by kernel_rfl
@[go_sem] theorem ty.z75 : zD Tryz.prog 75 = .agg [.v (.string ByteArray.empty), .v .nilFunc, .v .nilFunc] := by kernel_rfl
@[go_sem] theorem ty.c75 : Tryz.prog.cellsOf 75 = 3 := by kernel_rfl
@[go_sem] theorem ty.i75 : (Tryz.prog.info? 75).isSome = true := by kernel_rfl
@[go_sem] theorem ty.z76 : zD Tryz.prog 76 = .v (.pointer none) := by kernel_rfl
@[go_sem] theorem ty.c76 : Tryz.prog.cellsOf 76 = 1 := by kernel_rfl
@[go_sem] theorem ty.i76 : (Tryz.prog.info? 76).isSome = true := by kernel_rfl
@[go_sem] theorem ty.z80 : zD Tryz.prog 80 = .v .nilFunc := by kernel_rfl
@[go_sem] theorem ty.c80 : Tryz.prog.cellsOf 80 = 1 := by kernel_rfl
@[go_sem] theorem ty.i80 : (Tryz.prog.info? 80).isSome = true := by kernel_rfl
@[go_sem] theorem ty.z85 : zD Tryz.prog 85 = .v .nilFunc := by kernel_rfl
@[go_sem] theorem ty.c85 : Tryz.prog.cellsOf 85 = 1 := by kernel_rfl
@[go_sem] theorem ty.i85 : (Tryz.prog.info? 85).isSome = true := by kernel_rfl
@[go_sem] theorem ty.k89 : tk Tryz.prog 89 = .st [(0, 1, false), (1, 1, false)] 2 := by kernel_rfl
@[go_sem] theorem ty.z89 : zD Tryz.prog 89 = .agg [.v (.string ByteArray.empty), .v (.int .i64 0)] := by kernel_rfl
@[go_sem] theorem ty.k93 : tk Tryz.prog 93 = .st [(0, 1, false), (1, 1, false), (2, 1, false)] 3 := by kernel_rfl
@[go_sem] theorem ty.z93 : zD Tryz.prog 93 = .agg [.v (.string ByteArray.empty), .v (.int .i64 0), .v (.string ByteArray.empty)] := by kernel_rfl
@[go_sem] theorem ty.c93 : Tryz.prog.cellsOf 93 = 3 := by kernel_rfl
@[go_sem] theorem ty.i93 : (Tryz.prog.info? 93).isSome = true := by kernel_rfl
@[go_sem] theorem ty.k94 : tk Tryz.prog 94 = .int .u32 := by kernel_rfl
@[go_sem] theorem ty.k96 : tk Tryz.prog 96 = .st [(0, 1, false), (1, 1, false), (2, 1, false), (3, 1, false), (4, 1, false), (5, 1, false)] 6 := by kernel_rfl
@[go_sem] theorem ty.z96 : zD Tryz.prog 96 = .agg [.v (.int .i64 0), .v (.int .i64 0), .v (.int .i64 0), .v (.string ByteArray.empty), .v (.string ByteArray.empty), .v (.int .u32 0)] := by kernel_rfl
@[go_sem] theorem ty.c96 : Tryz.prog.cellsOf 96 = 6 := by kernel_rfl
@[go_sem] theorem ty.i96 : (Tryz.prog.info? 96).isSome = true := by kernel_rfl
@[go_sem] theorem ty.k102 : tk Tryz.prog 102 = .ar 17 9 1 false 17 := by kernel_rfl
@[go_sem] theorem ty.k105 : tk Tryz.prog 105 = .fn := by kernel_rfl
@[go_sem] theorem ty.z105 : zD Tryz.prog 105 = .v .nilFunc := by kernel_rfl
@[go_sem] theorem ty.k108 : tk Tryz.prog 108 = .fn := by kernel_rfl
@[go_sem] theorem ty.k111 : tk Tryz.prog 111 = .int .i64 := by kernel_rfl
@[go_sem] theorem ty.z119 : zD Tryz.prog 119 = .agg [.v (.int .u8 0), .v (.int .u8 0)] := by kernel_rfl
@[go_sem] theorem ty.z126 : zD Tryz.prog 126 = .agg [.v (.int .u8 0), .v (.int .u8 0), .v (.int .u8 0), .v (.int .u8 0), .v (.int .u8 0), .v (.int .u8 0), .v (.int .u8 0), .v (.int .u8 0), .v (.int .u8 0), .v (.int .u8 0), .v (.int .u8 0), .v (.int .u8 0), .v (.int .u8 0), .v (.int .u8 0), .v (.int .u8 0), .v (.int .u8 0), .v (.int .u8 0), .v (.int .u8 0), .v (.int .u8 0), .v (.int .u8 0), .v (.int .u8 0), .v (.int .u8 0), .v (.int .u8 0), .v (.int .u8 0)] := by kernel_rfl
@[go_sem] theorem ty.z127 : zD Tryz.prog 127 = .v .nilFunc := by kernel_rfl
@[go_sem] theorem ty.c127 : Tryz.prog.cellsOf 127 = 1 := by kernel_rfl
@[go_sem] theorem ty.i127 : (Tryz.prog.info? 127).isSome = true := by kernel_rfl
@[go_sem] theorem ty.z138 : zD Tryz.prog 138 = .agg [.v (.int .u64 0), .v (.int .u64 0), .v (.int .u64 0), .v (.int .u64 0), .v (.int .u64 0), .v (.int .u64 0), .v (.int .u64 0), .v (.int .u64 0), .v (.int .u64 0), .v (.int .u64 0), .v (.int .u64 0), .v (.int .u64 0), .v (.int .u64 0), .v (.int .u64 0), .v (.int .u64 0), .v (.int .u64 0), .v (.int .u64 0), .v (.int .u64 0), .v (.int .u64 0), .v (.int .u64 0)] := by kernel_rfl
@[go_sem] theorem ty.z139 : zD Tryz.prog 139 = .agg [.v (.int .u8 0), .v (.int .u8 0), .v (.int .u8 0), .v (.int .u8 0), .v (.int .u8 0), .v (.int .u8 0), .v (.int .u8 0), .v (.int .u8 0), .v (.int .u8 0), .v (.int .u8 0), .v (.int .u8 0), .v (.int .u8 0), .v (.int .u8 0), .v (.int .u8 0), .v (.int .u8 0), .v (.int .u8 0), .v (.int .u8 0), .v (.int .u8 0), .v (.int .u8 0), .v (.int .u8 0), .v (.int .u8 0), .v (.int .u8 0), .v (.int .u8 0), .v (.int .u8 0), .v (.int .u8 0), .v (.int .u8 0), .v (.int .u8 0), .v (.int .u8 0), .v (.int .u8 0), .v (.int .u8 0), .v (.int .u8 0), .v (.int .u8 0), .v (.int .u8 0), .v (.int .u8 0), .v (.int .u8 0), .v (.int .u8 0), .v (.int .u8 0), .v (.int .u8 0), .v (.int .u8 0), .v (.int .u8 0), .v (.int .u8 0), .v (.int .u8 0), .v (.int .u8 0), .v (.int .u8 0), .v (.int .u8 0), .v (.int .u8 0), .v (.int .u8 0), .v (.int .u8 0), .v (.int .u8 0), .v (.int .u8 0), .v (.int .u8 0), .v (.int .u8 0), .v (.int .u8 0), .v (.int .u8 0), .v (.int .u8 0), .v (.int .u8 0), .v (.int .u8 0), .v (.int .u8 0), .v (.int .u8 0), .v (.int .u8 0), .v (.int .u8 0), .v (.int .u8 0), .v (.int .u8 0), .v (.int .u8 0), .v (.int .u8 0)] := by kernel_rfl
@[go_sem] theorem ty.z143 : zD Tryz.prog 143 = .agg [.v (.string ByteArray.empty)] := by kernel_rfl
@[go_sem] theorem ty.c143 : Tryz.prog.cellsOf 143 = 1 := by kernel_rfl
@[go_sem] theorem ty.i143 : (Tryz.prog.info? 143).isSome = true := by kernel_rfl
@[go_sem] theorem ty.z146 : zD Tryz.prog 146 = .v .nilFunc := by kernel_rfl
@[go_sem] theorem ty.z164 : zD Tryz.prog 164 = .agg [.v (.int .u64 0), .v (.int .u64 0), .v (.int .u32 0), .v (.int .u8 0), .v (.int .u8 0), .v (.int .u8 0), .v (.int .u8 0), .v .nilFunc, .v (.pointer none), .v (.int .i32 0), .v (.int .i32 0)] := by kernel_rfl
@[go_sem] theorem ty.f0 : okF Tryz.prog 0 = false := by kernel_rfl
@[go_sem] theorem ty.f1 : okF Tryz.prog 1 = false := by kernel_rfl
@[go_sem] theorem ty.f2 : okF Tryz.prog 2 = true := by kernel_rfl
@[go_sem] theorem ty.f3 : okF Tryz.prog 3 = true := by kernel_rfl
@[go_sem] theorem ty.f4 : okF Tryz.prog 4 = true := by kernel_rfl
@[go_sem] theorem ty.f5 : okF Tryz.prog 5 = true := by kernel_rfl
@[go_sem] theorem ty.f6 : okF Tryz.prog 6 = true := by kernel_rfl
@[go_sem] theorem ty.f7 : okF Tryz.prog 7 = true := by kernel_rfl
@[go_sem] theorem ty.f8 : okF Tryz.prog 8 = true := by kernel_rfl
@[go_sem] theorem ty.f9 : okF Tryz.prog 9 = true := by kernel_rfl
@[go_sem] theorem ty.f10 : okF Tryz.prog 10 = true := by kernel_rfl
@[go_sem] theorem ty.f11 : okF Tryz.prog 11 = true := by kernel_rfl
@[go_sem] theorem ty.f12 : okF Tryz.prog 12 = true := by kernel_rfl
@[go_sem] theorem ty.f13 : okF Tryz.prog 13 = true := by kernel_rfl
@[go_sem] theorem ty.f14 : okF Tryz.prog 14 = true := by kernel_rfl
@[go_sem] theorem ty.f15 : okF Tryz.prog 15 = true := by kernel_rfl
@[go_sem] theorem ty.f16 : okF Tryz.prog 16 = true := by kernel_rfl
@[go_sem] theorem ty.f17 : okF Tryz.prog 17 = true := by kernel_rfl
@[go_sem] theorem ty.f18 : okF Tryz.prog 18 = true := by kernel_rfl
@[go_sem] theorem ty.f19 : okF Tryz.prog 19 = true := by kernel_rfl
@[go_sem] theorem ty.f20 : okF Tryz.prog 20 = true := by kernel_rfl
@[go_sem] theorem ty.f21 : okF Tryz.prog 21 = true := by kernel_rfl
@[go_sem] theorem ty.f22 : okF Tryz.prog 22 = true := by kernel_rfl
@[go_sem] theorem ty.f23 : okF Tryz.prog 23 = true := by kernel_rfl
@[go_sem] theorem ty.f24 : okF Tryz.prog 24 = true := by kernel_rfl
@[go_sem] theorem ty.f25 : okF Tryz.prog 25 = true := by kernel_rfl
@[go_sem] theorem ty.f26 : okF Tryz.prog 26 = true := by kernel_rfl
@[go_sem] theorem ty.f27 : okF Tryz.prog 27 = true := by kernel_rfl
@[go_sem] theorem ty.f28 : okF Tryz.prog 28 = true := by kernel_rfl
@[go_sem] theorem ty.f29 : okF Tryz.prog 29 = true := by kernel_rfl
@[go_sem] theorem ty.f30 : okF Tryz.prog 30 = true := by kernel_rfl
@[go_sem] theorem ty.f31 : okF Tryz.prog 31 = true := by kernel_rfl
@[go_sem] theorem ty.f32 : okF Tryz.prog 32 = true := by kernel_rfl
@[go_sem] theorem ty.f33 : okF Tryz.prog 33 = true := by kernel_rfl
@[go_sem] theorem ty.f34 : okF Tryz.prog 34 = true := by kernel_rfl
@[go_sem] theorem ty.f35 : okF Tryz.prog 35 = true := by kernel_rfl
@[go_sem] theorem ty.f36 : okF Tryz.prog 36 = true := by kernel_rfl
@[go_sem] theorem ty.f37 : okF Tryz.prog 37 = true := by kernel_rfl
@[go_sem] theorem ty.f38 : okF Tryz.prog 38 = true := by kernel_rfl
@[go_sem] theorem ty.f39 : okF Tryz.prog 39 = true := by kernel_rfl
@[go_sem] theorem ty.f40 : okF Tryz.prog 40 = true := by kernel_rfl
@[go_sem] theorem ty.f41 : okF Tryz.prog 41 = true := by kernel_rfl
@[go_sem] theorem ty.f42 : okF Tryz.prog 42 = true := by kernel_rfl
@[go_sem] theorem ty.f43 : okF Tryz.prog 43 = true := by kernel_rfl
@[go_sem] theorem ty.f44 : okF Tryz.prog 44 = true := by kernel_rfl
@[go_sem] theorem ty.f45 : okF Tryz.prog 45 = true := by kernel_rfl
@[go_sem] theorem ty.f46 : okF Tryz.prog 46 = true := by kernel_rfl
@[go_sem] theorem ty.f47 : okF Tryz.prog 47 = true := by kernel_rfl
@[go_sem] theorem ty.f48 : okF Tryz.prog 48 = true := by kernel_rfl
@[go_sem] theorem ty.f49 : okF Tryz.prog 49 = true := by kernel_rfl
@[go_sem] theorem ty.f50 : okF Tryz.prog 50 = true := by kernel_rfl
@[go_sem] theorem ty.f51 : okF Tryz.prog 51 = true := by kernel_rfl
@[go_sem] theorem ty.f52 : okF Tryz.prog 52 = true := by kernel_rfl
@[go_sem] theorem ty.f53 : okF Tryz.prog 53 = true := by kernel_rfl
@[go_sem] theorem ty.f56 : okF Tryz.prog 56 = true := by kernel_rfl
@[go_sem] theorem ty.f58 : okF Tryz.prog 58 = true := by kernel_rfl
@[go_sem] theorem ty.f62 : okF Tryz.prog 62 = true := by kernel_rfl
@[go_sem] theorem ty.f74 : okF Tryz.prog 74 = true := by kernel_rfl
@[go_sem] theorem ty.f75 : okF Tryz.prog 75 = true := by kernel_rfl
@[go_sem] theorem ty.f81 : okF Tryz.prog 81 = true := by kernel_rfl
@[go_sem] theorem ty.f85 : okF Tryz.prog 85 = true := by kernel_rfl
@[go_sem] theorem ty.f100 : okF Tryz.prog 100 = true := by kernel_rfl
@[go_sem] theorem ty.f101 : okF Tryz.prog 101 = true := by kernel_rfl
@[go_sem] theorem ty.f119 : okF Tryz.prog 119 = true := by kernel_rfl
@[go_sem] theorem ty.f129 : okF Tryz.prog 129 = false := by kernel_rfl
@[go_sem] theorem ty.f137 : okF Tryz.prog 137 = false := by kernel_rfl
@[go_sem] theorem ty.f138 : okF Tryz.prog 138 = false := by kernel_rfl
@[go_sem] theorem ty.f143 : okF Tryz.prog 143 = false := by kernel_rfl
@[go_sem] theorem ty.f145 : okF Tryz.prog 145 = false := by kernel_rfl
@[go_sem] theorem ty.f146 : okF Tryz.prog 146 = false := by kernel_rfl
@[go_sem] theorem ty.f151 : okF Tryz.prog 151 = true := by kernel_rfl
theorem mx : Tryz.prog.follows .mixedOrders = true := by kernel_rfl
end Go.Proofs.YtldimfofkbomnaaGreatDoor
namespace Go.Proofs.YtldimfofkbomnaaGreatDoor
open Aml Go Go.RowKit Go.Shelf Go.Proofs
def sbRen : Go.Shelf.Ren := ⟨fun | 166 => 30 | 167 => 26 | 168 => 29 | 169 => 31 | 240 => 54 | 242 => 57 | 276 => 80 | 278 => 82 | n => n, fun | 0 => 0 | 3 => 3 | 4 => 4 | 5 => 5 | 9 => 9 | 20 => 20 | 21 => 21 | 37 => 51 | 46 => 68 | 51 => 94 | 70 => 58 | 72 => 60 | 75 => 54 | 80 => 69 | 127 => 101 | 164 => 116 | n => n, fun n => n⟩
theorem sbLays166 : Go.Proofs.Lays.n166 Tryz.prog sbRen := {
 mixed := by kernel_rfl
 f166 := Tryz.func30.trans (congrArg some (by kernel_rfl))
 f240 := Tryz.func54.trans (congrArg some (by kernel_rfl))
 f276 := Tryz.func80.trans (congrArg some (by kernel_rfl))
 t0 := Tryz.underlying0
 a0 := Tryz.isAgg0
 z0 := Tryz.sizeOf0
 v0 := Tryz.zeroValue0
 t3 := Tryz.underlying3
 a3 := Tryz.isAgg3
 z3 := Tryz.sizeOf3
 v3 := Tryz.zeroValue3
 t4 := Tryz.underlying4
 a4 := Tryz.isAgg4
 z4 := Tryz.sizeOf4
 v4 := Tryz.zeroValue4
 t9 := Tryz.underlying9
 a9 := Tryz.isAgg9
 z9 := Tryz.sizeOf9
 v9 := Tryz.zeroValue9
 t20 := Tryz.underlying20
 a20 := Tryz.isAgg20
 z20 := Tryz.sizeOf20
 v20 := Tryz.zeroValue20
 t37 := Tryz.underlying51
 a37 := Tryz.isAgg51
 z37 := Tryz.sizeOf51
 v37 := Tryz.zeroValue51
 t70 := Tryz.underlying58
 a70 := Tryz.isAgg58
 z70 := Tryz.sizeOf58
 v70 := Tryz.zeroValue58
 t72 := Tryz.underlying60
 a72 := Tryz.isAgg60
 z72 := Tryz.sizeOf60
 v72 := Tryz.zeroValue60
 t75 := Tryz.underlying54
 a75 := Tryz.isAgg54
 z75 := Tryz.sizeOf54
 v75 := Tryz.zeroValue54
 t164 := Tryz.underlying116
 a164 := Tryz.isAgg116
 z164 := Tryz.sizeOf116
 v164 := Tryz.zeroValue116 }
theorem sbLays167 : Go.Proofs.Lays.n167 Tryz.prog sbRen := {
 mixed := by kernel_rfl
 f167 := Tryz.func26.trans (congrArg some (by kernel_rfl))
 f240 := Tryz.func54.trans (congrArg some (by kernel_rfl))
 f276 := Tryz.func80.trans (congrArg some (by kernel_rfl))
 t0 := Tryz.underlying0
 a0 := Tryz.isAgg0
 z0 := Tryz.sizeOf0
 v0 := Tryz.zeroValue0
 t4 := Tryz.underlying4
 a4 := Tryz.isAgg4
 z4 := Tryz.sizeOf4
 v4 := Tryz.zeroValue4
 t5 := Tryz.underlying5
 a5 := Tryz.isAgg5
 z5 := Tryz.sizeOf5
 v5 := Tryz.zeroValue5
 t9 := Tryz.underlying9
 a9 := Tryz.isAgg9
 z9 := Tryz.sizeOf9
 v9 := Tryz.zeroValue9
 t20 := Tryz.underlying20
 a20 := Tryz.isAgg20
 z20 := Tryz.sizeOf20
 v20 := Tryz.zeroValue20
 t37 := Tryz.underlying51
 a37 := Tryz.isAgg51
 z37 := Tryz.sizeOf51
 v37 := Tryz.zeroValue51
 t70 := Tryz.underlying58
 a70 := Tryz.isAgg58
 z70 := Tryz.sizeOf58
 v70 := Tryz.zeroValue58
 t72 := Tryz.underlying60
 a72 := Tryz.isAgg60
 z72 := Tryz.sizeOf60
 v72 := Tryz.zeroValue60
 t75 := Tryz.underlying54
 a75 := Tryz.isAgg54
 z75 := Tryz.sizeOf54
 v75 := Tryz.zeroValue54
 t164 := Tryz.underlying116
 a164 := Tryz.isAgg116
 z164 := Tryz.sizeOf116
 v164 := Tryz.zeroValue116 }
theorem sbLays168 : Go.Proofs.Lays.n168 Tryz.prog sbRen := {
 mixed := by kernel_rfl
 f168 := Tryz.func29.trans (congrArg some (by kernel_rfl))
 f240 := Tryz.func54.trans (congrArg some (by kernel_rfl))
 f242 := Tryz.func57.trans (congrArg some (by kernel_rfl))
 f276 := Tryz.func80.trans (congrArg some (by kernel_rfl))
 f278 := Tryz.func82.trans (congrArg some (by kernel_rfl))
 t0 := Tryz.underlying0
 a0 := Tryz.isAgg0
 z0 := Tryz.sizeOf0
 v0 := Tryz.zeroValue0
 t3 := Tryz.underlying3
 a3 := Tryz.isAgg3
 z3 := Tryz.sizeOf3
 v3 := Tryz.zeroValue3
 t4 := Tryz.underlying4
 a4 := Tryz.isAgg4
 z4 := Tryz.sizeOf4
 v4 := Tryz.zeroValue4
 t5 := Tryz.underlying5
 a5 := Tryz.isAgg5
 z5 := Tryz.sizeOf5
 v5 := Tryz.zeroValue5
 t9 := Tryz.underlying9
 a9 := Tryz.isAgg9
 z9 := Tryz.sizeOf9
 v9 := Tryz.zeroValue9
 t20 := Tryz.underlying20
 a20 := Tryz.isAgg20
 z20 := Tryz.sizeOf20
 v20 := Tryz.zeroValue20
 t21 := Tryz.underlying21
 a21 := Tryz.isAgg21
 z21 := Tryz.sizeOf21
 v21 := Tryz.zeroValue21
 t37 := Tryz.underlying51
 a37 := Tryz.isAgg51
 z37 := Tryz.sizeOf51
 v37 := Tryz.zeroValue51
 t46 := Tryz.underlying68
 a46 := Tryz.isAgg68
 z46 := Tryz.sizeOf68
 v46 := Tryz.zeroValue68
 t51 := Tryz.underlying94
 a51 := Tryz.isAgg94
 z51 := Tryz.sizeOf94
 v51 := Tryz.zeroValue94
 t70 := Tryz.underlying58
 a70 := Tryz.isAgg58
 z70 := Tryz.sizeOf58
 v70 := Tryz.zeroValue58
 t72 := Tryz.underlying60
 a72 := Tryz.isAgg60
 z72 := Tryz.sizeOf60
 v72 := Tryz.zeroValue60
 t75 := Tryz.underlying54
 a75 := Tryz.isAgg54
 z75 := Tryz.sizeOf54
 v75 := Tryz.zeroValue54
 t164 := Tryz.underlying116
 a164 := Tryz.isAgg116
 z164 := Tryz.sizeOf116
 v164 := Tryz.zeroValue116 }
theorem sbLays169 : Go.Proofs.Lays.n169 Tryz.prog sbRen := {
 mixed := by kernel_rfl
 f169 := Tryz.func31.trans (congrArg some (by kernel_rfl))
 t0 := Tryz.underlying0
 a0 := Tryz.isAgg0
 z0 := Tryz.sizeOf0
 v0 := Tryz.zeroValue0
 t3 := Tryz.underlying3
 a3 := Tryz.isAgg3
 z3 := Tryz.sizeOf3
 v3 := Tryz.zeroValue3
 t9 := Tryz.underlying9
 a9 := Tryz.isAgg9
 z9 := Tryz.sizeOf9
 v9 := Tryz.zeroValue9
 t37 := Tryz.underlying51
 a37 := Tryz.isAgg51
 z37 := Tryz.sizeOf51
 v37 := Tryz.zeroValue51
 t70 := Tryz.underlying58
 a70 := Tryz.isAgg58
 z70 := Tryz.sizeOf58
 v70 := Tryz.zeroValue58
 t72 := Tryz.underlying60
 a72 := Tryz.isAgg60
 z72 := Tryz.sizeOf60
 v72 := Tryz.zeroValue60
 t127 := Tryz.underlying101
 a127 := Tryz.isAgg101
 z127 := Tryz.sizeOf101
 v127 := Tryz.zeroValue101 }
theorem sbExtra : Builder.Extra Tryz.prog sbRen := {
 sizeBuilder := by kernel_rfl
 liesBuilder := by kernel_rfl
 t5 := Tryz.underlying5
 a5 := Tryz.isAgg5
 z5 := Tryz.sizeOf5
 v5 := Tryz.zeroValue5
 infoByte := by kernel_rfl
 cellsByte := by kernel_rfl
 sizeByte := by kernel_rfl
 neB5 := by decide }
@[go_sem] def sbO (l : List UInt8) : Ob := .sb 60 5 l
theorem wByte (w0 : W0) (S : St) (l : Nat) (bs : List UInt8) (c : Int) (hl : lk S.acc l = some (sbO bs)) (h0 : 0 ≤ c) (h1 : c < 256) (hlen : bs.length < 140737488355328) :
  ACall Tryz.prog w0 26 [.it l, .v (.int .u8 c)] S (fun d S' => d = .v .nilIface ∧ S' = ⟨S.box, Aml.up S.acc l (sbO (bs ++ [UInt8.ofNat c.toNat]))⟩) := by
 refine sbCall (us := [.int .u8 c]) (bs' := bs ++ [UInt8.ofNat c.toNat]) hl (fun g => .v _ rfl) fun b p v w h => ?_
 refine (sbByte sbLays167 sbExtra h c (by rw [Lib.byteCells_length]; omega)).mono ?_
 rintro e w' ⟨rfl, hp⟩
 have e1 : ((UInt8.ofNat c.toNat).toNat : Int) = c := by
  have : (UInt8.ofNat c.toNat).toNat = c.toNat := by simp; omega
  omega
 refine ⟨rfl, ?_⟩
 rw [Lib.byteCells_append]
 simp only [Lib.byteCells, List.map_cons, List.map_nil, e1]
 exact hp
theorem wText (w0 : W0) (S : St) (l : Nat) (bs : List UInt8) (s : ByteArray) (hl : lk S.acc l = some (sbO bs)) (hlen : bs.length + s.size ≤ 140737488355328) :
  ACall Tryz.prog w0 30 [.it l, .v (.string s)] S (fun d S' => d = .tup [.v (.int .i64 s.size), .v .nilIface] ∧ S' = ⟨S.box, Aml.up S.acc l (sbO (bs ++ s.data.toList))⟩) := by
 refine sbCall (us := [.string s]) (bs' := bs ++ s.data.toList) hl (fun g => rep_tup2 (.v _ rfl) (.v _ rfl)) fun b p v w h => ?_
 refine (sbText sbLays166 sbExtra h s (by rw [Lib.byteCells_length]; omega)).mono ?_
 rintro e w' ⟨rfl, hp⟩
 refine ⟨rfl, ?_⟩
 rw [Lib.byteCells_append, ← Lib.strCells_eq]
 exact hp
theorem wRune (w0 : W0) (S : St) (l : Nat) (bs : List UInt8) (r : Int) (hl : lk S.acc l = some (sbO bs)) (h0 : -2147483648 ≤ r) (h1 : r ≤ 2147483647) (hlen : bs.length + 4 ≤ 140737488355328) :
  ACall Tryz.prog w0 29 [.it l, .v (.int .i32 r)] S (fun d S' => d = .tup [.v (.int .i64 (Lib.runeCells r).length), .v .nilIface] ∧ S' = ⟨S.box, Aml.up S.acc l (sbO (bs ++ Lib.encodeRune r))⟩) := by
 refine sbCall (us := [.int .i32 r]) (bs' := bs ++ Lib.encodeRune r) hl (fun g => rep_tup2 (.v _ rfl) (.v _ rfl)) fun b p v w h => ?_
 refine (sbRune sbLays168 sbExtra h r h0 h1 (by rw [Lib.byteCells_length]; omega)).mono ?_
 rintro e w' ⟨rfl, hp⟩
 refine ⟨rfl, ?_⟩
 rw [Lib.byteCells_append, Lib.byteCells_encodeRune]
 exact hp
theorem wString (w0 : W0) (S : St) (l : Nat) (bs : List UInt8) (hl : lk S.acc l = some (sbO bs)) :
  ACall Tryz.prog w0 31 [.it l] S (fun d S' => d = .v (.string ⟨bs.toArray⟩) ∧ S' = ⟨S.box, Aml.up S.acc l (sbO bs)⟩) :=
 sbCall (us := []) (bs' := bs) hl (fun g => .v _ rfl) fun b p v w h => sbString sbLays169 sbExtra h
end Go.Proofs.YtldimfofkbomnaaGreatDoor
namespace Go.Proofs
open Go.Shelf
def Tryz.lays156_ren : Go.Shelf.Ren := ⟨fun | 156 => 34 | 165 => 69 | 166 => 30 | 169 => 31 | 240 => 54 | 241 => 88 | 276 => 80 | 277 => 105 | n => n, fun | 31 => 22 | 9 => 9 | 3 => 3 | 4 => 4 | 0 => 0 | 20 => 20 | 72 => 60 | 76 => 65 | 70 => 58 | 37 => 51 | 75 => 54 | 127 => 101 | 164 => 116 | 5 => 5 | 80 => 69 | n => n, fun | n => n⟩
theorem Tryz.lays156 : Go.Proofs.Lays.n156 Tryz.prog Tryz.lays156_ren := {
 mixed := by kernel_rfl
 f156 := Tryz.func34.trans (congrArg some (by kernel_rfl))
 f165 := Tryz.func69.trans (congrArg some (by kernel_rfl))
 f166 := Tryz.func30.trans (congrArg some (by kernel_rfl))
 f169 := Tryz.func31.trans (congrArg some (by kernel_rfl))
 f240 := Tryz.func54.trans (congrArg some (by kernel_rfl))
 f241 := Tryz.func88.trans (congrArg some (by kernel_rfl))
 f276 := Tryz.func80.trans (congrArg some (by kernel_rfl))
 f277 := Tryz.func105.trans (congrArg some (by kernel_rfl))
 t0 := Tryz.underlying0
 a0 := Tryz.isAgg0
 z0 := Tryz.sizeOf0
 v0 := Tryz.zeroValue0
 t3 := Tryz.underlying3
 a3 := Tryz.isAgg3
 z3 := Tryz.sizeOf3
 v3 := Tryz.zeroValue3
 t4 := Tryz.underlying4
 a4 := Tryz.isAgg4
 z4 := Tryz.sizeOf4
 v4 := Tryz.zeroValue4
 t9 := Tryz.underlying9
 a9 := Tryz.isAgg9
 z9 := Tryz.sizeOf9
 v9 := Tryz.zeroValue9
 t20 := Tryz.underlying20
 a20 := Tryz.isAgg20
 z20 := Tryz.sizeOf20
 v20 := Tryz.zeroValue20
 t31 := Tryz.underlying22
 a31 := Tryz.isAgg22
 z31 := Tryz.sizeOf22
 v31 := Tryz.zeroValue22
 t37 := Tryz.underlying51
 a37 := Tryz.isAgg51
 z37 := Tryz.sizeOf51
 v37 := Tryz.zeroValue51
 t70 := Tryz.underlying58
 a70 := Tryz.isAgg58
 z70 := Tryz.sizeOf58
 v70 := Tryz.zeroValue58
 t72 := Tryz.underlying60
 a72 := Tryz.isAgg60
 z72 := Tryz.sizeOf60
 v72 := Tryz.zeroValue60
 t75 := Tryz.underlying54
 a75 := Tryz.isAgg54
 z75 := Tryz.sizeOf54
 v75 := Tryz.zeroValue54
 t76 := Tryz.underlying65
 a76 := Tryz.isAgg65
 z76 := Tryz.sizeOf65
 v76 := Tryz.zeroValue65
 t127 := Tryz.underlying101
 a127 := Tryz.isAgg101
 z127 := Tryz.sizeOf101
 v127 := Tryz.zeroValue101
 t164 := Tryz.underlying116
 a164 := Tryz.isAgg116
 z164 := Tryz.sizeOf116
 v164 := Tryz.zeroValue116 }
theorem Tryz.Builder_Extra_156 : Builder.Extra Tryz.prog Tryz.lays156_ren := {
 sizeBuilder := by kernel_rfl
 liesBuilder := by kernel_rfl
 t5 := Tryz.underlying5
 a5 := Tryz.isAgg5
 z5 := Tryz.sizeOf5
 v5 := Tryz.zeroValue5
 infoByte := by kernel_rfl
 cellsByte := by kernel_rfl
 sizeByte := by kernel_rfl
 neB5 := by decide }
open Go.RowKit in
theorem Tryz.strings_Join (bk o c : Nat) (xs : List ByteArray) (sep : ByteArray) (w : World) (hcells : ∀ (j : Nat) x, xs[j]? = some x → w.cell? ⟨bk, o + j, none⟩ = some (.string x)) (hbk : bk < w.heap.size) (hN : xs.length ≤ 140737488355328) (hcap : xs.length ≤ c) (hlen : (Lib.join (xs.map (·.data.toList)) sep.data.toList).length ≤ 140737488355328) :
  Calls Tryz.prog 34 #[.slice (some ⟨bk, o, none⟩) xs.length c, .string sep] w fun e w' => e = .returned (.string ⟨(Lib.join (xs.map (·.data.toList)) sep.data.toList).toArray⟩) ∧ Below w.heap.size w w' := Any.strings_Join Tryz.lays156 Tryz.Builder_Extra_156 bk o c xs sep w hcells hbk hN hcap hlen
def Tryz.lays119_ren : Go.Shelf.Ren := ⟨fun | 119 => 101 | n => n, fun | 21 => 21 | 4 => 4 | n => n, fun | n => n⟩
theorem Tryz.lays119 : Go.Proofs.Lays.n119 Tryz.prog Tryz.lays119_ren := {
 mixed := by kernel_rfl
 f119 := Tryz.func101.trans (congrArg some (by kernel_rfl))
 t4 := Tryz.underlying4
 a4 := Tryz.isAgg4
 z4 := Tryz.sizeOf4
 v4 := Tryz.zeroValue4
 t21 := Tryz.underlying21
 a21 := Tryz.isAgg21
 z21 := Tryz.sizeOf21
 v21 := Tryz.zeroValue21 }
theorem Tryz.utf8_ValidRune (r : Int) (w : World) :
  Calls Tryz.prog 101 #[.int .i32 r] w fun e w' => e = .returned (.bool (Lib.validRune r)) ∧ w' = w := Any.utf8_ValidRune Tryz.lays119 r w
def Tryz.lays137_ren : Go.Shelf.Ren := ⟨fun | 137 => 100 | 217 => 106 | 266 => 116 | n => n, fun | 9 => 9 | 5 => 5 | 3 => 3 | n => n, fun | n => n⟩
theorem Tryz.lays137 : Go.Proofs.Lays.n137 Tryz.prog Tryz.lays137_ren := {
 mixed := by kernel_rfl
 f137 := Tryz.func100.trans (congrArg some (by kernel_rfl))
 f217 := Tryz.func106.trans (congrArg some (by kernel_rfl))
 f266 := Tryz.func116.trans (congrArg some (by kernel_rfl))
 t3 := Tryz.underlying3
 a3 := Tryz.isAgg3
 z3 := Tryz.sizeOf3
 v3 := Tryz.zeroValue3
 t5 := Tryz.underlying5
 a5 := Tryz.isAgg5
 z5 := Tryz.sizeOf5
 v5 := Tryz.zeroValue5
 t9 := Tryz.underlying9
 a9 := Tryz.isAgg9
 z9 := Tryz.sizeOf9
 v9 := Tryz.zeroValue9 }
open Go.RowKit in
theorem Tryz.strings_IndexByte (s : ByteArray) (c : Int) (w : World) :
  Calls Tryz.prog 100 #[.string s, .int .u8 c] w fun e w' => e = .returned (.int .i64 (Lib.indexByte s.data.toList c.toNat.toUInt8)) ∧ w' = w := Any.strings_IndexByte Tryz.lays137 s c w
def Tryz.lays283_ren : Go.Shelf.Ren := ⟨fun | 283 => 94 | n => n, fun | 3 => 3 | 9 => 9 | 4 => 4 | n => n, fun | n => n⟩
theorem Tryz.lays283 : Go.Proofs.Lays.n283 Tryz.prog Tryz.lays283_ren := {
 mixed := by kernel_rfl
 f283 := Tryz.func94.trans (congrArg some (by kernel_rfl))
 t3 := Tryz.underlying3
 a3 := Tryz.isAgg3
 z3 := Tryz.sizeOf3
 v3 := Tryz.zeroValue3
 t4 := Tryz.underlying4
 a4 := Tryz.isAgg4
 z4 := Tryz.sizeOf4
 v4 := Tryz.zeroValue4
 t9 := Tryz.underlying9
 a9 := Tryz.isAgg9
 z9 := Tryz.sizeOf9
 v9 := Tryz.zeroValue9 }
open Go.Lib in
theorem Tryz.internal_strconv_small (i : Nat) (h : i < 100) (w : World) :
  Calls Tryz.prog 94 #[.int .i64 i] w fun e w' => e = .returned (.string ⟨(Lib.decDigits i).toArray⟩) ∧ w' = w := Any.internal_strconv_small Tryz.lays283 i h w
def Tryz.laysM284_ren : Go.Shelf.Ren := ⟨fun | 284 => 95 | 129 => 111 | 317 => 110 | 318 => 112 | n => n, fun | 53 => 52 | 3 => 3 | 212 => 138 | 0 => 0 | 4 => 4 | 46 => 68 | 5 => 5 | 9 => 9 | n => n, fun | 17 => 6 | n => n⟩
theorem Tryz.laysM284 : Go.Proofs.LaysM.n284 Tryz.prog Tryz.laysM284_ren := {
 mixed := by kernel_rfl
 f129 := Tryz.func111.trans (congrArg some (by kernel_rfl))
 f284 := Tryz.func95.trans (congrArg some (by kernel_rfl))
 f317 := Tryz.func110.trans (congrArg some (by kernel_rfl))
 f318 := Tryz.func112.trans (congrArg some (by kernel_rfl))
 t0 := Tryz.underlying0
 a0 := Tryz.isAgg0
 z0 := Tryz.sizeOf0
 v0 := Tryz.zeroValue0
 t3 := Tryz.underlying3
 a3 := Tryz.isAgg3
 z3 := Tryz.sizeOf3
 v3 := Tryz.zeroValue3
 t4 := Tryz.underlying4
 a4 := Tryz.isAgg4
 z4 := Tryz.sizeOf4
 v4 := Tryz.zeroValue4
 t5 := Tryz.underlying5
 a5 := Tryz.isAgg5
 z5 := Tryz.sizeOf5
 v5 := Tryz.zeroValue5
 t9 := Tryz.underlying9
 a9 := Tryz.isAgg9
 z9 := Tryz.sizeOf9
 v9 := Tryz.zeroValue9
 t46 := Tryz.underlying68
 a46 := Tryz.isAgg68
 z46 := Tryz.sizeOf68
 v46 := Tryz.zeroValue68
 t53 := Tryz.underlying52
 a53 := Tryz.isAgg52
 z53 := Tryz.sizeOf52
 v53 := Tryz.zeroValue52
 t212 := Tryz.underlying138
 a212 := Tryz.isAgg138
 z212 := Tryz.sizeOf138
 v212 := Tryz.zeroValue138
 g17 := by kernel_rfl
 i0 := by kernel_rfl
 i3 := by kernel_rfl
 i4 := by kernel_rfl
 i5 := by kernel_rfl
 i9 := by kernel_rfl
 i46 := by kernel_rfl
 i53 := by kernel_rfl
 i212 := by kernel_rfl
 m17 := by kernel_rfl }
open Go.Lib in
theorem Tryz.internal_strconv_numDigits (u : Nat) (h1 : 1 ≤ u) (h2 : u < 18446744073709551616) (w : World) (htab : Lib.TabIs Tryz.prog w "internal/strconv.uint64pow10" .u64 Lib.pow10Tab) :
  Calls Tryz.prog 95 #[.int .u64 u] w fun e w' => e = .returned (.int .i64 (Lib.nDigits u)) ∧ w' = w := Any.internal_strconv_numDigits Tryz.laysM284 u h1 h2 w htab
def Tryz.lays285_ren : Go.Shelf.Ren := ⟨fun | 285 => 96 | n => n, fun | 37 => 51 | 53 => 52 | 3 => 3 | 4 => 4 | 51 => 94 | 9 => 9 | 5 => 5 | 0 => 0 | n => n, fun | n => n⟩
theorem Tryz.lays285 : Go.Proofs.Lays.n285 Tryz.prog Tryz.lays285_ren := {
 mixed := by kernel_rfl
 f285 := Tryz.func96.trans (congrArg some (by kernel_rfl))
 t0 := Tryz.underlying0
 a0 := Tryz.isAgg0
 z0 := Tryz.sizeOf0
 v0 := Tryz.zeroValue0
 t3 := Tryz.underlying3
 a3 := Tryz.isAgg3
 z3 := Tryz.sizeOf3
 v3 := Tryz.zeroValue3
 t4 := Tryz.underlying4
 a4 := Tryz.isAgg4
 z4 := Tryz.sizeOf4
 v4 := Tryz.zeroValue4
 t5 := Tryz.underlying5
 a5 := Tryz.isAgg5
 z5 := Tryz.sizeOf5
 v5 := Tryz.zeroValue5
 t9 := Tryz.underlying9
 a9 := Tryz.isAgg9
 z9 := Tryz.sizeOf9
 v9 := Tryz.zeroValue9
 t37 := Tryz.underlying51
 a37 := Tryz.isAgg51
 z37 := Tryz.sizeOf51
 v37 := Tryz.zeroValue51
 t51 := Tryz.underlying94
 a51 := Tryz.isAgg94
 z51 := Tryz.sizeOf94
 v51 := Tryz.zeroValue94
 t53 := Tryz.underlying52
 a53 := Tryz.isAgg52
 z53 := Tryz.sizeOf52
 v53 := Tryz.zeroValue52 }
open Go.RowKit Go.Sort Go.Lib in
theorem Tryz.internal_strconv_formatBase10 (blk off cap : Nat) (u : Nat) (d : Array UInt8) (w : World) (hH : Holds (fun (b : UInt8) => Value.int .u8 (b.toNat : Int)) w blk off d) (hu : u < 10 ^ d.size) (hu64 : u < 18446744073709551616) (hsz : d.size < 4611686018427387904) :
  Calls Tryz.prog 96 #[.slice (some ⟨blk, off, none⟩) d.size cap, .int .u64 u] w fun e w' =>
   e = .returned (.tuple #[]) ∧ ∃ (n v' : Nat) (dk : Array UInt8), w' = (putRow (fun (b : UInt8) => Value.int .u8 (b.toNat : Int)) w blk off dk).drewN n ∧ FmtInv d.size u 0 v' dk := Any.internal_strconv_formatBase10 Tryz.lays285 blk off cap u d w hH hu hu64 hsz
def Tryz.laysM171_ren : Go.Shelf.Ren := ⟨fun | 171 => 49 | 243 => 72 | 246 => 93 | 283 => 94 | 284 => 95 | 285 => 96 | 286 => 97 | 129 => 111 | 317 => 110 | 318 => 112 | 319 => 113 | 320 => 114 | 337 => 118 | 338 => 119 | n => n, fun | 3 => 3 | 9 => 9 | 2 => 2 | 4 => 4 | 171 => 126 | 0 => 0 | 53 => 52 | 37 => 51 | 5 => 5 | 173 => 129 | 212 => 138 | 51 => 94 | 20 => 20 | 213 => 139 | 46 => 68 | 232 => 150 | 233 => 151 | n => n, fun | 17 => 6 | 18 => 7 | 19 => 8 | n => n⟩
theorem Tryz.laysM171 : Go.Proofs.LaysM.n171 Tryz.prog Tryz.laysM171_ren := {
 mixed := by kernel_rfl
 f129 := Tryz.func111.trans (congrArg some (by kernel_rfl))
 f171 := Tryz.func49.trans (congrArg some (by kernel_rfl))
 f243 := Tryz.func72.trans (congrArg some (by kernel_rfl))
 f246 := Tryz.func93.trans (congrArg some (by kernel_rfl))
 f283 := Tryz.func94.trans (congrArg some (by kernel_rfl))
 f284 := Tryz.func95.trans (congrArg some (by kernel_rfl))
 f285 := Tryz.func96.trans (congrArg some (by kernel_rfl))
 f286 := Tryz.func97.trans (congrArg some (by kernel_rfl))
 f317 := Tryz.func110.trans (congrArg some (by kernel_rfl))
 f318 := Tryz.func112.trans (congrArg some (by kernel_rfl))
 f319 := Tryz.func113.trans (congrArg some (by kernel_rfl))
 f320 := Tryz.func114.trans (congrArg some (by kernel_rfl))
 f337 := Tryz.func118.trans (congrArg some (by kernel_rfl))
 f338 := Tryz.func119.trans (congrArg some (by kernel_rfl))
 t0 := Tryz.underlying0
 a0 := Tryz.isAgg0
 z0 := Tryz.sizeOf0
 v0 := Tryz.zeroValue0
 t2 := Tryz.underlying2
 a2 := Tryz.isAgg2
 z2 := Tryz.sizeOf2
 v2 := Tryz.zeroValue2
 t3 := Tryz.underlying3
 a3 := Tryz.isAgg3
 z3 := Tryz.sizeOf3
 v3 := Tryz.zeroValue3
 t4 := Tryz.underlying4
 a4 := Tryz.isAgg4
 z4 := Tryz.sizeOf4
 v4 := Tryz.zeroValue4
 t5 := Tryz.underlying5
 a5 := Tryz.isAgg5
 z5 := Tryz.sizeOf5
 v5 := Tryz.zeroValue5
 t9 := Tryz.underlying9
 a9 := Tryz.isAgg9
 z9 := Tryz.sizeOf9
 v9 := Tryz.zeroValue9
 t20 := Tryz.underlying20
 a20 := Tryz.isAgg20
 z20 := Tryz.sizeOf20
 v20 := Tryz.zeroValue20
 t37 := Tryz.underlying51
 a37 := Tryz.isAgg51
 z37 := Tryz.sizeOf51
 v37 := Tryz.zeroValue51
 t46 := Tryz.underlying68
 a46 := Tryz.isAgg68
 z46 := Tryz.sizeOf68
 v46 := Tryz.zeroValue68
 t51 := Tryz.underlying94
 a51 := Tryz.isAgg94
 z51 := Tryz.sizeOf94
 v51 := Tryz.zeroValue94
 t53 := Tryz.underlying52
 a53 := Tryz.isAgg52
 z53 := Tryz.sizeOf52
 v53 := Tryz.zeroValue52
 t171 := Tryz.underlying126
 a171 := Tryz.isAgg126
 z171 := Tryz.sizeOf126
 v171 := Tryz.zeroValue126
 t173 := Tryz.underlying129
 a173 := Tryz.isAgg129
 z173 := Tryz.sizeOf129
 v173 := Tryz.zeroValue129
 t212 := Tryz.underlying138
 a212 := Tryz.isAgg138
 z212 := Tryz.sizeOf138
 v212 := Tryz.zeroValue138
 t213 := Tryz.underlying139
 a213 := Tryz.isAgg139
 z213 := Tryz.sizeOf139
 t232 := Tryz.underlying150
 a232 := Tryz.isAgg150
 z232 := Tryz.sizeOf150
 v232 := Tryz.zeroValue150
 t233 := Tryz.underlying151
 a233 := Tryz.isAgg151
 z233 := Tryz.sizeOf151
 v233 := Tryz.zeroValue151
 g17 := by kernel_rfl
 g18 := by kernel_rfl
 g19 := by kernel_rfl
 i0 := by kernel_rfl
 i2 := by kernel_rfl
 i3 := by kernel_rfl
 i4 := by kernel_rfl
 i5 := by kernel_rfl
 i9 := by kernel_rfl
 i20 := by kernel_rfl
 i37 := by kernel_rfl
 i46 := by kernel_rfl
 i51 := by kernel_rfl
 i53 := by kernel_rfl
 i171 := by kernel_rfl
 i173 := by kernel_rfl
 i212 := by kernel_rfl
 i232 := by kernel_rfl
 i233 := by kernel_rfl
 m17 := by kernel_rfl
 m18 := by kernel_rfl
 m19 := by kernel_rfl }
open Go.RowKit Go.Sort Go.Lib in
theorem Tryz.strconv_Itoa (n : Int) (h0 : -9223372036854775808 ≤ n) (h1 : n ≤ 9223372036854775807) (w : World) (htab : Lib.TabIs Tryz.prog w "internal/strconv.uint64pow10" .u64 Lib.pow10Tab) :
  Calls Tryz.prog 49 #[.int .i64 n] w fun e w' => e = .returned (.string ⟨(Lib.itoa n).toArray⟩) ∧ ∃ k os, w' = grow (w.drewN k) os := Any.strconv_Itoa Tryz.laysM171 n h0 h1 w htab
def Tryz.laysC245_ren : Go.Shelf.Ren := ⟨fun | 245 => 53 | 279 => 76 | 280 => 77 | 281 => 78 | 282 => 79 | 316 => 98 | 171 => 49 | 205 => 99 | 243 => 72 | 246 => 93 | 283 => 94 | 284 => 95 | 285 => 96 | 286 => 97 | 129 => 111 | 317 => 110 | 318 => 112 | 319 => 113 | 320 => 114 | 337 => 118 | 338 => 119 | n => n, fun | 9 => 9 | 3 => 3 | 75 => 54 | 167 => 111 | 4 => 4 | 168 => 113 | 210 => 132 | 37 => 51 | 0 => 0 | 127 => 101 | 145 => 144 | 143 => 142 | 2 => 2 | 171 => 126 | 53 => 52 | 5 => 5 | 173 => 129 | 212 => 138 | 51 => 94 | 20 => 20 | 213 => 139 | 46 => 68 | 232 => 150 | 233 => 151 | 80 => 69 | n => n, fun | 15 => 3 | 16 => 4 | 17 => 6 | 18 => 7 | 19 => 8 | n => n⟩
theorem Tryz.laysC245 : Go.Proofs.LaysC.n245 Tryz.prog Tryz.laysC245_ren := {
 mixed := by kernel_rfl
 f129 := Tryz.func111.trans (congrArg some (by kernel_rfl))
 f171 := Tryz.func49.trans (congrArg some (by kernel_rfl))
 f205 := Tryz.func99.trans (congrArg some (by kernel_rfl))
 f243 := Tryz.func72.trans (congrArg some (by kernel_rfl))
 f245 := Tryz.func53.trans (congrArg some (by kernel_rfl))
 f246 := Tryz.func93.trans (congrArg some (by kernel_rfl))
 f279 := Tryz.func76.trans (congrArg some (by kernel_rfl))
 f280 := Tryz.func77.trans (congrArg some (by kernel_rfl))
 f281 := Tryz.func78.trans (congrArg some (by kernel_rfl))
 f282 := Tryz.func79.trans (congrArg some (by kernel_rfl))
 f283 := Tryz.func94.trans (congrArg some (by kernel_rfl))
 f284 := Tryz.func95.trans (congrArg some (by kernel_rfl))
 f285 := Tryz.func96.trans (congrArg some (by kernel_rfl))
 f286 := Tryz.func97.trans (congrArg some (by kernel_rfl))
 f316 := Tryz.func98.trans (congrArg some (by kernel_rfl))
 f317 := Tryz.func110.trans (congrArg some (by kernel_rfl))
 f318 := Tryz.func112.trans (congrArg some (by kernel_rfl))
 f319 := Tryz.func113.trans (congrArg some (by kernel_rfl))
 f320 := Tryz.func114.trans (congrArg some (by kernel_rfl))
 f337 := Tryz.func118.trans (congrArg some (by kernel_rfl))
 f338 := Tryz.func119.trans (congrArg some (by kernel_rfl))
 t0 := Tryz.underlying0
 a0 := Tryz.isAgg0
 z0 := Tryz.sizeOf0
 v0 := Tryz.zeroValue0
 t2 := Tryz.underlying2
 a2 := Tryz.isAgg2
 z2 := Tryz.sizeOf2
 v2 := Tryz.zeroValue2
 t3 := Tryz.underlying3
 a3 := Tryz.isAgg3
 z3 := Tryz.sizeOf3
 v3 := Tryz.zeroValue3
 t4 := Tryz.underlying4
 a4 := Tryz.isAgg4
 z4 := Tryz.sizeOf4
 v4 := Tryz.zeroValue4
 t5 := Tryz.underlying5
 a5 := Tryz.isAgg5
 z5 := Tryz.sizeOf5
 v5 := Tryz.zeroValue5
 t9 := Tryz.underlying9
 a9 := Tryz.isAgg9
 z9 := Tryz.sizeOf9
 v9 := Tryz.zeroValue9
 t20 := Tryz.underlying20
 a20 := Tryz.isAgg20
 z20 := Tryz.sizeOf20
 v20 := Tryz.zeroValue20
 t37 := Tryz.underlying51
 a37 := Tryz.isAgg51
 z37 := Tryz.sizeOf51
 v37 := Tryz.zeroValue51
 t46 := Tryz.underlying68
 a46 := Tryz.isAgg68
 z46 := Tryz.sizeOf68
 v46 := Tryz.zeroValue68
 t51 := Tryz.underlying94
 a51 := Tryz.isAgg94
 z51 := Tryz.sizeOf94
 v51 := Tryz.zeroValue94
 t53 := Tryz.underlying52
 a53 := Tryz.isAgg52
 z53 := Tryz.sizeOf52
 v53 := Tryz.zeroValue52
 t75 := Tryz.underlying54
 a75 := Tryz.isAgg54
 z75 := Tryz.sizeOf54
 v75 := Tryz.zeroValue54
 t127 := Tryz.underlying101
 a127 := Tryz.isAgg101
 z127 := Tryz.sizeOf101
 v127 := Tryz.zeroValue101
 t143 := Tryz.underlying142
 a143 := Tryz.isAgg142
 z143 := Tryz.sizeOf142
 v143 := Tryz.zeroValue142
 t145 := Tryz.underlying144
 a145 := Tryz.isAgg144
 z145 := Tryz.sizeOf144
 v145 := Tryz.zeroValue144
 t167 := Tryz.underlying111
 a167 := Tryz.isAgg111
 z167 := Tryz.sizeOf111
 v167 := Tryz.zeroValue111
 t168 := Tryz.underlying113
 a168 := Tryz.isAgg113
 z168 := Tryz.sizeOf113
 v168 := Tryz.zeroValue113
 t171 := Tryz.underlying126
 a171 := Tryz.isAgg126
 z171 := Tryz.sizeOf126
 v171 := Tryz.zeroValue126
 t173 := Tryz.underlying129
 a173 := Tryz.isAgg129
 z173 := Tryz.sizeOf129
 v173 := Tryz.zeroValue129
 t210 := Tryz.underlying132
 a210 := Tryz.isAgg132
 z210 := Tryz.sizeOf132
 v210 := Tryz.zeroValue132
 t212 := Tryz.underlying138
 a212 := Tryz.isAgg138
 z212 := Tryz.sizeOf138
 v212 := Tryz.zeroValue138
 t213 := Tryz.underlying139
 a213 := Tryz.isAgg139
 z213 := Tryz.sizeOf139
 t232 := Tryz.underlying150
 a232 := Tryz.isAgg150
 z232 := Tryz.sizeOf150
 v232 := Tryz.zeroValue150
 t233 := Tryz.underlying151
 a233 := Tryz.isAgg151
 z233 := Tryz.sizeOf151
 v233 := Tryz.zeroValue151
 g15 := by kernel_rfl
 g16 := by kernel_rfl
 g17 := by kernel_rfl
 g18 := by kernel_rfl
 g19 := by kernel_rfl
 t80 := Tryz.underlying69
 a80 := Tryz.isAgg69
 z80 := Tryz.sizeOf69
 v80 := Tryz.zeroValue69
 i0 := by kernel_rfl
 i2 := by kernel_rfl
 i3 := by kernel_rfl
 i4 := by kernel_rfl
 i5 := by kernel_rfl
 i9 := by kernel_rfl
 i20 := by kernel_rfl
 i37 := by kernel_rfl
 i46 := by kernel_rfl
 i51 := by kernel_rfl
 i53 := by kernel_rfl
 i75 := by kernel_rfl
 i80 := by kernel_rfl
 i127 := by kernel_rfl
 i143 := by kernel_rfl
 i145 := by kernel_rfl
 i167 := by kernel_rfl
 i168 := by kernel_rfl
 i171 := by kernel_rfl
 i173 := by kernel_rfl
 i210 := by kernel_rfl
 i212 := by kernel_rfl
 i232 := by kernel_rfl
 i233 := by kernel_rfl
 m15 := by kernel_rfl
 m16 := by kernel_rfl
 m17 := by kernel_rfl
 m18 := by kernel_rfl
 m19 := by kernel_rfl
 c0 := by kernel_rfl
 c2 := by kernel_rfl
 c3 := by kernel_rfl
 c4 := by kernel_rfl
 c5 := by kernel_rfl
 c9 := by kernel_rfl
 c20 := by kernel_rfl
 c37 := by kernel_rfl
 c46 := by kernel_rfl
 c51 := by kernel_rfl
 c53 := by kernel_rfl
 c75 := by kernel_rfl
 c80 := by kernel_rfl
 c127 := by kernel_rfl
 c143 := by kernel_rfl
 c145 := by kernel_rfl
 c167 := by kernel_rfl
 c168 := by kernel_rfl
 c171 := by kernel_rfl
 c173 := by kernel_rfl
 c210 := by kernel_rfl
 c212 := by kernel_rfl
 c213 := by kernel_rfl
 c232 := by kernel_rfl
 c233 := by kernel_rfl }
open Go.RowKit in
theorem Tryz.strconv_toError_syntax (fn s : ByteArray) (base bits : Int) (ev : Value) (w : World) (hlim : s.size ≤ 281474976710656) (hv : w.cell? ⟨3, 0, none⟩ = some ev) (hev : ev = .nilIface ∨ ∃ te pe, ev = .iface te pe) :
  Calls Tryz.prog 53 #[.string fn, .string s, .int .i64 base, .int .i64 bits, .iface 111 (.int .i64 2)] w fun e w' => ∃ N, e = .returned (.iface 113 (.pointer (some ⟨N, 0, none⟩))) ∧ w.heap.size ≤ N ∧ w'.heap[N]? = some (.cells #[.string fn, .string s, ev] 132 (0, 0)) ∧ Below w.heap.size w w' := Any.strconv_toError_syntax Tryz.laysC245 fn s base bits ev w hlim hv hev
def Tryz.laysC172_ren : Go.Shelf.Ren := ⟨fun | 172 => 85 | 244 => 104 | 245 => 53 | 247 => 115 | 279 => 76 | 280 => 77 | 281 => 78 | 282 => 79 | 287 => 52 | 316 => 98 | 171 => 49 | 205 => 99 | 321 => 74 | 322 => 75 | 243 => 72 | 246 => 93 | 283 => 94 | 284 => 95 | 285 => 96 | 286 => 97 | 129 => 111 | 317 => 110 | 318 => 112 | 319 => 113 | 320 => 114 | 337 => 118 | 338 => 119 | n => n, fun | 9 => 9 | 3 => 3 | 75 => 54 | 76 => 65 | 4 => 4 | 5 => 5 | 167 => 111 | 37 => 51 | 0 => 0 | 85 => 145 | 2 => 2 | 168 => 113 | 53 => 52 | 175 => 55 | 46 => 68 | 210 => 132 | 127 => 101 | 145 => 144 | 143 => 142 | 21 => 21 | 171 => 126 | 173 => 129 | 212 => 138 | 51 => 94 | 20 => 20 | 213 => 139 | 232 => 150 | 233 => 151 | 80 => 69 | n => n, fun | 15 => 3 | 16 => 4 | 17 => 6 | 18 => 7 | 19 => 8 | n => n⟩
theorem Tryz.laysC172 : Go.Proofs.LaysC.n172 Tryz.prog Tryz.laysC172_ren := {
 mixed := by kernel_rfl
 f129 := Tryz.func111.trans (congrArg some (by kernel_rfl))
 f171 := Tryz.func49.trans (congrArg some (by kernel_rfl))
 f172 := Tryz.func85.trans (congrArg some (by kernel_rfl))
 f205 := Tryz.func99.trans (congrArg some (by kernel_rfl))
 f243 := Tryz.func72.trans (congrArg some (by kernel_rfl))
 f244 := Tryz.func104.trans (congrArg some (by kernel_rfl))
 f245 := Tryz.func53.trans (congrArg some (by kernel_rfl))
 f246 := Tryz.func93.trans (congrArg some (by kernel_rfl))
 f247 := Tryz.func115.trans (congrArg some (by kernel_rfl))
 f279 := Tryz.func76.trans (congrArg some (by kernel_rfl))
 f280 := Tryz.func77.trans (congrArg some (by kernel_rfl))
 f281 := Tryz.func78.trans (congrArg some (by kernel_rfl))
 f282 := Tryz.func79.trans (congrArg some (by kernel_rfl))
 f283 := Tryz.func94.trans (congrArg some (by kernel_rfl))
 f284 := Tryz.func95.trans (congrArg some (by kernel_rfl))
 f285 := Tryz.func96.trans (congrArg some (by kernel_rfl))
 f286 := Tryz.func97.trans (congrArg some (by kernel_rfl))
 f287 := Tryz.func52.trans (congrArg some (by kernel_rfl))
 f316 := Tryz.func98.trans (congrArg some (by kernel_rfl))
 f317 := Tryz.func110.trans (congrArg some (by kernel_rfl))
 f318 := Tryz.func112.trans (congrArg some (by kernel_rfl))
 f319 := Tryz.func113.trans (congrArg some (by kernel_rfl))
 f320 := Tryz.func114.trans (congrArg some (by kernel_rfl))
 f321 := Tryz.func74.trans (congrArg some (by kernel_rfl))
 f322 := Tryz.func75.trans (congrArg some (by kernel_rfl))
 f337 := Tryz.func118.trans (congrArg some (by kernel_rfl))
 f338 := Tryz.func119.trans (congrArg some (by kernel_rfl))
 t0 := Tryz.underlying0
 a0 := Tryz.isAgg0
 z0 := Tryz.sizeOf0
 v0 := Tryz.zeroValue0
 t2 := Tryz.underlying2
 a2 := Tryz.isAgg2
 z2 := Tryz.sizeOf2
 v2 := Tryz.zeroValue2
 t3 := Tryz.underlying3
 a3 := Tryz.isAgg3
 z3 := Tryz.sizeOf3
 v3 := Tryz.zeroValue3
 t4 := Tryz.underlying4
 a4 := Tryz.isAgg4
 z4 := Tryz.sizeOf4
 v4 := Tryz.zeroValue4
 t5 := Tryz.underlying5
 a5 := Tryz.isAgg5
 z5 := Tryz.sizeOf5
 v5 := Tryz.zeroValue5
 t9 := Tryz.underlying9
 a9 := Tryz.isAgg9
 z9 := Tryz.sizeOf9
 v9 := Tryz.zeroValue9
 t20 := Tryz.underlying20
 a20 := Tryz.isAgg20
 z20 := Tryz.sizeOf20
 v20 := Tryz.zeroValue20
 t21 := Tryz.underlying21
 a21 := Tryz.isAgg21
 z21 := Tryz.sizeOf21
 v21 := Tryz.zeroValue21
 t37 := Tryz.underlying51
 a37 := Tryz.isAgg51
 z37 := Tryz.sizeOf51
 v37 := Tryz.zeroValue51
 t46 := Tryz.underlying68
 a46 := Tryz.isAgg68
 z46 := Tryz.sizeOf68
 v46 := Tryz.zeroValue68
 t51 := Tryz.underlying94
 a51 := Tryz.isAgg94
 z51 := Tryz.sizeOf94
 v51 := Tryz.zeroValue94
 t53 := Tryz.underlying52
 a53 := Tryz.isAgg52
 z53 := Tryz.sizeOf52
 v53 := Tryz.zeroValue52
 t75 := Tryz.underlying54
 a75 := Tryz.isAgg54
 z75 := Tryz.sizeOf54
 v75 := Tryz.zeroValue54
 t76 := Tryz.underlying65
 a76 := Tryz.isAgg65
 z76 := Tryz.sizeOf65
 v76 := Tryz.zeroValue65
 t85 := Tryz.underlying145
 a85 := Tryz.isAgg145
 z85 := Tryz.sizeOf145
 v85 := Tryz.zeroValue145
 t127 := Tryz.underlying101
 a127 := Tryz.isAgg101
 z127 := Tryz.sizeOf101
 v127 := Tryz.zeroValue101
 t143 := Tryz.underlying142
 a143 := Tryz.isAgg142
 z143 := Tryz.sizeOf142
 v143 := Tryz.zeroValue142
 t145 := Tryz.underlying144
 a145 := Tryz.isAgg144
 z145 := Tryz.sizeOf144
 v145 := Tryz.zeroValue144
 t167 := Tryz.underlying111
 a167 := Tryz.isAgg111
 z167 := Tryz.sizeOf111
 v167 := Tryz.zeroValue111
 t168 := Tryz.underlying113
 a168 := Tryz.isAgg113
 z168 := Tryz.sizeOf113
 v168 := Tryz.zeroValue113
 t171 := Tryz.underlying126
 a171 := Tryz.isAgg126
 z171 := Tryz.sizeOf126
 v171 := Tryz.zeroValue126
 t173 := Tryz.underlying129
 a173 := Tryz.isAgg129
 z173 := Tryz.sizeOf129
 v173 := Tryz.zeroValue129
 t175 := Tryz.underlying55
 a175 := Tryz.isAgg55
 z175 := Tryz.sizeOf55
 v175 := Tryz.zeroValue55
 t210 := Tryz.underlying132
 a210 := Tryz.isAgg132
 z210 := Tryz.sizeOf132
 v210 := Tryz.zeroValue132
 t212 := Tryz.underlying138
 a212 := Tryz.isAgg138
 z212 := Tryz.sizeOf138
 v212 := Tryz.zeroValue138
 t213 := Tryz.underlying139
 a213 := Tryz.isAgg139
 z213 := Tryz.sizeOf139
 t232 := Tryz.underlying150
 a232 := Tryz.isAgg150
 z232 := Tryz.sizeOf150
 v232 := Tryz.zeroValue150
 t233 := Tryz.underlying151
 a233 := Tryz.isAgg151
 z233 := Tryz.sizeOf151
 v233 := Tryz.zeroValue151
 g15 := by kernel_rfl
 g16 := by kernel_rfl
 g17 := by kernel_rfl
 g18 := by kernel_rfl
 g19 := by kernel_rfl
 t80 := Tryz.underlying69
 a80 := Tryz.isAgg69
 z80 := Tryz.sizeOf69
 v80 := Tryz.zeroValue69
 i0 := by kernel_rfl
 i2 := by kernel_rfl
 i3 := by kernel_rfl
 i4 := by kernel_rfl
 i5 := by kernel_rfl
 i9 := by kernel_rfl
 i20 := by kernel_rfl
 i21 := by kernel_rfl
 i37 := by kernel_rfl
 i46 := by kernel_rfl
 i51 := by kernel_rfl
 i53 := by kernel_rfl
 i75 := by kernel_rfl
 i76 := by kernel_rfl
 i80 := by kernel_rfl
 i85 := by kernel_rfl
 i127 := by kernel_rfl
 i143 := by kernel_rfl
 i145 := by kernel_rfl
 i167 := by kernel_rfl
 i168 := by kernel_rfl
 i171 := by kernel_rfl
 i173 := by kernel_rfl
 i175 := by kernel_rfl
 i210 := by kernel_rfl
 i212 := by kernel_rfl
 i232 := by kernel_rfl
 i233 := by kernel_rfl
 m15 := by kernel_rfl
 m16 := by kernel_rfl
 m17 := by kernel_rfl
 m18 := by kernel_rfl
 m19 := by kernel_rfl
 c0 := by kernel_rfl
 c2 := by kernel_rfl
 c3 := by kernel_rfl
 c4 := by kernel_rfl
 c5 := by kernel_rfl
 c9 := by kernel_rfl
 c20 := by kernel_rfl
 c21 := by kernel_rfl
 c37 := by kernel_rfl
 c46 := by kernel_rfl
 c51 := by kernel_rfl
 c53 := by kernel_rfl
 c75 := by kernel_rfl
 c76 := by kernel_rfl
 c80 := by kernel_rfl
 c85 := by kernel_rfl
 c127 := by kernel_rfl
 c143 := by kernel_rfl
 c145 := by kernel_rfl
 c167 := by kernel_rfl
 c168 := by kernel_rfl
 c171 := by kernel_rfl
 c173 := by kernel_rfl
 c175 := by kernel_rfl
 c210 := by kernel_rfl
 c212 := by kernel_rfl
 c213 := by kernel_rfl
 c232 := by kernel_rfl
 c233 := by kernel_rfl }
open Go.RowKit in
theorem Tryz.strconv_Atoi_ok (s : ByteArray) (hmax : s.size ≤ 9223372036854775806) (v : Int) (h : Lib.atoiAll s.data.toList = .ok v) (w : World) :
  Calls Tryz.prog 85 #[.string s] w fun e w' => e = .returned (.tuple #[.int .i64 v, .nilIface]) ∧ (w' = w ∨ ∃ t, w' = Lib.bytesWorld w 5 t) := Any.strconv_Atoi_ok Tryz.laysC172 s hmax v h w
open Go.RowKit in
theorem Tryz.strconv_Atoi_syntax (s : ByteArray) (hlim : s.size ≤ 281474976710656) (h : Lib.atoiAll s.data.toList = Lib.NumEnd.syntax) (ev : Value) (w : World) (hv : w.cell? ⟨3, 0, none⟩ = some ev) (hev : ev = .nilIface ∨ ∃ te pe, ev = .iface te pe) :
  Calls Tryz.prog 85 #[.string s] w fun e w' => ∃ N, e = .returned (.tuple #[.int .i64 (0), .iface 113 (.pointer (some ⟨N, 0, none⟩))]) ∧ w.heap.size ≤ N ∧ w'.heap[N]? = some (.cells #[.string ⟨#[65, 116, 111, 105]⟩, .string s, ev] 132 (0, 0)) ∧ Below w.heap.size w w' := Any.strconv_Atoi_syntax Tryz.laysC172 s hlim h ev w hv hev
open Go.RowKit in
theorem Tryz.strconv_Atoi_range (s : ByteArray) (hlim : s.size ≤ 281474976710656) (h : Lib.atoiAll s.data.toList = .range) (ev : Value) (w : World) (hv : w.cell? ⟨4, 0, none⟩ = some ev) (hev : ev = .nilIface ∨ ∃ te pe, ev = .iface te pe) :
  Calls Tryz.prog 85 #[.string s] w fun e w' => ∃ N, e = .returned (.tuple #[.int .i64 (Lib.atoiSat s.data.toList), .iface 113 (.pointer (some ⟨N, 0, none⟩))]) ∧ w.heap.size ≤ N ∧ w'.heap[N]? = some (.cells #[.string ⟨#[65, 116, 111, 105]⟩, .string s, ev] 132 (0, 0)) ∧ Below w.heap.size w w' := Any.strconv_Atoi_range Tryz.laysC172 s hlim h ev w hv hev
def Tryz.lays145_ren : Go.Shelf.Ren := ⟨fun | 145 => 41 | 220 => 70 | 219 => 89 | 217 => 106 | 225 => 103 | 224 => 102 | 267 => 107 | 266 => 116 | 314 => 117 | n => n, fun | 9 => 9 | 4 => 4 | 59 => 83 | 3 => 3 | 5 => 5 | 46 => 68 | 146 => 147 | 51 => 94 | n => n, fun | 1 => 5 | n => n⟩
theorem Tryz.lays145 : Go.Proofs.Lays.n145 Tryz.prog Tryz.lays145_ren := {
 mixed := by kernel_rfl
 f145 := Tryz.func41.trans (congrArg some (by kernel_rfl))
 f217 := Tryz.func106.trans (congrArg some (by kernel_rfl))
 f219 := Tryz.func89.trans (congrArg some (by kernel_rfl))
 f220 := Tryz.func70.trans (congrArg some (by kernel_rfl))
 f224 := Tryz.func102.trans (congrArg some (by kernel_rfl))
 f225 := Tryz.func103.trans (congrArg some (by kernel_rfl))
 f266 := Tryz.func116.trans (congrArg some (by kernel_rfl))
 f267 := Tryz.func107.trans (congrArg some (by kernel_rfl))
 f314 := Tryz.func117.trans (congrArg some (by kernel_rfl))
 t3 := Tryz.underlying3
 a3 := Tryz.isAgg3
 z3 := Tryz.sizeOf3
 v3 := Tryz.zeroValue3
 t4 := Tryz.underlying4
 a4 := Tryz.isAgg4
 z4 := Tryz.sizeOf4
 v4 := Tryz.zeroValue4
 t5 := Tryz.underlying5
 a5 := Tryz.isAgg5
 z5 := Tryz.sizeOf5
 v5 := Tryz.zeroValue5
 t9 := Tryz.underlying9
 a9 := Tryz.isAgg9
 z9 := Tryz.sizeOf9
 v9 := Tryz.zeroValue9
 t46 := Tryz.underlying68
 a46 := Tryz.isAgg68
 z46 := Tryz.sizeOf68
 v46 := Tryz.zeroValue68
 t51 := Tryz.underlying94
 a51 := Tryz.isAgg94
 z51 := Tryz.sizeOf94
 v51 := Tryz.zeroValue94
 t59 := Tryz.underlying83
 a59 := Tryz.isAgg83
 z59 := Tryz.sizeOf83
 v59 := Tryz.zeroValue83
 t146 := Tryz.underlying147
 a146 := Tryz.isAgg147
 z146 := Tryz.sizeOf147
 v146 := Tryz.zeroValue147
 g1 := by kernel_rfl }
open Go.RowKit Go.Lib in
theorem Tryz.strings_Cut (s sep : ByteArray) (m : Int) (w : World) (hs : s.size < 4294967281) (hm : w.cell? ⟨5, 0, none⟩ = some (.int .i64 m)) :
  Calls Tryz.prog 41 #[.string s, .string sep] w fun e w' => e = .returned (.tuple #[.string ⟨(Lib.cut s.data.toList sep.data.toList).1.toArray⟩, .string ⟨(Lib.cut s.data.toList sep.data.toList).2.1.toArray⟩, .bool (Lib.cut s.data.toList sep.data.toList).2.2]) ∧ ∃ n, w' = w.drewN n := Any.strings_Cut Tryz.lays145 s sep m w hs hm
def Tryz.lays146_ren : Go.Shelf.Ren := ⟨fun | 146 => 48 | 221 => 71 | 268 => 90 | 138 => 91 | 143 => 92 | 195 => 108 | 197 => 27 | 218 => 109 | 219 => 89 | 260 => 55 | 217 => 106 | 225 => 103 | 224 => 102 | 267 => 107 | 266 => 116 | 314 => 117 | n => n, fun | 9 => 9 | 31 => 22 | 3 => 3 | 4 => 4 | 0 => 0 | 105 => 62 | 21 => 21 | 5 => 5 | 46 => 68 | 119 => 118 | 139 => 121 | 138 => 120 | 146 => 147 | 51 => 94 | n => n, fun | 1 => 5 | 3 => 1 | 4 => 2 | n => n⟩
theorem Tryz.lays146 : Go.Proofs.Lays.n146 Tryz.prog Tryz.lays146_ren := {
 mixed := by kernel_rfl
 f138 := Tryz.func91.trans (congrArg some (by kernel_rfl))
 f143 := Tryz.func92.trans (congrArg some (by kernel_rfl))
 f146 := Tryz.func48.trans (congrArg some (by kernel_rfl))
 f195 := Tryz.func108.trans (congrArg some (by kernel_rfl))
 f197 := Tryz.func27.trans (congrArg some (by kernel_rfl))
 f217 := Tryz.func106.trans (congrArg some (by kernel_rfl))
 f218 := Tryz.func109.trans (congrArg some (by kernel_rfl))
 f219 := Tryz.func89.trans (congrArg some (by kernel_rfl))
 f221 := Tryz.func71.trans (congrArg some (by kernel_rfl))
 f224 := Tryz.func102.trans (congrArg some (by kernel_rfl))
 f225 := Tryz.func103.trans (congrArg some (by kernel_rfl))
 f260 := Tryz.func55.trans (congrArg some (by kernel_rfl))
 f266 := Tryz.func116.trans (congrArg some (by kernel_rfl))
 f267 := Tryz.func107.trans (congrArg some (by kernel_rfl))
 f268 := Tryz.func90.trans (congrArg some (by kernel_rfl))
 f314 := Tryz.func117.trans (congrArg some (by kernel_rfl))
 t0 := Tryz.underlying0
 a0 := Tryz.isAgg0
 z0 := Tryz.sizeOf0
 v0 := Tryz.zeroValue0
 t3 := Tryz.underlying3
 a3 := Tryz.isAgg3
 z3 := Tryz.sizeOf3
 v3 := Tryz.zeroValue3
 t4 := Tryz.underlying4
 a4 := Tryz.isAgg4
 z4 := Tryz.sizeOf4
 v4 := Tryz.zeroValue4
 t5 := Tryz.underlying5
 a5 := Tryz.isAgg5
 z5 := Tryz.sizeOf5
 v5 := Tryz.zeroValue5
 t9 := Tryz.underlying9
 a9 := Tryz.isAgg9
 z9 := Tryz.sizeOf9
 v9 := Tryz.zeroValue9
 t21 := Tryz.underlying21
 a21 := Tryz.isAgg21
 z21 := Tryz.sizeOf21
 v21 := Tryz.zeroValue21
 t31 := Tryz.underlying22
 a31 := Tryz.isAgg22
 z31 := Tryz.sizeOf22
 v31 := Tryz.zeroValue22
 t46 := Tryz.underlying68
 a46 := Tryz.isAgg68
 z46 := Tryz.sizeOf68
 v46 := Tryz.zeroValue68
 t51 := Tryz.underlying94
 a51 := Tryz.isAgg94
 z51 := Tryz.sizeOf94
 v51 := Tryz.zeroValue94
 t105 := Tryz.underlying62
 a105 := Tryz.isAgg62
 z105 := Tryz.sizeOf62
 v105 := Tryz.zeroValue62
 t119 := Tryz.underlying118
 a119 := Tryz.isAgg118
 z119 := Tryz.sizeOf118
 t138 := Tryz.underlying120
 a138 := Tryz.isAgg120
 z138 := Tryz.sizeOf120
 v138 := Tryz.zeroValue120
 t139 := Tryz.underlying121
 a139 := Tryz.isAgg121
 z139 := Tryz.sizeOf121
 v139 := Tryz.zeroValue121
 t146 := Tryz.underlying147
 a146 := Tryz.isAgg147
 z146 := Tryz.sizeOf147
 v146 := Tryz.zeroValue147
 g1 := by kernel_rfl
 g3 := by kernel_rfl
 g4 := by kernel_rfl }
open Go.RowKit Go.Lib in
theorem Tryz.strings_Split (s sep : ByteArray) (m : Int) (w : World) (hs : s.size < 4294967281) (hm : w.cell? ⟨5, 0, none⟩ = some (.int .i64 m)) (h1 : 1 ≤ sep.size) :
  Calls Tryz.prog 48 #[.string s, .string sep] w fun e w' =>
   e = .returned (.slice (some ⟨w.heap.size, 0, none⟩) (Lib.countB s sep + 1) (Lib.countB s sep + 1)) ∧ w' = w.alloc (.cells ((Lib.splitB sep 0 (Lib.countB s sep) s).map Value.string).toArray 9) := Any.strings_Split Tryz.lays146 (by kernel_rfl) s sep m w hs hm h1
def Tryz.lays197_ren : Go.Shelf.Ren := ⟨fun | 197 => 27 | 260 => 55 | n => n, fun | 9 => 9 | 21 => 21 | 3 => 3 | 4 => 4 | 5 => 5 | 105 => 62 | 119 => 118 | 0 => 0 | 46 => 68 | 139 => 121 | 138 => 120 | n => n, fun | 3 => 1 | 4 => 2 | n => n⟩
theorem Tryz.lays197 : Go.Proofs.Lays.n197 Tryz.prog Tryz.lays197_ren := {
 mixed := by kernel_rfl
 f197 := Tryz.func27.trans (congrArg some (by kernel_rfl))
 f260 := Tryz.func55.trans (congrArg some (by kernel_rfl))
 t0 := Tryz.underlying0
 a0 := Tryz.isAgg0
 z0 := Tryz.sizeOf0
 v0 := Tryz.zeroValue0
 t3 := Tryz.underlying3
 a3 := Tryz.isAgg3
 z3 := Tryz.sizeOf3
 v3 := Tryz.zeroValue3
 t4 := Tryz.underlying4
 a4 := Tryz.isAgg4
 z4 := Tryz.sizeOf4
 v4 := Tryz.zeroValue4
 t5 := Tryz.underlying5
 a5 := Tryz.isAgg5
 z5 := Tryz.sizeOf5
 v5 := Tryz.zeroValue5
 t9 := Tryz.underlying9
 a9 := Tryz.isAgg9
 z9 := Tryz.sizeOf9
 v9 := Tryz.zeroValue9
 t21 := Tryz.underlying21
 a21 := Tryz.isAgg21
 z21 := Tryz.sizeOf21
 v21 := Tryz.zeroValue21
 t46 := Tryz.underlying68
 a46 := Tryz.isAgg68
 z46 := Tryz.sizeOf68
 v46 := Tryz.zeroValue68
 t105 := Tryz.underlying62
 a105 := Tryz.isAgg62
 z105 := Tryz.sizeOf62
 v105 := Tryz.zeroValue62
 t119 := Tryz.underlying118
 a119 := Tryz.isAgg118
 z119 := Tryz.sizeOf118
 t138 := Tryz.underlying120
 a138 := Tryz.isAgg120
 z138 := Tryz.sizeOf120
 v138 := Tryz.zeroValue120
 t139 := Tryz.underlying121
 a139 := Tryz.isAgg121
 z139 := Tryz.sizeOf121
 v139 := Tryz.zeroValue121
 g3 := by kernel_rfl
 g4 := by kernel_rfl }
def Tryz.lays151_ren : Go.Shelf.Ren := ⟨fun | 151 => 56 | 152 => 81 | 137 => 100 | 119 => 101 | 224 => 102 | 225 => 103 | 217 => 106 | 266 => 116 | n => n, fun | 9 => 9 | 21 => 21 | 4 => 4 | 3 => 3 | 5 => 5 | 0 => 0 | 46 => 68 | n => n, fun | n => n⟩
theorem Tryz.lays151 : Go.Proofs.Lays.n151 Tryz.prog Tryz.lays151_ren := {
 mixed := by kernel_rfl
 f119 := Tryz.func101.trans (congrArg some (by kernel_rfl))
 f137 := Tryz.func100.trans (congrArg some (by kernel_rfl))
 f151 := Tryz.func56.trans (congrArg some (by kernel_rfl))
 f152 := Tryz.func81.trans (congrArg some (by kernel_rfl))
 f217 := Tryz.func106.trans (congrArg some (by kernel_rfl))
 f224 := Tryz.func102.trans (congrArg some (by kernel_rfl))
 f225 := Tryz.func103.trans (congrArg some (by kernel_rfl))
 f266 := Tryz.func116.trans (congrArg some (by kernel_rfl))
 t0 := Tryz.underlying0
 a0 := Tryz.isAgg0
 z0 := Tryz.sizeOf0
 v0 := Tryz.zeroValue0
 t3 := Tryz.underlying3
 a3 := Tryz.isAgg3
 z3 := Tryz.sizeOf3
 v3 := Tryz.zeroValue3
 t4 := Tryz.underlying4
 a4 := Tryz.isAgg4
 z4 := Tryz.sizeOf4
 v4 := Tryz.zeroValue4
 t5 := Tryz.underlying5
 a5 := Tryz.isAgg5
 z5 := Tryz.sizeOf5
 v5 := Tryz.zeroValue5
 t9 := Tryz.underlying9
 a9 := Tryz.isAgg9
 z9 := Tryz.sizeOf9
 v9 := Tryz.zeroValue9
 t21 := Tryz.underlying21
 a21 := Tryz.isAgg21
 z21 := Tryz.sizeOf21
 v21 := Tryz.zeroValue21
 t46 := Tryz.underlying68
 a46 := Tryz.isAgg68
 z46 := Tryz.sizeOf68
 v46 := Tryz.zeroValue68 }
open Go.RowKit Go.Lib in
theorem Tryz.strings_ContainsRune_ascii (s : ByteArray) (r : Int) (w : World) (h0 : 0 ≤ r) (h1 : r < 128) :
  Calls Tryz.prog 56 #[.string s, .int .i32 r] w fun e w' => e = .returned (.bool (decide (0 ≤ Lib.indexByte s.data.toList r.toNat.toUInt8))) ∧ w' = w := Any.strings_ContainsRune_ascii Tryz.lays151 s r w h0 h1
open Go.RowKit Go.Lib in
theorem Tryz.utf8_DecodeRuneInString (s : ByteArray) (w : World) (hT : Lib.Utf8Tabs 1 2 w) :
  Calls Tryz.prog 27 #[.string s] w fun e w' => e = .returned (.tuple #[.int .i32 (Lib.decodeGo s).1, .int .i64 (Lib.decodeGo s).2]) ∧ Below w.heap.size w w' := Any.utf8_DecodeRuneInString Tryz.lays197 s w hT
end Go.Proofs
namespace Go.Proofs.YtldimfofkbomnaaGreatDoor
open Aml Go Go.RowKit
def tx (l : List UInt8) : ByteArray := ⟨l.toArray⟩
theorem tx_list (l : List UInt8) : (tx l).data.toList = l := by simp [tx]
theorem tx_eta (s : ByteArray) : tx s.data.toList = s := by simp [tx]
theorem tx_size (l : List UInt8) : (tx l).size = l.length := by simp [tx, ByteArray.size]
theorem size_list (s : ByteArray) : s.data.toList.length = s.size := rfl
theorem tx_ext {a b : ByteArray} (h : a.data.toList = b.data.toList) : a = b := by rw [← tx_eta a, ← tx_eta b, h]
theorem tx_app (a b : List UInt8) : tx a ++ tx b = tx (a ++ b) := by
 apply tx_ext
 rw [ByteArray.data_append, Array.toList_append, tx_list, tx_list, tx_list]
theorem list_app (a b : ByteArray) : (a ++ b).data.toList = a.data.toList ++ b.data.toList := by rw [ByteArray.data_append, Array.toList_append]
theorem list_ext (s : ByteArray) (i j : Nat) : (s.extract i j).data.toList = (s.data.toList.take j).drop i := by
 rw [ByteArray.data_extract, Array.toList_extract]
 simp [List.extract_eq_take_drop, List.drop_take]
theorem dcd_list (s : ByteArray) (pos : Nat) : Utf8.decode s pos = Lib.decodeL (s.data.toList.drop pos) := by
 unfold Lib.decodeL
 have h := Lib.tail_decode s pos 0
 rw [Nat.add_zero] at h
 rw [← h]
 congr 1
 apply tx_ext
 rw [list_ext, List.take_of_length_le (by rw [size_list]; exact Nat.le_refl _)]
theorem dgo (s : ByteArray) (k : Nat) (h : k < s.size) : Lib.decodeGo (s.extract k s.size) = Utf8.decode s k := by
 unfold Lib.decodeGo
 rw [if_neg (by rw [ByteArray.size_extract]; omega)]
 have h := Lib.tail_decode s k 0
 rwa [Nat.add_zero] at h
@[go_sem] theorem u_add (a b : ByteArray) (K : DV → Prop) : vBinS .add a b K = (a.size + b.size ≤ 9223372036854775807 ∧ K (.v (.string (a ++ b)))) := rfl
@[go_sem] theorem u_eql (a b : ByteArray) (K : DV → Prop) : vBinS .eql a b K = K (.v (.bool (decide (a.data.toList = b.data.toList)))) := rfl
@[go_sem] theorem u_neq (a b : ByteArray) (K : DV → Prop) : vBinS .neq a b K = K (.v (.bool (!decide (a.data.toList = b.data.toList)))) := rfl
def KU (w0 : W0) : Prop := Kn w0 fun w => Lib.Utf8Tabs 1 2 w
theorem decodeP (w0 : W0) (hk : KU w0) (s : ByteArray) (S : St) : ACall Tryz.prog w0 27 [dS s] S (fun d S' => d = .tup [.v (.int .i32 (Lib.decodeGo s).1), dI (Lib.decodeGo s).2] ∧ S' = S) :=
 acall_shelf1 (us := [.string s]) (fun g => rep_tup2 (.v _ rfl) (.v _ rfl)) fun w hw => Tryz.utf8_DecodeRuneInString s w (hk w hw)
theorem indexByteP (w0 : W0) (s : ByteArray) (c : Int) (S : St) : ACall Tryz.prog w0 100 [dS s, .v (.int .u8 c)] S (fun d S' => d = dI (Lib.indexByte s.data.toList c.toNat.toUInt8) ∧ S' = S) :=
 acall_shelf1 (us := [.string s, .int .u8 c]) (fun g => .v _ rfl) fun w hw => (Tryz.strings_IndexByte s c w).mono fun e w' h => ⟨h.1, by rw [h.2]; exact Below.refl _ _⟩
theorem validP (w0 : W0) (r : Int) (S : St) : ACall Tryz.prog w0 101 [.v (.int .i32 r)] S (fun d S' => d = dB (Lib.validRune r) ∧ S' = S) :=
 acall_shelf1 (us := [.int .i32 r]) (fun g => .v _ rfl) fun w hw => (Tryz.utf8_ValidRune r w).mono fun e w' h => ⟨h.1, by rw [h.2]; exact Below.refl _ _⟩
def sgn : ByteArray := ⟨#[45, 95, 46, 47, 32]⟩
theorem sgn_list : sgn.data.toList = [45, 95, 46, 47, 32] := rfl
theorem encode_hi (r : Int) (h : 128 ≤ r) : 2 ≤ (Utf8.encode r).size ∧ (Utf8.encode r).size ≤ 4 ∧ ∀ c, (Utf8.encode r).data.toList[(Utf8.encode r).size - 1]? = some c → 128 ≤ c.toNat := by
 have key : ∀ l : List UInt8, Utf8.encode r = ⟨l.toArray⟩ → 2 ≤ l.length → l.length ≤ 4 → (∀ c, l[l.length - 1]? = some c → 128 ≤ c.toNat) → 2 ≤ (Utf8.encode r).size ∧ (Utf8.encode r).size ≤ 4 ∧ ∀ c, (Utf8.encode r).data.toList[(Utf8.encode r).size - 1]? = some c → 128 ≤ c.toNat := by
  intro l e h1 h2 h3
  rw [e]
  have e2 : (⟨l.toArray⟩ : ByteArray).size = l.length := by simp [ByteArray.size]
  rw [e2]
  refine ⟨h1, h2, fun c hc => h3 c (by simpa using hc)⟩
 have hm : ∀ n, n < 64 → (UInt8.ofNat (128 + n)).toNat = 128 + n := fun n hn => by rw [UInt8.toNat_ofNat']; omega
 unfold Utf8.encode at key ⊢
 dsimp only at key ⊢
 generalize hc : (if Utf8.valid r = true then r.toNat else Utf8.runeError) = c at key ⊢
 have h128 : 128 ≤ c := by
  rw [← hc]
  split
  ·omega
  ·decide
 rw [if_neg (show ¬ c < 0x80 by omega)] at key ⊢
 split at key
 ·rename_i h2
  rw [if_pos h2]
  exact key _ rfl (by simp) (by simp) (fun d hd => by have e : some _ = some d := hd; obtain rfl := Option.some.inj e; rw [hm _ (by omega)]; omega)
 ·rename_i h2
  rw [if_neg h2]
  split at key
  ·rename_i h3
   rw [if_pos h3]
   exact key _ rfl (by simp) (by simp) (fun d hd => by have e : some _ = some d := hd; obtain rfl := Option.some.inj e; rw [hm _ (by omega)]; omega)
  ·rename_i h3
   rw [if_neg h3]
   exact key _ rfl (by simp) (by simp) (fun d hd => by have e : some _ = some d := hd; obtain rfl := Option.some.inj e; rw [hm _ (by omega)]; omega)
theorem index_no : ∀ (l : List UInt8) (c : UInt8), (∀ b, b ∈ l → b ≠ c) → Lib.indexByte l c = -1
 | [], _, _ => rfl
 | b :: l, c, h => by
  have h1 := h b (by simp)
  rw [Lib.indexByte, if_neg (by simpa using h1), index_no l c fun d hd => h d (List.mem_cons_of_mem _ hd)]
  rfl
theorem indexRuneP (w0 : W0) (r : Int) (S : St) (h0 : 128 ≤ r) (h1 : r ≤ 1114111) : ACall Tryz.prog w0 81 [dS sgn, .v (.int .i32 r)] S (fun d S' => d = dI (-1) ∧ S' = S) := by
 have e0 : ¬ r < 128 := by omega
 have e1 : 0 ≤ r := by omega
 refine fnS [] mx Tryz.func81 rfl rfl (by kernel_rfl) ?_; simp (maxDischargeDepth := 12) (maxSteps := 1000000) -implicitDefEqProofs only [Tryz.ntmps81, go_sem, Nat.reduceAdd, Nat.reduceSub, Nat.reduceMul, Nat.reduceLeDiff, Nat.reduceEqDiff, Nat.reduceGT, Nat.reduceBEq, reduceCtorEq, ↓reduceIte, Int.reduceToNat, Int.reduceLE, Int.reduceLT, Int.reduceNe, Int.reduceEq, e0, e1]
 refine ⟨fun h l => ?_, fun h => ?_⟩
 ·have hd : ∀ k, k < 5 → (Utf8.decode sgn k).1 ≠ 65533 ∧ (Utf8.decode sgn k).2 = 1 := by decide
  have hz : sgn.size = 5 := rfl
  refine loopK [] [175] (σ := Nat) (fun _ => []) (fun k => ⟨S.box, (l.n, .xo (.si sgn k)) :: S.acc⟩) (fun k => k ≤ 5) (fun k => 5 - k) 0 mx (by kernel_rfl) ⟨by omega, ?_⟩ fun k hk => ?_
  ·simp (maxDischargeDepth := 12) (maxSteps := 1000000) -implicitDefEqProofs only [go_sem, Nat.reduceAdd, Nat.reduceSub, Nat.reduceMul, Nat.reduceLeDiff, Nat.reduceEqDiff, Nat.reduceGT, Nat.reduceBEq, reduceCtorEq, ↓reduceIte, Int.reduceToNat, Int.reduceLE, Int.reduceLT, Int.reduceNe, Int.reduceEq]
  ·simp (maxDischargeDepth := 12) (maxSteps := 1000000) -implicitDefEqProofs only [go_sem, Nat.reduceAdd, Nat.reduceSub, Nat.reduceMul, Nat.reduceLeDiff, Nat.reduceEqDiff, Nat.reduceGT, Nat.reduceBEq, reduceCtorEq, ↓reduceIte, Int.reduceToNat, Int.reduceLE, Int.reduceLT, Int.reduceNe, Int.reduceEq, hz]
   intro h5
   obtain ⟨h6, h7⟩ := hd k h5
   refine ⟨fun h8 => h6 (by omega), fun _ => ⟨k + 1, by omega, by omega, ?_⟩⟩
   rw [h7]
   exact .refl _
 ·refine use1 (validP w0 r S) ?_
  simp (maxDischargeDepth := 12) (maxSteps := 1000000) -implicitDefEqProofs only [go_sem, Nat.reduceAdd, Nat.reduceSub, Nat.reduceMul, Nat.reduceLeDiff, Nat.reduceEqDiff, Nat.reduceGT, Nat.reduceBEq, reduceCtorEq, ↓reduceIte, Int.reduceToNat, Int.reduceLE, Int.reduceLT, Int.reduceNe, Int.reduceEq]
  intro h2
  refine scopeX [] mx (by kernel_rfl) ?_
  obtain ⟨n2, n4, nc⟩ := encode_hi r h0
  have hl : IntKind.i64.wrap (((Utf8.encode r).size : Int) - 1) = (((Utf8.encode r).size - 1 : Nat) : Int) := by rw [w64 (by omega) (by omega)]; omega
  have hl2 : IntKind.i64.wrap ((((Utf8.encode r).size - 1 : Nat) : Int) + 1) = (((Utf8.encode r).size - 1 + 1 : Nat) : Int) := by rw [w64 (by omega) (by omega)]; omega
  have hz : sgn.size = 5 := rfl
  simp (maxDischargeDepth := 12) (maxSteps := 1000000) -implicitDefEqProofs only [go_sem, Nat.reduceAdd, Nat.reduceSub, Nat.reduceMul, Nat.reduceLeDiff, Nat.reduceEqDiff, Nat.reduceGT, Nat.reduceBEq, reduceCtorEq, ↓reduceIte, Int.reduceToNat, Int.reduceLE, Int.reduceLT, Int.reduceNe, Int.reduceEq, hl]
  refine loopK [] [0, 7, 8, 9] (σ := Unit) (fun _ => []) (fun _ => S) (fun _ => True) (fun _ => 0) () mx (by kernel_rfl) ⟨trivial, ?_⟩ fun _ _ => ?_
  ·simp (maxDischargeDepth := 12) (maxSteps := 1000000) -implicitDefEqProofs only [go_sem, Nat.reduceAdd, Nat.reduceSub, Nat.reduceMul, Nat.reduceLeDiff, Nat.reduceEqDiff, Nat.reduceGT, Nat.reduceBEq, reduceCtorEq, ↓reduceIte, Int.reduceToNat, Int.reduceLE, Int.reduceLT, Int.reduceNe, Int.reduceEq]
  ·simp (maxDischargeDepth := 12) (maxSteps := 1000000) -implicitDefEqProofs only [go_sem, Nat.reduceAdd, Nat.reduceSub, Nat.reduceMul, Nat.reduceLeDiff, Nat.reduceEqDiff, Nat.reduceGT, Nat.reduceBEq, reduceCtorEq, ↓reduceIte, Int.reduceToNat, Int.reduceLE, Int.reduceLT, Int.reduceNe, Int.reduceEq, hz, hl]
   intro h5
   refine scopeX [] mx (by kernel_rfl) ?_
   simp (maxDischargeDepth := 12) (maxSteps := 1000000) -implicitDefEqProofs only [go_sem, Nat.reduceAdd, Nat.reduceSub, Nat.reduceMul, Nat.reduceLeDiff, Nat.reduceEqDiff, Nat.reduceGT, Nat.reduceBEq, reduceCtorEq, ↓reduceIte, Int.reduceToNat, Int.reduceLE, Int.reduceLT, Int.reduceNe, Int.reduceEq, hz, hl, hl2]
   have hlo : ∀ b, b ∈ sgn.data.toList → b.toNat < 128 := by decide
   refine ⟨by omega, fun c hc => ⟨by omega, fun d hd => ?_⟩⟩
   have h6 := hlo c (List.mem_of_getElem? hc)
   have h7 := nc d hd
   refine ⟨fun h8 => ⟨by omega, by omega, fun d2 hd2 => ?_⟩, fun h8 => absurd (fun e => by omega) h8⟩
   refine useQ (indexByteP w0 _ _ S) ?_
   have h9 : Lib.indexByte (sgn.extract ((Utf8.encode r).size - 1 + 1) 5).data.toList d2.toNat.toUInt8 = -1 := by
    refine index_no _ _ fun b hb e => ?_
    rw [list_ext] at hb
    have h10 := hlo b (List.mem_of_mem_take (List.mem_of_mem_drop hb))
    have h11 := nc d2 hd2
    rw [e] at h10
    simp at h10
    omega
   simp (maxDischargeDepth := 12) (maxSteps := 1000000) -implicitDefEqProofs only [go_sem, Nat.reduceAdd, Nat.reduceSub, Nat.reduceMul, Nat.reduceLeDiff, Nat.reduceEqDiff, Nat.reduceGT, Nat.reduceBEq, reduceCtorEq, ↓reduceIte, Int.reduceToNat, Int.reduceLE, Int.reduceLT, Int.reduceNe, Int.reduceEq, h9]
theorem ascii_index : ∀ n, n < 128 → decide (0 ≤ Lib.indexByte [45, 95, 46, 47, 32] n.toUInt8) = decide (n = 45 ∨ n = 95 ∨ n = 46 ∨ n = 47 ∨ n = 32) := by decide
theorem containsP (w0 : W0) (r : Int) (S : St) (h0 : 0 ≤ r) (h1 : r ≤ 1114111) : ACall Tryz.prog w0 56 [dS sgn, .v (.int .i32 r)] S (fun d S' => d = dB (decide (r = 45 ∨ r = 95 ∨ r = 46 ∨ r = 47 ∨ r = 32)) ∧ S' = S) := by
 by_cases h : r < 128
 ·refine acall_shelf1 (us := [.string sgn, .int .i32 r]) (fun g => .v _ rfl) fun w hw => (Tryz.strings_ContainsRune_ascii sgn r w h0 h).mono fun e w' h' => ⟨?_, by rw [h'.2]; exact Below.refl _ _⟩
  have h3 := ascii_index r.toNat (by omega)
  rw [sgn_list, h3] at h'
  rw [h'.1]
  congr 3
  exact propext ⟨fun h => by omega, fun h => by omega⟩
 ·have hF : decide (r = 45 ∨ r = 95 ∨ r = 46 ∨ r = 47 ∨ r = 32) = false := by simp; omega
  rw [hF]
  refine fnS [] mx Tryz.func56 rfl rfl (by kernel_rfl) ?_; simp (maxDischargeDepth := 12) (maxSteps := 1000000) -implicitDefEqProofs only [Tryz.ntmps56, go_sem, Nat.reduceAdd, Nat.reduceSub, Nat.reduceMul, Nat.reduceLeDiff, Nat.reduceEqDiff, Nat.reduceGT, Nat.reduceBEq, reduceCtorEq, ↓reduceIte, Int.reduceToNat, Int.reduceLE, Int.reduceLT, Int.reduceNe, Int.reduceEq]
  refine use1 (indexRuneP w0 r S (by omega) h1) ?_
  simp (maxDischargeDepth := 12) (maxSteps := 1000000) -implicitDefEqProofs only [go_sem, Nat.reduceAdd, Nat.reduceSub, Nat.reduceMul, Nat.reduceLeDiff, Nat.reduceEqDiff, Nat.reduceGT, Nat.reduceBEq, reduceCtorEq, ↓reduceIte, Int.reduceToNat, Int.reduceLE, Int.reduceLT, Int.reduceNe, Int.reduceEq]
  omega
theorem plainP (w0 : W0) (r : Int) (S : St) (h0 : 0 ≤ r) (h1 : r ≤ 1114111) : ACall Tryz.prog w0 28 [.v (.int .i32 r)] S (fun d S' => d = dB (plR r.toNat) ∧ S' = S) := by
 have h := containsP w0 r S h0 h1
 have e1 : ((r ≥ 97 ∧ r ≤ 122) ∨ (r ≥ 65 ∧ r ≤ 90) ∨ (r ≥ 48 ∧ r ≤ 57)) → true = plR r.toNat := fun h => by unfold plR; rw [eq_comm, decide_eq_true_eq]; omega
 have e2 : (r = 45 ∨ r = 95 ∨ r = 46 ∨ r = 47 ∨ r = 32) → true = plR r.toNat := fun h => by unfold plR; rw [eq_comm, decide_eq_true_eq]; omega
 have e3 : ¬ (r ≥ 97 ∧ r ≤ 122) → ¬ (r ≥ 65 ∧ r ≤ 90) → ¬ (r ≥ 48 ∧ r ≤ 57) → ¬ (r = 45 ∨ r = 95 ∨ r = 46 ∨ r = 47 ∨ r = 32) → decide (r ≥ 160) = plR r.toNat := fun h a b c => by unfold plR; exact decide_eq_decide.2 ⟨fun h => by omega, fun h => by omega⟩
 rcases (show r < 48 ∨ (48 ≤ r ∧ r ≤ 57) ∨ (58 ≤ r ∧ r ≤ 64) ∨ (65 ≤ r ∧ r ≤ 90) ∨ (91 ≤ r ∧ r ≤ 96) ∨ (97 ≤ r ∧ r ≤ 122) ∨ 122 < r by omega) with q | q | q | q | q | q | q
 ·have a0 : ¬ r ≥ 97 := by omega
  have a1 : r ≤ 122 := by omega
  have a2 : ¬ r ≥ 65 := by omega
  have a3 : r ≤ 90 := by omega
  have a4 : ¬ r ≥ 48 := by omega
  have a5 : r ≤ 57 := by omega
  refine fnS [] mx Tryz.func28 rfl rfl (by kernel_rfl) ?_; simp (maxDischargeDepth := 12) (maxSteps := 1000000) -implicitDefEqProofs only [Tryz.ntmps28, go_sem, Nat.reduceAdd, Nat.reduceSub, Nat.reduceMul, Nat.reduceLeDiff, Nat.reduceEqDiff, Nat.reduceGT, Nat.reduceBEq, reduceCtorEq, ↓reduceIte, Int.reduceToNat, Int.reduceLE, Int.reduceLT, Int.reduceNe, Int.reduceEq, a0, a1, a2, a3, a4, a5]
  refine use1 h ?_
  simp (maxDischargeDepth := 12) (maxSteps := 1000000) -implicitDefEqProofs only [go_sem, Nat.reduceAdd, Nat.reduceSub, Nat.reduceMul, Nat.reduceLeDiff, Nat.reduceEqDiff, Nat.reduceGT, Nat.reduceBEq, reduceCtorEq, ↓reduceIte, Int.reduceToNat, Int.reduceLE, Int.reduceLT, Int.reduceNe, Int.reduceEq]
  exact ⟨e2, fun h4 => e3 (by omega) (by omega) (by omega) h4⟩
 ·have a0 : ¬ r ≥ 97 := by omega
  have a1 : r ≤ 122 := by omega
  have a2 : ¬ r ≥ 65 := by omega
  have a3 : r ≤ 90 := by omega
  have a4 : r ≥ 48 := by omega
  have a5 : r ≤ 57 := by omega
  refine fnS [] mx Tryz.func28 rfl rfl (by kernel_rfl) ?_; simp (maxDischargeDepth := 12) (maxSteps := 1000000) -implicitDefEqProofs only [Tryz.ntmps28, go_sem, Nat.reduceAdd, Nat.reduceSub, Nat.reduceMul, Nat.reduceLeDiff, Nat.reduceEqDiff, Nat.reduceGT, Nat.reduceBEq, reduceCtorEq, ↓reduceIte, Int.reduceToNat, Int.reduceLE, Int.reduceLT, Int.reduceNe, Int.reduceEq, a0, a1, a2, a3, a4, a5]
  exact e1 (by omega)
 ·have a0 : ¬ r ≥ 97 := by omega
  have a1 : r ≤ 122 := by omega
  have a2 : ¬ r ≥ 65 := by omega
  have a3 : r ≤ 90 := by omega
  have a4 : r ≥ 48 := by omega
  have a5 : ¬ r ≤ 57 := by omega
  refine fnS [] mx Tryz.func28 rfl rfl (by kernel_rfl) ?_; simp (maxDischargeDepth := 12) (maxSteps := 1000000) -implicitDefEqProofs only [Tryz.ntmps28, go_sem, Nat.reduceAdd, Nat.reduceSub, Nat.reduceMul, Nat.reduceLeDiff, Nat.reduceEqDiff, Nat.reduceGT, Nat.reduceBEq, reduceCtorEq, ↓reduceIte, Int.reduceToNat, Int.reduceLE, Int.reduceLT, Int.reduceNe, Int.reduceEq, a0, a1, a2, a3, a4, a5]
  refine use1 h ?_
  simp (maxDischargeDepth := 12) (maxSteps := 1000000) -implicitDefEqProofs only [go_sem, Nat.reduceAdd, Nat.reduceSub, Nat.reduceMul, Nat.reduceLeDiff, Nat.reduceEqDiff, Nat.reduceGT, Nat.reduceBEq, reduceCtorEq, ↓reduceIte, Int.reduceToNat, Int.reduceLE, Int.reduceLT, Int.reduceNe, Int.reduceEq]
  exact ⟨e2, fun h4 => e3 (by omega) (by omega) (by omega) h4⟩
 ·have a0 : ¬ r ≥ 97 := by omega
  have a1 : r ≤ 122 := by omega
  have a2 : r ≥ 65 := by omega
  have a3 : r ≤ 90 := by omega
  have a4 : r ≥ 48 := by omega
  have a5 : ¬ r ≤ 57 := by omega
  refine fnS [] mx Tryz.func28 rfl rfl (by kernel_rfl) ?_; simp (maxDischargeDepth := 12) (maxSteps := 1000000) -implicitDefEqProofs only [Tryz.ntmps28, go_sem, Nat.reduceAdd, Nat.reduceSub, Nat.reduceMul, Nat.reduceLeDiff, Nat.reduceEqDiff, Nat.reduceGT, Nat.reduceBEq, reduceCtorEq, ↓reduceIte, Int.reduceToNat, Int.reduceLE, Int.reduceLT, Int.reduceNe, Int.reduceEq, a0, a1, a2, a3, a4, a5]
  exact e1 (by omega)
 ·have a0 : ¬ r ≥ 97 := by omega
  have a1 : r ≤ 122 := by omega
  have a2 : r ≥ 65 := by omega
  have a3 : ¬ r ≤ 90 := by omega
  have a4 : r ≥ 48 := by omega
  have a5 : ¬ r ≤ 57 := by omega
  refine fnS [] mx Tryz.func28 rfl rfl (by kernel_rfl) ?_; simp (maxDischargeDepth := 12) (maxSteps := 1000000) -implicitDefEqProofs only [Tryz.ntmps28, go_sem, Nat.reduceAdd, Nat.reduceSub, Nat.reduceMul, Nat.reduceLeDiff, Nat.reduceEqDiff, Nat.reduceGT, Nat.reduceBEq, reduceCtorEq, ↓reduceIte, Int.reduceToNat, Int.reduceLE, Int.reduceLT, Int.reduceNe, Int.reduceEq, a0, a1, a2, a3, a4, a5]
  refine use1 h ?_
  simp (maxDischargeDepth := 12) (maxSteps := 1000000) -implicitDefEqProofs only [go_sem, Nat.reduceAdd, Nat.reduceSub, Nat.reduceMul, Nat.reduceLeDiff, Nat.reduceEqDiff, Nat.reduceGT, Nat.reduceBEq, reduceCtorEq, ↓reduceIte, Int.reduceToNat, Int.reduceLE, Int.reduceLT, Int.reduceNe, Int.reduceEq]
  exact ⟨e2, fun h4 => e3 (by omega) (by omega) (by omega) h4⟩
 ·have a0 : r ≥ 97 := by omega
  have a1 : r ≤ 122 := by omega
  have a2 : r ≥ 65 := by omega
  have a3 : ¬ r ≤ 90 := by omega
  have a4 : r ≥ 48 := by omega
  have a5 : ¬ r ≤ 57 := by omega
  refine fnS [] mx Tryz.func28 rfl rfl (by kernel_rfl) ?_; simp (maxDischargeDepth := 12) (maxSteps := 1000000) -implicitDefEqProofs only [Tryz.ntmps28, go_sem, Nat.reduceAdd, Nat.reduceSub, Nat.reduceMul, Nat.reduceLeDiff, Nat.reduceEqDiff, Nat.reduceGT, Nat.reduceBEq, reduceCtorEq, ↓reduceIte, Int.reduceToNat, Int.reduceLE, Int.reduceLT, Int.reduceNe, Int.reduceEq, a0, a1, a2, a3, a4, a5]
  exact e1 (by omega)
 ·have a0 : r ≥ 97 := by omega
  have a1 : ¬ r ≤ 122 := by omega
  have a2 : r ≥ 65 := by omega
  have a3 : ¬ r ≤ 90 := by omega
  have a4 : r ≥ 48 := by omega
  have a5 : ¬ r ≤ 57 := by omega
  refine fnS [] mx Tryz.func28 rfl rfl (by kernel_rfl) ?_; simp (maxDischargeDepth := 12) (maxSteps := 1000000) -implicitDefEqProofs only [Tryz.ntmps28, go_sem, Nat.reduceAdd, Nat.reduceSub, Nat.reduceMul, Nat.reduceLeDiff, Nat.reduceEqDiff, Nat.reduceGT, Nat.reduceBEq, reduceCtorEq, ↓reduceIte, Int.reduceToNat, Int.reduceLE, Int.reduceLT, Int.reduceNe, Int.reduceEq, a0, a1, a2, a3, a4, a5]
  refine use1 h ?_
  simp (maxDischargeDepth := 12) (maxSteps := 1000000) -implicitDefEqProofs only [go_sem, Nat.reduceAdd, Nat.reduceSub, Nat.reduceMul, Nat.reduceLeDiff, Nat.reduceEqDiff, Nat.reduceGT, Nat.reduceBEq, reduceCtorEq, ↓reduceIte, Int.reduceToNat, Int.reduceLE, Int.reduceLT, Int.reduceNe, Int.reduceEq]
  exact ⟨e2, fun h4 => e3 (by omega) (by omega) (by omega) h4⟩
def hexT : ByteArray := ⟨#[48, 49, 50, 51, 52, 53, 54, 55, 56, 57, 97, 98, 99, 100, 101, 102]⟩
theorem hexT_at : ∀ x, x < 16 → (hexT.extract x (x + 1)).data.toList = [hxB x] := by decide
theorem hexT_sz : ∀ x, x < 16 → (hexT.extract x (x + 1)).size = 1 := by decide
theorem nib_hi (a : UInt8) : ((a.toNat : Nat) : Int).fdiv (2 ^ min 4 8) = ((a.toNat / 16 : Nat) : Int) := by
 rw [Int.fdiv_eq_ediv_of_nonneg _ (by decide)]
 have : (2 : Int) ^ min 4 8 = 16 := by decide
 rw [this]; omega
theorem nib_lo0 : ∀ n : Nat, n < 256 → bitD .and .u8 (n : Int) 15 = ((n % 16 : Nat) : Int) := by decide
theorem nib_lo (a : UInt8) : bitD .and .u8 ((a.toNat : Nat) : Int) 15 = ((a.toNat % 16 : Nat) : Int) := nib_lo0 _ a.toNat_lt
theorem nib_hi1 (a : UInt8) : IntKind.u8.wrap (((a.toNat / 16 : Nat) : Int) + 1) = ((a.toNat / 16 + 1 : Nat) : Int) := by
 have := a.toNat_lt
 have e : IntKind.u8.wrap (((a.toNat / 16 : Nat) : Int) + 1) = (((a.toNat / 16 : Nat) : Int) + 1) % 256 := rfl
 rw [e]; omega
theorem nib_lo1 (a : UInt8) : IntKind.u8.wrap (((a.toNat % 16 : Nat) : Int) + 1) = ((a.toNat % 16 + 1 : Nat) : Int) := by
 have e : IntKind.u8.wrap (((a.toNat % 16 : Nat) : Int) + 1) = (((a.toNat % 16 : Nat) : Int) + 1) % 256 := rfl
 rw [e]; omega
theorem quoteP (w0 : W0) (hk : KU w0) (s : ByteArray) (hs : s.size ≤ 1048576) (S : St) : ACall Tryz.prog w0 11 [dS s] S (fun d S' => d = dS (tx (qt s.data.toList)) ∧ S' = S) := by
 refine fnS [1] mx Tryz.func11 rfl rfl (by kernel_rfl) ?_; simp (maxDischargeDepth := 12) (maxSteps := 1000000) -implicitDefEqProofs only [Tryz.ntmps11, go_sem, Nat.reduceAdd, Nat.reduceSub, Nat.reduceMul, Nat.reduceLeDiff, Nat.reduceEqDiff, Nat.reduceGT, Nat.reduceBEq, reduceCtorEq, ↓reduceIte, Int.reduceToNat, Int.reduceLE, Int.reduceLT, Int.reduceNe, Int.reduceEq]
 refine sbR 5 rfl rfl (by kernel_rfl) rfl fun lb => ?_
 simp (maxDischargeDepth := 12) (maxSteps := 1000000) -implicitDefEqProofs only [go_sem, Nat.reduceAdd, Nat.reduceSub, Nat.reduceMul, Nat.reduceLeDiff, Nat.reduceEqDiff, Nat.reduceGT, Nat.reduceBEq, reduceCtorEq, ↓reduceIte, Int.reduceToNat, Int.reduceLE, Int.reduceLT, Int.reduceNe, Int.reduceEq]
 refine useT (wByte w0 _ lb.n [] 34 (by simp (maxDischargeDepth := 12) (maxSteps := 1000000) -implicitDefEqProofs only [go_sem, Nat.reduceAdd, Nat.reduceSub, Nat.reduceMul, Nat.reduceLeDiff, Nat.reduceEqDiff, Nat.reduceGT, Nat.reduceBEq, reduceCtorEq, ↓reduceIte, Int.reduceToNat, Int.reduceLE, Int.reduceLT, Int.reduceNe, Int.reduceEq]) (by decide) (by decide) (by decide)) ?_
 simp (maxDischargeDepth := 12) (maxSteps := 1000000) -implicitDefEqProofs only [go_sem, Nat.reduceAdd, Nat.reduceSub, Nat.reduceMul, Nat.reduceLeDiff, Nat.reduceEqDiff, Nat.reduceGT, Nat.reduceBEq, reduceCtorEq, ↓reduceIte, Int.reduceToNat, Int.reduceLE, Int.reduceLT, Int.reduceNe, Int.reduceEq]
 intro li
 refine loopK [] [0, 3, 12] (σ := Nat × List UInt8) (fun _ => []) (fun p => ⟨S.box, (li.n, .xo (.si s p.1)) :: (lb.n, sbO p.2) :: S.acc⟩) (fun p => p.1 ≤ s.size ∧ p.2 ++ qs (s.data.toList.drop p.1) = 34 :: qs s.data.toList) (fun p => s.size - p.1) (0, [34]) mx (by kernel_rfl) ⟨⟨Nat.zero_le _, rfl⟩, ?_⟩ fun p hp => ?_
 ·simp (maxDischargeDepth := 12) (maxSteps := 1000000) -implicitDefEqProofs only [go_sem, Nat.reduceAdd, Nat.reduceSub, Nat.reduceMul, Nat.reduceLeDiff, Nat.reduceEqDiff, Nat.reduceGT, Nat.reduceBEq, reduceCtorEq, ↓reduceIte, Int.reduceToNat, Int.reduceLE, Int.reduceLT, Int.reduceNe, Int.reduceEq]
  exact .refl _
 ·obtain ⟨k, bs⟩ := p
  obtain ⟨hk1, hbs⟩ := hp
  dsimp only at hk1 hbs
  simp (maxDischargeDepth := 12) (maxSteps := 1000000) -implicitDefEqProofs only [go_sem, Nat.reduceAdd, Nat.reduceSub, Nat.reduceMul, Nat.reduceLeDiff, Nat.reduceEqDiff, Nat.reduceGT, Nat.reduceBEq, reduceCtorEq, ↓reduceIte, Int.reduceToNat, Int.reduceLE, Int.reduceLT, Int.reduceNe, Int.reduceEq]
  refine ⟨fun h1 => ?_, fun h1 => ?_⟩
  ·have hlen : bs.length ≤ 4000000 := by
    have h2 := congrArg List.length hbs
    have h3 := qs_len s.data.toList
    rw [size_list] at h3
    simp only [List.length_append, List.length_cons] at h2
    omega
   refine useT (wByte w0 _ lb.n bs 34 (by simp (maxDischargeDepth := 12) (maxSteps := 1000000) -implicitDefEqProofs only [go_sem, Nat.reduceAdd, Nat.reduceSub, Nat.reduceMul, Nat.reduceLeDiff, Nat.reduceEqDiff, Nat.reduceGT, Nat.reduceBEq, reduceCtorEq, ↓reduceIte, Int.reduceToNat, Int.reduceLE, Int.reduceLT, Int.reduceNe, Int.reduceEq]) (by decide) (by decide) (by omega)) ?_
   simp (maxDischargeDepth := 12) (maxSteps := 1000000) -implicitDefEqProofs only [go_sem, Nat.reduceAdd, Nat.reduceSub, Nat.reduceMul, Nat.reduceLeDiff, Nat.reduceEqDiff, Nat.reduceGT, Nat.reduceBEq, reduceCtorEq, ↓reduceIte, Int.reduceToNat, Int.reduceLE, Int.reduceLT, Int.reduceNe, Int.reduceEq]
   refine useT (wString w0 _ lb.n (bs ++ [UInt8.ofNat 34]) (by simp (maxDischargeDepth := 12) (maxSteps := 1000000) -implicitDefEqProofs only [go_sem, Nat.reduceAdd, Nat.reduceSub, Nat.reduceMul, Nat.reduceLeDiff, Nat.reduceEqDiff, Nat.reduceGT, Nat.reduceBEq, reduceCtorEq, ↓reduceIte, Int.reduceToNat, Int.reduceLE, Int.reduceLT, Int.reduceNe, Int.reduceEq])) ?_
   simp (maxDischargeDepth := 12) (maxSteps := 1000000) -implicitDefEqProofs only [go_sem, Nat.reduceAdd, Nat.reduceSub, Nat.reduceMul, Nat.reduceLeDiff, Nat.reduceEqDiff, Nat.reduceGT, Nat.reduceBEq, reduceCtorEq, ↓reduceIte, Int.reduceToNat, Int.reduceLE, Int.reduceLT, Int.reduceNe, Int.reduceEq]
   have hnil : s.data.toList.drop k = [] := List.drop_of_length_le (by rw [size_list]; omega)
   rw [hnil, qs_nil, List.append_nil] at hbs
   rw [hbs]
   rfl
  ·have hlen : bs.length ≤ 4000000 := by
    have h2 := congrArg List.length hbs
    have h3 := qs_len s.data.toList
    rw [size_list] at h3
    simp only [List.length_append, List.length_cons] at h2
    omega
   refine ⟨hk1, use1 (decodeP w0 hk _ _) ?_⟩
   have hdg := dgo s k h1
   simp (maxDischargeDepth := 12) (maxSteps := 1000000) -implicitDefEqProofs only [go_sem, Nat.reduceAdd, Nat.reduceSub, Nat.reduceMul, Nat.reduceLeDiff, Nat.reduceEqDiff, Nat.reduceGT, Nat.reduceBEq, reduceCtorEq, ↓reduceIte, Int.reduceToNat, Int.reduceLE, Int.reduceLT, Int.reduceNe, Int.reduceEq, hdg]
   have hD := dcd_list s k
   generalize Utf8.decode s k = D at hD ⊢
   have hne : s.data.toList.drop k ≠ [] := by
    intro e
    have := congrArg List.length e
    rw [List.length_drop, size_list] at this
    simp at this; omega
   have hstep := qs_step hne
   have hr := Lib.decodeL_rune (s.data.toList.drop k)
   have hle := Lib.decodeL_le _ hne
   have hpos := dl_pos (s.data.toList.drop k)
   have henc := Lib.encode_decode (s.data.toList.drop k) hne
   rw [← hD] at hr hle hpos henc
   unfold piece at hstep
   rw [← hD] at hstep
   obtain ⟨c, n⟩ := D
   dsimp only at hr hle hpos henc hstep ⊢
   rw [List.length_drop, size_list] at hle
   refine use1 (plainP w0 (c : Int) _ (by omega) (by omega)) ?_
   rw [Int.toNat_natCast]
   have hw : IntKind.i64.wrap ((k : Int) + (n : Int)) = ((k + n : Nat) : Int) := by rw [w64 (by omega) (by omega)]; omega
   have hel : (s.extract k (k + n)).data.toList = (s.data.toList.drop k).take n := by rw [list_ext, List.take_drop, Nat.add_comm]
   have hes : (s.extract k (k + n)).size = n := by rw [ByteArray.size_extract]; omega
   have htl : ((s.data.toList.drop k).take n).length = n := by rw [List.length_take, List.length_drop, size_list]; omega
   simp (maxDischargeDepth := 12) (maxSteps := 1000000) -implicitDefEqProofs only [go_sem, Nat.reduceAdd, Nat.reduceSub, Nat.reduceMul, Nat.reduceLeDiff, Nat.reduceEqDiff, Nat.reduceGT, Nat.reduceBEq, reduceCtorEq, ↓reduceIte, Int.reduceToNat, Int.reduceLE, Int.reduceLT, Int.reduceNe, Int.reduceEq, hw, hes, hel, htl]
   have hnext : ∀ bs', bs' = bs ++ (if stand (c, n) = true then (s.data.toList.drop k).take n else ((s.data.toList.drop k).take n).flatMap pct) → bs' ++ qs (s.data.toList.drop (k + n)) = 34 :: qs s.data.toList := by
    rintro bs' rfl
    have e : s.data.toList.drop (k + n) = (s.data.toList.drop k).drop n := by simp [List.drop_drop, Nat.add_comm]
    rw [e, List.append_assoc, ← hstep]
    exact hbs
   refine ⟨fun hp => ⟨fun h2 => ?w1, fun h2 => ⟨fun h3 => ?w2, fun h3 => ?i1⟩⟩, fun hp => ?i2⟩
   case w1 | w2 =>
    refine useT (wRune w0 _ lb.n bs c (by simp (maxDischargeDepth := 12) (maxSteps := 1000000) -implicitDefEqProofs only [go_sem, Nat.reduceAdd, Nat.reduceSub, Nat.reduceMul, Nat.reduceLeDiff, Nat.reduceEqDiff, Nat.reduceGT, Nat.reduceBEq, reduceCtorEq, ↓reduceIte, Int.reduceToNat, Int.reduceLE, Int.reduceLT, Int.reduceNe, Int.reduceEq]) (by omega) (by omega) (by omega)) ?_
    simp (maxDischargeDepth := 12) (maxSteps := 1000000) -implicitDefEqProofs only [go_sem, Nat.reduceAdd, Nat.reduceSub, Nat.reduceMul, Nat.reduceLeDiff, Nat.reduceEqDiff, Nat.reduceGT, Nat.reduceBEq, reduceCtorEq, ↓reduceIte, Int.reduceToNat, Int.reduceLE, Int.reduceLT, Int.reduceNe, Int.reduceEq]
    have hst : stand (c, n) = true := by simp [stand, hp]; omega
    refine ⟨(k + n, bs ++ Lib.encodeRune c), ⟨by omega, hnext _ ?_⟩, by omega, .refl _⟩
    rw [henc (by omega), if_pos hst]
   case i1 | i2 =>
    have hst : stand (c, n) = false := by simp [stand, hp] <;> omega
    rw [hst] at hnext
    refine ⟨by omega, by omega, by omega, ?_⟩
    generalize hB : (s.data.toList.drop k).take n = B at *
    refine loopN [12] n [0, 3, 12, 42, 43, 44] (fun j => [(44, dI j)]) (fun j => ⟨S.box, (li.n, .xo (.si s (k + n))) :: (lb.n, sbO (bs ++ (B.take j).flatMap pct)) :: S.acc⟩) (fun _ => True) mx (by kernel_rfl) ?_ ?_
    ·simp (maxDischargeDepth := 12) (maxSteps := 1000000) -implicitDefEqProofs only [go_sem, Nat.reduceAdd, Nat.reduceSub, Nat.reduceMul, Nat.reduceLeDiff, Nat.reduceEqDiff, Nat.reduceGT, Nat.reduceBEq, reduceCtorEq, ↓reduceIte, Int.reduceToNat, Int.reduceLE, Int.reduceLT, Int.reduceNe, Int.reduceEq]
     simp only [List.take_zero, List.flatMap_nil, List.append_nil]
     exact .refl _
    ·intro j hj _
     simp (maxDischargeDepth := 12) (maxSteps := 1000000) -implicitDefEqProofs only [go_sem, Nat.reduceAdd, Nat.reduceSub, Nat.reduceMul, Nat.reduceLeDiff, Nat.reduceEqDiff, Nat.reduceGT, Nat.reduceBEq, reduceCtorEq, ↓reduceIte, Int.reduceToNat, Int.reduceLE, Int.reduceLT, Int.reduceNe, Int.reduceEq, htl]
     refine ⟨fun hlt => ⟨hlt, fun a ha => ?_⟩, fun hge => ?_⟩
     ·refine Y.ordK [] [14] [0, 1, 2, 3, 4, 5, 6, 7, 8, 9, 10, 11, 12, 13, 14] mx (by kernel_rfl) ?_
      simp (maxDischargeDepth := 12) (maxSteps := 1000000) -implicitDefEqProofs only [go_sem, Nat.reduceAdd, Nat.reduceSub, Nat.reduceMul, Nat.reduceLeDiff, Nat.reduceEqDiff, Nat.reduceGT, Nat.reduceBEq, reduceCtorEq, ↓reduceIte, Int.reduceToNat, Int.reduceLE, Int.reduceLT, Int.reduceNe, Int.reduceEq, nib_hi, nib_lo, nib_hi1, nib_lo1]
      have z1 := hexT_sz (a.toNat / 16) (by have := a.toNat_lt; omega)
      have z2 := hexT_sz (a.toNat % 16) (by omega)
      have z3 : (⟨#[37]⟩ ++ hexT.extract (a.toNat / 16) (a.toNat / 16 + 1) ++ hexT.extract (a.toNat % 16) (a.toNat % 16 + 1)).data.toList = pct a := by
       rw [list_app, list_app, hexT_at _ (by have := a.toNat_lt; omega), hexT_at _ (by omega)]; rfl
      have z4 : (⟨#[37]⟩ ++ hexT.extract (a.toNat / 16) (a.toNat / 16 + 1) ++ hexT.extract (a.toNat % 16) (a.toNat % 16 + 1)).size = 3 := by rw [← size_list, z3]; rfl
      have z5 : ((B.take j).flatMap pct).length ≤ 3 * n := by rw [flat_len, List.length_take]; omega
      have ea := a.toNat_lt
      unfold hexT at z1 z2 z3 z4
      rw [z1, z2]
      refine ⟨by omega, by omega, by omega, by omega, by omega, by omega, useT (wText w0 _ lb.n (bs ++ (B.take j).flatMap pct) _ (by simp (maxDischargeDepth := 12) (maxSteps := 1000000) -implicitDefEqProofs only [go_sem, Nat.reduceAdd, Nat.reduceSub, Nat.reduceMul, Nat.reduceLeDiff, Nat.reduceEqDiff, Nat.reduceGT, Nat.reduceBEq, reduceCtorEq, ↓reduceIte, Int.reduceToNat, Int.reduceLE, Int.reduceLT, Int.reduceNe, Int.reduceEq]) (by rw [List.length_append, z4]; omega)) ?_⟩
      have ej : IntKind.i64.wrap ((j : Int) + 1) = ((j + 1 : Nat) : Int) := by rw [w64 (by omega) (by omega)]; omega
      have et : bs ++ (B.take j).flatMap pct ++ pct a = bs ++ (B.take (j + 1)).flatMap pct := by
       rw [List.take_add_one, ha, List.append_assoc, List.flatMap_append]; simp
      simp (maxDischargeDepth := 12) (maxSteps := 1000000) -implicitDefEqProofs only [go_sem, Nat.reduceAdd, Nat.reduceSub, Nat.reduceMul, Nat.reduceLeDiff, Nat.reduceEqDiff, Nat.reduceGT, Nat.reduceBEq, reduceCtorEq, ↓reduceIte, Int.reduceToNat, Int.reduceLE, Int.reduceLT, Int.reduceNe, Int.reduceEq, z3, ej, et]
      exact hlt
     ·refine ⟨(k + n, bs ++ (B.take j).flatMap pct), ⟨by omega, hnext _ ?_⟩, by omega, .refl _⟩
      rw [List.take_of_length_le (by omega)]; rfl
def rlen (c : Nat) : Nat := if c < 128 then 1 else if c < 2048 then 2 else if c < 65536 then 3 else 4
theorem rlen_n {l : List UInt8} (hne : l ≠ []) (h : ¬ ((Lib.decodeL l).1 = 65533 ∧ (Lib.decodeL l).2 = 1)) : rlen (Lib.decodeL l).1 = (Lib.decodeL l).2 := by
 have hl : 0 < l.length := List.length_pos_iff.2 hne
 have k0 := (l.getD 0 0).toNat_lt
 have k1 := (l.getD 1 0).toNat_lt
 have k2 := (l.getD 2 0).toNat_lt
 have k3 := (l.getD 3 0).toNat_lt
 rw [Lib.decodeL_N] at h ⊢
 unfold rlen
 rcases Lib.decodeN_shape l.length (l.getD 0 0).toNat (l.getD 1 0).toNat (l.getD 2 0).toNat (l.getD 3 0).toNat with ⟨c, e⟩ | ⟨c1, c2, c3, cv, e⟩ | ⟨c1, c2, c3, c4, cv, cs, e⟩ | ⟨c1, c2, c3, c4, c5, cv, cw, e⟩ | e
 all_goals (rw [e] at h ⊢; dsimp only at h ⊢)
 ·rw [if_pos c]
 ·rw [if_neg (by omega), if_pos (by omega)]
 ·rw [if_neg (by omega), if_neg (by omega), if_pos (by omega)]
 ·rw [if_neg (by omega), if_neg (by omega), if_neg (by omega)]
 ·exact absurd ⟨rfl, rfl⟩ h
theorem bad_whole {l : List UInt8} (h : (Lib.decodeL l).1 = 65533) : (Lib.decodeL l).2 = 1 ↔ l.take 3 ≠ [239, 191, 189] := by
 have key : l.take 3 = [239, 191, 189] → (Lib.decodeL l).2 = 3 := by
  intro e
  match l, e with
  | a :: b :: c :: t, e =>
   simp only [List.take_succ_cons, List.take_zero, List.cons.injEq, and_true] at e
   obtain ⟨rfl, rfl, rfl⟩ := e
   rw [Lib.decodeL_N]
   simp [Lib.decodeN]
 constructor
 ·intro h1 e
  have := key e
  omega
 ·intro h1
  rcases Nat.decEq (Lib.decodeL l).2 1 with h2 | h2
  ·exfalso
   have hne : l ≠ [] := by
    rintro rfl
    exact h2 (by decide)
   have henc := Lib.encode_decode l hne (fun q => h2 q.2)
   have hle := rlen_n hne (fun q => h2 q.2)
   rw [h] at henc hle
   have h3 : (Lib.decodeL l).2 = 3 := by rw [← hle]; decide
   rw [h3] at henc
   exact h1 (by rw [← henc]; decide)
  ·exact h2
theorem lengthR (w0 : W0) (c : Nat) (S : St) : ACall Tryz.prog w0 37 [.v (.int .i32 c)] S (fun d S' => d = dI (rlen c) ∧ S' = S) := by
 unfold rlen
 refine fnS [] mx Tryz.func37 rfl rfl (by kernel_rfl) ?_; simp (maxDischargeDepth := 12) (maxSteps := 1000000) -implicitDefEqProofs only [Tryz.ntmps37, go_sem, Nat.reduceAdd, Nat.reduceSub, Nat.reduceMul, Nat.reduceLeDiff, Nat.reduceEqDiff, Nat.reduceGT, Nat.reduceBEq, reduceCtorEq, ↓reduceIte, Int.reduceToNat, Int.reduceLE, Int.reduceLT, Int.reduceNe, Int.reduceEq]
 refine ⟨fun a => by rw [if_pos (by omega)]; rfl, fun a => ⟨fun b => by rw [if_neg (by omega), if_pos (by omega)]; rfl, fun b => ⟨fun d => by rw [if_neg (by omega), if_neg (by omega), if_pos (by omega)]; rfl, fun d => by rw [if_neg (by omega), if_neg (by omega), if_neg (by omega)]; rfl⟩⟩⟩
theorem digitR (w0 : W0) (c : Nat) (S : St) (h : c < 16) : ACall Tryz.prog w0 39 [.v (.int .u8 c)] S (fun d S' => d = dS (hexT.extract c (c + 1)) ∧ S' = S) := by
 have e1 : IntKind.i64.wrap (c : Int) = c := w64 (by omega) (by omega)
 have e2 : IntKind.i64.wrap ((c : Int) + 1) = ((c + 1 : Nat) : Int) := by rw [w64 (by omega) (by omega)]; omega
 refine fnS [] mx Tryz.func39 rfl rfl (by kernel_rfl) ?_; simp (maxDischargeDepth := 12) (maxSteps := 1000000) -implicitDefEqProofs only [Tryz.ntmps39, go_sem, Nat.reduceAdd, Nat.reduceSub, Nat.reduceMul, Nat.reduceLeDiff, Nat.reduceEqDiff, Nat.reduceGT, Nat.reduceBEq, reduceCtorEq, ↓reduceIte, Int.reduceToNat, Int.reduceLE, Int.reduceLT, Int.reduceNe, Int.reduceEq, e1, e2]
 exact ⟨by omega, by omega, rfl⟩
theorem plainR (w0 : W0) (r : Int) (S : St) (h0 : 0 ≤ r) (h1 : r ≤ 1114111) : ACall Tryz.prog w0 38 [.v (.int .i32 r)] S (fun d S' => d = dB (plR r.toNat) ∧ S' = S) := by
 have e1 : ((r ≥ 97 ∧ r ≤ 122) ∨ (r ≥ 65 ∧ r ≤ 90) ∨ (r ≥ 48 ∧ r ≤ 57)) → true = plR r.toNat := fun h => by unfold plR; rw [eq_comm, decide_eq_true_eq]; omega
 have e2 : (r = 45 ∨ r = 95 ∨ r = 46 ∨ r = 47 ∨ r = 32) → true = plR r.toNat := fun h => by unfold plR; rw [eq_comm, decide_eq_true_eq]; omega
 have e3 : ¬ (r ≥ 97 ∧ r ≤ 122) → ¬ (r ≥ 65 ∧ r ≤ 90) → ¬ (r ≥ 48 ∧ r ≤ 57) → ¬ (r = 45 ∨ r = 95 ∨ r = 46 ∨ r = 47 ∨ r = 32) → decide (r ≥ 160) = plR r.toNat := fun h a b c => by unfold plR; exact decide_eq_decide.2 ⟨fun h => by omega, fun h => by omega⟩
 rcases (show r < 48 ∨ (48 ≤ r ∧ r ≤ 57) ∨ (58 ≤ r ∧ r ≤ 64) ∨ (65 ≤ r ∧ r ≤ 90) ∨ (91 ≤ r ∧ r ≤ 96) ∨ (97 ≤ r ∧ r ≤ 122) ∨ 122 < r by omega) with q | q | q | q | q | q | q
 ·have a0 : ¬ r ≥ 97 := by omega
  have a1 : r ≤ 122 := by omega
  have a2 : ¬ r ≥ 65 := by omega
  have a3 : r ≤ 90 := by omega
  have a4 : ¬ r ≥ 48 := by omega
  have a5 : r ≤ 57 := by omega
  refine fnS [] mx Tryz.func38 rfl rfl (by kernel_rfl) ?_; simp (maxDischargeDepth := 12) (maxSteps := 1000000) -implicitDefEqProofs only [Tryz.ntmps38, go_sem, Nat.reduceAdd, Nat.reduceSub, Nat.reduceMul, Nat.reduceLeDiff, Nat.reduceEqDiff, Nat.reduceGT, Nat.reduceBEq, reduceCtorEq, ↓reduceIte, Int.reduceToNat, Int.reduceLE, Int.reduceLT, Int.reduceNe, Int.reduceEq, a0, a1, a2, a3, a4, a5]
  exact ⟨fun b => e2 (by omega), fun b => ⟨fun c => e2 (by omega), fun c => ⟨fun d => e2 (by omega), fun d => ⟨fun e => e2 (by omega), fun e => ⟨fun f => e2 (by omega), fun f => e3 (by omega) (by omega) (by omega) (by omega)⟩⟩⟩⟩⟩
 ·have a0 : ¬ r ≥ 97 := by omega
  have a1 : r ≤ 122 := by omega
  have a2 : ¬ r ≥ 65 := by omega
  have a3 : r ≤ 90 := by omega
  have a4 : r ≥ 48 := by omega
  have a5 : r ≤ 57 := by omega
  refine fnS [] mx Tryz.func38 rfl rfl (by kernel_rfl) ?_; simp (maxDischargeDepth := 12) (maxSteps := 1000000) -implicitDefEqProofs only [Tryz.ntmps38, go_sem, Nat.reduceAdd, Nat.reduceSub, Nat.reduceMul, Nat.reduceLeDiff, Nat.reduceEqDiff, Nat.reduceGT, Nat.reduceBEq, reduceCtorEq, ↓reduceIte, Int.reduceToNat, Int.reduceLE, Int.reduceLT, Int.reduceNe, Int.reduceEq, a0, a1, a2, a3, a4, a5]
  exact e1 (by omega)
 ·have a0 : ¬ r ≥ 97 := by omega
  have a1 : r ≤ 122 := by omega
  have a2 : ¬ r ≥ 65 := by omega
  have a3 : r ≤ 90 := by omega
  have a4 : r ≥ 48 := by omega
  have a5 : ¬ r ≤ 57 := by omega
  refine fnS [] mx Tryz.func38 rfl rfl (by kernel_rfl) ?_; simp (maxDischargeDepth := 12) (maxSteps := 1000000) -implicitDefEqProofs only [Tryz.ntmps38, go_sem, Nat.reduceAdd, Nat.reduceSub, Nat.reduceMul, Nat.reduceLeDiff, Nat.reduceEqDiff, Nat.reduceGT, Nat.reduceBEq, reduceCtorEq, ↓reduceIte, Int.reduceToNat, Int.reduceLE, Int.reduceLT, Int.reduceNe, Int.reduceEq, a0, a1, a2, a3, a4, a5]
  exact ⟨fun b => e2 (by omega), fun b => ⟨fun c => e2 (by omega), fun c => ⟨fun d => e2 (by omega), fun d => ⟨fun e => e2 (by omega), fun e => ⟨fun f => e2 (by omega), fun f => e3 (by omega) (by omega) (by omega) (by omega)⟩⟩⟩⟩⟩
 ·have a0 : ¬ r ≥ 97 := by omega
  have a1 : r ≤ 122 := by omega
  have a2 : r ≥ 65 := by omega
  have a3 : r ≤ 90 := by omega
  have a4 : r ≥ 48 := by omega
  have a5 : ¬ r ≤ 57 := by omega
  refine fnS [] mx Tryz.func38 rfl rfl (by kernel_rfl) ?_; simp (maxDischargeDepth := 12) (maxSteps := 1000000) -implicitDefEqProofs only [Tryz.ntmps38, go_sem, Nat.reduceAdd, Nat.reduceSub, Nat.reduceMul, Nat.reduceLeDiff, Nat.reduceEqDiff, Nat.reduceGT, Nat.reduceBEq, reduceCtorEq, ↓reduceIte, Int.reduceToNat, Int.reduceLE, Int.reduceLT, Int.reduceNe, Int.reduceEq, a0, a1, a2, a3, a4, a5]
  exact e1 (by omega)
 ·have a0 : ¬ r ≥ 97 := by omega
  have a1 : r ≤ 122 := by omega
  have a2 : r ≥ 65 := by omega
  have a3 : ¬ r ≤ 90 := by omega
  have a4 : r ≥ 48 := by omega
  have a5 : ¬ r ≤ 57 := by omega
  refine fnS [] mx Tryz.func38 rfl rfl (by kernel_rfl) ?_; simp (maxDischargeDepth := 12) (maxSteps := 1000000) -implicitDefEqProofs only [Tryz.ntmps38, go_sem, Nat.reduceAdd, Nat.reduceSub, Nat.reduceMul, Nat.reduceLeDiff, Nat.reduceEqDiff, Nat.reduceGT, Nat.reduceBEq, reduceCtorEq, ↓reduceIte, Int.reduceToNat, Int.reduceLE, Int.reduceLT, Int.reduceNe, Int.reduceEq, a0, a1, a2, a3, a4, a5]
  exact ⟨fun b => e2 (by omega), fun b => ⟨fun c => e2 (by omega), fun c => ⟨fun d => e2 (by omega), fun d => ⟨fun e => e2 (by omega), fun e => ⟨fun f => e2 (by omega), fun f => e3 (by omega) (by omega) (by omega) (by omega)⟩⟩⟩⟩⟩
 ·have a0 : r ≥ 97 := by omega
  have a1 : r ≤ 122 := by omega
  have a2 : r ≥ 65 := by omega
  have a3 : ¬ r ≤ 90 := by omega
  have a4 : r ≥ 48 := by omega
  have a5 : ¬ r ≤ 57 := by omega
  refine fnS [] mx Tryz.func38 rfl rfl (by kernel_rfl) ?_; simp (maxDischargeDepth := 12) (maxSteps := 1000000) -implicitDefEqProofs only [Tryz.ntmps38, go_sem, Nat.reduceAdd, Nat.reduceSub, Nat.reduceMul, Nat.reduceLeDiff, Nat.reduceEqDiff, Nat.reduceGT, Nat.reduceBEq, reduceCtorEq, ↓reduceIte, Int.reduceToNat, Int.reduceLE, Int.reduceLT, Int.reduceNe, Int.reduceEq, a0, a1, a2, a3, a4, a5]
  exact e1 (by omega)
 ·have a0 : r ≥ 97 := by omega
  have a1 : ¬ r ≤ 122 := by omega
  have a2 : r ≥ 65 := by omega
  have a3 : ¬ r ≤ 90 := by omega
  have a4 : r ≥ 48 := by omega
  have a5 : ¬ r ≤ 57 := by omega
  refine fnS [] mx Tryz.func38 rfl rfl (by kernel_rfl) ?_; simp (maxDischargeDepth := 12) (maxSteps := 1000000) -implicitDefEqProofs only [Tryz.ntmps38, go_sem, Nat.reduceAdd, Nat.reduceSub, Nat.reduceMul, Nat.reduceLeDiff, Nat.reduceEqDiff, Nat.reduceGT, Nat.reduceBEq, reduceCtorEq, ↓reduceIte, Int.reduceToNat, Int.reduceLE, Int.reduceLT, Int.reduceNe, Int.reduceEq, a0, a1, a2, a3, a4, a5]
  exact ⟨fun b => e2 (by omega), fun b => ⟨fun c => e2 (by omega), fun c => ⟨fun d => e2 (by omega), fun d => ⟨fun e => e2 (by omega), fun e => ⟨fun f => e2 (by omega), fun f => e3 (by omega) (by omega) (by omega) (by omega)⟩⟩⟩⟩⟩
theorem q16 (a : UInt8) : IntKind.u8.wrap (((a.toNat : Nat) : Int).tdiv 16) = ((a.toNat / 16 : Nat) : Int) := by
 have := a.toNat_lt
 rw [Int.tdiv_eq_ediv_of_nonneg (by omega)]
 have e : IntKind.u8.wrap (((a.toNat : Nat) : Int) / 16) = (((a.toNat : Nat) : Int) / 16) % 256 := rfl
 rw [e]; omega
theorem r16 (a : UInt8) : ((a.toNat : Nat) : Int).tmod 16 = ((a.toNat % 16 : Nat) : Int) := by
 rw [Int.tmod_eq_emod_of_nonneg (by omega)]; omega
theorem quoteR (w0 : W0) (s : ByteArray) (hs : s.size ≤ 1048576) (S : St) : ACall Tryz.prog w0 14 [dS s] S (fun d S' => d = dS (tx (qt s.data.toList)) ∧ S' = S) := by
 refine fnS [] mx Tryz.func14 rfl rfl (by kernel_rfl) ?_; simp (maxDischargeDepth := 12) (maxSteps := 1000000) -implicitDefEqProofs only [Tryz.ntmps14, go_sem, Nat.reduceAdd, Nat.reduceSub, Nat.reduceMul, Nat.reduceLeDiff, Nat.reduceEqDiff, Nat.reduceGT, Nat.reduceBEq, reduceCtorEq, ↓reduceIte, Int.reduceToNat, Int.reduceLE, Int.reduceLT, Int.reduceNe, Int.reduceEq]
 intro li
 refine loopK [] [0, 3, 11] (σ := Nat × List UInt8) (fun p => [(3, dS (tx p.2))]) (fun p => ⟨S.box, (li.n, .xo (.si s p.1)) :: S.acc⟩) (fun p => p.1 ≤ s.size ∧ p.2 ++ qs (s.data.toList.drop p.1) = 34 :: qs s.data.toList) (fun p => s.size - p.1) (0, [34]) mx (by kernel_rfl) ⟨⟨Nat.zero_le _, rfl⟩, ?_⟩ fun p hp => ?_
 ·simp (maxDischargeDepth := 12) (maxSteps := 1000000) -implicitDefEqProofs only [go_sem, Nat.reduceAdd, Nat.reduceSub, Nat.reduceMul, Nat.reduceLeDiff, Nat.reduceEqDiff, Nat.reduceGT, Nat.reduceBEq, reduceCtorEq, ↓reduceIte, Int.reduceToNat, Int.reduceLE, Int.reduceLT, Int.reduceNe, Int.reduceEq]
  rfl
 ·obtain ⟨k, bs⟩ := p
  obtain ⟨hk1, hbs⟩ := hp
  dsimp only at hk1 hbs
  have hlen : bs.length ≤ 4000000 := by
   have h2 := congrArg List.length hbs
   have h3 := qs_len s.data.toList
   rw [size_list] at h3
   simp only [List.length_append, List.length_cons] at h2
   omega
  simp (maxDischargeDepth := 12) (maxSteps := 1000000) -implicitDefEqProofs only [go_sem, Nat.reduceAdd, Nat.reduceSub, Nat.reduceMul, Nat.reduceLeDiff, Nat.reduceEqDiff, Nat.reduceGT, Nat.reduceBEq, reduceCtorEq, ↓reduceIte, Int.reduceToNat, Int.reduceLE, Int.reduceLT, Int.reduceNe, Int.reduceEq]
  refine ⟨fun h1 => ?_, fun h1 => ?_⟩
  ·have hnil : s.data.toList.drop k = [] := List.drop_of_length_le (by rw [size_list]; omega)
   rw [hnil, qs_nil, List.append_nil] at hbs
   rw [hbs]
   refine ⟨by rw [tx_size, ← hbs]; omega, ?_⟩
   rw [show (⟨#[34]⟩ : ByteArray) = tx [34] from rfl, tx_app]
   rfl
  ·have hD := dcd_list s k
   generalize Utf8.decode s k = D at hD ⊢
   have hne : s.data.toList.drop k ≠ [] := by
    intro e
    have := congrArg List.length e
    rw [List.length_drop, size_list] at this
    simp at this; omega
   have hstep := qs_step hne
   have hr := Lib.decodeL_rune (s.data.toList.drop k)
   have hle := Lib.decodeL_le _ hne
   have hpos := dl_pos (s.data.toList.drop k)
   have hrl := rlen_n hne
   have hbw := bad_whole (l := s.data.toList.drop k)
   rw [← hD] at hr hle hpos hrl hbw
   unfold piece at hstep
   rw [← hD] at hstep
   obtain ⟨c, n⟩ := D
   dsimp only at hr hle hpos hrl hbw hstep ⊢
   rw [List.length_drop, size_list] at hle
   have hex : (s.extract k (k + 3)).data.toList = (s.data.toList.drop k).take 3 := by rw [list_ext, List.take_drop, Nat.add_comm]
   have hwn : IntKind.i64.wrap ((k : Int) + (n : Int)) = ((k + n : Nat) : Int) := by rw [w64 (by omega) (by omega)]; omega
   have hw3 : IntKind.i64.wrap ((k : Int) + 3) = ((k + 3 : Nat) : Int) := by rw [w64 (by omega) (by omega)]; omega
   have hnext : ∀ bs', bs' = bs ++ (if stand (c, n) = true then (s.data.toList.drop k).take n else ((s.data.toList.drop k).take n).flatMap pct) → bs' ++ qs (s.data.toList.drop (k + n)) = 34 :: qs s.data.toList := by
    rintro bs' rfl
    have e : s.data.toList.drop (k + n) = (s.data.toList.drop k).drop n := by simp [List.drop_drop, Nat.add_comm]
    rw [e, List.append_assoc, ← hstep]
    exact hbs
   refine use1 (lengthR w0 c _) ?_
   have hgo : ((¬ (c : Int) = 65533) ∧ rlen c = n ∧ stand (c, n) = plR c) ∨ (c = 65533 ∧ n = 1 ∧ stand (c, n) = false ∧ (s.extract k (k + 3)).data.toList ≠ [239, 191, 189]) ∨ (c = 65533 ∧ n = 3 ∧ k + 3 ≤ s.size ∧ (s.extract k (k + 3)).data.toList = [239, 191, 189] ∧ stand (c, n) = true) := by
    by_cases h65 : c = 65533
    ·by_cases hn1 : n = 1
     ·refine .inr (.inl ⟨h65, hn1, by simp [stand, h65, hn1], ?_⟩)
      rw [hex]; exact (hbw h65).1 hn1
     ·have h3 : rlen c = n := hrl fun q => hn1 q.2
      have h4 : n = 3 := by rw [← h3, h65]; decide
      have h5 : (s.data.toList.drop k).take 3 = [239, 191, 189] := by
       rcases Classical.em ((s.data.toList.drop k).take 3 = [239, 191, 189]) with h | h
       ·exact h
       ·exact absurd ((hbw h65).2 h) hn1
      refine .inr (.inr ⟨h65, h4, by omega, by rw [hex]; exact h5, by rw [h65, h4]; decide⟩)
    ·exact .inl ⟨by omega, hrl fun q => h65 q.1, by simp [stand, h65]⟩
   have hel : (s.extract k (k + n)).data.toList = (s.data.toList.drop k).take n := by rw [list_ext, List.take_drop, Nat.add_comm]
   have htl : ((s.data.toList.drop k).take n).length = n := by rw [List.length_take, List.length_drop, size_list]; omega
   have hes : (s.extract k (k + n)).size = n := by rw [ByteArray.size_extract]; omega
   have htx : tx bs ++ s.extract k (k + n) = tx (bs ++ (s.data.toList.drop k).take n) := by rw [← tx_eta (s.extract k (k + n)), hel, tx_app]
   have hsz : (tx bs).size = bs.length := tx_size bs
   rcases hgo with ⟨a1, a2, a3⟩ | ⟨a1, a2, a3, a4⟩ | ⟨a1, a2, a3, a4, a5⟩
   ·simp (maxDischargeDepth := 12) (maxSteps := 1000000) -implicitDefEqProofs only [go_sem, Nat.reduceAdd, Nat.reduceSub, Nat.reduceMul, Nat.reduceLeDiff, Nat.reduceEqDiff, Nat.reduceGT, Nat.reduceBEq, reduceCtorEq, ↓reduceIte, Int.reduceToNat, Int.reduceLE, Int.reduceLT, Int.reduceNe, Int.reduceEq, a1, a2]
    refine use1 (plainR w0 (c : Int) _ (by omega) (by omega)) ?_
    rw [Int.toNat_natCast]
    simp (maxDischargeDepth := 12) (maxSteps := 1000000) -implicitDefEqProofs only [go_sem, Nat.reduceAdd, Nat.reduceSub, Nat.reduceMul, Nat.reduceLeDiff, Nat.reduceEqDiff, Nat.reduceGT, Nat.reduceBEq, reduceCtorEq, ↓reduceIte, Int.reduceToNat, Int.reduceLE, Int.reduceLT, Int.reduceNe, Int.reduceEq, hwn, hes, hsz]
    refine ⟨fun hp => ⟨by omega, by omega, by omega, (k + n, bs ++ (s.data.toList.drop k).take n), ⟨by omega, hnext _ (by rw [a3, hp]; rfl)⟩, by omega, htx, .refl _⟩, fun hp => ?_⟩
    have hst : stand (c, n) = false := by rw [a3, hp]
    generalize hB : (s.data.toList.drop k).take n = B at *
    refine loopN [] n [0, 3, 4, 6, 9, 11] (fun j => [(3, dS (tx (bs ++ (B.take j).flatMap pct))), (9, dI ((k + j : Nat) : Int))]) (fun _ => ⟨S.box, (li.n, .xo (.si s (k + n))) :: S.acc⟩) (fun _ => True) mx (by kernel_rfl) ?_ ?_
    ·simp (maxDischargeDepth := 12) (maxSteps := 1000000) -implicitDefEqProofs only [go_sem, Nat.reduceAdd, Nat.reduceSub, Nat.reduceMul, Nat.reduceLeDiff, Nat.reduceEqDiff, Nat.reduceGT, Nat.reduceBEq, reduceCtorEq, ↓reduceIte, Int.reduceToNat, Int.reduceLE, Int.reduceLT, Int.reduceNe, Int.reduceEq]
     simp
    ·intro j hj _
     simp (maxDischargeDepth := 12) (maxSteps := 1000000) -implicitDefEqProofs only [go_sem, Nat.reduceAdd, Nat.reduceSub, Nat.reduceMul, Nat.reduceLeDiff, Nat.reduceEqDiff, Nat.reduceGT, Nat.reduceBEq, reduceCtorEq, ↓reduceIte, Int.reduceToNat, Int.reduceLE, Int.reduceLT, Int.reduceNe, Int.reduceEq, hwn]
     refine ⟨fun hlt => ?_, fun hge => ?_⟩
     ·refine ⟨by omega, fun a ha => ?_⟩
      have ea := a.toNat_lt
      simp (maxDischargeDepth := 12) (maxSteps := 1000000) -implicitDefEqProofs only [go_sem, Nat.reduceAdd, Nat.reduceSub, Nat.reduceMul, Nat.reduceLeDiff, Nat.reduceEqDiff, Nat.reduceGT, Nat.reduceBEq, reduceCtorEq, ↓reduceIte, Int.reduceToNat, Int.reduceLE, Int.reduceLT, Int.reduceNe, Int.reduceEq, q16]
      refine useQ (digitR w0 (a.toNat / 16) _ (by omega)) ?_
      simp (maxDischargeDepth := 12) (maxSteps := 1000000) -implicitDefEqProofs only [go_sem, Nat.reduceAdd, Nat.reduceSub, Nat.reduceMul, Nat.reduceLeDiff, Nat.reduceEqDiff, Nat.reduceGT, Nat.reduceBEq, reduceCtorEq, ↓reduceIte, Int.reduceToNat, Int.reduceLE, Int.reduceLT, Int.reduceNe, Int.reduceEq, r16]
      have z1 := hexT_sz (a.toNat / 16) (by omega)
      have z2 := hexT_sz (a.toNat % 16) (by omega)
      refine ⟨by omega, by omega, fun d hd => ?_⟩
      obtain rfl : a = d := by rw [ha] at hd; exact Option.some.inj hd
      refine useQ (digitR w0 (a.toNat % 16) _ (by omega)) ?_
      have z3 : (⟨#[37]⟩ ++ hexT.extract (a.toNat / 16) (a.toNat / 16 + 1) ++ hexT.extract (a.toNat % 16) (a.toNat % 16 + 1)) = tx (pct a) := by
       apply tx_ext
       rw [tx_list, list_app, list_app, hexT_at _ (by omega), hexT_at _ (by omega)]; rfl
      have z5 : ((B.take j).flatMap pct).length ≤ 3 * n := by rw [flat_len, List.length_take]; omega
      have hBj : B[j]? = some a := by
       rw [← hB, List.getElem?_take, if_pos (by omega), List.getElem?_drop]; exact ha
      have et : bs ++ (B.take j).flatMap pct ++ pct a = bs ++ (B.take (j + 1)).flatMap pct := by
       rw [List.take_add_one, hBj, List.append_assoc, List.flatMap_append]; simp
      have z6 : (tx (bs ++ (B.take j).flatMap pct)).size = (bs ++ (B.take j).flatMap pct).length := tx_size _
      have z7 : (tx (pct a)).size = 3 := tx_size _
      have ej : IntKind.i64.wrap (((k + j : Nat) : Int) + 1) = ((k + (j + 1) : Nat) : Int) := by rw [w64 (by omega) (by omega)]; omega
      rw [List.length_append] at z6
      simp (maxDischargeDepth := 12) (maxSteps := 1000000) -implicitDefEqProofs only [go_sem, Nat.reduceAdd, Nat.reduceSub, Nat.reduceMul, Nat.reduceLeDiff, Nat.reduceEqDiff, Nat.reduceGT, Nat.reduceBEq, reduceCtorEq, ↓reduceIte, Int.reduceToNat, Int.reduceLE, Int.reduceLT, Int.reduceNe, Int.reduceEq, z1, z2, z3, z6, z7, ej, tx_app, et]
      exact ⟨by omega, by omega⟩
     ·refine ⟨(k + n, bs ++ (B.take j).flatMap pct), ⟨by omega, hnext _ ?_⟩, by omega, rfl, .refl _⟩
      rw [List.take_of_length_le (by omega), hst]; rfl
   ·have a6 : (c : Int) = 65533 := by omega
    have a7 : plR 65533 = true := by decide
    have hst := a3
    subst a2
    have hw1 : IntKind.i64.wrap ((k : Int) + 1) = ((k + 1 : Nat) : Int) := hwn
    simp (maxDischargeDepth := 12) (maxSteps := 1000000) -implicitDefEqProofs only [go_sem, Nat.reduceAdd, Nat.reduceSub, Nat.reduceMul, Nat.reduceLeDiff, Nat.reduceEqDiff, Nat.reduceGT, Nat.reduceBEq, reduceCtorEq, ↓reduceIte, Int.reduceToNat, Int.reduceLE, Int.reduceLT, Int.reduceNe, Int.reduceEq, a6, hw3, a4]
    refine ⟨fun h3 => ?_, fun h3 => ⟨by omega, by omega, ?_⟩⟩
    all_goals
     refine use1 (plainR w0 65533 _ (by omega) (by omega)) ?_
     simp (maxDischargeDepth := 12) (maxSteps := 1000000) -implicitDefEqProofs only [go_sem, Nat.reduceAdd, Nat.reduceSub, Nat.reduceMul, Nat.reduceLeDiff, Nat.reduceEqDiff, Nat.reduceGT, Nat.reduceBEq, reduceCtorEq, ↓reduceIte, Int.reduceToNat, Int.reduceLE, Int.reduceLT, Int.reduceNe, Int.reduceEq, a7, hw1, a4]
     generalize hB : (s.data.toList.drop k).take 1 = B at *
     refine loopN [] 1 [0, 3, 4, 6, 9, 11] (fun j => [(3, dS (tx (bs ++ (B.take j).flatMap pct))), (9, dI ((k + j : Nat) : Int))]) (fun _ => ⟨S.box, (li.n, .xo (.si s (k + 1))) :: S.acc⟩) (fun _ => True) mx (by kernel_rfl) ?_ ?_
     ·simp (maxDischargeDepth := 12) (maxSteps := 1000000) -implicitDefEqProofs only [go_sem, Nat.reduceAdd, Nat.reduceSub, Nat.reduceMul, Nat.reduceLeDiff, Nat.reduceEqDiff, Nat.reduceGT, Nat.reduceBEq, reduceCtorEq, ↓reduceIte, Int.reduceToNat, Int.reduceLE, Int.reduceLT, Int.reduceNe, Int.reduceEq]
      simp
     ·intro j hj _
      simp (maxDischargeDepth := 12) (maxSteps := 1000000) -implicitDefEqProofs only [go_sem, Nat.reduceAdd, Nat.reduceSub, Nat.reduceMul, Nat.reduceLeDiff, Nat.reduceEqDiff, Nat.reduceGT, Nat.reduceBEq, reduceCtorEq, ↓reduceIte, Int.reduceToNat, Int.reduceLE, Int.reduceLT, Int.reduceNe, Int.reduceEq, hw1]
      refine ⟨fun hlt => ?_, fun hge => ?_⟩
      ·refine ⟨by omega, fun a ha => ?_⟩
       have ea := a.toNat_lt
       simp (maxDischargeDepth := 12) (maxSteps := 1000000) -implicitDefEqProofs only [go_sem, Nat.reduceAdd, Nat.reduceSub, Nat.reduceMul, Nat.reduceLeDiff, Nat.reduceEqDiff, Nat.reduceGT, Nat.reduceBEq, reduceCtorEq, ↓reduceIte, Int.reduceToNat, Int.reduceLE, Int.reduceLT, Int.reduceNe, Int.reduceEq, q16]
       refine useQ (digitR w0 (a.toNat / 16) _ (by omega)) ?_
       simp (maxDischargeDepth := 12) (maxSteps := 1000000) -implicitDefEqProofs only [go_sem, Nat.reduceAdd, Nat.reduceSub, Nat.reduceMul, Nat.reduceLeDiff, Nat.reduceEqDiff, Nat.reduceGT, Nat.reduceBEq, reduceCtorEq, ↓reduceIte, Int.reduceToNat, Int.reduceLE, Int.reduceLT, Int.reduceNe, Int.reduceEq, r16]
       have z1 := hexT_sz (a.toNat / 16) (by omega)
       have z2 := hexT_sz (a.toNat % 16) (by omega)
       refine ⟨by omega, by omega, fun d hd => ?_⟩
       obtain rfl : a = d := by rw [ha] at hd; exact Option.some.inj hd
       refine useQ (digitR w0 (a.toNat % 16) _ (by omega)) ?_
       have z3 : (⟨#[37]⟩ ++ hexT.extract (a.toNat / 16) (a.toNat / 16 + 1) ++ hexT.extract (a.toNat % 16) (a.toNat % 16 + 1)) = tx (pct a) := by
        apply tx_ext
        rw [tx_list, list_app, list_app, hexT_at _ (by omega), hexT_at _ (by omega)]; rfl
       have z5 : ((B.take j).flatMap pct).length ≤ 3 * 1 := by rw [flat_len, List.length_take]; omega
       have hBj : B[j]? = some a := by
        rw [← hB, List.getElem?_take, if_pos (by omega), List.getElem?_drop]; exact ha
       have et : bs ++ (B.take j).flatMap pct ++ pct a = bs ++ (B.take (j + 1)).flatMap pct := by
        rw [List.take_add_one, hBj, List.append_assoc, List.flatMap_append]; simp
       have z6 : (tx (bs ++ (B.take j).flatMap pct)).size = (bs ++ (B.take j).flatMap pct).length := tx_size _
       have z7 : (tx (pct a)).size = 3 := tx_size _
       have ej : IntKind.i64.wrap (((k + j : Nat) : Int) + 1) = ((k + (j + 1) : Nat) : Int) := by rw [w64 (by omega) (by omega)]; omega
       rw [List.length_append] at z6
       simp (maxDischargeDepth := 12) (maxSteps := 1000000) -implicitDefEqProofs only [go_sem, Nat.reduceAdd, Nat.reduceSub, Nat.reduceMul, Nat.reduceLeDiff, Nat.reduceEqDiff, Nat.reduceGT, Nat.reduceBEq, reduceCtorEq, ↓reduceIte, Int.reduceToNat, Int.reduceLE, Int.reduceLT, Int.reduceNe, Int.reduceEq, z1, z2, z3, z6, z7, ej, tx_app, et]
       exact ⟨by omega, by omega⟩
      ·refine ⟨(k + 1, bs ++ (B.take j).flatMap pct), ⟨by omega, hnext _ ?_⟩, by omega, rfl, .refl _⟩
       rw [List.take_of_length_le (by omega), hst]; rfl
   ·have a6 : (c : Int) = 65533 := by omega
    have a7 : plR 65533 = true := by decide
    have a8 : rlen 65533 = 3 := by decide
    subst a1 a2
    simp (maxDischargeDepth := 12) (maxSteps := 1000000) -implicitDefEqProofs only [go_sem, Nat.reduceAdd, Nat.reduceSub, Nat.reduceMul, Nat.reduceLeDiff, Nat.reduceEqDiff, Nat.reduceGT, Nat.reduceBEq, reduceCtorEq, ↓reduceIte, Int.reduceToNat, Int.reduceLE, Int.reduceLT, Int.reduceNe, Int.reduceEq, a6, hw3, a4, a8]
    refine ⟨fun h3 => absurd h3 (by omega), fun h3 => ⟨by omega, by omega, ?_⟩⟩
    refine use1 (plainR w0 65533 _ (by omega) (by omega)) ?_
    simp (maxDischargeDepth := 12) (maxSteps := 1000000) -implicitDefEqProofs only [go_sem, Nat.reduceAdd, Nat.reduceSub, Nat.reduceMul, Nat.reduceLeDiff, Nat.reduceEqDiff, Nat.reduceGT, Nat.reduceBEq, reduceCtorEq, ↓reduceIte, Int.reduceToNat, Int.reduceLE, Int.reduceLT, Int.reduceNe, Int.reduceEq, a7, hw3, a4, hes, hsz]
    exact ⟨by omega, by omega, by omega, (k + 3, bs ++ (s.data.toList.drop k).take 3), ⟨by omega, hnext _ (by rw [a5]; rfl)⟩, by omega, htx, .refl _⟩
theorem valueR (w0 : W0) (c : UInt8) (S : St) : ACall Tryz.prog w0 25 [.v (.int .u8 c.toNat)] S (fun d S' => d = dI (lowV c) ∧ S' = S) := by
 have hc := c.toNat_lt
 unfold lowV
 have e1 : ∀ k : Int, 0 ≤ k → k ≤ c.toNat → IntKind.i64.wrap (IntKind.u8.wrap ((c.toNat : Int) - k)) = (c.toNat : Int) - k := by
  intro k h0 h1
  have e : IntKind.u8.wrap ((c.toNat : Int) - k) = ((c.toNat : Int) - k) % 256 := rfl
  rw [e, w64 (by omega) (by omega)]; omega
 refine fnS [] mx Tryz.func25 rfl rfl (by kernel_rfl) ?_; simp (maxDischargeDepth := 12) (maxSteps := 1000000) -implicitDefEqProofs only [Tryz.ntmps25, go_sem, Nat.reduceAdd, Nat.reduceSub, Nat.reduceMul, Nat.reduceLeDiff, Nat.reduceEqDiff, Nat.reduceGT, Nat.reduceBEq, reduceCtorEq, ↓reduceIte, Int.reduceToNat, Int.reduceLE, Int.reduceLT, Int.reduceNe, Int.reduceEq]
 repeat' first | refine ⟨?_, ?_⟩ | intro _
 all_goals first
  | rw [if_pos (by omega), e1 48 (by omega) (by omega)]
  | (rw [if_neg (by omega), if_pos (by omega), e1 97 (by omega) (by omega), w64 (by omega) (by omega)]; omega)
  | rw [if_neg (by omega), if_neg (by omega)]
@[go_sem] def bL (l : List UInt8) : List DV := l.map fun c => .v (.int .u8 c.toNat)
theorem bL_len (l : List UInt8) : (bL l).length = l.length := by simp [bL]
theorem by_bL (l : List UInt8) : byD (l.map fun c => DV.v (.int .u8 (c.toNat : Nat))) = l.map (fun c => ((c.toNat : Nat) : Int)) ∧ okBy (l.map fun c => DV.v (.int .u8 (c.toNat : Nat))) = true := by
 have := by_map (l.map fun c => ((c.toNat : Nat) : Int))
 rwa [List.map_map] at this
theorem str_tx (l : List UInt8) : strOfNums (l.map fun c => ((c.toNat : Nat) : Int)) = tx l := by
 unfold strOfNums tx
 congr 1
 simp [Function.comp_def]
theorem str_bL (l : List UInt8) : strOfNums (byD (l.map fun c => DV.v (.int .u8 (c.toNat : Nat)))) = tx l := by rw [(by_bL l).1, str_tx]
theorem lowV_le (c : UInt8) : lowV c ≤ 15 := by
 unfold lowV
 split
 ·omega
 ·split <;> omega
theorem two_val (a b : UInt8) (ha : 0 ≤ lowV a) (hb : 0 ≤ lowV b) : IntKind.u8.wrap (IntKind.i64.wrap (IntKind.i64.wrap (16 * lowV a) + lowV b)) = (((UInt8.ofNat (16 * lowV a + lowV b).toNat).toNat : Nat) : Int) := by
 have h1 := lowV_le a
 have h2 := lowV_le b
 rw [w64 (n := 16 * lowV a) (by omega) (by omega), w64 (by omega) (by omega)]
 have e : IntKind.u8.wrap (16 * lowV a + lowV b) = (16 * lowV a + lowV b) % 256 := rfl
 have e2 : (UInt8.ofNat (16 * lowV a + lowV b).toNat).toNat = (16 * lowV a + lowV b).toNat := by rw [UInt8.toNat_ofNat']; omega
 rw [e, e2]; omega
theorem unquoteR (w0 : W0) (w : ByteArray) (hs : w.size ≤ 1048576) (S : St) : ACall Tryz.prog w0 10 [dS w] S (fun d S' => d = .tup [dS (tx (unR w.data.toList).1), dB (unR w.data.toList).2] ∧ S' = S) := by
 unfold unR
 rw [size_list]
 by_cases h2 : w.size < 2
 ·have a1 : (w.size : Int) < 2 := by omega
  refine fnS [] mx Tryz.func10 rfl rfl (by kernel_rfl) ?_; simp (maxDischargeDepth := 12) (maxSteps := 1000000) -implicitDefEqProofs only [Tryz.ntmps10, go_sem, Nat.reduceAdd, Nat.reduceSub, Nat.reduceMul, Nat.reduceLeDiff, Nat.reduceEqDiff, Nat.reduceGT, Nat.reduceBEq, reduceCtorEq, ↓reduceIte, Int.reduceToNat, Int.reduceLE, Int.reduceLT, Int.reduceNe, Int.reduceEq, a1, h2]
  exact .refl _
 ·have a1 : ¬ (w.size : Int) < 2 := by omega
  refine fnS [] mx Tryz.func10 rfl rfl (by kernel_rfl) ?_; simp (maxDischargeDepth := 12) (maxSteps := 1000000) -implicitDefEqProofs only [Tryz.ntmps10, go_sem, Nat.reduceAdd, Nat.reduceSub, Nat.reduceMul, Nat.reduceLeDiff, Nat.reduceEqDiff, Nat.reduceGT, Nat.reduceBEq, reduceCtorEq, ↓reduceIte, Int.reduceToNat, Int.reduceLE, Int.reduceLT, Int.reduceNe, Int.reduceEq, a1, h2]
  generalize hM : mid w.data.toList = M
  have hMl : M.length = w.size - 2 := by rw [← hM, mid, List.length_take, List.length_drop, size_list]; omega
  have hMa : ∀ i, 1 ≤ i → i < w.size - 1 → M[i - 1]? = w.data.toList[i]? := by
   intro i h3 h4
   rw [← hM, mid, size_list, List.getElem?_take, if_pos (by omega), List.getElem?_drop]
   congr 1; omega
  have hw1 : IntKind.i64.wrap ((w.size : Int) - 1) = ((w.size - 1 : Nat) : Int) := by rw [w64 (by omega) (by omega)]; omega
  refine growK 4 1 rfl (by omega) fun lp => ?_
  refine loopK [] [0, 4, 5] (σ := Nat × List UInt8) (fun p => [(4, .acc lp.n p.2.length), (5, dI p.1)]) (fun p => ⟨S.box, (lp.n, .arr 1 (bL p.2)) :: S.acc⟩) (fun p => 1 ≤ p.1 ∧ p.1 ≤ w.size - 1 ∧ p.2 ++ ur (M.drop (p.1 - 1)) = ur M ∧ p.2.length < p.1) (fun p => w.size - p.1) (1, []) mx (by kernel_rfl) ⟨⟨by omega, by omega, rfl, by decide⟩, ?_⟩ fun p hp => ?_
  ·simp (maxDischargeDepth := 12) (maxSteps := 1000000) -implicitDefEqProofs only [go_sem, Nat.reduceAdd, Nat.reduceSub, Nat.reduceMul, Nat.reduceLeDiff, Nat.reduceEqDiff, Nat.reduceGT, Nat.reduceBEq, reduceCtorEq, ↓reduceIte, Int.reduceToNat, Int.reduceLE, Int.reduceLT, Int.reduceNe, Int.reduceEq]
  ·obtain ⟨i, bs⟩ := p
   obtain ⟨p1, p2, p3, p4⟩ := hp
   dsimp only at p1 p2 p3 p4
   have hi1 : IntKind.i64.wrap ((i : Int) + 1) = ((i + 1 : Nat) : Int) := by rw [w64 (by omega) (by omega)]; omega
   have hi2 : IntKind.i64.wrap ((i : Int) + 2) = ((i + 2 : Nat) : Int) := by rw [w64 (by omega) (by omega)]; omega
   have hi3 : IntKind.i64.wrap (((i + 2 : Nat) : Int) + 1) = ((i + 3 : Nat) : Int) := by rw [w64 (by omega) (by omega)]; omega
   have hbl : (bL bs).length = bs.length := bL_len bs
   have hms : maxLen = 9223372036854775807 := rfl
   simp (maxDischargeDepth := 12) (maxSteps := 1000000) -implicitDefEqProofs only [go_sem, Nat.reduceAdd, Nat.reduceSub, Nat.reduceMul, Nat.reduceLeDiff, Nat.reduceEqDiff, Nat.reduceGT, Nat.reduceBEq, reduceCtorEq, ↓reduceIte, Int.reduceToNat, Int.reduceLE, Int.reduceLT, Int.reduceNe, Int.reduceEq, hw1, hi1, hi2, hbl]
   have hcons : ∀ (j : Nat) (c : UInt8), 1 ≤ j → j < w.size - 1 → w.data.toList[j]? = some c → M.drop (j - 1) = c :: M.drop j := by
    intro j c h3 h4 h5
    have h6 := (hMa j h3 h4).trans h5
    obtain ⟨h7, h8⟩ := List.getElem?_eq_some_iff.1 h6
    rw [List.drop_eq_getElem_cons h7, h8, show j - 1 + 1 = j by omega]
   refine ⟨fun hlt => ⟨by omega, fun c hc => ?_⟩, fun hge => ?_⟩
   ·have hd := hcons i c p1 hlt hc
    have push : c ≠ 37 ∨ two (M.drop i) = none → (bs.length + 1) * 1 ≤ 140737488355328 ∧ bs.length + 1 ≤ maxLen ∧ ∃ s' : Nat × List UInt8, (1 ≤ s'.fst ∧ s'.fst ≤ w.size - 1 ∧ s'.snd ++ ur (List.drop (s'.fst - 1) M) = ur M ∧ s'.snd.length < s'.fst) ∧ w.size - s'.fst < w.size - i ∧ (Wk (.acc lp.n (bs.length + 1)) (.acc lp.n s'.snd.length) ∧ i + 1 = s'.fst) ∧
      Aml.Sub ⟨S.box, (lp.n, .arr 1 (List.map (fun c => DV.v (.int .u8 (c.toNat : Nat))) s'.snd)) :: S.acc⟩ ⟨S.box, (lp.n, .arr 1 (List.map (fun c => DV.v (.int .u8 (c.toNat : Nat))) bs ++ [.v (.int .u8 (c.toNat : Nat))])) :: S.acc⟩ := by
     intro h3
     refine ⟨by omega, by omega, (i + 1, bs ++ [c]), ⟨by omega, by omega, ?_, by simp; omega⟩, by omega, ⟨by simp; exact .refl _, rfl⟩, by simp; exact .refl _⟩
     rw [show i + 1 - 1 = i by omega, ← p3, hd, ur_other h3, List.append_assoc]; rfl
    refine ⟨fun h37 => ⟨fun h3 => ⟨by omega, fun a ha => ?_⟩, fun h3 => push (.inr ?_)⟩, fun h37 => push (.inl fun e => h37 (by rw [e]; rfl))⟩
    ·have hda := hcons (i + 1) a (by omega) (by omega) ha
     rw [show i + 1 - 1 = i by omega] at hda
     refine use1 (valueR w0 a _) ?_
     simp (maxDischargeDepth := 12) (maxSteps := 1000000) -implicitDefEqProofs only [go_sem, Nat.reduceAdd, Nat.reduceSub, Nat.reduceMul, Nat.reduceLeDiff, Nat.reduceEqDiff, Nat.reduceGT, Nat.reduceBEq, reduceCtorEq, ↓reduceIte, Int.reduceToNat, Int.reduceLE, Int.reduceLT, Int.reduceNe, Int.reduceEq, hw1, hi1, hi2, hbl]
     have hbx : i + 2 < w.data.toList.length := by rw [size_list]; omega
     obtain ⟨b, hb⟩ : ∃ b, w.data.toList[i + 2]? = some b := ⟨_, List.getElem?_eq_getElem hbx⟩
     have hdb := hcons (i + 2) b (by omega) (by omega) hb
     rw [show i + 2 - 1 = i + 1 by omega] at hdb
     rw [hdb] at hda
     refine ⟨fun hla => ⟨by omega, fun b2 hb2 => ?_⟩, fun hla => push (.inr (by rw [hda]; simp only [two]; rw [if_neg (by omega)]))⟩
     obtain rfl : b = b2 := by rw [hb] at hb2; exact Option.some.inj hb2
     refine use1 (valueR w0 b _) ?_
     simp (maxDischargeDepth := 12) (maxSteps := 1000000) -implicitDefEqProofs only [go_sem, Nat.reduceAdd, Nat.reduceSub, Nat.reduceMul, Nat.reduceLeDiff, Nat.reduceEqDiff, Nat.reduceGT, Nat.reduceBEq, reduceCtorEq, ↓reduceIte, Int.reduceToNat, Int.reduceLE, Int.reduceLT, Int.reduceNe, Int.reduceEq, hw1, hi1, hi2, hbl]
     refine ⟨fun hlb => ?_, fun hlb => push (.inr (by rw [hda]; simp only [two]; rw [if_neg (by omega)]))⟩
     refine ⟨by omega, fun a2 ha2 => ?_⟩
     obtain rfl : a = a2 := by rw [ha] at ha2; exact Option.some.inj ha2
     refine useQ (valueR w0 a _) ?_
     simp (maxDischargeDepth := 12) (maxSteps := 1000000) -implicitDefEqProofs only [go_sem, Nat.reduceAdd, Nat.reduceSub, Nat.reduceMul, Nat.reduceLeDiff, Nat.reduceEqDiff, Nat.reduceGT, Nat.reduceBEq, reduceCtorEq, ↓reduceIte, Int.reduceToNat, Int.reduceLE, Int.reduceLT, Int.reduceNe, Int.reduceEq, hw1, hi1, hi2, hbl]
     refine ⟨by omega, fun b2 hb2 => ?_⟩
     obtain rfl : b = b2 := by rw [hb] at hb2; exact Option.some.inj hb2
     refine useQ (valueR w0 b _) ?_
     simp (maxDischargeDepth := 12) (maxSteps := 1000000) -implicitDefEqProofs only [go_sem, Nat.reduceAdd, Nat.reduceSub, Nat.reduceMul, Nat.reduceLeDiff, Nat.reduceEqDiff, Nat.reduceGT, Nat.reduceBEq, reduceCtorEq, ↓reduceIte, Int.reduceToNat, Int.reduceLE, Int.reduceLT, Int.reduceNe, Int.reduceEq, hw1, hi1, hi2, hi3, hbl]
     rw [two_val a b hla hlb]
     refine ⟨by omega, by omega, (i + 3, bs ++ [UInt8.ofNat (16 * lowV a + lowV b).toNat]), ⟨by omega, by omega, ?_, by simp; omega⟩, by omega, ⟨by simp; exact .refl _, rfl⟩, by simp; exact .refl _⟩
     rw [show i + 3 - 1 = i + 2 by omega, ← p3, hd, ur_two (by rw [← UInt8.toNat_inj]; show c.toNat = 37; omega) (x := UInt8.ofNat (16 * lowV a + lowV b).toNat) (by rw [hda]; simp only [two]; rw [if_pos ⟨hla, hlb⟩]), hda, List.append_assoc]
     rfl
    ·have h4 : (M.drop i).length < 2 := by rw [List.length_drop]; omega
     match M.drop i, h4 with
     | [], _ => rfl
     | [_], _ => rfl
   ·have hnil : M.drop (i - 1) = [] := List.drop_of_length_le (by omega)
    rw [hnil, ur_nil, List.append_nil] at p3
    refine ⟨(by_bL bs).2, ?_⟩
    rw [str_bL, p3]
    refine use1 (quoteR w0 (tx (ur M)) (by rw [tx_size, ← p3]; omega) _) ?_
    rw [tx_list]
    simp (maxDischargeDepth := 12) (maxSteps := 1000000) -implicitDefEqProofs only [go_sem, Nat.reduceAdd, Nat.reduceSub, Nat.reduceMul, Nat.reduceLeDiff, Nat.reduceEqDiff, Nat.reduceGT, Nat.reduceBEq, reduceCtorEq, ↓reduceIte, Int.reduceToNat, Int.reduceLE, Int.reduceLT, Int.reduceNe, Int.reduceEq]
    rw [tx_list, if_neg h2]
    refine ⟨fun h5 => ⟨(by_bL (ur M)).2, ?_⟩, fun h5 => ?_⟩
    ·rw [str_bL, if_pos h5]; exact .refl _
    ·rw [if_neg h5]; exact .refl _
def valH : List UInt8 → Nat := fun l => l.foldl (fun n c => 16 * n + (hexV c).getD 0) 0
theorem hexV_lt {c : UInt8} {x : Nat} (h : hexV c = some x) : x < 16 := by
 unfold hexV at h
 split at h
 ·cases h; omega
 ·split at h
  ·cases h; omega
  ·cases h
theorem lower_or (c : UInt8) : bitD .or .u8 ((c.toNat : Nat) : Int) 32 = (((c ||| 32).toNat : Nat) : Int) := by
 have h : ∀ n : Nat, n < 256 → bitD .or .u8 ((n : Nat) : Int) 32 = (((n ||| 32 : Nat)) : Int) := by decide
 rw [h _ c.toNat_lt]
 simp
theorem lowerP (w0 : W0) (c : UInt8) (S : St) : ACall Tryz.prog w0 74 [.v (.int .u8 c.toNat)] S (fun d S' => d = .v (.int .u8 (c ||| 32).toNat) ∧ S' = S) := by
 have h := lower_or c
 refine fnS [] mx Tryz.func74 rfl rfl (by kernel_rfl) ?_; simp (maxDischargeDepth := 12) (maxSteps := 1000000) -implicitDefEqProofs only [Tryz.ntmps74, go_sem, Nat.reduceAdd, Nat.reduceSub, Nat.reduceMul, Nat.reduceLeDiff, Nat.reduceEqDiff, Nat.reduceGT, Nat.reduceBEq, reduceCtorEq, ↓reduceIte, Int.reduceToNat, Int.reduceLE, Int.reduceLT, Int.reduceNe, Int.reduceEq, h]
theorem valH_snoc (l : List UInt8) (a : UInt8) : valH (l ++ [a]) = 16 * valH l + (hexV a).getD 0 := by simp [valH]
theorem hexS_val {l : List UInt8} (h0 : l ≠ []) (h2 : l.length ≤ 2) (h : ∀ c, c ∈ l → hexV c ≠ none) : hexS l = some (valH l) := by
 match l, h0, h2, h with
 | [a], _, _, h =>
  have h1 := h a (by simp)
  simp only [hexS, valH, List.foldl_cons, List.foldl_nil]
  cases hx : hexV a with
  | none => exact absurd hx h1
  | some x => simp
 | [a, b], _, _, h =>
  have h1 := h a (by simp)
  have h2 := h b (by simp)
  simp only [hexS, valH, List.foldl_cons, List.foldl_nil]
  cases hx : hexV a with
  | none => exact absurd hx h1
  | some x => cases hy : hexV b with
   | none => exact absurd hy h2
   | some y => simp
theorem hexS_no {l : List UInt8} {a : UInt8} (h2 : l.length ≤ 2) (ha : a ∈ l) (h : hexV a = none) : hexS l = none := by
 match l, h2, ha with
 | [x], _, ha =>
  simp only [List.mem_cons, List.not_mem_nil, or_false] at ha
  subst ha; exact h
 | [x, y], _, ha =>
  simp only [List.mem_cons, List.not_mem_nil, or_false] at ha
  rcases ha with rfl | rfl
  ·simp [hexS, h]
  ·simp only [hexS, h]; cases hexV x <;> rfl
theorem parse16 (w0 : W0) (s : ByteArray) (hs : s.size ≤ 2) (S : St) : ACall Tryz.prog w0 52 [dS s, dI 16, dI 8] S (fun d S' => d = (match hexS s.data.toList with | some v => .tup [.v (.int .u64 v), .v .nilIface] | none => .tup [.v (.int .u64 0), .ifc 111 (.v (.int .i64 2))]) ∧ S' = S) := by
 by_cases h0 : s.data.toList = []
 ·rw [h0]
  have h1 : s.data.toList = ByteArray.empty.data.toList := h0
  refine fnS [] mx Tryz.func52 rfl rfl (by kernel_rfl) ?_; simp (maxDischargeDepth := 12) (maxSteps := 1000000) -implicitDefEqProofs only [Tryz.ntmps52, go_sem, Nat.reduceAdd, Nat.reduceSub, Nat.reduceMul, Nat.reduceLeDiff, Nat.reduceEqDiff, Nat.reduceGT, Nat.reduceBEq, reduceCtorEq, ↓reduceIte, Int.reduceToNat, Int.reduceLE, Int.reduceLT, Int.reduceNe, Int.reduceEq, h0]
  exact .refl _
 ·have hmv : IntKind.u64.wrap (IntKind.u64.wrap (1 * 2 ^ min (IntKind.u64.wrap 8).toNat 64) - 1) = 255 := by decide
  refine fnS [] mx Tryz.func52 rfl rfl (by kernel_rfl) ?_; simp (maxDischargeDepth := 12) (maxSteps := 1000000) -implicitDefEqProofs only [Tryz.ntmps52, go_sem, Nat.reduceAdd, Nat.reduceSub, Nat.reduceMul, Nat.reduceLeDiff, Nat.reduceEqDiff, Nat.reduceGT, Nat.reduceBEq, reduceCtorEq, ↓reduceIte, Int.reduceToNat, Int.reduceLE, Int.reduceLT, Int.reduceNe, Int.reduceEq, h0, hmv]
  refine ⟨fun h => absurd h (by decide), fun _ => ⟨by omega, ?_⟩⟩
  have hL : s.data.toList.length ≤ 2 := hs
  have h16 : IntKind.u8.wrap 16 = 16 := by decide
  have h16u : IntKind.u64.wrap 16 = 16 := by decide
  generalize hLe : s.data.toList = L at *
  refine loopN [] L.length [1, 8, 9, 10, 11, 12, 13, 99, 100, 101] (fun k => [(13, .v (.int .u64 (valH (L.take k) : Nat))), (101, dI k)]) (fun _ => S) (fun k => ∀ c, c ∈ L.take k → hexV c ≠ none) mx (by kernel_rfl) ?_ ?_
  ·simp (maxDischargeDepth := 12) (maxSteps := 1000000) -implicitDefEqProofs only [go_sem, Nat.reduceAdd, Nat.reduceSub, Nat.reduceMul, Nat.reduceLeDiff, Nat.reduceEqDiff, Nat.reduceGT, Nat.reduceBEq, reduceCtorEq, ↓reduceIte, Int.reduceToNat, Int.reduceLE, Int.reduceLT, Int.reduceNe, Int.reduceEq]
   simp [valH]
  ·intro k hk hin
   simp (maxDischargeDepth := 12) (maxSteps := 1000000) -implicitDefEqProofs only [go_sem, Nat.reduceAdd, Nat.reduceSub, Nat.reduceMul, Nat.reduceLeDiff, Nat.reduceEqDiff, Nat.reduceGT, Nat.reduceBEq, reduceCtorEq, ↓reduceIte, Int.reduceToNat, Int.reduceLE, Int.reduceLT, Int.reduceNe, Int.reduceEq, h16, h16u]
   refine ⟨fun hlt => ⟨hlt, fun a ha => ?_⟩, fun hge => ?_⟩
   ·have hal := a.toNat_lt
    have hml := (a ||| 32).toNat_lt
    have hmem : a ∈ L := List.mem_of_getElem? ha
    have htk : L.take (k + 1) = L.take k ++ [a] := by rw [List.take_add_one, ha]; rfl
    have hv : valH (L.take k) ≤ 15 := by
     match k, L, hin, hlt, hL with
     | 0, L, _, _, _ => simp [valH]
     | 1, b :: L, hin, _, _ =>
      have h1 := hin b (by simp)
      cases hx : hexV b with
      | none => exact absurd hx h1
      | some x => have := hexV_lt hx; simp [valH, hx]; omega
     | n + 2, L, _, hlt, hL => omega
    generalize hve : valH (L.take k) = x at *
    have e4 : IntKind.u64.wrap ((x : Int) * 16) = ((16 * x : Nat) : Int) := by rw [wu64 (by omega) (by omega)]; omega
    have e3 : ¬ ((x : Int) ≥ 1152921504606846976) := by omega
    have ek : IntKind.i64.wrap ((k : Int) + 1) = ((k + 1 : Nat) : Int) := by rw [w64 (by omega) (by omega)]; omega
    have fin : ∀ d, hexV a = some d → (∀ (c : UInt8), c ∈ List.take (k + 1) L → ¬hexV c = none) ∧ ((16 * x + d : Nat) : Int) = ↑(valH (List.take (k + 1) L)) := by
     intro d hd
     rw [htk, valH_snoc, hve, hd]
     refine ⟨fun c hc => ?_, rfl⟩
     rcases List.mem_append.1 hc with hc | hc
     ·exact hin c hc
     ·simp only [List.mem_cons, List.not_mem_nil, or_false] at hc
      subst hc; rw [hd]; simp
    have bad : hexV a = none → Wk (.tup [.v (.int .u64 0), .ifc 111 (.v (.int .i64 2))]) (match hexS L with | some v => .tup [.v (.int .u64 v), .v .nilIface] | none => .tup [.v (.int .u64 0), .ifc 111 (.v (.int .i64 2))]) := by
     intro hn
     rw [hexS_no hL hmem hn]; exact .refl _
    by_cases qa : 48 ≤ a.toNat ∧ a.toNat ≤ 57
    ·have hd : hexV a = some (a.toNat - 48) := if_pos qa
     generalize hde : a.toNat - 48 = d at *
     have e1 : IntKind.u8.wrap ((a.toNat : Int) - 48) = (d : Int) := by
      have e : IntKind.u8.wrap ((a.toNat : Int) - 48) = ((a.toNat : Int) - 48) % 256 := rfl
      rw [e]; omega
     have q1 : 48 ≤ (a.toNat : Int) := by omega
     have q2 : (a.toNat : Int) ≤ 57 := by omega
     have q0 : ¬ (a.toNat : Int) = 95 := by omega
     have e2 : ¬ ((d : Int) ≥ 16) := by omega
     have e5 : IntKind.u64.wrap (d : Int) = d := wu64 (by omega) (by omega)
     have e6 : IntKind.u64.wrap (((16 * x : Nat) : Int) + (d : Int)) = ((16 * x + d : Nat) : Int) := by rw [wu64 (by omega) (by omega)]; omega
     have e7 : ¬ (((16 * x + d : Nat) : Int) < ((16 * x : Nat) : Int)) := by omega
     have e8 : ¬ (((16 * x + d : Nat) : Int) > 255) := by omega
     simp (maxDischargeDepth := 12) (maxSteps := 1000000) -implicitDefEqProofs only [go_sem, Nat.reduceAdd, Nat.reduceSub, Nat.reduceMul, Nat.reduceLeDiff, Nat.reduceEqDiff, Nat.reduceGT, Nat.reduceBEq, reduceCtorEq, ↓reduceIte, Int.reduceToNat, Int.reduceLE, Int.reduceLT, Int.reduceNe, Int.reduceEq, q0, q1, q2, e1, e2, e3, e4, e5, e6, e7, e8, ek]
     exact ⟨hlt, (fin d hd).1, by have := (fin d hd).2; omega⟩
    ·have hx : hexV a = if 97 ≤ (a ||| 32).toNat ∧ (a ||| 32).toNat ≤ 102 then some ((a ||| 32).toNat - 87) else none := if_neg qa
     have hc : ((¬ 48 ≤ (a.toNat : Int)) ∧ (¬ (a.toNat : Int) = 95)) ∨ (48 ≤ (a.toNat : Int) ∧ (¬ (a.toNat : Int) ≤ 57) ∧ (a.toNat : Int) = 95) ∨ (48 ≤ (a.toNat : Int) ∧ (¬ (a.toNat : Int) ≤ 57) ∧ ¬ (a.toNat : Int) = 95) := by omega
     have low := lowerP w0 a S
     generalize (a ||| 32).toNat = m at hx low hml
     have f0 : IntKind.u8.wrap (IntKind.u8.wrap ((m : Int) - 97) + 10) = (((m : Int) - 97) % 256 + 10) % 256 := rfl
     rcases hc with ⟨q1, q0⟩ | ⟨q1, q2, q0⟩ | ⟨q1, q2, q0⟩
     ·simp (maxDischargeDepth := 12) (maxSteps := 1000000) -implicitDefEqProofs only [go_sem, Nat.reduceAdd, Nat.reduceSub, Nat.reduceMul, Nat.reduceLeDiff, Nat.reduceEqDiff, Nat.reduceGT, Nat.reduceBEq, reduceCtorEq, ↓reduceIte, Int.reduceToNat, Int.reduceLE, Int.reduceLT, Int.reduceNe, Int.reduceEq, q0, q1]
      refine use1 low ?_
      by_cases n1 : 97 ≤ (m : Int)
      ·simp (maxDischargeDepth := 12) (maxSteps := 1000000) -implicitDefEqProofs only [go_sem, Nat.reduceAdd, Nat.reduceSub, Nat.reduceMul, Nat.reduceLeDiff, Nat.reduceEqDiff, Nat.reduceGT, Nat.reduceBEq, reduceCtorEq, ↓reduceIte, Int.reduceToNat, Int.reduceLE, Int.reduceLT, Int.reduceNe, Int.reduceEq, n1, h16, h16u]
       refine use1 low ?_
       by_cases n2 : (m : Int) ≤ 122
       ·simp (maxDischargeDepth := 12) (maxSteps := 1000000) -implicitDefEqProofs only [go_sem, Nat.reduceAdd, Nat.reduceSub, Nat.reduceMul, Nat.reduceLeDiff, Nat.reduceEqDiff, Nat.reduceGT, Nat.reduceBEq, reduceCtorEq, ↓reduceIte, Int.reduceToNat, Int.reduceLE, Int.reduceLT, Int.reduceNe, Int.reduceEq, n2, h16, h16u]
        refine use1 low ?_
        by_cases n3 : m ≤ 102
        ·have hd : hexV a = some (m - 87) := by rw [hx, if_pos (by omega)]
         have f1 : IntKind.u8.wrap (IntKind.u8.wrap ((m : Int) - 97) + 10) = ((m - 87 : Nat) : Int) := by rw [f0]; omega
         generalize m - 87 = d at hd f1
         have hd16 := hexV_lt hd
         have e2 : ¬ ((d : Int) ≥ 16) := by omega
         have e5 : IntKind.u64.wrap (d : Int) = d := wu64 (by omega) (by omega)
         have e6 : IntKind.u64.wrap (((16 * x : Nat) : Int) + (d : Int)) = ((16 * x + d : Nat) : Int) := by rw [wu64 (by omega) (by omega)]; omega
         have e7 : ¬ (((16 * x + d : Nat) : Int) < ((16 * x : Nat) : Int)) := by omega
         have e8 : ¬ (((16 * x + d : Nat) : Int) > 255) := by omega
         simp (maxDischargeDepth := 12) (maxSteps := 1000000) -implicitDefEqProofs only [go_sem, Nat.reduceAdd, Nat.reduceSub, Nat.reduceMul, Nat.reduceLeDiff, Nat.reduceEqDiff, Nat.reduceGT, Nat.reduceBEq, reduceCtorEq, ↓reduceIte, Int.reduceToNat, Int.reduceLE, Int.reduceLT, Int.reduceNe, Int.reduceEq, f1, h16, h16u, e2, e3, e4, e5, e6, e7, e8, ek]
         exact ⟨hlt, (fin d hd).1, by have := (fin d hd).2; omega⟩
        ·have f1 : IntKind.u8.wrap (IntKind.u8.wrap ((m : Int) - 97) + 10) ≥ 16 := by rw [f0]; omega
         simp (maxDischargeDepth := 12) (maxSteps := 1000000) -implicitDefEqProofs only [go_sem, Nat.reduceAdd, Nat.reduceSub, Nat.reduceMul, Nat.reduceLeDiff, Nat.reduceEqDiff, Nat.reduceGT, Nat.reduceBEq, reduceCtorEq, ↓reduceIte, Int.reduceToNat, Int.reduceLE, Int.reduceLT, Int.reduceNe, Int.reduceEq, f1, h16, h16u]
         exact bad (by rw [hx, if_neg (by omega)])
       ·simp (maxDischargeDepth := 12) (maxSteps := 1000000) -implicitDefEqProofs only [go_sem, Nat.reduceAdd, Nat.reduceSub, Nat.reduceMul, Nat.reduceLeDiff, Nat.reduceEqDiff, Nat.reduceGT, Nat.reduceBEq, reduceCtorEq, ↓reduceIte, Int.reduceToNat, Int.reduceLE, Int.reduceLT, Int.reduceNe, Int.reduceEq, n2]
        exact bad (by rw [hx, if_neg (by omega)])
      ·simp (maxDischargeDepth := 12) (maxSteps := 1000000) -implicitDefEqProofs only [go_sem, Nat.reduceAdd, Nat.reduceSub, Nat.reduceMul, Nat.reduceLeDiff, Nat.reduceEqDiff, Nat.reduceGT, Nat.reduceBEq, reduceCtorEq, ↓reduceIte, Int.reduceToNat, Int.reduceLE, Int.reduceLT, Int.reduceNe, Int.reduceEq, n1]
       exact bad (by rw [hx, if_neg (by omega)])
     ·have low95 := low
      rw [q0] at low95
      simp (maxDischargeDepth := 12) (maxSteps := 1000000) -implicitDefEqProofs only [go_sem, Nat.reduceAdd, Nat.reduceSub, Nat.reduceMul, Nat.reduceLeDiff, Nat.reduceEqDiff, Nat.reduceGT, Nat.reduceBEq, reduceCtorEq, ↓reduceIte, Int.reduceToNat, Int.reduceLE, Int.reduceLT, Int.reduceNe, Int.reduceEq, q0, q1, q2]
      refine use1 low95 ?_
      by_cases n1 : 97 ≤ (m : Int)
      ·simp (maxDischargeDepth := 12) (maxSteps := 1000000) -implicitDefEqProofs only [go_sem, Nat.reduceAdd, Nat.reduceSub, Nat.reduceMul, Nat.reduceLeDiff, Nat.reduceEqDiff, Nat.reduceGT, Nat.reduceBEq, reduceCtorEq, ↓reduceIte, Int.reduceToNat, Int.reduceLE, Int.reduceLT, Int.reduceNe, Int.reduceEq, n1, h16, h16u]
       refine use1 low ?_
       by_cases n2 : (m : Int) ≤ 122
       ·simp (maxDischargeDepth := 12) (maxSteps := 1000000) -implicitDefEqProofs only [go_sem, Nat.reduceAdd, Nat.reduceSub, Nat.reduceMul, Nat.reduceLeDiff, Nat.reduceEqDiff, Nat.reduceGT, Nat.reduceBEq, reduceCtorEq, ↓reduceIte, Int.reduceToNat, Int.reduceLE, Int.reduceLT, Int.reduceNe, Int.reduceEq, n2, h16, h16u]
        refine use1 low ?_
        by_cases n3 : m ≤ 102
        ·have hd : hexV a = some (m - 87) := by rw [hx, if_pos (by omega)]
         have f1 : IntKind.u8.wrap (IntKind.u8.wrap ((m : Int) - 97) + 10) = ((m - 87 : Nat) : Int) := by rw [f0]; omega
         generalize m - 87 = d at hd f1
         have hd16 := hexV_lt hd
         have e2 : ¬ ((d : Int) ≥ 16) := by omega
         have e5 : IntKind.u64.wrap (d : Int) = d := wu64 (by omega) (by omega)
         have e6 : IntKind.u64.wrap (((16 * x : Nat) : Int) + (d : Int)) = ((16 * x + d : Nat) : Int) := by rw [wu64 (by omega) (by omega)]; omega
         have e7 : ¬ (((16 * x + d : Nat) : Int) < ((16 * x : Nat) : Int)) := by omega
         have e8 : ¬ (((16 * x + d : Nat) : Int) > 255) := by omega
         simp (maxDischargeDepth := 12) (maxSteps := 1000000) -implicitDefEqProofs only [go_sem, Nat.reduceAdd, Nat.reduceSub, Nat.reduceMul, Nat.reduceLeDiff, Nat.reduceEqDiff, Nat.reduceGT, Nat.reduceBEq, reduceCtorEq, ↓reduceIte, Int.reduceToNat, Int.reduceLE, Int.reduceLT, Int.reduceNe, Int.reduceEq, f1, h16, h16u, e2, e3, e4, e5, e6, e7, e8, ek]
         exact ⟨hlt, (fin d hd).1, by have := (fin d hd).2; omega⟩
        ·have f1 : IntKind.u8.wrap (IntKind.u8.wrap ((m : Int) - 97) + 10) ≥ 16 := by rw [f0]; omega
         simp (maxDischargeDepth := 12) (maxSteps := 1000000) -implicitDefEqProofs only [go_sem, Nat.reduceAdd, Nat.reduceSub, Nat.reduceMul, Nat.reduceLeDiff, Nat.reduceEqDiff, Nat.reduceGT, Nat.reduceBEq, reduceCtorEq, ↓reduceIte, Int.reduceToNat, Int.reduceLE, Int.reduceLT, Int.reduceNe, Int.reduceEq, f1, h16, h16u]
         exact bad (by rw [hx, if_neg (by omega)])
       ·simp (maxDischargeDepth := 12) (maxSteps := 1000000) -implicitDefEqProofs only [go_sem, Nat.reduceAdd, Nat.reduceSub, Nat.reduceMul, Nat.reduceLeDiff, Nat.reduceEqDiff, Nat.reduceGT, Nat.reduceBEq, reduceCtorEq, ↓reduceIte, Int.reduceToNat, Int.reduceLE, Int.reduceLT, Int.reduceNe, Int.reduceEq, n2]
        exact bad (by rw [hx, if_neg (by omega)])
      ·simp (maxDischargeDepth := 12) (maxSteps := 1000000) -implicitDefEqProofs only [go_sem, Nat.reduceAdd, Nat.reduceSub, Nat.reduceMul, Nat.reduceLeDiff, Nat.reduceEqDiff, Nat.reduceGT, Nat.reduceBEq, reduceCtorEq, ↓reduceIte, Int.reduceToNat, Int.reduceLE, Int.reduceLT, Int.reduceNe, Int.reduceEq, n1]
       exact bad (by rw [hx, if_neg (by omega)])
     ·simp (maxDischargeDepth := 12) (maxSteps := 1000000) -implicitDefEqProofs only [go_sem, Nat.reduceAdd, Nat.reduceSub, Nat.reduceMul, Nat.reduceLeDiff, Nat.reduceEqDiff, Nat.reduceGT, Nat.reduceBEq, reduceCtorEq, ↓reduceIte, Int.reduceToNat, Int.reduceLE, Int.reduceLT, Int.reduceNe, Int.reduceEq, q0, q1, q2]
      refine use1 low ?_
      by_cases n1 : 97 ≤ (m : Int)
      ·simp (maxDischargeDepth := 12) (maxSteps := 1000000) -implicitDefEqProofs only [go_sem, Nat.reduceAdd, Nat.reduceSub, Nat.reduceMul, Nat.reduceLeDiff, Nat.reduceEqDiff, Nat.reduceGT, Nat.reduceBEq, reduceCtorEq, ↓reduceIte, Int.reduceToNat, Int.reduceLE, Int.reduceLT, Int.reduceNe, Int.reduceEq, n1, h16, h16u]
       refine use1 low ?_
       by_cases n2 : (m : Int) ≤ 122
       ·simp (maxDischargeDepth := 12) (maxSteps := 1000000) -implicitDefEqProofs only [go_sem, Nat.reduceAdd, Nat.reduceSub, Nat.reduceMul, Nat.reduceLeDiff, Nat.reduceEqDiff, Nat.reduceGT, Nat.reduceBEq, reduceCtorEq, ↓reduceIte, Int.reduceToNat, Int.reduceLE, Int.reduceLT, Int.reduceNe, Int.reduceEq, n2, h16, h16u]
        refine use1 low ?_
        by_cases n3 : m ≤ 102
        ·have hd : hexV a = some (m - 87) := by rw [hx, if_pos (by omega)]
         have f1 : IntKind.u8.wrap (IntKind.u8.wrap ((m : Int) - 97) + 10) = ((m - 87 : Nat) : Int) := by rw [f0]; omega
         generalize m - 87 = d at hd f1
         have hd16 := hexV_lt hd
         have e2 : ¬ ((d : Int) ≥ 16) := by omega
         have e5 : IntKind.u64.wrap (d : Int) = d := wu64 (by omega) (by omega)
         have e6 : IntKind.u64.wrap (((16 * x : Nat) : Int) + (d : Int)) = ((16 * x + d : Nat) : Int) := by rw [wu64 (by omega) (by omega)]; omega
         have e7 : ¬ (((16 * x + d : Nat) : Int) < ((16 * x : Nat) : Int)) := by omega
         have e8 : ¬ (((16 * x + d : Nat) : Int) > 255) := by omega
         simp (maxDischargeDepth := 12) (maxSteps := 1000000) -implicitDefEqProofs only [go_sem, Nat.reduceAdd, Nat.reduceSub, Nat.reduceMul, Nat.reduceLeDiff, Nat.reduceEqDiff, Nat.reduceGT, Nat.reduceBEq, reduceCtorEq, ↓reduceIte, Int.reduceToNat, Int.reduceLE, Int.reduceLT, Int.reduceNe, Int.reduceEq, f1, h16, h16u, e2, e3, e4, e5, e6, e7, e8, ek]
         exact ⟨hlt, (fin d hd).1, by have := (fin d hd).2; omega⟩
        ·have f1 : IntKind.u8.wrap (IntKind.u8.wrap ((m : Int) - 97) + 10) ≥ 16 := by rw [f0]; omega
         simp (maxDischargeDepth := 12) (maxSteps := 1000000) -implicitDefEqProofs only [go_sem, Nat.reduceAdd, Nat.reduceSub, Nat.reduceMul, Nat.reduceLeDiff, Nat.reduceEqDiff, Nat.reduceGT, Nat.reduceBEq, reduceCtorEq, ↓reduceIte, Int.reduceToNat, Int.reduceLE, Int.reduceLT, Int.reduceNe, Int.reduceEq, f1, h16, h16u]
         exact bad (by rw [hx, if_neg (by omega)])
       ·simp (maxDischargeDepth := 12) (maxSteps := 1000000) -implicitDefEqProofs only [go_sem, Nat.reduceAdd, Nat.reduceSub, Nat.reduceMul, Nat.reduceLeDiff, Nat.reduceEqDiff, Nat.reduceGT, Nat.reduceBEq, reduceCtorEq, ↓reduceIte, Int.reduceToNat, Int.reduceLE, Int.reduceLT, Int.reduceNe, Int.reduceEq, n2]
        exact bad (by rw [hx, if_neg (by omega)])
      ·simp (maxDischargeDepth := 12) (maxSteps := 1000000) -implicitDefEqProofs only [go_sem, Nat.reduceAdd, Nat.reduceSub, Nat.reduceMul, Nat.reduceLeDiff, Nat.reduceEqDiff, Nat.reduceGT, Nat.reduceBEq, reduceCtorEq, ↓reduceIte, Int.reduceToNat, Int.reduceLE, Int.reduceLT, Int.reduceNe, Int.reduceEq, n1]
       exact bad (by rw [hx, if_neg (by omega)])
   ·rw [List.take_of_length_le (by omega)] at hin ⊢
    rw [hexS_val h0 hL hin]
    exact .refl _
def KE (w0 : W0) : Prop := Kn w0 fun w => (∃ te pe, w.cell? ⟨3, 0, none⟩ = some (.iface te pe)) ∧ ∃ te pe, w.cell? ⟨4, 0, none⟩ = some (.iface te pe)
def errD (N : Nat) : DV := .ifc 113 (.v (.pointer (some ⟨N, 0, none⟩)))
theorem toErrP (w0 : W0) (hk : KE w0) (fn s : ByteArray) (b z : Int) (S : St) (hs : s.size ≤ 281474976710656) :
  ACall Tryz.prog w0 53 [dS fn, dS s, dI b, dI z, .ifc 111 (.v (.int .i64 2))] S (fun d S' => (∃ N, d = errD N) ∧ S' = S) := by
 refine acall_shelf (us := [.string fn, .string s, .int .i64 b, .int .i64 z, .iface 111 (.int .i64 2)]) (fun g vs h => ?_) fun w hw => ?_
 ·obtain ⟨u1, vs, rfl, h1, h⟩ := h.uncons
  obtain ⟨u2, vs, rfl, h2, h⟩ := h.uncons
  obtain ⟨u3, vs, rfl, h3, h⟩ := h.uncons
  obtain ⟨u4, vs, rfl, h4, h⟩ := h.uncons
  obtain ⟨u5, vs, rfl, h5, h⟩ := h.uncons
  have : vs = [] := List.eq_nil_of_length_eq_zero h.len.symm
  subst this
  rw [rep_v h1, rep_v h2, rep_v h3, rep_v h4]
  cases h5 with
  | ifc t d u h' => rw [rep_v h']
 ·obtain ⟨⟨te, pe, hc⟩, _⟩ := hk w hw
  refine (Tryz.strconv_toError_syntax fn s b z _ w hs hc (.inr ⟨te, pe, rfl⟩)).mono ?_
  rintro e w' ⟨N, rfl, _, _, hb⟩
  exact ⟨_, errD N, rfl, fun g => .ifc _ _ _ (.v _ rfl), ⟨N, rfl⟩, hb⟩
def pK (S : St) (o : Option Nat) (d : DV) (S' : St) : Prop := S' = S ∧ match o with
 | some v => d = .tup [.v (.int .u64 v), .v .nilIface]
 | none => ∃ N, d = .tup [.v (.int .u64 0), errD N]
theorem parseP (w0 : W0) (hk : KE w0) (s : ByteArray) (hs : s.size ≤ 2) (S : St) : ACall Tryz.prog w0 24 [dS s, dI 16, dI 8] S (pK S (hexS s.data.toList)) := by
 have hp := parse16 w0 s hs S
 cases hx : hexS s.data.toList with
 | some v =>
  rw [hx] at hp
  refine fnP [] mx Tryz.func24 rfl rfl (by kernel_rfl) ?_; simp (maxDischargeDepth := 12) (maxSteps := 1000000) -implicitDefEqProofs only [Tryz.ntmps24, go_sem, Nat.reduceAdd, Nat.reduceSub, Nat.reduceMul, Nat.reduceLeDiff, Nat.reduceEqDiff, Nat.reduceGT, Nat.reduceBEq, reduceCtorEq, ↓reduceIte, Int.reduceToNat, Int.reduceLE, Int.reduceLT, Int.reduceNe, Int.reduceEq]
  refine use1 hp ?_
  simp (maxDischargeDepth := 12) (maxSteps := 1000000) -implicitDefEqProofs only [go_sem, Nat.reduceAdd, Nat.reduceSub, Nat.reduceMul, Nat.reduceLeDiff, Nat.reduceEqDiff, Nat.reduceGT, Nat.reduceBEq, reduceCtorEq, ↓reduceIte, Int.reduceToNat, Int.reduceLE, Int.reduceLT, Int.reduceNe, Int.reduceEq]
  exact ⟨_, S, .refl _, .refl _, rfl, rfl⟩
 | none =>
  rw [hx] at hp
  refine fnP [] mx Tryz.func24 rfl rfl (by kernel_rfl) ?_; simp (maxDischargeDepth := 12) (maxSteps := 1000000) -implicitDefEqProofs only [Tryz.ntmps24, go_sem, Nat.reduceAdd, Nat.reduceSub, Nat.reduceMul, Nat.reduceLeDiff, Nat.reduceEqDiff, Nat.reduceGT, Nat.reduceBEq, reduceCtorEq, ↓reduceIte, Int.reduceToNat, Int.reduceLE, Int.reduceLT, Int.reduceNe, Int.reduceEq]
  refine use1 hp ?_
  simp (maxDischargeDepth := 12) (maxSteps := 1000000) -implicitDefEqProofs only [go_sem, Nat.reduceAdd, Nat.reduceSub, Nat.reduceMul, Nat.reduceLeDiff, Nat.reduceEqDiff, Nat.reduceGT, Nat.reduceBEq, reduceCtorEq, ↓reduceIte, Int.reduceToNat, Int.reduceLE, Int.reduceLT, Int.reduceNe, Int.reduceEq]
  refine useK (toErrP w0 hk _ s 16 8 S (by omega)) ?_
  rintro d S' ⟨⟨N, rfl⟩, rfl⟩
  unfold errD
  simp (maxDischargeDepth := 12) (maxSteps := 1000000) -implicitDefEqProofs only [go_sem, Nat.reduceAdd, Nat.reduceSub, Nat.reduceMul, Nat.reduceLeDiff, Nat.reduceEqDiff, Nat.reduceGT, Nat.reduceBEq, reduceCtorEq, ↓reduceIte, Int.reduceToNat, Int.reduceLE, Int.reduceLT, Int.reduceNe, Int.reduceEq]
  exact ⟨_, _, .refl _, .refl _, rfl, N, rfl⟩
theorem hexS_lt {l : List UInt8} {x : Nat} (h : hexS l = some x) : x < 256 := by
 unfold hexS at h
 split at h
 ·exact absurd h (by simp)
 ·have := hexV_lt h; omega
 ·rename_i a b
  cases ha : hexV a with
  | none => rw [ha] at h; exact absurd h (by simp)
  | some y =>
   cases hb : hexV b with
   | none => rw [ha, hb] at h; exact absurd h (by simp)
   | some z =>
    rw [ha, hb] at h
    have h1 := hexV_lt ha
    have h2 := hexV_lt hb
    have : 16 * y + z = x := by simpa using h
    omega
 ·exact absurd h (by simp)
@[go_sem] theorem n_convZ_i (a b : IntKind) (k : TK) (x : DV) (K : DV → Prop) : vConvZ (.int a) (.int b) k x K = vConv (.int a) (.int b) x K := rfl
theorem unquoteP (w0 : W0) (hu : KU w0) (hk : KE w0) (w : ByteArray) (hs : w.size ≤ 1048576) (S : St) : ACall Tryz.prog w0 9 [dS w] S (fun d S' => d = .tup [dS (tx (unP w.data.toList).1), dB (unP w.data.toList).2] ∧ S' = S) := by
 unfold unP
 rw [size_list]
 by_cases h2 : w.size < 2
 ·have a1 : (w.size : Int) < 2 := by omega
  refine fnS [] mx Tryz.func9 rfl rfl (by kernel_rfl) ?_; simp (maxDischargeDepth := 12) (maxSteps := 1000000) -implicitDefEqProofs only [Tryz.ntmps9, go_sem, Nat.reduceAdd, Nat.reduceSub, Nat.reduceMul, Nat.reduceLeDiff, Nat.reduceEqDiff, Nat.reduceGT, Nat.reduceBEq, reduceCtorEq, ↓reduceIte, Int.reduceToNat, Int.reduceLE, Int.reduceLT, Int.reduceNe, Int.reduceEq, a1, h2]
  exact .refl _
 ·have a1 : ¬ (w.size : Int) < 2 := by omega
  have hw1 : IntKind.i64.wrap ((w.size : Int) - 1) = ((w.size - 1 : Nat) : Int) := by rw [w64 (by omega) (by omega)]; omega
  refine fnS [] mx Tryz.func9 rfl rfl (by kernel_rfl) ?_; simp (maxDischargeDepth := 12) (maxSteps := 1000000) -implicitDefEqProofs only [Tryz.ntmps9, go_sem, Nat.reduceAdd, Nat.reduceSub, Nat.reduceMul, Nat.reduceLeDiff, Nat.reduceEqDiff, Nat.reduceGT, Nat.reduceBEq, reduceCtorEq, ↓reduceIte, Int.reduceToNat, Int.reduceLE, Int.reduceLT, Int.reduceNe, Int.reduceEq, a1, h2, hw1]
  generalize hM : mid w.data.toList = M
  have hMl : M.length = w.size - 2 := by rw [← hM, mid, List.length_take, List.length_drop, size_list]; omega
  have hex : w.extract 1 (w.size - 1) = tx M := by
   apply tx_ext
   rw [list_ext, tx_list, ← hM, mid, size_list, List.drop_take]
   congr 1
  refine ⟨by omega, by omega, ?_⟩
  rw [hex]
  refine growK 4 1 rfl (by omega) fun lp => ?_
  refine loopK [7, 11] [0, 4, 5] (σ := Nat × List UInt8) (fun p => [(4, .acc lp.n p.2.length), (5, dS (tx (M.drop p.1)))]) (fun p => ⟨S.box, (lp.n, .arr 1 (bL p.2)) :: S.acc⟩) (fun p => p.1 ≤ M.length ∧ up M = (up (M.drop p.1)).map (p.2 ++ ·) ∧ p.2.length ≤ p.1) (fun p => M.length - p.1) (0, []) mx (by kernel_rfl) ⟨⟨by omega, by rw [List.drop_zero]; cases up M <;> simp, by decide⟩, ?_⟩ fun p hp => ?_
  ·simp (maxDischargeDepth := 12) (maxSteps := 1000000) -implicitDefEqProofs only [go_sem, Nat.reduceAdd, Nat.reduceSub, Nat.reduceMul, Nat.reduceLeDiff, Nat.reduceEqDiff, Nat.reduceGT, Nat.reduceBEq, reduceCtorEq, ↓reduceIte, Int.reduceToNat, Int.reduceLE, Int.reduceLT, Int.reduceNe, Int.reduceEq]
  ·obtain ⟨i, bs⟩ := p
   obtain ⟨p1, p2, p3⟩ := hp
   dsimp only at p1 p2 p3
   have hbl : (bL bs).length = bs.length := bL_len bs
   have hms : maxLen = 9223372036854775807 := rfl
   simp (maxDischargeDepth := 12) (maxSteps := 1000000) -implicitDefEqProofs only [go_sem, Nat.reduceAdd, Nat.reduceSub, Nat.reduceMul, Nat.reduceLeDiff, Nat.reduceEqDiff, Nat.reduceGT, Nat.reduceBEq, reduceCtorEq, ↓reduceIte, Int.reduceToNat, Int.reduceLE, Int.reduceLT, Int.reduceNe, Int.reduceEq, hbl]
   refine ⟨fun h => ?_, fun h => ?_⟩
   ·rw [tx_list] at h
    rw [h, up_nil, Option.map_some, List.append_nil] at p2
    refine ⟨(by_bL bs).2, ?_⟩
    rw [str_bL]
    refine use1 (quoteP w0 hu (tx bs) (by rw [tx_size]; omega) _) ?_
    rw [tx_list]
    simp (maxDischargeDepth := 12) (maxSteps := 1000000) -implicitDefEqProofs only [go_sem, Nat.reduceAdd, Nat.reduceSub, Nat.reduceMul, Nat.reduceLeDiff, Nat.reduceEqDiff, Nat.reduceGT, Nat.reduceBEq, reduceCtorEq, ↓reduceIte, Int.reduceToNat, Int.reduceLE, Int.reduceLT, Int.reduceNe, Int.reduceEq, tx_list]
    rw [if_neg h2, p2]
    refine ⟨fun h5 => ?_, fun h5 => ?_⟩
    ·dsimp only; rw [if_pos h5]; exact .refl _
    ·dsimp only; rw [if_neg h5]; exact .refl _
   ·rw [tx_list] at h
    have hil : i < M.length := by
     rcases Nat.lt_or_ge i M.length with h3 | h3
     ·exact h3
     ·exact absurd (List.drop_of_length_le h3) h
    have hd : M.drop i = M[i] :: M.drop (i + 1) := List.drop_eq_getElem_cons hil
    have hsz : (tx (M.drop i)).size = (M.drop i).length := tx_size _
    have hdl : (M.drop i).length = M.length - i := List.length_drop
    refine ⟨by omega, fun c hc => ?_⟩
    have hce : M[i] = c := by rw [tx_list, hd] at hc; exact Option.some.inj hc
    rw [hce] at hd
    have hx1 : ∀ j, (tx (M.drop i)).extract j (tx (M.drop i)).size = tx (M.drop (i + j)) := by
     intro j
     apply tx_ext
     rw [list_ext, tx_list, tx_list, hsz, List.take_length, List.drop_drop]
    have push : ∀ (x : UInt8) (j : Nat), 1 ≤ j → i + j ≤ M.length ∨ M.drop (i + j) = [] → up (M.drop i) = (up (M.drop (i + j))).map (x :: ·) → ∃ s' : Nat × List UInt8, (s'.fst ≤ M.length ∧ up M = Option.map (fun x => s'.snd ++ x) (up (List.drop s'.fst M)) ∧ s'.snd.length ≤ s'.fst) ∧ M.length - s'.fst < M.length - i ∧ s'.snd = bs ++ [x] ∧ tx (M.drop (i + j)) = tx (M.drop s'.fst) := by
     intro x j hj hb hu
     have e1 : up M = (up (M.drop (i + j))).map ((bs ++ [x]) ++ ·) := by
      rw [p2, hu]
      cases up (M.drop (i + j)) <;> simp
     rcases hb with hb | hb
     ·exact ⟨(i + j, bs ++ [x]), ⟨hb, e1, by simp; omega⟩, by dsimp only; omega, rfl, rfl⟩
     ·refine ⟨(M.length, bs ++ [x]), ⟨Nat.le_refl _, ?_, by simp; omega⟩, by dsimp only; omega, rfl, ?_⟩
      ·rw [e1, hb, List.drop_length]
      ·rw [hb, List.drop_length]
    refine ⟨fun h37 => ?_, fun h37 => ?_⟩
    ·have hc37 : c ≠ 37 := fun e => h37 (by rw [e]; rfl)
     refine Y.ordK [] [4] [0, 1, 2, 3, 5, 6, 4, 7, 8] mx (by kernel_rfl) ?_
     simp (maxDischargeDepth := 12) (maxSteps := 1000000) -implicitDefEqProofs only [go_sem, Nat.reduceAdd, Nat.reduceSub, Nat.reduceMul, Nat.reduceLeDiff, Nat.reduceEqDiff, Nat.reduceGT, Nat.reduceBEq, reduceCtorEq, ↓reduceIte, Int.reduceToNat, Int.reduceLE, Int.reduceLT, Int.reduceNe, Int.reduceEq, hbl]
     refine ⟨by omega, fun c' hc' => ⟨by omega, by omega, by omega, ?_⟩⟩
     obtain rfl : c = c' := by rw [hc] at hc'; exact Option.some.inj hc'
     obtain ⟨s', q1, q2, q3, q4⟩ := push c 1 (Nat.le_refl _) (.inl (by omega)) (by rw [hd, up_cons, if_pos hc37])
     exact ⟨s', q1, q2, ⟨by rw [q3, List.length_append]; exact .refl _, by rw [hx1]; exact q4⟩, by rw [q3, List.map_append]; exact .refl _⟩
    ·have hmin : (if ((tx (M.drop i)).size : Int) < 3 then ((tx (M.drop i)).size : Int) else 3) = ((min (M.drop i).length 3 : Nat) : Int) := by rw [hsz]; split <;> omega
     rw [hmin]
     have hxt : (tx (M.drop i)).extract 1 ((min (M.drop i).length 3 : Nat) : Int).toNat = tx ((M.drop (i + 1)).take 2) := by
      apply tx_ext
      rw [list_ext, tx_list, tx_list, Int.toNat_natCast, List.drop_take, hd, List.drop_succ_cons, List.drop_zero]
      have e : (M.drop (i + 1)).length = M.length - (i + 1) := List.length_drop
      rcases Nat.lt_or_ge (M.drop (i + 1)).length 2 with h3 | h3
      ·rw [List.take_of_length_le (by simp only [List.length_cons]; omega), List.take_of_length_le (by omega)]
      ·congr 1; simp only [List.length_cons]; omega
     rw [hxt]
     refine ⟨by omega, by omega, ?_⟩
     have hp := parseP w0 hk (tx ((M.drop (i + 1)).take 2)) (by rw [tx_size, List.length_take]; omega) ⟨S.box, (lp.n, .arr 1 (List.map (fun c => DV.v (.int .u8 (c.toNat : Nat))) bs)) :: S.acc⟩
     rw [tx_list] at hp
     have hc37 : ¬ (c ≠ 37) := fun e => h37 fun e2 => e (by rw [← UInt8.toNat_inj]; show c.toNat = 37; omega)
     cases hx : hexS ((M.drop (i + 1)).take 2) with
     | none =>
      rw [hx] at hp
      have hun : up M = none := by rw [p2, hd, up_cons, if_neg hc37, hx]; rfl
      refine useK hp fun d S' q => ?_
      refine Exists.elim q.2 fun N hN => ?_
      rw [q.1, hN]
      unfold errD
      simp (maxDischargeDepth := 12) (maxSteps := 1000000) -implicitDefEqProofs only [go_sem, Nat.reduceAdd, Nat.reduceSub, Nat.reduceMul, Nat.reduceLeDiff, Nat.reduceEqDiff, Nat.reduceGT, Nat.reduceBEq, reduceCtorEq, ↓reduceIte, Int.reduceToNat, Int.reduceLE, Int.reduceLT, Int.reduceNe, Int.reduceEq]
      rw [if_neg h2, hun]
      exact .refl _
     | some x =>
      rw [hx] at hp
      have hun : up (M.drop i) = (up (M.drop (i + 3))).map (UInt8.ofNat x :: ·) := by
       rw [hd, up_cons, if_neg hc37, hx, Option.bind_some, List.drop_drop]
      refine use1 (hp.mono fun d S' q => ⟨q.2, q.1⟩) ?_
      simp (maxDischargeDepth := 12) (maxSteps := 1000000) -implicitDefEqProofs only [go_sem, Nat.reduceAdd, Nat.reduceSub, Nat.reduceMul, Nat.reduceLeDiff, Nat.reduceEqDiff, Nat.reduceGT, Nat.reduceBEq, reduceCtorEq, ↓reduceIte, Int.reduceToNat, Int.reduceLE, Int.reduceLT, Int.reduceNe, Int.reduceEq]
      refine Y.ordK [] [4] [0, 1, 2, 3, 5, 6, 7, 8, 9, 4, 10, 11] mx (by kernel_rfl) ?_
      simp (maxDischargeDepth := 12) (maxSteps := 1000000) -implicitDefEqProofs only [go_sem, Nat.reduceAdd, Nat.reduceSub, Nat.reduceMul, Nat.reduceLeDiff, Nat.reduceEqDiff, Nat.reduceGT, Nat.reduceBEq, reduceCtorEq, ↓reduceIte, Int.reduceToNat, Int.reduceLE, Int.reduceLT, Int.reduceNe, Int.reduceEq, hbl]
      have hx256 : x < 256 := hexS_lt hx
      refine ⟨?_, by omega, by omega, by omega, ?_⟩
      ·rw [hmin]; omega
      obtain ⟨s', q1, q2, q3, q4⟩ := push (UInt8.ofNat x) 3 (by omega) (by
       rcases Nat.lt_or_ge M.length (i + 3) with h3 | h3
       ·exact .inr (List.drop_of_length_le (by omega))
       ·exact .inl h3) hun
      refine ⟨s', q1, q2, ⟨by rw [q3, List.length_append]; exact .refl _, ?_⟩, ?_⟩
      ·rw [hmin, ← q4]
       apply tx_ext
       rw [list_ext, tx_list, tx_list, hsz, List.take_length, List.drop_drop, Int.toNat_natCast]
       rcases Nat.lt_or_ge (M.drop i).length 3 with h3 | h3
       ·rw [List.drop_of_length_le (by omega), List.drop_of_length_le (by omega)]
       ·rw [Nat.min_eq_right h3]
      ·rw [q3, List.map_append]
       have ew : IntKind.u8.wrap (x : Nat) = ((UInt8.ofNat x).toNat : Int) := by
        rw [UInt8.toNat_ofNat', wu8 (by omega) (by omega)]; omega
       rw [ew]; exact .refl _
def dd (u : Nat) : List UInt8 := if u = 0 then [] else Lib.decDigits u
theorem dd_step {u : Nat} (h : u ≠ 0) : dd u = dd (u / 10) ++ [UInt8.ofNat (48 + u % 10)] := by
 unfold dd
 rw [if_neg h, Lib.decDigits]
 split
 ·rw [if_pos (by omega), Nat.mod_eq_of_lt (by assumption)]; rfl
 ·rw [if_neg (by omega)]
theorem quo10 (x : Int) : (x.tdiv 10 = ((x.natAbs / 10 : Nat) : Int) ∧ x.tmod 10 = ((x.natAbs % 10 : Nat) : Int) ∧ 0 ≤ x) ∨ (x.tdiv 10 = -((x.natAbs / 10 : Nat) : Int) ∧ x.tmod 10 = -((x.natAbs % 10 : Nat) : Int) ∧ x < 0) := by
 rcases Int.natAbs_eq x with h | h
 ·left
  refine ⟨?_, ?_, by omega⟩
  ·conv => lhs; rw [h]
   rfl
  ·conv => lhs; rw [h]
   rfl
 ·by_cases h0 : x = 0
  ·subst h0; left; decide
  ·right
   refine ⟨?_, ?_, by omega⟩
   ·conv => lhs; rw [h, Int.neg_tdiv]
    rfl
   ·conv => lhs; rw [h, Int.neg_tmod]
    rfl
theorem numberR (w0 : W0) (n : Int) (h0 : -9223372036854775808 ≤ n) (h1 : n ≤ 9223372036854775807) (S : St) : ACall Tryz.prog w0 51 [dI n] S (fun d S' => d = dS (tx (Lib.itoa n)) ∧ S' = S) := by
 refine fnS [] mx Tryz.func51 rfl rfl (by kernel_rfl) ?_; simp (maxDischargeDepth := 12) (maxSteps := 1000000) -implicitDefEqProofs only [Tryz.ntmps51, go_sem, Nat.reduceAdd, Nat.reduceSub, Nat.reduceMul, Nat.reduceLeDiff, Nat.reduceEqDiff, Nat.reduceGT, Nat.reduceBEq, reduceCtorEq, ↓reduceIte, Int.reduceToNat, Int.reduceLE, Int.reduceLT, Int.reduceNe, Int.reduceEq]
 refine ⟨fun hz => ?_, fun hz => ?_⟩
 ·rw [hz, show Lib.itoa 0 = [48] by unfold Lib.itoa; rw [if_neg (by decide), Lib.decDigits]; rfl]; exact .refl _
 refine loopK [] [0, 3, 4] (σ := Int × List UInt8) (fun p => [(3, dS (tx p.2)), (4, dI p.1)]) (fun _ => S) (fun p => dd p.1.natAbs ++ p.2 = dd n.natAbs ∧ p.1.natAbs ≤ n.natAbs ∧ (p.1.natAbs ≠ 0 → 2 * p.2.length + p.1.natAbs ≤ n.natAbs) ∧ 2 * p.2.length ≤ n.natAbs + 1) (fun p => p.1.natAbs) (n, []) mx (by kernel_rfl) ⟨⟨by simp, Nat.le_refl _, fun _ => by simp, by simp⟩, ?_⟩ fun p hp => ?_
 ·simp (maxDischargeDepth := 12) (maxSteps := 1000000) -implicitDefEqProofs only [go_sem, Nat.reduceAdd, Nat.reduceSub, Nat.reduceMul, Nat.reduceLeDiff, Nat.reduceEqDiff, Nat.reduceGT, Nat.reduceBEq, reduceCtorEq, ↓reduceIte, Int.reduceToNat, Int.reduceLE, Int.reduceLT, Int.reduceNe, Int.reduceEq]
  trivial
 ·obtain ⟨x, s⟩ := p
  obtain ⟨p1, p2, p3, p4⟩ := hp
  dsimp only at p1 p2 p3 p4
  simp (maxDischargeDepth := 12) (maxSteps := 1000000) -implicitDefEqProofs only [go_sem, Nat.reduceAdd, Nat.reduceSub, Nat.reduceMul, Nat.reduceLeDiff, Nat.reduceEqDiff, Nat.reduceGT, Nat.reduceBEq, reduceCtorEq, ↓reduceIte, Int.reduceToNat, Int.reduceLE, Int.reduceLT, Int.reduceNe, Int.reduceEq]
  have hx0 : -9223372036854775808 ≤ x := by omega
  have hQ := quo10 x
  generalize x.tdiv 10 = xq at *
  generalize x.tmod 10 = xr at *
  have hq : IntKind.i64.wrap (xq) = xq := w64 (by omega) (by omega)
  have hqn : (xq).natAbs = x.natAbs / 10 := by omega
  have step : x ≠ 0 → ∀ m : Int, IntKind.u8.wrap m = ((48 + x.natAbs % 10 : Nat) : Int) →
    okBy [DV.v (Value.int .u8 (IntKind.u8.wrap m))] = true ∧ (strOfNums (byD [DV.v (Value.int .u8 (IntKind.u8.wrap m))])).size + (tx s).size ≤ 9223372036854775807 ∧
    ∃ s' : Int × List UInt8, (dd s'.fst.natAbs ++ s'.snd = dd n.natAbs ∧ s'.fst.natAbs ≤ n.natAbs ∧ (¬s'.fst.natAbs = 0 → 2 * s'.snd.length + s'.fst.natAbs ≤ n.natAbs) ∧ 2 * s'.snd.length ≤ n.natAbs + 1) ∧ s'.fst.natAbs < x.natAbs ∧
     strOfNums (byD [DV.v (Value.int .u8 (IntKind.u8.wrap m))]) ++ tx s = tx s'.snd ∧ IntKind.i64.wrap (xq) = s'.fst := by
   intro hx m hm
   have hc : ((48 + x.natAbs % 10 : Nat) : Int) = ((UInt8.ofNat (48 + x.natAbs % 10)).toNat : Nat) := by rw [UInt8.toNat_ofNat']; omega
   rw [hm, hc]
   have e := str_bL [UInt8.ofNat (48 + x.natAbs % 10)]
   have e2 := (by_bL [UInt8.ofNat (48 + x.natAbs % 10)]).2
   simp only [List.map_cons, List.map_nil] at e e2
   have hp3 := p3 (by omega)
   refine ⟨e2, ?_, (xq, UInt8.ofNat (48 + x.natAbs % 10) :: s), ⟨?_, ?_, ?_, ?_⟩, ?_, ?_, hq⟩
   ·rw [e, tx_size, tx_size]; simp; omega
   ·rw [← p1, dd_step (u := x.natAbs) (by omega), hqn]; simp
   ·rw [hqn]; omega
   ·dsimp only; rw [hqn, List.length_cons]; omega
   ·dsimp only; rw [List.length_cons]; omega
   ·dsimp only; rw [hqn]; omega
   ·rw [e, tx_app]; rfl
  refine ⟨fun hx => ⟨fun hm => step hx _ ?_, fun hm => step hx _ ?_⟩, fun hx => ?_⟩
  ·rw [show IntKind.i64.wrap (0 - xr) = 0 - xr from w64 (by omega) (by omega), show IntKind.i64.wrap (48 + (0 - xr)) = 48 + (0 - xr) from w64 (by omega) (by omega), wu8 (by omega) (by omega)]
   omega
  ·rw [show IntKind.i64.wrap (48 + xr) = 48 + xr from w64 (by omega) (by omega), wu8 (by omega) (by omega)]
   omega
  ·obtain rfl : x = 0 := Decidable.not_not.1 hx
   have e : s = dd n.natAbs := by rw [← p1]; rfl
   unfold dd at e
   rw [if_neg (by omega)] at e
   refine ⟨fun hn => ⟨by rw [tx_size]; omega, ?_⟩, fun hn => ?_⟩
   ·show tx [45] ++ tx s = _
    rw [tx_app, Lib.itoa, if_pos hn, e]; rfl
   ·rw [Lib.itoa, if_neg hn, e, show n.natAbs = n.toNat by omega]
theorem dec_all (u : Nat) : ∀ c, c ∈ Lib.decDigits u → 48 ≤ c.toNat ∧ c.toNat ≤ 57 := by
 induction u using Nat.strongRecOn with
 | _ u ih =>
  intro c hc
  rw [Lib.decDigits] at hc
  split at hc
  ·obtain rfl := List.mem_singleton.1 hc
   rw [UInt8.toNat_ofNat']; omega
  ·rcases List.mem_append.1 hc with h | h
   ·exact ih _ (by omega) c h
   ·obtain rfl := List.mem_singleton.1 h
    rw [UInt8.toNat_ofNat']; omega
theorem dec_ne (u : Nat) : Lib.decDigits u ≠ [] := by
 rw [Lib.decDigits]
 split
 ·simp
 ·simp
theorem parse_app : ∀ (l : List UInt8) (acc m : Nat) (t : List UInt8), Lib.parseUint10 acc l = .ok m → Lib.parseUint10 acc (l ++ t) = Lib.parseUint10 m t
 | [], acc, m, t, h => by simp only [Lib.parseUint10] at h; injection h with h; rw [h]; rfl
 | c :: r, acc, m, t, h => by
  simp only [Lib.parseUint10, List.cons_append] at h ⊢
  split at h
  ·rw [if_pos (by assumption)]
   split at h
   ·cases h
   ·rw [if_neg (by assumption)]
    split at h
    ·cases h
    ·rw [if_neg (by assumption)]
     exact parse_app r _ m t h
  ·cases h
theorem parse_dec (u : Nat) (h : u < 18446744073709551616) : Lib.parseUint10 0 (Lib.decDigits u) = .ok u := by
 induction u using Nat.strongRecOn with
 | _ u ih =>
  rw [Lib.decDigits]
  split
  ·have e : (UInt8.ofNat (48 + u)).toNat = 48 + u := by rw [UInt8.toNat_ofNat']; omega
   simp only [Lib.parseUint10, e]
   rw [if_pos (by omega), if_neg (by omega), if_neg (by omega)]
   congr 1; omega
  ·rw [parse_app _ _ _ _ (ih (u / 10) (by omega) (by omega))]
   have e : (UInt8.ofNat (48 + u % 10)).toNat = 48 + u % 10 := by rw [UInt8.toNat_ofNat']; omega
   simp only [Lib.parseUint10, e]
   rw [if_pos (by omega), if_neg (by omega), if_neg (by omega)]
   congr 1; omega
theorem mag_dec (u : Nat) (h : u < 18446744073709551616) : Lib.parseMag (Lib.decDigits u) = .ok u := by
 unfold Lib.parseMag
 rw [if_neg (dec_ne u), parse_dec u h]
theorem atoi_itoa (n : Int) (h0 : -9223372036854775808 ≤ n) (h1 : n ≤ 9223372036854775807) : Lib.atoiAll (Lib.itoa n) = .ok n := by
 unfold Lib.itoa
 split
 ·simp only [Lib.atoiAll]
  rw [if_pos (by decide), mag_dec _ (by omega)]
  dsimp only
  rw [if_neg (by simp), if_neg (by omega)]
  simp; omega
 ·have hm := mag_dec n.toNat (by omega)
  have hd := dec_all n.toNat
  cases hl : Lib.decDigits n.toNat with
  | nil => exact absurd hl (dec_ne _)
  | cons c r =>
   rw [hl] at hm hd
   have := hd c List.mem_cons_self
   simp only [Lib.atoiAll]
   rw [if_neg (by omega), hm]
   dsimp only
   rw [if_neg (by omega), if_neg (by omega), if_neg (by omega)]
   congr 1; omega
def nms : List (List UInt8) := [[111, 112, 101, 110], [99, 108, 111, 115, 101], [98, 101, 103, 105, 110], [99, 111, 109, 109, 105, 116], [114, 111, 108, 108, 98, 97, 99, 107], [109, 97, 107, 101], [100, 114, 111, 112], [112, 117, 116], [100, 101, 108, 101, 116, 101], [103, 101, 116], [115, 99, 97, 110], [115, 110, 97, 112], [117, 110, 115, 110, 97, 112], [99, 111, 117, 110, 116], [97, 117, 100, 105, 116], [100, 101, 99, 108, 97, 115, 115, 105, 102, 121], [99, 114, 97, 115, 104]]
def nm (k : Int) : List UInt8 := if 0 ≤ k ∧ k < 17 then nms.getD k.toNat [] else []
def nmV : List Value := nms.map fun l => .string (tx l)
def GlobN (w0 : W0) : Prop := GlobIs w0 0 nmV
theorem nm_get (k : Int) (h0 : 0 ≤ k) (h1 : k < 17) : nmV[k.toNat]? = some (.string (tx (nm k))) := by
 unfold nm nmV
 have hk2 : k.toNat < nms.length := by show k.toNat < 17; omega
 rw [if_pos ⟨h0, h1⟩, List.getElem?_map, List.getD_eq_getElem?_getD, List.getElem?_eq_getElem hk2]; rfl
theorem nm_at (k : Int) (h0 : 0 ≤ k) (h1 : k < 17) : nmV.drop (k.toNat * 1) = .string (tx (nm k)) :: nmV.drop (k.toNat + 1) := by
 obtain ⟨h2, h3⟩ := List.getElem?_eq_some_iff.1 (nm_get k h0 h1)
 rw [Nat.mul_one, List.drop_eq_getElem_cons h2, h3]
theorem nameP (w0 : W0) (hg : GlobN w0) (k : Int) (S : St) : ACall Tryz.prog w0 32 [dI k] S (fun d S' => d = dS (tx (nm k)) ∧ S' = S) := by
 have hG := globK_of hg
 refine fnS [] mx Tryz.func32 rfl rfl (by kernel_rfl) ?_; simp (maxDischargeDepth := 12) (maxSteps := 1000000) -implicitDefEqProofs only [Tryz.ntmps32, go_sem, Nat.reduceAdd, Nat.reduceSub, Nat.reduceMul, Nat.reduceLeDiff, Nat.reduceEqDiff, Nat.reduceGT, Nat.reduceBEq, reduceCtorEq, ↓reduceIte, Int.reduceToNat, Int.reduceLE, Int.reduceLT, Int.reduceNe, Int.reduceEq, hG]
 have e0 : ∀ h : ¬ (0 ≤ k ∧ k < 17), tx (nm k) = ⟨#[]⟩ := by intro h; unfold nm; rw [if_neg h]; rfl
 refine ⟨fun h => ?_, fun h => ⟨fun h2 => ?_, fun h2 => ?_⟩⟩
 ·rw [e0 (by omega)]
 ·rw [e0 (by omega)]
 ·have hl : nmV.length = 17 := rfl
  refine ⟨by omega, by omega, by omega, ?_⟩
  rw [nm_at k (by omega) (by omega)]
  simp (maxDischargeDepth := 12) (maxSteps := 1000000) -implicitDefEqProofs only [go_sem, Nat.reduceAdd, Nat.reduceSub, Nat.reduceMul, Nat.reduceLeDiff, Nat.reduceEqDiff, Nat.reduceGT, Nat.reduceBEq, reduceCtorEq, ↓reduceIte, Int.reduceToNat, Int.reduceLE, Int.reduceLT, Int.reduceNe, Int.reduceEq]
theorem nameR (w0 : W0) (k : Int) (S : St) : ACall Tryz.prog w0 16 [dI k] S (fun d S' => d = dS (tx (nm k)) ∧ S' = S) := by
 have hn : ACall Tryz.prog w0 43 [] S (fun d S' => d = .sl 1 true (nmV.map DV.v) ∧ S' = S) := by
  refine fnS [] mx Tryz.func43 rfl rfl (by kernel_rfl) ?_; simp (maxDischargeDepth := 12) (maxSteps := 1000000) -implicitDefEqProofs only [Tryz.ntmps43, go_sem, Nat.reduceAdd, Nat.reduceSub, Nat.reduceMul, Nat.reduceLeDiff, Nat.reduceEqDiff, Nat.reduceGT, Nat.reduceBEq, reduceCtorEq, ↓reduceIte, Int.reduceToNat, Int.reduceLE, Int.reduceLT, Int.reduceNe, Int.reduceEq]
  exact .refl _
 have e0 : ∀ h : ¬ (0 ≤ k ∧ k < 17), tx (nm k) = ⟨#[]⟩ := by intro h; unfold nm; rw [if_neg h]; rfl
 have hl : (nmV.map DV.v).length = 17 := rfl
 refine fnS [] mx Tryz.func16 rfl rfl (by kernel_rfl) ?_; simp (maxDischargeDepth := 12) (maxSteps := 1000000) -implicitDefEqProofs only [Tryz.ntmps16, go_sem, Nat.reduceAdd, Nat.reduceSub, Nat.reduceMul, Nat.reduceLeDiff, Nat.reduceEqDiff, Nat.reduceGT, Nat.reduceBEq, reduceCtorEq, ↓reduceIte, Int.reduceToNat, Int.reduceLE, Int.reduceLT, Int.reduceNe, Int.reduceEq]
 refine use1 hn ?_
 simp (maxDischargeDepth := 12) (maxSteps := 1000000) -implicitDefEqProofs only [go_sem, Nat.reduceAdd, Nat.reduceSub, Nat.reduceMul, Nat.reduceLeDiff, Nat.reduceEqDiff, Nat.reduceGT, Nat.reduceBEq, reduceCtorEq, ↓reduceIte, Int.reduceToNat, Int.reduceLE, Int.reduceLT, Int.reduceNe, Int.reduceEq, hl]
 refine ⟨fun h => by rw [e0 (by omega)], fun h => ⟨fun h2 => by rw [e0 (by omega)], fun h2 => ⟨by omega, by omega, fun a ha => ?_⟩⟩⟩
 rw [nm_get k (by omega) (by omega)] at ha
 cases ha
 exact .refl _
def KP (w0 : W0) : Prop := Kn w0 fun w => Lib.TabIs Tryz.prog w "internal/strconv.uint64pow10" .u64 Lib.pow10Tab
def KM (w0 : W0) : Prop := Kn w0 fun w => ∃ m, w.cell? ⟨5, 0, none⟩ = some (.int .i64 m)
theorem itoaP (w0 : W0) (hp : KP w0) (n : Int) (h0 : -9223372036854775808 ≤ n) (h1 : n ≤ 9223372036854775807) (S : St) : ACall Tryz.prog w0 49 [dI n] S (fun d S' => d = dS (tx (Lib.itoa n)) ∧ S' = S) :=
 acall_shelf1 (us := [.int .i64 n]) (fun g => .v _ rfl) fun w hw => (Tryz.strconv_Itoa n h0 h1 w (hp w hw)).mono fun e w' h => by
  obtain ⟨rfl, k, os, rfl⟩ := h
  exact ⟨rfl, ⟨rfl, rfl, rfl, by simp [Sort.grow, World.drewN, Array.size_append], fun k hk => by
   show (w.heap ++ os)[k]? = w.heap[k]?
   exact Array.getElem?_append_left hk⟩⟩
theorem cutP (w0 : W0) (hm : KM w0) (s sep : ByteArray) (hs : s.size < 4294967281) (S : St) : ACall Tryz.prog w0 41 [dS s, dS sep] S (fun d S' => d = .tup [dS (tx (Lib.cut s.data.toList sep.data.toList).1), dS (tx (Lib.cut s.data.toList sep.data.toList).2.1), dB (Lib.cut s.data.toList sep.data.toList).2.2] ∧ S' = S) :=
 acall_shelf1 (us := [.string s, .string sep]) (fun g => rep_tup3 (.v _ rfl) (.v _ rfl) (.v _ rfl)) fun w hw => by
  obtain ⟨m, hc⟩ := hm w hw
  refine (Tryz.strings_Cut s sep m w hs hc).mono fun e w' h => ?_
  obtain ⟨rfl, n, rfl⟩ := h
  exact ⟨rfl, ⟨rfl, rfl, rfl, Nat.le_refl _, fun _ _ => rfl⟩⟩
def atV (l : List UInt8) : Int := match Lib.atoiAll l with
 | Lib.NumEnd.ok v => v
 | Lib.NumEnd.range => Lib.atoiSat l
 | _ => 0
theorem atV_itoa (n : Int) (h0 : -9223372036854775808 ≤ n) (h1 : n ≤ 9223372036854775807) : atV (Lib.itoa n) = n := by
 unfold atV; rw [atoi_itoa n h0 h1]
theorem atV_in (l : List UInt8) : -9223372036854775808 ≤ atV l ∧ atV l ≤ 9223372036854775807 := by
 unfold atV
 rcases h : Lib.atoiAll l with v | _ | _
 ·dsimp only
  cases l with
  | nil => simp [Lib.atoiAll] at h
  | cons c r =>
   simp only [Lib.atoiAll] at h
   rcases hm : Lib.parseMag (if c.toNat = 43 ∨ c.toNat = 45 then r else c :: r) with u | _ | _
   ·rw [hm] at h
    dsimp only at h
    split at h
    ·cases h
    ·split at h
     ·cases h
     ·injection h with h
      subst h
      split <;> omega
   ·rw [hm] at h; cases h
   ·rw [hm] at h; cases h
 ·exact ⟨by dsimp only; omega, by dsimp only; omega⟩
 ·dsimp only; unfold Lib.atoiSat; split <;> decide
theorem atoiP (w0 : W0) (hk : KE w0) (s : ByteArray) (hs : s.size ≤ 1048576) (S : St) : ACall Tryz.prog w0 85 [dS s] S (fun d S' => (∃ e, d = .tup [dI (atV s.data.toList), e] ∧ (e = .v .nilIface ∨ ∃ N, e = errD N)) ∧ S' = S) := by
 refine acall_shelf (us := [.string s]) (reps_v [_]) fun w hw => ?_
 obtain ⟨⟨te, pe, h3⟩, ⟨te2, pe2, h4⟩⟩ := hk w hw
 unfold atV
 rcases h : Lib.atoiAll s.data.toList with v | _ | _
 ·refine (Tryz.strconv_Atoi_ok s (by omega) v h w).mono ?_
  rintro e w' ⟨rfl, hb⟩
  refine ⟨_, .tup [dI v, .v .nilIface], rfl, fun g => rep_tup2 (.v _ rfl) (.v _ rfl), ⟨_, rfl, .inl rfl⟩, ?_⟩
  rcases hb with rfl | ⟨t, rfl⟩
  ·exact .refl _ _
  ·exact Lib.bytesWorld_below _ _ _
 ·refine (Tryz.strconv_Atoi_syntax s (by omega) h _ w h3 (.inr ⟨te, pe, rfl⟩)).mono ?_
  rintro e w' ⟨N, rfl, _, _, hb⟩
  exact ⟨_, .tup [dI 0, errD N], rfl, fun g => rep_tup2 (.v _ rfl) (.ifc _ _ _ (.v _ rfl)), ⟨_, rfl, .inr ⟨N, rfl⟩⟩, hb⟩
 ·refine (Tryz.strconv_Atoi_range s (by omega) h _ w h4 (.inr ⟨te2, pe2, rfl⟩)).mono ?_
  rintro e w' ⟨N, rfl, _, _, hb⟩
  exact ⟨_, .tup [dI (Lib.atoiSat s.data.toList), errD N], rfl, fun g => rep_tup2 (.v _ rfl) (.ifc _ _ _ (.v _ rfl)), ⟨_, rfl, .inr ⟨N, rfl⟩⟩, hb⟩
end Go.Proofs.YtldimfofkbomnaaGreatDoor
