/-
  Less is said of a value than is known: at calls, at results, at loops. By an AI agent.
-/
import Derived.Test.YtkibkahknibgfaaA22
namespace Aml
open Go Go.RowKit
set_option linter.unusedVariables false
set_option linter.unusedSimpArgs false

/-- What is d is e, too. -/
def Wk (d e : DV) : Prop := ∀ g u, Rep g d u → Rep g e u
def WkL : List DV → List DV → Prop
  | [], [] => True
  | d :: ds, e :: es => Wk d e ∧ WkL ds es
  | _, _ => False
theorem Wk.refl (d : DV) : Wk d d := fun _ _ h => h
theorem Wk.trans {a b c : DV} (h : Wk a b) (k : Wk b c) : Wk a c := fun g u r => k g u (h g u r)
theorem Wk.any (d : DV) : Wk d .any := fun g u _ => .any u
theorem Wk.nil (s s' : Nat) (f : Bool) : Wk (.sl s true []) (.sl s' f []) := fun g u r => by
  obtain ⟨o, h⟩ := rep_full_nil r
  rw [h]; exact .nil _ _ _ _ fun _ => rfl
theorem Wk.nilF (s s' : Nat) (f : Bool) : Wk (.sl s f []) (.sl s' false []) := fun g u r => by
  rcases rep_sl r with ⟨_, o', c, hv, hf⟩ | ⟨b, o', c', us, hv', hl, _⟩
  · rw [hv]; exact .nil _ _ _ _ (by simp)
  · have : us = [] := List.eq_nil_of_length_eq_zero (by have := hl.len; simpa using this.symm)
    rw [hv']; exact .nil _ _ _ _ (by simp)
theorem Wk.full (s : Nat) (f : Bool) (xs : List DV) : Wk (.sl s f xs) (.sl s false xs) := fun g u r => by
  cases r with
  | nil _ _ o c hc => exact .nil _ _ _ _ (by simp)
  | sl _ _ _ b o c us hl hf hc hm hr hz h1 hi => exact .sl _ _ _ _ _ _ us hl (by simp) hc hm hr hz h1 hi
theorem WkL.refl : ∀ ds, WkL ds ds
  | [] => trivial
  | d :: ds => ⟨.refl d, WkL.refl ds⟩
theorem WkL.spec : ∀ {ds es : List DV}, WkL ds es → ∀ {g : Gh} {us : List Value}, RepL g ds us → RepL g es us
  | [], [], _, _, _, r => r
  | d :: ds, e :: es, h, g, us, r => by
    obtain ⟨u, us', rfl, r1, r2⟩ := r.uncons
    exact RepL.cons (h.1 _ _ r1) (WkL.spec h.2 r2)
theorem WkL.length : ∀ {ds es : List DV}, WkL ds es → ds.length = es.length
  | [], [], _ => rfl
  | d :: ds, e :: es, h => by simp [WkL.length h.2]
theorem WkL.trans : ∀ {a b c : List DV}, WkL a b → WkL b c → WkL a c
  | [], [], [], _, _ => trivial
  | _ :: _, _ :: _, _ :: _, h, k => ⟨h.1.trans k.1, h.2.trans k.2⟩
theorem Wk.agg {ds es : List DV} (h : WkL ds es) : Wk (.agg ds) (.agg es) := fun g u r => by
  cases r with
  | agg _ us hl hr h1 =>
    have := h.spec (g := g) (us := us) ⟨hl, hr⟩
    exact .agg _ _ this.len this.at_ h1
theorem Wk.tup {ds es : List DV} (h : WkL ds es) : Wk (.tup ds) (.tup es) := fun g u r => by
  cases r with
  | tup _ us hl hr =>
    have := h.spec (g := g) (us := us) ⟨hl, hr⟩
    exact .tup _ _ this.len this.at_
theorem Wk.ifc {t : TypeId} {d e : DV} (h : Wk d e) : Wk (.ifc t d) (.ifc t e) := fun g u r => by
  cases r with
  | ifc _ _ u r => exact .ifc _ _ _ (h _ _ r)
/-- Elements, too. -/
theorem Wk.sl {s : Nat} {f : Bool} {xs ys : List DV} (h : WkL xs ys) : Wk (.sl s f xs) (.sl s f ys) := fun g u r => by
  cases r with
  | nil _ _ o c hc =>
    cases ys with
    | nil => exact .nil _ _ _ _ hc
    | cons y ys => exact h.elim
  | sl _ _ _ b o c us hl hf hc hm hr hz h1 hi =>
    have := h.spec (g := g) (us := us) ⟨hl, hr⟩
    exact .sl _ _ _ _ _ _ us this.len hf hc hm this.at_ hz h1 hi
theorem Wk_tup {ds es : List DV} (h : WkL ds es) : Wk (.tup ds) (.tup es) = True := eq_true (Wk.tup h)
theorem Wk_agg {ds es : List DV} (h : WkL ds es) : Wk (.agg ds) (.agg es) = True := eq_true (Wk.agg h)
theorem WkL.map {α : Type} {f g : α → DV} (h : ∀ a, Wk (f a) (g a)) : ∀ (l : List α), WkL (l.map f) (l.map g)
  | [] => trivial
  | a :: l => ⟨h a, WkL.map h l⟩
theorem WkL.nil : WkL [] [] := trivial
theorem WkL.cons {d e : DV} {ds es : List DV} (h : Wk d e) (k : WkL ds es) : WkL (d :: ds) (e :: es) := ⟨h, k⟩

theorem WkL_cons (d e : DV) (ds es : List DV) : WkL (d :: ds) (e :: es) = (Wk d e ∧ WkL ds es) := rfl
theorem WkL_nil : WkL [] [] = True := rfl
theorem Wk.eq {d e : DV} (h : d = e) : Wk d e := h ▸ .refl d
theorem Wk_self (d : DV) : Wk d d = True := eq_true (.refl d)
theorem Wk_any (d : DV) : Wk d .any = True := eq_true (.any d)
theorem Wk_v {u u' : Value} (h : u.oneCell' = true) : Wk (.v u) (.v u') ↔ u = u' :=
  ⟨fun k => by have := k ⟨fun _ _ => none, fun _ _ => none⟩ u (.v u h); cases this; rfl, fun e => e ▸ .refl _⟩
theorem Wk_int (k : IntKind) (a b : Int) : Wk (.v (.int k a)) (.v (.int k b)) = (a = b) := propext ((Wk_v rfl).trans ⟨fun h => (Value.int.inj h).2, fun h => by rw [h]⟩)
theorem Wk_bool (a b : Bool) : Wk (.v (.bool a)) (.v (.bool b)) = (a = b) := propext ((Wk_v rfl).trans ⟨fun h => Value.bool.inj h, fun h => by rw [h]⟩)
theorem Wk_str (a b : ByteArray) : Wk (.v (.string a)) (.v (.string b)) = (a = b) := propext ((Wk_v rfl).trans ⟨fun h => Value.string.inj h, fun h => by rw [h]⟩)
theorem Wk_full (s : Nat) (f : Bool) (xs : List DV) : Wk (.sl s f xs) (.sl s false xs) = True := eq_true (.full s f xs)
theorem Wk_nil (s s' : Nat) (f : Bool) : Wk (.sl s true []) (.sl s' f []) = True := eq_true (.nil s s' f)

section
variable {P : Program} {w0 : World}
/-- A contract is used. -/
theorem acall_use {f : FuncId} {args args' : List DV} {S : St} {K K' : DV → St → Prop} (h : ACall P w0 f args' S K') (ha : WkL args args') (hk : ∀ d S', K' d S' → ∃ e, Wk d e ∧ K e S') : ACall P w0 f args S K :=
  fun g vs w h1 h2 => (h g vs w h1 (ha.spec h2)).mono fun e w' ⟨r, g', d, S', q1, q2, q3, q4, q5⟩ =>
    let ⟨e', k1, k2⟩ := hk _ _ q5
    ⟨r, g', e', S', q1, q2, q3, k1 _ _ q4, k2⟩
/-- One that hands back one value and leaves the store. -/
theorem acall_one {f : FuncId} {args args' : List DV} {S : St} {K : DV → St → Prop} {r : DV} (h : ACall P w0 f args' S (fun d S' => d = r ∧ S' = S)) (ha : WkL args args') (hk : K r S) : ACall P w0 f args S K :=
  acall_use h ha fun d S' ⟨h1, h2⟩ => ⟨d, .refl d, by rw [h1, h2]; exact hk⟩
/-- A contract is made: less is said of the result. -/
theorem acall_wk {f : FuncId} {args : List DV} {S : St} {r : DV} (h : ACall P w0 f args S (fun d S' => Wk d r ∧ S' = S)) : ACall P w0 f args S (fun d S' => d = r ∧ S' = S) :=
  acall_use h (WkL.refl _) fun d S' ⟨h1, h2⟩ => ⟨r, h1, rfl, h2⟩
/-- The same, as they are used. -/
theorem use1 {f : FuncId} {args args' : List DV} {S : St} {K : DV → St → Prop} {r : DV} (h : ACall P w0 f args' S (fun d S' => d = r ∧ S' = S)) (hk : K r S) (ha : WkL args args' := by exact WkL.refl _) : @AC P w0 f args S ⟨K⟩ := acall_one h ha hk
theorem useK {f : FuncId} {args args' : List DV} {S : St} {K K' : DV → St → Prop} (h : ACall P w0 f args' S K') (hk : ∀ d S', K' d S' → K d S') (ha : WkL args args' := by exact WkL.refl _) : @AC P w0 f args S ⟨K⟩ := acall_use h ha fun d S' q => ⟨d, .refl d, hk d S' q⟩
theorem useQ {f : FuncId} {args args' : List DV} {S : St} {K : DV → Prop} {r : DV} (h : ACall P w0 f args' S (fun d S' => d = r ∧ S' = S)) (hk : K r) (ha : WkL args args' := by exact WkL.refl _) : @QC P w0 f args S ⟨K⟩ :=
  ⟨r, acall_one h ha ⟨rfl, rfl⟩, hk⟩
theorem awp_weak {c : Code} {fr fr' : List DV} {S : St} {Q : Exit → List DV → St → Prop} (hw : WkL fr fr') (h : AWp P w0 c fr' S Q) : AWp P w0 c fr S Q :=
  fun g a w h1 h2 h3 => h g a w h1 (hw.spec h2) h3

/-- A store that is part of another. -/
structure Sub (S S' : St) : Prop where
  box : S.box.Sublist S'.box
  acc : S.acc.Sublist S'.acc
theorem Sub.refl (S : St) : Sub S S := ⟨List.Sublist.refl _, List.Sublist.refl _⟩
theorem Sub.consB {S : St} {B : List (Nat × List DV)} {A : List (Nat × Ob)} {x : Nat × List DV} (h : Sub S ⟨B, A⟩) : Sub S ⟨x :: B, A⟩ := ⟨h.box.cons _, h.acc⟩
theorem Sub.consA {S : St} {B : List (Nat × List DV)} {A : List (Nat × Ob)} {x : Nat × Ob} (h : Sub S ⟨B, A⟩) : Sub S ⟨B, x :: A⟩ := ⟨h.box, h.acc.cons _⟩
theorem Sub.bothB {B B' : List (Nat × List DV)} {A A' : List (Nat × Ob)} {x : Nat × List DV} (h : Sub ⟨B, A⟩ ⟨B', A'⟩) : Sub ⟨x :: B, A⟩ ⟨x :: B', A'⟩ := ⟨h.box.cons_cons _, h.acc⟩
theorem Sub.bothA {B B' : List (Nat × List DV)} {A A' : List (Nat × Ob)} {x : Nat × Ob} (h : Sub ⟨B, A⟩ ⟨B', A'⟩) : Sub ⟨B, x :: A⟩ ⟨B', x :: A'⟩ := ⟨h.box, h.acc.cons_cons _⟩

theorem Sub_refl (S : St) : Sub S S = True := eq_true (.refl S)
theorem Sub_eta (S : St) : Sub S ⟨S.box, S.acc⟩ = True := eq_true (.refl S)
theorem Sub_eta' (S : St) : Sub ⟨S.box, S.acc⟩ S = True := eq_true (.refl S)
theorem Sub_bB {B B' : List (Nat × List DV)} {A A' : List (Nat × Ob)} (x : Nat × List DV) (h : Sub ⟨B, A⟩ ⟨B', A'⟩) : Sub ⟨x :: B, A⟩ ⟨x :: B', A'⟩ = True := eq_true h.bothB
theorem Sub_bA {B B' : List (Nat × List DV)} {A A' : List (Nat × Ob)} (x : Nat × Ob) (h : Sub ⟨B, A⟩ ⟨B', A'⟩) : Sub ⟨B, x :: A⟩ ⟨B', x :: A'⟩ = True := eq_true h.bothA
theorem Sub_cB (S : St) {B : List (Nat × List DV)} {A : List (Nat × Ob)} (x : Nat × List DV) (h : Sub S ⟨B, A⟩) : Sub S ⟨x :: B, A⟩ = True := eq_true h.consB
theorem Sub_cA (S : St) {B : List (Nat × List DV)} {A : List (Nat × Ob)} (x : Nat × Ob) (h : Sub S ⟨B, A⟩) : Sub S ⟨B, x :: A⟩ = True := eq_true h.consA
/-- Some slots frozen. -/
def shrAt : List Nat → List DV → St → (List DV → St → Prop) → Prop
  | [], fr, S, K => K fr S
  | i :: is, fr, S, K => oK (fr[i]?) fun d => shr S d fun d S => shrAt is (fr.set i d) S K
theorem shrAt_nil (fr : List DV) (S : St) (K : List DV → St → Prop) : shrAt [] fr S K = K fr S := rfl
theorem shrAt_cons (i : Nat) (is : List Nat) (fr : List DV) (S : St) (K : List DV → St → Prop) : shrAt (i :: is) fr S K = oK (fr[i]?) fun d => shr S d fun d S => shrAt is (fr.set i d) S K := rfl
theorem shrAt_ok {K : List DV → St → Prop} : ∀ (is : List Nat) {fr : List DV} {S : St} {g : Gh} {w : World} {us : List Value}, Rel w0 g S w → RepL g fr us → shrAt is fr S K → ∃ g' fr' S', g.le g' ∧ Rel w0 g' S' w ∧ RepL g' fr' us ∧ K fr' S'
  | [], fr, S, g, w, us, h1, h2, h => ⟨g, fr, S, .refl g, h1, h2, h⟩
  | i :: is, fr, S, g, w, us, h1, h2, h => by
    unfold shrAt at h
    cases hi : fr[i]? with
    | none => rw [hi] at h; exact h.elim
    | some d =>
      rw [hi, q_oK_some] at h
      have hlt : i < us.length := by rw [← h2.len]; exact (List.getElem?_eq_some_iff.1 hi).1
      have hr := h2.at_ i _ _ hi (List.getElem?_eq_getElem hlt)
      obtain ⟨g1, d', S1, k1, k2, k3, k4⟩ := shr_ok h1 hr h
      obtain ⟨g2, fr2, S2, q1, q2, q3, q4⟩ := shrAt_ok is k2 (repL_same (h2.mono k1) (List.getElem?_eq_getElem hlt) k3) k4
      exact ⟨g2, fr2, S2, k1.trans q1, q2, q3, q4⟩

/-- A loop, walked; at its head some slots are frozen, less is said, and parts of the store are forgotten. -/
theorem loopZ {σ : Type} (ss : List Nat := []) (fz live : List Nat) (vals : σ → List (Nat × DV)) (st : σ → St) (inv : σ → Prop) (meas : σ → Nat) (s0 : σ) {c : Code} {fr : List DV} {S : St} {Q : Exit → List DV → St → Prop} (hm : P.follows .mixedOrders = true) (hc : okC ss c = true)
    (h0 : inv s0 ∧ shrAt fz (wk live fr) S fun fr' S' => WkL fr' (upds (wk live fr) (vals s0)) ∧ Sub (st s0) S')
    (round : ∀ s, inv s → vw P w0 ss c (upds (wk live fr) (vals s)) (st s) (thenQ (fun fr' S' => ∃ s', inv s' ∧ meas s' < meas s ∧ shrAt fz (wk live fr') S' fun fr' S' => WkL fr' (upds (wk live fr) (vals s')) ∧ Sub (st s') S') Q)) :
    AWp P w0 (.loop c) fr S Q := by
  intro g a w h1 h2 h3
  obtain ⟨g0, f0, S0, r1, r2, r3, r4, r5⟩ := shrAt_ok fz h1 (repL_wk live h2) h0.2
  refine wp_loop_ind (fun m a w => a.defers = [] ∧ ∃ g' s, g.le g' ∧ Rel w0 g' (st s) w ∧ RepL g' (upds (wk live fr) (vals s)) a.tmps.toList ∧ inv s ∧ meas s = m) (m := meas s0) ⟨h3, g0, s0, r1, r2.forget r5.box r5.acc, r4.spec r3, h0.1, rfl⟩ ?_
  rintro m a w ⟨hd, g', s, k1, k2, k3, k4, rfl⟩
  refine wp_mono (vw_sound hm c hc (round s k4) g' a w k2 k3 hd) ?_
  rintro e a' w' ⟨hd', g'', fr'', S'', q1, q2, q3, q4⟩
  cases e with
  | normal =>
    obtain ⟨s', hi, hm, hf⟩ := q4
    obtain ⟨g3, f3, S3, p1, p2, p3, p4, p5⟩ := shrAt_ok fz q2 (repL_wk live q3) hf
    exact ⟨meas s', hm, hd', g3, s', (k1.trans q1).trans p1, p2.forget p5.box p5.acc, p4.spec p3, hi, rfl⟩
  | exit n => exact ⟨hd', g'', fr'', S'', k1.trans q1, q2, q3, q4⟩
  | goto n => exact ⟨hd', g'', fr'', S'', k1.trans q1, q2, q3, q4⟩
  | ret => exact ⟨hd', g'', fr'', S'', k1.trans q1, q2, q3, q4⟩
  | panic ch => exact ⟨hd', g'', fr'', S'', k1.trans q1, q2, q3, q4⟩
  | outgrown => exact ⟨hd', g'', fr'', S'', k1.trans q1, q2, q3, q4⟩
/-- A loop; at its head less is said, and parts of the store are forgotten. -/
theorem loopA {σ : Type} (live : List Nat) (vals : σ → List (Nat × DV)) (st : σ → St) (inv : σ → Prop) (meas : σ → Nat) (s0 : σ) {c : Code} {fr : List DV} {S : St} {Q : Exit → List DV → St → Prop}
    (h0 : inv s0 ∧ WkL (wk live fr) (upds (wk live fr) (vals s0)) ∧ Sub (st s0) S)
    (round : ∀ s, inv s → AWp P w0 c (upds (wk live fr) (vals s)) (st s) (thenQ (fun fr' S' => ∃ s', inv s' ∧ meas s' < meas s ∧ WkL (wk live fr') (upds (wk live fr) (vals s')) ∧ Sub (st s') S') Q)) :
    AWp P w0 (.loop c) fr S Q := by
  intro g a w h1 h2 h3
  refine wp_loop_ind (fun m a w => a.defers = [] ∧ ∃ g' s, g.le g' ∧ Rel w0 g' (st s) w ∧ RepL g' (upds (wk live fr) (vals s)) a.tmps.toList ∧ inv s ∧ meas s = m) (m := meas s0) ⟨h3, g, s0, .refl g, h1.forget h0.2.2.box h0.2.2.acc, h0.2.1.spec (repL_wk live h2), h0.1, rfl⟩ ?_
  rintro m a w ⟨hd, g', s, k1, k2, k3, k4, rfl⟩
  refine wp_mono (round s k4 g' a w k2 k3 hd) ?_
  rintro e a' w' ⟨hd', g'', fr'', S'', q1, q2, q3, q4⟩
  cases e with
  | normal =>
    obtain ⟨s', hi, hm, hf, hS⟩ := q4
    exact ⟨meas s', hm, hd', g'', s', k1.trans q1, q2.forget hS.box hS.acc, hf.spec (repL_wk live q3), hi, rfl⟩
  | exit n => exact ⟨hd', g'', fr'', S'', k1.trans q1, q2, q3, q4⟩
  | goto n => exact ⟨hd', g'', fr'', S'', k1.trans q1, q2, q3, q4⟩
  | ret => exact ⟨hd', g'', fr'', S'', k1.trans q1, q2, q3, q4⟩
  | panic ch => exact ⟨hd', g'', fr'', S'', k1.trans q1, q2, q3, q4⟩
  | outgrown => exact ⟨hd', g'', fr'', S'', k1.trans q1, q2, q3, q4⟩
/-- The same, walked. -/
theorem loopK {σ : Type} (ss : List Nat := []) (live : List Nat) (vals : σ → List (Nat × DV)) (st : σ → St) (inv : σ → Prop) (meas : σ → Nat) (s0 : σ) {c : Code} {fr : List DV} {S : St} {Q : Exit → List DV → St → Prop} (hm : P.follows .mixedOrders = true) (hc : okC ss c = true)
    (h0 : inv s0 ∧ WkL (wk live fr) (upds (wk live fr) (vals s0)) ∧ Sub (st s0) S)
    (round : ∀ s, inv s → vw P w0 ss c (upds (wk live fr) (vals s)) (st s) (thenQ (fun fr' S' => ∃ s', inv s' ∧ meas s' < meas s ∧ WkL (wk live fr') (upds (wk live fr) (vals s')) ∧ Sub (st s') S') Q)) :
    AWp P w0 (.loop c) fr S Q := loopA live vals st inv meas s0 h0 fun s hs => vw_sound hm c hc (round s hs)

/-- A piece of code, walked; behind it the frame is said once more. -/
theorem cutK {σ : Type} (ss : List Nat := []) (live : List Nat) (vals : σ → List (Nat × DV)) (st : σ → St) (inv : σ → Prop) {c : Code} {fr : List DV} {S : St} {Q : Exit → List DV → St → Prop} (hm : P.follows .mixedOrders = true) (hc : okC ss c = true)
    (h1 : vw P w0 ss c fr S (thenQ (fun fr' S' => ∃ s, inv s ∧ WkL (wk live fr') (upds (wk live fr) (vals s)) ∧ Sub (st s) S') Q))
    (h2 : ∀ s, inv s → Q .normal (upds (wk live fr) (vals s)) (st s)) : AWp P w0 c fr S Q := by
  intro g a w q1 q2 q3
  refine wp_mono (vw_sound hm c hc h1 g a w q1 q2 q3) ?_
  rintro e a' w' ⟨hd, g', fr', S', k1, k2, k3, k4⟩
  cases e with
  | normal =>
    obtain ⟨s, hi, hw, hS⟩ := k4
    exact ⟨hd, g', _, _, k1, k2.forget hS.box hS.acc, hw.spec (repL_wk live k3), h2 s hi⟩
  | exit n => exact ⟨hd, g', fr', S', k1, k2, k3, k4⟩
  | goto n => exact ⟨hd, g', fr', S', k1, k2, k3, k4⟩
  | ret => exact ⟨hd, g', fr', S', k1, k2, k3, k4⟩
  | panic ch => exact ⟨hd, g', fr', S', k1, k2, k3, k4⟩
  | outgrown => exact ⟨hd, g', fr', S', k1, k2, k3, k4⟩
/-- A piece of code, walked as it is. -/
theorem rawK (ss : List Nat := []) {c : Code} {fr : List DV} {S : St} {Q : Exit → List DV → St → Prop} (hm : P.follows .mixedOrders = true) (hc : okC ss c = true) (h : vw P w0 ss c fr S Q) : AWp P w0 c fr S Q := vw_sound hm c hc h

/-- A loop that counts: s is how many rounds were; at its head less is said, and parts of the store are forgotten. -/
theorem loopN (ss : List Nat := []) (n : Nat) (live : List Nat) (vals : Nat → List (Nat × DV)) (st : Nat → St) (inv : Nat → Prop) {c : Code} {fr : List DV} {S : St} {Q : Exit → List DV → St → Prop} (hm : P.follows .mixedOrders = true) (hc : okC ss c = true)
    (h0 : inv 0 ∧ WkL (wk live fr) (upds (wk live fr) (vals 0)) ∧ Sub (st 0) S)
    (round : ∀ k, k ≤ n → inv k → vw P w0 ss c (upds (wk live fr) (vals k)) (st k) (thenQ (fun fr' S' => k < n ∧ inv (k + 1) ∧ WkL (wk live fr') (upds (wk live fr) (vals (k + 1))) ∧ Sub (st (k + 1)) S') Q)) :
    AWp P w0 (.loop c) fr S Q := by
  refine loopA live vals st (fun k => k ≤ n ∧ inv k) (fun k => n - k) 0 ⟨⟨Nat.zero_le _, h0.1⟩, h0.2⟩ ?_
  rintro k ⟨h1, h2⟩
  refine (vw_sound hm c hc (round k h1 h2)).mono ?_
  intro e fr' S' q
  cases e with
  | normal =>
    obtain ⟨q1, q2, q3, q4⟩ := q
    exact ⟨k + 1, ⟨q1, q2⟩, by omega, q3, q4⟩
  | exit n => exact q
  | goto n => exact q
  | ret => exact q
  | panic ch => exact q
  | outgrown => exact q

/-- A loop that counts; at its head some slots are frozen, less is said, and parts of the store are forgotten. -/
theorem loopNZ (ss : List Nat := []) (fz : List Nat) (n : Nat) (live : List Nat) (vals : Nat → List (Nat × DV)) (st : Nat → St) (inv : Nat → Prop) {c : Code} {fr : List DV} {S : St} {Q : Exit → List DV → St → Prop} (hm : P.follows .mixedOrders = true) (hc : okC ss c = true)
    (h0 : inv 0 ∧ shrAt fz (wk live fr) S fun fr' S' => WkL fr' (upds (wk live fr) (vals 0)) ∧ Sub (st 0) S')
    (round : ∀ k, k ≤ n → inv k → vw P w0 ss c (upds (wk live fr) (vals k)) (st k) (thenQ (fun fr' S' => k < n ∧ inv (k + 1) ∧ shrAt fz (wk live fr') S' fun fr' S' => WkL fr' (upds (wk live fr) (vals (k + 1))) ∧ Sub (st (k + 1)) S') Q)) :
    AWp P w0 (.loop c) fr S Q := by
  intro g a w h1 h2 h3
  obtain ⟨g0, f0, S0, r1, r2, r3, r4, r5⟩ := shrAt_ok fz h1 (repL_wk live h2) h0.2
  refine wp_loop_ind (fun m a w => a.defers = [] ∧ ∃ g' k, g.le g' ∧ Rel w0 g' (st k) w ∧ RepL g' (upds (wk live fr) (vals k)) a.tmps.toList ∧ (k ≤ n ∧ inv k) ∧ n - k = m) (m := n - 0) ⟨h3, g0, 0, r1, r2.forget r5.box r5.acc, r4.spec r3, ⟨Nat.zero_le _, h0.1⟩, rfl⟩ ?_
  rintro m a w ⟨hd, g', k, k1, k2, k3, k4, rfl⟩
  refine wp_mono (vw_sound hm c hc (round k k4.1 k4.2) g' a w k2 k3 hd) ?_
  rintro e a' w' ⟨hd', g'', fr'', S'', q1, q2, q3, q4⟩
  cases e with
  | normal =>
    obtain ⟨hlt, hi, hf⟩ := q4
    obtain ⟨g3, f3, S3, p1, p2, p3, p4, p5⟩ := shrAt_ok fz q2 (repL_wk live q3) hf
    exact ⟨n - (k + 1), by omega, hd', g3, k + 1, (k1.trans q1).trans p1, p2.forget p5.box p5.acc, p4.spec p3, ⟨hlt, hi⟩, rfl⟩
  | exit n => exact ⟨hd', g'', fr'', S'', k1.trans q1, q2, q3, q4⟩
  | goto n => exact ⟨hd', g'', fr'', S'', k1.trans q1, q2, q3, q4⟩
  | ret => exact ⟨hd', g'', fr'', S'', k1.trans q1, q2, q3, q4⟩
  | panic ch => exact ⟨hd', g'', fr'', S'', k1.trans q1, q2, q3, q4⟩
  | outgrown => exact ⟨hd', g'', fr'', S'', k1.trans q1, q2, q3, q4⟩
/-- A function, walked: its result frozen, what it made beside it forgotten. -/
theorem fnS (ss : List Nat := []) {f : FuncId} {fn : Func} {c : Code} {rs : List ResultVar} {args : List DV} {S : St} {r : DV} (hm : P.follows .mixedOrders = true) (hf : P.funcs[f]? = some fn) (hb : fn.body = some c) (hrs : fn.results = rs.toArray) (hc : okC ss c = true)
    (h : vw P w0 ss c (args ++ List.replicate (fn.ntmps - args.length) ud) S fun e fr S' => (e = .normal ∨ e = .ret) ∧ resK P fr S' rs fun d => shrT S' d fun d S'' => Wk d r ∧ Sub S S'') : ACall P w0 f args S (fun d S' => d = r ∧ S' = S) := by
  have h1 : ACall P w0 f args S (fun d S' => shrT S' d fun d S'' => Wk d r ∧ Sub S S'') := acall_of hf hb hrs (vw_sound hm c hc h)
  intro g vs w k1 k2
  refine (h1 g vs w k1 k2).mono ?_
  rintro e w' ⟨v, g', d, S', q1, q2, q3, q4, q5⟩
  obtain ⟨g2, d', S2, p1, p2, p3, p4, p5⟩ := shrT_ok q3 q4 q5
  exact ⟨v, g2, r, S, q1, q2.trans p1, p2.forget p5.box p5.acc, p4 _ _ p3, rfl, rfl⟩
/-- A full slice in a slot becomes one that grows behind what it holds. -/
theorem awp_tail (i : Nat) {s : Nat} (hs : 0 < s) {xs : List DV} {c : Code} {fr : List DV} {S : St} {Q : Exit → List DV → St → Prop} (hi : fr[i]? = some (.sl s true xs))
    (h : ∀ l, nin S.acc l → AWp P w0 c (fr.set i (.acc l xs.length)) ⟨S.box, (l, .tl s xs) :: S.acc⟩ Q) : AWp P w0 c fr S Q := by
  intro g a w h1 h2 h3
  have hlt : i < a.tmps.toList.length := by rw [← h2.len]; exact (List.getElem?_eq_some_iff.1 hi).1
  have hr := h2.at_ i _ _ hi (List.getElem?_eq_getElem hlt)
  obtain ⟨l, g', hle, hne, hR, hA⟩ := h1.newAcc hs hr (.tl s xs) (.inl rfl)
  have hfr := repL_same (h2.mono hle) (List.getElem?_eq_getElem hlt) hA
  exact wp_mono (h l (nin_of hne) g' a w hR hfr h3) fun _ _ _ k => k.of_le hle
/-- Less is said of what a box holds. -/
theorem _root_.Aml.Rel.wkBox {g : Gh} {S : St} {w : World} (h : Rel w0 g S w) {b : Nat} {ds ds' : List DV} (hl : lk S.box b = some ds) (hw : ∀ us e, w.heap[b]? = some (.cells us e (0, 0)) → RepL g ds us.toList → RepL g ds' us.toList) : Rel w0 g ⟨up S.box b ds', S.acc⟩ w := by
  refine ⟨h.below, h.imm, by rw [map_up]; exact h.nb, h.na, h.accw, h.fresh, h.top, ?_⟩
  obtain ⟨ow, o1, o2⟩ := h.own
  refine ⟨ow, fun b' e hm => ?_, o2⟩
  rcases mem_up h.nb hm with he | ⟨hm, _⟩
  · cases he
    obtain ⟨q1, q2, q3, us, e, q4, q5, q6⟩ := o1 _ _ (lk_mem hl)
    exact ⟨q1, q2, q3, us, e, q4, hw _ _ q4 q5, q6⟩
  · exact o1 _ _ hm
/-- A nil slice in a box becomes one that grows. -/
theorem awp_growB (b j s : Nat) (hs : 0 < s) {c : Code} {fr : List DV} {S : St} {Q : Exit → List DV → St → Prop} {ds : List DV} {s0 : Nat} (hb : lk S.box b = some ds) (hi : ds[j]? = some (.sl s0 true []))
    (h : ∀ l : FN S.acc, AWp P w0 c fr ⟨up S.box b (ds.set j (.acc l.n 0)), (l.n, .arr s []) :: S.acc⟩ Q) : AWp P w0 c fr S Q := by
  intro g a w h1 h2 h3
  obtain ⟨ow, o1, o2⟩ := h1.own
  obtain ⟨q1, q2, q3, us, e, q4, q5, q6⟩ := o1 _ _ (lk_mem hb)
  have hlt : j < us.toList.length := by rw [← q5.len]; exact (List.getElem?_eq_some_iff.1 hi).1
  have hr := q5.at_ j _ _ hi (List.getElem?_eq_getElem hlt)
  have hr' : Rep g (.sl s true []) us.toList[j] := by obtain ⟨o', ho'⟩ := rep_full_nil hr; rw [ho']; exact .nil _ _ _ _ fun _ => rfl
  obtain ⟨l, g', hle, hne, hR, hA⟩ := h1.newAcc hs hr' (.arr s []) (.inr ⟨rfl, rfl⟩)
  have hR' := hR.wkBox (ds' := ds.set j (.acc l 0)) (b := b) hb ?_
  · exact wp_mono (h ⟨l, nin_of hne⟩ g' a w hR' (h2.mono hle) h3) fun _ _ _ k => k.of_le hle
  · intro us' e' hh hr2
    rw [hh] at q4
    cases q4
    exact repL_same hr2 (List.getElem?_eq_getElem hlt) hA
/-- The same, names and all. -/
theorem tailK (i : Nat) {s : Nat} {xs : List DV} {c : Code} {fr : List DV} {S : St} {Q : Exit → List DV → St → Prop} (hi : fr[i]? = some (.sl s true xs)) (hs : 0 < s)
    (h : ∀ l : FN S.acc, AWp P w0 c (fr.set i (.acc l.n xs.length)) ⟨S.box, (l.n, .tl s xs) :: S.acc⟩ Q) : AWp P w0 c fr S Q := awp_tail i hs hi fun l hl => h ⟨l, hl⟩
theorem growK (i s : Nat) {c : Code} {fr : List DV} {S : St} {Q : Exit → List DV → St → Prop} {s0 : Nat} (hi : fr[i]? = some (.sl s0 true [])) (hs : 0 < s)
    (h : ∀ l : FN S.acc, AWp P w0 c (fr.set i (.acc l.n 0)) ⟨S.box, (l.n, .arr s []) :: S.acc⟩ Q) : AWp P w0 c fr S Q := awp_grow i s hs hi fun l hl => h ⟨l, hl⟩
/-- Some slots are frozen; then the walk. -/
theorem shrK (ss : List Nat := []) (is : List Nat) {c : Code} {fr : List DV} {S : St} {Q : Exit → List DV → St → Prop} (hm : P.follows .mixedOrders = true) (hc : okC ss c = true) (h : shrAt is fr S fun fr S => vw P w0 ss c fr S Q) : AWp P w0 c fr S Q := by
  intro g a w h1 h2 h3
  obtain ⟨g', f', S', k1, k2, k3, k4⟩ := shrAt_ok is h1 h2 h
  exact wp_mono (vw_sound hm c hc k4 g' a w k2 k3 h3) fun _ _ _ k => k.of_le k1
/-- A nil slice that comes back may be one that grows. -/
theorem acall_nil {f : FuncId} {args : List DV} {S : St} {K K' : DV → St → Prop} (h : ACall P w0 f args S K') (s : Nat) (hs : 0 < s)
    (hk : ∀ d S', K' d S' → K d S' ∨ ((∃ s0, d = .sl s0 true []) ∧ ∀ l, nin S'.acc l → K (.acc l 0) ⟨S'.box, (l, .arr s []) :: S'.acc⟩)) : ACall P w0 f args S K := by
  intro g vs w h1 h2
  refine (h g vs w h1 h2).mono ?_
  rintro e w' ⟨r, g', d, S', q1, q2, q3, q4, q5⟩
  rcases hk d S' q5 with h | ⟨⟨s0, rfl⟩, h⟩
  · exact ⟨r, g', d, S', q1, q2, q3, q4, h⟩
  · have hr' : Rep g' (.sl s true []) r := by obtain ⟨o', ho'⟩ := rep_full_nil q4; rw [ho']; exact .nil _ _ _ _ fun _ => rfl
    obtain ⟨l, g2, hle, hne, hR, hA⟩ := q3.newAcc hs hr' (.arr s []) (.inr ⟨rfl, rfl⟩)
    exact ⟨r, g2, _, _, q1, q2.trans hle, hR, hA, h l (nin_of hne)⟩
/-- A nil slice that comes back is one that grows. -/
theorem nilK {f : FuncId} {args : List DV} {S : St} {xs : List DV} (s : Nat) (hs : 0 < s) (h : ACall P w0 f args S fun d S' => (xs = [] ∧ (∃ s0, d = .sl s0 true []) ∧ S' = S) ∨ ∃ l : FN S.acc, d = .acc l.n xs.length ∧ S' = ⟨S.box, (l.n, .arr s xs) :: S.acc⟩) :
    ACall P w0 f args S fun d S' => ∃ l : FN S.acc, d = .acc l.n xs.length ∧ S' = ⟨S.box, (l.n, .arr s xs) :: S.acc⟩ := by
  refine acall_nil h s hs ?_
  rintro d S' (⟨rfl, ⟨s0, rfl⟩, rfl⟩ | h)
  · exact .inr ⟨⟨s0, rfl⟩, fun l hl => ⟨⟨l, hl⟩, rfl, rfl⟩⟩
  · exact .inl h
end
attribute [go_sem high] Sub_refl Sub_eta Sub_eta' Sub_bB Sub_bA
attribute [go_sem low] Wk_tup Wk_agg
attribute [go_sem] Sub_cB Sub_cA WkL_cons WkL_nil Wk_self Wk_any Wk_int Wk_bool Wk_str Wk_full Wk_nil
attribute [go_sem ↓] shrAt_nil shrAt_cons
end Aml
