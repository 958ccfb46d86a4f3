/-
  Ranges over functions; A row that a statement builds, as one that grows; The end of a growing slice, cleared; Few statements whose order is open, each order walked; Statements whose order is open, with rows made and turned to texts: what is made is frozen at once; Statements whose order is open, once more: what reads no store may come at any time, and so may what makes a box that nothing ahead looks at; Statements whose order is open: how the reckoning goes; What is known of a map that is owned; Rows of ints, as the walk speaks of them; Sizes, and where nodes are parted: what the reference computes; Trees of the reference; Nodes parted and put together: what the reference computes; Branches mended: what the reference computes; Putting: what the reference computes; Trees stay trees; keys and values short; depth and number of entries: plain laws; How many entries a tree has: plain laws; Putting, walked; Finding and deleting, walked; The order of texts; where rows of sizes are parted: plain laws; Trees that may be: their entries, their order, their sizes; mending keeps them: plain laws; Mending, putting and deleting keep trees that may be, and their entries: plain laws. By an AI agent.
-/
import Derived.Test.YtpcmnebpnpgcmaaGreatDoorML3
import Derived.Test.YtpcmnebpnpgcmaaGreatDoorML2
set_option linter.unusedVariables false
set_option linter.unusedSimpArgs false
set_option maxRecDepth 100000
set_option maxHeartbeats 16000000
namespace Aml
open Go Go.RowKit
structure Has (X T : St) : Prop where
 box : ∀ b x, lk X.box b = some x → lk T.box b = some x
 acc : ∀ l o, lk X.acc l = some o → lk T.acc l = some o
structure Kp (X T T' : St) : Prop where
 box : ∀ b x, lk X.box b = none → lk T.box b = some x → lk T'.box b = some x
 acc : ∀ l o, lk X.acc l = none → lk T.acc l = some o → lk T'.acc l = some o
theorem Has.refl (X : St) : Has X X := ⟨fun _ _ h => h, fun _ _ h => h⟩
theorem Kp.refl (X T : St) : Kp X T T := ⟨fun _ _ _ h => h, fun _ _ _ h => h⟩
theorem lk_of_mem {α : Type} {l : List (Nat × α)} (hn : (l.map (·.1)).Nodup) {n : Nat} {x : α} (h : (n, x) ∈ l) : lk l n = some x := by
 induction l with
 | nil => cases h
 | cons p t ih =>
  obtain ⟨k, y⟩ := p
  simp only [List.map_cons, List.nodup_cons] at hn
  simp only [lk]
  rcases List.mem_cons.1 h with e | h
  ·cases e; simp
  ·have : k ≠ n := by rintro rfl; exact hn.1 (List.mem_map_of_mem (f := (·.1)) h)
   rw [if_neg this]; exact ih hn.2 h
def setPs : List Tmp → List DV → List DV → List DV
 | p :: ps, d :: ds, fr => setPs ps ds (fr.set p d)
 | _, _, fr => fr
section
variable {P : Program} {w0 : W0}
theorem Rel.has {g : Gh} {S T : St} {w : World} (h : Rel w0 g T w) (hs : Has S T) (nb : (S.box.map (·.1)).Nodup) (na : (S.acc.map (·.1)).Nodup) : Rel w0 g S w := by
 obtain ⟨ow, o1, o2⟩ := h.own
 exact ⟨h.below, h.imm, nb, na, h.accw, h.fresh, fun l o hl => h.top l o (lk_mem (hs.acc _ _ (lk_of_mem na hl))), ow, fun b ds hb => o1 b ds (lk_mem (hs.box _ _ (lk_of_mem nb hb))), fun l o hl => o2 l o (lk_mem (hs.acc _ _ (lk_of_mem na hl)))⟩
theorem repL_setPs {g : Gh} : ∀ (ps : List Tmp) (ds : List DV) (vs : List Value) {fr : List DV} {us : Array Value}, RepL g fr us.toList → RepL g ds vs →
  RepL g (setPs ps ds fr) (((ps.zip vs).foldl (fun t (p, v) => t.setIfInBounds p v) us).toList)
 | [], ds, vs, fr, us, h, _ => by simpa [setPs] using h
 | p :: ps, ds, vs, fr, us, h, r => by
  cases ds with
  | nil => have := r.len; simp at this; obtain rfl : vs = [] := List.eq_nil_of_length_eq_zero this.symm; simpa [setPs] using h
  | cons d ds =>
   obtain ⟨v, vs', rfl, hd, hr⟩ := r.uncons
   simp only [setPs, List.zip_cons_cons, List.foldl_cons]
   exact repL_setPs ps ds vs' (by simpa using h.set p hd) hr
def YKo (P : Program) (w0 : W0) {α : Type} (l : Nat) (X : List α → St) (enc : α → List DV) (Ok : List α → Prop) : Prop :=
 ∀ pre x T, Ok (pre ++ [x]) → Has (X pre) T → YCall P w0 l (enc x) T fun d T' => d = .v (.bool true) ∧ Has (X (pre ++ [x])) T' ∧ Kp (X pre) T T'
def YK (P : Program) (w0 : W0) {α : Type} (l : Nat) (X : List α → St) (enc : α → List DV) (V : List α) : Prop :=
 ∀ pre x T, (pre ++ [x]) <+: V → Has (X pre) T → YCall P w0 l (enc x) T fun d T' => d = .v (.bool true) ∧ Has (X (pre ++ [x])) T' ∧ Kp (X pre) T T'
theorem awp_rangeFuncO {α : Type} (X : List α → St) (enc : α → List DV) (Ok Fin : List α → Prop) {fo : Operand} {ps : Array Tmp} {assign body : Code} {fr : List DV} {S : St} {Q : Exit → List DV → St → Prop} {gf : FuncId} {cap : Array Value}
  (hf : ev fr fo = .v (.func (.func gf) #[] cap)) (hok : okF P gf = true) (hcap : cap.toList.all (fun u => u.oneCell') = true) (hrf : (noRF assign && noRF body) = true)
  (h0 : X [] = S) (hdb : ∀ pre, (X pre).box.map (·.1) = (X []).box.map (·.1)) (hda : ∀ pre, (X pre).acc.map (·.1) = (X []).acc.map (·.1)) (hps : ∀ x, (enc x).length = ps.size)
  (hbody : ∀ pre x T, Ok (pre ++ [x]) → Has (X pre) T → AWp P w0 assign (setPs ps.toList (enc x) fr) T (thenQ (fun fr1 T1 => AWp P w0 body fr1 T1 (thenQ (fun _ T' => Has (X (pre ++ [x])) T' ∧ Kp (X pre) T T') fun _ _ _ => False)) fun _ _ _ => False))
  (hit : ∀ (l : Nat) (w1 : W0), YKo P w1 l X enc Ok → ∀ T, Has (X []) T → ACall P w1 gf (.v (.func (.yield l) #[] #[]) :: cap.toList.map .v) T fun _ T' => ∃ V, Fin V ∧ Has (X V) T')
  (hdone : ∀ V, Fin V → Q .normal fr (X V)) : AWp P w0 (.rangeFunc fo ps assign body) fr S Q := by
 intro g a w h1 h2 h3 ro hro
 have hro : ro = none := hro.resolve_right (by simp [noRF])
 subst hro
 simp only [Bool.and_eq_true] at hrf
 subst h0
 refine wpIn_rangeFunc ?_
 intro fn hfn
 have hfo := rep_ev h2 fo
 rw [hf] at hfo
 have hg : a.eval fo = .func (.func gf) #[] cap := rep_v hfo
 obtain ⟨rec, hrec⟩ : ∃ rec : LoopState → Option Code → Loop, rec = fun st pe => { state := st, pending := pe, fn, tmps := a.tmps, params := ps, assign, body, defers := w.heap.size } := ⟨_, rfl⟩
 obtain ⟨W1, hW1⟩ : ∃ W1, (w.alloc (.deferred (some []))).alloc (.loop (rec .ready none)) = W1 := ⟨_, rfl⟩
 have hL1 : W1.heap[w.heap.size + 1]? = some (.loop (rec .ready none)) := by
  rw [← hW1]; have := World.alloc_heap_new (w.alloc (.deferred (some []))) (.loop (rec .ready none)); rwa [World.size_alloc] at this
 have hK1 : W1.heap[w.heap.size]? = some (.deferred (some [])) := by
  rw [← hW1]; exact (Below.heap_alloc _ _ _ (by simp)).trans (World.alloc_heap_new w _)
 have hb1 : Bel w.heap.size w W1 := by
  rw [← hW1]; exact ((Bel.refl _ w).alloc (Nat.le_refl _) _).alloc (by simp) _
 have hob : ∀ k o, g.obj k = some o → k < w.heap.size := fun k o hk => (Array.getElem?_eq_some_iff.1 (h1.below.obj k o hk).1).1
 have hgl : ∀ k, w.heap.size ≤ k → g.obj k = none := fun k hk => by
  cases hx : g.obj k with
  | none => rfl
  | some o => have := hob k o hx; omega
 have hwl : ∀ k, w.heap.size ≤ k → w0.gh.obj k = none := fun k hk => by
  cases hx : w0.gh.obj k with
  | none => rfl
  | some o => have := hob k o (h1.below.req.obj k o hx); omega
 have hsz := h1.below.size
 -- the walk of the iterator knows the record
 let w1 : W0 := ⟨w0.w, { g with obj := fun k => if k = w.heap.size + 1 then some (.loop (rec .ready none)) else w0.gh.obj k }⟩
 have R1 : Rel w1 (g.withObj (ncs W1)) (X []) W1 := by
  refine (h1.grow hb1).withObj rfl (fun _ _ h => ncs_spec h) ⟨fun _ _ _ h => h, fun _ _ _ h => h, fun k o hk => ?_⟩
  simp only [w1] at hk
  split at hk
  ·rename_i e; subst e; cases hk; exact ncs_mk hL1 rfl
  ·have := (h1.grow hb1).below.obj k o (h1.below.req.obj k o hk)
   exact ncs_mk this.1 this.2
 have nb : ∀ pre, ((X pre).box.map (·.1)).Nodup := fun pre => by rw [hdb]; exact h1.nb
 have na : ∀ pre, ((X pre).acc.map (·.1)).Nodup := fun pre => by rw [hda]; exact h1.na
 have h2k : RepL (g.withObj (ncs W1)) fr a.tmps.toList := h2.withObj
 have hcapR : ∀ g : Gh, RepL g (cap.toList.map .v) cap.toList := fun g => ⟨by simp, fun i d u a1 a2 => by
  simp only [List.getElem?_map, Option.map_eq_some_iff] at a1
  obtain ⟨u', a1, rfl⟩ := a1
  rw [a2] at a1; cases a1
  exact .v _ (List.all_eq_true.1 hcap _ (List.mem_of_getElem? a2))⟩
 have hYK : YKo P w1 (w.heap.size + 1) X enc Ok := by
  intro pre x T hV hT g3 vs w3 r3 hvs
  have hl3g : g3.obj (w.heap.size + 1) = some (.loop (rec .ready none)) := r3.below.req.obj _ _ (by simp [w1])
  have hl3 := (r3.below.obj _ _ hl3g).1
  have hy := run_yield (P := P) (args := vs) hl3 (by rw [hrec]; have := hvs.len; simp at this; rw [← this]; exact hps x)
  rw [hrec] at hy
  dsimp only at hy
  refine ⟨_, _, _, _, hy, fun ro => roundIn_of_wpIn (F := fz ro) (n := 0) trivial ?_⟩
  have hsub0 : w0.gh.sub g3 := ⟨fun _ _ _ h => r3.below.req.imm _ _ _ (h1.below.req.imm _ _ _ h), fun _ _ _ h => r3.below.req.acc _ _ _ (h1.below.req.acc _ _ _ h), fun k o hk => r3.below.req.obj k o (by
    simp only [w1]
    split
    ·rename_i e; subst e; rw [hwl _ (by omega)] at hk; cases hk
    ·exact hk)⟩
  have R3 : Rel w0 g3 T w3 := r3.withObj (w0' := w0) (ob := g3.obj) rfl r3.below.obj hsub0
  have hfr0 : RepL g3 fr a.tmps.toList := ⟨h2.len, fun i d u a1 a2 => Rep.of (g := g) (fun b i u hu => r3.below.req.imm b i u hu) (fun l n u hu => r3.below.req.acc l n u hu) (h2.at_ i d u a1 a2)⟩
  have hfr : RepL g3 (setPs ps.toList (enc x) fr) (((ps.zip vs).foldl (fun t (p, v) => t.setIfInBounds p v) a.tmps).toList) := by
   have := repL_setPs (g := g3) ps.toList (enc x) vs.toList (fr := fr) (us := a.tmps) hfr0 hvs
   rw [← Array.toList_zip, Array.foldl_toList] at this
   exact this
  refine wpIn_mono (hbody pre x T hV hT g3 { tmps := _, defers := [] } w3 R3 hfr (.nil rfl) (some (w.heap.size + 1)) (.inr hrf.1)) ?_
  rintro e a4 w4 ⟨hd4, g4, fr4, T4, k1, k2, k3, k4⟩
  cases e with
  | normal =>
   have hl4g : g4.obj (w.heap.size + 1) = some (.loop (rec .ready none)) := by rw [k1.obj]; exact hl3g
   have hl4 := (k2.below.obj _ _ hl4g).1
   refine ⟨_, run_beginRound hl4 (by rw [hrec]), ?_⟩
   have hlt4 : w.heap.size + 1 < w4.heap.size := (Array.getElem?_eq_some_iff.1 hl4).1
   have hbz : ({ rec .ready none with state := .busy } : Loop) = rec .busy none := by rw [hrec]
   rw [hbz]
   have hwl0 := hwl (w.heap.size + 1) (by omega)
   have hne0 : ∀ k o, w0.gh.obj k = some o → k ≠ w.heap.size + 1 := by rintro k o hk rfl; rw [hwl0] at hk; cases hk
   have R4x : Rel w0 (g4.withObj fun k => if k = w.heap.size + 1 then none else g4.obj k) T4 w4 := k2.withObj rfl (fun k o hk => by
    split at hk
    ·cases hk
    ·exact k2.below.obj k o hk) ⟨k2.below.req.imm, k2.below.req.acc, fun k o hk => by
     show (if k = w.heap.size + 1 then none else g4.obj k) = some o
     rw [if_neg (hne0 k o hk)]; exact k2.below.req.obj k o hk⟩
   have hh5 : ∀ k, k ≠ w.heap.size + 1 → (w4.putObj (w.heap.size + 1) (.loop (rec .busy none))).heap[k]? = w4.heap[k]? := fun k hk => World.putObj_heap_other hk
   have R4y := R4x.putObj (o' := .loop (rec .busy none)) hl4 rfl (by show (if _ then none else _) = none; rw [if_pos rfl]) (by omega)
   have R5 : Rel w0 ((g4.withObj fun k => if k = w.heap.size + 1 then none else g4.obj k).withObj fun k => if k = w.heap.size + 1 then some (.loop (rec .busy none)) else g4.obj k) T4 (w4.putObj (w.heap.size + 1) (.loop (rec .busy none))) := R4y.withObj rfl (fun k o hk => by
    split at hk
    ·rename_i e; subst e; cases hk; exact ⟨World.putObj_heap_same hlt4, rfl⟩
    ·rename_i e; rw [hh5 k e]; exact k2.below.obj k o hk) ⟨k2.below.req.imm, k2.below.req.acc, fun k o hk => by
     show (if k = w.heap.size + 1 then some (.loop (rec .busy none)) else g4.obj k) = some o
     rw [if_neg (hne0 k o hk)]; exact k2.below.req.obj k o hk⟩
   have hD5 : Dk w0 (fun k => if k = w.heap.size + 1 then some (.loop (rec .busy none)) else g4.obj k) a4 (w4.putObj (w.heap.size + 1) (.loop (rec .busy none))) := by
    refine ⟨hd4.1, fun d hd => ?_⟩
    obtain ⟨D, e1, e2, e3, e4⟩ := hd4.2 d hd
    have hne : D ≠ w.heap.size + 1 := by rintro rfl; rw [hl4] at e2; cases e2
    exact ⟨D, e1, (hh5 D hne).trans e2, by show (if D = w.heap.size + 1 then _ else g4.obj D) = none; rw [if_neg hne, k1.obj]; exact e3, e4⟩
   refine wpIn_mono (k4 _ a4 _ R5 k3.withObj.withObj hD5 (some (w.heap.size + 1)) (.inr hrf.2)) ?_
   rintro e a6 w6 ⟨_, g6, fr6, T6, q1, q2, q3, q4⟩
   cases e with
   | normal =>
    have hg6 : g6.obj = fun k => if k = w.heap.size + 1 then some (.loop (rec .busy none)) else g4.obj k := q1.obj
    have hl6 := (q2.below.obj (w.heap.size + 1) (.loop (rec .busy none)) (by rw [hg6]; simp)).1
    have hlt6 : w.heap.size + 1 < w6.heap.size := (Array.getElem?_eq_some_iff.1 hl6).1
    have hbr : ({ rec .busy none with state := if (none : Option Code).isNone then .ready else .done, pending := none } : Loop) = rec .ready none := by rw [hrec]; rfl
    have he := run_endRound (P := P) none hl6
    rw [hbr] at he
    have he : (Instr.endRound (w.heap.size + 1) none).run P w6 = .ok (.bool true) (w6.putObj (w.heap.size + 1) (.loop (rec .ready none))) := he
    have h34 : ∀ k, k ≠ w.heap.size + 1 → g6.obj k = g3.obj k := fun k hk => by rw [hg6]; simp only [if_neg hk]; rw [k1.obj]
    have R6x : Rel w0 (g6.withObj fun k => if k = w.heap.size + 1 then none else g3.obj k) T6 w6 := q2.withObj rfl (fun k o hk => by
     split at hk
     ·cases hk
     ·rename_i e; exact q2.below.obj k o (by rw [h34 k e]; exact hk)) ⟨q2.below.req.imm, q2.below.req.acc, fun k o hk => by
      show (if k = w.heap.size + 1 then none else g3.obj k) = some o
      rw [if_neg (hne0 k o hk)]; exact hsub0.obj k o hk⟩
    have hh7 : ∀ k, k ≠ w.heap.size + 1 → (w6.putObj (w.heap.size + 1) (.loop (rec .ready none))).heap[k]? = w6.heap[k]? := fun k hk => World.putObj_heap_other hk
    have R6y := R6x.putObj (o' := .loop (rec .ready none)) hl6 rfl (by show (if _ then none else _) = none; rw [if_pos rfl]) (by omega)
    have R7 : Rel w1 ((g6.withObj fun k => if k = w.heap.size + 1 then none else g3.obj k).withObj g3.obj) T6 (w6.putObj (w.heap.size + 1) (.loop (rec .ready none))) := R6y.withObj rfl (fun k o hk => by
     by_cases e : k = w.heap.size + 1
     ·subst e; rw [hl3g] at hk; cases hk; exact ⟨World.putObj_heap_same hlt6, rfl⟩
     ·rw [hh7 k e]; exact q2.below.obj k o (by rw [h34 k e]; exact hk)) ⟨fun b i u hu => q1.imm _ _ _ (k1.imm _ _ _ (r3.below.req.imm _ _ _ hu)), fun l n u hu => q1.acc _ _ _ (k1.acc _ _ _ (r3.below.req.acc _ _ _ hu)), r3.below.req.obj⟩
    exact ⟨.bool true, _, he, .bool true, (g6.withObj fun k => if k = w.heap.size + 1 then none else g3.obj k).withObj g3.obj, .v (.bool true), T6, rfl, ⟨fun b i u hu => q1.imm _ _ _ (k1.imm _ _ _ hu), fun l n u hu => q1.acc _ _ _ (k1.acc _ _ _ hu), rfl⟩, R7, .v _ rfl, rfl, q4.1, q4.2⟩
   | exit n => exact q4.elim
   | goto n => exact q4.elim
   | ret => exact q4.elim
   | panic ch => exact q4.elim
   | outgrown => exact q4.elim
  | exit n => exact k4.elim
  | goto n => exact k4.elim
  | ret => exact k4.elim
  | panic ch => exact k4.elim
  | outgrown => exact k4.elim
 refine ⟨w.heap.size + 1, [{ target := .collected w.heap.size, args := #[] }], W1, { target := .fn (.func gf) cap, args := #[.func (.yield (w.heap.size + 1)) #[] #[]] }, W1, gf, #[.func (.yield (w.heap.size + 1)) #[] #[]] ++ cap, W1, ?_, ?_, fun _ _ => trivial, ?_, fun h => by simp [fz, Fence.wide] at h, ?_⟩
 ·rw [← hW1, hrec]; exact run_enterLoop_outer _ _ _ _ _
 ·simp only [resolve, hg]
  simp [go_sem]
 ·unfold okF at hok
  split at hok
  ·rename_i fn' hfn'
   simp only [Bool.and_eq_true, Bool.not_eq_true'] at hok
   obtain ⟨hb, hname⟩ := hok
   have hbn : ¬ fn'.body = none := by intro e; simp [e] at hb
   have hname' : ¬ fn'.name = "runtime.NumGoroutine" := by simpa using hname
   simp [invoke, callFunc, hfn', hname', hbn]
  ·cases hok
 ·refine callsIn_fz.2 ((hit _ w1 hYK (X []) (.refl _) (g.withObj (ncs W1)) _ W1 R1 ?_).mono ?_)
  ·have : RepL (g.withObj (ncs W1)) ([.v (.func (.yield (w.heap.size + 1)) #[] #[])] ++ cap.toList.map .v) ([.func (.yield (w.heap.size + 1)) #[] #[]] ++ cap.toList) := (RepL.cons (.v _ rfl) (RepL.nil _)).append (hcapR _)
   simpa using this
  ·rintro e w2 ⟨r, g2, d, S2, rfl, k1, k2, k3, V, kV, k4⟩
   have hg2 : g2.obj = ncs W1 := k1.obj
   have hkeep : ∀ (k : Nat) (o : Obj), W1.heap[k]? = some o → nc o = true → w2.heap[k]? = some o := fun k o h1 h2 => (k2.below.obj k o (by rw [hg2]; exact ncs_mk h1 h2)).1
   have hl2 := hkeep _ _ hL1 rfl
   have hK2 := hkeep _ _ hK1 rfl
   have hpend : (rec .ready none).pending = none := by rw [hrec]
   obtain ⟨o', hend⟩ : ∃ o', (Instr.endLoop (w.heap.size + 1)).run P w2 = .ok none (w2.putObj (w.heap.size + 1) o') := ⟨_, by
    have := run_endLoop (P := P) hl2 (by rw [hrec]; simp)
    rw [hpend] at this
    exact this⟩
   refine ⟨none, _, hend, ?_⟩
   have hoth : ∀ k, k ≠ w.heap.size + 1 → (w2.putObj (w.heap.size + 1) o').heap[k]? = w2.heap[k]? := fun k hk => World.putObj_heap_other hk
   have RV : Rel w1 g2 (X V) w2 := k2.has k4 (nb _) (na _)
   have Rb : Rel w0 (g2.withObj g.obj) (X V) w2 := RV.withObj rfl (fun k o hk => by
    obtain ⟨p1, p2⟩ := h1.below.obj k o hk
    exact ⟨hkeep k o ((hb1.block k (Array.getElem?_eq_some_iff.1 p1).1).trans p1) p2, p2⟩) ⟨fun b i u hu => k1.imm _ _ _ (h1.below.req.imm _ _ _ hu), fun l n u hu => k1.acc _ _ _ (h1.below.req.acc _ _ _ hu), h1.below.req.obj⟩
   refine ⟨?_, g2.withObj g.obj, fr, X V, ⟨k1.imm, k1.acc, rfl⟩, Rb.putObj hl2 rfl (hgl _ (by omega)) (by omega), ?_, hdone V kV⟩
   ·refine ⟨?_, ?_⟩
    ·show ({ target := .collected w.heap.size, args := #[] } :: a.defers : List Deferred).Nodup
     rw [List.nodup_cons]
     refine ⟨fun hm => ?_, h3.1⟩
     obtain ⟨D, e1, e2, _⟩ := h3.2 _ hm
     have : w.heap.size = D := by injection e1 with e1 _; injection e1
     subst this
     have := (Array.getElem?_eq_some_iff.1 e2).1
     omega
    ·intro d hd
     rcases List.mem_cons.1 hd with rfl | hd
     ·exact ⟨_, rfl, (hoth _ (by omega)).trans hK2, hgl _ (Nat.le_refl _), by omega⟩
     ·obtain ⟨D, e1, e2, e3, e4⟩ := h3.2 d hd
      have hlt := (Array.getElem?_eq_some_iff.1 e2).1
      exact ⟨D, e1, (hoth D (by omega)).trans (hkeep D _ ((hb1.block D hlt).trans e2) rfl), e3, e4⟩
   ·have : RepL g2 fr a.tmps.toList := h2k.mono k1
    exact this.withObj
theorem awp_rangeFunc {α : Type} (X : List α → St) (enc : α → List DV) (V : List α) {fo : Operand} {ps : Array Tmp} {assign body : Code} {fr : List DV} {S : St} {Q : Exit → List DV → St → Prop} {gf : FuncId} {cap : Array Value}
  (hf : ev fr fo = .v (.func (.func gf) #[] cap)) (hok : okF P gf = true) (hcap : cap.toList.all (fun u => u.oneCell') = true) (hrf : (noRF assign && noRF body) = true)
  (h0 : X [] = S) (hdb : ∀ pre, (X pre).box.map (·.1) = (X []).box.map (·.1)) (hda : ∀ pre, (X pre).acc.map (·.1) = (X []).acc.map (·.1)) (hps : ∀ x, (enc x).length = ps.size)
  (hbody : ∀ pre x T, (pre ++ [x]) <+: V → Has (X pre) T → AWp P w0 assign (setPs ps.toList (enc x) fr) T (thenQ (fun fr1 T1 => AWp P w0 body fr1 T1 (thenQ (fun _ T' => Has (X (pre ++ [x])) T' ∧ Kp (X pre) T T') fun _ _ _ => False)) fun _ _ _ => False))
  (hit : ∀ (l : Nat) (w1 : W0), YK P w1 l X enc V → ∀ T, Has (X []) T → ACall P w1 gf (.v (.func (.yield l) #[] #[]) :: cap.toList.map .v) T fun _ T' => Has (X V) T')
  (hdone : Q .normal fr (X V)) : AWp P w0 (.rangeFunc fo ps assign body) fr S Q :=
 awp_rangeFuncO X enc (· <+: V) (· = V) hf hok hcap hrf h0 hdb hda hps hbody (fun l w1 hy T hT => (hit l w1 hy T hT).mono fun _ _ h => ⟨V, rfl, h⟩) fun V' e => e ▸ hdone
theorem rangeK {α : Type} (ss : List Nat := []) (X : List α → St) (enc : α → List DV) (V : List α) {fo : Operand} {ps : Array Tmp} {assign body : Code} {fr : List DV} {S : St} {Q : Exit → List DV → St → Prop} {gf : FuncId} {cap : Array Value}
  (hm : P.follows .mixedOrders = true) (hc : (okC ss assign && okC ss body && noRF assign && noRF body && okF P gf) = true) (hf : ev fr fo = .v (.func (.func gf) #[] cap)) (hcap : cap.toList.all (fun u => u.oneCell') = true)
  (h0 : X [] = S) (hdb : ∀ pre, (X pre).box.map (·.1) = (X []).box.map (·.1)) (hda : ∀ pre, (X pre).acc.map (·.1) = (X []).acc.map (·.1)) (hps : ∀ x, (enc x).length = ps.size)
  (hit : ∀ (l : Nat) (w1 : W0), YK P w1 l X enc V → ∀ T, Has (X []) T → ACall P w1 gf (.v (.func (.yield l) #[] #[]) :: cap.toList.map .v) T fun _ T' => Has (X V) T')
  (hbody : ∀ pre x T, (pre ++ [x]) <+: V → Has (X pre) T → vw P w0 ss assign (setPs ps.toList (enc x) fr) T (thenQ (fun fr1 T1 => vw P w0 ss body fr1 T1 (thenQ (fun _ T' => Has (X (pre ++ [x])) T' ∧ Kp (X pre) T T') fun _ _ _ => False)) fun _ _ _ => False))
  (hdone : Q .normal fr (X V)) : AWp P w0 (.rangeFunc fo ps assign body) fr S Q := by
 simp only [Bool.and_eq_true] at hc
 obtain ⟨⟨⟨⟨c1, c2⟩, c3⟩, c4⟩, c5⟩ := hc
 refine awp_rangeFunc X enc V hf c5 hcap (by rw [c3, c4]; rfl) h0 hdb hda hps (fun pre x T hV hT => ?_) hit hdone
 refine (vw_sound hm assign c1 (hbody pre x T hV hT)).mono ?_
 intro e fr' S' h
 cases e <;> first | exact vw_sound hm body c2 h | exact h
theorem n_vw_rangeFunc {ss : List Nat} {fr : List DV} {S : St} {Q : Exit → List DV → St → Prop} (f : Operand) (ps : Array Tmp) (a b : Code) : vw P w0 ss (.rangeFunc f ps a b) fr S Q = @AL P w0 fr S ⟨((.rangeFunc f ps a b), Q)⟩ := rfl
theorem n_callY (l : Nat) (ds : List DV) (S : St) (K : DV → St → Prop) : vCall P w0 (.v (.func (.yield l) #[] #[])) ds S K = shrs S ds fun ds S => @YC P w0 l ds S ⟨K⟩ := by
 simp [vCall]
@[congr] theorem c_YC {l : Nat} {ds ds' : List DV} {S S' : St} [K : Cn (DV → St → Prop)] (h1 : ds = ds') (h2 : S = S') : YC P w0 l ds S = YC P w0 l ds' S' := by cases h1; cases h2; rfl
theorem useY {l : Nat} {args args' : List DV} {S : St} {K K' : DV → St → Prop} (h : YCall P w0 l args' S K') (hk : ∀ d S', K' d S' → K d S') (ha : WkL args args' := by exact WkL.refl _) : @YC P w0 l args S ⟨K⟩ := by
 intro g vs w h1 h2
 obtain ⟨fn, t, a, b, q1, q2⟩ := h g vs w h1 (ha.spec h2)
 refine ⟨fn, t, a, b, q1, fun ro => (q2 ro).mono ?_⟩
 rintro e w' ⟨r, g', d, S', rfl, x1, x2, x3, x4⟩
 exact ⟨r, g', d, S', rfl, x1, x2, x3, hk _ _ x4⟩
theorem lk_up_same {α : Type} (l : List (Nat × α)) (b : Nat) (v : α) : lk (up l b v) b = (lk l b).map fun _ => v := by
 induction l with
 | nil => rfl
 | cons p t ih => obtain ⟨k, x⟩ := p; simp only [up, lk]; split <;> simp_all [lk]
theorem lk_up_ne {α : Type} {b c : Nat} (h : ¬ b = c) (l : List (Nat × α)) (v : α) : lk (up l b v) c = lk l c := by
 induction l with
 | nil => rfl
 | cons p t ih =>
  obtain ⟨k, x⟩ := p
  simp only [up]
  split
  ·rename_i e; subst e; simp [lk, h]
  ·simp only [lk, ih]
theorem up_up {α : Type} (l : List (Nat × α)) (b : Nat) (v v' : α) : up (up l b v) b v' = up l b v' := by
 induction l with
 | nil => rfl
 | cons p t ih => obtain ⟨k, x⟩ := p; simp only [up]; split <;> simp_all [up]
theorem Has.consB {X T : St} (h : Has X T) (b : FN T.box) (ds : List DV) {A : List (Nat × Ob)} (hA : A = T.acc) : Has X ⟨(b.n, ds) :: T.box, A⟩ := ⟨fun c x hc => by
 have := h.box c x hc
 simp only [lk]
 rw [if_neg (fun e => by rw [← e, fn_lk b] at this; cases this)]; exact this, fun l o hl => by rw [hA]; exact h.acc l o hl⟩
theorem Has.up {b : Nat} {x v : List DV} {R : List (Nat × List DV)} {A : List (Nat × Ob)} {T : St} (h : Has ⟨(b, x) :: R, A⟩ T) : Has ⟨(b, v) :: R, A⟩ ⟨up T.box b v, T.acc⟩ := ⟨fun c y hc => by
 have hb := h.box b x (by simp [lk])
 simp only [lk] at hc
 split at hc
 ·rename_i e; subst e; cases hc; rw [lk_up_same, hb]; rfl
 ·rename_i e
  rw [lk_up_ne e]
  exact h.box c y (by simp only [lk, if_neg e]; exact hc), h.acc⟩
theorem Kp.up {b : Nat} {v : List DV} {X T : St} (h : (lk X.box b).isSome = true) : Kp X T ⟨up T.box b v, T.acc⟩ := ⟨fun c x hc hx => by
 have : ¬ b = c := by rintro rfl; rw [hc] at h; cases h
 rw [lk_up_ne this]; exact hx, fun _ _ _ h => h⟩
theorem Kp.trans {X X' T1 T2 T3 : St} (h : Kp X T1 T2) (k : Kp X' T2 T3) (hb : ∀ b, lk X.box b = none → lk X'.box b = none) (ha : ∀ l, lk X.acc l = none → lk X'.acc l = none) : Kp X T1 T3 :=
 ⟨fun b x h1 h2 => k.box b x (hb b h1) (h.box b x h1 h2), fun l o h1 h2 => k.acc l o (ha l h1) (h.acc l o h1 h2)⟩
theorem Kp.consB {X T T' : St} (h : Kp X T T') (b : FN T'.box) (ds : List DV) {A : List (Nat × Ob)} (hA : A = T'.acc) : Kp X T ⟨(b.n, ds) :: T'.box, A⟩ := ⟨fun c x hc hx => by
 have := h.box c x hc hx
 simp only [lk]
 rw [if_neg (fun e => by rw [← e, fn_lk b] at this; cases this)]; exact this, fun l o h1 h2 => by rw [hA]; exact h.acc l o h1 h2⟩
theorem n_convS_i (k0 : IntKind) (b ke kb : TK) (S : St) (x : DV) (K : DV → Prop) : vConvS (.int k0) b ke kb S x K = vConv (.int k0) b x K := rfl
theorem n_convS_sb (e : Nat) (i : Bool) (ke kb : TK) (S : St) (b : ByteArray) (K : DV → Prop) : vConvS .str (.sl e 1 1 i) ke kb S (.v (.string b)) K = (b.size < 281474976710656 ∧ kb = .int .u8 ∧ K (.sl 1 false (b.data.toList.map fun c => .v (.int .u8 c.toNat)))) := rfl
theorem n_convS_b (e s b : Nat) (i : Bool) (ke kb : TK) (S : St) (x : DV) (K : DV → Prop) : vConvS (.sl e s b i) .str ke kb S x K = (ke = .int .u8 ∧ notV x = true ∧ contK S x fun s xs => s = 1 ∧ okBy xs = true ∧ K (.v (.string (strOfNums (byD xs))))) := rfl
theorem n_notV_acc (l n : Nat) : notV (.acc l n) = true := rfl
theorem n_notV_sl (s : Nat) (f : Bool) (xs : List DV) : notV (.sl s f xs) = true := rfl
theorem n_byD_rep (n : Nat) (a : Int) : byD (List.replicate n (DV.v (.int .u8 a))) = List.replicate n a := (by_rep n a).1
theorem n_okBy_rep (n : Nat) (a : Int) : okBy (List.replicate n (DV.v (.int .u8 a))) = true := (by_rep n a).2
theorem Wk_slE {s : Nat} {f : Bool} {xs ys : List DV} (h : WkL xs ys) : Wk (.sl s f xs) (.sl s false ys) = True := eq_true ((Wk.full s f xs).trans (Wk.sl h))
theorem shrB (b j : Nat) {c : Code} {fr : List DV} {S : St} {Q : Exit → List DV → St → Prop} {ds : List DV} {l s : Nat} {xs : List DV} (hb : lk S.box b = some ds) (hj : ds[j]? = some (.acc l xs.length)) (hl : lk S.acc l = some (.arr s xs))
  (h : AWp P w0 c fr ⟨Aml.up S.box b (ds.set j (.sl s false xs)), Aml.up S.acc l (.tl s xs)⟩ Q) : AWp P w0 c fr S Q := by
 intro g a w h1 h2 h3
 obtain ⟨ow, o1, o2⟩ := h1.own
 obtain ⟨q1, q2, q3, us, e, q4, q5, q6⟩ := o1 _ _ (lk_mem hb)
 have hlt : j < us.toList.length := by rw [← q5.len]; exact (List.getElem?_eq_some_iff.1 hj).1
 have hr := q5.at_ j _ _ hj (List.getElem?_eq_getElem hlt)
 obtain ⟨o, c', hu⟩ : ∃ o c', us.toList[j] = .slice o xs.length c' ∧ g.acc l xs.length = some (.slice o xs.length c') := by
  generalize us.toList[j] = u at hr
  cases hr with
  | acc _ _ o c h => exact ⟨o, c, rfl, h⟩
 obtain ⟨g', hle, hR, hrep⟩ := h1.freeze hl hu.2
 have hR' := hR.wkBox (ds' := ds.set j (.sl s false xs)) (b := b) hb ?_
 ·exact wpA_mono (h g' a w hR' (h2.mono hle) (hle.dk h3)) fun _ _ _ k => k.of_le hle
 ·intro us' e' hh hr2
  rw [hh] at q4
  cases q4
  exact repL_same hr2 (List.getElem?_eq_getElem hlt) (by rw [hu.1]; exact hrep)
end
attribute [go_sem ↓] n_convS_i n_convS_sb n_convS_b n_vw_rangeFunc
attribute [go_sem] n_notV_acc n_notV_sl n_byD_rep n_okBy_rep Wk_slE n_callY lk_up_same lk_up_ne up_up Option.map_some
end Aml
namespace Aml
open Go Go.RowKit
def arrK (d : DV) (S : St) (K : DV → St → Prop) : Prop := match d with
 | .sl s true xs => ∀ l, nin S.acc l → K (.acc l xs.length) ⟨S.box, (l, .arr s xs) :: S.acc⟩
 | _ => False
section
variable {P : Program} {w0 : W0}
theorem buildSlice_arr {g : Gh} {S : St} {w : World} (h1 : Rel w0 g S w) {t len : Nat} {parts : List (Nat × DV)} {vs : List (Nat × Value)} (hx : parts.map (·.1) = vs.map (·.1)) (hR : RepL g (parts.map (·.2)) (vs.map (·.2))) {K : DV → St → Prop}
  {e : Nat} (hte : ∀ e' s b i, tk P t = .sl e' s b i → e' = e) (h : vBuildSlice (tk P t) (zD P e) len parts fun d => arrK d S K) :
  ∃ d u w' g' S', (Instr.buildSlice t len vs.toArray).run P w = .ok u w' ∧ g.le g' ∧ Rel w0 g' S' w' ∧ Rep g' d u ∧ K d S' := by
 unfold vBuildSlice at h
 split at h
 ·rename_i e' s by' hk
  obtain rfl := hte _ _ _ _ hk
  obtain ⟨hok, hzl, hbig, h⟩ := h
  obtain ⟨hu, hs, _, hei⟩ := tk_sl hk
  obtain ⟨ti, z, hi, hz, hzs, hpos⟩ := okEl_spec hei
  have hsz : ti.size = s := by simpa [Program.cellsOf, hi] using hs
  have hzD : zD P e' = cv z := by simp [zD, hi, hz]
  have hrz : Rep g (zD P e') z := hzD ▸ rep_cv g z
  split at h
  ·rename_i xs hf
   have hpw := pw_made (z := z) (s := s) (n := len) (by omega) (by omega)
   obtain ⟨cs', us', q1, q2, q3, q4, q5⟩ := fillE_ok (g := g) (s := s) parts vs (List.replicate len (zD P e')) (List.replicate len z) ((Array.range (len * s)).map (z.cells[· % z.cells.size]!)) xs hx hR
    ⟨by simp, fun i d u a b => by
     rw [List.getElem?_replicate] at a b
     split at a
     ·rename_i hlt; rw [if_pos hlt] at b; simp only [Option.some.injEq] at a b; subst a; subst b; exact hrz
     ·cases a⟩ hpw (fun u hu x hx => by rw [List.eq_of_mem_replicate hu] at hx; exact hrz.one hok x hx) hf
   have hlen : xs.length = len := by simpa using q5
   have hlu : us'.length = len := by rw [← q2.len]; exact hlen
   have hrun : (Instr.buildSlice t len vs.toArray).run P w = .ok (.slice (some ⟨w.heap.size, 0, none⟩) len len) (w.alloc (.cells cs' e')) := by
    have hb : ¬ (len * s > 2 ^ 24) := by omega
    simp only [Instr.buildSlice]
    by_cases hls : len * s = 0
    ·have hl0 : len = 0 := by rcases Nat.mul_eq_zero.1 hls with h' | h' <;> omega
     have hcs : ((Array.range (len * s)).map (z.cells[· % z.cells.size]!)) = #[] := by simp [hls]
     rw [hcs] at q1
     have hr0 : ∀ f : Nat → Value, (Array.range 0).map f = #[] := fun f => by simp
     simp only [run_underlying hu, Go.sizeOf, typeInfo, hi, hsz, hls, newRow, Sem.run_bind, Sem.run_pure, Result.andThen_ok, run_program, hr0, if_true]
     rw [q1]
     simp [hl0]
    ·simp [run_underlying hu, Go.sizeOf, typeInfo, hi, hsz, hls, hb, zeroValue, hz, q1, newRow]
   have hlm : len ≤ maxLen := by
    have : len * 1 ≤ len * s := Nat.mul_le_mul_left len (by omega)
    unfold maxLen; omega
   have hcsz : cs'.size = len * s := by
    have := q3.size
    rw [hlu] at this
    simpa using this
   obtain ⟨l, g', hle, hne, hRel, hA⟩ := h1.newArr (s := s) (xs := xs) (us := us') (c := len) (below_alloc w (.cells cs' e')) (by omega) (Nat.le_refl _) (heap_alloc_new w _) hcsz (by omega) hlm q2 q3.each q4 (fun i u j x a b => by have := q3.at_ i u j x a b; simpa using this) (one_of_rows (by omega) (by rw [Array.length_toList, hcsz, hlu]) q3.each q4 (fun i u j x a b => by have := q3.at_ i u j x a b; simpa using this))
   rw [hlen] at hA
   have h' := h l (nin_of hne)
   rw [hlen] at h'
   exact ⟨_, _, _, _, _, hrun, hle, hRel, hA, h'⟩
  ·exact h.elim
 ·exact h.elim
theorem y_buildArr {o : Oper} {t len : Nat} {parts : List (Nat × Operand)} (ho : o.op = .buildSlice t len parts.toArray) {ρD : Operand → DV} {S : St} {K : DV → St → Prop}
  (h : shrs S (parts.map fun p => ρD p.2) fun ds S => vBuildSlice (tk P t) (zD P (elT P t)) len ((parts.map (·.1)).zip ds) fun d => arrK d S K) : YieldsE P w0 o ρD S K := by
 intro g w ρ h1 h2 hcst
 have hR := repL_of_ops (g := g) (ρD := ρD) (ρ := ρ) parts (fun p hp => h2 p.2 (by simp only [ho, Op.operands]; simp; exact ⟨p.1, hp⟩))
 obtain ⟨g', ds, S', l1, R1, r1, k1⟩ := shrs_ok _ h1 hR h
 have hlen : (parts.map (·.1)).length = ds.length := by have := r1.len; simpa using this.symm
 obtain ⟨d, u, w', g2, S2, e1, l2, R2, e2, e3⟩ := buildSlice_arr (P := P) R1 (t := t) (len := len) (parts := (parts.map (·.1)).zip ds) (vs := parts.map fun p => (p.1, ρ p.2)) (by rw [zip_fst hlen]; simp) (by rw [zip_snd hlen]; simpa [Function.comp_def] using r1)
  (e := elT P t) (fun e' s b i hk => by simp [elT, hk]) k1
 have hrun : (execOp ρ o).run P w = .ok (.value u) w' := by
  have e : (parts.toArray.map fun (i, x) => (i, ρ x)) = (parts.map fun p => (p.1, ρ p.2)).toArray := by simp
  simp only [execOp, ho, Sem.run_bind]
  rw [e, e1]
  rfl
 rw [hrun]
 exact ⟨g2, d, S2, l1.trans l2, R2, e2, e3⟩
def opA (P : Program) (w0 : W0) (op : Op) (fr : List DV) (S : St) (K : DV → St → Prop) : Prop := match op with
 | .buildSlice t len parts => shrs S (parts.toList.map fun p => ev fr p.2) fun ds S => vBuildSlice (tk P t) (zD P (elT P t)) len ((parts.toList.map (·.1)).zip ds) fun d => arrK d S K
 | op => vcOp P w0 op fr S K
def vcLA (P : Program) (w0 : W0) (ops : Array Oper) (K : List DV → St → Prop) : List Oper → List DV → St → Prop
 | [], fr, S => K fr S
 | o :: rest, fr, S => guardK ops fr o.guard (fun fr => opA P w0 o.op fr S fun d S' => vcLA P w0 ops K rest (pt fr o.dst d) S') (fun fr => vcLA P w0 ops K rest (pt fr o.dst ud) S)
theorem opA_sound {o : Oper} {fr : List DV} {S : St} {K : DV → St → Prop} (hs : okSl o.op = true) (h : opA P w0 o.op fr S K) : YieldsE P w0 o (ev fr) S K := by
 cases hop : o.op with
 | buildSlice t len parts => rw [hop] at h; exact y_buildArr (parts := parts.toList) (by simpa using hop) h
 | _ => rw [hop] at h; exact vcOp_sound hs (by rw [hop]; exact h)
theorem vcLA_sound {ops : Array Oper} {K : List DV → St → Prop} : ∀ (l : List Oper) {fr : List DV} {S : St}, l.all (fun o => okSl o.op) = true → vcLA P w0 ops K l fr S → LWp P w0 ops K l fr S
 | [], fr, S, _, h => h
 | o :: rest, fr, S, hs, h => by
  simp only [List.all_cons, Bool.and_eq_true] at hs
  refine guardK_mono (fun fr h => ?_) (fun fr h => vcLA_sound rest hs.2 h) h
  exact yields_mono (fun d S h => vcLA_sound rest hs.2 h) (opA_sound hs.1 h)
theorem arrR {id : Nat} {l : List Oper} {fr : List DV} {S : St} {Q : Exit → List DV → St → Prop} (hs : l.all (fun o => okSl o.op) = true) (h : vcLA P w0 l.toArray (fun fr S => normF fr fun fr => Q .normal fr S) l fr S) : AWp P w0 (.region id l.toArray false) fr S Q :=
 awp_region (vcLA_sound l hs h)
section
variable {ops : Array Oper} {fr : List DV} {S : St} {rest : List Oper} {dst : Option Tmp} {op : Op} {ty : TypeId} {pos : String} {aft : Array Edge} {K : List DV → St → Prop} {K2 : DV → St → Prop}
theorem a_nil : vcLA P w0 ops K [] fr S = K fr S := rfl
theorem a_none : vcLA P w0 ops K (⟨dst, op, ty, pos, aft, none⟩ :: rest) fr S = opA P w0 op fr S fun d S' => vcLA P w0 ops K rest (pt fr dst d) S' := rfl
theorem a_load (t : TypeId) (x : Operand) : opA P w0 (.load t x) fr S K2 = vcOp P w0 (.load t x) fr S K2 := rfl
theorem a_assign (x : Operand) : opA P w0 (.assign x) fr S K2 = vcOp P w0 (.assign x) fr S K2 := rfl
theorem a_buildSlice (t : TypeId) (len : Nat) (parts : List (Nat × Operand)) : opA P w0 (.buildSlice t len parts.toArray) fr S K2 = (shrs S (parts.map fun p => ev fr p.2) fun ds S => vBuildSlice (tk P t) (zD P (elT P t)) len ((parts.map (·.1)).zip ds) fun d => arrK d S K2) := rfl
theorem a_arrK (s : Nat) (xs : List DV) : arrK (.sl s true xs) S K2 = ∀ l : FN S.acc, K2 (.acc l.n xs.length) ⟨S.box, (l.n, .arr s xs) :: S.acc⟩ := n_fresh S.acc fun l => K2 (.acc l xs.length) ⟨S.box, (l, .arr s xs) :: S.acc⟩
@[congr] theorem c_opA {fr' : List DV} {S' : St} (h1 : fr = fr') (h2 : S = S') : opA P w0 op fr S K2 = opA P w0 op fr' S' K2 := by cases h1; cases h2; rfl
@[congr] theorem c_vcLA {l : List Oper} {fr' : List DV} {S' : St} (h1 : fr = fr') (h2 : S = S') : vcLA P w0 ops K l fr S = vcLA P w0 ops K l fr' S' := by cases h1; cases h2; rfl
@[congr] theorem c_arrK {d d' : DV} {S' : St} (h1 : d = d') (h2 : S = S') : arrK d S K2 = arrK d' S' K2 := by cases h1; cases h2; rfl
end
end
attribute [go_sem ↓] a_nil a_none a_load a_assign a_buildSlice a_arrK
end Aml
namespace Aml
open Go Go.RowKit
section
variable {P : Program} {w0 : W0}
end
end Aml
namespace Aml
open Go Go.RowKit
inductive Tr where
 | leaf | head (t : Tr) | snd (t : Tr) | both (t u : Tr)
def vwT (P : Program) (w0 : W0) (K : List DV → St → Prop) : Tr → List Oper → List DV → St → Prop
 | .leaf, [], fr, S => K fr S
 | .head t, o :: r, fr, S => vcOp P w0 o.op fr S fun d S' => vwT P w0 K t r (pt fr o.dst d) S'
 | .snd t, p :: o :: r, fr, S => vcOp P w0 o.op fr S fun d S' => vwT P w0 K t (p :: r) (pt fr o.dst d) S'
 | .both t u, p :: o :: r, fr, S => (vcOp P w0 p.op fr S fun d S' => vwT P w0 K t (o :: r) (pt fr p.dst d) S') ∧ vcOp P w0 o.op fr S fun d S' => vwT P w0 K u (p :: r) (pt fr o.dst d) S'
 | _, _, _, _ => False
section
variable {P : Program} {w0 : W0}
section
variable {K : List DV → St → Prop} {fr : List DV} {S : St} {t u : Tr} {o p : Oper} {r : List Oper} {dst dst2 : Option Tmp} {op op2 : Op} {ty ty2 : TypeId} {pos pos2 : String} {aft aft2 : Array Edge}
@[congr] theorem c_vwT {fr' : List DV} {S' : St} (h1 : fr = fr') (h2 : S = S') : vwT P w0 K t r fr S = vwT P w0 K t r fr' S' := by cases h1; cases h2; rfl
end
end
end Aml
namespace Aml
open Go Go.RowKit
section
variable {P : Program} {w0 : W0}
theorem yields_q {o : Oper} {ρD : Operand → DV} {S : St} {r : DV} (h : YieldsE P w0 o ρD S fun d S' => shr S' d fun d' S'' => d' = r ∧ Sub S S'') : YieldsE P w0 o ρD S fun d S' => d = r ∧ S' = S := by
 intro g w ρ h1 h2 hcst
 have := h g w ρ h1 h2 hcst
 split at this
 ·obtain ⟨g', d, S', a, b, c, e⟩ := this
  obtain ⟨g2, d2, S2, q1, q2, q3, q4, q5⟩ := shr_ok b c e
  exact ⟨g2, d2, S, a.trans q1, q2.forget q5.box q5.acc, q3, q4, rfl⟩
 ·obtain ⟨g', S', a, b, e⟩ := this
  have e : ud = r ∧ Sub S S' := e
  exact ⟨g', S, a, b.forget e.2.box e.2.acc, e.1, rfl⟩
 ·refine this.mono ?_
  rintro e w'' ⟨r', g', d, S', a, b, c, x, y⟩
  obtain ⟨g2, d2, S2, q1, q2, q3, q4, q5⟩ := shr_ok c x y
  exact ⟨r', g2, d2, S, a, b.trans q1, q2.forget q5.box q5.acc, q3, q4, rfl⟩
 ·refine fun ro => (this ro).mono ?_
  rintro e w'' ⟨r', g', d, S', a, b, c, x, y⟩
  obtain ⟨g2, d2, S2, q1, q2, q3, q4, q5⟩ := shr_ok c x y
  exact ⟨r', g2, d2, S, a, b.trans q1, q2.forget q5.box q5.acc, q3, q4, rfl⟩
 ·exact this
def vMakeQ (k : TK) (z x y : DV) (K : DV → Prop) : Prop := match k, x, y with
 | .sl _ s by' true, .v (.int _ n), .v (.int _ m) => okE z = true ∧ 0 ≤ n ∧ n ≤ m ∧ m * by' ≤ 140737488355328 ∧ m ≤ 9223372036854775807 ∧ K (.sl s false (List.replicate n.toNat z))
 | _, _, _ => False
def vConvZ (a b ke : TK) (x : DV) (K : DV → Prop) : Prop := match a, b, x with
 | .sl _ _ _ _, .str, .sl s _ xs => ke = .int .u8 ∧ s = 1 ∧ okBy xs = true ∧ K (.v (.string (strOfNums (byD xs))))
 | a, b, x => vConv a b x K
def opZ (P : Program) (w0 : W0) (op : Op) (fr : List DV) (S : St) (K : DV → Prop) : Prop := match op with
 | .makeSlice t x y => vMakeQ (tk P t) (zD P (elT P t)) (ev fr x) (ev fr y) K
 | .convert s d x => vConvZ (tk P s) (tk P d) (tk P (elT P s)) (ev fr x) K
 | op => vcOpQ P w0 op fr S K
def isQZ : Op → Bool
 | .makeSlice .. => true
 | op => isQ op
def LZ (P : Program) (w0 : W0) (S : St) (ops : Array Oper) (K : List DV → St → Prop) : List Oper → List DV → Prop
 | [], fr => K fr S
 | o :: rest, fr => selK (isQZ o.op) (guardK ops fr o.guard (fun fr => opZ P w0 o.op fr S fun d => LZ P w0 S ops K rest (pt fr o.dst d)) (fun fr => LZ P w0 S ops K rest (pt fr o.dst ud))) (vcL P w0 ops K (o :: rest) fr S)
theorem opZ_sound {o : Oper} {fr : List DV} {S : St} {K : DV → Prop} (hs : okSl o.op = true) (h : opZ P w0 o.op fr S K) : ∃ d, QY P w0 S o fr d ∧ K d := by
 cases hop : o.op with
 | makeSlice t x y =>
  rw [hop] at h
  simp only [opZ, vMakeQ] at h
  split at h
  ·rename_i e s by' k1 n k2 m hk hx hy
   obtain ⟨q1, q2, q3, q4, q5, q6⟩ := h
   refine ⟨_, yields_q (y_makeSlice hop ?_), q6⟩
   rw [hk, hx, hy]
   refine ⟨q1, q2, q3, q4, q5, fun l hl => ?_⟩
   show shr _ _ _
   unfold shr shr1
   simp only [lk, if_true, List.length_replicate, true_and]
   exact ⟨List.Sublist.refl _, by show List.Sublist S.acc (up _ _ _); simp only [up, if_true]; exact List.sublist_cons_self _ _⟩
  ·exact h.elim
 | convert s d x =>
  rw [hop] at h hs
  simp only [opZ, vConvZ] at h
  split at h
  ·rename_i e c b i s0 f xs hk hd hx
   obtain ⟨q1, q2, q3, q4⟩ := h
   refine ⟨_, y_convS (K := fun d S' => d = _ ∧ S' = S) hop ?_, q4⟩
   rw [hk, hd, hx]
   exact ⟨q1, rfl, q2, q3, rfl, rfl⟩
  ·exact vcOpQ_sound (by rw [hop]; exact hs) (by rw [hop]; exact h)
 | _ => rw [hop] at h hs; exact vcOpQ_sound (by rw [hop]; exact hs) (by rw [hop]; exact h)
section
variable {ops : Array Oper} {K : List DV → St → Prop} {K2 : DV → Prop} {fr : List DV} {S : St} {r : List Oper} {dst : Option Tmp} {op : Op} {ty : TypeId} {pos : String} {aft : Array Edge}
theorem z_make (t : TypeId) (x y : Operand) : opZ P w0 (.makeSlice t x y) fr S K2 = vMakeQ (tk P t) (zD P (elT P t)) (ev fr x) (ev fr y) K2 := rfl
theorem z_conv (s d : TypeId) (x : Operand) : opZ P w0 (.convert s d x) fr S K2 = vConvZ (tk P s) (tk P d) (tk P (elT P s)) (ev fr x) K2 := rfl
theorem z_vmake (e s b : Nat) (z : DV) (k1 k2 : IntKind) (n m : Int) : vMakeQ (.sl e s b true) z (.v (.int k1 n)) (.v (.int k2 m)) K2 = (okE z = true ∧ 0 ≤ n ∧ n ≤ m ∧ m * b ≤ 140737488355328 ∧ m ≤ 9223372036854775807 ∧ K2 (.sl s false (List.replicate n.toNat z))) := rfl
theorem z_vconv (e c b : Nat) (i : Bool) (ke : TK) (s : Nat) (f : Bool) (xs : List DV) : vConvZ (.sl e c b i) .str ke (.sl s f xs) K2 = (ke = .int .u8 ∧ s = 1 ∧ okBy xs = true ∧ K2 (.v (.string (strOfNums (byD xs))))) := rfl
@[congr] theorem c_LZ {fr' : List DV} (h1 : fr = fr') : LZ P w0 S ops K r fr = LZ P w0 S ops K r fr' := by cases h1; rfl
@[congr] theorem c_opZ {fr' : List DV} (h1 : fr = fr') : opZ P w0 op fr S K2 = opZ P w0 op fr' S K2 := by cases h1; rfl
@[congr] theorem c_vMakeQ {k k' : TK} {z z' x x' y y' : DV} (h1 : k = k') (h2 : z = z') (h3 : x = x') (h4 : y = y') : vMakeQ k z x y K2 = vMakeQ k' z' x' y' K2 := by cases h1; cases h2; cases h3; cases h4; rfl
@[congr] theorem c_vConvZ {k k' q q' ke ke' : TK} {x x' : DV} (h1 : k = k') (h2 : q = q') (h3 : ke = ke') (h4 : x = x') : vConvZ k q ke x K2 = vConvZ k' q' ke' x' K2 := by cases h1; cases h2; cases h3; cases h4; rfl
end
end
attribute [go_sem ↓] z_make z_conv
attribute [go_sem] z_vmake z_vconv isQZ
end Aml
namespace Aml.Z
open Go Go.RowKit
def kX : Op → Nat
 | .load .. => 1
 | .alloc _ => 2
 | .call c => match c.callee with
  | .value _ => 1
  | .builtin .len => 0
  | .builtin .cap => 0
  | .builtin .min => 0
  | .builtin .max => 0
  | _ => 3
 | .move _ => 0
 | .assign _ => 0
 | .pick .. => 0
 | .fieldAddr .. => 0
 | .indexAddr .. => 0
 | .index .. => 0
 | .field .. => 0
 | .extract .. => 0
 | .nilCheck _ => 0
 | .binOp .. => 0
 | .unOp .. => 0
 | .convert .. => 0
 | .makeInterface .. => 0
 | .makeFunc .. => 0
 | .slice .. => 0
 | .build .. => 0
 | .buildSlice .. => 0
 | .makeSlice .. => 0
 | _ => 3
def Fr (S : St) (B : List (Nat × List DV)) : Prop := ∀ x, x ∈ B → nin S.box x.1
def bodyX (P : Program) (w0 : W0) (o : Oper) (fr : List DV) (S : St) (K : List DV → St → Prop) : Prop :=
 (kX o.op = 0 ∧ ∃ d, (∀ S', QY P w0 S' o fr d) ∧ K (pt fr o.dst d) S) ∨
 (kX o.op = 1 ∧ ∃ d, (∀ B, Fr S B → QY P w0 ⟨B ++ S.box, S.acc⟩ o fr d) ∧ K (pt fr o.dst d) S) ∨
 (kX o.op = 2 ∧ ∃ t, o.op = .alloc t ∧ okE (zD P t) = true ∧ ∀ b, nin S.box b → K (pt fr o.dst (.v (.pointer (some ⟨b, 0, none⟩)))) ⟨(b, cd (zD P t)) :: S.box, S.acc⟩) ∨
 (kX o.op = 3 ∧ YieldsE P w0 o (ev fr) S fun d S' => K (pt fr o.dst d) S')
def tauX (P : Program) (w0 : W0) (ops : Array Oper) (o : Oper) (fr : List DV) (S : St) (K : List DV → St → Prop) : Prop :=
 (wantB ops fr o.guard = some true ∧ bodyX P w0 o fr S K) ∨ (wantB ops fr o.guard = some false ∧ K (pt fr o.dst ud) S)
def okP (a b : Nat) : Bool := a == 0 || (a == 1 && decide (b < 3))
section
variable {P : Program} {w0 : W0} {ops : Array Oper} {md : Region.Mode}
theorem bodyX_mono {o : Oper} {fr : List DV} {S : St} {K K' : List DV → St → Prop} (h : ∀ fr S, K fr S → K' fr S) (b : bodyX P w0 o fr S K) : bodyX P w0 o fr S K' := by
 rcases b with ⟨c, d, q, k⟩ | ⟨c, d, q, k⟩ | ⟨c, t, ht, hz, k⟩ | ⟨c, q⟩
 ·exact .inl ⟨c, d, q, h _ _ k⟩
 ·exact .inr (.inl ⟨c, d, q, h _ _ k⟩)
 ·exact .inr (.inr (.inl ⟨c, t, ht, hz, fun b hb => h _ _ (k b hb)⟩))
 ·exact .inr (.inr (.inr ⟨c, yields_mono (fun d S hk => h _ _ hk) q⟩))
theorem tauX_mono {o : Oper} {fr : List DV} {S : St} {K K' : List DV → St → Prop} (h : ∀ fr S, K fr S → K' fr S) (b : tauX P w0 ops o fr S K) : tauX P w0 ops o fr S K' :=
 b.imp (fun ⟨a, b⟩ => ⟨a, bodyX_mono h b⟩) fun ⟨a, b⟩ => ⟨a, h _ _ b⟩
theorem bodyX_put {o : Oper} {fr : List DV} {S : St} {K : List DV → St → Prop} {dst : Option Tmp} {e : DV} (h1 : ∀ t, dst = some t → t ∉ o.looksAt ops) (h2 : ∀ t, dst = some t → o.dst ≠ some t) :
  bodyX P w0 o (pt fr dst e) S K ↔ bodyX P w0 o fr S fun fr' S' => K (pt fr' dst e) S' := by
 have hq : ∀ S d, QY P w0 S o (pt fr dst e) d ↔ QY P w0 S o fr d := fun S d =>
  ⟨yields_congr (fun x hx => ev_put (ops := ops) h1 x hx), yields_congr (fun x hx => (ev_put (ops := ops) h1 x hx).symm)⟩
 have hc : ∀ d, pt (pt fr dst e) o.dst d = pt (pt fr o.dst d) dst e := fun d => pt_comm fr e d h2
 have hy : ∀ K, YieldsE P w0 o (ev (pt fr dst e)) S K ↔ YieldsE P w0 o (ev fr) S K := fun K =>
  ⟨yields_congr (fun x hx => ev_put (ops := ops) h1 x hx), yields_congr (fun x hx => (ev_put (ops := ops) h1 x hx).symm)⟩
 unfold bodyX
 simp only [hq, hc, hy]
theorem tauX_put {o : Oper} {fr : List DV} {S : St} {K : List DV → St → Prop} {dst : Option Tmp} {e : DV} (h1 : ∀ t, dst = some t → t ∉ o.looksAt ops) (h2 : ∀ t, dst = some t → o.dst ≠ some t) :
  tauX P w0 ops o (pt fr dst e) S K ↔ tauX P w0 ops o fr S fun fr' S' => K (pt fr' dst e) S' := by
 unfold tauX
 rw [want_put h1, bodyX_put h1 h2, pt_comm fr e ud h2]
theorem bodyX_monoP {o : Oper} {fr : List DV} {S : St} {K K' : List DV → St → Prop} (h : ∀ e S, K (pt fr o.dst e) S → K' (pt fr o.dst e) S) (b : bodyX P w0 o fr S K) : bodyX P w0 o fr S K' := by
 rcases b with ⟨c, d, q, k⟩ | ⟨c, d, q, k⟩ | ⟨c, t, ht, hz, k⟩ | ⟨c, q⟩
 ·exact .inl ⟨c, d, q, h _ _ k⟩
 ·exact .inr (.inl ⟨c, d, q, h _ _ k⟩)
 ·exact .inr (.inr (.inl ⟨c, t, ht, hz, fun b hb => h _ _ (k b hb)⟩))
 ·exact .inr (.inr (.inr ⟨c, yields_mono (fun d S hk => h _ _ hk) q⟩))
theorem tauX_monoP {o : Oper} {fr : List DV} {S : St} {K K' : List DV → St → Prop} (h : ∀ e S, K (pt fr o.dst e) S → K' (pt fr o.dst e) S) (b : tauX P w0 ops o fr S K) : tauX P w0 ops o fr S K' :=
 b.imp (fun ⟨a, b⟩ => ⟨a, bodyX_monoP h b⟩) fun ⟨a, b⟩ => ⟨a, h _ _ b⟩
theorem tauX_comm {x y : Oper} (hap : x.apart ops y = true) (hk : okP (kX x.op) (kX y.op) = true) {fr : List DV} {S : St} {K : List DV → St → Prop} (h : tauX P w0 ops x fr S fun fr S => tauX P w0 ops y fr S K) :
  tauX P w0 ops y fr S fun fr S => tauX P w0 ops x fr S K := by
 obtain ⟨b1, b2, b3⟩ := Oper.apart_spec hap
 have hw : ∀ e, wantB ops (pt fr y.dst e) x.guard = wantB ops fr x.guard := fun e => want_put b3
 have hq : ∀ {S d e}, QY P w0 S x fr d → QY P w0 S x (pt fr y.dst e) d := fun {S d e} q => yields_congr (fun z hz => (ev_put (ops := ops) b3 z hz).symm) q
 rcases h with ⟨hg, hb⟩ | ⟨hg, hb⟩
 ·rcases hb with ⟨c, d, q, k⟩ | ⟨c, d, q, k⟩ | ⟨c, -⟩ | ⟨c, -⟩
  ·rw [tauX_put b1 b2] at k
   exact tauX_monoP (fun e S' hk => .inl ⟨by rw [hw]; exact hg, .inl ⟨c, d, fun S'' => hq (q S''), hk⟩⟩) k
  ·rw [tauX_put b1 b2] at k
   rcases k with ⟨g2, k⟩ | ⟨g2, k⟩
   ·rcases k with ⟨c2, d2, q2, k⟩ | ⟨c2, d2, q2, k⟩ | ⟨c2, t, ht, hz, k⟩ | ⟨c2, -⟩
    ·exact .inl ⟨g2, .inl ⟨c2, d2, q2, .inl ⟨by rw [hw]; exact hg, .inr (.inl ⟨c, d, fun B hB => hq (q B hB), k⟩)⟩⟩⟩
    ·exact .inl ⟨g2, .inr (.inl ⟨c2, d2, q2, .inl ⟨by rw [hw]; exact hg, .inr (.inl ⟨c, d, fun B hB => hq (q B hB), k⟩)⟩⟩)⟩
    ·refine .inl ⟨g2, .inr (.inr (.inl ⟨c2, t, ht, hz, fun b hb => .inl ⟨by rw [hw]; exact hg, .inr (.inl ⟨c, d, fun B hB => hq ?_, k b hb⟩)⟩⟩))⟩
     have := q (B ++ [(b, cd (zD P t))]) fun z hz' => by
      rcases List.mem_append.1 hz' with h | h
      ·exact (hB z h).2.2
      ·simp only [List.mem_singleton] at h; subst h; exact hb
     rw [List.append_assoc] at this
     exact this
    ·rw [c, c2] at hk; exact absurd hk (by decide)
   ·exact .inr ⟨g2, .inl ⟨by rw [hw]; exact hg, .inr (.inl ⟨c, d, fun B hB => hq (q B hB), k⟩)⟩⟩
  ·rw [c] at hk; simp [okP] at hk
  ·rw [c] at hk; simp [okP] at hk
 ·rw [tauX_put b1 b2] at hb
  exact tauX_monoP (fun e S' hk => .inr ⟨by rw [hw]; exact hg, hk⟩) hb
def tauI (P : Program) (w0 : W0) (ops : Array Oper) (i : Nat) (fr : List DV) (S : St) (K : List DV → St → Prop) : Prop := match ops[i]? with
 | none => K fr S
 | some o => tauX P w0 ops o fr S K
def wpX (P : Program) (w0 : W0) (md : Region.Mode) (ops : Array Oper) (K : List DV → St → Prop) : Nat → Array Bool → List DV → St → Prop
 | 0, listed, fr, S => Region.ready md ops listed = [] ∧ K fr S
 | fuel + 1, listed, fr, S => (Region.ready md ops listed = [] → K fr S) ∧ ∀ i ∈ Region.ready md ops listed, tauI P w0 ops i fr S (wpX P w0 md ops K fuel (listed.setIfInBounds i true))
theorem wpX_first {K : List DV → St → Prop} {i : Nat} {oi : Oper} (hi : ops[i]? = some oi) :
  ∀ (fuel : Nat) (listed : Array Bool) (fr : List DV) (S : St),
   (∀ j oj, ops[j]? = some oj → j ≠ i → listed.getD j true = false → (∀ e ∈ oj.after, Region.binds md e = true → e.on ≠ i) → oi.apart ops oj = true ∧ okP (kX oi.op) (kX oj.op) = true) →
   (∀ l : List Nat, l.Nodup → (∀ k, k ∈ l → listed.getD k true = false) → l.length ≤ fuel + 1) →
   i ∈ Region.ready md ops listed → tauX P w0 ops oi fr S (wpX P w0 md ops K fuel (listed.setIfInBounds i true)) → wpX P w0 md ops K (fuel + 1) listed fr S := by
 intro fuel
 induction fuel with
 | zero =>
  intro listed fr S _ hcnt hr H
  refine ⟨fun h => (by rw [h] at hr; cases hr), fun j hj => ?_⟩
  by_cases hji : j = i
  ·subst hji; unfold tauI; simp only [hi]; exact H
  ·exfalso
   have := hcnt [i, j] (by simp [Ne.symm hji]) fun k hk => by
    simp only [List.mem_cons, List.not_mem_nil, or_false] at hk
    rcases hk with rfl | rfl
    ·exact (mem_ready.1 hr).1
    ·exact (mem_ready.1 hj).1
   simp at this
 | succ fuel ih =>
  intro listed fr S hfree hcnt hr H
  refine ⟨fun h => (by rw [h] at hr; cases hr), fun j hj => ?_⟩
  by_cases hji : j = i
  ·subst hji; unfold tauI; simp only [hi]; exact H
  ·obtain ⟨hjun, oj, hoj, hall⟩ := mem_ready.1 hj
   have hnot : ∀ e ∈ oj.after, Region.binds md e = true → e.on ≠ i := fun e he hb heq => by
    have h1 := hall e he hb
    have h0 := (mem_ready.1 hr).1
    rw [heq] at h1
    rcases Nat.lt_or_ge i listed.size with h' | h'
    ·simp [h'] at h0 h1; rw [h0] at h1; cases h1
    ·simp [Array.getElem?_eq_none h'] at h1
   have h1 : tauX P w0 ops oi fr S fun fr S => tauX P w0 ops oj fr S (wpX P w0 md ops K fuel ((listed.setIfInBounds i true).setIfInBounds j true)) :=
    tauX_mono (fun fr S h => by
     have := h.2 j (ready_mono hj hji)
     unfold tauI at this; simp only [hoj] at this; exact this) H
   have hc := hfree j oj hoj hji hjun hnot
   have h2 := tauX_comm hc.1 hc.2 h1
   have hfree' : ∀ k ok, ops[k]? = some ok → k ≠ i → (listed.setIfInBounds j true).getD k true = false →
     (∀ e ∈ ok.after, Region.binds md e = true → e.on ≠ i) → oi.apart ops ok = true ∧ okP (kX oi.op) (kX ok.op) = true := fun k ok hk hki hun hno => by
    refine hfree k ok hk hki ?_ hno
    by_cases hjk : j = k
    ·subst hjk; exact hjun
    ·rw [getD_set_ne true hjk] at hun; exact hun
   unfold tauI
   simp only [hoj]
   have hcnt' : ∀ l : List Nat, l.Nodup → (∀ k, k ∈ l → (listed.setIfInBounds j true).getD k true = false) → l.length ≤ fuel + 1 := by
    intro l hn hl
    have hjs : j < listed.size := by
     rcases Nat.lt_or_ge j listed.size with h | h
     ·exact h
     ·rw [Array.getD_eq_getD_getElem?, Array.getElem?_eq_none h] at hjun; cases hjun
    have hjl : j ∉ l := fun hj => by
     have := hl j hj
     rw [Array.getD_eq_getD_getElem?, Array.getElem?_setIfInBounds] at this
     simp [hjs] at this
    have := hcnt (j :: l) (List.nodup_cons.2 ⟨hjl, hn⟩) fun k hk => by
     rcases List.mem_cons.1 hk with rfl | hk
     ·exact hjun
     ·have := hl k hk
      rw [getD_set_ne true (show j ≠ k from fun e => hjl (e ▸ hk))] at this
      exact this
    simp at this; omega
   refine tauX_mono (fun fr S h => ih (listed.setIfInBounds j true) fr S hfree' hcnt' (ready_mono hr (Ne.symm hji)) ?_) h2
   rw [Array.setIfInBounds_comm _ _ hji]
   exact h
def freeX (md : Region.Mode) (ops : Array Oper) (listed : Array Bool) (i : Nat) : Bool := (List.range ops.size).all fun j => match ops[i]?, ops[j]? with
 | some oi, some oj => j == i || listed.getD j true || oj.after.any (fun e => Region.binds md e && e.on == i) || (oi.apart ops oj && okP (kX oi.op) (kX oj.op))
 | _, _ => false
def lexX (md : Region.Mode) (ops : Array Oper) : Nat → Nat → Array Bool → Bool
 | 0, _, listed => (Region.ready md ops listed).isEmpty
 | n + 1, k, listed => (Region.ready md ops listed).contains k && freeX md ops listed k && lexX md ops n (k + 1) (listed.setIfInBounds k true)
theorem freeX_spec {listed : Array Bool} {i : Nat} {oi : Oper} (hi : ops[i]? = some oi) (h : freeX md ops listed i = true) : ∀ j oj, ops[j]? = some oj → j ≠ i → listed.getD j true = false → (∀ e ∈ oj.after, Region.binds md e = true → e.on ≠ i) → oi.apart ops oj = true ∧ okP (kX oi.op) (kX oj.op) = true := by
 intro j oj hj hji hun hno
 have hlt : j < ops.size := (Array.getElem?_eq_some_iff.1 hj).1
 have := List.all_eq_true.1 h j (List.mem_range.2 hlt)
 simp only [hi, hj, hun, Bool.or_false, Bool.or_eq_true, beq_iff_eq, Bool.and_eq_true] at this
 rcases this with (h | h) | h
 ·exact absurd h hji
 ·exfalso
  obtain ⟨e, he, h⟩ := Array.any_eq_true'.1 h
  simp only [Bool.and_eq_true, beq_iff_eq] at h
  exact hno e he h.1 h.2
 ·exact h
def LX (P : Program) (w0 : W0) (ops : Array Oper) (K : List DV → St → Prop) : List Oper → List DV → St → Prop
 | [], fr, S => K fr S
 | o :: rest, fr, S => tauX P w0 ops o fr S (LX P w0 ops K rest)
theorem wpX_lex {K : List DV → St → Prop} : ∀ (l : List Oper) (k : Nat) (listed : Array Bool) (fr : List DV) (S : St), (∀ j, l[j]? = ops[k + j]?) →
  (∀ l' : List Nat, l'.Nodup → (∀ k, k ∈ l' → listed.getD k true = false) → l'.length ≤ l.length) →
  lexX md ops l.length k listed = true → LX P w0 ops K l fr S → wpX P w0 md ops K l.length listed fr S
 | [], _, _, _, _, _, _, hB, h => ⟨by simpa [lexX] using hB, h⟩
 | o :: l, k, listed, fr, S, hl, hcnt, hB, h => by
  have h0 : ops[k]? = some o := by simpa using (hl 0).symm
  simp only [List.length_cons, lexX, Bool.and_eq_true] at hB
  obtain ⟨⟨hr, hf⟩, hB'⟩ := hB
  have hr' : k ∈ Region.ready md ops listed := by simpa using hr
  have hun := (mem_ready.1 hr').1
  refine wpX_first h0 l.length listed fr S (freeX_spec h0 hf) (by simpa using hcnt) hr' ?_
  refine tauX_mono (fun fr S h => wpX_lex l (k + 1) _ fr S (fun j => by have := hl (j + 1); simpa [Nat.add_assoc, Nat.add_comm 1 j] using this) ?_ hB' h) h
  intro l' hn hl'
  have hks : k < listed.size := by
   rcases Nat.lt_or_ge k listed.size with h | h
   ·exact h
   ·rw [Array.getD_eq_getD_getElem?, Array.getElem?_eq_none h] at hun; cases hun
  have hkl : k ∉ l' := fun hk => by
   have := hl' k hk
   rw [Array.getD_eq_getD_getElem?, Array.getElem?_setIfInBounds] at this
   simp [hks] at this
  have := hcnt (k :: l') (List.nodup_cons.2 ⟨hkl, hn⟩) fun m hm => by
   rcases List.mem_cons.1 hm with rfl | hm
   ·exact hun
   ·have := hl' m hm
    rw [getD_set_ne true (show k ≠ m from fun e => hkl (e ▸ hm))] at this
    exact this
  simp at this; omega
theorem bodyX_yields {o : Oper} {fr : List DV} {S : St} {K : List DV → St → Prop} (h : bodyX P w0 o fr S K) : YieldsE P w0 o (ev fr) S fun d S' => K (pt fr o.dst d) S' := by
 rcases h with ⟨c, d, q, k⟩ | ⟨c, d, q, k⟩ | ⟨c, t, ht, hz, k⟩ | ⟨c, q⟩
 ·exact yields_mono (fun d' S' h => by rw [h.1, h.2]; exact k) (q S)
 ·have := q [] (fun x hx => by cases hx)
  exact yields_mono (fun d' S' h => by rw [h.1, h.2]; exact k) this
 ·exact y_alloc ht ⟨hz, k⟩
 ·exact q
theorem wpAny_of_X {ro : Option Nat} {g0 : Gh} {Q : Exit → List DV → St → Prop} : ∀ (fuel : Nat) (listed : Array Bool) (fr : List DV) (S : St) (g : Gh) (a : Act) (w : World), g0.le g → Rel w0 g S w → RepL g fr a.tmps.toList → Dk w0 g.obj a w →
  wpX P w0 md ops (fun fr S => Q .normal fr S) fuel listed fr S → wpAnyIn (fz ro) 0 P md ops (Good w0 g0 Q) fuel listed a w
 | 0, listed, fr, S, g, a, w, k, h1, h2, h3, h => ⟨h.1, k.kd h3, g, fr, S, k, h1, h2, h.2⟩
 | fuel + 1, listed, fr, S, g, a, w, k, h1, h2, h3, h => by
  refine ⟨fun h0 => ⟨k.kd h3, g, fr, S, k, h1, h2, h.1 h0⟩, fun i hi => ?_⟩
  have hq := h.2 i hi
  unfold tauI at hq
  unfold wpOpIn
  split
  ·rename_i ho; simp only [ho] at hq; exact wpAny_of_X fuel _ fr S g a w k h1 h2 h3 hq
  ·rename_i o ho
   simp only [ho] at hq
   rcases hq with ⟨hw, hb⟩ | ⟨hw, hk⟩
   ·have hw' := wantB_sound (o := o) h2 hw
    rw [if_pos hw']
    refine wpIn_of_yields (bodyX_yields hb) h1 (fun x _ => rep_ev h2 x) h3 fun g' d' u S' w' k1 k2 k3 k4 k5 => ?_
    exact wpAny_of_X fuel _ _ _ g' _ _ (k.trans k1) k2 (repL_put (h2.mono k1) _ k3) (k1.dk k5) k4
   ·have hw' := wantB_sound (o := o) h2 hw
    rw [if_neg (by simp [hw'])]
    exact ⟨fun _ _ => trivial, wpAny_of_X fuel _ _ _ g _ _ k h1 (repL_put h2 _ (rep_ud g)) (h3.keep (put_defers _ _ _) fun _ _ h _ => h) hk⟩
theorem awp_drawL {id : Nat} {l : List Oper} {fr : List DV} {S : St} {Q : Exit → List DV → St → Prop} (hm : P.follows .mixedOrders = true) (hB : lexX .any l.toArray l.length 0 (Array.replicate l.length false) = true) (h : LX P w0 l.toArray (fun fr S => Q .normal fr S) l fr S) : AWp P w0 (.region id l.toArray true) fr S Q := by
 intro g a w h1 h2 h3
 refine wpA_region_any hm fun ro => ?_
 have hR : Rel w0 g S { w with drawn := w.drawn + 1 } := h1.grow (below_drew w)
 have hcnt : ∀ l' : List Nat, l'.Nodup → (∀ k, k ∈ l' → (Array.replicate l.length false).getD k true = false) → l'.length ≤ l.length := by
  intro l' hn hl
  have hsub : ∀ k, k ∈ l' → k ∈ List.range l.length := fun k hk => by
   have := hl k hk
   rw [List.mem_range]
   rcases Nat.lt_or_ge k l.length with h | h
   ·exact h
   ·rw [Array.getD_eq_getD_getElem?, Array.getElem?_eq_none (by simpa using h)] at this; cases this
  have := hn.length_le_of_subset (l₂ := List.range l.length) hsub
  simpa using this
 have := wpX_lex (P := P) (w0 := w0) (md := .any) (ops := l.toArray) l 0 (Array.replicate l.length false) fr S (by simp) hcnt hB h
 have := wpAny_of_X (ro := ro) (g0 := g) (Q := Q) _ _ fr S g a _ (.refl g) hR h2 (h3.keep rfl fun _ _ h _ => h) this
 simpa using this
theorem pure_det {op : Op} (hk : kX op = 0) {fr : List DV} {S : St} {K : DV → Prop} (h : vcOpQ P w0 op fr S K) : ∃ d, (∀ S', vcOpQ P w0 op fr S' (· = d)) ∧ K d := by
 cases op with
 | move x => exact ⟨_, fun _ => rfl, h⟩
 | assign x => exact ⟨_, fun _ => rfl, h⟩
 | pick c a b => obtain ⟨d, q1, q2⟩ := det_pick h; exact ⟨d, fun _ => q1, q2⟩
 | fieldAddr t x f => obtain ⟨d, q1, q2⟩ := det_field h; exact ⟨d, fun _ => q1, q2⟩
 | indexAddr t x i => obtain ⟨d, q1, q2⟩ := det_evG h; exact ⟨d, fun _ => q1, q2⟩
 | index t x i => obtain ⟨d, q1, q2⟩ := det_index h; exact ⟨d, fun _ => q1, q2⟩
 | field t x f => obtain ⟨d, q1, q2⟩ := det_fieldV h; exact ⟨d, fun _ => q1, q2⟩
 | extract x i => obtain ⟨d, q1, q2⟩ := det_extract h; exact ⟨d, fun _ => q1, q2⟩
 | nilCheck x => exact ⟨_, fun _ => ⟨h.1, rfl⟩, h.2⟩
 | binOp b t x y t' => obtain ⟨d, q1, q2⟩ := det_binA h.2; exact ⟨d, fun _ => ⟨h.1, q1⟩, q2⟩
 | unOp b t x => obtain ⟨d, q1, q2⟩ := det_un h; exact ⟨d, fun _ => q1, q2⟩
 | convert s d x => obtain ⟨d, q1, q2⟩ := det_conv h; exact ⟨d, fun _ => q1, q2⟩
 | makeInterface t x => exact ⟨_, fun _ => ⟨h.1, h.2.1, rfl⟩, h.2.2⟩
 | makeFunc fn a b => obtain ⟨d, q1, q2⟩ := det_func h; exact ⟨d, fun _ => q1, q2⟩
 | slice t x lo hi mx => obtain ⟨d, q1, q2⟩ := det_slice h.2.2; exact ⟨d, fun _ => ⟨h.1, h.2.1, q1⟩, q2⟩
 | build t parts => obtain ⟨d, q1, q2⟩ := det_build h.2; exact ⟨d, fun _ => ⟨h.1, q1⟩, q2⟩
 | buildSlice t len parts => obtain ⟨d, q1, q2⟩ := det_buildSlice h.2; exact ⟨d, fun _ => ⟨h.1, q1⟩, q2⟩
 | call c =>
  obtain ⟨callee, args, ts⟩ := c
  simp only [vcOpQ] at h ⊢
  split at h
  ·split at h
   ·obtain ⟨d, q1, q2⟩ := det_len h
    exact ⟨d, fun _ => by simpa using q1, q2⟩
   ·exact h.elim
  ·split at h
   ·obtain ⟨d, q1, q2⟩ := det_cap h
    exact ⟨d, fun _ => by simpa using q1, q2⟩
   ·exact h.elim
  ·split at h
   ·obtain ⟨d, q1, q2⟩ := det_min h
    exact ⟨d, fun _ => by simpa using q1, q2⟩
   ·exact h.elim
  ·split at h
   ·obtain ⟨d, q1, q2⟩ := det_max h
    exact ⟨d, fun _ => by simpa using q1, q2⟩
   ·exact h.elim
  ·cases hk
  ·cases hk
  ·exact h.elim
 | _ => first | exact h.elim | cases hk
theorem pure_detZ {op : Op} (hk : kX op = 0) {fr : List DV} {S : St} {K : DV → Prop} (h : opZ P w0 op fr S K) : ∃ d, (∀ S', opZ P w0 op fr S' (· = d)) ∧ K d := by
 cases op with
 | makeSlice t x y =>
  simp only [opZ, vMakeQ] at h ⊢
  split at h
  ·obtain ⟨q1, q2, q3, q4, q5, q6⟩ := h
   exact ⟨_, fun _ => ⟨q1, q2, q3, q4, q5, rfl⟩, q6⟩
  ·exact h.elim
 | convert s d x =>
  simp only [opZ] at h ⊢
  unfold vConvZ at h ⊢
  split at h
  ·obtain ⟨q1, q2, q3, q4⟩ := h
   exact ⟨_, fun _ => ⟨q1, q2, q3, rfl⟩, q4⟩
  ·obtain ⟨dd, p1, p2⟩ := pure_det (P := P) (w0 := w0) (op := .convert s d x) (fr := fr) (S := S) (K := K) rfl h
   exact ⟨dd, p1, p2⟩
 | _ => exact pure_det (P := P) (w0 := w0) (S := S) (fr := fr) hk h
theorem lk_ext {S : St} {B : List (Nat × List DV)} (hB : Fr S B) {b : Nat} {ds : List DV} (h : lk S.box b = some ds) : lk (B ++ S.box) b = some ds := by
 induction B with
 | nil => exact h
 | cons x B ih =>
  have h1 := hB x List.mem_cons_self
  have hne : ¬ x.1 = b := fun e => by rw [e] at h1; rw [nin_lk h1] at h; cases h
  obtain ⟨k, y⟩ := x
  show lk ((k, y) :: (B ++ S.box)) b = _
  rw [q_lk_ne hne]
  exact ih fun z hz => hB z (List.mem_cons_of_mem _ hz)
theorem load_ext {k : TK} {S : St} {x : DV} {K : DV → Prop} {B : List (Nat × List DV)} (hB : Fr S B) (h : vLoad k S x K) : vLoad k ⟨B ++ S.box, S.acc⟩ x K := by
 unfold vLoad at *
 split at h
 ·split at h
  ·rename_i ds hb
   simp only [lk_ext hB hb]
   exact h
  ·exact h.elim
 ·exact h
 ·exact h
 ·exact h.elim
end
def QX (P : Program) (w0 : W0) (f : FuncId) (ds : List DV) (S : St) [K : Cn (DV → Prop)] : Prop := ∃ d, (∀ B, Fr S B → ACall P w0 f ds ⟨B ++ S.box, S.acc⟩ fun d' S' => d' = d ∧ S' = ⟨B ++ S.box, S.acc⟩) ∧ K.k d
def vCallX (P : Program) (w0 : W0) (cal : DV) (ds : List DV) (S : St) (K : DV → Prop) : Prop := match cal with
 | .v (.func (.func f) a cap) => a.size = 0 ∧ okF P f = true ∧ cap.toList.all (fun u => u.oneCell') = true ∧ ds.all naccA = true ∧ @QX P w0 f (ds ++ cap.toList.map .v) S ⟨K⟩
 | _ => False
def opX (P : Program) (w0 : W0) (op : Op) (fr : List DV) (S : St) (K : DV → St → Prop) : Prop := match op with
 | .load t x => vLoad (tk P t) S (ev fr x) (K · S)
 | .alloc t => okE (zD P t) = true ∧ bxK S (zD P t) K
 | .call ⟨.value cal, args, _⟩ => vCallX P w0 (ev fr cal) (args.toList.map (ev fr)) S (K · S)
 | op => selK (kX op == 0) (opZ P w0 op fr S (K · S)) (vcOp P w0 op fr S K)
def vcLX (P : Program) (w0 : W0) (ops : Array Oper) (K : List DV → St → Prop) : List Oper → List DV → St → Prop
 | [], fr, S => K fr S
 | o :: rest, fr, S => guardK ops fr o.guard (fun fr => opX P w0 o.op fr S fun d S' => vcLX P w0 ops K rest (pt fr o.dst d) S') (fun fr => vcLX P w0 ops K rest (pt fr o.dst ud) S)
section
variable {P : Program} {w0 : W0} {ops : Array Oper} {md : Region.Mode}
theorem opX_sound {o : Oper} {fr : List DV} {S : St} {K : List DV → St → Prop} (hs : okSl o.op = true) (h : opX P w0 o.op fr S fun d S' => K (pt fr o.dst d) S') : bodyX P w0 o fr S K := by
 have gen : ∀ (h : selK (kX o.op == 0) (opZ P w0 o.op fr S fun d => K (pt fr o.dst d) S) (vcOp P w0 o.op fr S fun d S' => K (pt fr o.dst d) S')), kX o.op = 0 ∨ kX o.op = 3 → bodyX P w0 o fr S K := by
  intro h hk
  rcases hk with hk | hk
  ·rw [hk] at h
   obtain ⟨d, q1, q2⟩ := pure_detZ hk (show opZ P w0 o.op fr S fun d => K (pt fr o.dst d) S from h)
   exact .inl ⟨hk, d, fun S' => by
    obtain ⟨d', k1, k2⟩ := opZ_sound hs (q1 S')
    subst k2; exact k1, q2⟩
  ·rw [hk] at h
   exact .inr (.inr (.inr ⟨hk, vcOp_sound hs h⟩))
 cases hop : o.op with
 | load t x =>
  rw [hop] at h hs
  obtain ⟨d, q1, q2⟩ := det_load (show vLoad (tk P t) S (ev fr x) (fun d => K (pt fr o.dst d) S) from h)
  refine .inr (.inl ⟨by rw [hop]; rfl, d, fun B hB => ?_, q2⟩)
  exact vcOp_sound (by rw [hop]; exact hs) (by rw [hop]; simpa [vcOp] using load_ext hB q1)
 | alloc t =>
  rw [hop] at h
  exact .inr (.inr (.inl ⟨by rw [hop]; rfl, t, hop, h.1, h.2⟩))
 | call c =>
  obtain ⟨callee, args, ts⟩ := c
  cases callee with
  | value cal =>
   rw [hop] at h hs
   simp only [opX, vCallX] at h
   split at h
   ·rename_i f a cap hcal
    obtain ⟨h1, h2, h3, h4, d, h5, h6⟩ := h
    refine .inr (.inl ⟨by rw [hop]; rfl, d, fun B hB => ?_, h6⟩)
    exact vcOp_sound (by rw [hop]; exact hs) (by rw [hop]; simp only [vcOp, hcal]; exact vCall_of h1 h3 (by rw [h2, gX_t]; exact callK_id h4 (h5 B hB)))
   ·exact h.elim
  | builtin b =>
   refine gen (by rw [hop] at h ⊢; exact h) ?_
   rw [hop]
   cases b <;> first | exact .inl rfl | exact .inr rfl
  | invoke r m =>
   refine gen (by rw [hop] at h ⊢; exact h) ?_
   rw [hop]; exact .inr rfl
 | _ => refine gen (by rw [hop] at h ⊢; exact h) ?_; rw [hop]; first | exact .inl rfl | exact .inr rfl
theorem vcLX_sound {K : List DV → St → Prop} : ∀ (l : List Oper) {fr : List DV} {S : St}, l.all (fun o => okSl o.op) = true → vcLX P w0 ops K l fr S → LX P w0 ops K l fr S
 | [], fr, S, _, h => h
 | o :: rest, fr, S, hs, h => by
  simp only [List.all_cons, Bool.and_eq_true] at hs
  rcases guardK_want h with ⟨hw, ha⟩ | ⟨hw, hb⟩
  ·exact .inl ⟨hw, bodyX_mono (fun fr S h => vcLX_sound rest hs.2 h) (opX_sound hs.1 ha)⟩
  ·exact .inr ⟨hw, vcLX_sound rest hs.2 hb⟩
def okL (l : List Oper) : Bool := l.all (fun o => okSl o.op) && lexX .any l.toArray l.length 0 (Array.replicate l.length false)
theorem lexK {id : Nat} {l : List Oper} {fr : List DV} {S : St} {Q : Exit → List DV → St → Prop} (hm : P.follows .mixedOrders = true) (hB : okL l = true) (h : vcLX P w0 l.toArray (fun fr S => normF fr fun fr => Q .normal fr S) l fr S) : AWp P w0 (.region id l.toArray true) fr S Q := by
 simp only [okL, Bool.and_eq_true] at hB
 exact awp_drawL hm hB.2 (vcLX_sound l hB.1 h)
theorem useX {f : FuncId} {args args' : List DV} {S : St} {K : DV → Prop} {r : DV} (h : ∀ B, Fr S B → ACall P w0 f args' ⟨B ++ S.box, S.acc⟩ (fun d S' => d = r ∧ S' = ⟨B ++ S.box, S.acc⟩)) (hk : K r) (ha : WkL args args' := by exact WkL.refl _) : @QX P w0 f args S ⟨K⟩ :=
 ⟨r, fun B hB => acall_one (h B hB) ha ⟨rfl, rfl⟩, hk⟩
end
end Aml.Z
namespace Aml.Z
open Go Go.RowKit
section
variable {P : Program} {w0 : W0} {ops : Array Oper} {fr : List DV} {S : St} {rest : List Oper} {dst : Option Tmp} {op : Op} {ty : TypeId} {pos : String} {aft : Array Edge}
section
variable {K : List DV → St → Prop}
theorem x_nil : vcLX P w0 ops K [] fr S = K fr S := rfl
theorem x_none : vcLX P w0 ops K (⟨dst, op, ty, pos, aft, none⟩ :: rest) fr S = opX P w0 op fr S fun d S' => vcLX P w0 ops K rest (pt fr dst d) S' := rfl
end
variable {K : DV → St → Prop}
theorem x_load (t : TypeId) (x : Operand) : opX P w0 (.load t x) fr S K = vLoad (tk P t) S (ev fr x) (K · S) := rfl
theorem x_call (cal : Operand) (a : List Operand) (ts : Array TypeId) : opX P w0 (.call ⟨.value cal, a.toArray, ts⟩) fr S K = vCallX P w0 (ev fr cal) (a.map (ev fr)) S (K · S) := rfl
theorem x_callF (f : FuncId) (a cap : Array Value) (ds : List DV) (K : DV → Prop) : vCallX P w0 (.v (.func (.func f) a cap)) ds S K = (a.size = 0 ∧ okF P f = true ∧ cap.toList.all (fun u => u.oneCell') = true ∧ ds.all naccA = true ∧ @QX P w0 f (ds ++ cap.toList.map .v) S ⟨K⟩) := rfl
@[congr] theorem c_vCallX {cal cal' : DV} {ds ds' : List DV} {S' : St} {K : DV → Prop} (h1 : cal = cal') (h2 : ds = ds') (h3 : S = S') : vCallX P w0 cal ds S K = vCallX P w0 cal' ds' S' K := by cases h1; cases h2; cases h3; rfl
theorem x_move (x : Operand) : opX P w0 (.move x) fr S K = vcOpQ P w0 (.move x) fr S (K · S) := rfl
theorem x_assign (x : Operand) : opX P w0 (.assign x) fr S K = vcOpQ P w0 (.assign x) fr S (K · S) := rfl
theorem x_fieldAddr (t : TypeId) (x : Operand) (f : Nat) : opX P w0 (.fieldAddr t x f) fr S K = vcOpQ P w0 (.fieldAddr t x f) fr S (K · S) := rfl
theorem x_indexAddr (t : TypeId) (x i : Operand) : opX P w0 (.indexAddr t x i) fr S K = vcOpQ P w0 (.indexAddr t x i) fr S (K · S) := rfl
theorem x_extract (x : Operand) (i : Nat) : opX P w0 (.extract x i) fr S K = vcOpQ P w0 (.extract x i) fr S (K · S) := rfl
theorem x_binOp (b : BinOp) (t : TypeId) (x y : Operand) (t' : TypeId) : opX P w0 (.binOp b t x y t') fr S K = vcOpQ P w0 (.binOp b t x y t') fr S (K · S) := rfl
theorem x_build (t : TypeId) (parts : Array (Nat × Operand)) : opX P w0 (.build t parts) fr S K = vcOpQ P w0 (.build t parts) fr S (K · S) := rfl
theorem x_buildSlice (t : TypeId) (len : Nat) (parts : Array (Nat × Operand)) : opX P w0 (.buildSlice t len parts) fr S K = vcOpQ P w0 (.buildSlice t len parts) fr S (K · S) := rfl
theorem x_store (t : TypeId) (x y : Operand) : opX P w0 (.store t x y) fr S K = vcOp P w0 (.store t x y) fr S K := rfl
theorem x_b_len (a : Array Operand) (ts : Array TypeId) : opX P w0 (.call ⟨.builtin .len, a, ts⟩) fr S K = vcOpQ P w0 (.call ⟨.builtin .len, a, ts⟩) fr S (K · S) := rfl
end
attribute [go_sem ↓] x_nil x_none x_load x_call x_callF x_move x_assign x_fieldAddr x_indexAddr x_extract x_binOp x_build x_buildSlice x_store x_b_len
theorem n_f_beq (b : Bool) : (b == false) = !b := by cases b <;> rfl
attribute [go_sem] n_f_beq
end Aml.Z
namespace Aml
open Go Go.RowKit
section
variable {P : Program} {w0 : W0}
end
theorem find_rep (k k' : Value) (d : DV) : ∀ es : List (Value × DV × Nat), ((es.map (mRep k d)).find? fun e => @decide (e.1 = k') (Classical.propDecidable _)) = (es.find? fun e => @decide (e.1 = k') (Classical.propDecidable _)).map (mRep k d) := by
 intro es
 rw [List.find?_map]
 congr 2
 funext e
 simp only [Function.comp]
 rcases Classical.em (e.1 = k) with h | h
 ·rw [mRep_eq h]
 ·rw [mRep_ne h]
theorem mGet_set_same (es : List (Value × DV × Nat)) (clk : Nat) (k : Value) (d : DV) : mGet (mSet es clk k d) k = some d := by
 unfold mSet
 cases hg : mGet es k with
 | none =>
  simp only [Option.isSome_none, Bool.false_eq_true, if_false]
  unfold mGet at hg ⊢
  rw [List.find?_append]
  rw [Option.map_eq_none_iff] at hg
  rw [hg]
  simp
 | some x =>
  simp only [Option.isSome_some, if_true]
  unfold mGet at hg ⊢
  rw [find_rep]
  obtain ⟨y, hy, _⟩ := Option.map_eq_some_iff.1 hg
  rw [hy]
  have := List.find?_some hy
  simp only [decide_eq_true_eq] at this
  simp [mRep_eq this]
theorem mGet_set_ne (es : List (Value × DV × Nat)) (clk : Nat) {k k' : Value} (e : k' ≠ k) (d : DV) : mGet (mSet es clk k d) k' = mGet es k' := by
 unfold mSet
 cases hg : mGet es k with
 | none =>
  simp only [Option.isSome_none, Bool.false_eq_true, if_false]
  unfold mGet
  rw [List.find?_append]
  have : List.find? (fun e => @decide (e.1 = k') (Classical.propDecidable _)) [(k, d, clk)] = none := by
   rw [List.find?_eq_none]
   intro x hx
   rw [List.mem_singleton] at hx; subst hx
   simp; exact fun h => e h.symm
  rw [this, Option.or_none]
 | some x =>
  simp only [Option.isSome_some, if_true]
  unfold mGet
  rw [find_rep]
  cases hf : es.find? fun e => @decide (e.1 = k') (Classical.propDecidable _) with
  | none => rfl
  | some y =>
   have := List.find?_some hf
   simp only [decide_eq_true_eq] at this
   simp only [Option.map_some]
   rw [mRep_ne (by rw [this]; exact e)]
end Aml
namespace Go.Proofs.YtpcmnebpnpgcmaaGreatDoor
open Aml Go
@[go_sem] def dL (l : List Int) : DV := .sl 1 false (l.map dI)
theorem getE {α : Type} {l : List α} {k : Nat} {a b : α} (h : l[k]? = some a) (h' : l[k]? = some b) : a = b := by rw [h] at h'; exact Option.some.inj h'
def leS (a b : ByteArray) : Bool := Op.bytesLess a.data.toList b.data.toList || decide (a.data.toList = b.data.toList)
def ltS (a b : ByteArray) : Bool := Op.bytesLess a.data.toList b.data.toList
def eqS (a b : ByteArray) : Bool := decide (a.data.toList = b.data.toList)
@[go_sem] theorem s_eql (a b : ByteArray) (K : DV → Prop) : vBinS .eql a b K = K (.v (.bool (eqS a b))) := rfl
@[go_sem] theorem s_neq (a b : ByteArray) (K : DV → Prop) : vBinS .neq a b K = K (.v (.bool (!eqS a b))) := rfl
@[go_sem] theorem s_lss (a b : ByteArray) (K : DV → Prop) : vBinS .lss a b K = K (.v (.bool (ltS a b))) := rfl
@[go_sem] theorem s_leq (a b : ByteArray) (K : DV → Prop) : vBinS .leq a b K = K (.v (.bool (leS a b))) := rfl
@[go_sem] theorem s_geq (a b : ByteArray) (K : DV → Prop) : vBinS .geq a b K = K (.v (.bool (!ltS a b))) := rfl
def need (z : Int) : Nat := if 16 < z ∧ z ≤ 400 then ((z + 118) / 119).toNat else 0
theorem need_le (z : Int) : need z ≤ 4 := by unfold need; split <;> omega
theorem needR (w0 : W0) (z : Int) (S : St) : ACall Tryz.prog w0 30 [dI z] S (fun d S' => d = dI (need z) ∧ S' = S) := by
 refine fnS [] mx Tryz.func30 rfl rfl (by kernel_rfl) ?_; (refine @goW _ ?_; refine goS1 @Tryz.ntmps30 ?_)
 have hn := need_le z
 refine loopN [] (need z) [0, 3] (fun k => [(3, dI k)]) (fun _ => S) (fun _ => True) mx (by kernel_rfl) ?_ ?_
 ·(refine @goW _ ?_; exact goT)
 ·intro k hk _
  (refine @goW _ ?_; refine goS ?_)
  have e1 : IntKind.i64.wrap ((k : Int) * 119) = (k : Int) * 119 := w64 (by omega) (by omega)
  have e2 : IntKind.i64.wrap ((k : Int) + 1) = ((k + 1 : Nat) : Int) := by rw [w64 (by omega) (by omega)]; omega
  simp only [e1, e2]
  have hneed : 16 < z ∧ z ≤ 400 → (need z : Int) = (z + 118) / 119 := fun h => by unfold need; rw [if_pos h]; omega
  have hno : ¬ (16 < z ∧ z ≤ 400) → need z = 0 := fun h => by unfold need; rw [if_neg h]
  refine ⟨fun h1 => ⟨fun h2 => ⟨fun h3 => ⟨?_, trivial⟩, fun h3 => ?_⟩, fun h2 => ?_⟩, fun h1 => ?_⟩
  ·have := hneed ⟨h1, h2⟩; omega
  ·have := hneed ⟨h1, h2⟩; omega
  ·have := hno (by omega); omega
  ·have := hno (by omega); omega
def Bd (l : List Int) : Prop := l.length ≤ 1048576 ∧ ∀ x, x ∈ l → 0 ≤ x ∧ x ≤ 1048576
theorem bd_sum : ∀ (l : List Int), (∀ x, x ∈ l → 0 ≤ x ∧ x ≤ 1048576) → 0 ≤ l.sum ∧ l.sum ≤ 1048576 * l.length
 | [], _ => by simp
 | a :: l, h => by
  have h1 := bd_sum l fun x hx => h x (List.mem_cons_of_mem _ hx)
  have h2 := h a List.mem_cons_self
  simp only [List.sum_cons, List.length_cons]
  omega
theorem Bd.take {l : List Int} (h : Bd l) (k : Nat) : Bd (l.take k) := ⟨by rw [List.length_take]; have := h.1; omega, fun x hx => h.2 x (List.mem_of_mem_take hx)⟩
theorem Bd.drop {l : List Int} (h : Bd l) (k : Nat) : Bd (l.drop k) := ⟨by rw [List.length_drop]; have := h.1; omega, fun x hx => h.2 x (List.mem_of_mem_drop hx)⟩
theorem Bd.sum {l : List Int} (h : Bd l) : 0 ≤ l.sum ∧ l.sum ≤ 1099511627776 := by
 have := bd_sum l h.2
 have := h.1
 omega
theorem sum_succ {l : List Int} {k : Nat} {a : Int} (h : l[k]? = some a) : (l.take (k + 1)).sum = (l.take k).sum + a := by
 rw [List.take_add_one, h]; simp
theorem sumR (w0 : W0) (l : List Int) (S : St) (h : Bd l) : ACall Tryz.prog w0 100 [dL l] S (fun d S' => d = dI l.sum ∧ S' = S) := by
 refine fnS [] mx Tryz.func100 rfl rfl (by kernel_rfl) ?_; (refine @goW _ ?_; refine goS1 @Tryz.ntmps100 ?_)
 refine loopN [] l.length [0, 3, 4] (fun k => [(3, dI (l.take k).sum), (4, dI k)]) (fun _ => S) (fun _ => True) mx (by kernel_rfl) ?_ ?_
 ·(refine @goW _ ?_; refine goS ?_)
  rfl
 ·intro k hk _
  have h0 := h.1
  (refine @goW _ ?_; refine goS ?_)
  refine ⟨fun hlt => ⟨hlt, fun a ha => ⟨by omega, ?_, ?_⟩⟩, fun hge => ?_⟩
  ·have := (h.take (k + 1)).sum
   rw [sum_succ ha] at this ⊢
   exact w64 (by omega) (by omega)
  ·rw [w64 (by omega) (by omega)]; omega
  ·rw [List.take_of_length_le (by omega)]
def worse (l : List Int) (at_ : Nat) : Int := if (l.take at_).sum > (l.drop at_).sum then (l.take at_).sum else (l.drop at_).sum
theorem worseR (w0 : W0) (l : List Int) (i : Nat) (S : St) (h : Bd l) (hi : i ≤ l.length) : ACall Tryz.prog w0 101 [dL l, dI i] S (fun d S' => d = dI (worse l i) ∧ S' = S) := by
 refine fnS [] mx Tryz.func101 rfl rfl (by kernel_rfl) ?_; (refine @goW _ ?_; refine goS1 @Tryz.ntmps101 ?_)
 have h0 := h.1
 refine ⟨hi, use1 (sumR w0 _ _ (h.take i)) ?_⟩
 (refine @goW _ ?_; refine goS ?_)
 refine ⟨hi, use1 (sumR w0 _ _ (h.drop i)) ?_⟩
 (refine @goW _ ?_; refine goS ?_)
 unfold worse
 refine ⟨fun hg => by rw [if_pos hg], fun hg => by rw [if_neg hg]⟩
def atF (l : List Int) : Nat → Nat
 | 0 => 1
 | j + 1 => if worse l (j + 2) < worse l (atF l j) then j + 2 else atF l j
theorem atF_le (l : List Int) : ∀ j, 1 ≤ atF l j ∧ atF l j ≤ j + 1
 | 0 => ⟨Nat.le_refl _, Nat.le_refl _⟩
 | j + 1 => by
  have := atF_le l j
  simp only [atF]
  split <;> omega
def atR (l : List Int) : Nat := if l.sum ≤ 122 ∨ l.length < 2 then 0 else atF l (l.length - 2)
theorem atR_lt (l : List Int) (h : atR l ≠ 0) : 1 ≤ atR l ∧ atR l < l.length := by
 unfold atR at *
 split at h
 ·exact absurd rfl h
 ·rename_i hn
  rw [if_neg hn]
  have := atF_le l (l.length - 2)
  have : ¬ l.length < 2 := fun h => hn (.inr h)
  omega
theorem atW (w0 : W0) (l : List Int) (S : St) (h : Bd l) : ACall Tryz.prog w0 65 [dL l] S (fun d S' => d = dI (atR l) ∧ S' = S) := by
 refine fnS [] mx Tryz.func65 rfl rfl (by kernel_rfl) ?_; (refine @goW _ ?_; refine goS1 @Tryz.ntmps65 ?_)
 have h0 := h.1
 refine use1 (sumR w0 _ _ h) ?_
 (refine @goW _ ?_; refine goS ?_)
 refine ⟨fun h1 => by unfold atR; rw [if_pos (.inl h1)]; rfl, fun h1 => ⟨fun h2 => by unfold atR; rw [if_pos (.inr (by omega))]; rfl, fun h2 => ?_⟩⟩
 have hn : atR l = atF l (l.length - 2) := by unfold atR; rw [if_neg]; rintro (h | h) <;> omega
 refine loopN [] (l.length - 2) [0, 3, 4] (fun k => [(3, dI (atF l k)), (4, dI ((k + 2 : Nat) : Int))]) (fun _ => S) (fun _ => True) mx (by kernel_rfl) ?_ ?_
 ·(refine @goW _ ?_; refine goS ?_)
  rfl
 ·intro k hk _
  have ha := atF_le l k
  (refine @goW _ ?_; refine goS ?_)
  refine ⟨fun hlt => ?_, fun hge => ?_⟩
  ·refine use1 (worseR w0 l (k + 2) _ h (by omega)) ?_
   (refine @goW _ ?_; refine goS ?_)
   refine use1 (worseR w0 l (atF l k) _ h (by omega)) ?_
   (refine @goW _ ?_; refine goS ?_)
   have e : IntKind.i64.wrap (((k + 2 : Nat) : Int) + 1) = ((k + 1 + 2 : Nat) : Int) := by rw [w64 (by omega) (by omega)]; omega
   refine ⟨fun hw => ⟨by omega, ?_, e⟩, fun hw => ⟨by omega, ?_, e⟩⟩
   ·simp only [atF, if_pos hw]
   ·simp only [atF, if_neg hw]
  ·rw [hn, show k = l.length - 2 by omega]
def lowR (l : List Int) : Bool := decide (l.sum < 30)
theorem lowW (w0 : W0) (l : List Int) (S : St) (h : Bd l) : ACall Tryz.prog w0 103 [dL l] S (fun d S' => d = dB (lowR l) ∧ S' = S) := by
 refine fnS [] mx Tryz.func103 rfl rfl (by kernel_rfl) ?_; (refine @goW _ ?_; refine goS1 @Tryz.ntmps103 ?_)
 refine use1 (sumR w0 _ _ h) ?_
 (refine @goW _ ?_; refine goS ?_)
 rfl
def nbR (m k : Int) : Int := if k + 1 < m then k + 1 else k - 1
theorem nbW (w0 : W0) (m k : Int) (S : St) (h0 : 0 ≤ m) (h1 : m ≤ 1048576) (h2 : 0 ≤ k) (h3 : k < m) : ACall Tryz.prog w0 104 [dI m, dI k] S (fun d S' => d = dI (nbR m k) ∧ S' = S) := by
 refine fnS [] mx Tryz.func104 rfl rfl (by kernel_rfl) ?_; (refine @goW _ ?_; refine goS1 @Tryz.ntmps104 ?_)
 unfold nbR
 rw [w64 (n := k + 1) (by omega) (by omega), w64 (n := k - 1) (by omega) (by omega)]
 exact ⟨fun h => by rw [if_pos h], fun h => by rw [if_neg h]⟩
mutual
inductive N where
 | mk (page : Int) (leaf : Bool) (l : List C)
inductive C where
 | mk (key data : ByteArray) (pages : List Int) (kid : List N)
end
def N.page : N → Int | .mk p _ _ => p
def N.leaf : N → Bool | .mk _ b _ => b
def N.l : N → List C | .mk _ _ l => l
def C.key : C → ByteArray | .mk k _ _ _ => k
def C.data : C → ByteArray | .mk _ d _ _ => d
def C.pages : C → List Int | .mk _ _ p _ => p
def C.kid : C → List N | .mk _ _ _ k => k
theorem N.eta (n : N) : n = .mk n.page n.leaf n.l := by cases n; rfl
theorem C.eta (c : C) : c = .mk c.key c.data c.pages c.kid := by cases c; rfl
mutual
def dN : N → DV
 | .mk p b l => .agg [dI p, dB b, .sl 4 false (dCs l)]
def dC : C → DV
 | .mk k d ps kid => .agg [dS k, dS d, .sl 1 false (ps.map dI), .sl 3 false (dNs kid)]
def dCs : List C → List DV
 | [] => []
 | c :: l => dC c :: dCs l
def dNs : List N → List DV
 | [] => []
 | n :: l => dN n :: dNs l
end
theorem dCs_map : ∀ l, dCs l = l.map dC
 | [] => by simp [dCs]
 | c :: l => by simp [dCs, dCs_map l]
theorem dNs_map : ∀ l, dNs l = l.map dN
 | [] => by simp [dNs]
 | c :: l => by simp [dNs, dNs_map l]
@[go_sem] def eN (n : N) : DV := .agg [dI n.page, dB n.leaf, .sl 4 false (n.l.map dC)]
@[go_sem] def eC (c : C) : DV := .agg [dS c.key, dS c.data, .sl 1 false (c.pages.map dI), .sl 3 false (c.kid.map dN)]
@[go_sem] theorem dN_eq (n : N) : dN n = eN n := by
 cases n; simp only [dN, dCs_map]; rfl
@[go_sem] theorem dC_eq (c : C) : dC c = eC c := by
 cases c; simp only [dC, dNs_map]; rfl
@[go_sem] theorem N.page_mk (p : Int) (b : Bool) (l : List C) : (N.mk p b l).page = p := rfl
@[go_sem] theorem N.leaf_mk (p : Int) (b : Bool) (l : List C) : (N.mk p b l).leaf = b := rfl
@[go_sem] theorem N.l_mk (p : Int) (b : Bool) (l : List C) : (N.mk p b l).l = l := rfl
@[go_sem] theorem C.key_mk (k d : ByteArray) (p : List Int) (q : List N) : (C.mk k d p q).key = k := rfl
@[go_sem] theorem C.data_mk (k d : ByteArray) (p : List Int) (q : List N) : (C.mk k d p q).data = d := rfl
@[go_sem] theorem C.pages_mk (k d : ByteArray) (p : List Int) (q : List N) : (C.mk k d p q).pages = p := rfl
@[go_sem] theorem C.kid_mk (k d : ByteArray) (p : List Int) (q : List N) : (C.mk k d p q).kid = q := rfl
theorem size_kid {c : C} {k : N} (h : k ∈ c.kid) : SizeOf.sizeOf k < SizeOf.sizeOf c := by
 cases c; simp only [C.kid] at h
 have := List.sizeOf_lt_of_mem h
 simp only [C.mk.sizeOf_spec]; omega
theorem size_cell {n : N} {c : C} (h : c ∈ n.l) : SizeOf.sizeOf c < SizeOf.sizeOf n := by
 cases n; simp only [N.l] at h
 have := List.sizeOf_lt_of_mem h
 simp only [N.mk.sizeOf_spec]; omega
theorem size_kid' {n : N} {c : C} {k : N} (h : c ∈ n.l) (hk : k ∈ c.kid) : SizeOf.sizeOf k < SizeOf.sizeOf n := by
 have := size_cell h; have := size_kid hk; omega
mutual
def okN : N → Prop
 | .mk _ b l => (b = false → l ≠ []) ∧ okCs l b
def okC : C → Bool → Prop
 | .mk _ _ _ kid, b => b = false → kid.length = 1 ∧ okNs kid
def okCs : List C → Bool → Prop
 | [], _ => True
 | c :: l, b => okC c b ∧ okCs l b
def okNs : List N → Prop
 | [] => True
 | n :: l => okN n ∧ okNs l
end
theorem okNs_iff : ∀ l, okNs l ↔ ∀ n, n ∈ l → okN n
 | [] => by simp [okNs]
 | n :: l => by simp [okNs, okNs_iff l]
theorem okCs_iff (b : Bool) : ∀ l, okCs l b ↔ ∀ c, c ∈ l → okC c b
 | [] => by simp [okCs]
 | c :: l => by simp [okCs, okCs_iff b l]
theorem okC_iff (c : C) (b : Bool) : okC c b ↔ (b = false → ∃ k, c.kid = [k] ∧ okN k) := by
 cases c with | mk k d ps kid =>
 simp only [okC, C.kid, okNs_iff]
 refine ⟨fun h e => ?_, fun h e => ?_⟩
 ·obtain ⟨h1, h2⟩ := h e
  match kid, h1 with
  | [a], _ => exact ⟨a, rfl, h2 a List.mem_cons_self⟩
 ·obtain ⟨a, rfl, ha⟩ := h e
  exact ⟨rfl, fun n hn => by rw [List.mem_singleton] at hn; rw [hn]; exact ha⟩
theorem okN_iff (n : N) : okN n ↔ (n.leaf = false → n.l ≠ [] ∧ ∀ c, c ∈ n.l → ∃ k, c.kid = [k] ∧ okN k) := by
 cases n with | mk p b l =>
 simp only [okN, N.leaf, N.l, okCs_iff, okC_iff]
 exact ⟨fun h e => ⟨h.1 e, fun c hc => h.2 c hc e⟩, fun h => ⟨fun e => (h e).1, fun c hc e => (h e).2 c hc⟩⟩
mutual
def totN : N → Nat
 | .mk _ _ l => totCs l
def totC : C → Nat
 | .mk _ _ _ kid => 1 + totNs kid
def totCs : List C → Nat
 | [] => 0
 | c :: l => totC c + totCs l
def totNs : List N → Nat
 | [] => 0
 | n :: l => totN n + totNs l
end
theorem totCs_sum : ∀ l, totCs l = (l.map totC).sum
 | [] => by simp [totCs]
 | c :: l => by simp [totCs, totCs_sum l]
theorem totNs_sum : ∀ l, totNs l = (l.map totN).sum
 | [] => by simp [totNs]
 | c :: l => by simp [totNs, totNs_sum l]
theorem totN_eq (n : N) : totN n = (n.l.map totC).sum := by cases n; simp only [totN, totCs_sum]; rfl
theorem totC_eq (c : C) : totC c = 1 + (c.kid.map totN).sum := by cases c; simp only [totC, totNs_sum]; rfl
mutual
def depN : N → Nat
 | .mk _ b l => if b then 0 else 1 + depCs l
def depC : C → Nat
 | .mk _ _ _ kid => depNs kid
def depCs : List C → Nat
 | [] => 0
 | c :: l => max (depC c) (depCs l)
def depNs : List N → Nat
 | [] => 0
 | n :: l => max (depN n) (depNs l)
end
mutual
def smN : N → Prop
 | .mk _ _ l => smCs l
def smC : C → Prop
 | .mk k d ps kid => k.size ≤ 16 ∧ d.size ≤ 400 ∧ ps.length ≤ 4 ∧ smNs kid
def smCs : List C → Prop
 | [] => True
 | c :: l => smC c ∧ smCs l
def smNs : List N → Prop
 | [] => True
 | n :: l => smN n ∧ smNs l
end
theorem smCs_iff : ∀ l, smCs l ↔ ∀ c, c ∈ l → smC c
 | [] => by simp [smCs]
 | n :: l => by simp [smCs, smCs_iff l]
theorem smNs_iff : ∀ l, smNs l ↔ ∀ n, n ∈ l → smN n
 | [] => by simp [smNs]
 | n :: l => by simp [smNs, smNs_iff l]
theorem smN_iff (n : N) : smN n ↔ ∀ c, c ∈ n.l → smC c := by cases n; simp only [smN, smCs_iff]; rfl
theorem smC_iff (c : C) : smC c ↔ c.key.size ≤ 16 ∧ c.data.size ≤ 400 ∧ c.pages.length ≤ 4 ∧ ∀ n, n ∈ c.kid → smN n := by cases c; simp only [smC, smNs_iff]; rfl
theorem tot_len (n : N) : n.l.length ≤ totN n := by
 rw [totN_eq]
 generalize n.l = l
 induction l with
 | nil => exact Nat.zero_le _
 | cons c l ih => simp only [List.length_cons, List.map_cons, List.sum_cons, totC_eq]; omega
def sizeC (b : Bool) (c : C) : Int := if b then (if (need c.data.size : Int) > 0 ∨ (c.data.size : Int) > 400 then 7 + c.key.size else 3 + c.key.size + c.data.size) else 4 + c.key.size
def sizesN (n : N) : List Int := n.l.map (sizeC n.leaf)
theorem sizes_bd (n : N) (h : smN n) (ht : n.l.length ≤ 1048576) : Bd (sizesN n) := by
 refine ⟨by unfold sizesN; rw [List.length_map]; exact ht, fun x hx => ?_⟩
 obtain ⟨c, hc, rfl⟩ := List.mem_map.1 hx
 have := (smC_iff c).1 ((smN_iff n).1 h c hc)
 unfold sizeC
 repeat' split <;> omega
theorem sizesW (w0 : W0) (n : N) (S : St) (h : smN n) (ht : n.l.length ≤ 1048576) : ACall Tryz.prog w0 66 [eN n] S (fun d S' => d = dL (sizesN n) ∧ S' = S) := by
 refine fnS [] mx Tryz.func66 rfl rfl (by kernel_rfl) ?_; (refine @goW _ ?_; refine goS1 @Tryz.ntmps66 ?_)
 intro b
 refine growK 3 1 rfl (by omega) fun lb => ?_
 refine loopN [] n.l.length [1, 3, 4] (fun k => [(3, .acc lb.n k), (4, dI k)]) (fun k => ⟨(b.n, [dI n.page, dB n.leaf, .sl 4 false (n.l.map dC)]) :: S.box, (lb.n, .arr 1 (((sizesN n).take k).map dI)) :: S.acc⟩) (fun _ => True) mx (by kernel_rfl) ?_ ?_
 ·(refine @goW _ ?_; exact goT)
 ·intro k hk _
  have hl : (sizesN n).length = n.l.length := by unfold sizesN; rw [List.length_map]
  have hmin : min k (sizesN n).length = k := by omega
  (refine @goW _ ?_; refine goS1 @hmin ?_)
  have e2 : k < n.l.length → IntKind.i64.wrap ((k : Int) + 1) = ((k + 1 : Nat) : Int) := fun h => by rw [w64 (by omega) (by omega)]; omega
  refine ⟨fun hlt => ⟨hlt, fun a ha => ?_⟩, fun hge => by rw [List.take_of_length_le (by omega)]; exact .full _ _ _⟩
  have hb := (smC_iff a).1 ((smN_iff n).1 h a (List.mem_of_getElem? ha))
  have hs : (sizesN n).take (k + 1) = (sizesN n).take k ++ [sizeC n.leaf a] := by
   rw [List.take_add_one]; unfold sizesN; rw [List.getElem?_map, ha]; rfl
  have e1 : IntKind.i64.wrap (4 + (a.key.size : Int)) = 4 + a.key.size := w64 (by omega) (by omega)
  have fin : ∀ z : Int, z = sizeC n.leaf a → Aml.Sub ⟨(b.n, [dI n.page, dB n.leaf, .sl 4 false (n.l.map dC)]) :: S.box, (lb.n, .arr 1 (((sizesN n).take (k + 1)).map dI)) :: S.acc⟩ ⟨(b.n, [dI n.page, dB n.leaf, .sl 4 false (n.l.map dC)]) :: S.box, (lb.n, .arr 1 (((sizesN n).take k).map dI ++ [dI z])) :: S.acc⟩ := fun z e => by
   rw [hs, List.map_append, e]; exact .refl _
  have hm : k + 1 ≤ maxLen := by unfold maxLen; omega
  have h8 : (k + 1) * 8 ≤ 140737488355328 := by omega
  refine ⟨fun hlf => ⟨hlt, fun a3 ha3 => ⟨hlt, fun a5 ha5 => ⟨hlt, fun a7 ha7 => ?_⟩⟩⟩, fun hlf => ⟨h8, hm, hlt, e2 hlt, fin _ ?_⟩⟩
  ·cases getE ha ha3; cases getE ha ha5; cases getE ha ha7
   refine use1 (needR w0 _ _) ?_
   (refine @goW _ ?_; refine goS1 @hmin ?_)
   refine ⟨fun hn => ⟨hlt, fun a3 ha3 => ⟨h8, hm, hlt, e2 hlt, fin _ ?_⟩⟩, fun hn => ⟨hlt, fun a3 ha3 => ⟨fun h4 => ?_, fun h4 => ⟨h8, hm, hlt, e2 hlt, fin _ ?_⟩⟩⟩⟩
   ·cases getE ha ha3
    unfold sizeC; rw [if_pos hlf, if_pos (.inl hn)]; exact w64 (by omega) (by omega)
   ·cases getE ha ha3; omega
   ·cases getE ha ha3
    unfold sizeC; rw [if_pos hlf, if_neg (by omega), w64 (n := 3 + (a.key.size : Int)) (by omega) (by omega)]; exact w64 (by omega) (by omega)
  ·unfold sizeC; rw [if_neg (by rw [hlf]; simp)]; exact e1
def wayF (l : List C) (key : ByteArray) : Nat → Nat
 | 0 => 0
 | i + 1 => match l[i + 1]? with
  | some c => if leS c.key key then i + 1 else wayF l key i
  | none => wayF l key i
theorem wayF_le (l : List C) (key : ByteArray) : ∀ i, wayF l key i ≤ i
 | 0 => Nat.le_refl _
 | i + 1 => by
  have := wayF_le l key i
  simp only [wayF]
  split
  ·split <;> omega
  ·omega
def way (l : List C) (key : ByteArray) : Nat := wayF l key (l.length - 1)
theorem way_lt {l : List C} (h : l ≠ []) (key : ByteArray) : way l key < l.length := by
 have := wayF_le l key (l.length - 1)
 have := List.length_pos_iff.2 h
 unfold way; omega
theorem wayW (w0 : W0) (n : N) (key : ByteArray) (S : St) (ht : n.l.length ≤ 1048576) (hn : n.l ≠ []) : ACall Tryz.prog w0 64 [eN n, dS key] S (fun d S' => d = dI (way n.l key) ∧ S' = S) := by
 refine fnS [] mx Tryz.func64 rfl rfl (by kernel_rfl) ?_; (refine @goW _ ?_; refine goS1 @Tryz.ntmps64 ?_)
 have h0 := List.length_pos_iff.2 hn
 intro b
 refine loopN [] (n.l.length - 1) [1, 2, 5] (fun k => [(5, dI ((n.l.length - 1 - k : Nat) : Int))]) (fun _ => ⟨(b.n, [dI n.page, dB n.leaf, .sl 4 false (n.l.map dC)]) :: S.box, S.acc⟩) (fun k => way n.l key = wayF n.l key (n.l.length - 1 - k)) mx (by kernel_rfl) ?_ ?_
 ·(refine @goW _ ?_; refine goS ?_)
  exact ⟨rfl, by rw [w64 (by omega) (by omega)]; omega⟩
 ·intro k hk hw
  (refine @goW _ ?_; refine goS ?_)
  refine ⟨fun hg => ?_, fun hg => ?_⟩
  ·obtain ⟨i, hi⟩ : ∃ i, n.l.length - 1 - k = i + 1 := ⟨n.l.length - 1 - k - 1, by omega⟩
   have hi' : n.l.length - 1 - (k + 1) = i := by omega
   rw [hi] at hw ⊢
   rw [hi']
   refine ⟨by omega, fun a ha => ⟨fun hle => ?_, fun hle => ⟨by omega, ?_, ?_⟩⟩⟩
   ·rw [hw]; simp only [wayF, ha, hle]; rfl
   ·rw [hw]; simp only [wayF, ha, hle]; rfl
   ·rw [w64 (by omega) (by omega)]; omega
  ·have : n.l.length - 1 - k = 0 := by omega
   rw [hw, this]; rfl
def withC (l : List C) (i : Nat) (some_ : List C) : List C := l.take i ++ some_ ++ l.drop (i + 1)
theorem withW (w0 : W0) (l m : List C) (i : Nat) (S : St) (ht : l.length ≤ 1048576) (hm : m.length ≤ 1048576) (hi : i < l.length) : ACall Tryz.prog w0 68 [.sl 4 false (l.map dC), dI i, .sl 4 false (m.map dC)] S (fun d S' => d = .sl 4 false ((withC l i m).map dC) ∧ S' = S) := by
 refine fnS [] mx Tryz.func68 rfl rfl (by kernel_rfl) ?_; (refine @goW _ ?_; refine goS1 @Tryz.ntmps68 ?_)
 have e1 : IntKind.i64.wrap ((i : Int) + 1) = ((i + 1 : Nat) : Int) := by rw [w64 (by omega) (by omega)]; omega
 rw [e1, Int.toNat_natCast]
 refine ⟨by omega, by omega, by unfold maxLen; omega, fun b => ⟨by omega, by unfold maxLen; omega, by omega, by omega, by omega, by unfold maxLen; omega, ?_⟩⟩
 exact .refl _
def noS : ByteArray := ByteArray.empty
def cellN (key : ByteArray) (kid : N) : C := .mk key noS [] [kid]
def setKey (key : ByteArray) : List C → List C
 | [] => []
 | c :: l => .mk key c.data c.pages c.kid :: l
def keyOf : List C → ByteArray
 | [] => noS
 | c :: _ => c.key
def partedN (n kid : N) (k : Nat) (key : ByteArray) : N × Bool :=
 let i := atR (sizesN kid)
 if i = 0 then (n, false) else
 let r := kid.l.drop i
 (.mk 0 false (withC n.l k [cellN key (.mk 0 kid.leaf (kid.l.take i)), cellN (keyOf r) (.mk 0 kid.leaf (if kid.leaf then r else setKey noS r))]), true)
theorem partedW (w0 : W0) (n kid : N) (c : C) (k : Nat) (S : St) (hc : n.l[k]? = some c) (hk : c.kid = [kid]) (ht : n.l.length ≤ 1048576) (ht' : kid.l.length ≤ 1048576) (hs : smN kid) :
  ACall Tryz.prog w0 102 [eN n, dI k] S (fun d S' => d = .tup [eN (partedN n kid k c.key).1, dB (partedN n kid k c.key).2] ∧ S' = S) := by
 refine fnS [12] mx Tryz.func102 rfl rfl (by kernel_rfl) ?_; (refine @goW _ ?_; refine goS1 @Tryz.ntmps102 ?_)
 intro b b1
 have hlt := (List.getElem?_eq_some_iff.1 hc).1
 refine ⟨hlt, fun a ha => ?_⟩
 cases getE hc ha
 rw [hk]
 refine ⟨by simp, fun a2 ha2 b2 => ?_⟩
 obtain rfl : kid = a2 := by simpa using ha2
 refine use1 (sizesW w0 kid _ hs ht') ?_
 (refine @goW _ ?_; refine goS ?_)
 refine use1 (atW w0 _ _ (sizes_bd kid hs ht')) ?_
 have hat : atR (sizesN kid) = 0 ∨ (1 ≤ atR (sizesN kid) ∧ atR (sizesN kid) < kid.l.length) := by
  by_cases h : atR (sizesN kid) = 0
  ·exact .inl h
  ·have := atR_lt _ h
   unfold sizesN at this
   rw [List.length_map] at this
   exact .inr this
 (refine @goW _ ?_; refine goS ?_)
 unfold partedN
 simp only
 generalize atR (sizesN kid) = i at *
 refine ⟨fun h0 => ?_, fun h0 b3 b4 => ?_⟩
 ·rw [if_pos (by omega)]
  (refine @goW _ ?_; exact goT)
 ·rw [if_neg (by omega)]
  have h1 := hat.resolve_left (by omega)
  obtain ⟨e, r, hr⟩ : ∃ e r, kid.l.drop i = e :: r := by
   cases hd : kid.l.drop i with
   | nil => have := congrArg List.length hd; rw [List.length_drop, List.length_nil] at this; omega
   | cons e r => exact ⟨e, r, rfl⟩
  have hlen : kid.l.length - i = (e :: r).length := by rw [← hr, List.length_drop]
  have hlr : (e :: r).length ≤ 1048576 := by omega
  have hmin : min i kid.l.length = i := by omega
  have h80 : (e :: r).length * 80 ≤ 140737488355328 := by omega
  have hmx : (e :: r).length ≤ maxLen := by unfold maxLen; omega
  have hpos : 0 < (e :: r).length := by simp
  rw [hr]
  simp only [hlen, hmin]
  refine ⟨by omega, by omega, by unfold maxLen; omega, fun l1 => ⟨by omega, h80, hmx, fun l2 => ⟨by omega, hpos, fun a ha => ?_⟩⟩⟩
  obtain rfl : e = a := by simpa using ha
  refine ⟨fun hlf => ?_, fun hlf => ⟨by omega, hpos, fun a3 ha3 => ?_⟩⟩
  ·refine shrB b3.n 2 (l := l1.n) (s := 4) (xs := (kid.l.take i).map dC) (ds := [dI 0, dB kid.leaf, .acc l1.n i]) (by (refine @goW _ ?_; exact goT)) (by simp [hmin]) (by (refine @goW _ ?_; exact goT)) ?_
   (refine @goW _ ?_; refine goS ?_)
   refine shrB b4.n 2 (l := l2.n) (s := 4) (xs := eC e :: r.map dC) (ds := [dI 0, dB kid.leaf, .acc l2.n (r.length + 1)]) (by (refine @goW _ ?_; exact goT)) (by simp) (by (refine @goW _ ?_; exact goT)) ?_
   (refine @goW _ ?_; refine goS ?_)
   refine lexK mx (by kernel_rfl) ?_
   (refine @goW _ ?_; refine goS ?_)
   refine ⟨hlt, fun a ha => ?_⟩
   cases getE hc ha
   refine useX (fun B hB => withW w0 n.l [cellN c.key (.mk 0 kid.leaf (kid.l.take i)), cellN e.key (.mk 0 kid.leaf (e :: r))] k _ ht (by simp) hlt) ?_ (by simp (maxDischargeDepth := 12) (maxSteps := 1000000) -implicitDefEqProofs only [go_sem, Nat.reduceAdd, Nat.reduceSub, Nat.reduceMul, Nat.reduceLeDiff, Nat.reduceEqDiff, Nat.reduceGT, Nat.reduceBEq, reduceCtorEq, ↓reduceIte, Int.reduceToNat, Int.reduceLE, Int.reduceLT, Int.reduceNe, Int.reduceEq, cellN, noS])
   simp (maxDischargeDepth := 12) (maxSteps := 1000000) -implicitDefEqProofs only [go_sem, Nat.reduceAdd, Nat.reduceSub, Nat.reduceMul, Nat.reduceLeDiff, Nat.reduceEqDiff, Nat.reduceGT, Nat.reduceBEq, reduceCtorEq, ↓reduceIte, Int.reduceToNat, Int.reduceLE, Int.reduceLT, Int.reduceNe, Int.reduceEq, keyOf, hlf]
  ·cases getE ha ha3
   refine shrB b3.n 2 (l := l1.n) (s := 4) (xs := (kid.l.take i).map dC) (ds := [dI 0, dB kid.leaf, .acc l1.n i]) (by (refine @goW _ ?_; exact goT)) (by simp [hmin]) (by (refine @goW _ ?_; exact goT)) ?_
   (refine @goW _ ?_; refine goS ?_)
   refine shrB b4.n 2 (l := l2.n) (s := 4) (xs := eC (.mk noS e.data e.pages e.kid) :: r.map dC) (ds := [dI 0, dB kid.leaf, .acc l2.n (r.length + 1)]) (by simp (maxDischargeDepth := 12) (maxSteps := 1000000) -implicitDefEqProofs only [go_sem, Nat.reduceAdd, Nat.reduceSub, Nat.reduceMul, Nat.reduceLeDiff, Nat.reduceEqDiff, Nat.reduceGT, Nat.reduceBEq, reduceCtorEq, ↓reduceIte, Int.reduceToNat, Int.reduceLE, Int.reduceLT, Int.reduceNe, Int.reduceEq]) (by simp) (by simp (maxDischargeDepth := 12) (maxSteps := 1000000) -implicitDefEqProofs only [go_sem, Nat.reduceAdd, Nat.reduceSub, Nat.reduceMul, Nat.reduceLeDiff, Nat.reduceEqDiff, Nat.reduceGT, Nat.reduceBEq, reduceCtorEq, ↓reduceIte, Int.reduceToNat, Int.reduceLE, Int.reduceLT, Int.reduceNe, Int.reduceEq, noS]; rfl) ?_
   (refine @goW _ ?_; refine goS ?_)
   refine lexK mx (by kernel_rfl) ?_
   (refine @goW _ ?_; refine goS ?_)
   refine ⟨hlt, fun a ha => ?_⟩
   cases getE hc ha
   refine useX (fun B hB => withW w0 n.l [cellN c.key (.mk 0 kid.leaf (kid.l.take i)), cellN e.key (.mk 0 kid.leaf (.mk noS e.data e.pages e.kid :: r))] k _ ht (by simp) hlt) ?_ (by simp (maxDischargeDepth := 12) (maxSteps := 1000000) -implicitDefEqProofs only [go_sem, Nat.reduceAdd, Nat.reduceSub, Nat.reduceMul, Nat.reduceLeDiff, Nat.reduceEqDiff, Nat.reduceGT, Nat.reduceBEq, reduceCtorEq, ↓reduceIte, Int.reduceToNat, Int.reduceLE, Int.reduceLT, Int.reduceNe, Int.reduceEq, cellN, noS])
   simp (maxDischargeDepth := 12) (maxSteps := 1000000) -implicitDefEqProofs only [go_sem, Nat.reduceAdd, Nat.reduceSub, Nat.reduceMul, Nat.reduceLeDiff, Nat.reduceEqDiff, Nat.reduceGT, Nat.reduceBEq, reduceCtorEq, ↓reduceIte, Int.reduceToNat, Int.reduceLE, Int.reduceLT, Int.reduceNe, Int.reduceEq, keyOf, hlf, setKey, Bool.false_eq_true]
def kid0 (c : C) : N := c.kid.headD (.mk 0 true [])
def cellAt (l : List C) (k : Nat) : C := l.getD k (.mk noS noS [] [])
theorem cellAt_eq {l : List C} {k : Nat} {c : C} (h : l[k]? = some c) : cellAt l k = c := by unfold cellAt; rw [List.getD_eq_getElem?_getD, h]; rfl
theorem kid0_eq {c : C} {k : N} (h : c.kid = [k]) : kid0 c = k := by unfold kid0; rw [h]; rfl
def bothN (a b : N) (key : ByteArray) : N := .mk 0 a.leaf (a.l ++ if b.leaf then b.l else setKey key b.l)
def mendN (n : N) (k : Nat) : N :=
 let c := cellAt n.l k
 let p := partedN n (kid0 c) k c.key
 if p.2 then p.1 else
 if !lowR (sizesN (kid0 c)) || decide (n.l.length < 2) then n else
 let j := if k + 1 < n.l.length then k else k - 1
 let both := bothN (kid0 (cellAt n.l j)) (kid0 (cellAt n.l (j + 1))) (cellAt n.l (j + 1)).key
 (partedN (.mk 0 false (withC (withC n.l (j + 1) []) j [cellN (cellAt n.l j).key both])) both j (cellAt n.l j).key).1
theorem setKey_len (key : ByteArray) (l : List C) : (setKey key l).length = l.length := by cases l <;> rfl
theorem setKey_zero (key : ByteArray) {l : List C} {c : C} (h : l[0]? = some c) : (setKey key l)[0]? = some (.mk key c.data c.pages c.kid) := by
 cases l with
 | nil => cases h
 | cons a l => simp at h; subst h; rfl
theorem setKey_succ (key : ByteArray) (l : List C) (k : Nat) : (setKey key l)[k + 1]? = l[k + 1]? := by cases l <;> rfl
theorem smC_setKey {key : ByteArray} (hk : key.size ≤ 16) {l : List C} (h : ∀ c, c ∈ l → smC c) : ∀ c, c ∈ setKey key l → smC c := by
 cases l with
 | nil => exact h
 | cons a l =>
  intro c hc
  rcases List.mem_cons.1 hc with rfl | hc
  ·have := (smC_iff a).1 (h a List.mem_cons_self)
   exact (smC_iff _).2 ⟨hk, this.2⟩
  ·exact h c (List.mem_cons_of_mem _ hc)
structure BrOk (n : N) : Prop where
 len : n.l.length ≤ 524288
 kid : ∀ c, c ∈ n.l → ∃ k, c.kid = [k] ∧ smN k ∧ k.l.length ≤ 524288
 key : ∀ c, c ∈ n.l → c.key.size ≤ 16
theorem mendW (w0 : W0) (n : N) (k : Nat) (S : St) (hn : BrOk n) (hk : k < n.l.length) : ACall Tryz.prog w0 67 [eN n, dI k] S (fun d S' => d = eN (mendN n k) ∧ S' = S) := by
 refine fnS [21] mx Tryz.func67 rfl rfl (by kernel_rfl) ?_; (refine @goW _ ?_; refine goS1 @Tryz.ntmps67 ?_)
 intro b b1
 have hl := hn.len
 obtain ⟨c, hc⟩ : ∃ c, n.l[k]? = some c := ⟨_, List.getElem?_eq_getElem hk⟩
 obtain ⟨kid, hkid, hks, hkl⟩ := hn.kid c (List.mem_of_getElem? hc)
 refine use1 (partedW w0 n kid c k _ hc hkid (by omega) (by omega) hks) ?_
 unfold mendN
 simp only [cellAt_eq hc, kid0_eq hkid]
 generalize hp : partedN n kid k c.key = p
 (refine @goW _ ?_; refine goS ?_)
 intro b2
 refine ⟨fun h2 => ?_, fun h2 => ⟨hk, fun a ha => ⟨?_, fun a2 ha2 => ?_⟩⟩⟩
 ·rw [if_pos h2]
  (refine @goW _ ?_; exact goT)
 ·cases getE hc ha; rw [hkid]; simp
 ·cases getE hc ha
  rw [hkid] at ha2
  obtain rfl : kid = a2 := by simpa using ha2
  refine use1 (sizesW w0 kid _ hks (by omega)) ?_
  (refine @goW _ ?_; refine goS ?_)
  refine use1 (lowW w0 _ _ (sizes_bd kid hks (by omega))) ?_
  (refine @goW _ ?_; refine goS ?_)
  rw [if_neg (by rw [h2]; simp)]
  refine ⟨fun hlo => by rw [if_pos (by rw [hlo]; rfl)]; exact .refl _, fun hlo => ⟨fun hl2 => by rw [if_pos (by rw [hlo, decide_eq_true (by omega)]; rfl)]; exact .refl _, fun hl2 => ?_⟩⟩
  rw [if_neg (by rw [hlo, decide_eq_false (by omega)]; simp)]
  have hnb := nbW w0 n.l.length k
  by_cases hk1 : k + 1 < n.l.length
  ·refine use1 (hnb _ (by omega) (by omega) (by omega) (by omega)) ?_
   have enb : nbR (n.l.length : Int) k = ((k + 1 : Nat) : Int) := by unfold nbR; rw [if_pos (by omega)]; omega
   rw [if_pos hk1, enb]
   (refine @goW _ ?_; refine goS ?_)
   refine ⟨fun h => absurd h (by omega), fun _ => ?_⟩
   have hj1 := hk1
   have hc0 := hc
   have hkd0 := hkid
   have hks0 := hks
   have hkl0 := hkl
   obtain ⟨kd0, hk0⟩ : ∃ kd0, kd0 = kid := ⟨_, rfl⟩
   rw [← hk0] at hkd0 hks0 hkl0
   obtain ⟨c0, hcc⟩ : ∃ c0, c0 = c := ⟨_, rfl⟩
   rw [← hcc] at hkd0 hc0
   have ej : IntKind.i64.wrap ((k : Int) + 1) = ((k + 1 : Nat) : Int) := by rw [w64 (by omega) (by omega)]; omega
   obtain ⟨c1, hc1⟩ : ∃ c1, n.l[k + 1]? = some c1 := ⟨_, List.getElem?_eq_getElem hk1⟩
   obtain ⟨kd1, hkd1, hks1, hkl1⟩ := hn.kid c1 (List.mem_of_getElem? hc1)
   simp only [ej, Int.toNat_natCast, cellAt_eq hc0, cellAt_eq hc1, kid0_eq hkd0, kid0_eq hkd1]
   refine ⟨by omega, fun a ha => ?_⟩
   cases getE hc0 ha
   rw [hkd0]
   refine ⟨by simp, fun a2 ha2 b3 => ⟨by omega, by omega, fun a4 ha4 => ?_⟩⟩
   obtain rfl : kd0 = a2 := by simpa using ha2
   cases getE hc1 ha4
   rw [hkd1]
   refine ⟨by simp, fun a6 ha6 b4 b5 => ⟨by omega, by unfold maxLen; omega, fun lb => ?_⟩⟩
   obtain rfl : kd1 = a6 := by simpa using ha6
   obtain ⟨R, hR⟩ : ∃ R, R = if kd1.leaf then kd1.l else setKey c1.key kd1.l := ⟨_, rfl⟩
   have hRl : R.length = kd1.l.length := by rw [hR]; split; rfl; exact setKey_len _ _
   refine loopN [] kd1.l.length [1, 2, 4, 5, 9, 10, 11] (fun i => [(11, dI i)]) (fun i => ⟨(b5.n, [dI 0, dB kd0.leaf, .acc lb.n (kd0.l.length + i)]) :: (b4.n, [dI kd1.page, dB kd1.leaf, .sl 4 false (kd1.l.map dC)]) :: (b2.n, [dI p.1.page, dB p.1.leaf, .sl 4 false (p.1.l.map dC)]) :: (b1.n, [dI 0, dB false, .sl 0 true []]) :: (b.n, [dI n.page, dB n.leaf, .sl 4 false (n.l.map dC)]) :: S.box, (lb.n, .arr 4 ((kd0.l ++ R.take i).map dC)) :: S.acc⟩) (fun _ => True) mx (by kernel_rfl) ?_ ?_
   ·(refine @goW _ ?_; refine goS ?_)
    exact .bothB (.bothB (.consB (.refl _)))
   ·intro i hi _
    have hmin : min i R.length = i := by omega
    (refine @goW _ ?_; refine goS2 @ej @hmin ?_)
    have e2 : IntKind.i64.wrap ((i : Int) + 1) = ((i + 1 : Nat) : Int) := by rw [w64 (by omega) (by omega)]; omega
    have fin : ∀ (x : C) (y : Nat × List DV), R[i]? = some x → Aml.Sub ⟨(b5.n, [dI 0, dB kd0.leaf, .acc lb.n (kd0.l.length + (i + 1))]) :: (b4.n, [dI kd1.page, dB kd1.leaf, .sl 4 false (kd1.l.map dC)]) :: (b2.n, [dI p.1.page, dB p.1.leaf, .sl 4 false (p.1.l.map dC)]) :: (b1.n, [dI 0, dB false, .sl 0 true []]) :: (b.n, [dI n.page, dB n.leaf, .sl 4 false (n.l.map dC)]) :: S.box, (lb.n, .arr 4 ((kd0.l ++ R.take (i + 1)).map dC)) :: S.acc⟩ ⟨y :: (b5.n, [dI 0, dB kd0.leaf, .acc lb.n (kd0.l.length + i + 1)]) :: (b4.n, [dI kd1.page, dB kd1.leaf, .sl 4 false (kd1.l.map dC)]) :: (b2.n, [dI p.1.page, dB p.1.leaf, .sl 4 false (p.1.l.map dC)]) :: (b1.n, [dI 0, dB false, .sl 0 true []]) :: (b.n, [dI n.page, dB n.leaf, .sl 4 false (n.l.map dC)]) :: S.box, (lb.n, .arr 4 ((kd0.l ++ R.take i).map dC ++ [eC x])) :: S.acc⟩ := fun x y hx => by
     rw [List.take_add_one, hx, Option.toList_some, ← List.append_assoc, List.map_append, List.map_cons, List.map_nil, dC_eq]
     exact .consB (.refl _)
    refine ⟨fun hlt => ⟨hlt, fun a ha b6 => ⟨fun h0 => ⟨fun hlf => ?_, fun hlf => ⟨by omega, fun a4 ha4 => ?_⟩⟩, fun h0 => ?_⟩⟩, fun hge => ?_⟩
    ·exact ⟨by omega, by unfold maxLen; omega, hlt, e2, fin a _ (by rw [hR, if_pos hlf]; exact ha)⟩
    ·cases getE hc1 ha4
     obtain rfl : i = 0 := by omega
     exact ⟨by omega, by unfold maxLen; omega, hlt, e2, fin (.mk c1.key a.data a.pages a.kid) _ (by rw [hR, if_neg (by rw [hlf]; simp)]; exact setKey_zero _ ha)⟩
    ·obtain ⟨i', rfl⟩ : ∃ i', i = i' + 1 := ⟨i - 1, by omega⟩
     exact ⟨by omega, by unfold maxLen; omega, hlt, e2, fin a _ (by
      rw [hR]
      split
      ·exact ha
      ·rw [setKey_succ]; exact ha)⟩
    ·obtain rfl : i = kd1.l.length := by omega
     rw [List.take_of_length_le (by omega)]
     refine use1 (withW w0 n.l [] (k + 1) _ (by omega) (by simp) (by omega)) ?_ (by (refine @goW _ ?_; exact goT))
     (refine @goW _ ?_; refine goS ?_)
     refine shrB b5.n 2 (l := lb.n) (s := 4) (xs := (kd0.l ++ R).map dC) (ds := [dI 0, dB kd0.leaf, .acc lb.n (kd0.l.length + kd1.l.length)]) (by (refine @goW _ ?_; exact goT)) (by simp [hRl]) (by (refine @goW _ ?_; exact goT)) ?_
     (refine @goW _ ?_; refine goS ?_)
     refine lexK mx (by kernel_rfl) ?_
     (refine @goW _ ?_; refine goS ?_)
     refine ⟨by omega, fun a ha => ?_⟩
     cases getE hc0 ha
     have hlw : (withC n.l (k + 1) []).length = n.l.length - 1 := by
      unfold withC; rw [List.append_nil, List.length_append, List.length_take, List.length_drop]; omega
     have hmm : (withC (withC n.l (k + 1) []) k [cellN c0.key (.mk 0 kd0.leaf (kd0.l ++ R))])[k]? = some (cellN c0.key (.mk 0 kd0.leaf (kd0.l ++ R))) := by
      unfold withC
      rw [List.append_assoc, List.getElem?_append_right (by simp; omega)]
      rw [show k - (List.take k (List.take (k + 1) n.l ++ [] ++ List.drop (k + 1 + 1) n.l)).length = 0 by simp; omega]
      rfl
     have hml : (withC (withC n.l (k + 1) []) k [cellN c0.key (.mk 0 kd0.leaf (kd0.l ++ R))]).length ≤ 1048576 := by
      unfold withC at hlw ⊢
      simp only [List.length_append, List.length_take, List.length_drop, List.length_cons, List.length_nil] at *
      omega
     have hbl : (kd0.l ++ R).length ≤ 1048576 := by rw [List.length_append]; omega
     have hbs : smN (.mk 0 kd0.leaf (kd0.l ++ R)) := (smN_iff _).2 fun x hx => by
      rcases List.mem_append.1 hx with hx | hx
      ·exact (smN_iff _).1 hks0 x hx
      ·rw [hR] at hx
       split at hx
       ·exact (smN_iff _).1 hks1 x hx
       ·exact smC_setKey (hn.key c1 (List.mem_of_getElem? hc1)) ((smN_iff _).1 hks1) x hx
     have hbo : bothN kd0 kd1 c1.key = .mk 0 kd0.leaf (kd0.l ++ R) := by unfold bothN; rw [← hR]
     refine useX (fun B hB => withW w0 (withC n.l (k + 1) []) [cellN c0.key (.mk 0 kd0.leaf (kd0.l ++ R))] k _ (by omega) (by simp) (by omega)) ?_ (by simp (maxDischargeDepth := 12) (maxSteps := 1000000) -implicitDefEqProofs only [go_sem, Nat.reduceAdd, Nat.reduceSub, Nat.reduceMul, Nat.reduceLeDiff, Nat.reduceEqDiff, Nat.reduceGT, Nat.reduceBEq, reduceCtorEq, ↓reduceIte, Int.reduceToNat, Int.reduceLE, Int.reduceLT, Int.reduceNe, Int.reduceEq, cellN, noS])
     (refine @goW _ ?_; refine goS ?_)
     refine use1 (partedW w0 (.mk 0 false (withC (withC n.l (k + 1) []) k [cellN c0.key (.mk 0 kd0.leaf (kd0.l ++ R))])) (.mk 0 kd0.leaf (kd0.l ++ R)) _ k _ hmm rfl hml hbl hbs) ?_
     (refine @goW _ ?_; refine goS6 @Nat.add_sub_cancel (cellAt_eq hc0) (cellAt_eq hc1) (kid0_eq hkd0) (kid0_eq hkd1) @hbo ?_)
     exact .refl _
  ·obtain ⟨j, rfl⟩ : ∃ j, k = j + 1 := ⟨k - 1, by omega⟩
   refine use1 (hnb _ (by omega) (by omega) (by omega) (by omega)) ?_
   have enb : nbR (n.l.length : Int) ((j + 1 : Nat) : Int) = ((j : Nat) : Int) := by unfold nbR; rw [if_neg (by omega)]; omega
   rw [if_neg hk1, enb]
   (refine @goW _ ?_; refine goS ?_)
   have hj1 := hk
   have hc1 := hc
   have hkd1 := hkid
   have hks1 := hks
   have hkl1 := hkl
   obtain ⟨kd1, hk1'⟩ : ∃ kd1, kd1 = kid := ⟨_, rfl⟩
   rw [← hk1'] at hkd1 hks1 hkl1
   obtain ⟨c1, hcc⟩ : ∃ c1, c1 = c := ⟨_, rfl⟩
   rw [← hcc] at hkd1 hc1
   have ej : IntKind.i64.wrap ((j : Int) + 1) = ((j + 1 : Nat) : Int) := by rw [w64 (by omega) (by omega)]; omega
   obtain ⟨c0, hc0⟩ : ∃ c0, n.l[j]? = some c0 := ⟨_, List.getElem?_eq_getElem (by omega)⟩
   obtain ⟨kd0, hkd0, hks0, hkl0⟩ := hn.kid c0 (List.mem_of_getElem? hc0)
   simp only [ej, Int.toNat_natCast, Nat.add_sub_cancel, cellAt_eq hc0, cellAt_eq hc1, kid0_eq hkd0, kid0_eq hkd1]
   refine ⟨by omega, fun a ha => ?_⟩
   cases getE hc0 ha
   rw [hkd0]
   refine ⟨by simp, fun a2 ha2 b3 => ⟨by omega, by omega, fun a4 ha4 => ?_⟩⟩
   obtain rfl : kd0 = a2 := by simpa using ha2
   cases getE hc1 ha4
   rw [hkd1]
   refine ⟨by simp, fun a6 ha6 b4 b5 => ⟨by omega, by unfold maxLen; omega, fun lb => ?_⟩⟩
   obtain rfl : kd1 = a6 := by simpa using ha6
   obtain ⟨R, hR⟩ : ∃ R, R = if kd1.leaf then kd1.l else setKey c1.key kd1.l := ⟨_, rfl⟩
   have hRl : R.length = kd1.l.length := by rw [hR]; split; rfl; exact setKey_len _ _
   refine loopN [] kd1.l.length [1, 2, 4, 5, 9, 10, 11] (fun i => [(11, dI i)]) (fun i => ⟨(b5.n, [dI 0, dB kd0.leaf, .acc lb.n (kd0.l.length + i)]) :: (b4.n, [dI kd1.page, dB kd1.leaf, .sl 4 false (kd1.l.map dC)]) :: (b2.n, [dI p.1.page, dB p.1.leaf, .sl 4 false (p.1.l.map dC)]) :: (b1.n, [dI 0, dB false, .sl 0 true []]) :: (b.n, [dI n.page, dB n.leaf, .sl 4 false (n.l.map dC)]) :: S.box, (lb.n, .arr 4 ((kd0.l ++ R.take i).map dC)) :: S.acc⟩) (fun _ => True) mx (by kernel_rfl) ?_ ?_
   ·(refine @goW _ ?_; refine goS ?_)
    exact .bothB (.bothB (.consB (.refl _)))
   ·intro i hi _
    have hmin : min i R.length = i := by omega
    (refine @goW _ ?_; refine goS2 @ej @hmin ?_)
    have e2 : IntKind.i64.wrap ((i : Int) + 1) = ((i + 1 : Nat) : Int) := by rw [w64 (by omega) (by omega)]; omega
    have fin : ∀ (x : C) (y : Nat × List DV), R[i]? = some x → Aml.Sub ⟨(b5.n, [dI 0, dB kd0.leaf, .acc lb.n (kd0.l.length + (i + 1))]) :: (b4.n, [dI kd1.page, dB kd1.leaf, .sl 4 false (kd1.l.map dC)]) :: (b2.n, [dI p.1.page, dB p.1.leaf, .sl 4 false (p.1.l.map dC)]) :: (b1.n, [dI 0, dB false, .sl 0 true []]) :: (b.n, [dI n.page, dB n.leaf, .sl 4 false (n.l.map dC)]) :: S.box, (lb.n, .arr 4 ((kd0.l ++ R.take (i + 1)).map dC)) :: S.acc⟩ ⟨y :: (b5.n, [dI 0, dB kd0.leaf, .acc lb.n (kd0.l.length + i + 1)]) :: (b4.n, [dI kd1.page, dB kd1.leaf, .sl 4 false (kd1.l.map dC)]) :: (b2.n, [dI p.1.page, dB p.1.leaf, .sl 4 false (p.1.l.map dC)]) :: (b1.n, [dI 0, dB false, .sl 0 true []]) :: (b.n, [dI n.page, dB n.leaf, .sl 4 false (n.l.map dC)]) :: S.box, (lb.n, .arr 4 ((kd0.l ++ R.take i).map dC ++ [eC x])) :: S.acc⟩ := fun x y hx => by
     rw [List.take_add_one, hx, Option.toList_some, ← List.append_assoc, List.map_append, List.map_cons, List.map_nil, dC_eq]
     exact .consB (.refl _)
    refine ⟨fun hlt => ⟨hlt, fun a ha b6 => ⟨fun h0 => ⟨fun hlf => ?_, fun hlf => ⟨by omega, fun a4 ha4 => ?_⟩⟩, fun h0 => ?_⟩⟩, fun hge => ?_⟩
    ·exact ⟨by omega, by unfold maxLen; omega, hlt, e2, fin a _ (by rw [hR, if_pos hlf]; exact ha)⟩
    ·cases getE hc1 ha4
     obtain rfl : i = 0 := by omega
     exact ⟨by omega, by unfold maxLen; omega, hlt, e2, fin (.mk c1.key a.data a.pages a.kid) _ (by rw [hR, if_neg (by rw [hlf]; simp)]; exact setKey_zero _ ha)⟩
    ·obtain ⟨i', rfl⟩ : ∃ i', i = i' + 1 := ⟨i - 1, by omega⟩
     exact ⟨by omega, by unfold maxLen; omega, hlt, e2, fin a _ (by
      rw [hR]
      split
      ·exact ha
      ·rw [setKey_succ]; exact ha)⟩
    ·obtain rfl : i = kd1.l.length := by omega
     rw [List.take_of_length_le (by omega)]
     refine use1 (withW w0 n.l [] (j + 1) _ (by omega) (by simp) (by omega)) ?_ (by (refine @goW _ ?_; exact goT))
     (refine @goW _ ?_; refine goS ?_)
     refine shrB b5.n 2 (l := lb.n) (s := 4) (xs := (kd0.l ++ R).map dC) (ds := [dI 0, dB kd0.leaf, .acc lb.n (kd0.l.length + kd1.l.length)]) (by (refine @goW _ ?_; exact goT)) (by simp [hRl]) (by (refine @goW _ ?_; exact goT)) ?_
     (refine @goW _ ?_; refine goS ?_)
     refine lexK mx (by kernel_rfl) ?_
     (refine @goW _ ?_; refine goS ?_)
     refine ⟨by omega, fun a ha => ?_⟩
     cases getE hc0 ha
     have hlw : (withC n.l (j + 1) []).length = n.l.length - 1 := by
      unfold withC; rw [List.append_nil, List.length_append, List.length_take, List.length_drop]; omega
     have hmm : (withC (withC n.l (j + 1) []) j [cellN c0.key (.mk 0 kd0.leaf (kd0.l ++ R))])[j]? = some (cellN c0.key (.mk 0 kd0.leaf (kd0.l ++ R))) := by
      unfold withC
      rw [List.append_assoc, List.getElem?_append_right (by simp; omega)]
      rw [show j - (List.take j (List.take (j + 1) n.l ++ [] ++ List.drop (j + 1 + 1) n.l)).length = 0 by simp; omega]
      rfl
     have hml : (withC (withC n.l (j + 1) []) j [cellN c0.key (.mk 0 kd0.leaf (kd0.l ++ R))]).length ≤ 1048576 := by
      unfold withC at hlw ⊢
      simp only [List.length_append, List.length_take, List.length_drop, List.length_cons, List.length_nil] at *
      omega
     have hbl : (kd0.l ++ R).length ≤ 1048576 := by rw [List.length_append]; omega
     have hbs : smN (.mk 0 kd0.leaf (kd0.l ++ R)) := (smN_iff _).2 fun x hx => by
      rcases List.mem_append.1 hx with hx | hx
      ·exact (smN_iff _).1 hks0 x hx
      ·rw [hR] at hx
       split at hx
       ·exact (smN_iff _).1 hks1 x hx
       ·exact smC_setKey (hn.key c1 (List.mem_of_getElem? hc1)) ((smN_iff _).1 hks1) x hx
     have hbo : bothN kd0 kd1 c1.key = .mk 0 kd0.leaf (kd0.l ++ R) := by unfold bothN; rw [← hR]
     refine useX (fun B hB => withW w0 (withC n.l (j + 1) []) [cellN c0.key (.mk 0 kd0.leaf (kd0.l ++ R))] j _ (by omega) (by simp) (by omega)) ?_ (by simp (maxDischargeDepth := 12) (maxSteps := 1000000) -implicitDefEqProofs only [go_sem, Nat.reduceAdd, Nat.reduceSub, Nat.reduceMul, Nat.reduceLeDiff, Nat.reduceEqDiff, Nat.reduceGT, Nat.reduceBEq, reduceCtorEq, ↓reduceIte, Int.reduceToNat, Int.reduceLE, Int.reduceLT, Int.reduceNe, Int.reduceEq, cellN, noS])
     (refine @goW _ ?_; refine goS ?_)
     refine use1 (partedW w0 (.mk 0 false (withC (withC n.l (j + 1) []) j [cellN c0.key (.mk 0 kd0.leaf (kd0.l ++ R))])) (.mk 0 kd0.leaf (kd0.l ++ R)) _ j _ hmm rfl hml hbl hbs) ?_
     (refine @goW _ ?_; refine goS6 @Nat.add_sub_cancel (cellAt_eq hc0) (cellAt_eq hc1) (kid0_eq hkd0) (kid0_eq hkd1) @hbo ?_)
     exact .refl _
def topN : N → N
 | .mk p false [.mk ck cd cp (k :: r)] => topN k
 | n => if atR (sizesN n) = 0 then n else mendN (.mk 0 false [cellN noS n]) 0
termination_by n => SizeOf.sizeOf n
decreasing_by simp; omega
def idxN (l : List C) (key : ByteArray) : Nat := (l.takeWhile fun c => ltS c.key key).length
theorem idx_le (l : List C) (key : ByteArray) : idxN l key ≤ l.length := by
 unfold idxN; exact (List.takeWhile_sublist _).length_le
def leafPut (l : List C) (key val : ByteArray) : List C :=
 let i := idxN l key
 match l[i]? with
 | some c => if eqS c.key key then withC l i [.mk key val [] []] else l.take i ++ [.mk key val [] []] ++ l.drop i
 | none => l.take i ++ [.mk key val [] []] ++ l.drop i
def putN (key val : ByteArray) : N → N
 | .mk p true l => .mk 0 true (leafPut l key val)
 | .mk p false l => match h : l[way l key]? with
  | some (.mk ck cd cp (k :: r)) => mendN (.mk 0 false (withC l (way l key) [cellN ck (putN key val k)])) (way l key)
  | _ => .mk 0 true []
termination_by n => SizeOf.sizeOf n
decreasing_by
 have h1 := List.sizeOf_lt_of_mem (List.mem_of_getElem? h)
 simp at h1 ⊢; omega
theorem putN_leaf (key val : ByteArray) (n : N) (h : n.leaf = true) : putN key val n = .mk 0 true (leafPut n.l key val) := by
 cases n with | mk p b l => simp only [N.leaf] at h; subst h; rw [putN]; rfl
theorem putN_br (key val : ByteArray) (n : N) (h : n.leaf = false) {c : C} {k : N} (hc : n.l[way n.l key]? = some c) (hk : c.kid = [k]) : putN key val n = mendN (.mk 0 false (withC n.l (way n.l key) [cellN c.key (putN key val k)])) (way n.l key) := by
 cases n with | mk p b l =>
 simp only [N.leaf] at h; subst h
 cases c with | mk ck cd cp cr =>
 simp only [C.kid] at hk; subst hk
 simp only [N.l] at hc ⊢
 rw [putN]
 split
 ·rename_i h1; rw [hc] at h1; cases h1; rfl
 ·rename_i h1; exact absurd hc (h1 _ _ _ _ _)
theorem topN_one (n : N) (h : n.leaf = false) {c : C} {k : N} (hc : n.l = [c]) (hk : c.kid = [k]) : topN n = topN k := by
 cases n with | mk p b l =>
 cases c with | mk ck cd cp cr =>
 simp only [N.leaf, N.l, C.kid] at *; subst h; subst hc; subst hk
 rw [topN]
theorem topN_else (n : N) (h : n.leaf = true ∨ n.l.length ≠ 1) : topN n = if atR (sizesN n) = 0 then n else mendN (.mk 0 false [cellN noS n]) 0 := by
 cases n with | mk p b l =>
 rw [topN]
 intro p' ck cd cp k r e
 simp only [N.mk.injEq] at e
 rcases h with h | h
 ·simp only [N.leaf] at h; rw [h] at e; exact absurd e.2.1 (by simp)
 ·simp only [N.l] at h; rw [e.2.2] at h; simp at h
def Fit (B : Nat) (n : N) : Prop := okN n ∧ smN n ∧ totN n ≤ B
theorem tot_kid {n : N} {c : C} {k : N} (h : c ∈ n.l) (hk : c.kid = [k]) : totN k + n.l.length ≤ totN n := by
 rw [totN_eq n]
 have : ∀ l : List C, c ∈ l → totN k + l.length ≤ (l.map totC).sum := by
  intro l
  induction l with
  | nil => intro h; cases h
  | cons a l ih =>
   intro h
   simp only [List.map_cons, List.sum_cons, List.length_cons]
   have h1 : ∀ l : List C, l.length ≤ (l.map totC).sum := by
    intro l
    induction l with
    | nil => exact Nat.zero_le _
    | cons c l ih => simp only [List.length_cons, List.map_cons, List.sum_cons, totC_eq]; omega
   rcases List.mem_cons.1 h with rfl | h
   ·have := h1 l
    rw [totC_eq, hk]; simp; omega
   ·have := ih h
    have := totC_eq a
    omega
 exact this _ h
theorem topW (w0 : W0) : ∀ (m : Nat) (n : N) (S : St), SizeOf.sizeOf n < m → Fit 524288 n → ACall Tryz.prog w0 36 [eN n] S (fun d S' => d = eN (topN n) ∧ S' = S) := by
 intro m
 induction m with
 | zero => intro n S h; omega
 | succ m ih =>
  intro n S hm hf
  refine fnS [] mx Tryz.func36 rfl rfl (by kernel_rfl) ?_; (refine @goW _ ?_; refine goS1 @Tryz.ntmps36 ?_)
  have hl := tot_len n
  have hB := hf.2.2
  have hN : (↑n.l.length = (1 : Int)) → n.leaf = false → ∃ c k, n.l = [c] ∧ c.kid = [k] ∧ Fit 524288 k ∧ SizeOf.sizeOf k < m := fun h1 h2 => by
   have h3 : n.l.length = 1 := by omega
   obtain ⟨c, hc⟩ := List.length_eq_one_iff.1 h3
   obtain ⟨k, hk, hok⟩ := ((okN_iff n).1 hf.1 h2).2 c (by rw [hc]; exact List.mem_singleton_self c)
   have hcm : c ∈ n.l := by rw [hc]; exact List.mem_singleton_self c
   have h4 := tot_kid hcm hk
   have h5 := size_kid' hcm (by rw [hk]; exact List.mem_singleton_self k)
   exact ⟨c, k, hc, hk, ⟨hok, ((smC_iff c).1 ((smN_iff n).1 hf.2.1 c hcm)).2.2.2 k (by rw [hk]; exact List.mem_singleton_self k), by omega⟩, by omega⟩
  have hbr : BrOk (.mk 0 false [cellN noS n]) := ⟨by simp [N.l], fun c hc => by
   simp only [N.l, List.mem_singleton] at hc
   subst hc
   exact ⟨n, rfl, hf.2.1, by omega⟩, fun c hc => by
   simp only [N.l, List.mem_singleton] at hc
   subst hc
   show (ByteArray.empty).size ≤ 16
   simp⟩
  intro b b1
  have rest : n.leaf = true ∨ n.l.length ≠ 1 → topN n = if atR (sizesN n) = 0 then n else mendN (.mk 0 false [cellN noS n]) 0 := topN_else n
  refine ⟨fun hlf => ⟨fun h1 => ⟨by omega, fun a ha => ?_⟩, fun h1 => ?_⟩, fun hlf => ?_⟩
  ·obtain ⟨c, k, hc, hk, hfk, hsk⟩ := hN h1 hlf
   rw [hc] at ha
   obtain rfl : c = a := by simpa using ha
   rw [hk]
   refine ⟨by simp, fun a2 ha2 => ?_⟩
   obtain rfl : k = a2 := by simpa using ha2
   refine use1 (ih k _ hsk hfk) ?_
   (refine @goW _ ?_; exact goT1 (topN_one n hlf hc hk))
  ·refine use1 (sizesW w0 n _ hf.2.1 (by omega)) ?_
   (refine @goW _ ?_; refine goS ?_)
   refine use1 (atW w0 _ _ (sizes_bd n hf.2.1 (by omega))) ?_
   (refine @goW _ ?_; refine goS ?_)
   rw [rest (.inr (by omega))]
   refine ⟨fun h0 => ?_, fun h0 => ?_⟩
   ·rw [if_pos (by omega)]
    exact .refl _
   ·rw [if_neg (by omega)]
    refine use1 (mendW w0 (.mk 0 false [cellN noS n]) 0 _ hbr (by simp [N.l])) ?_ (by simp (maxDischargeDepth := 12) (maxSteps := 1000000) -implicitDefEqProofs only [go_sem, Nat.reduceAdd, Nat.reduceSub, Nat.reduceMul, Nat.reduceLeDiff, Nat.reduceEqDiff, Nat.reduceGT, Nat.reduceBEq, reduceCtorEq, ↓reduceIte, Int.reduceToNat, Int.reduceLE, Int.reduceLT, Int.reduceNe, Int.reduceEq, cellN, noS])
    (refine @goW _ ?_; exact goT)
  ·refine use1 (sizesW w0 n _ hf.2.1 (by omega)) ?_
   (refine @goW _ ?_; refine goS ?_)
   refine use1 (atW w0 _ _ (sizes_bd n hf.2.1 (by omega))) ?_
   (refine @goW _ ?_; refine goS ?_)
   rw [rest (.inl hlf)]
   refine ⟨fun h0 => ?_, fun h0 => ?_⟩
   ·rw [if_pos (by omega)]
    exact .refl _
   ·rw [if_neg (by omega)]
    refine use1 (mendW w0 (.mk 0 false [cellN noS n]) 0 _ hbr (by simp [N.l])) ?_ (by simp (maxDischargeDepth := 12) (maxSteps := 1000000) -implicitDefEqProofs only [go_sem, Nat.reduceAdd, Nat.reduceSub, Nat.reduceMul, Nat.reduceLeDiff, Nat.reduceEqDiff, Nat.reduceGT, Nat.reduceBEq, reduceCtorEq, ↓reduceIte, Int.reduceToNat, Int.reduceLE, Int.reduceLT, Int.reduceNe, Int.reduceEq, cellN, noS])
    (refine @goW _ ?_; exact goT)
theorem noS_size : noS.size = 0 := rfl
theorem withC_len {l m : List C} {i : Nat} (h : i < l.length) : (withC l i m).length + 1 = l.length + m.length := by
 unfold withC; simp only [List.length_append, List.length_take, List.length_drop]; omega
theorem mem_withC {l m : List C} {i : Nat} {c : C} (h : c ∈ withC l i m) : c ∈ l ∨ c ∈ m := by
 unfold withC at h
 rcases List.mem_append.1 h with h | h
 ·rcases List.mem_append.1 h with h | h
  ·exact .inl (List.mem_of_mem_take h)
  ·exact .inr h
 ·exact .inl (List.mem_of_mem_drop h)
theorem leafPut_mem {l : List C} {key val : ByteArray} {c : C} (h : c ∈ leafPut l key val) : c ∈ l ∨ c = .mk key val [] [] := by
 have h2 : c ∈ l.take (idxN l key) ++ [.mk key val [] []] ++ l.drop (idxN l key) → c ∈ l ∨ c = .mk key val [] [] := fun h => by
  rcases List.mem_append.1 h with h | h
  ·rcases List.mem_append.1 h with h | h
   ·exact .inl (List.mem_of_mem_take h)
   ·exact .inr (List.mem_singleton.1 h)
  ·exact .inl (List.mem_of_mem_drop h)
 unfold leafPut at h
 simp only at h
 split at h
 ·split at h
  ·exact (mem_withC h).imp id List.mem_singleton.1
  ·exact h2 h
 ·exact h2 h
theorem leafPut_len (l : List C) (key val : ByteArray) : (leafPut l key val).length ≤ l.length + 1 := by
 have h2 : (l.take (idxN l key) ++ [C.mk key val [] []] ++ l.drop (idxN l key)).length ≤ l.length + 1 := by
  simp only [List.length_append, List.length_take, List.length_drop, List.length_cons, List.length_nil]; omega
 unfold leafPut
 simp only
 split
 ·rename_i c hc
  split
  ·have := withC_len (m := [C.mk key val [] []]) (List.getElem?_eq_some_iff.1 hc).1
   simp only [List.length_cons, List.length_nil] at this; omega
  ·exact h2
 ·exact h2
def Sh (c : C) : Prop := c.key.size ≤ 16 ∧ c.data.size ≤ 400 ∧ c.pages.length ≤ 4
def ShB (c : C) : Prop := c.key.size ≤ 16 ∧ c.data.size ≤ 400 ∧ c.pages.length ≤ 0
theorem ShB.sh {c : C} (h : ShB c) : Sh c := ⟨h.1, h.2.1, Nat.le_trans h.2.2 (Nat.zero_le 4)⟩
def Nd : Nat → N → Prop
 | 0, n => n.leaf = true ∧ ∀ c, c ∈ n.l → Sh c ∧ c.kid = []
 | d + 1, n => n.leaf = false ∧ n.l ≠ [] ∧ ∀ c, c ∈ n.l → ShB c ∧ ∃ k, c.kid = [k] ∧ Nd d k
theorem nd_ok : ∀ {d : Nat} {n : N}, Nd d n → okN n
 | 0, n, h => (okN_iff n).2 fun e => by rw [h.1] at e; cases e
 | d + 1, n, h => (okN_iff n).2 fun _ => ⟨h.2.1, fun c hc => let ⟨_, k, hk, hn⟩ := h.2.2 c hc; ⟨k, hk, nd_ok hn⟩⟩
theorem nd_sm : ∀ {d : Nat} {n : N}, Nd d n → smN n
 | 0, n, h => (smN_iff n).2 fun c hc => (smC_iff c).2 (by
   obtain ⟨h1, h2⟩ := h.2 c hc
   exact ⟨h1.1, h1.2.1, h1.2.2, fun k hk => by rw [h2] at hk; cases hk⟩)
 | d + 1, n, h => (smN_iff n).2 fun c hc => (smC_iff c).2 (by
   obtain ⟨h1, k, hk, hn⟩ := h.2.2 c hc
   exact ⟨h1.1, h1.2.1, h1.sh.2.2, fun k' hk' => by rw [hk, List.mem_singleton] at hk'; rw [hk']; exact nd_sm hn⟩)
theorem nd_sh {d : Nat} {n : N} (h : Nd d n) : ∀ c, c ∈ n.l → Sh c := fun c hc => by
 cases d with
 | zero => exact (h.2 c hc).1
 | succ d => exact (h.2.2 c hc).1.sh
theorem nd_cells {d : Nat} {n : N} (h : Nd d n) (p : Int) {l : List C} (hl : ∀ c, c ∈ l → c ∈ n.l) (hn : l ≠ []) : Nd d (.mk p n.leaf l) := by
 cases d with
 | zero => exact ⟨h.1, fun c hc => h.2 c (hl c hc)⟩
 | succ d => exact ⟨h.1, hn, fun c hc => h.2.2 c (hl c hc)⟩
theorem nd_setKey {d : Nat} {p : Int} {b : Bool} {l : List C} {key : ByteArray} (hk : key.size ≤ 16) (h : Nd d (.mk p b l)) : Nd d (.mk p b (setKey key l)) := by
 cases l with
 | nil => exact h
 | cons a l =>
  cases d with
  | zero =>
   refine ⟨h.1, fun c hc => ?_⟩
   rcases List.mem_cons.1 hc with rfl | hc
   ·have := h.2 a List.mem_cons_self
    exact ⟨⟨hk, this.1.2⟩, this.2⟩
   ·exact h.2 c (List.mem_cons_of_mem _ hc)
  | succ d =>
   refine ⟨h.1, by simp [setKey, N.l], fun c hc => ?_⟩
   rcases List.mem_cons.1 hc with rfl | hc
   ·have := h.2.2 a List.mem_cons_self
    exact ⟨⟨hk, this.1.2⟩, this.2⟩
   ·exact h.2.2 c (List.mem_cons_of_mem _ hc)
theorem cell_ok {d : Nat} {key : ByteArray} {k : N} (hk : key.size ≤ 16) (h : Nd d k) : ShB (cellN key k) ∧ ∃ k', (cellN key k).kid = [k'] ∧ Nd d k' :=
 ⟨⟨hk, by show noS.size ≤ 400; rw [noS_size]; omega, by simp [cellN, C.pages]⟩, k, rfl, h⟩
theorem keyOf_size {l : List C} (h : ∀ c, c ∈ l → Sh c) : (keyOf l).size ≤ 16 := by
 cases l with
 | nil => show noS.size ≤ 16; rw [noS_size]; omega
 | cons a l => exact (h a List.mem_cons_self).1
theorem withC_ne {l m : List C} {i : Nat} (h : 1 < l.length ∨ m ≠ []) (hi : i < l.length) : withC l i m ≠ [] := by
 intro e
 have := withC_len (m := m) hi
 rw [e] at this
 rcases h with h | h
 ·simp at this; omega
 ·have := List.length_pos_iff.2 h; simp at *; omega
theorem nd_parted {d : Nat} {n kid : N} {k : Nat} {key : ByteArray} (hn : Nd (d + 1) n) (hk : Nd d kid) (hkey : key.size ≤ 16) (hlt : k < n.l.length) : Nd (d + 1) (partedN n kid k key).1 := by
 unfold partedN
 simp only
 split
 ·exact hn
 ·rename_i h0
  obtain ⟨_, h1, h2⟩ := hn
  have ha := atR_lt _ h0
  have hl : (sizesN kid).length = kid.l.length := by unfold sizesN; rw [List.length_map]
  rw [hl] at ha
  generalize atR (sizesN kid) = i at *
  refine ⟨rfl, withC_ne (.inr (by simp)) hlt, fun c hc => ?_⟩
  rcases mem_withC hc with hc | hc
  ·exact h2 c hc
  ·rcases List.mem_cons.1 hc with rfl | hc
   ·exact cell_ok hkey (nd_cells hk _ (fun c hc => List.mem_of_mem_take hc) fun e => by have := congrArg List.length e; rw [List.length_take, List.length_nil] at this; omega)
   ·rw [List.mem_singleton] at hc
    subst hc
    have hr : Nd d (.mk 0 kid.leaf (kid.l.drop i)) := nd_cells hk _ (fun c hc => List.mem_of_mem_drop hc) fun e => by have := congrArg List.length e; rw [List.length_drop, List.length_nil] at this; omega
    refine cell_ok (keyOf_size fun c hc => nd_sh hk c (List.mem_of_mem_drop hc)) ?_
    split
    ·exact hr
    ·exact nd_setKey (by rw [noS_size]; omega) hr
theorem nd_kid {d : Nat} {n : N} (hn : Nd (d + 1) n) {k : Nat} (hk : k < n.l.length) : ∃ c kid, n.l[k]? = some c ∧ cellAt n.l k = c ∧ kid0 c = kid ∧ c.kid = [kid] ∧ c.key.size ≤ 16 ∧ Nd d kid := by
 obtain ⟨c, hc⟩ : ∃ c, n.l[k]? = some c := ⟨_, List.getElem?_eq_getElem hk⟩
 obtain ⟨q1, kid, hkid, hnd⟩ := hn.2.2 c (List.mem_of_getElem? hc)
 exact ⟨c, kid, hc, cellAt_eq hc, kid0_eq hkid, hkid, q1.1, hnd⟩
theorem nd_leaf_eq : ∀ {d : Nat} {a b : N}, Nd d a → Nd d b → a.leaf = b.leaf
 | 0, a, b, ha, hb => ha.1.trans hb.1.symm
 | d + 1, a, b, ha, hb => ha.1.trans hb.1.symm
theorem nd_both {d : Nat} {a b : N} {key : ByteArray} (ha : Nd d a) (hb : Nd d b) (hk : key.size ≤ 16) : Nd d (bothN a b key) := by
 have hl := nd_leaf_eq ha hb
 unfold bothN
 by_cases hbl : b.l = []
 ·have : (if b.leaf then b.l else setKey key b.l) = [] := by rw [hbl]; split <;> rfl
  rw [this, List.append_nil]
  cases d with
  | zero => exact ha
  | succ d => exact absurd hbl hb.2.1
 ·have hb' : Nd d (.mk 0 a.leaf (if b.leaf then b.l else setKey key b.l)) := by
   have : Nd d (.mk 0 a.leaf b.l) := hl ▸ nd_cells hb 0 (fun _ h => h) hbl
   split
   ·exact this
   ·exact nd_setKey hk this
  generalize (if b.leaf then b.l else setKey key b.l) = r at *
  cases d with
  | zero =>
   refine ⟨ha.1, fun c hc => ?_⟩
   rcases List.mem_append.1 hc with hc | hc
   ·exact ha.2 c hc
   ·exact hb'.2 c hc
  | succ d =>
   refine ⟨ha.1, fun e => ha.2.1 (List.append_eq_nil_iff.1 e).1, fun c hc => ?_⟩
   rcases List.mem_append.1 hc with hc | hc
   ·exact ha.2.2 c hc
   ·exact hb'.2.2 c hc
theorem nd_with {d : Nat} {n : N} (hn : Nd (d + 1) n) {i : Nat} (hi : i < n.l.length) (p : Int) {m : List C} (h1 : 1 < n.l.length ∨ m ≠ []) (hm : ∀ c, c ∈ m → ShB c ∧ ∃ k, c.kid = [k] ∧ Nd d k) : Nd (d + 1) (.mk p false (withC n.l i m)) :=
 ⟨rfl, withC_ne h1 hi, fun c hc => (mem_withC hc).elim (hn.2.2 c) (hm c)⟩
theorem nd_mend {d : Nat} {n : N} {k : Nat} (hn : Nd (d + 1) n) (hlt : k < n.l.length) : Nd (d + 1) (mendN n k) := by
 obtain ⟨c, kid, hc, e1, e2, hkid, hkey, hnd⟩ := nd_kid hn hlt
 unfold mendN
 simp only [e1, e2]
 split
 ·exact nd_parted hn hnd hkey hlt
 ·split
  ·exact hn
  ·rename_i h1 h2
   simp only [Bool.or_eq_true, decide_eq_true_eq, not_or] at h2
   have hj : (if k + 1 < n.l.length then k else k - 1) + 1 < n.l.length := by split <;> omega
   generalize (if k + 1 < n.l.length then k else k - 1) = j at *
   obtain ⟨c0, k0, hc0, f1, f2, hk0, hkey0, hnd0⟩ := nd_kid hn (k := j) (by omega)
   obtain ⟨c1, k1, hc1, g1, g2, hk1, hkey1, hnd1⟩ := nd_kid hn hj
   rw [f1, f2, g1, g2]
   have hbo := nd_both hnd0 hnd1 hkey1
   have hw1 : Nd (d + 1) (.mk 0 false (withC n.l (j + 1) [])) := nd_with hn hj 0 (.inl (by omega)) (fun c hc => by cases hc)
   have hwl := withC_len (m := []) hj
   simp only [List.length_nil] at hwl
   have hw2 := nd_with hw1 (i := j) (by simp only [N.l_mk]; omega) 0 (m := [cellN c0.key (bothN k0 k1 c1.key)]) (.inr (by simp)) fun c hc => by
    rw [List.mem_singleton] at hc; subst hc; exact cell_ok hkey0 hbo
   refine nd_parted hw2 hbo hkey0 ?_
   have := withC_len (l := withC n.l (j + 1) []) (i := j) (m := [cellN c0.key (bothN k0 k1 c1.key)]) (by omega)
   simp only [N.l_mk, List.length_cons, List.length_nil] at this ⊢; omega
theorem nd_put {key val : ByteArray} (hk : key.size ≤ 16) (hv : val.size ≤ 400) : ∀ {d : Nat} {n : N}, Nd d n → Nd d (putN key val n)
 | 0, n, h => by
  rw [putN_leaf _ _ _ h.1]
  refine ⟨rfl, fun c hc => ?_⟩
  rcases leafPut_mem hc with hc | rfl
  ·exact h.2 c hc
  ·exact ⟨⟨hk, hv, by simp [C.pages]⟩, rfl⟩
 | d + 1, n, h => by
  have hw := way_lt h.2.1 key
  obtain ⟨c, kid, hc, _, _, hkid, hkey, hnd⟩ := nd_kid h hw
  rw [putN_br _ _ _ h.1 hc hkid]
  have h1 := nd_with h hw 0 (m := [cellN c.key (putN key val kid)]) (.inr (by simp)) fun c' hc' => by
   rw [List.mem_singleton] at hc'; subst hc'; exact cell_ok hkey (nd_put hk hv hnd)
  have := withC_len (m := [cellN c.key (putN key val kid)]) hw
  exact nd_mend h1 (by simp only [N.l_mk, List.length_cons, List.length_nil] at *; omega)
theorem nd_top : ∀ {d : Nat} {n : N}, Nd d n → ∃ d', d' ≤ d + 1 ∧ Nd d' (topN n) := by
 have one : ∀ {d : Nat} {n : N}, Nd d n → ∃ d', d' ≤ d + 1 ∧ Nd d' (if atR (sizesN n) = 0 then n else mendN (.mk 0 false [cellN noS n]) 0) := fun {d n} h => by
  split
  ·exact ⟨d, by omega, h⟩
  ·refine ⟨d + 1, Nat.le_refl _, nd_mend ⟨rfl, by simp [N.l], fun c hc => ?_⟩ (by simp [N.l])⟩
   simp only [N.l_mk, List.mem_singleton] at hc
   subst hc
   exact cell_ok (by rw [noS_size]; omega) h
 intro d
 induction d with
 | zero => intro n h; rw [topN_else _ (.inl h.1)]; exact one h
 | succ d ih =>
  intro n h
  by_cases h1 : n.l.length = 1
  ·obtain ⟨c, hc⟩ := List.length_eq_one_iff.1 h1
   obtain ⟨_, k, hk, hn⟩ := h.2.2 c (by rw [hc]; exact List.mem_singleton_self c)
   rw [topN_one n h.1 hc hk]
   obtain ⟨d', h2, h3⟩ := ih hn
   exact ⟨d', by omega, h3⟩
  ·rw [topN_else _ (.inr h1)]; exact one h
def tot (l : List C) : Nat := (l.map totC).sum
theorem tot_app (a b : List C) : tot (a ++ b) = tot a + tot b := by unfold tot; rw [List.map_append, List.sum_append]
theorem tot_cons (c : C) (l : List C) : tot (c :: l) = totC c + tot l := by unfold tot; rw [List.map_cons, List.sum_cons]
theorem tot_nil : tot [] = 0 := rfl
theorem totN_tot (n : N) : totN n = tot n.l := totN_eq n
theorem totN_mk (p : Int) (b : Bool) (l : List C) : totN (.mk p b l) = tot l := by rw [totN_tot]; rfl
theorem tot_cell (key : ByteArray) (k : N) : totC (cellN key k) = 1 + totN k := by rw [totC_eq]; simp [cellN, C.kid]
theorem totC_kid {c : C} {k : N} (h : c.kid = [k]) : totC c = 1 + totN k := by rw [totC_eq, h]; simp
theorem tot_split (l : List C) (i : Nat) : tot (l.take i) + tot (l.drop i) = tot l := by rw [← tot_app, List.take_append_drop]
theorem tot_withC {l m : List C} {i : Nat} {c : C} (h : l[i]? = some c) : tot (withC l i m) + totC c = tot l + tot m := by
 have h1 := tot_split l i
 have h2 : l.drop i = c :: l.drop (i + 1) := by
  obtain ⟨hlt, rfl⟩ := List.getElem?_eq_some_iff.1 h
  exact List.drop_eq_getElem_cons hlt
 rw [h2, tot_cons] at h1
 unfold withC
 rw [tot_app, tot_app]
 omega
theorem tot_setKey (key : ByteArray) (l : List C) : tot (setKey key l) = tot l := by
 cases l with
 | nil => rfl
 | cons a l => simp only [setKey, tot_cons, totC_eq, C.kid_mk]
theorem tot_parted {n kid : N} {k : Nat} {c : C} (hc : n.l[k]? = some c) (hk : c.kid = [kid]) (key : ByteArray) : totN (partedN n kid k key).1 ≤ totN n + 1 := by
 unfold partedN
 simp only
 split
 ·simp
 ·have h1 := tot_split kid.l (atR (sizesN kid))
  have h2 := tot_withC (m := [cellN key (.mk 0 kid.leaf (kid.l.take (atR (sizesN kid)))), cellN (keyOf (kid.l.drop (atR (sizesN kid)))) (.mk 0 kid.leaf (if kid.leaf then (kid.l.drop (atR (sizesN kid))) else setKey noS (kid.l.drop (atR (sizesN kid)))))]) hc
  have h3 : tot (if kid.leaf then (kid.l.drop (atR (sizesN kid))) else setKey noS (kid.l.drop (atR (sizesN kid)))) = tot (kid.l.drop (atR (sizesN kid))) := by
   split
   ·rfl
   ·exact tot_setKey _ _
  rw [tot_cons, tot_cons, tot_nil, tot_cell, tot_cell, totN_mk, totN_mk, totC_kid hk, totN_tot kid, h3] at h2
  rw [totN_mk, totN_tot n]
  omega
theorem withC_at {l m : List C} {i : Nat} {c : C} (hi : i < l.length) : (withC l i (c :: m))[i]? = some c := by
 unfold withC
 rw [List.append_assoc, List.getElem?_append_right (by rw [List.length_take]; omega), List.length_take, show i - min i l.length = 0 by omega]
 rfl
theorem tot_mend {d : Nat} {n : N} {k : Nat} (hn : Nd (d + 1) n) (hlt : k < n.l.length) : totN (mendN n k) ≤ totN n + 1 := by
 obtain ⟨c, kid, hc, e1, e2, hkid, hkey, hnd⟩ := nd_kid hn hlt
 unfold mendN
 simp only [e1, e2]
 split
 ·exact tot_parted hc hkid _
 ·split
  ·omega
  ·rename_i h1 h2
   simp only [Bool.or_eq_true, decide_eq_true_eq, not_or] at h2
   have hj : (if k + 1 < n.l.length then k else k - 1) + 1 < n.l.length := by split <;> omega
   generalize (if k + 1 < n.l.length then k else k - 1) = j at *
   obtain ⟨c0, k0, hc0, f1, f2, hk0, hkey0, hnd0⟩ := nd_kid hn (k := j) (by omega)
   obtain ⟨c1, k1, hc1, g1, g2, hk1, hkey1, hnd1⟩ := nd_kid hn hj
   rw [f1, f2, g1, g2]
   have hwl := withC_len (m := []) hj
   simp only [List.length_nil] at hwl
   have hj2 : j < (withC n.l (j + 1) []).length := by omega
   refine Nat.le_trans (tot_parted (c := cellN c0.key (bothN k0 k1 c1.key)) (withC_at hj2) rfl _) ?_
   have t1 := tot_withC (m := []) hc1
   have hat : (withC n.l (j + 1) [])[j]? = some c0 := by
    unfold withC
    rw [List.append_assoc, List.getElem?_append_left (by rw [List.length_take]; omega), List.getElem?_take, if_pos (by omega)]
    exact hc0
   have t2 := tot_withC (m := [cellN c0.key (bothN k0 k1 c1.key)]) hat
   have t3 : totN (bothN k0 k1 c1.key) = totN k0 + totN k1 := by
    unfold bothN
    rw [totN_tot, N.l_mk, tot_app, totN_tot k0, totN_tot k1]
    split
    ·rfl
    ·rw [tot_setKey]
   rw [tot_cons, tot_nil, tot_cell, t3, totC_kid hk0] at t2
   rw [tot_nil, totC_kid hk1] at t1
   rw [totN_tot, totN_tot n, N.l_mk]
   omega
theorem tot_leafPut {l : List C} (h : ∀ c, c ∈ l → c.kid = []) (key val : ByteArray) : tot (leafPut l key val) ≤ tot l + 1 := by
 have ht : ∀ l : List C, (∀ c, c ∈ l → c.kid = []) → tot l = l.length := by
  intro l
  induction l with
  | nil => intro _; rfl
  | cons a l ih =>
   intro h
   rw [tot_cons, totC_eq, h a List.mem_cons_self, ih fun c hc => h c (List.mem_cons_of_mem _ hc), List.length_cons]
   simp; omega
 rw [ht l h, ht _ fun c hc => (leafPut_mem hc).elim (h c) fun e => by rw [e]; rfl]
 exact leafPut_len l key val
theorem tot_put {key val : ByteArray} (hk : key.size ≤ 16) (hv : val.size ≤ 400) : ∀ {d : Nat} {n : N}, Nd d n → totN (putN key val n) ≤ totN n + 1 + d
 | 0, n, h => by
  rw [putN_leaf _ _ _ h.1, totN_tot, totN_tot n, N.l_mk]
  have := tot_leafPut (fun c hc => (h.2 c hc).2) key val
  omega
 | d + 1, n, h => by
  have hw := way_lt h.2.1 key
  obtain ⟨c, kid, hc, _, _, hkid, hkey, hnd⟩ := nd_kid h hw
  rw [putN_br _ _ _ h.1 hc hkid]
  have h1 := nd_with h hw 0 (m := [cellN c.key (putN key val kid)]) (.inr (by simp)) fun c' hc' => by
   rw [List.mem_singleton] at hc'; subst hc'; exact cell_ok hkey (nd_put hk hv hnd)
  have h2 := withC_len (m := [cellN c.key (putN key val kid)]) hw
  have h3 := tot_mend h1 (k := way n.l key) (by simp only [N.l_mk, List.length_cons, List.length_nil] at *; omega)
  have h4 := tot_withC (m := [cellN c.key (putN key val kid)]) hc
  have h5 := tot_put hk hv hnd
  rw [tot_cons, tot_nil, tot_cell, totC_kid hkid] at h4
  rw [totN_tot (.mk 0 false _), N.l_mk] at h3
  rw [totN_tot n]
  omega
theorem tot_top {d : Nat} : ∀ {n : N}, Nd d n → totN (topN n) ≤ totN n + 2 := by
 have one : ∀ {d : Nat} {n : N}, Nd d n → totN (if atR (sizesN n) = 0 then n else mendN (.mk 0 false [cellN noS n]) 0) ≤ totN n + 2 := fun {d n} h => by
  split
  ·omega
  ·have := tot_mend (d := d) (n := .mk 0 false [cellN noS n]) (k := 0) ⟨rfl, by simp [N.l], fun c hc => by
    simp only [N.l_mk, List.mem_singleton] at hc
    subst hc
    exact cell_ok (by rw [noS_size]; omega) h⟩ (by simp [N.l])
   rw [totN_tot (.mk 0 false _), N.l_mk, tot_cons, tot_nil, tot_cell] at this
   omega
 induction d with
 | zero => intro n h; rw [topN_else _ (.inl h.1)]; exact one h
 | succ d ih =>
  intro n h
  by_cases h1 : n.l.length = 1
  ·obtain ⟨c, hc⟩ := List.length_eq_one_iff.1 h1
   obtain ⟨_, k, hk, hn⟩ := h.2.2 c (by rw [hc]; exact List.mem_singleton_self c)
   rw [topN_one n h.1 hc hk]
   have := ih hn
   have := tot_kid (c := c) (k := k) (n := n) (by rw [hc]; exact List.mem_singleton_self c) hk
   omega
  ·rw [topN_else _ (.inr h1)]; exact one h
theorem takeW_lt {α : Type} {p : α → Bool} : ∀ {l : List α} {k : Nat} {c : α}, k < (l.takeWhile p).length → l[k]? = some c → p c = true
 | [], _, _, h, _ => by simp at h
 | a :: l, k, c, h, hc => by
  rw [List.takeWhile_cons] at h
  cases hp : p a with
  | false => rw [hp] at h; simp at h
  | true =>
   rw [hp] at h
   simp only [if_true, List.length_cons] at h
   cases k with
   | zero => simp at hc; rw [← hc]; exact hp
   | succ k => exact takeW_lt (p := p) (l := l) (k := k) (by omega) (by simpa using hc)
theorem takeW_at {α : Type} {p : α → Bool} : ∀ {l : List α} {c : α}, l[(l.takeWhile p).length]? = some c → p c = false
 | [], _, h => by simp at h
 | a :: l, c, h => by
  rw [List.takeWhile_cons] at h
  cases hp : p a with
  | false => rw [hp] at h; simp at h; rw [← h]; exact hp
  | true => rw [hp] at h; simp only [if_true, List.length_cons, List.getElem?_cons_succ] at h; exact takeW_at h
theorem brOk {d : Nat} {n : N} (h : Nd (d + 1) n) (ht : totN n ≤ 524288) : BrOk n :=
 ⟨Nat.le_trans (tot_len n) ht, fun c hc => by
  obtain ⟨_, k, hk, hn⟩ := h.2.2 c hc
  have := tot_kid hc hk
  have := tot_len k
  exact ⟨k, hk, nd_sm hn, by omega⟩, fun c hc => (h.2.2 c hc).1.1⟩
theorem putW (w0 : W0) (key val : ByteArray) (hk : key.size ≤ 16) (hv : val.size ≤ 400) : ∀ (d : Nat) (n : N) (S : St), Nd d n → totN n + d + 8 ≤ 524288 → ACall Tryz.prog w0 38 [eN n, dS key, dS val] S (fun e S' => e = eN (putN key val n) ∧ S' = S) := by
 intro d
 induction d with
 | zero =>
  intro n S hn ht
  have hlf := hn.1
  have hl := tot_len n
  refine fnS [4] mx Tryz.func38 rfl rfl (by kernel_rfl) ?_; (refine @goW _ ?_; refine goS2 @Tryz.ntmps38 @hlf ?_)
  intro b b1 b2
  rw [putN_leaf _ _ _ hlf]
  have hidx := idx_le n.l key
  refine wkBoxK b2.n [dS key, dS val, .sl 1 false [], .sl 3 false []] (q_lk_same _ _ _) (by (refine @goW _ ?_; exact goT)) ?_
  (refine @goW _ ?_; refine goS ?_)
  refine loopN [] (idxN n.l key) [1, 3, 6, 9, 10] (fun k => [(10, dI k)]) (fun _ => ⟨(b2.n, [dS key, dS val, .sl 1 false [], .sl 3 false []]) :: (b1.n, [dI 0, dB false, .sl 0 true []]) :: (b.n, [dI n.page, dB true, .sl 4 false (n.l.map dC)]) :: S.box, S.acc⟩) (fun _ => True) mx (by kernel_rfl) ?_ ?_
  ·(refine @goW _ ?_; exact goT)
  ·intro k hk' _
   have new : ∀ m : List C, m = leafPut n.l key val → m = n.l.take (idxN n.l key) ++ [.mk key val [] []] ++ n.l.drop (idxN n.l key) → Wk (.agg [dI 0, dB true, .sl 4 false (List.map dC (n.l.take (idxN n.l key)) ++ [eC (.mk key val [] [])] ++ List.map dC (n.l.drop (idxN n.l key)))]) (.agg [dI 0, dB true, .sl 4 false (List.map dC (leafPut n.l key val))]) := fun m h1 h2 => by
    rw [← h1, h2, List.map_append, List.map_append, List.map_cons, List.map_nil, dC_eq]; exact .refl _
   (refine @goW _ ?_; refine goS ?_)
   have e2 : k < n.l.length → IntKind.i64.wrap ((k : Int) + 1) = ((k + 1 : Nat) : Int) := fun _ => by rw [w64 (by omega) (by omega)]; omega
   refine ⟨fun hlt => ⟨hlt, fun a ha => ⟨fun hy => ?_, fun hno => ?_⟩⟩, fun hge => ?_⟩
   ·have : k ≠ idxN n.l key := by
     rintro rfl
     have := takeW_at (p := fun c : C => ltS c.key key) ha
     simp only [hy] at this; cases this
    exact ⟨by omega, e2 hlt⟩
   ·have hki : k = idxN n.l key := by
     rcases Nat.lt_or_ge k (idxN n.l key) with h | h
     ·have := takeW_lt (p := fun c : C => ltS c.key key) h ha
      simp only [hno] at this; cases this
     ·omega
    subst hki
    have hmin : min (idxN n.l key) n.l.length = idxN n.l key := by omega
    refine ⟨fun _ => ⟨hlt, fun a4 ha4 => ⟨fun heq => ?_, fun hne => ?_⟩⟩, fun h => absurd hlt h⟩
    ·cases getE ha ha4
     refine use1 (withW w0 n.l [.mk key val [] []] _ _ (by omega) (by simp) hlt) ?_ (by (refine @goW _ ?_; exact goT))
     (refine @goW _ ?_; refine goS ?_)
     have : leafPut n.l key val = withC n.l (idxN n.l key) [.mk key val [] []] := by unfold leafPut; simp only [ha]; rw [if_pos heq]
     rw [this]
     exact .refl _
    ·cases getE ha ha4
     rw [hmin]
     exact ⟨by omega, by omega, by unfold maxLen; omega, fun lb => ⟨by omega, by unfold maxLen; omega, by omega, by omega, by unfold maxLen; omega, new _ rfl (by unfold leafPut; simp only [ha]; rw [if_neg (by rw [hne]; simp)])⟩⟩
   ·have hki : k = idxN n.l key := by omega
    subst hki
    have hmin : min (idxN n.l key) n.l.length = idxN n.l key := by omega
    have hnone : n.l[idxN n.l key]? = none := List.getElem?_eq_none (by omega)
    refine ⟨fun h => absurd h hge, fun _ => ?_⟩
    rw [hmin]
    exact ⟨by omega, by omega, by unfold maxLen; omega, fun lb => ⟨by omega, by unfold maxLen; omega, by omega, by omega, by unfold maxLen; omega, new _ rfl (by unfold leafPut; simp only [hnone])⟩⟩
 | succ d ih =>
  intro n S hn ht
  have hlf := hn.1
  have hl := tot_len n
  refine fnS [4] mx Tryz.func38 rfl rfl (by kernel_rfl) ?_; (refine @goW _ ?_; refine goS2 @Tryz.ntmps38 @hlf ?_)
  intro b b1
  refine use1 (wayW w0 n key _ (by omega) hn.2.1) ?_ (by (refine @goW _ ?_; exact goT1 @hlf))
  (refine @goW _ ?_; refine goS ?_)
  have hw := way_lt hn.2.1 key
  obtain ⟨c, kid, hc, _, _, hkid, hkey, hnd⟩ := nd_kid hn hw
  have htk := tot_kid (List.mem_of_getElem? hc) hkid
  have hlen := List.length_pos_iff.2 hn.2.1
  refine ⟨hw, fun a ha => ?_⟩
  cases getE hc ha
  rw [hkid]
  refine ⟨by simp, fun a2 ha2 => ?_⟩
  obtain rfl : kid = a2 := by simpa using ha2
  refine use1 (ih kid _ hnd (by omega)) ?_
  (refine @goW _ ?_; refine goS ?_)
  intro b2
  refine lexK mx (by kernel_rfl) ?_
  (refine @goW _ ?_; refine goS ?_)
  refine ⟨hw, fun a ha => ?_⟩
  cases getE hc ha
  refine useX (fun B hB => withW w0 n.l [cellN c.key (putN key val kid)] (way n.l key) _ (by omega) (by simp) hw) ?_ (by simp (maxDischargeDepth := 12) (maxSteps := 1000000) -implicitDefEqProofs only [go_sem, Nat.reduceAdd, Nat.reduceSub, Nat.reduceMul, Nat.reduceLeDiff, Nat.reduceEqDiff, Nat.reduceGT, Nat.reduceBEq, reduceCtorEq, ↓reduceIte, Int.reduceToNat, Int.reduceLE, Int.reduceLT, Int.reduceNe, Int.reduceEq, cellN, noS])
  (refine @goW _ ?_; refine goS ?_)
  have h1 := nd_with hn hw 0 (m := [cellN c.key (putN key val kid)]) (.inr (by simp)) fun c' hc' => by
   rw [List.mem_singleton] at hc'; subst hc'; exact cell_ok hkey (nd_put hk hv hnd)
  have h2 := withC_len (m := [cellN c.key (putN key val kid)]) hw
  have h4 := tot_withC (m := [cellN c.key (putN key val kid)]) hc
  have h5 := tot_put hk hv hnd
  rw [tot_cons, tot_nil, tot_cell, totC_kid hkid] at h4
  have h6 := totN_tot n
  refine useX (fun B hB => mendW w0 (.mk 0 false (withC n.l (way n.l key) [cellN c.key (putN key val kid)])) (way n.l key) _ (brOk h1 (by rw [totN_mk]; omega)) (by simp only [N.l_mk, List.length_cons, List.length_nil] at *; omega)) ?_
  (refine @goW _ ?_; exact goT1 (putN_br key val n hlf hc hkid))
def Put (key val : ByteArray) (n : N) : N := topN (putN key val n)
theorem PutW (w0 : W0) (key val : ByteArray) (hk : key.size ≤ 16) (hv : val.size ≤ 400) (d : Nat) (n : N) (S : St) (hn : Nd d n) (ht : totN n + 2 * d + 16 ≤ 524288) : ACall Tryz.prog w0 24 [eN n, dS key, dS val] S (fun e S' => e = eN (Put key val n) ∧ S' = S) := by
 have h1 := nd_put hk hv hn
 have h2 := tot_put hk hv hn
 refine fnS [] mx Tryz.func24 rfl rfl (by kernel_rfl) ?_; (refine @goW _ ?_; refine goS1 @Tryz.ntmps24 ?_)
 intro b b1
 refine use1 (putW w0 key val hk hv d n _ hn (by omega)) ?_
 (refine @goW _ ?_; refine goS ?_)
 refine use1 (topW w0 (SizeOf.sizeOf (putN key val n) + 1) (putN key val n) _ (by omega) ⟨nd_ok h1, nd_sm h1, by omega⟩) ?_
 simp (maxDischargeDepth := 12) (maxSteps := 1000000) -implicitDefEqProofs only [go_sem, Nat.reduceAdd, Nat.reduceSub, Nat.reduceMul, Nat.reduceLeDiff, Nat.reduceEqDiff, Nat.reduceGT, Nat.reduceBEq, reduceCtorEq, ↓reduceIte, Int.reduceToNat, Int.reduceLE, Int.reduceLT, Int.reduceNe, Int.reduceEq, Put]
theorem nd_Put {key val : ByteArray} (hk : key.size ≤ 16) (hv : val.size ≤ 400) {d : Nat} {n : N} (h : Nd d n) : ∃ d', d' ≤ d + 1 ∧ Nd d' (Put key val n) ∧ totN (Put key val n) ≤ totN n + d + 3 := by
 have h1 := nd_put hk hv h
 obtain ⟨d', h2, h3⟩ := nd_top h1
 have := tot_put hk hv h
 have := tot_top h1
 exact ⟨d', h2, h3, by unfold Put; omega⟩
def findN (key : ByteArray) : N → Option ByteArray
 | .mk p true l => (l.find? fun c => eqS c.key key).map C.data
 | .mk p false l => match h : l[way l key]? with
  | some (.mk ck cd cp (k :: r)) => findN key k
  | _ => none
termination_by n => SizeOf.sizeOf n
decreasing_by
 have h1 := List.sizeOf_lt_of_mem (List.mem_of_getElem? h)
 simp at h1 ⊢; omega
theorem findN_leaf (key : ByteArray) (n : N) (h : n.leaf = true) : findN key n = (n.l.find? fun c => eqS c.key key).map C.data := by
 cases n with | mk p b l => simp only [N.leaf] at h; subst h; rw [findN]; rfl
theorem findN_br (key : ByteArray) (n : N) (h : n.leaf = false) {c : C} {k : N} (hc : n.l[way n.l key]? = some c) (hk : c.kid = [k]) : findN key n = findN key k := by
 cases n with | mk p b l =>
 simp only [N.leaf] at h; subst h
 cases c with | mk ck cd cp cr =>
 simp only [C.kid] at hk; subst hk
 simp only [N.l] at hc
 rw [findN]
 split
 ·rename_i h1; rw [hc] at h1; cases h1; rfl
 ·rename_i h1; exact absurd hc (h1 _ _ _ _ _)
def withoutN (key : ByteArray) : N → N
 | .mk p true l => .mk 0 true (l.filter fun c => !eqS c.key key)
 | .mk p false l => match h : l[way l key]? with
  | some (.mk ck cd cp (k :: r)) => mendN (.mk 0 false (l.set (way l key) (.mk ck cd cp [withoutN key k]))) (way l key)
  | _ => .mk 0 true []
termination_by n => SizeOf.sizeOf n
decreasing_by
 have h1 := List.sizeOf_lt_of_mem (List.mem_of_getElem? h)
 simp at h1 ⊢; omega
theorem withoutN_leaf (key : ByteArray) (n : N) (h : n.leaf = true) : withoutN key n = .mk 0 true (n.l.filter fun c => !eqS c.key key) := by
 cases n with | mk p b l => simp only [N.leaf] at h; subst h; rw [withoutN]; rfl
theorem withoutN_br (key : ByteArray) (n : N) (h : n.leaf = false) {c : C} {k : N} (hc : n.l[way n.l key]? = some c) (hk : c.kid = [k]) : withoutN key n = mendN (.mk 0 false (n.l.set (way n.l key) (.mk c.key c.data c.pages [withoutN key k]))) (way n.l key) := by
 cases n with | mk p b l =>
 simp only [N.leaf] at h; subst h
 cases c with | mk ck cd cp cr =>
 simp only [C.kid] at hk; subst hk
 simp only [N.l] at hc ⊢
 rw [withoutN]
 split
 ·rename_i h1; rw [hc] at h1; cases h1; rfl
 ·rename_i h1; exact absurd hc (h1 _ _ _ _ _)
theorem find_yes {α : Type} {p : α → Bool} : ∀ {l : List α} {k : Nat} {a : α}, (l.take k).find? p = none → l[k]? = some a → p a = true → l.find? p = some a
 | [], _, _, _, h, _ => by simp at h
 | b :: l, 0, a, _, h, hp => by simp at h; subst h; rw [List.find?_cons, hp]
 | b :: l, k + 1, a, hn, h, hp => by
  rw [List.take_succ_cons, List.find?_cons] at hn
  rw [List.find?_cons]
  cases hb : p b with
  | true => rw [hb] at hn; cases hn
  | false => rw [hb] at hn; exact find_yes hn (by simpa using h) hp
theorem find_no {α : Type} {p : α → Bool} {l : List α} {k : Nat} {a : α} (hn : (l.take k).find? p = none) (h : l[k]? = some a) (hp : p a = false) : (l.take (k + 1)).find? p = none := by
 rw [List.take_add_one, h, Option.toList_some, List.find?_append, hn, Option.none_or, List.find?_cons, hp]; rfl
theorem findW (w0 : W0) (key : ByteArray) : ∀ (d : Nat) (n : N) (S : St), Nd d n → totN n ≤ 524288 → ACall Tryz.prog w0 35 [eN n, dS key] S (fun e S' => e = .tup [dS ((findN key n).getD noS), dB (findN key n).isSome] ∧ S' = S) := by
 intro d
 induction d with
 | zero =>
  intro n S hn ht
  have hlf := hn.1
  have hl := tot_len n
  refine fnS [2] mx Tryz.func35 rfl rfl (by kernel_rfl) ?_; (refine @goW _ ?_; refine goS2 @Tryz.ntmps35 @hlf ?_)
  rw [findN_leaf _ _ hlf]
  intro b
  refine loopN [] n.l.length [1, 2, 6] (fun k => [(6, dI k)]) (fun _ => ⟨(b.n, [dI n.page, dB true, .sl 4 false (n.l.map dC)]) :: S.box, S.acc⟩) (fun k => (n.l.take k).find? (fun c => eqS c.key key) = none) mx (by kernel_rfl) ?_ ?_
  ·(refine @goW _ ?_; refine goS ?_)
   rfl
  ·intro k hk' hnone
   (refine @goW _ ?_; refine goS ?_)
   have e2 : k < n.l.length → IntKind.i64.wrap ((k : Int) + 1) = ((k + 1 : Nat) : Int) := fun _ => by rw [w64 (by omega) (by omega)]; omega
   refine ⟨fun hlt => ⟨hlt, fun a ha => ⟨fun hy => ⟨hlt, fun a2 ha2 => ?_⟩, fun hno => ⟨hlt, find_no hnone ha hno, e2 hlt⟩⟩⟩, fun hge => ?_⟩
   ·cases getE ha ha2
    rw [find_yes hnone ha hy]
    exact .refl _
   ·rw [List.take_of_length_le (by omega)] at hnone
    rw [hnone]
    exact .refl _
 | succ d ih =>
  intro n S hn ht
  have hlf := hn.1
  have hl := tot_len n
  refine fnS [2] mx Tryz.func35 rfl rfl (by kernel_rfl) ?_; (refine @goW _ ?_; refine goS2 @Tryz.ntmps35 @hlf ?_)
  have hw := way_lt hn.2.1 key
  obtain ⟨c, kid, hc, _, _, hkid, hkey, hnd⟩ := nd_kid hn hw
  have htk := tot_kid (List.mem_of_getElem? hc) hkid
  have hlen := List.length_pos_iff.2 hn.2.1
  intro b
  refine ⟨fun h1 => ?_, fun h1 => absurd h1 (by omega)⟩
  refine lexK mx (by kernel_rfl) ?_
  (refine @goW _ ?_; refine goS ?_)
  refine useX (fun B hB => wayW w0 n key _ (by omega) hn.2.1) ?_ (by (refine @goW _ ?_; exact goT1 @hlf))
  (refine @goW _ ?_; refine goS ?_)
  refine ⟨hw, fun a ha => ?_⟩
  cases getE hc ha
  rw [hkid]
  refine ⟨by simp, fun a2 ha2 => ?_⟩
  obtain rfl : kid = a2 := by simpa using ha2
  refine useX (fun B hB => ih kid _ hnd (by omega)) ?_
  (refine @goW _ ?_; exact goT1 (findN_br key n hlf hc hkid))
theorem WkL_set : ∀ {a b : List DV} {i : Nat} {x y : DV}, WkL a b → Wk x y → WkL (a.set i x) (b.set i y)
 | [], [], _, _, _, _, _ => trivial
 | _ :: _, _ :: _, 0, _, _, h, k => ⟨k, h.2⟩
 | _ :: _, _ :: _, i + 1, _, _, h, k => ⟨h.1, WkL_set h.2 k⟩
theorem mem_set {α : Type} : ∀ {l : List α} {i : Nat} {a b : α}, b ∈ l.set i a → b ∈ l ∨ b = a
 | [], _, _, _, h => by simp at h
 | x :: l, 0, a, b, h => by
  rw [List.set_cons_zero] at h
  rcases List.mem_cons.1 h with rfl | h
  ·exact .inr rfl
  ·exact .inl (List.mem_cons_of_mem _ h)
 | x :: l, i + 1, a, b, h => by
  rw [List.set_cons_succ] at h
  rcases List.mem_cons.1 h with rfl | h
  ·exact .inl List.mem_cons_self
  ·exact (mem_set h).imp (List.mem_cons_of_mem _) id
theorem nd_set {d : Nat} {n : N} (hn : Nd (d + 1) n) {i : Nat} (hi : i < n.l.length) {c' : C} (h : ShB c' ∧ ∃ k, c'.kid = [k] ∧ Nd d k) : Nd (d + 1) (.mk 0 false (n.l.set i c')) :=
 ⟨rfl, fun e => by have := congrArg List.length e; simp only [N.l_mk, List.length_set, List.length_nil] at this; omega, fun c hc => by
  rcases mem_set hc with hc | rfl
  ·exact hn.2.2 c hc
  ·exact h⟩
theorem tot_set {l : List C} {i : Nat} {c c' : C} (h : l[i]? = some c) : tot (l.set i c') + totC c = tot l + totC c' := by
 induction l generalizing i with
 | nil => simp at h
 | cons a l ih =>
  cases i with
  | zero => simp at h; subst h; rw [List.set_cons_zero, tot_cons, tot_cons]; omega
  | succ i => rw [List.set_cons_succ, tot_cons, tot_cons]; have := ih (i := i) (by simpa using h); omega
theorem nd_without {key : ByteArray} : ∀ {d : Nat} {n : N}, Nd d n → Nd d (withoutN key n)
 | 0, n, h => by
  rw [withoutN_leaf _ _ h.1]
  exact ⟨rfl, fun c hc => h.2 c (List.mem_filter.1 hc).1⟩
 | d + 1, n, h => by
  have hw := way_lt h.2.1 key
  obtain ⟨c, kid, hc, _, _, hkid, hkey, hnd⟩ := nd_kid h hw
  rw [withoutN_br _ _ h.1 hc hkid]
  refine nd_mend (nd_set h hw ⟨(h.2.2 c (List.mem_of_getElem? hc)).1, _, rfl, nd_without hnd⟩) ?_
  simp only [N.l_mk, List.length_set]; exact hw
theorem tot_filter (p : C → Bool) (l : List C) : tot (l.filter p) ≤ tot l := by
 induction l with
 | nil => exact Nat.le_refl _
 | cons a l ih =>
  rw [List.filter_cons, tot_cons]
  split
  ·rw [tot_cons]; omega
  ·omega
theorem tot_without {key : ByteArray} : ∀ {d : Nat} {n : N}, Nd d n → totN (withoutN key n) ≤ totN n + d
 | 0, n, h => by
  rw [withoutN_leaf _ _ h.1, totN_mk, totN_tot n]
  exact tot_filter _ _
 | d + 1, n, h => by
  have hw := way_lt h.2.1 key
  obtain ⟨c, kid, hc, _, _, hkid, hkey, hnd⟩ := nd_kid h hw
  rw [withoutN_br _ _ h.1 hc hkid]
  have h1 := nd_set h hw (c' := .mk c.key c.data c.pages [withoutN key kid]) ⟨(h.2.2 c (List.mem_of_getElem? hc)).1, _, rfl, nd_without hnd⟩
  have h2 := tot_mend h1 (k := way n.l key) (by simp only [N.l_mk, List.length_set]; exact hw)
  have h3 := tot_set hc (c' := .mk c.key c.data c.pages [withoutN key kid])
  have h4 := tot_without hnd (key := key)
  rw [totC_kid hkid, totC_kid (k := withoutN key kid) rfl] at h3
  rw [totN_mk] at h2
  rw [totN_tot n]
  omega
theorem withoutW (w0 : W0) (key : ByteArray) : ∀ (d : Nat) (n : N) (S : St), Nd d n → totN n + d ≤ 524288 → ACall Tryz.prog w0 37 [eN n, dS key] S (fun e S' => e = eN (withoutN key n) ∧ S' = S) := by
 intro d
 induction d with
 | zero =>
  intro n S hn ht
  have hlf := hn.1
  have hl := tot_len n
  refine fnS [] mx Tryz.func37 rfl rfl (by kernel_rfl) ?_; (refine @goW _ ?_; refine goS2 @Tryz.ntmps37 @hlf ?_)
  rw [withoutN_leaf _ _ hlf]
  intro b b1
  refine growK 5 4 rfl (by omega) fun lb => ?_
  refine loopN [] n.l.length [1, 2, 4, 5, 6] (fun k => [(5, .acc lb.n ((n.l.take k).filter fun c => !eqS c.key key).length), (6, dI k)]) (fun k => ⟨(b1.n, [dI 0, dB false, .sl 0 true []]) :: (b.n, [dI n.page, dB true, .sl 4 false (n.l.map dC)]) :: S.box, (lb.n, .arr 4 (((n.l.take k).filter fun c => !eqS c.key key).map dC)) :: S.acc⟩) (fun _ => True) mx (by kernel_rfl) ?_ ?_
  ·(refine @goW _ ?_; refine goS ?_)
   exact ⟨.refl _, .refl _⟩
  ·intro k hk' _
   (refine @goW _ ?_; refine goS ?_)
   have e2 : k < n.l.length → IntKind.i64.wrap ((k : Int) + 1) = ((k + 1 : Nat) : Int) := fun _ => by rw [w64 (by omega) (by omega)]; omega
   have hfl := List.length_filter_le (fun c : C => !eqS c.key key) (n.l.take k)
   rw [List.length_take] at hfl
   refine ⟨fun hlt => ⟨hlt, fun a ha => ⟨fun hy => ⟨hlt, ?_⟩, fun hno => ⟨hlt, fun a2 ha2 => ⟨by omega, by unfold maxLen; omega, hlt, ?_⟩⟩⟩⟩, fun hge => ?_⟩
   ·rw [List.take_add_one, ha, Option.toList_some, List.filter_append, List.filter_cons, hy]
    simp only [Bool.not_true, Bool.false_eq_true, if_false, List.filter_nil, List.append_nil]
    exact ⟨⟨.refl _, e2 hlt⟩, .refl _⟩
   ·cases getE ha ha2
    rw [List.take_add_one, ha, Option.toList_some, List.filter_append, List.filter_cons, hno]
    simp only [Bool.not_false, if_true, List.filter_nil, List.length_append, List.length_cons, List.length_nil, List.map_append, List.map_cons, List.map_nil, dC_eq]
    exact ⟨⟨.refl _, e2 hlt⟩, .refl _⟩
   ·rw [List.take_of_length_le (by omega)]
    exact .refl _
 | succ d ih =>
  intro n S hn ht
  have hlf := hn.1
  have hl := tot_len n
  have hw := way_lt hn.2.1 key
  obtain ⟨c, kid, hc, _, _, hkid, hkey, hnd⟩ := nd_kid hn hw
  have htk := tot_kid (List.mem_of_getElem? hc) hkid
  have hlen := List.length_pos_iff.2 hn.2.1
  refine fnS [] mx Tryz.func37 rfl rfl (by kernel_rfl) ?_; (refine @goW _ ?_; refine goS2 @Tryz.ntmps37 @hlf ?_)
  intro b b1
  refine use1 (wayW w0 n key _ (by omega) hn.2.1) ?_ (by (refine @goW _ ?_; exact goT1 @hlf))
  (refine @goW _ ?_; refine goS ?_)
  refine ⟨by omega, by unfold maxLen; omega, fun lb => ⟨hw, fun a ha => ?_⟩⟩
  cases getE hc ha
  rw [hkid]
  refine ⟨by simp, fun a2 ha2 => ?_⟩
  obtain rfl : kid = a2 := by simpa using ha2
  refine use1 (ih kid _ hnd (by omega)) ?_
  (refine @goW _ ?_; refine goS ?_)
  refine ⟨hw, hw, fun a ha => ?_⟩
  cases getE hc ha
  have h1 := nd_set hn hw (c' := .mk c.key c.data c.pages [withoutN key kid]) ⟨(hn.2.2 c (List.mem_of_getElem? hc)).1, _, rfl, nd_without hnd⟩
  have h2 : Wk (.sl 4 false ((n.l.map dC).set (way n.l key) (.agg [dS c.key, dS c.data, .sl 1 false (c.pages.map dI), .sl 3 true [eN (withoutN key kid)]]))) (.sl 4 false ((n.l.set (way n.l key) (.mk c.key c.data c.pages [withoutN key kid])).map dC)) := by
   rw [List.map_set]
   refine Wk.sl (WkL_set (WkL.refl _) ?_)
   rw [dC_eq]
   (refine @goW _ ?_; exact goT)
  have h3 := tot_set hc (c' := .mk c.key c.data c.pages [withoutN key kid])
  have h4 := tot_without hnd (key := key)
  rw [totC_kid hkid, totC_kid (k := withoutN key kid) rfl] at h3
  have h6 := totN_tot n
  refine use1 (mendW w0 (.mk 0 false (n.l.set (way n.l key) (.mk c.key c.data c.pages [withoutN key kid]))) (way n.l key) _ (brOk h1 (by rw [totN_mk]; omega)) (by simp only [N.l_mk, List.length_set]; exact hw)) ?_ ⟨Wk.agg ⟨.refl _, .refl _, h2, trivial⟩, .refl _, trivial⟩
  (refine @goW _ ?_; exact goT1 (withoutN_br key n hlf hc hkid))
def Del (key : ByteArray) (n : N) : N := if (findN key n).isSome then topN (withoutN key n) else n
theorem DelW (w0 : W0) (key : ByteArray) (d : Nat) (n : N) (S : St) (hn : Nd d n) (ht : totN n + 2 * d + 16 ≤ 524288) : ACall Tryz.prog w0 23 [eN n, dS key] S (fun e S' => e = .tup [eN (Del key n), dB (findN key n).isSome] ∧ S' = S) := by
 have h1 := nd_without (key := key) hn
 have h2 := tot_without hn (key := key)
 refine fnS [] mx Tryz.func23 rfl rfl (by kernel_rfl) ?_; (refine @goW _ ?_; refine goS1 @Tryz.ntmps23 ?_)
 intro b b1
 refine use1 (findW w0 key d n _ hn (by omega)) ?_
 (refine @goW _ ?_; refine goS ?_)
 refine ⟨fun hs => ?_, fun hs => ?_⟩
 ·refine use1 (withoutW w0 key d n _ hn (by omega)) ?_
  (refine @goW _ ?_; refine goS ?_)
  refine use1 (topW w0 (SizeOf.sizeOf (withoutN key n) + 1) (withoutN key n) _ (by omega) ⟨nd_ok h1, nd_sm h1, by omega⟩) ?_
  have e : Del key n = topN (withoutN key n) := if_pos hs
  (refine @goW _ ?_; exact goT2 @e @hs)
 ·have e : Del key n = n := if_neg (by rw [hs]; simp)
  rw [e, hs]
  exact .refl _
theorem nd_Del {key : ByteArray} {d : Nat} {n : N} (h : Nd d n) : ∃ d', d' ≤ d + 1 ∧ Nd d' (Del key n) ∧ totN (Del key n) ≤ totN n + d + 3 := by
 unfold Del
 split
 ·have h1 := nd_without (key := key) h
  obtain ⟨d', h2, h3⟩ := nd_top h1
  have := tot_without h (key := key)
  have := tot_top h1
  exact ⟨d', h2, h3, by omega⟩
 ·exact ⟨d, by omega, h, by omega⟩
theorem bl_irrefl : ∀ (a : List UInt8), Op.bytesLess a a = false
 | [] => rfl
 | x :: a => by simp [Op.bytesLess, bl_irrefl a]
theorem bl_trans : ∀ {a b c : List UInt8}, Op.bytesLess a b = true → Op.bytesLess b c = true → Op.bytesLess a c = true
 | [], [], _, h, _ => by simp [Op.bytesLess] at h
 | [], _ :: _, [], _, h => by simp [Op.bytesLess] at h
 | [], _ :: _, _ :: _, _, _ => by simp [Op.bytesLess]
 | _ :: _, [], _, h, _ => by simp [Op.bytesLess] at h
 | _ :: _, _ :: _, [], _, h => by simp [Op.bytesLess] at h
 | x :: a, y :: b, z :: c, h1, h2 => by
  simp only [Op.bytesLess, Bool.or_eq_true, decide_eq_true_eq, Bool.and_eq_true, beq_iff_eq] at h1 h2 ⊢
  rcases h1 with h1 | ⟨rfl, h1⟩
  ·rcases h2 with h2 | ⟨rfl, h2⟩
   ·exact .inl (UInt8.lt_trans h1 h2)
   ·exact .inl h1
  ·rcases h2 with h2 | ⟨rfl, h2⟩
   ·exact .inl h2
   ·exact .inr ⟨rfl, bl_trans h1 h2⟩
theorem bl_tri : ∀ (a b : List UInt8), Op.bytesLess a b = true ∨ a = b ∨ Op.bytesLess b a = true
 | [], [] => .inr (.inl rfl)
 | [], _ :: _ => .inl (by simp [Op.bytesLess])
 | _ :: _, [] => .inr (.inr (by simp [Op.bytesLess]))
 | x :: a, y :: b => by
  simp only [Op.bytesLess, Bool.or_eq_true, decide_eq_true_eq, Bool.and_eq_true, beq_iff_eq]
  rcases UInt8.lt_or_lt_of_ne (a := x) (b := y) |> fun f => Classical.em (x = y) |>.elim (fun h => Or.inr h) fun h => Or.inl (f h) with h | rfl
  ·rcases h with h | h
   ·exact .inl (.inl h)
   ·exact .inr (.inr (.inl h))
  ·rcases bl_tri a b with h | rfl | h
   ·exact .inl (.inr ⟨rfl, h⟩)
   ·exact .inr (.inl rfl)
   ·exact .inr (.inr (.inr ⟨rfl, h⟩))
theorem ba_ext {a b : ByteArray} (h : a.data.toList = b.data.toList) : a = b := by
 cases a; cases b; simp only [ByteArray.mk.injEq]; exact Array.toList_inj.1 h
theorem eqS_iff {a b : ByteArray} : eqS a b = true ↔ a = b := by
 unfold eqS
 rw [decide_eq_true_eq]
 exact ⟨ba_ext, fun h => h ▸ rfl⟩
theorem eqS_self (a : ByteArray) : eqS a a = true := eqS_iff.2 rfl
theorem eqS_no {a b : ByteArray} : eqS a b = false ↔ a ≠ b := by rw [← Bool.not_eq_true, eqS_iff]
theorem ltS_irrefl (a : ByteArray) : ltS a a = false := bl_irrefl _
theorem ltS_trans {a b c : ByteArray} (h : ltS a b = true) (k : ltS b c = true) : ltS a c = true := bl_trans h k
theorem ltS_tri (a b : ByteArray) : ltS a b = true ∨ a = b ∨ ltS b a = true := (bl_tri a.data.toList b.data.toList).imp id (Or.imp ba_ext id)
theorem ltS_asymm {a b : ByteArray} (h : ltS a b = true) : ltS b a = false := by
 rw [← Bool.not_eq_true]; intro k
 have := ltS_trans h k
 rw [ltS_irrefl] at this; cases this
theorem ltS_ne {a b : ByteArray} (h : ltS a b = true) : a ≠ b := by rintro rfl; rw [ltS_irrefl] at h; cases h
theorem leS_eq (a b : ByteArray) : leS a b = !ltS b a := by
 unfold leS
 rcases ltS_tri a b with h | rfl | h
 ·rw [ltS_asymm h, show Op.bytesLess a.data.toList b.data.toList = true from h]; rfl
 ·rw [ltS_irrefl]; simp
 ·have h1 := ltS_asymm h
  have h2 : ¬ a.data.toList = b.data.toList := fun e => ltS_ne h (ba_ext e).symm
  rw [h, show Op.bytesLess a.data.toList b.data.toList = false from h1, decide_eq_false h2]; rfl
theorem leS_iff {a b : ByteArray} : leS a b = true ↔ ltS b a = false := by rw [leS_eq]; simp
theorem leS_refl (a : ByteArray) : leS a a = true := leS_iff.2 (ltS_irrefl a)
theorem leS_no {a b : ByteArray} : leS a b = false ↔ ltS b a = true := by rw [leS_eq]; simp
theorem ltS_le {a b : ByteArray} (h : ltS a b = true) : leS a b = true := leS_iff.2 (ltS_asymm h)
theorem leS_lt {a b c : ByteArray} (h : leS a b = true) (k : ltS b c = true) : ltS a c = true := by
 rcases ltS_tri a b with h1 | rfl | h1
 ·exact ltS_trans h1 k
 ·exact k
 ·rw [leS_iff.1 h] at h1; cases h1
theorem ltS_leS {a b c : ByteArray} (h : ltS a b = true) (k : leS b c = true) : ltS a c = true := by
 rcases ltS_tri b c with h1 | rfl | h1
 ·exact ltS_trans h h1
 ·exact h
 ·rw [leS_iff.1 k] at h1; cases h1
theorem noS_le (a : ByteArray) : leS noS a = true := by
 rw [leS_iff]; unfold ltS; show Op.bytesLess _ [] = false; cases a.data.toList <;> rfl
theorem atF_best (l : List Int) : ∀ j p, 1 ≤ p → p ≤ j + 1 → worse l (atF l j) ≤ worse l p
 | 0, p, h1, h2 => by have : p = 1 := by omega
                      subst this; exact Int.le_refl _
 | j + 1, p, h1, h2 => by
  simp only [atF]
  split
  ·rename_i h
   rcases Nat.lt_or_ge p (j + 2) with h3 | h3
   ·have := atF_best l j p h1 (by omega); omega
   ·have : p = j + 2 := by omega
    subst this; exact Int.le_refl _
  ·rename_i h
   rcases Nat.lt_or_ge p (j + 2) with h3 | h3
   ·exact atF_best l j p h1 (by omega)
   ·have : p = j + 2 := by omega
    subst this; omega
theorem sum_take_drop (l : List Int) (p : Nat) : (l.take p).sum + (l.drop p).sum = l.sum := by
 rw [← List.sum_append, List.take_append_drop]
theorem sum_pos {l : List Int} (h : ∀ x, x ∈ l → 0 ≤ x) : 0 ≤ l.sum := by
 induction l with
 | nil => exact Int.le_refl _
 | cons a l ih => have := ih fun x hx => h x (List.mem_cons_of_mem _ hx); have := h a List.mem_cons_self; rw [List.sum_cons]; omega
theorem half {m : Int} (hm : 0 ≤ m) : ∀ (l : List Int), (∀ x, x ∈ l → 0 ≤ x ∧ x ≤ m) → ∀ u : Int, 0 ≤ u → u ≤ 2 * l.sum → ∃ p, p ≤ l.length ∧ 2 * (l.take p).sum ≤ u + m ∧ u ≤ 2 * (l.take p).sum + m := by
 intro l
 induction l with
 | nil => intro _ u h0 h1; exact ⟨0, Nat.le_refl _, by simp at *; omega, by simp at *; omega⟩
 | cons a l ih =>
  intro h u h0 h1
  obtain ⟨a0, am⟩ := h a List.mem_cons_self
  rw [List.sum_cons] at h1
  by_cases ht : u ≤ a
  ·exact ⟨0, Nat.zero_le _, by simp; omega, by simp; omega⟩
  ·by_cases hta : u ≤ 2 * a
   ·exact ⟨1, by simp, by simp; omega, by simp; omega⟩
   ·obtain ⟨p, p1, p2, p3⟩ := ih (fun x hx => h x (List.mem_cons_of_mem _ hx)) (u - 2 * a) (by omega) (by omega)
    exact ⟨p + 1, by simp; omega, by rw [List.take_succ_cons, List.sum_cons]; omega, by rw [List.take_succ_cons, List.sum_cons]; omega⟩
theorem atR_parts {l : List Int} {m : Int} (h : ∀ x, x ∈ l → 0 ≤ x ∧ x ≤ m) (h0 : 122 < l.sum) (hm0 : 0 ≤ m) (hm : m ≤ 35) :
  1 ≤ atR l ∧ atR l < l.length ∧ 2 * (l.take (atR l)).sum ≤ l.sum + m ∧ 2 * (l.drop (atR l)).sum ≤ l.sum + m := by
 obtain ⟨p, p1, p2, p3⟩ := half hm0 l h l.sum (by omega) (by omega)
 have hp0 : p ≠ 0 := by rintro rfl; simp at p3; omega
 have hpl : p ≠ l.length := by rintro rfl; rw [List.take_length] at p2; omega
 have hb := atF_best l (l.length - 2) p (by omega) (by omega)
 have hat : atR l = atF l (l.length - 2) := by unfold atR; rw [if_neg]; rintro (h | h) <;> omega
 have hle := atF_le l (l.length - 2)
 rw [hat]
 generalize atF l (l.length - 2) = q at *
 have sp := sum_take_drop l p
 have sq := sum_take_drop l q
 refine ⟨hle.1, by omega, ?_, ?_⟩
 ·unfold worse at hb
  split at hb <;> split at hb <;> omega
 ·unfold worse at hb
  split at hb <;> split at hb <;> omega
theorem atR_zero {l : List Int} (h : l.sum ≤ 122) : atR l = 0 := by unfold atR; rw [if_pos (.inl h)]
mutual
def enN : N → List C
 | .mk _ b l => enCs b l
def enC (b : Bool) : C → List C
 | .mk k d ps kid => if b then [.mk k d ps kid] else enNs kid
def enCs (b : Bool) : List C → List C
 | [] => []
 | c :: l => enC b c ++ enCs b l
def enNs : List N → List C
 | [] => []
 | n :: _ => enN n
end
theorem enCs_flat (b : Bool) (l : List C) : enCs b l = l.flatMap (enC b) := by
 induction l with
 | nil => rfl
 | cons c l ih => rw [enCs, ih, List.flatMap_cons]
theorem enN_eq (n : N) : enN n = n.l.flatMap (enC n.leaf) := by cases n; rw [enN, enCs_flat]; rfl
theorem enN_mk (p : Int) (b : Bool) (l : List C) : enN (.mk p b l) = l.flatMap (enC b) := by rw [enN_eq]; rfl
theorem enC_leaf (c : C) : enC true c = [c] := by cases c; rfl
theorem enC_br {c : C} {k : N} (h : c.kid = [k]) : enC false c = enN k := by
 cases c with | mk a b d e =>
 simp only [C.kid_mk] at h
 subst h; rfl
theorem enC_cell (key : ByteArray) (k : N) : enC false (cellN key k) = enN k := enC_br rfl
theorem flat_leaf (l : List C) : l.flatMap (enC true) = l := by
 induction l with
 | nil => rfl
 | cons c l ih => rw [List.flatMap_cons, enC_leaf, ih]; rfl
theorem en_leaf {n : N} (h : n.leaf = true) : enN n = n.l := by rw [enN_eq, h, flat_leaf]
def ShL (c : C) : Prop := c.key ≠ noS ∧ c.key.size ≤ 16 ∧ c.data.size ≤ 400 ∧ (c.pages ≠ [] → 16 < c.data.size) ∧ c.pages.length ≤ 4 ∧ c.kid = []
def ShK (c : C) : Prop := c.key.size ≤ 16 ∧ c.data = noS ∧ c.pages = []
def RC (c c' : C) : Prop := ltS c.key c'.key = true ∧ ∀ x, x ∈ enC false c → ltS x.key c'.key = true
def Rise (l : List C) : Prop := l.Pairwise fun a b => ltS a.key b.key = true
def Fits (n : N) : Prop := 30 ≤ (sizesN n).sum ∧ (sizesN n).sum ≤ 122
def CellG (G F : N → Prop) (c : C) : Prop := ShK c ∧ (∀ x, x ∈ enC false c → leS c.key x.key = true) ∧ ∃ k, c.kid = [k] ∧ G k ∧ F k
structure BrG (G : N → Prop) (l : List C) : Prop where
 k0 : keyOf l = noS
 pw : l.Pairwise RC
 cell : ∀ c, c ∈ l → CellG G Fits c
def Good : Nat → N → Prop
 | 0, n => n.leaf = true ∧ Rise n.l ∧ ∀ c, c ∈ n.l → ShL c
 | d + 1, n => n.leaf = false ∧ n.l ≠ [] ∧ BrG (Good d) n.l
structure Pre (d : Nat) (A : List C) (c : C) (B : List C) : Prop where
 k0 : keyOf (A ++ c :: B) = noS
 pw : (A ++ c :: B).Pairwise RC
 ahead : ∀ x, x ∈ A → CellG (Good d) Fits x
 behind : ∀ x, x ∈ B → CellG (Good d) Fits x
 own : CellG (Good d) (fun k => (sizesN k).sum ≤ 167) c
theorem good_nd : ∀ {d : Nat} {n : N}, Good d n → Nd d n
 | 0, n, h => ⟨h.1, fun c hc => by obtain ⟨h1, h2, h3, h4, h5, h6⟩ := h.2.2 c hc; exact ⟨⟨h2, h3, h5⟩, h6⟩⟩
 | d + 1, n, h => ⟨h.1, h.2.1, fun c hc => by
   obtain ⟨⟨h1, h2, h3⟩, h4, k, h5, h6, h7⟩ := h.2.2.cell c hc
   exact ⟨⟨h1, by rw [h2, noS_size]; omega, by rw [h3]; exact Nat.le_refl _⟩, k, h5, good_nd h6⟩⟩
theorem size_br (c : C) : sizeC false c = 4 + c.key.size := rfl
theorem size_leaf {c : C} (h : c.key.size ≤ 16 ∧ c.data.size ≤ 400) : 0 ≤ sizeC true c ∧ sizeC true c ≤ 35 := by
 unfold sizeC need
 simp only [if_true]
 split
 ·split <;> omega
 ·split <;> omega
theorem sizes_mk (p : Int) (b : Bool) (l : List C) : sizesN (.mk p b l) = l.map (sizeC b) := rfl
theorem good_sizes : ∀ {d : Nat} {n : N}, Good d n → ∀ x, x ∈ sizesN n → 0 ≤ x ∧ x ≤ (if d = 0 then 35 else 20)
 | 0, n, h, x, hx => by
  unfold sizesN at hx
  obtain ⟨c, hc, rfl⟩ := List.mem_map.1 hx
  obtain ⟨h1, h2, h3, _⟩ := h.2.2 c hc
  rw [h.1]
  exact size_leaf ⟨h2, h3⟩
 | d + 1, n, h, x, hx => by
  unfold sizesN at hx
  obtain ⟨c, hc, rfl⟩ := List.mem_map.1 hx
  have := (h.2.2.cell c hc).1.1
  rw [h.1, size_br, if_neg (by omega)]
  omega
theorem fits_ne {n : N} (h : Fits n) : n.l ≠ [] := by
 intro e
 have := h.1
 unfold sizesN at this
 rw [e] at this
 simp at this
theorem good_ne : ∀ {d : Nat} {n : N}, Good d n → n.l ≠ [] → enN n ≠ []
 | 0, n, h, hn => by rw [en_leaf h.1]; exact hn
 | d + 1, n, h, hn => by
  obtain ⟨c, l, hl⟩ : ∃ c l, n.l = c :: l := by cases hx : n.l with | nil => exact absurd hx hn | cons c l => exact ⟨c, l, rfl⟩
  obtain ⟨_, _, k, h5, h6, h7⟩ := h.2.2.cell c (by rw [hl]; exact List.mem_cons_self)
  have := good_ne h6 (fits_ne h7)
  rw [enN_eq, h.1, hl, List.flatMap_cons, enC_br h5]
  intro e
  exact this (List.append_eq_nil_iff.1 e).1
theorem cell_ne {d : Nat} {c : C} (h : CellG (Good d) Fits c) : ∃ x, x ∈ enC false c := by
 obtain ⟨_, _, k, h5, h6, h7⟩ := h
 rw [enC_br h5]
 exact List.exists_mem_of_ne_nil _ (good_ne h6 (fits_ne h7))
theorem setKey_app (key : ByteArray) {a : C} (l : List C) : setKey key (a :: l) = .mk key a.data a.pages a.kid :: l := rfl
theorem enC_setKey (key : ByteArray) (c : C) : enC false (.mk key c.data c.pages c.kid) = enC false c := by cases c; simp [enC, C.kid]
theorem flat_setKey (key : ByteArray) (l : List C) : (setKey key l).flatMap (enC false) = l.flatMap (enC false) := by
 cases l with
 | nil => rfl
 | cons a l => rw [setKey_app, List.flatMap_cons, List.flatMap_cons, enC_setKey]
theorem rise_of {G : N → Prop} {l : List C} (h1 : l.Pairwise RC) (h2 : ∀ c, c ∈ l → Rise (enC false c) ∧ ∀ x, x ∈ enC false c → leS c.key x.key = true) : Rise (l.flatMap (enC false)) := by
 unfold Rise
 induction l with
 | nil => exact List.Pairwise.nil
 | cons c l ih =>
  rw [List.pairwise_cons] at h1
  rw [List.flatMap_cons, List.pairwise_append]
  refine ⟨(h2 c List.mem_cons_self).1, ih h1.2 fun x hx => h2 x (List.mem_cons_of_mem _ hx), fun x hx y hy => ?_⟩
  obtain ⟨c', hc', hy⟩ := List.mem_flatMap.1 hy
  exact ltS_leS ((h1.1 c' hc').2 x hx) ((h2 c' (List.mem_cons_of_mem _ hc')).2 y hy)
theorem good_rise : ∀ {d : Nat} {n : N}, Good d n → Rise (enN n)
 | 0, n, h => by rw [en_leaf h.1]; exact h.2.1
 | d + 1, n, h => by
  rw [enN_eq, h.1]
  refine rise_of (G := Good d) h.2.2.pw fun c hc => ?_
  obtain ⟨_, h4, k, h5, h6, h7⟩ := h.2.2.cell c hc
  exact ⟨by rw [enC_br h5]; exact good_rise h6, h4⟩
theorem pw_app {l m : List C} {R : C → C → Prop} : (l ++ m).Pairwise R ↔ l.Pairwise R ∧ m.Pairwise R ∧ ∀ a, a ∈ l → ∀ b, b ∈ m → R a b := List.pairwise_append
theorem withC_app (A : List C) (c : C) (B m : List C) : withC (A ++ c :: B) A.length m = A ++ m ++ B := by
 unfold withC
 rw [List.take_left', List.append_assoc, List.append_assoc, show A.length + 1 = (A ++ [c]).length by simp, show A ++ c :: B = (A ++ [c]) ++ B by simp, List.drop_left']
 ·rfl
 ·rfl
theorem keyOf_app {A B B' : List C} (h : keyOf B = keyOf B') (hB : B ≠ []) (hB' : B' ≠ []) : keyOf (A ++ B) = keyOf (A ++ B') := by
 cases A with
 | nil => exact h
 | cons a A => rfl
theorem br_repl {d : Nat} {A B m : List C} {c : C} (h : Pre d A c B) (hm : m ≠ []) (h0 : keyOf m = c.key) (hp : m.Pairwise RC) (hcell : ∀ x, x ∈ m → CellG (Good d) Fits x) (hle : ∀ x, x ∈ m → leS c.key x.key = true)
  (hU : ∀ b, b ∈ B → ∀ x, x ∈ m → RC x b) : BrG (Good d) (A ++ m ++ B) := by
 obtain ⟨p1, p2, p3⟩ := pw_app.1 h.pw
 rw [List.pairwise_cons] at p2
 refine ⟨?_, ?_, ?_⟩
 ·rw [← h.k0, List.append_assoc]
  refine keyOf_app ?_ (by simp [hm]) (by simp)
  cases m with
  | nil => exact absurd rfl hm
  | cons x m => exact h0
 ·rw [List.append_assoc, pw_app, pw_app]
  refine ⟨p1, ⟨hp, p2.2, fun x hx b hb => hU b hb x hx⟩, fun a ha x hx => ?_⟩
  rcases List.mem_append.1 hx with hx | hx
  ·have := p3 a ha c List.mem_cons_self
   exact ⟨ltS_leS this.1 (hle x hx), fun y hy => ltS_leS (this.2 y hy) (hle x hx)⟩
  ·exact p3 a ha x (List.mem_cons_of_mem _ hx)
 ·intro x hx
  rcases List.mem_append.1 hx with hx | hx
  ·rcases List.mem_append.1 hx with hx | hx
   ·exact h.ahead x hx
   ·exact hcell x hx
  ·exact h.behind x hx
theorem sizes_take (n : N) (i : Nat) : (n.l.take i).map (sizeC n.leaf) = (sizesN n).take i := by unfold sizesN; rw [List.map_take]
theorem sizes_drop (n : N) (i : Nat) : (n.l.drop i).map (sizeC n.leaf) = (sizesN n).drop i := by unfold sizesN; rw [List.map_drop]
theorem part_ok {d : Nat} {n : N} (h : Good d n) (h0 : 122 < (sizesN n).sum) (h1 : (sizesN n).sum ≤ 167) {i : Nat} (hi : i = atR (sizesN n)) {r : List C} (hr : r = n.l.drop i) :
  i ≠ 0 ∧ Good d (.mk 0 n.leaf (n.l.take i)) ∧ Fits (.mk 0 n.leaf (n.l.take i)) ∧ Good d (.mk 0 n.leaf (if n.leaf then r else setKey noS r)) ∧ Fits (.mk 0 n.leaf (if n.leaf then r else setKey noS r)) ∧
  enN (.mk 0 n.leaf (n.l.take i)) ++ enN (.mk 0 n.leaf (if n.leaf then r else setKey noS r)) = enN n ∧ (keyOf r).size ≤ 16 ∧ (∀ x, x ∈ enN (.mk 0 n.leaf (n.l.take i)) → ltS x.key (keyOf r) = true) ∧
  (∀ x, x ∈ enN (.mk 0 n.leaf (if n.leaf then r else setKey noS r)) → leS (keyOf r) x.key = true) ∧ (∃ y, y ∈ enN n ∧ leS (keyOf r) y.key = true) := by
 have hs := good_sizes h
 have hm : ∀ x, x ∈ sizesN n → 0 ≤ x ∧ x ≤ 35 := fun x hx => by have := hs x hx; split at this <;> omega
 obtain ⟨a1, a2, a3, a4⟩ := atR_parts (m := if d = 0 then 35 else 20) hs h0 (by split <;> omega) (by split <;> omega)
 have asum := sum_take_drop (sizesN n) (atR (sizesN n))
 rw [← hi] at a1 a2 a3 a4 asum
 have hlen : (sizesN n).length = n.l.length := by unfold sizesN; rw [List.length_map]
 obtain ⟨c, r', hc⟩ : ∃ c r', r = c :: r' := by
  cases hx : r with
  | nil => have := congrArg List.length (hr.symm.trans hx); rw [List.length_drop] at this; simp at this; omega
  | cons c r' => exact ⟨c, r', rfl⟩
 have happ : n.l.take i ++ (c :: r') = n.l := by rw [← hc, hr, List.take_append_drop]
 have hcm : c ∈ n.l := by rw [← happ]; simp
 have htk : n.l.take i ≠ [] := fun e => by have := congrArg List.length e; rw [List.length_take, List.length_nil] at this; omega
 have st := congrArg List.sum (sizes_take n i)
 have sd := congrArg List.sum (sizes_drop n i)
 rw [← hr] at sd
 cases d with
 | zero =>
  have hlf := h.1
  rw [hlf] at st sd ⊢
  simp only [if_true] at *
  have hrise := h.2.1
  unfold Rise at hrise
  rw [← happ, pw_app] at hrise
  obtain ⟨q1, q2, q3⟩ := hrise
  rw [hc]
  refine ⟨by omega, ⟨rfl, q1, fun x hx => h.2.2 x (List.mem_of_mem_take hx)⟩, ⟨?_, ?_⟩, ⟨rfl, q2, fun x hx => h.2.2 x (by rw [← happ]; exact List.mem_append_right _ hx)⟩, ⟨?_, ?_⟩, ?_, (h.2.2 c hcm).2.1, ?_, ?_, c, by rw [en_leaf hlf]; exact hcm, leS_refl _⟩
  ·rw [sizes_mk, st]; omega
  ·rw [sizes_mk, st]; omega
  ·rw [sizes_mk, ← hc, sd]; omega
  ·rw [sizes_mk, ← hc, sd]; omega
  ·rw [enN_mk, enN_mk, flat_leaf, flat_leaf, en_leaf hlf, happ]
  ·intro x hx
   rw [enN_mk, flat_leaf] at hx
   exact q3 x hx c List.mem_cons_self
  ·intro x hx
   rw [enN_mk, flat_leaf] at hx
   rcases List.mem_cons.1 hx with rfl | hx
   ·exact leS_refl _
   ·rw [List.pairwise_cons] at q2
    exact ltS_le (q2.1 x hx)
 | succ d =>
  have hlf := h.1
  have hB := h.2.2
  rw [hlf] at st sd ⊢
  simp only [Bool.false_eq_true, if_false, show ¬ (d + 1 = 0) by omega] at *
  have hpw := hB.pw
  rw [← happ, pw_app] at hpw
  obtain ⟨q1, q2, q3⟩ := hpw
  rw [List.pairwise_cons] at q2
  have hcG := hB.cell c hcm
  obtain ⟨x0, hx0⟩ := cell_ne hcG
  have hk : ∀ x, x ∈ (c :: r').flatMap (enC false) → leS c.key x.key = true := fun x hx => by
   obtain ⟨c', hc', hx2⟩ := List.mem_flatMap.1 hx
   rcases List.mem_cons.1 hc' with e | hc'
   ·rw [e] at hx2; exact hcG.2.1 x hx2
   ·exact ltS_le (ltS_leS (q2.1 c' hc').1 ((hB.cell c' (by rw [← happ]; simp [hc'])).2.1 x hx2))
  rw [hc]
  have hsz := hcG.1.1
  have e1 : ((setKey noS (c :: r')).map (sizeC false)).sum = ((c :: r').map (sizeC false)).sum - c.key.size := by
   rw [setKey_app, List.map_cons, List.sum_cons, List.map_cons, List.sum_cons, size_br, size_br, C.key_mk, noS_size]; omega
  have en : (n.l.take i).flatMap (enC false) ++ (c :: r').flatMap (enC false) = enN n := by rw [enN_eq, hlf, ← List.flatMap_append, happ]
  refine ⟨by omega, ⟨rfl, htk, ⟨?_, q1, fun x hx => hB.cell x (List.mem_of_mem_take hx)⟩⟩, ⟨?_, ?_⟩, ⟨rfl, by simp [setKey, N.l], ⟨rfl, ?_, ?_⟩⟩, ⟨?_, ?_⟩, ?_, hsz, ?_, ?_, ?_⟩
  ·rw [← hB.k0]
   show keyOf (n.l.take i) = keyOf n.l
   obtain ⟨a, t, ht⟩ : ∃ a t, n.l.take i = a :: t := by cases hx : n.l.take i with | nil => exact absurd hx htk | cons a t => exact ⟨a, t, rfl⟩
   rw [ht] at happ ⊢
   rw [← happ]; rfl
  ·rw [sizes_mk, st]; omega
  ·rw [sizes_mk, st]; omega
  ·show (setKey noS (c :: r')).Pairwise RC
   rw [setKey_app, List.pairwise_cons]
   refine ⟨fun b hb => ⟨leS_lt (noS_le _) (q2.1 b hb).1, fun x hx => ?_⟩, q2.2⟩
   rw [enC_setKey] at hx
   exact (q2.1 b hb).2 x hx
  ·intro x hx
   rcases List.mem_cons.1 hx with rfl | hx
   ·obtain ⟨⟨w1, w2, w3⟩, w4, w5⟩ := hcG
    exact ⟨⟨by show noS.size ≤ 16; rw [noS_size]; omega, w2, w3⟩, fun y _ => noS_le _, w5⟩
   ·exact hB.cell x (by rw [← happ]; simp [hx])
  ·rw [sizes_mk, e1, ← hc, sd]; omega
  ·rw [sizes_mk, e1, ← hc, sd]; omega
  ·rw [enN_mk, enN_mk, flat_setKey, en]
  ·intro x hx
   rw [enN_mk] at hx
   obtain ⟨c', hc', hx⟩ := List.mem_flatMap.1 hx
   exact (q3 c' hc' c List.mem_cons_self).2 x hx
  ·intro x hx
   rw [enN_mk, flat_setKey] at hx
   exact hk x hx
  ·exact ⟨x0, by rw [← en]; exact List.mem_append_right _ (List.mem_flatMap.2 ⟨c, List.mem_cons_self, hx0⟩), hcG.2.1 x0 hx0⟩
theorem parted_ok {d : Nat} {p : Int} {A B : List C} {c : C} {kid : N} (h : Pre d A c B) (hk : c.kid = [kid]) {m : N × Bool} (hm : m = partedN (.mk p false (A ++ c :: B)) kid A.length c.key) :
  (m.2 = false ∧ m.1 = .mk p false (A ++ c :: B) ∧ (sizesN kid).sum ≤ 122) ∨ (m.2 = true ∧ m.1.leaf = false ∧ m.1.l.length = A.length + B.length + 2 ∧ BrG (Good d) m.1.l ∧ enN m.1 = (A ++ c :: B).flatMap (enC false) ∧ m.1.page = 0 ∧ (sizesN m.1).sum ≤ ((A ++ c :: B).map (sizeC false)).sum + 20) := by
 obtain ⟨o1, o2, kid', o3, o4, o5⟩ := h.own
 rw [hk] at o3; cases o3
 rw [enC_br hk] at o2
 have hs := good_sizes o4
 rcases Int.lt_or_le 122 (sizesN kid).sum with h0 | h0
 ·refine .inr ?_
  obtain ⟨i, hi⟩ : ∃ i, i = atR (sizesN kid) := ⟨_, rfl⟩
  obtain ⟨r, hr⟩ : ∃ r, r = kid.l.drop i := ⟨_, rfl⟩
  obtain ⟨q0, q1, q2, q3, q4, q5, q6, q7, q8, y, q9, q10⟩ := part_ok o4 h0 o5 hi hr
  unfold partedN at hm
  simp only [← hi, if_neg q0, ← hr] at hm
  rw [hm]
  generalize hX : (N.mk 0 kid.leaf (List.take i kid.l)) = X at *
  generalize hY : (N.mk 0 kid.leaf (if kid.leaf = true then r else setKey noS r)) = Y at *
  simp only [N.l_mk, N.leaf_mk, N.page_mk, withC_app]
  have hne : enN X ≠ [] := good_ne q1 (fits_ne q2)
  obtain ⟨x0, hx0⟩ := List.exists_mem_of_ne_nil _ hne
  have hX' : ∀ x, x ∈ enN X → x ∈ enN kid := fun x hx => by rw [← q5]; exact List.mem_append_left _ hx
  have hY' : ∀ x, x ∈ enN Y → x ∈ enN kid := fun x hx => by rw [← q5]; exact List.mem_append_right _ hx
  obtain ⟨p1, p2, p3⟩ := pw_app.1 h.pw
  rw [List.pairwise_cons] at p2
  refine ⟨trivial, trivial, by simp; omega, ?_, ?_, trivial, ?_⟩
  ·have hck : ltS c.key (keyOf r) = true := leS_lt (o2 x0 (hX' x0 hx0)) (q7 x0 hx0)
   refine br_repl h (by simp) rfl ?_ ?_ ?_ ?_
   ·rw [List.pairwise_cons]
    refine ⟨fun b hb => ?_, List.pairwise_singleton _ _⟩
    rw [List.mem_singleton] at hb; subst hb
    refine ⟨hck, fun x hx => ?_⟩
    rw [enC_cell] at hx
    exact q7 x hx
   ·intro x hx
    rcases List.mem_cons.1 hx with rfl | hx
    ·exact ⟨⟨o1.1, rfl, rfl⟩, fun x hx => by rw [enC_cell] at hx; exact o2 x (hX' x hx), X, rfl, q1, q2⟩
    ·rw [List.mem_singleton] at hx; subst hx
     exact ⟨⟨q6, rfl, rfl⟩, fun x hx => by rw [enC_cell] at hx; exact q8 x hx, Y, rfl, q3, q4⟩
   ·intro x hx
    rcases List.mem_cons.1 hx with rfl | hx
    ·exact leS_refl _
    ·rw [List.mem_singleton] at hx; subst hx
     exact ltS_le hck
   ·intro b hb x hx
    have hcb := p2.1 b hb
    rw [RC, enC_br hk] at hcb
    rcases List.mem_cons.1 hx with rfl | hx
    ·exact ⟨hcb.1, fun x hx => by rw [enC_cell] at hx; exact hcb.2 x (hX' x hx)⟩
    ·rw [List.mem_singleton] at hx; subst hx
     exact ⟨leS_lt q10 (hcb.2 y q9), fun x hx => by rw [enC_cell] at hx; exact hcb.2 x (hY' x hx)⟩
  ·rw [enN_mk, List.flatMap_append, List.flatMap_append, List.flatMap_append, List.flatMap_cons, List.flatMap_cons, List.flatMap_cons, List.flatMap_nil, enC_cell, enC_cell, enC_br hk, ← q5]
   simp
  ·rw [sizes_mk]
   simp only [List.map_append, List.map_cons, List.map_nil, List.sum_append, List.sum_cons, List.sum_nil, size_br, cellN, C.key_mk]
   omega
 ·refine .inl ?_
  unfold partedN at hm
  simp only [atR_zero h0, if_true] at hm
  rw [hm]
  exact ⟨rfl, rfl, h0⟩
theorem pre_good {d : Nat} {A B : List C} {c : C} {kid : N} (h : Pre d A c B) (hk : c.kid = [kid]) (h0 : 30 ≤ (sizesN kid).sum) (h1 : (sizesN kid).sum ≤ 122) : BrG (Good d) (A ++ c :: B) := by
 refine ⟨h.k0, h.pw, fun x hx => ?_⟩
 rcases List.mem_append.1 hx with hx | hx
 ·exact h.ahead x hx
 ·rcases List.mem_cons.1 hx with rfl | hx
  ·obtain ⟨o1, o2, k, o3, o4, o5⟩ := h.own
   rw [hk] at o3; cases o3
   exact ⟨o1, o2, kid, hk, o4, h0, h1⟩
  ·exact h.behind x hx
theorem both_ok {d : Nat} {kx ky : N} {key : ByteArray} (hx : Good d kx) (hy : Good d ky) (h1 : ∀ e, e ∈ enN kx → ltS e.key key = true) (h2 : ∀ e, e ∈ enN ky → leS key e.key = true) (hs : key.size ≤ 16) :
  Good d (bothN kx ky key) ∧ enN (bothN kx ky key) = enN kx ++ enN ky ∧ (sizesN kx).sum + (sizesN ky).sum ≤ (sizesN (bothN kx ky key)).sum ∧ (sizesN (bothN kx ky key)).sum ≤ (sizesN kx).sum + (sizesN ky).sum + 16 := by
 cases d with
 | zero =>
  have e : bothN kx ky key = .mk 0 true (kx.l ++ ky.l) := by unfold bothN; rw [hy.1, hx.1, if_pos rfl]
  rw [e, enN_mk, flat_leaf, en_leaf hx.1, en_leaf hy.1, sizes_mk]
  rw [en_leaf hx.1] at h1
  rw [en_leaf hy.1] at h2
  have e1 : sizesN kx = kx.l.map (sizeC true) := by unfold sizesN; rw [hx.1]
  have e2 : sizesN ky = ky.l.map (sizeC true) := by unfold sizesN; rw [hy.1]
  refine ⟨⟨rfl, pw_app.2 ⟨hx.2.1, hy.2.1, fun a ha b hb => ltS_leS (h1 a ha) (h2 b hb)⟩, fun c hc => ?_⟩, rfl, ?_, ?_⟩
  ·rcases List.mem_append.1 hc with hc | hc
   ·exact hx.2.2 c hc
   ·exact hy.2.2 c hc
  ·rw [List.map_append, List.sum_append, e1, e2]; omega
  ·rw [List.map_append, List.sum_append, e1, e2]; omega
 | succ d =>
  have e : bothN kx ky key = .mk 0 false (kx.l ++ setKey key ky.l) := by unfold bothN; rw [hy.1, hx.1, if_neg (by simp)]
  rw [e, enN_mk, enN_eq kx, enN_eq ky, hx.1, hy.1, sizes_mk, List.flatMap_append, flat_setKey]
  rw [enN_eq, hx.1] at h1
  rw [enN_eq, hy.1] at h2
  have e1 : sizesN kx = kx.l.map (sizeC false) := by unfold sizesN; rw [hx.1]
  have e2 : sizesN ky = ky.l.map (sizeC false) := by unfold sizesN; rw [hy.1]
  have hX := hx.2.2
  have hY := hy.2.2
  obtain ⟨c0, r, hr⟩ : ∃ c0 r, ky.l = c0 :: r := by cases hq : ky.l with | nil => exact absurd hq hy.2.1 | cons a t => exact ⟨a, t, rfl⟩
  have hc0 := hY.cell c0 (by rw [hr]; exact List.mem_cons_self)
  have hp := hY.pw
  have hk0 := hY.k0
  rw [hr, List.pairwise_cons] at hp
  rw [hr] at h2 e2 hk0
  have hk0 : c0.key = noS := hk0
  rw [hr, setKey_app]
  obtain ⟨x0, hx0⟩ := cell_ne hc0
  have hl0 := h2 x0 (List.mem_flatMap.2 ⟨c0, List.mem_cons_self, hx0⟩)
  have hkb : ∀ b, b ∈ r → ltS key b.key = true := fun b hb => leS_lt hl0 ((hp.1 b hb).2 x0 hx0)
  have hle : ∀ b, b ∈ C.mk key c0.data c0.pages c0.kid :: r → leS key b.key = true := fun b hb => by
   rcases List.mem_cons.1 hb with rfl | hb
   ·exact leS_refl _
   ·exact ltS_le (hkb b hb)
  refine ⟨⟨rfl, by simp [N.l], ?_, ?_, ?_⟩, rfl, ?_, ?_⟩
  ·show keyOf (kx.l ++ _) = noS
   rw [← hX.k0]
   cases hq : kx.l with
   | nil => exact absurd hq hx.2.1
   | cons a t => rfl
  ·refine pw_app.2 ⟨hX.pw, List.pairwise_cons.2 ⟨fun b hb => ⟨hkb b hb, fun x hx => ?_⟩, hp.2⟩, fun a ha b hb => ?_⟩
   ·rw [enC_setKey] at hx
    exact (hp.1 b hb).2 x hx
   ·obtain ⟨xa, hxa⟩ := cell_ne (hX.cell a ha)
    have h3 : ∀ x, x ∈ enC false a → ltS x.key key = true := fun x hx => h1 x (List.mem_flatMap.2 ⟨a, ha, hx⟩)
    exact ⟨ltS_leS (leS_lt ((hX.cell a ha).2.1 xa hxa) (h3 xa hxa)) (hle b hb), fun x hx => ltS_leS (h3 x hx) (hle b hb)⟩
  ·intro c hc
   rcases List.mem_append.1 hc with hc | hc
   ·exact hX.cell c hc
   ·rcases List.mem_cons.1 hc with rfl | hc
    ·obtain ⟨⟨w1, w2, w3⟩, w4, w5⟩ := hc0
     refine ⟨⟨hs, w2, w3⟩, fun y hy => ?_, w5⟩
     rw [enC_setKey] at hy
     exact h2 y (List.mem_flatMap.2 ⟨c0, List.mem_cons_self, hy⟩)
    ·exact hY.cell c (by rw [hr]; exact List.mem_cons_of_mem _ hc)
  ·rw [List.map_append, List.sum_append, e1, e2, List.map_cons, List.sum_cons, List.map_cons, List.sum_cons, size_br, size_br, C.key_mk, hk0, noS_size]; omega
  ·rw [List.map_append, List.sum_append, e1, e2, List.map_cons, List.sum_cons, List.map_cons, List.sum_cons, size_br, size_br, C.key_mk, hk0, noS_size]; omega
theorem cellAt_app (A : List C) (c : C) (B : List C) : cellAt (A ++ c :: B) A.length = c := cellAt_eq (by simp)
theorem pre_both {d : Nat} {A B : List C} {x y : C} {kx ky : N} (hk0 : keyOf (A ++ x :: y :: B) = noS) (hpw : (A ++ x :: y :: B).Pairwise RC) (hA : ∀ c, c ∈ A → CellG (Good d) Fits c) (hB : ∀ c, c ∈ B → CellG (Good d) Fits c)
  (hx : CellG (Good d) (fun _ => True) x) (hy : CellG (Good d) (fun _ => True) y) (ex : x.kid = [kx]) (ey : y.kid = [ky]) (hsum : (sizesN kx).sum + (sizesN ky).sum ≤ 151) :
  Pre d A (cellN x.key (bothN kx ky y.key)) B ∧ (A ++ cellN x.key (bothN kx ky y.key) :: B).flatMap (enC false) = (A ++ x :: y :: B).flatMap (enC false) ∧ (sizesN kx).sum + (sizesN ky).sum ≤ (sizesN (bothN kx ky y.key)).sum := by
 obtain ⟨x1, x2, kx', x3, x4, _⟩ := hx
 rw [ex] at x3; cases x3
 obtain ⟨y1, y2, ky', y3, y4, _⟩ := hy
 rw [ey] at y3; cases y3
 rw [enC_br ex] at x2
 rw [enC_br ey] at y2
 obtain ⟨p1, p2, p3⟩ := pw_app.1 hpw
 rw [List.pairwise_cons, List.pairwise_cons] at p2
 obtain ⟨p2, p4, p5⟩ := p2
 have hxy := p2 y List.mem_cons_self
 rw [RC, enC_br ex] at hxy
 obtain ⟨b1, b2, b3, b4⟩ := both_ok x4 y4 hxy.2 y2 y1.1
 refine ⟨⟨?_, ?_, hA, hB, ⟨⟨x1.1, rfl, rfl⟩, fun e he => ?_, _, rfl, b1, by omega⟩⟩, ?_, b3⟩
 ·rw [← hk0]; exact keyOf_app rfl (by simp) (by simp)
 ·refine pw_app.2 ⟨p1, List.pairwise_cons.2 ⟨fun b hb => ⟨(p2 b (List.mem_cons_of_mem _ hb)).1, fun e he => ?_⟩, p5⟩, fun a ha b hb => ?_⟩
  ·rw [enC_cell, b2] at he
   rcases List.mem_append.1 he with he | he
   ·have := (p2 b (List.mem_cons_of_mem _ hb)).2
    rw [enC_br ex] at this
    exact this e he
   ·have := (p4 b hb).2
    rw [enC_br ey] at this
    exact this e he
  ·rcases List.mem_cons.1 hb with rfl | hb
   ·exact p3 a ha x List.mem_cons_self
   ·exact p3 a ha b (List.mem_cons_of_mem _ (List.mem_cons_of_mem _ hb))
 ·rw [enC_cell, b2] at he
  rcases List.mem_append.1 he with he | he
  ·exact x2 e he
  ·exact ltS_le (ltS_leS hxy.1 (y2 e he))
 ·rw [List.flatMap_append, List.flatMap_append, List.flatMap_cons, List.flatMap_cons, List.flatMap_cons, enC_cell, b2, enC_br ex, enC_br ey, List.append_assoc]
theorem cellG_any {G F : N → Prop} {c : C} (h : CellG G F c) : CellG G (fun _ => True) c := by
 obtain ⟨h1, h2, k, h3, h4, h5⟩ := h
 exact ⟨h1, h2, k, h3, h4, trivial⟩
structure Mended (d : Nat) (L : List C) (m : N) : Prop where
 leaf : m.leaf = false
 page : m.page = 0
 ne : m.l ≠ []
 br : BrG (Good d) m.l
 en : enN m = L.flatMap (enC false)
 sum : (sizesN m).sum ≤ (L.map (sizeC false)).sum + 20
theorem mend_ok {d : Nat} {A B : List C} {c : C} (h : Pre d A c B) (hAB : A ≠ [] ∨ B ≠ []) : Mended d (A ++ c :: B) (mendN (.mk 0 false (A ++ c :: B)) A.length) := by
 obtain ⟨o1, o2, kid, hkid, o4, o5⟩ := h.own
 unfold mendN
 simp only [N.l_mk, cellAt_app, kid0_eq hkid]
 generalize hP : partedN (.mk 0 false (A ++ c :: B)) kid A.length c.key = P
 rcases parted_ok h hkid hP.symm with ⟨q1, q2, q3⟩ | ⟨q1, q2, q3, q4, q5, q6, q7⟩
 ·rw [q1, if_neg (by simp)]
  split
  ·rename_i hlow
   have h30 : 30 ≤ (sizesN kid).sum := by
    rw [Bool.or_eq_true] at hlow
    rcases hlow with hlow | hlow
    ·unfold lowR at hlow
     simp at hlow; omega
    ·have h2 : (A ++ c :: B).length < 2 := of_decide_eq_true hlow
     rw [List.length_append, List.length_cons] at h2
     rcases hAB with hA | hB
     ·have := List.length_pos_iff.2 hA; omega
     ·have := List.length_pos_iff.2 hB; omega
   exact ⟨rfl, rfl, by simp [N.l], pre_good h hkid h30 q3, enN_mk _ _ _, by rw [sizes_mk]; omega⟩
  ·rename_i hlow
   have h29 : (sizesN kid).sum ≤ 29 := by
    rw [Bool.or_eq_true, not_or] at hlow
    have := hlow.1
    unfold lowR at this
    simp at this; omega
   -- which neighbour
   have fin : ∀ (A' B' : List C) (x y : C) (kx ky : N), A ++ c :: B = A' ++ x :: y :: B' → x.kid = [kx] → y.kid = [ky] → CellG (Good d) (fun _ => True) x → CellG (Good d) (fun _ => True) y → (∀ e, e ∈ A' → CellG (Good d) Fits e) → (∀ e, e ∈ B' → CellG (Good d) Fits e) →
     30 ≤ (sizesN kx).sum + (sizesN ky).sum → (sizesN kx).sum + (sizesN ky).sum ≤ 151 →
     Mended d (A ++ c :: B) (partedN (.mk 0 false (withC (withC (A ++ c :: B) (A'.length + 1) []) A'.length [cellN (cellAt (A ++ c :: B) A'.length).key (bothN (kid0 (cellAt (A ++ c :: B) A'.length)) (kid0 (cellAt (A ++ c :: B) (A'.length + 1))) (cellAt (A ++ c :: B) (A'.length + 1)).key)])) (bothN (kid0 (cellAt (A ++ c :: B) A'.length)) (kid0 (cellAt (A ++ c :: B) (A'.length + 1))) (cellAt (A ++ c :: B) (A'.length + 1)).key) A'.length (cellAt (A ++ c :: B) A'.length).key).1 := by
    intro A' B' x y kx ky he ex ey hx hy hA' hB' s30 s151
    obtain ⟨b1, b2, b3⟩ := pre_both (by rw [← he]; exact h.k0) (by rw [← he]; exact h.pw) hA' hB' hx hy ex ey s151
    have e1 : cellAt (A' ++ x :: y :: B') (A'.length + 1) = y := by
     have := cellAt_app (A' ++ [x]) y B'
     simpa using this
    have e2 : withC (A' ++ x :: y :: B') (A'.length + 1) [] = A' ++ x :: B' := by
     have := withC_app (A' ++ [x]) y B' []
     simpa using this
    rw [he, cellAt_app, e1, e2, kid0_eq ex, kid0_eq ey, withC_app, List.append_assoc, List.singleton_append]
    generalize hQ : partedN (.mk 0 false (A' ++ cellN x.key (bothN kx ky y.key) :: B')) (bothN kx ky y.key) A'.length x.key = Q
    have hsz : ((A' ++ cellN x.key (bothN kx ky y.key) :: B').map (sizeC false)).sum ≤ ((A' ++ x :: y :: B').map (sizeC false)).sum := by
     simp only [List.map_append, List.map_cons, List.sum_append, List.sum_cons, size_br, cellN, C.key_mk]
     omega
    rcases parted_ok (p := 0) b1 (kid := bothN kx ky y.key) rfl hQ.symm with ⟨r1, r2, r3⟩ | ⟨r1, r2, r3, r4, r5, r6, r7⟩
    ·rw [r2]
     exact ⟨rfl, rfl, by simp [N.l], pre_good b1 rfl (by omega) r3, by rw [enN_mk, b2], by rw [sizes_mk]; omega⟩
    ·exact ⟨r2, r6, by intro e; rw [e] at r3; simp at r3, r4, by rw [r5, b2], by omega⟩
   have fs : ∀ x kx, CellG (Good d) Fits x → x.kid = [kx] → 30 ≤ (sizesN kx).sum ∧ (sizesN kx).sum ≤ 122 := fun x kx hx ex => by
    obtain ⟨_, _, k, h3, _, h5⟩ := hx
    rw [ex] at h3; cases h3; exact h5
   have s0 : 0 ≤ (sizesN kid).sum := sum_pos fun x hx => (good_sizes o4 x hx).1
   cases B with
   | cons b0 B' =>
    have hb0 := h.behind b0 List.mem_cons_self
    obtain ⟨_, _, kb, hkb, _⟩ := id hb0
    have := fs b0 kb hb0 hkb
    have hlt : A.length + 1 < (A ++ c :: b0 :: B').length := by simp
    simp only [hlt, if_true]
    exact fin A B' c b0 kid kb rfl hkid hkb (cellG_any h.own) (cellG_any hb0) h.ahead (fun e he => h.behind e (List.mem_cons_of_mem _ he)) (by omega) (by omega)
   | nil =>
    have hA : A ≠ [] := hAB.resolve_right (by simp)
    obtain ⟨A', a0, rfl⟩ : ∃ A' a0, A = A' ++ [a0] := ⟨A.dropLast, A.getLast hA, (List.dropLast_concat_getLast hA).symm⟩
    have ha0 := h.ahead a0 (by simp)
    obtain ⟨_, _, ka, hka, _⟩ := id ha0
    have := fs a0 ka ha0 hka
    have hnl : ¬ (A' ++ [a0]).length + 1 < (A' ++ [a0] ++ [c]).length := by simp
    simp only [hnl, if_false]
    have hj : (A' ++ [a0]).length - 1 = A'.length := by simp
    rw [hj]
    exact fin A' [] a0 c ka kid (by simp) hka hkid (cellG_any ha0) (cellG_any h.own) (fun e he => h.ahead e (List.mem_append_left _ he)) (fun e he => by cases he) (by omega) (by omega)
 ·rw [q1, if_pos rfl]
  exact ⟨q2, q6, by intro e; rw [e] at q3; simp at q3, q4, q5, q7⟩
end Go.Proofs.YtpcmnebpnpgcmaaGreatDoor
