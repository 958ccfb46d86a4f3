/-
  Whether a pool may be. By an AI agent.
-/
import Derived.Test.YtkibkahknibgfaaP5
namespace Go.Proofs.Ytkibkahknibgfaa
open Aml Go
set_option linter.unusedVariables false
set_option linter.unusedSimpArgs false
set_option maxRecDepth 100000

/-- Pages that may not wait. -/
def Wrong (h : Int) (w : Wt) : Prop := w.pages = [] ∨ ¬ Row w.pages h
set_option maxHeartbeats 1000000 in
theorem wrongW (w0 : World) (w : Wt) (S : St) (b : Nat) (h : Int) (ds : List DV) (hb : lk S.box b = some (dI h :: ds)) (h0 : w.pages.length ≤ 1048576) : ACall Try.prog w0 75 [dW w, .v (.pointer (some ⟨b, 0, none⟩))] S (fun d S' => d = dB (pB (Wrong h w)) ∧ S' = S) := by
  refine fnS [] mx Try.func75 rfl rfl (by kernel_rfl) ?_; simp (maxDischargeDepth := 12) -implicitDefEqProofs only [Try.ntmps75, go_sem, Nat.reduceAdd, Nat.reduceSub, Nat.reduceMul, Nat.reduceLeDiff, Nat.reduceEqDiff, Nat.reduceGT, Nat.reduceBEq, reduceCtorEq, ↓reduceIte, Int.reduceToNat, Int.reduceLE, Int.reduceLT, Int.reduceNe, Int.reduceEq,  hb]
  intro b1
  refine ⟨fun h => .inl (List.eq_nil_of_length_eq_zero (by omega)), fun hne => ?_⟩
  refine use1 (row w0 w.pages h _ (by omega)) ?_
  simp (maxDischargeDepth := 12) -implicitDefEqProofs only [go_sem, Nat.reduceAdd, Nat.reduceSub, Nat.reduceMul, Nat.reduceLeDiff, Nat.reduceEqDiff, Nat.reduceGT, Nat.reduceBEq, reduceCtorEq, ↓reduceIte, Int.reduceToNat, Int.reduceLE, Int.reduceLT, Int.reduceNe, Int.reduceEq]
  exact ⟨.inr, fun hw => hw.resolve_left fun e => hne (by rw [e]; rfl)⟩
set_option maxHeartbeats 1000000 in
theorem indexW (w0 : World) (l : List Wt) (S : St) (b : Nat) (h : Int) (ds : List DV) (hb : lk S.box b = some (dI h :: ds)) (h0 : l.length ≤ 1048576) (h1 : nW l ≤ 1048576) :
    ACall Try.prog w0 98 [.sl 2 false (l.map dW), .v (.func (.func 75) #[] #[.pointer (some ⟨b, 0, none⟩)])] S (fun d S' => (∃ z : Int, d = dI z ∧ (0 ≤ z ↔ ∃ w, w ∈ l ∧ Wrong h w)) ∧ S' = S) := by
  refine fnO [] mx Try.func98 rfl rfl (by kernel_rfl) ?_; simp (maxDischargeDepth := 12) -implicitDefEqProofs only [Try.ntmps98, go_sem, Nat.reduceAdd, Nat.reduceSub, Nat.reduceMul, Nat.reduceLeDiff, Nat.reduceEqDiff, Nat.reduceGT, Nat.reduceBEq, reduceCtorEq, ↓reduceIte, Int.reduceToNat, Int.reduceLE, Int.reduceLT, Int.reduceNe, Int.reduceEq]
  refine loopN [] l.length [0, 1, 7, 8] (fun k => [(8, dI k)]) (fun _ => S) (fun k => ∀ (i : Nat) w, i < k → l[i]? = some w → ¬ Wrong h w) mx (by kernel_rfl) ?_ ?_
  · simp (maxDischargeDepth := 12) -implicitDefEqProofs only [go_sem, Nat.reduceAdd, Nat.reduceSub, Nat.reduceMul, Nat.reduceLeDiff, Nat.reduceEqDiff, Nat.reduceGT, Nat.reduceBEq, reduceCtorEq, ↓reduceIte, Int.reduceToNat, Int.reduceLE, Int.reduceLT, Int.reduceNe, Int.reduceEq]
    intro i w hi; omega
  · intro k hk hup
    simp (maxDischargeDepth := 12) -implicitDefEqProofs only [go_sem, Nat.reduceAdd, Nat.reduceSub, Nat.reduceMul, Nat.reduceLeDiff, Nat.reduceEqDiff, Nat.reduceGT, Nat.reduceBEq, reduceCtorEq, ↓reduceIte, Int.reduceToNat, Int.reduceLE, Int.reduceLT, Int.reduceNe, Int.reduceEq]
    refine ⟨fun hlt => ⟨hlt, fun a ha => ?_⟩, fun hge => ⟨-1, rfl, fun h => by omega, fun ⟨w, hw, hr⟩ => ?_⟩⟩
    · have := nW_at ha
      refine use1 (wrongW w0 a S b h ds hb (by omega)) ?_
      simp (maxDischargeDepth := 12) -implicitDefEqProofs only [go_sem, Nat.reduceAdd, Nat.reduceSub, Nat.reduceMul, Nat.reduceLeDiff, Nat.reduceEqDiff, Nat.reduceGT, Nat.reduceBEq, reduceCtorEq, ↓reduceIte, Int.reduceToNat, Int.reduceLE, Int.reduceLT, Int.reduceNe, Int.reduceEq]
      refine ⟨fun hw => ⟨k, rfl, fun _ => ⟨a, List.mem_of_getElem? ha, hw⟩, fun _ => by omega⟩, fun hw => ⟨hlt, fun i w hi hc => ?_, w64 (by omega) (by omega)⟩⟩
      by_cases e : i = k
      · subst e; cases getE ha hc; exact hw
      · exact hup i w (by omega) hc
    · obtain ⟨i, hi⟩ := List.getElem?_of_mem hw
      exact absurd hr (hup i w (by have := (List.getElem?_eq_some_iff.1 hi).1; omega) hi)
set_option maxHeartbeats 1000000 in
theorem containsW (w0 : World) (l : List Wt) (S : St) (b : Nat) (h : Int) (ds : List DV) (hb : lk S.box b = some (dI h :: ds)) (h0 : l.length ≤ 1048576) (h1 : nW l ≤ 1048576) :
    ACall Try.prog w0 77 [.sl 2 false (l.map dW), .v (.func (.func 75) #[] #[.pointer (some ⟨b, 0, none⟩)])] S (fun d S' => d = dB (pB (∃ w, w ∈ l ∧ Wrong h w)) ∧ S' = S) := by
  refine fnS [] mx Try.func77 rfl rfl (by kernel_rfl) ?_; simp (maxDischargeDepth := 12) -implicitDefEqProofs only [Try.ntmps77, go_sem, Nat.reduceAdd, Nat.reduceSub, Nat.reduceMul, Nat.reduceLeDiff, Nat.reduceEqDiff, Nat.reduceGT, Nat.reduceBEq, reduceCtorEq, ↓reduceIte, Int.reduceToNat, Int.reduceLE, Int.reduceLT, Int.reduceNe, Int.reduceEq]
  refine useK (indexW w0 l S b h ds hb h0 h1) ?_
  rintro d S' ⟨⟨z, rfl, hz⟩, rfl⟩
  simp (maxDischargeDepth := 12) -implicitDefEqProofs only [go_sem, Nat.reduceAdd, Nat.reduceSub, Nat.reduceMul, Nat.reduceLeDiff, Nat.reduceEqDiff, Nat.reduceGT, Nat.reduceBEq, reduceCtorEq, ↓reduceIte, Int.reduceToNat, Int.reduceLE, Int.reduceLT, Int.reduceNe, Int.reduceEq]
  exact hz

/-- May it be? -/
def Chk (p : Pl) (q : Int) : Prop := (∀ (i : Nat) a c, 0 < i → p.wait[i]? = some a → p.wait[i - 1]? = some c → c.txn < a.txn) ∧ (∀ w, w ∈ p.wait → ¬ Wrong p.high w) ∧ 2 ≤ p.high ∧ p.high ≤ q ∧ Row p.free p.high ∧ Row (listed p) p.high
set_option maxHeartbeats 4000000 in
theorem check (w0 : World) (p : Pl) (q : Int) (S : St) (h0 : p.wait.length ≤ 1048576) (h1 : p.free.length + nW p.wait ≤ 1048576) : ACall Try.prog w0 45 [dP p, dI q] S (fun d S' => d = dB (pB (Chk p q)) ∧ S' = S) := by
  refine fnS [] mx Try.func45 rfl rfl (by kernel_rfl) ?_; simp (maxDischargeDepth := 12) -implicitDefEqProofs only [Try.ntmps45, go_sem, Nat.reduceAdd, Nat.reduceSub, Nat.reduceMul, Nat.reduceLeDiff, Nat.reduceEqDiff, Nat.reduceGT, Nat.reduceBEq, reduceCtorEq, ↓reduceIte, Int.reduceToNat, Int.reduceLE, Int.reduceLT, Int.reduceNe, Int.reduceEq]
  intro b
  refine loopN [] p.wait.length [1, 2, 9, 10] (fun k => [(10, dI k)]) (fun _ => ⟨(b.n, [dI p.high, dL p.free, .sl 2 false (p.wait.map dW)]) :: S.box, S.acc⟩) (fun k => ∀ (i : Nat) a c, i < k → 0 < i → p.wait[i]? = some a → p.wait[i - 1]? = some c → c.txn < a.txn) mx (by kernel_rfl) ?_ ?_
  · simp (maxDischargeDepth := 12) -implicitDefEqProofs only [go_sem, Nat.reduceAdd, Nat.reduceSub, Nat.reduceMul, Nat.reduceLeDiff, Nat.reduceEqDiff, Nat.reduceGT, Nat.reduceBEq, reduceCtorEq, ↓reduceIte, Int.reduceToNat, Int.reduceLE, Int.reduceLT, Int.reduceNe, Int.reduceEq]
    intro i a c hi; omega
  · intro k hk hup
    simp (maxDischargeDepth := 12) -implicitDefEqProofs only [go_sem, Nat.reduceAdd, Nat.reduceSub, Nat.reduceMul, Nat.reduceLeDiff, Nat.reduceEqDiff, Nat.reduceGT, Nat.reduceBEq, reduceCtorEq, ↓reduceIte, Int.reduceToNat, Int.reduceLE, Int.reduceLT, Int.reduceNe, Int.reduceEq]
    refine ⟨fun hlt => ⟨fun hp => ⟨hlt, fun a ha => ?_⟩, fun hp => ⟨hlt, fun i a c hi h0 => by omega, w64 (by omega) (by omega)⟩⟩, fun hge => ?_⟩
    · rw [w64 (by omega) (by omega), w64 (by omega) (by omega)]
      have e : ((k : Int) - 1).toNat = k - 1 := by omega
      rw [e]
      refine ⟨by omega, by omega, fun c hc => ⟨fun hle hk => ?_, fun hle => ⟨hlt, fun i x y hi h0 hx hy => ?_, by omega⟩⟩⟩
      · have := hk.1 k a c (by omega) ha hc; omega
      · by_cases e : i = k
        · subst e; cases getE ha hx; cases getE hc hy; omega
        · exact hup i x y (by omega) h0 hx hy
    · have hup' : ∀ (i : Nat) a c, 0 < i → p.wait[i]? = some a → p.wait[i - 1]? = some c → c.txn < a.txn := fun i a c h0 ha hc => hup i a c (by have := (List.getElem?_eq_some_iff.1 ha).1; omega) h0 ha hc
      refine useQ (containsW w0 p.wait _ b.n p.high _ (q_lk_same _ _ _) h0 (by omega)) ?_
      simp (maxDischargeDepth := 12) -implicitDefEqProofs only [go_sem, Nat.reduceAdd, Nat.reduceSub, Nat.reduceMul, Nat.reduceLeDiff, Nat.reduceEqDiff, Nat.reduceGT, Nat.reduceBEq, reduceCtorEq, ↓reduceIte, Int.reduceToNat, Int.reduceLE, Int.reduceLT, Int.reduceNe, Int.reduceEq]
      refine ⟨fun hw => ⟨fun h2 => ⟨fun hq => ?_, fun hq hk => hq hk.2.2.2.1⟩, fun h2 hk => h2 hk.2.2.1⟩, fun hw hk => hw fun ⟨w, hm, hr⟩ => hk.2.1 w hm hr⟩
      refine useQ (row w0 p.free p.high _ (by omega)) ?_
      simp (maxDischargeDepth := 12) -implicitDefEqProofs only [go_sem, Nat.reduceAdd, Nat.reduceSub, Nat.reduceMul, Nat.reduceLeDiff, Nat.reduceEqDiff, Nat.reduceGT, Nat.reduceBEq, reduceCtorEq, ↓reduceIte, Int.reduceToNat, Int.reduceLE, Int.reduceLT, Int.reduceNe, Int.reduceEq]
      refine ⟨fun hf => ?_, fun hf hk => hf hk.2.2.2.2.1⟩
      refine useQ (listedW w0 p _ h0 h1) ?_
      simp (maxDischargeDepth := 12) -implicitDefEqProofs only [go_sem, Nat.reduceAdd, Nat.reduceSub, Nat.reduceMul, Nat.reduceLeDiff, Nat.reduceEqDiff, Nat.reduceGT, Nat.reduceBEq, reduceCtorEq, ↓reduceIte, Int.reduceToNat, Int.reduceLE, Int.reduceLT, Int.reduceNe, Int.reduceEq]
      refine useQ (row w0 (listed p) p.high _ (by unfold listed; rw [srt_length, flat_pgs]; omega)) ?_
      simp (maxDischargeDepth := 12) -implicitDefEqProofs only [go_sem, Nat.reduceAdd, Nat.reduceSub, Nat.reduceMul, Nat.reduceLeDiff, Nat.reduceEqDiff, Nat.reduceGT, Nat.reduceBEq, reduceCtorEq, ↓reduceIte, Int.reduceToNat, Int.reduceLE, Int.reduceLT, Int.reduceNe, Int.reduceEq]
      exact ⟨fun h => ⟨hup', fun w hm hr => hw ⟨w, hm, hr⟩, h2, hq, hf, h⟩, fun h => h.2.2.2.2.2⟩
set_option maxHeartbeats 4000000 in
theorem checkR (w0 : World) (p : Pl) (q : Int) (S : St) (h0 : p.wait.length ≤ 1048576) (h1 : p.free.length + nW p.wait ≤ 1048576) : ACall Try.prog w0 46 [dP p, dI q] S (fun d S' => d = dB (pB (Chk p q)) ∧ S' = S) := by
  refine fnS [] mx Try.func46 rfl rfl (by kernel_rfl) ?_; simp (maxDischargeDepth := 12) -implicitDefEqProofs only [Try.ntmps46, go_sem, Nat.reduceAdd, Nat.reduceSub, Nat.reduceMul, Nat.reduceLeDiff, Nat.reduceEqDiff, Nat.reduceGT, Nat.reduceBEq, reduceCtorEq, ↓reduceIte, Int.reduceToNat, Int.reduceLE, Int.reduceLT, Int.reduceNe, Int.reduceEq]
  intro b
  refine use1 (rowR w0 p.free p.high _ (by omega)) ?_
  simp (maxDischargeDepth := 12) -implicitDefEqProofs only [go_sem, Nat.reduceAdd, Nat.reduceSub, Nat.reduceMul, Nat.reduceLeDiff, Nat.reduceEqDiff, Nat.reduceGT, Nat.reduceBEq, reduceCtorEq, ↓reduceIte, Int.reduceToNat, Int.reduceLE, Int.reduceLT, Int.reduceNe, Int.reduceEq]
  refine ⟨fun h hk => ?_, fun h => ⟨fun h' hk => ?_, fun h' => ⟨fun hf hk => ?_, fun hf => ?_⟩⟩⟩
  · have := hk.2.2.1; omega
  · have := hk.2.2.2.1; omega
  · exact hf hk.2.2.2.2.1
  refine loopN [] p.wait.length [2, 6] (fun k => [(6, dI k)]) (fun _ => ⟨(b.n, [dI p.high, dL p.free, .sl 2 false (p.wait.map dW)]) :: S.box, S.acc⟩) (fun k => (∀ (i : Nat) a c, i < k → 0 < i → p.wait[i]? = some a → p.wait[i - 1]? = some c → c.txn < a.txn) ∧ ∀ (i : Nat) w, i < k → p.wait[i]? = some w → ¬ Wrong p.high w) mx (by kernel_rfl) ?_ ?_
  · simp (maxDischargeDepth := 12) -implicitDefEqProofs only [go_sem, Nat.reduceAdd, Nat.reduceSub, Nat.reduceMul, Nat.reduceLeDiff, Nat.reduceEqDiff, Nat.reduceGT, Nat.reduceBEq, reduceCtorEq, ↓reduceIte, Int.reduceToNat, Int.reduceLE, Int.reduceLT, Int.reduceNe, Int.reduceEq]
    exact ⟨fun i a c hi => by omega, fun i w hi => by omega⟩
  · intro k hk hinv
    simp (maxDischargeDepth := 12) -implicitDefEqProofs only [go_sem, Nat.reduceAdd, Nat.reduceSub, Nat.reduceMul, Nat.reduceLeDiff, Nat.reduceEqDiff, Nat.reduceGT, Nat.reduceBEq, reduceCtorEq, ↓reduceIte, Int.reduceToNat, Int.reduceLE, Int.reduceLT, Int.reduceNe, Int.reduceEq]
    obtain ⟨up1, up2⟩ := hinv
    refine ⟨fun hlt => ⟨hlt, fun a ha => ?_⟩, fun hge => ?_⟩
    · have := nW_at ha
      have step : ¬ Wrong p.high a → (∀ c, 0 < k → p.wait[k - 1]? = some c → c.txn < a.txn) → (∀ (i : Nat) a c, i < k + 1 → 0 < i → p.wait[i]? = some a → p.wait[i - 1]? = some c → c.txn < a.txn) ∧ ∀ (i : Nat) w, i < k + 1 → p.wait[i]? = some w → ¬ Wrong p.high w := by
        intro g1 g2
        refine ⟨fun i x y hi h0 hx hy => ?_, fun i w hi hw => ?_⟩
        · by_cases e : i = k
          · subst e; cases getE ha hx; exact g2 y h0 hy
          · exact up1 i x y (by omega) h0 hx hy
        · by_cases e : i = k
          · subst e; cases getE ha hw; exact g1
          · exact up2 i w (by omega) hw
      refine useQ (rowR w0 a.pages p.high _ (by omega)) ?_
      simp (maxDischargeDepth := 12) -implicitDefEqProofs only [go_sem, Nat.reduceAdd, Nat.reduceSub, Nat.reduceMul, Nat.reduceLeDiff, Nat.reduceEqDiff, Nat.reduceGT, Nat.reduceBEq, reduceCtorEq, ↓reduceIte, Int.reduceToNat, Int.reduceLE, Int.reduceLT, Int.reduceNe, Int.reduceEq]
      refine ⟨fun hr hk => hk.2.1 a (List.mem_of_getElem? ha) (.inr hr), fun hr => ⟨hlt, fun a2 ha2 => ⟨fun he hk => ?_, fun he => ⟨fun hp => ⟨hlt, fun a3 ha3 => ?_⟩, fun hp => ⟨hlt, ?_, w64 (by omega) (by omega)⟩⟩⟩⟩⟩
      · cases getE ha ha2
        exact hk.2.1 a (List.mem_of_getElem? ha) (.inl (List.eq_nil_of_length_eq_zero (by omega)))
      · cases getE ha ha2
        cases getE ha ha3
        have hg : ¬ Wrong p.high a := fun hw => hw.elim (fun e => he (by rw [e]; rfl)) hr
        rw [w64 (by omega) (by omega), w64 (by omega) (by omega)]
        have e : ((k : Int) - 1).toNat = k - 1 := by omega
        rw [e]
        refine ⟨by omega, by omega, fun c hc => ⟨fun hle hk => ?_, fun hle => ⟨hlt, step hg fun d _ hd => ?_, by omega⟩⟩⟩
        · have := hk.1 k a c (by omega) ha hc; omega
        · cases getE hc hd; omega
      · cases getE ha ha2
        exact step (fun hw => hw.elim (fun e => he (by rw [e]; rfl)) hr) fun d h0 hd => by omega
    · refine useQ (listedR w0 p _ h0 h1) ?_
      simp (maxDischargeDepth := 12) -implicitDefEqProofs only [go_sem, Nat.reduceAdd, Nat.reduceSub, Nat.reduceMul, Nat.reduceLeDiff, Nat.reduceEqDiff, Nat.reduceGT, Nat.reduceBEq, reduceCtorEq, ↓reduceIte, Int.reduceToNat, Int.reduceLE, Int.reduceLT, Int.reduceNe, Int.reduceEq]
      refine useQ (rowR w0 (listed p) p.high _ (by unfold listed; rw [srt_length, flat_pgs]; omega)) ?_
      simp (maxDischargeDepth := 12) -implicitDefEqProofs only [go_sem, Nat.reduceAdd, Nat.reduceSub, Nat.reduceMul, Nat.reduceLeDiff, Nat.reduceEqDiff, Nat.reduceGT, Nat.reduceBEq, reduceCtorEq, ↓reduceIte, Int.reduceToNat, Int.reduceLE, Int.reduceLT, Int.reduceNe, Int.reduceEq]
      refine ⟨fun hr => ⟨fun i a c h0 ha hc => up1 i a c (by have := (List.getElem?_eq_some_iff.1 ha).1; omega) h0 ha hc, fun w hm => ?_, by omega, by omega, Classical.byContradiction hf, hr⟩, fun hk => hk.2.2.2.2.2⟩
      obtain ⟨i, hi⟩ := List.getElem?_of_mem hm
      exact up2 i w (by have := (List.getElem?_eq_some_iff.1 hi).1; omega) hi
end Go.Proofs.Ytkibkahknibgfaa
