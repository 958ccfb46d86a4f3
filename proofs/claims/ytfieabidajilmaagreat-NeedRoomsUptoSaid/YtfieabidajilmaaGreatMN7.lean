/-
  A tree laid on pages: what the reference computes; Whether a tree may be: what the reference computes; Whether a tree may be, whole: what the reference computes; Whether a tree may be laid, and the laid one: what the reference computes; Views laid on pages: what the reference computes. By an AI agent.
-/
import Derived.Test.YtfieabidajilmaaGreatMN6
import Derived.Test.YtfieabidajilmaaGreatMN5
namespace Go.Proofs.YtfieabidajilmaaGreat
open Aml Go
set_option linter.unusedVariables false
set_option linter.unusedSimpArgs false
set_option maxRecDepth 100000
theorem lay_put8 {d : Nat} {n : N} {q : LS} (hg : Good d n) (hla : LaidP n) (hs : (sizesN n).sum ≤ 122) (h2 : n.leaf = true ∨ 2 ≤ n.l.length) (hf : frT n ≤ q.1.length) (hr : ∀ x, x ∈ q.1 → 2 ≤ x ∧ x ≤ 999) (hp : ∀ p, p ∈ alN n → 2 ≤ p ∧ p ≤ 999) (h0 : ¬ (n.page ≠ 0 ∨ (n.leaf = true ∧ n.l = []))) : Put8 n.leaf (layCs n.leaf n.l q).1 := by
  have hn := good_nd hg
  have hz : ∀ p, p ∈ q.1 → p ≠ 0 := fun p hp => by have := hr p hp; omega
  have hlen := layCs_len n.leaf n.l q
  have e1 := layN_leaf n q
  have e2 := layN_l n q
  rw [if_neg h0] at e2
  have hne : n.l ≠ [] := fun e => by
    cases d with
    | zero => exact h0 (.inr ⟨hg.1, e⟩)
    | succ d => exact hg.2.1 e
  have := put8_ok (good_lay q hg) (lay_full hn hla hf hz) (lay_pgs hn hf hz hp hr) (by rw [lay_sizes]; exact hs) (by rw [e2]; intro e; rw [e] at hlen; exact hne (List.eq_nil_of_length_eq_zero hlen.symm)) (by rw [e1, e2, hlen]; exact h2)
  rw [e1, e2] at this
  exact this
set_option maxHeartbeats 16000000 in
theorem layR (w0 : W0) (bs lw : Nat) : ∀ (d : Nat) (n : N) (q : LS) (S : St), Good d n → LaidP n → LayI S bs lw q.1 q.2 → totN n ≤ 131072 → (sizesN n).sum ≤ 122 → (n.leaf = true ∨ 2 ≤ n.l.length) → frT n ≤ q.1.length → q.1.length ≤ 1024 → q.1.Nodup → (∀ x, x ∈ q.1 → 2 ≤ x ∧ x ≤ 999) → (∀ p, p ∈ alN n → 2 ≤ p ∧ p ≤ 999) → q.2.length + frT n ≤ 65536 →
    ACall Tryz.prog w0 134 [.v (.pointer (some ⟨bs, 0, none⟩)), eN n] S (fun e S' => e = eN (layN n q).1 ∧ S' = layS S bs lw (layN n q).2.1 (layN n q).2.2) := by
  intro d
  induction d with
  | zero =>
    intro n q S hg hla hI ht hs h2 hf hq hu hr hp hw
    have hn := good_nd hg
    have hlf := hg.1
    have hlen := tot_len n
    have hq1 := lay_put8 (q := q) hg hla hs h2 hf hr hp
    have hq2 := layN_eq n q
    have hq3 := frT_eq hn
    have hlC := layC_left hn
    have hwC := layC_wr hn
    obtain ⟨left, ws⟩ := q
    simp only at hI hf hu hr hw hq
    have hb := hI.box
    have ha := hI.acc
    have hbu := lay_self hb
    have hau := lay_self ha
    rw [hlf] at hq1 hq2 hq3 hlC hwC
    generalize layN n (left, ws) = R at *
    refine fnP [18] mx Tryz.func134 rfl rfl (by kernel_rfl) ?_; (refine @goW _ ?_; refine goS2 @Tryz.ntmps134 @hlf ?_)
    intro b b1
    have fin1 : n.page ≠ 0 ∨ (true = true ∧ n.l = []) → R = (n, (left, ws)) := fun e => by rw [hq2, if_pos e]
    have en : eN n = .agg [dI n.page, dB true, .sl 4 false (n.l.map dC)] := by unfold eN; rw [hlf]
    refine ⟨fun h0 => ?_, fun h0 => ⟨fun h1 => ?_, fun h1 => ?_⟩⟩
    · rw [fin1 (.inl h0)]
      refine ⟨_, _, .refl _, ?_, by rw [hlf], rfl⟩
      rw [lay_id hI]
      exact ⟨(List.sublist_cons_self _ _).trans (List.sublist_cons_self _ _), List.Sublist.refl _⟩
    · rw [fin1 (.inr ⟨rfl, List.eq_nil_of_length_eq_zero (by omega)⟩)]
      refine ⟨_, _, .refl _, ?_, by rw [hlf], rfl⟩
      rw [lay_id hI]
      exact ⟨(List.sublist_cons_self _ _).trans (List.sublist_cons_self _ _), List.Sublist.refl _⟩
    · have h00 : ¬ (n.page ≠ 0 ∨ true = true ∧ n.l = []) := fun e => e.elim (fun e => h0 e) fun e => h1 (by rw [e.2]; rfl)
      rw [if_neg h00] at hq2
      rw [if_neg (fun e => h00 (.inl e)), if_neg (fun e => h00 (.inr e))] at hq3
      replace hq1 := hq1 h00
      intro b2 b3
      refine awp_growB b2.n 2 4 (by omega) (ds := [dI 0, dB true, .sl 0 true []]) (by (refine @goW _ ?_; exact goT)) rfl fun lo => ?_
      (refine @goW _ ?_; refine goS ?_)
      refine awp_growB b3.n 1 5 (by omega) (ds := [dB true, .sl 0 true []]) (by (refine @goW _ ?_; exact goT)) rfl fun lm => ?_
      (refine @goW _ ?_; refine goS ?_)
      refine loopN [18] n.l.length [0, 3, 4, 5, 6, 7] (fun k => [(7, dI k)]) (fun k => ⟨(b3.n, [dB true, .acc lm.n k]) :: (b2.n, [dI 0, dB true, .acc lo.n k]) :: (b1.n, [dI 0, dB false, .sl 0 true []]) :: (b.n, [dI n.page, dB true, .sl 4 false (n.l.map dC)]) :: up S.box bs [.acc lw (layCs true (n.l.take k) (left, ws)).2.2.length, .sl 1 false ((layCs true (n.l.take k) (left, ws)).2.1.map dI)], (lm.n, .arr 5 (((layCs true (n.l.take k) (left, ws)).1.map (entE true)).map dE8)) :: (lo.n, .arr 4 ((layCs true (n.l.take k) (left, ws)).1.map dC)) :: up S.acc lw (.arr 2 ((layCs true (n.l.take k) (left, ws)).2.2.map dWr))⟩) (fun _ => True) mx (by kernel_rfl) ?_ ?_
      · simp (maxDischargeDepth := 12) (maxSteps := 1000000) -implicitDefEqProofs only [go_sem, Nat.reduceAdd, Nat.reduceSub, Nat.reduceMul, Nat.reduceLeDiff, Nat.reduceEqDiff, Nat.reduceGT, Nat.reduceBEq, reduceCtorEq, ↓reduceIte, Int.reduceToNat, Int.reduceLE, Int.reduceLT, Int.reduceNe, Int.reduceEq, hbu, hau, layCs]
      · intro k hk _
        have hlk : (layCs true (n.l.take k) (left, ws)).1.length = k := by rw [layCs_len, List.length_take]; omega
        have hdk := layCs_left (q := (left, ws)) fun c hc => hlC c (List.mem_of_mem_take (i := k) hc)
        have hwk := layCs_wr (q := (left, ws)) fun c hc => hwC c (List.mem_of_mem_take (i := k) hc)
        have htk := rfS_take true n.l k
        have hm8 : maxLen = 9223372036854775807 := rfl
        (refine @goW _ ?_; refine goS1 @hb ?_)
        refine ⟨fun hlt => ⟨hlt, fun c hc b4 => ?_⟩, fun hge => ?_⟩
        · have hs := layCs_take (b := true) hc (left, ws)
          rw [layC_leaf] at hs
          have hcm := List.mem_of_getElem? hc
          have htk1 := rfS_take true n.l (k + 1)
          have hsu := rfS_succ (b := true) hc
          have hcn := hn.2 c hcm
          have hrc : rfC true c = if c.pages = [] then need (c.data.size : Int) else 0 := rfl
          rw [hs]
          generalize layCs true (n.l.take k) (left, ws) = Pk at *
          obtain ⟨Lk, lf, wk⟩ := Pk
          simp only at hlk hdk hwk
          have hlfl : lf.length = left.length - rfS true (n.l.take k) := by rw [hdk, List.length_drop]
          have hIk : LayI (⟨(b4.n, [dS c.key, dS c.data, .sl 1 false (c.pages.map dI), .sl 3 false (c.kid.map dN)]) :: (b3.n, [dB true, .acc lm.n k]) :: (b2.n, [dI 0, dB true, .acc lo.n k]) :: (b1.n, [dI 0, dB false, .sl 0 true []]) :: (b.n, [dI n.page, dB true, .sl 4 false (n.l.map dC)]) :: up S.box bs [.acc lw wk.length, .sl 1 false (lf.map dI)], (lm.n, .arr 5 ((Lk.map (entE true)).map dE8)) :: (lo.n, .arr 4 (Lk.map dC)) :: up S.acc lw (.arr 2 (wk.map dWr))⟩ : St) bs lw lf wk := ⟨by
            have e : lk (up S.box bs [.acc lw wk.length, .sl 1 false (lf.map dI)]) bs = some [.acc lw wk.length, .sl 1 false (lf.map dI)] := by rw [lk_up_same, hb]; rfl
            (refine @goW _ ?_; exact goT2 @hb @e), by
            have e : lk (up S.acc lw (.arr 2 (wk.map dWr))) lw = some (.arr 2 (wk.map dWr)) := by rw [lk_up_same, ha]; rfl
            (refine @goW _ ?_; exact goT2 @ha @e)⟩
          have hval := value19R w0 bs lw c.data c.pages (lf, wk) _ hIk hcn.1.2.1 (by have := hcn.1.2.2; omega) (by show lf.length ≤ _; omega) (by show wk.length ≤ _; omega) (by
            by_cases e : c.pages = []
            · rw [if_pos e] at hrc
              exact .inl (by show _ ≤ lf.length; omega)
            · exact .inr e) (fun x hx => hr x (by rw [hdk] at hx; exact List.mem_of_mem_drop hx)) (by show lf.Nodup; rw [hdk]; exact hu.sublist (List.drop_sublist _ _))
          generalize layV c.data c.pages (lf, wk) = V at *
          obtain ⟨ps, l1, w1⟩ := V
          refine useK hval ?_
          rintro e S' ⟨rfl, rfl⟩
          have hcell := fun S => cell19R w0 true (.mk c.key c.data ps c.kid) S (fun e => by cases e)
          simp (maxDischargeDepth := 12) (maxSteps := 1000000) -implicitDefEqProofs only [go_sem, Nat.reduceAdd, Nat.reduceSub, Nat.reduceMul, Nat.reduceLeDiff, Nat.reduceEqDiff, Nat.reduceGT, Nat.reduceBEq, reduceCtorEq, ↓reduceIte, Int.reduceToNat, Int.reduceLE, Int.reduceLT, Int.reduceNe, Int.reduceEq, layS, hb, ha, hlk]
          refine ⟨by omega, by omega, useQ (hcell _) ?_ (by (refine @goW _ ?_; exact goT))⟩
          simp (maxDischargeDepth := 12) (maxSteps := 1000000) -implicitDefEqProofs only [go_sem, Nat.reduceAdd, Nat.reduceSub, Nat.reduceMul, Nat.reduceLeDiff, Nat.reduceEqDiff, Nat.reduceGT, Nat.reduceBEq, reduceCtorEq, ↓reduceIte, Int.reduceToNat, Int.reduceLE, Int.reduceLT, Int.reduceNe, Int.reduceEq, layS, hb, ha, hlk, List.map_append, List.map_cons, List.map_nil]
          exact ⟨by omega, by omega, hlt, i_oneV k (by omega)⟩
        · have hkl : k = n.l.length := by omega
          subst hkl
          rw [List.take_length] at hlk hdk hwk ⊢
          generalize layCs true n.l (left, ws) = Pk at *
          obtain ⟨Lk, lf, wk⟩ := Pk
          simp only at hlk hdk hwk hq1 hq2
          have hlfl : lf.length = left.length - rfS true n.l := by rw [hdk, List.length_drop]
          cases lf with
          | nil => simp only [List.length_nil] at hlfl; omega
          | cons p lr =>
            simp only [List.headD_cons, List.tail_cons] at hq2
            subst hq2
            have e1 : lk (up S.box bs [.acc lw wk.length, .sl 1 false ((p :: lr).map dI)]) bs = some [.acc lw wk.length, .sl 1 false ((p :: lr).map dI)] := by rw [lk_up_same, hb]; rfl
            have e2 : lk (up S.acc lw (.arr 2 (wk.map dWr))) lw = some (.arr 2 (wk.map dWr)) := by rw [lk_up_same, ha]; rfl
            refine useK (someR w0 bs lw (p :: lr) wk 1 _ ⟨by (refine @goW _ ?_; exact goT2 @hb @e1), by (refine @goW _ ?_; exact goT2 @ha @e2)⟩ (by simp) (by omega)) ?_
            rintro e S' ⟨rfl, rfl⟩
            simp (maxDischargeDepth := 12) (maxSteps := 1000000) -implicitDefEqProofs only [go_sem, Nat.reduceAdd, Nat.reduceSub, Nat.reduceMul, Nat.reduceLeDiff, Nat.reduceEqDiff, Nat.reduceGT, Nat.reduceBEq, reduceCtorEq, ↓reduceIte, Int.reduceToNat, Int.reduceLE, Int.reduceLT, Int.reduceNe, Int.reduceEq, layS, hb, ha, hlk, List.take_succ_cons, List.take_zero, List.drop_succ_cons, List.drop_zero, List.length_cons, List.length_nil, List.getElem?_cons_zero]
            have hput := fun S => put8R w0 true (Lk.map (entE true)) S (by rw [List.length_map]; omega) hq1.ok hq1.rise hq1.first hq1.fits hq1.many
            refine use1 (hput _) ?_
            (refine @goW _ ?_; refine goS2 @hb @ha ?_)
            have e3 : lk (up S.box bs [.acc lw wk.length, .sl 1 false (lr.map dI)]) bs = some [.acc lw wk.length, .sl 1 false (lr.map dI)] := by rw [lk_up_same, hb]; rfl
            refine useK (writeR w0 bs lw lr wk p _ _ ⟨by (refine @goW _ ?_; exact goT2 @hb @e3), by (refine @goW _ ?_; exact goT2 @ha @e2)⟩ (by omega)) ?_
            rintro e S' rfl
            simp (maxDischargeDepth := 12) (maxSteps := 1000000) -implicitDefEqProofs only [go_sem, Nat.reduceAdd, Nat.reduceSub, Nat.reduceMul, Nat.reduceLeDiff, Nat.reduceEqDiff, Nat.reduceGT, Nat.reduceBEq, reduceCtorEq, ↓reduceIte, Int.reduceToNat, Int.reduceLE, Int.reduceLT, Int.reduceNe, Int.reduceEq, layS, hb, ha]
            refine shrB b2.n 2 (l := lo.n) (s := 4) (xs := Lk.map dC) (ds := [dI p, dB true, .acc lo.n n.l.length]) (by (refine @goW _ ?_; exact goT)) (by simp [hlk]) (by (refine @goW _ ?_; exact goT)) ?_
            (refine @goW _ ?_; refine goS ?_)
            refine shrK [] [] mx (by kernel_rfl) ?_
            (refine @goW _ ?_; refine goS ?_)
            refine ⟨_, _, .refl _, ?_, rfl, rfl⟩
            have e5 : (wk ++ [(p, pageS true Lk)]).length = wk.length + 1 := List.length_append
            unfold layS
            rw [e5]
            exact ⟨((List.sublist_cons_self _ _).trans (List.sublist_cons_self _ _)).trans ((List.sublist_cons_self _ _).trans (List.sublist_cons_self _ _)), (List.sublist_cons_self _ _).trans (List.sublist_cons_self _ _)⟩
  | succ d ih =>
    intro n q S hg hla hI ht hs h2 hf hq hu hr hp hw
    have hn := good_nd hg
    have hlf := hg.1
    have hlen := tot_len n
    have hq1 := lay_put8 (q := q) hg hla hs h2 hf hr hp
    have hq2 := layN_eq n q
    have hq3 := frT_eq hn
    have hlC := layC_left hn
    have hwC := layC_wr hn
    obtain ⟨left, ws⟩ := q
    simp only at hI hf hu hr hw hq
    have hb := hI.box
    have ha := hI.acc
    have hbu := lay_self hb
    have hau := lay_self ha
    rw [hlf] at hq1 hq2 hq3 hlC hwC
    generalize layN n (left, ws) = R at *
    refine fnP [12,18] mx Tryz.func134 rfl rfl (by kernel_rfl) ?_; (refine @goW _ ?_; refine goS2 @Tryz.ntmps134 @hlf ?_)
    intro b b1
    have fin1 : n.page ≠ 0 ∨ (false = true ∧ n.l = []) → R = (n, (left, ws)) := fun e => by rw [hq2, if_pos e]
    have en : eN n = .agg [dI n.page, dB false, .sl 4 false (n.l.map dC)] := by unfold eN; rw [hlf]
    refine ⟨fun h0 => ?_, fun h0 => ?_⟩
    · rw [fin1 (.inl h0)]
      refine ⟨_, _, .refl _, ?_, by rw [hlf], rfl⟩
      rw [lay_id hI]
      exact ⟨(List.sublist_cons_self _ _).trans (List.sublist_cons_self _ _), List.Sublist.refl _⟩
    · have h00 : ¬ (n.page ≠ 0 ∨ false = true ∧ n.l = []) := fun e => e.elim (fun e => h0 e) fun e => by cases e.1
      rw [if_neg h00] at hq2
      rw [if_neg (fun e => h00 (.inl e)), if_neg (fun e => h00 (.inr e))] at hq3
      replace hq1 := hq1 h00
      intro b2 b3
      refine awp_growB b2.n 2 4 (by omega) (ds := [dI 0, dB false, .sl 0 true []]) (by (refine @goW _ ?_; exact goT)) rfl fun lo => ?_
      (refine @goW _ ?_; refine goS ?_)
      refine awp_growB b3.n 1 5 (by omega) (ds := [dB false, .sl 0 true []]) (by (refine @goW _ ?_; exact goT)) rfl fun lm => ?_
      (refine @goW _ ?_; refine goS ?_)
      refine loopN [12, 18] n.l.length [0, 3, 4, 5, 6, 7] (fun k => [(7, dI k)]) (fun k => ⟨(b3.n, [dB false, .acc lm.n k]) :: (b2.n, [dI 0, dB false, .acc lo.n k]) :: (b1.n, [dI 0, dB false, .sl 0 true []]) :: (b.n, [dI n.page, dB false, .sl 4 false (n.l.map dC)]) :: up S.box bs [.acc lw (layCs false (n.l.take k) (left, ws)).2.2.length, .sl 1 false ((layCs false (n.l.take k) (left, ws)).2.1.map dI)], (lm.n, .arr 5 (((layCs false (n.l.take k) (left, ws)).1.map (entE false)).map dE8)) :: (lo.n, .arr 4 ((layCs false (n.l.take k) (left, ws)).1.map dC)) :: up S.acc lw (.arr 2 ((layCs false (n.l.take k) (left, ws)).2.2.map dWr))⟩) (fun _ => True) mx (by kernel_rfl) ?_ ?_
      · simp (maxDischargeDepth := 12) (maxSteps := 1000000) -implicitDefEqProofs only [go_sem, Nat.reduceAdd, Nat.reduceSub, Nat.reduceMul, Nat.reduceLeDiff, Nat.reduceEqDiff, Nat.reduceGT, Nat.reduceBEq, reduceCtorEq, ↓reduceIte, Int.reduceToNat, Int.reduceLE, Int.reduceLT, Int.reduceNe, Int.reduceEq, hbu, hau, layCs]
      · intro k hk _
        have hlk : (layCs false (n.l.take k) (left, ws)).1.length = k := by rw [layCs_len, List.length_take]; omega
        have hdk := layCs_left (q := (left, ws)) fun c hc => hlC c (List.mem_of_mem_take (i := k) hc)
        have hwk := layCs_wr (q := (left, ws)) fun c hc => hwC c (List.mem_of_mem_take (i := k) hc)
        have htk := rfS_take false n.l k
        have hm8 : maxLen = 9223372036854775807 := rfl
        (refine @goW _ ?_; refine goS1 @hb ?_)
        refine ⟨fun hlt => ⟨hlt, fun c hc b4 => ?_⟩, fun hge => ?_⟩
        · have hs := layCs_take (b := false) hc (left, ws)
          obtain ⟨hsh, _, kid, hkid, hkg, hkf⟩ := hg.2.2.cell c (List.mem_of_getElem? hc)
          have hnd := good_nd hkg
          have htk2 := tot_kid (List.mem_of_getElem? hc) hkid
          rw [layC_br hkid] at hs
          have hcm := List.mem_of_getElem? hc
          have htk1 := rfS_take false n.l (k + 1)
          have hsu := rfS_succ (b := false) hc
          have hrc : rfC false c = frT kid := by rw [← kid0_eq hkid]; rfl
          rw [hs]
          generalize layCs false (n.l.take k) (left, ws) = Pk at *
          obtain ⟨Lk, lf, wk⟩ := Pk
          simp only at hlk hdk hwk
          have hlfl : lf.length = left.length - rfS false (n.l.take k) := by rw [hdk, List.length_drop]
          have hIk : LayI (⟨(b4.n, [dS c.key, dS c.data, .sl 1 false (c.pages.map dI), .sl 3 false (c.kid.map dN)]) :: (b3.n, [dB false, .acc lm.n k]) :: (b2.n, [dI 0, dB false, .acc lo.n k]) :: (b1.n, [dI 0, dB false, .sl 0 true []]) :: (b.n, [dI n.page, dB false, .sl 4 false (n.l.map dC)]) :: up S.box bs [.acc lw wk.length, .sl 1 false (lf.map dI)], (lm.n, .arr 5 ((Lk.map (entE false)).map dE8)) :: (lo.n, .arr 4 (Lk.map dC)) :: up S.acc lw (.arr 2 (wk.map dWr))⟩ : St) bs lw lf wk := ⟨by
            have e : lk (up S.box bs [.acc lw wk.length, .sl 1 false (lf.map dI)]) bs = some [.acc lw wk.length, .sl 1 false (lf.map dI)] := by rw [lk_up_same, hb]; rfl
            (refine @goW _ ?_; exact goT2 @hb @e), by
            have e : lk (up S.acc lw (.arr 2 (wk.map dWr))) lw = some (.arr 2 (wk.map dWr)) := by rw [lk_up_same, ha]; rfl
            (refine @goW _ ?_; exact goT2 @ha @e)⟩
          have hal : ∀ p, p ∈ alN kid → p ∈ alN n := fun p hp => by
            rw [alN_eq n, hlf]
            exact List.mem_append_right _ (List.mem_flatMap.2 ⟨c, hcm, by rw [alC_br hkid]; exact List.mem_append_right _ hp⟩)
          have hkl2 : kid.leaf = true ∨ 2 ≤ kid.l.length := by
            cases d with
            | zero => exact .inl hkg.1
            | succ d =>
              refine .inr ?_
              have h30 := hkf.1
              have hsz := good_sizes hkg
              unfold sizesN at h30 hsz
              match hm : kid.l with
              | [] => rw [hm] at h30; simp at h30
              | [x] =>
                rw [hm] at h30 hsz
                have := hsz _ (List.mem_map_of_mem List.mem_cons_self)
                simp only [List.map_cons, List.map_nil, List.sum_cons, List.sum_nil] at h30 this
                rw [if_neg (by omega)] at this
                omega
              | x :: y :: r => simp
          have hval := ih kid (lf, wk) _ hkg (by
            cases hla with | mk _ _ _ h3 => exact h3 hlf c hcm kid hkid) hIk (by omega) hkf.2 hkl2 (by show _ ≤ lf.length; omega) (by show lf.length ≤ _; omega) (by show lf.Nodup; rw [hdk]; exact hu.sublist (List.drop_sublist _ _)) (fun x hx => hr x (by rw [hdk] at hx; exact List.mem_of_mem_drop hx)) (fun p hp' => hp p (hal p hp')) (by show wk.length + _ ≤ _; omega)
          generalize layN kid (lf, wk) = V at *
          obtain ⟨kd, l1, w1⟩ := V
          rw [hkid] at hIk hval ⊢
          simp only [List.map_cons, List.map_nil, dN_eq] at hIk hval
          (refine @goW _ ?_; refine goS ?_)
          refine useK hval ?_
          rintro e S' ⟨rfl, rfl⟩
          have hcell := fun S => cell19R w0 false (.mk c.key c.data c.pages [kd]) S (fun e => ⟨kd, rfl⟩)
          simp (maxDischargeDepth := 12) (maxSteps := 1000000) -implicitDefEqProofs only [go_sem, Nat.reduceAdd, Nat.reduceSub, Nat.reduceMul, Nat.reduceLeDiff, Nat.reduceEqDiff, Nat.reduceGT, Nat.reduceBEq, reduceCtorEq, ↓reduceIte, Int.reduceToNat, Int.reduceLE, Int.reduceLT, Int.reduceNe, Int.reduceEq, layS, hb, ha, hlk]
          refine wkBoxK b4.n [dS c.key, dS c.data, .sl 1 false (c.pages.map dI), .sl 3 false [dN kd]] (ds := [dS c.key, dS c.data, .sl 1 false (c.pages.map dI), .sl 3 true [eN kd]]) (by (refine @goW _ ?_; exact goT)) (by rw [dN_eq]; exact .cons (.refl _) (.cons (.refl _) (.cons (.refl _) (.cons (.full _ _ _) .nil)))) ?_
          (refine @goW _ ?_; refine goS ?_)
          refine shrK [18] [] mx (by kernel_rfl) ?_
          simp (maxDischargeDepth := 12) (maxSteps := 1000000) -implicitDefEqProofs only [go_sem, Nat.reduceAdd, Nat.reduceSub, Nat.reduceMul, Nat.reduceLeDiff, Nat.reduceEqDiff, Nat.reduceGT, Nat.reduceBEq, reduceCtorEq, ↓reduceIte, Int.reduceToNat, Int.reduceLE, Int.reduceLT, Int.reduceNe, Int.reduceEq, layS, hb, ha, hlk]
          refine ⟨by omega, by omega, useQ (hcell _) ?_ (by (refine @goW _ ?_; exact goT))⟩
          simp (maxDischargeDepth := 12) (maxSteps := 1000000) -implicitDefEqProofs only [go_sem, Nat.reduceAdd, Nat.reduceSub, Nat.reduceMul, Nat.reduceLeDiff, Nat.reduceEqDiff, Nat.reduceGT, Nat.reduceBEq, reduceCtorEq, ↓reduceIte, Int.reduceToNat, Int.reduceLE, Int.reduceLT, Int.reduceNe, Int.reduceEq, layS, hb, ha, hlk, List.map_append, List.map_cons, List.map_nil]
          exact ⟨by omega, by omega, hlt, i_oneV k (by omega)⟩
        · have hkl : k = n.l.length := by omega
          subst hkl
          rw [List.take_length] at hlk hdk hwk ⊢
          generalize layCs false n.l (left, ws) = Pk at *
          obtain ⟨Lk, lf, wk⟩ := Pk
          simp only at hlk hdk hwk hq1 hq2
          have hlfl : lf.length = left.length - rfS false n.l := by rw [hdk, List.length_drop]
          cases lf with
          | nil => simp only [List.length_nil] at hlfl; omega
          | cons p lr =>
            simp only [List.headD_cons, List.tail_cons] at hq2
            subst hq2
            have e1 : lk (up S.box bs [.acc lw wk.length, .sl 1 false ((p :: lr).map dI)]) bs = some [.acc lw wk.length, .sl 1 false ((p :: lr).map dI)] := by rw [lk_up_same, hb]; rfl
            have e2 : lk (up S.acc lw (.arr 2 (wk.map dWr))) lw = some (.arr 2 (wk.map dWr)) := by rw [lk_up_same, ha]; rfl
            refine useK (someR w0 bs lw (p :: lr) wk 1 _ ⟨by (refine @goW _ ?_; exact goT2 @hb @e1), by (refine @goW _ ?_; exact goT2 @ha @e2)⟩ (by simp) (by omega)) ?_
            rintro e S' ⟨rfl, rfl⟩
            simp (maxDischargeDepth := 12) (maxSteps := 1000000) -implicitDefEqProofs only [go_sem, Nat.reduceAdd, Nat.reduceSub, Nat.reduceMul, Nat.reduceLeDiff, Nat.reduceEqDiff, Nat.reduceGT, Nat.reduceBEq, reduceCtorEq, ↓reduceIte, Int.reduceToNat, Int.reduceLE, Int.reduceLT, Int.reduceNe, Int.reduceEq, layS, hb, ha, hlk, List.take_succ_cons, List.take_zero, List.drop_succ_cons, List.drop_zero, List.length_cons, List.length_nil, List.getElem?_cons_zero]
            have hput := fun S => put8R w0 false (Lk.map (entE false)) S (by rw [List.length_map]; omega) hq1.ok hq1.rise hq1.first hq1.fits hq1.many
            refine use1 (hput _) ?_
            (refine @goW _ ?_; refine goS2 @hb @ha ?_)
            have e3 : lk (up S.box bs [.acc lw wk.length, .sl 1 false (lr.map dI)]) bs = some [.acc lw wk.length, .sl 1 false (lr.map dI)] := by rw [lk_up_same, hb]; rfl
            refine useK (writeR w0 bs lw lr wk p _ _ ⟨by (refine @goW _ ?_; exact goT2 @hb @e3), by (refine @goW _ ?_; exact goT2 @ha @e2)⟩ (by omega)) ?_
            rintro e S' rfl
            simp (maxDischargeDepth := 12) (maxSteps := 1000000) -implicitDefEqProofs only [go_sem, Nat.reduceAdd, Nat.reduceSub, Nat.reduceMul, Nat.reduceLeDiff, Nat.reduceEqDiff, Nat.reduceGT, Nat.reduceBEq, reduceCtorEq, ↓reduceIte, Int.reduceToNat, Int.reduceLE, Int.reduceLT, Int.reduceNe, Int.reduceEq, layS, hb, ha]
            refine shrB b2.n 2 (l := lo.n) (s := 4) (xs := Lk.map dC) (ds := [dI p, dB false, .acc lo.n n.l.length]) (by (refine @goW _ ?_; exact goT)) (by simp [hlk]) (by (refine @goW _ ?_; exact goT)) ?_
            (refine @goW _ ?_; refine goS ?_)
            refine shrK [] [] mx (by kernel_rfl) ?_
            (refine @goW _ ?_; refine goS ?_)
            refine ⟨_, _, .refl _, ?_, rfl, rfl⟩
            have e5 : (wk ++ [(p, pageS false Lk)]).length = wk.length + 1 := List.length_append
            unfold layS
            rw [e5]
            exact ⟨((List.sublist_cons_self _ _).trans (List.sublist_cons_self _ _)).trans ((List.sublist_cons_self _ _).trans (List.sublist_cons_self _ _)), (List.sublist_cons_self _ _).trans (List.sublist_cons_self _ _)⟩
end Go.Proofs.YtfieabidajilmaaGreat

namespace Go.Proofs.YtfieabidajilmaaGreat
open Aml Go
set_option linter.unusedVariables false
set_option linter.unusedSimpArgs false
set_option maxRecDepth 100000
set_option maxHeartbeats 16000000 in
theorem rNode (w0 : W0) : ∀ (d : Nat) (n : N) (lo hi : ByteArray) (r : Bool) (S : St), Good d n → totN n ≤ 131072 → d ≤ 100000 → (sizesN n).sum ≤ 122 → (r = true ∨ 30 ≤ (sizesN n).sum) → n.l ≠ [] → (n.leaf = true ∨ 2 ≤ n.l.length) → (∀ x, x ∈ enN n → leS lo x.key = true) → (hi ≠ noS → ∀ x, x ∈ enN n → ltS x.key hi = true) →
    ACall Tryz.prog w0 174 [eN n, dS lo, dS hi, dB r] S (fun e S' => e = dI d ∧ S' = S) := by
  intro d
  induction d with
  | zero =>
    intro n lo hi r S hg ht hd hsum hr hne h2 hlo hhi
    have hn := good_nd hg
    have hlen := tot_len n
    have hlf := hg.1
    have hsm := nd_sm hn
    have hk := fitK_good hg hlo hhi
    rw [hlf] at hk
    have hv := okV_good hg
    have hsz := fun S => sizesW w0 n S hsm (by omega)
    have hbd := sizes_bd n hsm (by omega)
    have hpos := List.length_pos_iff.2 hne
    have hlow : r = false → lowR (sizesN n) = false := fun e => decide_eq_false (by rcases hr with h | h; · rw [e] at h; cases h
                                                                                    · omega)
    have hen : eN n = .agg [dI n.page, dB true, .sl 4 false (n.l.map dC)] := by unfold eN; rw [hlf]
    rw [hen] at hsz ⊢
    refine fnS [2,9,10] mx Tryz.func174 rfl rfl (by kernel_rfl) ?_; (refine @goW _ ?_; refine goS1 @Tryz.ntmps174 ?_)
    intro b
    refine use1 (hsz _) ?_
    (refine @goW _ ?_; refine goS ?_)
    refine cutK (σ := Unit) [9, 10] [1, 2, 3, 4, 9, 46] (fun _ => [(46, dB false)]) (fun _ => ⟨(b.n, [dI n.page, dB true, .sl 4 false (n.l.map dC)]) :: S.box, S.acc⟩) (fun _ => True) mx (by kernel_rfl) ?_ ?_
    · (refine @goW _ ?_; refine goS ?_)
      refine ⟨fun h => absurd h (by omega), fun _ => use1 (sumR w0 _ _ hbd) ?_⟩
      (refine @goW _ ?_; refine goS ?_)
      refine ⟨fun h => absurd h (by omega), fun _ => ⟨fun hrf => use1 (lowW w0 _ _ hbd) ?_, fun hrt => ?_⟩⟩
      · rw [hlow hrf]
        (refine @goW _ ?_; refine goS ?_)
        exact ⟨(), trivial⟩
      · exact ⟨(), trivial⟩
    · intro _ _
      (refine @goW _ ?_; refine goS ?_)
      refine loopN [9, 10] n.l.length [1, 2, 4, 10, 11] (fun k => [(10, dI 0), (11, dI k)]) (fun k => ⟨(b.n, [dI n.page, dB true, .sl 4 false (n.l.map dC)]) :: S.box, S.acc⟩) (fun _ => True) mx (by kernel_rfl) ?_ ?_
      · (refine @goW _ ?_; exact goT)
      · intro k hk' _
        (refine @goW _ ?_; refine goS ?_)
        refine fun hlt => ⟨hlt, fun a ha b2 => ?_⟩
        have hm := List.mem_of_getElem? ha
        have f1 : eqS a.key { data := #[] } = false := eqS_no.2 fun e => (by have := ((hk.first k a ha).1 e).2; cases this)
        have f2 : ((a.key.size : Int) > 16) = False := eq_false (by have := hk.size a hm; omega)
        have f3 : ltS a.key lo = false := leS_iff.1 (hk.low k a ha fun e => by cases e.2)
        have f4 : eqS hi { data := #[] } = false → ltS a.key hi = false → False := fun e h => by rw [hk.high (eqS_no.1 e) a hm] at h; cases h
        have f5 := i_oneV k (by omega)
        have f6 : ((a.data.size : Int) > 400) = False := eq_false (by have h1 : a.data.size ≤ 400 := (hv a hm).1; omega)
        have f7 : a.kid = [] := (hn.2 a hm).2
        have f8 : ((a.pages.length : Int) > 0) → need (a.data.size : Int) ≠ 0 := fun h => by
          have h1 : a.pages ≠ [] := fun e => by rw [e] at h; simp at h
          have := (hv a hm).2 h1
          have h2 : a.data.size ≤ 400 := (hv a hm).1
          unfold need; rw [if_pos (by omega)]; omega
        refine cutK (σ := Unit) [10] [1, 2, 4, 10, 11, 12, 13] (fun _ => [(13, dB false)]) (fun _ => ⟨(b2.n, [dS a.key, dS a.data, .sl 1 false (a.pages.map dI), .sl 3 false []]) :: (b.n, [dI n.page, dB true, .sl 4 false (n.l.map dC)]) :: S.box, S.acc⟩) (fun _ => True) mx (by kernel_rfl) ?_ ?_
        · (refine @goW _ ?_; refine goS1 @f7 ?_)
          exact ⟨fun _ => ⟨(), trivial⟩, fun _ => ⟨(), trivial⟩⟩
        · intro _ _
          (refine @goW _ ?_; refine goS ?_)
          refine cutK (σ := Unit) [] [1, 2, 4, 10, 11, 12, 13, 143] (fun _ => [(143, dB false)]) (fun _ => ⟨(b2.n, [dS a.key, dS a.data, .sl 1 false (a.pages.map dI), .sl 3 false []]) :: (b.n, [dI n.page, dB true, .sl 4 false (n.l.map dC)]) :: S.box, S.acc⟩) (fun _ => True) mx (by kernel_rfl) ?_ ?_
          · rcases Nat.eq_zero_or_pos k with h0 | h0 <;> cases he : eqS hi { data := #[] } <;> rcases Nat.eq_zero_or_pos a.pages.length with hp | hp
            · have z2 : ((k : Int) > 0) = False := eq_false (by omega)
              have h9 : ltS a.key hi = true := hk.high (eqS_no.1 he) a hm
              have p1 : ((a.pages.length : Int) > 0) = False := eq_false (by omega)
              simp (maxDischargeDepth := 12) (maxSteps := 1000000) -implicitDefEqProofs only [go_sem, Nat.reduceAdd, Nat.reduceSub, Nat.reduceMul, Nat.reduceLeDiff, Nat.reduceEqDiff, Nat.reduceGT, Nat.reduceBEq, reduceCtorEq, ↓reduceIte, Int.reduceToNat, Int.reduceLE, Int.reduceLT, Int.reduceNe, Int.reduceEq, f1, f2, f3, f5, f6, p1, he, hlt, z2, h9]
              exact ⟨(), trivial⟩
            · have z2 : ((k : Int) > 0) = False := eq_false (by omega)
              have h9 : ltS a.key hi = true := hk.high (eqS_no.1 he) a hm
              have p1 : ((a.pages.length : Int) > 0) = True := eq_true (by omega)
              simp (maxDischargeDepth := 12) (maxSteps := 1000000) -implicitDefEqProofs only [go_sem, Nat.reduceAdd, Nat.reduceSub, Nat.reduceMul, Nat.reduceLeDiff, Nat.reduceEqDiff, Nat.reduceGT, Nat.reduceBEq, reduceCtorEq, ↓reduceIte, Int.reduceToNat, Int.reduceLE, Int.reduceLT, Int.reduceNe, Int.reduceEq, f1, f2, f3, f5, f6, p1, he, hlt, z2, h9]
              refine useQ (needR w0 _ _) ?_
              (refine @goW _ ?_; refine goS ?_)
              exact ⟨fun h => absurd h (by have := f8 (by omega); omega), fun _ => ⟨(), trivial⟩⟩
            · have z2 : ((k : Int) > 0) = False := eq_false (by omega)
              have p1 : ((a.pages.length : Int) > 0) = False := eq_false (by omega)
              simp (maxDischargeDepth := 12) (maxSteps := 1000000) -implicitDefEqProofs only [go_sem, Nat.reduceAdd, Nat.reduceSub, Nat.reduceMul, Nat.reduceLeDiff, Nat.reduceEqDiff, Nat.reduceGT, Nat.reduceBEq, reduceCtorEq, ↓reduceIte, Int.reduceToNat, Int.reduceLE, Int.reduceLT, Int.reduceNe, Int.reduceEq, f1, f2, f3, f5, f6, p1, he, hlt, z2]
              exact ⟨(), trivial⟩
            · have z2 : ((k : Int) > 0) = False := eq_false (by omega)
              have p1 : ((a.pages.length : Int) > 0) = True := eq_true (by omega)
              simp (maxDischargeDepth := 12) (maxSteps := 1000000) -implicitDefEqProofs only [go_sem, Nat.reduceAdd, Nat.reduceSub, Nat.reduceMul, Nat.reduceLeDiff, Nat.reduceEqDiff, Nat.reduceGT, Nat.reduceBEq, reduceCtorEq, ↓reduceIte, Int.reduceToNat, Int.reduceLE, Int.reduceLT, Int.reduceNe, Int.reduceEq, f1, f2, f3, f5, f6, p1, he, hlt, z2]
              refine useQ (needR w0 _ _) ?_
              (refine @goW _ ?_; refine goS ?_)
              exact ⟨fun h => absurd h (by have := f8 (by omega); omega), fun _ => ⟨(), trivial⟩⟩
            · have z2 : ((k : Int) > 0) = True := eq_true (by omega)
              have z3 : IntKind.i64.wrap ((k : Int) - 1) = ((k - 1 : Nat) : Int) := by rw [w64 (by omega) (by omega)]; omega
              obtain ⟨c0, hc0⟩ : ∃ c0, n.l[k - 1]? = some c0 := ⟨_, List.getElem?_eq_getElem (by omega)⟩
              have z4 : leS a.key c0.key = false := leS_no.2 (rise_at hk.rise (i := k - 1) (j := k) (by omega) hc0 ha)
              have h9 : ltS a.key hi = true := hk.high (eqS_no.1 he) a hm
              have p1 : ((a.pages.length : Int) > 0) = False := eq_false (by omega)
              simp (maxDischargeDepth := 12) (maxSteps := 1000000) -implicitDefEqProofs only [go_sem, Nat.reduceAdd, Nat.reduceSub, Nat.reduceMul, Nat.reduceLeDiff, Nat.reduceEqDiff, Nat.reduceGT, Nat.reduceBEq, reduceCtorEq, ↓reduceIte, Int.reduceToNat, Int.reduceLE, Int.reduceLT, Int.reduceNe, Int.reduceEq, f1, f2, f3, f5, f6, p1, he, hlt, z2, z3, h9]
              refine ⟨by omega, fun c1 hc1 => ?_⟩
              cases getE hc0 hc1
              exact ⟨fun h => (by rw [z4] at h; cases h), fun _ => ⟨(), trivial⟩⟩
            · have z2 : ((k : Int) > 0) = True := eq_true (by omega)
              have z3 : IntKind.i64.wrap ((k : Int) - 1) = ((k - 1 : Nat) : Int) := by rw [w64 (by omega) (by omega)]; omega
              obtain ⟨c0, hc0⟩ : ∃ c0, n.l[k - 1]? = some c0 := ⟨_, List.getElem?_eq_getElem (by omega)⟩
              have z4 : leS a.key c0.key = false := leS_no.2 (rise_at hk.rise (i := k - 1) (j := k) (by omega) hc0 ha)
              have h9 : ltS a.key hi = true := hk.high (eqS_no.1 he) a hm
              have p1 : ((a.pages.length : Int) > 0) = True := eq_true (by omega)
              simp (maxDischargeDepth := 12) (maxSteps := 1000000) -implicitDefEqProofs only [go_sem, Nat.reduceAdd, Nat.reduceSub, Nat.reduceMul, Nat.reduceLeDiff, Nat.reduceEqDiff, Nat.reduceGT, Nat.reduceBEq, reduceCtorEq, ↓reduceIte, Int.reduceToNat, Int.reduceLE, Int.reduceLT, Int.reduceNe, Int.reduceEq, f1, f2, f3, f5, f6, p1, he, hlt, z2, z3, h9]
              refine ⟨by omega, fun c1 hc1 => ?_⟩
              cases getE hc0 hc1
              refine ⟨fun h => (by rw [z4] at h; cases h), fun _ => useQ (needR w0 _ _) ?_⟩
              (refine @goW _ ?_; refine goS ?_)
              exact ⟨fun h => absurd h (by have := f8 (by omega); omega), fun _ => ⟨(), trivial⟩⟩
            · have z2 : ((k : Int) > 0) = True := eq_true (by omega)
              have z3 : IntKind.i64.wrap ((k : Int) - 1) = ((k - 1 : Nat) : Int) := by rw [w64 (by omega) (by omega)]; omega
              obtain ⟨c0, hc0⟩ : ∃ c0, n.l[k - 1]? = some c0 := ⟨_, List.getElem?_eq_getElem (by omega)⟩
              have z4 : leS a.key c0.key = false := leS_no.2 (rise_at hk.rise (i := k - 1) (j := k) (by omega) hc0 ha)
              have p1 : ((a.pages.length : Int) > 0) = False := eq_false (by omega)
              simp (maxDischargeDepth := 12) (maxSteps := 1000000) -implicitDefEqProofs only [go_sem, Nat.reduceAdd, Nat.reduceSub, Nat.reduceMul, Nat.reduceLeDiff, Nat.reduceEqDiff, Nat.reduceGT, Nat.reduceBEq, reduceCtorEq, ↓reduceIte, Int.reduceToNat, Int.reduceLE, Int.reduceLT, Int.reduceNe, Int.reduceEq, f1, f2, f3, f5, f6, p1, he, hlt, z2, z3]
              refine ⟨by omega, fun c1 hc1 => ?_⟩
              cases getE hc0 hc1
              exact ⟨fun h => (by rw [z4] at h; cases h), fun _ => ⟨(), trivial⟩⟩
            · have z2 : ((k : Int) > 0) = True := eq_true (by omega)
              have z3 : IntKind.i64.wrap ((k : Int) - 1) = ((k - 1 : Nat) : Int) := by rw [w64 (by omega) (by omega)]; omega
              obtain ⟨c0, hc0⟩ : ∃ c0, n.l[k - 1]? = some c0 := ⟨_, List.getElem?_eq_getElem (by omega)⟩
              have z4 : leS a.key c0.key = false := leS_no.2 (rise_at hk.rise (i := k - 1) (j := k) (by omega) hc0 ha)
              have p1 : ((a.pages.length : Int) > 0) = True := eq_true (by omega)
              simp (maxDischargeDepth := 12) (maxSteps := 1000000) -implicitDefEqProofs only [go_sem, Nat.reduceAdd, Nat.reduceSub, Nat.reduceMul, Nat.reduceLeDiff, Nat.reduceEqDiff, Nat.reduceGT, Nat.reduceBEq, reduceCtorEq, ↓reduceIte, Int.reduceToNat, Int.reduceLE, Int.reduceLT, Int.reduceNe, Int.reduceEq, f1, f2, f3, f5, f6, p1, he, hlt, z2, z3]
              refine ⟨by omega, fun c1 hc1 => ?_⟩
              cases getE hc0 hc1
              refine ⟨fun h => (by rw [z4] at h; cases h), fun _ => useQ (needR w0 _ _) ?_⟩
              (refine @goW _ ?_; refine goS ?_)
              exact ⟨fun h => absurd h (by have := f8 (by omega); omega), fun _ => ⟨(), trivial⟩⟩
          · intro _ _
            (refine @goW _ ?_; refine goS ?_)
            exact ⟨hlt, f5⟩
  | succ d ih =>
    intro n lo hi r S hg ht hd hsum hr hne h2 hlo hhi
    have hn := good_nd hg
    have hlen := tot_len n
    have hlf := hg.1
    have hsm := nd_sm hn
    have hk := fitK_good hg hlo hhi
    rw [hlf] at hk
    have hsz := fun S => sizesW w0 n S hsm (by omega)
    have hbd := sizes_bd n hsm (by omega)
    have hpos := h2.resolve_left (by rw [hlf]; simp)
    have hlow : r = false → lowR (sizesN n) = false := fun e => decide_eq_false (by rcases hr with h | h; · rw [e] at h; cases h
                                                                                    · omega)
    have hen : eN n = .agg [dI n.page, dB false, .sl 4 false (n.l.map dC)] := by unfold eN; rw [hlf]
    rw [hen] at hsz ⊢
    have hB := hg.2.2
    have hkid : ∀ (k : Nat) c kd, n.l[k]? = some c → c.kid = [kd] → ∀ lo' hi', (if k = 0 then lo' = lo else lo' = c.key) → (match n.l[k + 1]? with
        | some c' => hi' = c'.key
        | none => hi' = hi) → ∀ T, ACall Tryz.prog w0 174 [eN kd, dS lo', dS hi', dB false] T (fun e S' => e = dI d ∧ S' = T) := by
      intro k c kd hc hkid lo' hi' hl' hh' T
      have hcm := List.mem_of_getElem? hc
      obtain ⟨s1, s2, kd2, hkid2, hkg, hkf⟩ := hB.cell c hcm
      rw [hkid] at hkid2; cases hkid2
      have htk := tot_kid hcm hkid
      have hin : ∀ x, x ∈ enN kd → x ∈ enN n := fun x hx => by rw [enN_eq, hlf]; exact List.mem_flatMap.2 ⟨c, hcm, by rw [enC_br hkid]; exact hx⟩
      refine ih kd lo' hi' false T hkg (by omega) (by omega) hkf.2 (.inr hkf.1) (fits_ne hkf) (fits_two hkg hkf) (fun x hx => ?_) fun hne' x hx => ?_
      · split at hl'
        · rw [hl']; exact hlo x (hin x hx)
        · rw [hl']; exact s2 x (by rw [enC_br hkid]; exact hx)
      · split at hh'
        · rename_i c' hc'
          obtain ⟨q1, rfl⟩ := List.getElem?_eq_some_iff.1 hc
          obtain ⟨q2, rfl⟩ := List.getElem?_eq_some_iff.1 hc'
          rw [hh']
          exact (List.pairwise_iff_getElem.1 hB.pw k (k + 1) q1 q2 (by omega)).2 x (by rw [enC_br hkid]; exact hx)
        · rw [hh'] at hne' ⊢; exact hhi hne' x (hin x hx)
    refine fnS [2,9,10] mx Tryz.func174 rfl rfl (by kernel_rfl) ?_; (refine @goW _ ?_; refine goS1 @Tryz.ntmps174 ?_)
    intro b
    refine use1 (hsz _) ?_
    (refine @goW _ ?_; refine goS ?_)
    refine cutK (σ := Unit) [9, 10] [1, 2, 3, 4, 9, 46] (fun _ => [(46, dB false)]) (fun _ => ⟨(b.n, [dI n.page, dB false, .sl 4 false (n.l.map dC)]) :: S.box, S.acc⟩) (fun _ => True) mx (by kernel_rfl) ?_ ?_
    · (refine @goW _ ?_; refine goS ?_)
      refine ⟨fun h => absurd h (by omega), fun _ => ⟨fun h => absurd h (by omega), fun _ => use1 (sumR w0 _ _ hbd) ?_⟩⟩
      (refine @goW _ ?_; refine goS ?_)
      refine ⟨fun h => absurd h (by omega), fun _ => ⟨fun hrf => use1 (lowW w0 _ _ hbd) ?_, fun hrt => ?_⟩⟩
      · rw [hlow hrf]
        (refine @goW _ ?_; refine goS ?_)
        exact ⟨(), trivial⟩
      · exact ⟨(), trivial⟩
    · intro _ _
      (refine @goW _ ?_; refine goS ?_)
      refine loopN [9, 10] n.l.length [1, 2, 4, 10, 11] (fun k => [(10, dI (if k = 0 then 0 else (d + 1 : Nat))), (11, dI k)]) (fun k => ⟨(b.n, [dI n.page, dB false, .sl 4 false (n.l.map dC)]) :: S.box, S.acc⟩) (fun _ => True) mx (by kernel_rfl) ?_ ?_
      · (refine @goW _ ?_; exact goT)
      · intro k hk' _
        (refine @goW _ ?_; refine goS ?_)
        refine ⟨fun hlt => ⟨hlt, fun a ha b2 => ?_⟩, fun hge => if_neg (by omega)⟩
        have hm := List.mem_of_getElem? ha
        obtain ⟨⟨s1, s2, s3⟩, -, kd, hkd, hkg, -⟩ := hB.cell a hm
        have hK := hkid k a kd ha hkd
        have f2 : ((a.key.size : Int) > 16) = False := eq_false (by have := hk.size a hm; omega)
        have f5 := i_oneV k (by omega)
        have f6 : (((noS.size : Nat) : Int) > 400) = False := eq_false (by rw [noS_size]; omega)
        rw [hkd, s2, s3]
        have p0 : ((0 : Int) > 0) = False := eq_false (by omega)
        refine cutK (σ := Unit) [10] [1, 2, 4, 10, 11, 12, 13] (fun _ => [(13, dB (decide (k = 0)))]) (fun _ => ⟨(b2.n, [dS a.key, dS noS, .sl 1 false [], .sl 3 false [eN kd]]) :: (b.n, [dI n.page, dB false, .sl 4 false (n.l.map dC)]) :: S.box, S.acc⟩) (fun _ => True) mx (by kernel_rfl) ?_ ?_
        · (refine @goW _ ?_; refine goS ?_)
          exact ⟨fun h => ⟨(), by omega⟩, fun h => ⟨(), by omega⟩⟩
        · intro _ _
          (refine @goW _ ?_; refine goS ?_)
          refine cutK (σ := Unit) [] [1, 2, 4, 10, 11, 12, 13, 143] (fun _ => [(143, dB false)]) (fun _ => ⟨(b2.n, [dS a.key, dS noS, .sl 1 false [], .sl 3 false [eN kd]]) :: (b.n, [dI n.page, dB false, .sl 4 false (n.l.map dC)]) :: S.box, S.acc⟩) (fun _ => True) mx (by kernel_rfl) ?_ ?_
          · rcases Nat.eq_zero_or_pos k with h0 | h0 <;> cases he : eqS hi { data := #[] }
            · have z2 : ((k : Int) > 0) = False := eq_false (by omega)
              have z5 : decide (k = 0) = true := decide_eq_true h0
              have f1 : eqS a.key { data := #[] } = true := eqS_iff.2 ((hk.first k a ha).2 ⟨h0, rfl⟩)
              have h9 : ltS a.key hi = true := hk.high (eqS_no.1 he) a hm
              simp (maxDischargeDepth := 12) (maxSteps := 1000000) -implicitDefEqProofs only [go_sem, Nat.reduceAdd, Nat.reduceSub, Nat.reduceMul, Nat.reduceLeDiff, Nat.reduceEqDiff, Nat.reduceGT, Nat.reduceBEq, reduceCtorEq, ↓reduceIte, Int.reduceToNat, Int.reduceLE, Int.reduceLT, Int.reduceNe, Int.reduceEq, f2, f5, f6, p0, he, hlt, z2, z5, f1, h9]
              exact ⟨(), trivial⟩
            · have z2 : ((k : Int) > 0) = False := eq_false (by omega)
              have z5 : decide (k = 0) = true := decide_eq_true h0
              have f1 : eqS a.key { data := #[] } = true := eqS_iff.2 ((hk.first k a ha).2 ⟨h0, rfl⟩)
              simp (maxDischargeDepth := 12) (maxSteps := 1000000) -implicitDefEqProofs only [go_sem, Nat.reduceAdd, Nat.reduceSub, Nat.reduceMul, Nat.reduceLeDiff, Nat.reduceEqDiff, Nat.reduceGT, Nat.reduceBEq, reduceCtorEq, ↓reduceIte, Int.reduceToNat, Int.reduceLE, Int.reduceLT, Int.reduceNe, Int.reduceEq, f2, f5, f6, p0, he, hlt, z2, z5, f1]
              exact ⟨(), trivial⟩
            · have z2 : ((k : Int) > 0) = True := eq_true (by omega)
              have z5 : decide (k = 0) = false := decide_eq_false (by omega)
              have f1 : eqS a.key { data := #[] } = false := eqS_no.2 fun e => absurd ((hk.first k a ha).1 e).1 (by omega)
              have f3 : ltS a.key lo = false := leS_iff.1 (hk.low k a ha fun e => absurd e.1 (by omega))
              have z3 : IntKind.i64.wrap ((k : Int) - 1) = ((k - 1 : Nat) : Int) := by rw [w64 (by omega) (by omega)]; omega
              obtain ⟨c0, hc0⟩ : ∃ c0, n.l[k - 1]? = some c0 := ⟨_, List.getElem?_eq_getElem (by omega)⟩
              have z4 : leS a.key c0.key = false := leS_no.2 (rise_at hk.rise (i := k - 1) (j := k) (by omega) hc0 ha)
              have h9 : ltS a.key hi = true := hk.high (eqS_no.1 he) a hm
              simp (maxDischargeDepth := 12) (maxSteps := 1000000) -implicitDefEqProofs only [go_sem, Nat.reduceAdd, Nat.reduceSub, Nat.reduceMul, Nat.reduceLeDiff, Nat.reduceEqDiff, Nat.reduceGT, Nat.reduceBEq, reduceCtorEq, ↓reduceIte, Int.reduceToNat, Int.reduceLE, Int.reduceLT, Int.reduceNe, Int.reduceEq, f2, f5, f6, p0, he, hlt, z2, z3, z5, f1, f3, h9]
              refine ⟨by omega, fun c1 hc1 => ?_⟩
              cases getE hc0 hc1
              exact ⟨fun h => (by rw [z4] at h; cases h), fun _ => ⟨(), trivial⟩⟩
            · have z2 : ((k : Int) > 0) = True := eq_true (by omega)
              have z5 : decide (k = 0) = false := decide_eq_false (by omega)
              have f1 : eqS a.key { data := #[] } = false := eqS_no.2 fun e => absurd ((hk.first k a ha).1 e).1 (by omega)
              have f3 : ltS a.key lo = false := leS_iff.1 (hk.low k a ha fun e => absurd e.1 (by omega))
              have z3 : IntKind.i64.wrap ((k : Int) - 1) = ((k - 1 : Nat) : Int) := by rw [w64 (by omega) (by omega)]; omega
              obtain ⟨c0, hc0⟩ : ∃ c0, n.l[k - 1]? = some c0 := ⟨_, List.getElem?_eq_getElem (by omega)⟩
              have z4 : leS a.key c0.key = false := leS_no.2 (rise_at hk.rise (i := k - 1) (j := k) (by omega) hc0 ha)
              simp (maxDischargeDepth := 12) (maxSteps := 1000000) -implicitDefEqProofs only [go_sem, Nat.reduceAdd, Nat.reduceSub, Nat.reduceMul, Nat.reduceLeDiff, Nat.reduceEqDiff, Nat.reduceGT, Nat.reduceBEq, reduceCtorEq, ↓reduceIte, Int.reduceToNat, Int.reduceLE, Int.reduceLT, Int.reduceNe, Int.reduceEq, f2, f5, f6, p0, he, hlt, z2, z3, z5, f1, f3]
              refine ⟨by omega, fun c1 hc1 => ?_⟩
              cases getE hc0 hc1
              exact ⟨fun h => (by rw [z4] at h; cases h), fun _ => ⟨(), trivial⟩⟩
          · intro _ _
            have e1 : IntKind.i64.wrap ((d : Int) + 1) = ((d + 1 : Nat) : Int) := by rw [w64 (by omega) (by omega)]; omega
            have hf2 : (if k + 1 = 0 then (0 : Int) else ((d + 1 : Nat) : Int)) = ((d + 1 : Nat) : Int) := if_neg (by omega)
            have hk2 : ∀ lo', (if k = 0 then lo' = lo else lo' = a.key) → ¬ k + 1 < n.l.length → ∀ T, ACall Tryz.prog w0 174 [eN kd, dS lo', dS hi, dB false] T (fun e S' => e = dI d ∧ S' = T) := fun lo' h1 h2 T => hK lo' hi h1 (by rw [List.getElem?_eq_none (by omega)]) T
            have hk1 : ∀ lo' c, (if k = 0 then lo' = lo else lo' = a.key) → n.l[k + 1]? = some c → ∀ T, ACall Tryz.prog w0 174 [eN kd, dS lo', dS c.key, dB false] T (fun e S' => e = dI d ∧ S' = T) := fun lo' c h1 h2 T => hK lo' c.key h1 (by rw [h2]) T
            clear hkid hK ih
            (refine @goW _ ?_; refine goS1 @f5 ?_)
            refine ⟨fun hz => ?_, fun hp => ?_⟩
            · have hl0 : (if k = 0 then lo = lo else lo = a.key) := by rw [if_pos hz]
              have z2 : ((k : Int) > 0) = False := eq_false (by omega)
              refine ⟨fun h1 => ⟨h1, fun c hc => use1 (hk1 lo c hl0 hc _) ?_⟩, fun h1 => use1 (hk2 lo hl0 h1 _) ?_⟩
              · (refine @goW _ ?_; refine goS5 @e1 @f5 @z2 @hf2 @hlt ?_)
                exact fun h => absurd h (by omega)
              · (refine @goW _ ?_; refine goS5 @e1 @f5 @z2 @hf2 @hlt ?_)
                exact fun h => absurd h (by omega)
            · have hl0 : (if k = 0 then a.key = lo else a.key = a.key) := by rw [if_neg hp]
              have z2 : ((k : Int) > 0) = True := eq_true (by omega)
              have hf : (if k = 0 then (0 : Int) else ((d + 1 : Nat) : Int)) = ((d + 1 : Nat) : Int) := if_neg hp
              refine ⟨fun h1 => ⟨h1, fun c hc => use1 (hk1 a.key c hl0 hc _) ?_⟩, fun h1 => use1 (hk2 a.key hl0 h1 _) ?_⟩
              · (refine @goW _ ?_; refine goS6 @e1 @f5 @z2 @hf @hf2 @hlt ?_)
                exact fun h => absurd h (by omega)
              · (refine @goW _ ?_; refine goS6 @e1 @f5 @z2 @hf @hf2 @hlt ?_)
                exact fun h => absurd h (by omega)
end Go.Proofs.YtfieabidajilmaaGreat

namespace Go.Proofs.YtfieabidajilmaaGreat
open Aml Go
set_option linter.unusedVariables false
set_option linter.unusedSimpArgs false
set_option maxRecDepth 100000
set_option maxHeartbeats 4000000 in
theorem rCheck (w0 : W0) (n : N) (S : St) (h : RootG n) (hz : PZ n) (ht : ∀ d, Nd d n → totN n ≤ 131072 ∧ d ≤ 100000) : ACall Tryz.prog w0 154 [eN n] S (fun e S' => e = dB true ∧ S' = S) := by
  obtain ⟨d, hg, hsum, h2⟩ := h
  have hn := good_nd hg
  obtain ⟨ht1, ht2⟩ := ht d hn
  have hdep := fun (hne : n.l ≠ []) S => rNode w0 d n noS noS true S hg ht1 ht2 hsum (.inl rfl) hne h2 (fun x _ => noS_le _) (fun e => absurd rfl e)
  have hkl : n.leaf = false → n.l ≠ [] := fun e he => by
    have := h2.resolve_left (by rw [e]; simp)
    rw [he] at this; simp at this
  refine fnS [] mx Tryz.func154 rfl rfl (by kernel_rfl) ?_; (refine @goW _ ?_; refine goS1 @Tryz.ntmps154 ?_)
  intro b
  refine ⟨fun hl => ⟨fun h0 hp => absurd (hz (List.eq_nil_of_length_eq_zero (by omega))) hp, fun h0 => use1 (hdep (fun e => h0 (by rw [e]; rfl)) _) ?_⟩, fun hl => use1 (hdep (hkl hl) _) ?_⟩
  · (refine @goW _ ?_; exact goT)
  · (refine @goW _ ?_; exact goT)
end Go.Proofs.YtfieabidajilmaaGreat

namespace Go.Proofs.YtfieabidajilmaaGreat
open Aml Go
set_option linter.unusedVariables false
set_option linter.unusedSimpArgs false
set_option maxRecDepth 100000
/-- What a tree, and pages for it, are. -/
structure MayL (n : N) (at_ : List Int) : Prop where
  tl : TL n
  tot : totN n ≤ 131072
  dep : ∀ d, Nd d n → d ≤ 100000
  len : at_.length ≤ 1024
  fr : frT n ≤ at_.length
  nd : (at_ ++ alN n).Nodup
  rng : ∀ p, p ∈ at_ ++ alN n → 2 ≤ p ∧ p ≤ 999
set_option maxHeartbeats 8000000 in
theorem mayR (w0 : W0) (n : N) (at_ : List Int) (S : St) (h : MayL n at_) : ACall Tryz.prog w0 133 [eN n, dL at_] S (fun d S' => d = dB true ∧ S' = S) := by
  obtain ⟨d, hn⟩ := tl_nd h.tl
  have hfr := h.fr
  have hln := h.len
  have hpg := fun S => refPagesW w0 d n S hn h.tot
  rw [pgs_al hn] at hpg
  have hck := fun S => rCheck w0 n S h.tl.root h.tl.pz fun d hd => ⟨h.tot, h.dep d hd⟩
  have hfs := fun S => freshR w0 d n S hn h.tot
  have hal := al_len hn
  have ht := h.tot
  have hp : (at_ ++ srt (alN n)).Perm (at_ ++ alN n) := List.Perm.append_left _ (srt_perm _)
  have hso := fun S => sortedR w0 (at_ ++ srt (alN n)) S (by rw [hp.length_eq, List.length_append]; omega)
  have hsp : (srt (at_ ++ srt (alN n))).Perm (at_ ++ alN n) := (srt_perm _).trans hp
  have hpw : (srt (at_ ++ srt (alN n))).Pairwise (· < ·) := List.Pairwise.imp (R := fun x y => x ≤ y ∧ x ≠ y) (fun h => by omega) ((srt_up _).and (hsp.nodup_iff.2 h.nd))
  have hrg : ∀ x, x ∈ srt (at_ ++ srt (alN n)) → 2 ≤ x ∧ x ≤ 999 := fun x hx => h.rng x (hsp.mem_iff.1 hx)
  have hll : (srt (at_ ++ srt (alN n))).length ≤ 1048576 := by rw [hsp.length_eq, List.length_append]; omega
  generalize srt (at_ ++ srt (alN n)) = L at *
  generalize hA : srt (alN n) = A at *
  have hAl : A.length = (alN n).length := by rw [← hA]; exact srt_length _
  refine fnS [] mx Tryz.func133 rfl rfl (by kernel_rfl) ?_; (refine @goW _ ?_; refine goS1 @Tryz.ntmps133 ?_)
  intro b
  have hm8 : maxLen = 9223372036854775807 := rfl
  refine ⟨by omega, by omega, fun la => use1 (hpg _) ?_⟩
  (refine @goW _ ?_; refine goS ?_)
  refine ⟨by omega, by omega, ?_⟩
  refine .inr (use1 (hso _) ?_)
  (refine @goW _ ?_; refine goS ?_)
  refine loopN [] L.length [1, 2, 6, 7] (fun k => [(7, dI k)]) (fun _ => ⟨(b.n, [dI n.page, dB n.leaf, .sl 4 false (n.l.map dC)]) :: S.box, (la.n, .tl 1 ((at_ ++ A).map dI)) :: S.acc⟩) (fun _ => True) mx (by kernel_rfl) ?_ ?_
  · (refine @goW _ ?_; exact goT)
  · intro k hk _
    (refine @goW _ ?_; refine goS ?_)
    refine ⟨fun hlt => ⟨hlt, fun a ha => ?_⟩, fun hge => ?_⟩
    · have h1 := hrg a (List.mem_of_getElem? ha)
      refine ⟨fun h => by omega, fun _ => ⟨hlt, fun a2 ha2 => ⟨fun h => by cases getE ha ha2; omega, fun _ => ⟨fun hk0 => ⟨hlt, fun a3 ha3 => ?_⟩, fun _ => ⟨hlt, i_oneV k (by omega)⟩⟩⟩⟩⟩
      rw [w64 (n := (k : Int) - 1) (by omega) (by omega)]
      refine ⟨by omega, by omega, fun a4 ha4 => ⟨fun he => ?_, fun _ => ⟨hlt, i_oneV k (by omega)⟩⟩⟩
      obtain ⟨u1, e1⟩ := List.getElem?_eq_some_iff.1 ha3
      obtain ⟨u2, e2⟩ := List.getElem?_eq_some_iff.1 ha4
      have := List.pairwise_iff_getElem.1 hpw _ _ u2 u1 (by omega)
      omega
    · refine use1 (hck _) ?_
      (refine @goW _ ?_; refine goS ?_)
      refine use1 (hfs _) ?_
      (refine @goW _ ?_; refine goS ?_)
      omega
set_option maxHeartbeats 8000000 in
theorem LayR (w0 : W0) (n : N) (at_ : List Int) (S : St) (h : MayL n at_) : ACall Tryz.prog w0 103 [eN n, dL at_] S (fun d S' => d = .tup [eN (layN n (at_, [])).1, .any, .any, dB true] ∧ S' = S) := by
  obtain ⟨d, hg, hs, h2⟩ := h.tl.root
  have hfr := h.fr
  have hln := h.len
  have hmay := fun S => mayR w0 n at_ S h
  have hnd := List.nodup_append.1 h.nd
  have hlay := fun bs lw S (hI : LayI S bs lw at_ []) => layR w0 bs lw d n (at_, []) S hg h.tl.laid hI h.tot hs h2 hfr hln hnd.1 (fun x hx => h.rng x (List.mem_append_left _ hx)) (fun x hx => h.rng x (List.mem_append_right _ hx)) (by show 0 + _ ≤ _; omega)
  generalize layN n (at_, []) = R at *
  refine fnS [5, 6] mx Tryz.func103 rfl rfl (by kernel_rfl) ?_; (refine @goW _ ?_; refine goS1 @Tryz.ntmps103 ?_)
  intro b b1
  refine use1 (hmay _) ?_
  (refine @goW _ ?_; refine goS ?_)
  intro b2
  refine awp_growB b2.n 0 2 (by omega) (ds := [.sl 0 true [], .sl 1 false (at_.map dI)]) (by (refine @goW _ ?_; exact goT)) rfl fun lw => ?_
  (refine @goW _ ?_; refine goS ?_)
  refine shrK [6] [] mx (by kernel_rfl) ?_
  (refine @goW _ ?_; refine goS ?_)
  refine useK (hlay b2.n lw.n _ ⟨by (refine @goW _ ?_; exact goT), by (refine @goW _ ?_; exact goT)⟩) ?_
  rintro e S' ⟨rfl, rfl⟩
  simp (maxDischargeDepth := 12) (maxSteps := 1000000) -implicitDefEqProofs only [go_sem, Nat.reduceAdd, Nat.reduceSub, Nat.reduceMul, Nat.reduceLeDiff, Nat.reduceEqDiff, Nat.reduceGT, Nat.reduceBEq, reduceCtorEq, ↓reduceIte, Int.reduceToNat, Int.reduceLE, Int.reduceLT, Int.reduceNe, Int.reduceEq, layS]
  intro b3
  refine Y.ordB [b1.n] [9] [] [1, 2, 3, 5, 6, 7, 0, 4, 8, 9, 10, 11, 12] mx (by kernel_rfl) ?_
  (refine @goW _ ?_; exact goT)
end Go.Proofs.YtfieabidajilmaaGreat

namespace Go.Proofs.YtfieabidajilmaaGreat
open Aml Go
set_option linter.unusedVariables false
set_option linter.unusedSimpArgs false
set_option maxRecDepth 100000
theorem tb_dep {k : Nat} {n : N} (h : TB k n) : ∀ d, Nd d n → d ≤ k := fun d hd => by
  obtain ⟨_, e, hg, he, _⟩ := h
  have := nd_inj hd (good_nd hg)
  omega
theorem tb_tot {k : Nat} {n : N} (h : TB k n) : totN n ≤ 120 * k := let ⟨_, _, _, _, h⟩ := h; h
theorem tbFreshR (w0 : W0) {k : Nat} {n : N} (h : TB k n) (hk : k ≤ 116) (S : St) : ACall Tryz.prog w0 35 [eN n] S (fun e S' => e = dI (frT n) ∧ S' = S) := by
  obtain ⟨hr, d, hg, hd, ht⟩ := h
  exact freshR w0 d n S (good_nd hg) (by omega)
theorem tb_fr {k : Nat} {n : N} (h : TB k n) (hk : k ≤ 116) : frT n ≤ 70000 := by
  obtain ⟨hr, d, hg, hd, ht⟩ := h
  have := frT_le (good_nd hg)
  omega
theorem vi_frL {k : Nat} {n : N} {l : List C} (h : VI k n l) (hk : k ≤ 116) : frL l ≤ 70000 * l.length := by
  have : ∀ l : List C, (∀ c, c ∈ l → frT (kid0 c) ≤ 70000) → frL l ≤ 70000 * l.length := fun l => by
    induction l with
    | nil => intro _; exact Nat.zero_le _
    | cons c l ih =>
      intro h
      have h1 := ih fun c hc => h c (List.mem_cons_of_mem _ hc)
      have h2 := h c List.mem_cons_self
      unfold frL at h1 ⊢
      rw [List.map_cons, List.sum_cons, List.length_cons]; omega
  exact this l fun c hc => tb_fr (h.cell c hc).2.1 hk
theorem frL_succ {l : List C} {k : Nat} {c : C} (h : l[k]? = some c) : frL (l.take (k + 1)) = frL (l.take k) + frT (kid0 c) := by
  rw [List.take_add_one, h, Option.toList_some, frL_snoc]
set_option maxHeartbeats 4000000 in
theorem rFresh22 (w0 : W0) (k : Nat) (n : N) (l : List C) (S : St) (h : VI k n l) (hk : k ≤ 116) : ACall Tryz.prog w0 63 [eL n l] S (fun d S' => d = dI (frV (n, l)) ∧ S' = S) := by
  have hln := h.len
  have hfn := tb_fr h.dir hk
  have hfl := vi_frL h hk
  have hd := fun S => tbFreshR w0 h.dir hk S
  have hc := fun c (hc : c ∈ l) S => tbFreshR w0 (h.cell c hc).2.1 hk S
  refine fnS [] mx Tryz.func63 rfl rfl (by kernel_rfl) ?_; (refine @goW _ ?_; refine goS1 @Tryz.ntmps63 ?_)
  intro b
  refine use1 (hd _) ?_
  (refine @goW _ ?_; refine goS ?_)
  refine loopN [] l.length [1, 3, 4] (fun k => [(3, dI ((frT n + frL (l.take k) : Nat) : Int)), (4, dI k)]) (fun _ => ⟨(b.n, [dI n.page, dB n.leaf, .sl 4 false (n.l.map dC), .sl 4 false (l.map dBl)]) :: S.box, S.acc⟩) (fun _ => True) mx (by kernel_rfl) ?_ ?_
  · (refine @goW _ ?_; refine goS ?_)
    rfl
  · intro j hj _
    (refine @goW _ ?_; refine goS ?_)
    refine ⟨fun hlt => ⟨hlt, fun a ha => ?_⟩, fun hge => ?_⟩
    · have h1 := frL_succ ha
      have h2 := frL_take l (j + 1)
      refine use1 (hc a (List.mem_of_getElem? ha) _) ?_
      (refine @goW _ ?_; refine goS ?_)
      exact ⟨hlt, by rw [w64 (by omega) (by omega)]; omega, i_oneV j (by omega)⟩
    · rw [List.take_of_length_le (by omega)]; rfl
/-- A tree of a view may be laid. -/
theorem may_of {k : Nat} {q o : N × List C} {f : Int} (h : BI k q o f) (hk : k ≤ 116) {T : N} (hT : T = q.1 ∨ ∃ c, c ∈ q.2 ∧ T = kid0 c) {F : Int} (h1 : f ≤ F) (h2 : F + frT T ≤ 999) : MayL T (pagesR F (frT T)) := by
  have hlo := h.lo
  have hone := bi_one h
  have hsub : TB k T ∧ TL T ∧ (alN T).Nodup ∧ ∀ p, p ∈ alN T → p ∈ alV q := by
    unfold alV at hone ⊢
    rcases hT with rfl | ⟨c, hc, rfl⟩
    · exact ⟨h.v.dir, h.tv.dir, (List.nodup_append.1 hone).1, fun p hp => List.mem_append_left _ hp⟩
    · have hm : ∀ p, p ∈ alN (kid0 c) → p ∈ alL q.2 := fun p hp => List.mem_flatMap.2 ⟨c, hc, hp⟩
      refine ⟨(h.v.cell c hc).2.1, h.tv.cell c hc, ?_, fun p hp => List.mem_append_right _ (hm p hp)⟩
      have hn := (List.nodup_append.1 hone).2.1
      obtain ⟨A, B, e⟩ := List.append_of_mem hc
      rw [e, alL_app] at hn
      have := (List.nodup_append.1 hn).2.1
      unfold alL at this
      rw [List.flatMap_cons] at this
      exact (List.nodup_append.1 this).1
  obtain ⟨ht, htl, hnd, hm⟩ := hsub
  have hrg : ∀ p, p ∈ alN T → 2 ≤ p ∧ p < f := fun p hp => h.rng p (bi_mem h (hm p hp))
  have hhi := h.hi
  have ht2 := tb_tot ht
  refine ⟨htl, by omega, fun d hd => by have := tb_dep ht d hd; omega, by rw [pagesR_len]; omega, by rw [pagesR_len]; exact Nat.le_refl _, ?_, fun p hp => ?_⟩
  · refine List.nodup_append.2 ⟨pagesR_nd _ _, hnd, fun a ha b hb e => ?_⟩
    have := pagesR_mem ha
    have := hrg b hb
    omega
  · rcases List.mem_append.1 hp with hp | hp
    · have := pagesR_mem hp; omega
    · have := hrg p hp; omega
set_option maxHeartbeats 16000000 in
theorem laidW22 (w0 : W0) (k : Nat) (n : N) (l : List C) (o : N × List C) (f : Int) (S : St) (h : BI k (n, l) o f) (hk : k ≤ 116) (hf : f + frV (n, l) ≤ 999) : ACall Tryz.prog w0 64 [eL n l, dI f] S (fun d S' => d = eL (laidQ (n, l) f).1 (laidQ (n, l) f).2 ∧ S' = S) := by
  have hv : VI k n l := h.v
  have hln := hv.len
  have hlo := h.lo
  have hfv : frV (n, l) = frT n + frL l := rfl
  rw [hfv] at hf
  have hd := fun S => tbFreshR w0 hv.dir hk S
  have hc := fun c (hc : c ∈ l) S => tbFreshR w0 (hv.cell c hc).2.1 hk S
  have hmd := fun F => may_of (T := n) (F := F) h hk (.inl rfl)
  have hmc := fun c hc F => may_of (T := kid0 c) (F := F) h hk (.inr ⟨c, hc, rfl⟩)
  have hq1 : (laidQ (n, l) f).1 = layT n (f + frL l) := rfl
  have hq2 : (laidQ (n, l) f).2 = laidL l f := rfl
  generalize (laidQ (n, l) f).1 = Q1 at *
  generalize (laidQ (n, l) f).2 = Q2 at *
  refine fnS [] mx Tryz.func64 rfl rfl (by kernel_rfl) ?_; (refine @goW _ ?_; refine goS1 @Tryz.ntmps64 ?_)
  intro b b1 b2
  refine awp_growB b2.n 3 4 (by omega) (ds := [dI n.page, dB n.leaf, .sl 4 false (n.l.map dC), .sl 0 true []]) (by (refine @goW _ ?_; exact goT)) rfl fun lb => ?_
  (refine @goW _ ?_; refine goS ?_)
  refine loopN [] (l.length + 1) [1, 2, 4, 5, 6] (fun j => [(1, dI (f + frL (l.take j) + (if j ≤ l.length then 0 else frT n : Nat))), (6, dI j)]) (fun j => ⟨(b2.n, [dI (if j ≤ l.length then n else Q1).page, dB (if j ≤ l.length then n else Q1).leaf, .sl 4 false ((if j ≤ l.length then n else Q1).l.map dC), .acc lb.n (min j l.length)]) :: (b1.n, [dI 0, dB false, .sl 0 true [], .sl 0 true []]) :: (b.n, [dI n.page, dB n.leaf, .sl 4 false (n.l.map dC), .sl 4 false (l.map dBl)]) :: S.box, (lb.n, .arr 4 ((laidL (l.take j) f).map dBl)) :: S.acc⟩) (fun _ => True) mx (by kernel_rfl) ?_ ?_
  · have e1 : (if 0 ≤ l.length then n else Q1) = n := if_pos (Nat.zero_le _)
    have e2 : (if 0 ≤ l.length then 0 else frT n) = 0 := if_pos (Nat.zero_le _)
    simp only [e1, e2, Nat.zero_min]
    (refine @goW _ ?_; refine goS ?_)
    refine ⟨?_, .refl _⟩
    show f = f + ((0 : Nat) : Int) + ((0 : Nat) : Int)
    omega
  · intro j hj _
    have hm8 : maxLen = 9223372036854775807 := rfl
    have hwl : IntKind.i64.wrap ((l.length : Int) + 1) = ((l.length + 1 : Nat) : Int) := by rw [w64 (by omega) (by omega)]; rfl
    rcases Nat.lt_trichotomy j l.length with h1 | h1 | h1
    · obtain ⟨c, hcj⟩ : ∃ c, l[j]? = some c := ⟨_, List.getElem?_eq_getElem h1⟩
      have hcm := List.mem_of_getElem? hcj
      have e1 : (if j ≤ l.length then n else Q1) = n := if_pos (by omega)
      have e2 : (if j ≤ l.length then 0 else frT n) = 0 := if_pos (by omega)
      have e3 : (if j + 1 ≤ l.length then n else Q1) = n := if_pos (by omega)
      have e4 : (if j + 1 ≤ l.length then 0 else frT n) = 0 := if_pos (by omega)
      have e5 : min j l.length = j := by omega
      have e6 : min (j + 1) l.length = j + 1 := by omega
      have hfs := frL_succ hcj
      have hft := frL_take l (j + 1)
      have hll : (laidL (l.take j) f).length = j := by rw [laidL_len, List.length_take]; omega
      have hls : laidL (l.take (j + 1)) f = laidL (l.take j) f ++ [cellN c.key (layT (kid0 c) (f + frL (l.take j)))] := by rw [List.take_add_one, hcj, Option.toList_some, laidL_snoc]
      have hF : f + (frL (l.take j) : Int) + ((0 : Nat) : Int) = f + (frL (l.take j) : Int) := by omega
      simp only [e1, e2, e3, e4, e5, e6, hF]
      rw [hls]
      have hmay := hmc c hcm (f + frL (l.take j)) (by omega) (by omega)
      have hlay := fun S => LayR w0 (kid0 c) (pagesR (f + frL (l.take j)) (frT (kid0 c))) S hmay
      have hT : (layN (kid0 c) (pagesR (f + frL (l.take j)) (frT (kid0 c)), [])).1 = layT (kid0 c) (f + frL (l.take j)) := rfl
      rw [hT] at hlay
      have hcT := hc c hcm
      have hFlo : 2 ≤ f + (frL (l.take j) : Int) := by omega
      have hFhi : f + (frL (l.take j) : Int) + frT (kid0 c) ≤ 999 := by omega
      have hFn : f + (frL (l.take (j + 1)) : Int) + ((0 : Nat) : Int) = f + (frL (l.take j) : Int) + frT (kid0 c) := by omega
      rw [hFn]
      generalize layT (kid0 c) (f + frL (l.take j)) = M at *
      generalize f + (frL (l.take j) : Int) = F at *
      generalize laidL (l.take j) f = LL at *
      (refine @goW _ ?_; refine goS3 @hwl @hll @h1 ?_)
      refine fun b3 a ha => ?_
      cases getE hcj ha
      refine growK 8 1 rfl (by omega) fun la => ?_
      (refine @goW _ ?_; refine goS ?_)
      refine loopN [] (frT (kid0 c)) [1, 2, 4, 5, 6, 7, 8, 9] (fun m => [(1, dI (F + m)), (8, .acc la.n m), (9, dI m)]) (fun m => ⟨(b3.n, [dI (kid0 c).page, dB (kid0 c).leaf, .sl 4 false ((kid0 c).l.map dC)]) :: (b2.n, [dI n.page, dB n.leaf, .sl 4 false (n.l.map dC), .acc lb.n j]) :: (b1.n, [dI 0, dB false, .sl 0 true [], .sl 0 true []]) :: (b.n, [dI n.page, dB n.leaf, .sl 4 false (n.l.map dC), .sl 4 false (l.map dBl)]) :: S.box, (la.n, .arr 1 ((pagesR F m).map dI)) :: (lb.n, .arr 4 (LL.map dBl)) :: S.acc⟩) (fun _ => True) mx (by kernel_rfl) ?_ ?_
      · (refine @goW _ ?_; refine goS ?_)
        exact ⟨by omega, .refl _⟩
      · intro m hm _
        have hpl := pagesR_len F m
        (refine @goW _ ?_; refine goS1 @hpl ?_)
        refine use1 (hcT _) ?_
        (refine @goW _ ?_; refine goS1 @hpl ?_)
        refine ⟨fun hlt => ⟨by omega, by omega, hlt, ⟨by rw [w64 (by omega) (by omega)]; omega, i_oneV m (by omega)⟩, ?_⟩, fun hge => ?_⟩
        · rw [pagesR_succ, List.map_append]; exact .refl _
        · have hme : m = frT (kid0 c) := by omega
          subst hme
          refine .inr (use1 (hlay _) ?_)
          simp (maxDischargeDepth := 12) (maxSteps := 1000000) -implicitDefEqProofs only [go_sem, Nat.reduceAdd, Nat.reduceSub, Nat.reduceMul, Nat.reduceLeDiff, Nat.reduceEqDiff, Nat.reduceGT, Nat.reduceBEq, reduceCtorEq, ↓reduceIte, Int.reduceToNat, Int.reduceLE, Int.reduceLT, Int.reduceNe, Int.reduceEq, hll, h1, List.map_append, List.map_cons, List.map_nil]
          intro b4 a2 ha2
          cases getE hcj ha2
          exact ⟨by omega, by omega, i_oneV j (by omega), .consB (.consB (.consA (.refl _)))⟩
    · have hnl : ¬ j < l.length := by omega
      have e1 : (if j ≤ l.length then n else Q1) = n := if_pos (by omega)
      have e2 : (if j ≤ l.length then 0 else frT n) = 0 := if_pos (by omega)
      have e3 : (if j + 1 ≤ l.length then n else Q1) = Q1 := if_neg (by omega)
      have e4 : (if j + 1 ≤ l.length then 0 else frT n) = frT n := if_neg (by omega)
      have e5 : min j l.length = j := by omega
      have e6 : min (j + 1) l.length = j := by omega
      have hlj : l.take j = l := List.take_of_length_le (by omega)
      have hlj1 : l.take (j + 1) = l := List.take_of_length_le (by omega)
      have hll : (laidL l f).length = j := by rw [laidL_len]; omega
      have hF : f + (frL l : Int) + ((0 : Nat) : Int) = f + (frL l : Int) := by omega
      simp only [e1, e2, e3, e4, e5, e6, hlj, hlj1, hF]
      have hmay := hmd (f + frL l) (by omega) (by omega)
      have hlay := fun S => LayR w0 n (pagesR (f + frL l) (frT n)) S hmay
      have hT : (layN n (pagesR (f + frL l) (frT n), [])).1 = layT n (f + frL l) := rfl
      rw [hT] at hlay
      have hcT := hd
      have hFlo : 2 ≤ f + (frL l : Int) := by omega
      have hFhi : f + (frL l : Int) + frT n ≤ 999 := by omega
      rw [← hq1] at hlay
      clear hq1
      generalize f + (frL l : Int) = F at *
      generalize laidL l f = LL at *
      have hjl : (j < l.length + 1) = True := eq_true (by omega)
      (refine @goW _ ?_; refine goS4 @hwl @hll @hnl @hjl ?_)
      refine fun b3 => ?_
      refine growK 8 1 rfl (by omega) fun la => ?_
      (refine @goW _ ?_; refine goS ?_)
      refine loopN [] (frT n) [1, 2, 4, 5, 6, 7, 8, 9] (fun m => [(1, dI (F + m)), (8, .acc la.n m), (9, dI m)]) (fun m => ⟨(b3.n, [dI n.page, dB n.leaf, .sl 4 false (n.l.map dC)]) :: (b2.n, [dI n.page, dB n.leaf, .sl 4 false (n.l.map dC), .acc lb.n j]) :: (b1.n, [dI 0, dB false, .sl 0 true [], .sl 0 true []]) :: (b.n, [dI n.page, dB n.leaf, .sl 4 false (n.l.map dC), .sl 4 false (l.map dBl)]) :: S.box, (la.n, .arr 1 ((pagesR F m).map dI)) :: (lb.n, .arr 4 (LL.map dBl)) :: S.acc⟩) (fun _ => True) mx (by kernel_rfl) ?_ ?_
      · (refine @goW _ ?_; refine goS ?_)
        exact ⟨by omega, .refl _⟩
      · intro m hm _
        have hpl := pagesR_len F m
        (refine @goW _ ?_; refine goS1 @hpl ?_)
        refine use1 (hcT _) ?_
        (refine @goW _ ?_; refine goS1 @hpl ?_)
        refine ⟨fun hlt => ⟨by omega, by omega, hlt, ⟨by rw [w64 (by omega) (by omega)]; omega, i_oneV m (by omega)⟩, ?_⟩, fun hge => ?_⟩
        · rw [pagesR_succ, List.map_append]; exact .refl _
        · have hme : m = frT n := by omega
          subst hme
          refine .inr (use1 (hlay _) ?_)
          (refine @goW _ ?_; refine goS2 @hll @hnl ?_)
          intro b4
          exact ⟨by omega, i_oneV j (by omega)⟩
    · have e1 : (if j ≤ l.length then n else Q1) = Q1 := if_neg (by omega)
      have e2 : (if j ≤ l.length then 0 else frT n) = frT n := if_neg (by omega)
      have e5 : min j l.length = l.length := by omega
      have hje : j = l.length + 1 := by omega
      have hlj : l.take j = l := List.take_of_length_le (by omega)
      simp only [e1, e2, e5, hlj]
      have hno : (l.length + 1 < l.length + 1) = False := eq_false (by omega)
      (refine @goW _ ?_; refine goS3 @hwl @hje @hno ?_)
      rw [hq2]
      exact ⟨laidL_len _ _, .refl _⟩
end Go.Proofs.YtfieabidajilmaaGreat
