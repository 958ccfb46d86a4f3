/-
  A key deleted: what the program computes; A key deleted, whole; where there is nothing: what the program computes; Entries of the model: strings compared, rows that lie apart; Where a name stands among a view's trees: what the program computes; A named tree set into an own row: what the library computes; A view's changes, plain; what the program computes; A view's tree changed, plain; what the program computes; Entries from a key on, by a stack of nodes and places; A scope out of which nothing jumps back; A cursor settles: what the program computes. By an AI agent.
-/
import Derived.Test.YtfieabidajilmaaGreatMR8
import Derived.Test.YtfieabidajilmaaGreatMR7
import Derived.Lib.Bytealg
import Derived.Lib.Overlaps
import Derived.Test.YtfieabidajilmaaGreatMR6
namespace Go.Proofs.YtfieabidajilmaaGreat
open Aml Go
set_option linter.unusedVariables false
set_option linter.unusedSimpArgs false
set_option maxRecDepth 100000
theorem eqS_comm (a b : ByteArray) : eqS a b = eqS b a := by
  cases h : eqS b a with
  | true => rw [eqS_iff.1 h]; exact eqS_self _
  | false => exact eqS_no.2 fun e => by rw [e, eqS_self] at h; cases h
set_option maxHeartbeats 4000000 in
theorem indexP (w0 : W0) (l : List C) (key : ByteArray) (i : Nat) (c : C) (S : St) (h0 : ∀ (j : Nat) a, j < i → l[j]? = some a → eqS a.key key = false) (hc : l[i]? = some c) (he : eqS c.key key = true) (hb : l.length ≤ 1048576) :
    ACall Tryz.prog w0 89 [.sl 1 false (l.map fun c => dS c.key), dS key] S (fun d S' => d = dI i ∧ S' = S) := by
  have hlt := (List.getElem?_eq_some_iff.1 hc).1
  refine fnS [] mx Tryz.func89 rfl rfl (by kernel_rfl) ?_; simp (maxDischargeDepth := 12) (maxSteps := 1000000) -implicitDefEqProofs only [Tryz.ntmps89, go_sem, Nat.reduceAdd, Nat.reduceSub, Nat.reduceMul, Nat.reduceLeDiff, Nat.reduceEqDiff, Nat.reduceGT, Nat.reduceBEq, reduceCtorEq, ↓reduceIte, Int.reduceToNat, Int.reduceLE, Int.reduceLT, Int.reduceNe, Int.reduceEq]
  refine loopN [] i [0, 1, 7, 8] (fun k => [(8, dI k)]) (fun _ => S) (fun _ => True) mx (by kernel_rfl) ?_ ?_
  · simp (maxDischargeDepth := 12) (maxSteps := 1000000) -implicitDefEqProofs only [go_sem, Nat.reduceAdd, Nat.reduceSub, Nat.reduceMul, Nat.reduceLeDiff, Nat.reduceEqDiff, Nat.reduceGT, Nat.reduceBEq, reduceCtorEq, ↓reduceIte, Int.reduceToNat, Int.reduceLE, Int.reduceLT, Int.reduceNe, Int.reduceEq]
  · intro k hk _
    simp (maxDischargeDepth := 12) (maxSteps := 1000000) -implicitDefEqProofs only [go_sem, Nat.reduceAdd, Nat.reduceSub, Nat.reduceMul, Nat.reduceLeDiff, Nat.reduceEqDiff, Nat.reduceGT, Nat.reduceBEq, reduceCtorEq, ↓reduceIte, Int.reduceToNat, Int.reduceLE, Int.reduceLT, Int.reduceNe, Int.reduceEq]
    refine ⟨fun hl => ⟨hl, fun a ha => ⟨fun h => ?_, fun h => ⟨?_, i_oneV k (by omega)⟩⟩⟩, fun hl => by omega⟩
    · rcases Nat.lt_or_ge k i with q | q
      · have := h0 k a q ha; rw [eqS_comm, h] at this; cases this
      · have : k = i := by omega
        subst this; rfl
    · rcases Nat.lt_or_ge k i with q | q
      · omega
      · have : k = i := by omega
        subst this
        cases getE hc ha
        rw [eqS_comm, he] at h; cases h
/-- A leaf's cells without one key. -/
theorem without_at {l : List C} (h : Rise l) {key : ByteArray} (hf : (l.find? fun c => eqS c.key key).isSome = true) : ∃ i c, l[i]? = some c ∧ eqS c.key key = true ∧ (∀ (j : Nat) a, j < i → l[j]? = some a → eqS a.key key = false) ∧ (l.filter fun c => !eqS c.key key) = l.take i ++ l.drop (i + 1) := by
  obtain ⟨A, B, hl, hA, hB⟩ := cut_at key h
  have hn : ∀ a, a ∈ A → eqS a.key key = false := fun a ha => eqS_no.2 (ltS_ne (hA a ha))
  have f1 : A.find? (fun c => eqS c.key key) = none := List.find?_eq_none.2 fun x hx => by rw [hn x hx]; simp
  rw [hl, List.find?_append, f1] at hf
  cases B with
  | nil => simp at hf
  | cons b B =>
    have hr : Rise (b :: B) := by rw [hl] at h; exact (List.pairwise_append.1 h).2.1
    have hb1 : ∀ x, x ∈ B → eqS x.key key = false := fun x hx => by
      have h1 : ltS b.key x.key = true := (List.pairwise_cons.1 hr).1 x hx
      have h2 : leS key b.key = true := leS_iff.2 (hB b List.mem_cons_self)
      exact eqS_no.2 (ltS_ne (leS_lt h2 h1)).symm
    have hb : eqS b.key key = true := by
      cases hq : eqS b.key key with
      | true => rfl
      | false =>
        have : (b :: B).find? (fun c => eqS c.key key) = none := List.find?_eq_none.2 fun x hx => by
          rcases List.mem_cons.1 hx with rfl | hx
          · rw [hq]; simp
          · rw [hb1 x hx]; simp
        rw [this] at hf; simp at hf
    refine ⟨A.length, b, by rw [hl]; simp, hb, fun j a hj ha => ?_, ?_⟩
    · rw [hl, List.getElem?_append_left hj] at ha
      exact hn a (List.mem_of_getElem? ha)
    · rw [hl, List.filter_append, List.filter_cons, hb, flt_all (fun a ha => by rw [hn a ha]; rfl), flt_all (l := B) (fun a ha => by rw [hb1 a ha]; rfl)]
      simp
theorem els_keys (l : List C) : Els 1 (l.map fun c => dS c.key) := fun d hd => by
  obtain ⟨c, _, rfl⟩ := List.mem_map.1 hd; exact ⟨rfl, rfl⟩
theorem els_vals (l : List C) : Els 2 (l.map dV2) := fun d hd => by
  obtain ⟨c, _, rfl⟩ := List.mem_map.1 hd; exact ⟨rfl, rfl⟩
/-- The function that deletes below. -/
def dFn (k b : Nat) : DV := .v (.func (.func 88) #[] #[.pointer (some ⟨k, 0, none⟩), .pointer (some ⟨b, 0, none⟩)])
set_option maxHeartbeats 8000000 in
theorem downP (w0 : W0) (key : ByteArray) (k3 b8 : Nat) : ∀ (d : Nat) (n : N) (S : St), Good d n → totN n + d ≤ 131000 → (findN key n).isSome = true → lk S.box k3 = some [dS key] → lk S.box b8 = some [dFn k3 b8] →
    ACall Tryz.prog w0 88 [eT n, .v (.pointer (some ⟨k3, 0, none⟩)), .v (.pointer (some ⟨b8, 0, none⟩))] S (fun e S' => e = eT (withoutN key n) ∧ S' = S) := by
  intro d
  induction d with
  | zero =>
    intro n S hg ht hf t3 t8
    have hlen := tot_len n
    rw [findN_leaf key n hg.1] at hf
    obtain ⟨i, c, hc, hce, h0, hflt⟩ := without_at hg.2.1 (by simpa using hf)
    have hlt := (List.getElem?_eq_some_iff.1 hc).1
    rw [withoutN_leaf key n hg.1, hflt, eT_leaf hg.1, eT_leaf rfl]
    refine fnS [3] mx Tryz.func88 rfl rfl (by kernel_rfl) ?_; simp only [Tryz.ntmps88, List.length_cons, List.length_nil, Nat.reduceAdd, Nat.reduceSub, List.reduceReplicate, List.cons_append, List.nil_append]; simp (maxDischargeDepth := 12) (maxSteps := 1000000) -implicitDefEqProofs only [Tryz.ntmps88, go_sem, Nat.reduceAdd, Nat.reduceSub, Nat.reduceMul, Nat.reduceLeDiff, Nat.reduceEqDiff, Nat.reduceGT, Nat.reduceBEq, reduceCtorEq, ↓reduceIte, Int.reduceToNat, Int.reduceLE, Int.reduceLT, Int.reduceNe, Int.reduceEq,  t3, t8]
    intro b b1
    refine use1 (indexP w0 n.l key i c _ h0 hc hce (by omega)) ?_
    simp (maxDischargeDepth := 12) (maxSteps := 1000000) -implicitDefEqProofs only [go_sem, Nat.reduceAdd, Nat.reduceSub, Nat.reduceMul, Nat.reduceLeDiff, Nat.reduceEqDiff, Nat.reduceGT, Nat.reduceBEq, reduceCtorEq, ↓reduceIte, Int.reduceToNat, Int.reduceLE, Int.reduceLT, Int.reduceNe, Int.reduceEq, t3, t8]
    refine Y.ordK [2, 5] [] [0, 3, 1, 4, 2, 5, 6, 7] mx (by kernel_rfl) ?_
    simp (maxDischargeDepth := 12) (maxSteps := 1000000) -implicitDefEqProofs only [go_sem, Nat.reduceAdd, Nat.reduceSub, Nat.reduceMul, Nat.reduceLeDiff, Nat.reduceEqDiff, Nat.reduceGT, Nat.reduceBEq, reduceCtorEq, ↓reduceIte, Int.reduceToNat, Int.reduceLE, Int.reduceLT, Int.reduceNe, Int.reduceEq, t3, t8]
    refine useK (cloneS w0 (n.l.map fun c => dS c.key) _ (by rw [List.length_map]; omega)) ?_
    rintro d S' ⟨l1, rfl, rfl⟩
    simp (maxDischargeDepth := 12) (maxSteps := 1000000) -implicitDefEqProofs only [go_sem, Nat.reduceAdd, Nat.reduceSub, Nat.reduceMul, Nat.reduceLeDiff, Nat.reduceEqDiff, Nat.reduceGT, Nat.reduceBEq, reduceCtorEq, ↓reduceIte, Int.reduceToNat, Int.reduceLE, Int.reduceLT, Int.reduceNe, Int.reduceEq, t3, t8]
    refine useK (cloneV w0 (n.l.map dV2) _ (by rw [List.length_map]; omega)) ?_
    rintro d S' ⟨l2, rfl, rfl⟩
    simp (maxDischargeDepth := 12) (maxSteps := 1000000) -implicitDefEqProofs only [go_sem, Nat.reduceAdd, Nat.reduceSub, Nat.reduceMul, Nat.reduceLeDiff, Nat.reduceEqDiff, Nat.reduceGT, Nat.reduceBEq, reduceCtorEq, ↓reduceIte, Int.reduceToNat, Int.reduceLE, Int.reduceLT, Int.reduceNe, Int.reduceEq, t3, t8]
    rw [i_oneV i (by omega)]
    refine .inl (useK (delS w0 _ l1.n (n.l.map fun c => dS c.key) i (by simp (maxDischargeDepth := 12) (maxSteps := 1000000) -implicitDefEqProofs only [go_sem, Nat.reduceAdd, Nat.reduceSub, Nat.reduceMul, Nat.reduceLeDiff, Nat.reduceEqDiff, Nat.reduceGT, Nat.reduceBEq, reduceCtorEq, ↓reduceIte, Int.reduceToNat, Int.reduceLE, Int.reduceLT, Int.reduceNe, Int.reduceEq]) (els_keys _) (by rw [List.length_map]; exact hlt) (by rw [List.length_map]; omega)) ?_ ⟨.eq (by rw [List.length_map]), .refl _, .refl _, trivial⟩)
    rintro d S' ⟨m1, rfl, rfl⟩
    simp (maxDischargeDepth := 12) (maxSteps := 1000000) -implicitDefEqProofs only [go_sem, Nat.reduceAdd, Nat.reduceSub, Nat.reduceMul, Nat.reduceLeDiff, Nat.reduceEqDiff, Nat.reduceGT, Nat.reduceBEq, reduceCtorEq, ↓reduceIte, Int.reduceToNat, Int.reduceLE, Int.reduceLT, Int.reduceNe, Int.reduceEq, t3, t8]
    rw [i_oneV i (by omega)]
    refine .inl (useK (delV w0 _ l2.n (n.l.map dV2) i (by simp (maxDischargeDepth := 12) (maxSteps := 1000000) -implicitDefEqProofs only [go_sem, Nat.reduceAdd, Nat.reduceSub, Nat.reduceMul, Nat.reduceLeDiff, Nat.reduceEqDiff, Nat.reduceGT, Nat.reduceBEq, reduceCtorEq, ↓reduceIte, Int.reduceToNat, Int.reduceLE, Int.reduceLT, Int.reduceNe, Int.reduceEq]) (els_vals _) (by rw [List.length_map]; exact hlt) (by rw [List.length_map]; omega)) ?_ ⟨.eq (by rw [List.length_map]), .refl _, .refl _, trivial⟩)
    rintro d S' ⟨m2, rfl, rfl⟩
    simp (maxDischargeDepth := 12) (maxSteps := 1000000) -implicitDefEqProofs only [go_sem, Nat.reduceAdd, Nat.reduceSub, Nat.reduceMul, Nat.reduceLeDiff, Nat.reduceEqDiff, Nat.reduceGT, Nat.reduceBEq, reduceCtorEq, ↓reduceIte, Int.reduceToNat, Int.reduceLE, Int.reduceLT, Int.reduceNe, Int.reduceEq, t3, t8]
    omega
  | succ d ih =>
    intro n S hg ht hf t3 t8
    have hn := good_nd hg
    have hlen := tot_len n
    have hone := nd_one hn hn.1
    have hlt := way_lt hg.2.1 key
    obtain ⟨c, kid, hc, e1, e2, hkid, hkey, hnd⟩ := nd_kid hn (k := way n.l key) hlt
    obtain ⟨-, -, kid', hkid', hgk, -⟩ := hg.2.2.cell c (List.mem_of_getElem? hc)
    rw [hkid] at hkid'; cases hkid'
    have hkt := tot_kid (List.mem_of_getElem? hc) hkid
    have hw := wayP w0 n key
    rw [findN_br key n hg.1 hc hkid] at hf
    rw [withoutN_br key n hg.1 hc hkid]
    have hpt := tot_without (key := key) hnd
    have hpn := nd_without (key := key) hnd
    have ihk := ih kid
    generalize withoutN key kid = pk at hpt hpn ihk ⊢
    generalize hc' : C.mk c.key c.data c.pages [pk] = c'
    have hsh : ShB c' ∧ ∃ k, c'.kid = [k] ∧ Nd d k := by
      obtain ⟨q1, _⟩ := hn.2.2 c (List.mem_of_getElem? hc)
      subst hc'
      exact ⟨q1, pk, rfl, hpn⟩
    have hM := nd_set hn hlt hsh
    have hMt : totN (.mk 0 false (n.l.set (way n.l key) c')) ≤ 131072 := by
      have := tot_set (c' := c') hc
      rw [totN_mk]
      have e3 : totC c' = 1 + totN pk := by subst hc'; exact totC_kid rfl
      rw [e3, totC_kid hkid, ← totN_tot n] at this
      omega
    have hmend := fun T => mendP w0 d _ (way n.l key) T hM hMt (by rw [N.l_mk, List.length_set]; exact hlt)
    have hkeys : (n.l.map fun c => dS c.key) = (n.l.set (way n.l key) c').map fun c => dS c.key := by
      rw [List.map_set]
      refine (List.ext_getElem? fun j => ?_)
      rw [List.getElem?_set]
      split
      · rename_i e; subst e
        rw [List.getElem?_map, hc]; subst hc'
        simp [hlt, C.key]
      · rfl
    have hkids : (dK n.l).set (way n.l key) (eT pk) = dK (n.l.set (way n.l key) c') := by
      unfold dK
      rw [List.map_set, ← dT_eq]
      subst hc'; rfl
    have hones : ∀ x, x ∈ n.l.set (way n.l key) c' → ∃ k, x.kid = [k] := fun x hx => by
      rcases mem_set hx with hx | rfl
      · exact hone x hx
      · obtain ⟨k, hk, _⟩ := hsh.2; exact ⟨k, hk⟩
    have hwk : Wk (.agg [dI 0, dB false, .sl 1 false (n.l.map fun c => dS c.key), .sl 0 true [], .sl 5 false ((dK n.l).set (way n.l key) (eT pk))]) (eT (.mk 0 false (n.l.set (way n.l key) c'))) := wk_form hones hkeys hkids
    generalize mendN (.mk 0 false (n.l.set (way n.l key) c')) (way n.l key) = m at hmend ⊢
    generalize N.mk 0 false (n.l.set (way n.l key) c') = M at hmend hwk
    clear hM hMt
    rw [eT_br hn.1 hone] at hw ⊢
    refine fnS [] mx Tryz.func88 rfl rfl (by kernel_rfl) ?_; simp only [Tryz.ntmps88, List.length_cons, List.length_nil, Nat.reduceAdd, Nat.reduceSub, List.reduceReplicate, List.cons_append, List.nil_append]; simp (maxDischargeDepth := 12) (maxSteps := 1000000) -implicitDefEqProofs only [Tryz.ntmps88, go_sem, Nat.reduceAdd, Nat.reduceSub, Nat.reduceMul, Nat.reduceLeDiff, Nat.reduceEqDiff, Nat.reduceGT, Nat.reduceBEq, reduceCtorEq, ↓reduceIte, Int.reduceToNat, Int.reduceLE, Int.reduceLT, Int.reduceNe, Int.reduceEq,  t3, t8]
    unfold brT
    simp (maxDischargeDepth := 12) (maxSteps := 1000000) -implicitDefEqProofs only [go_sem, Nat.reduceAdd, Nat.reduceSub, Nat.reduceMul, Nat.reduceLeDiff, Nat.reduceEqDiff, Nat.reduceGT, Nat.reduceBEq, reduceCtorEq, ↓reduceIte, Int.reduceToNat, Int.reduceLE, Int.reduceLT, Int.reduceNe, Int.reduceEq, t3, t8]
    intro b b1
    refine use1 (hw _ (by omega) hg.2.1) ?_
    simp (maxDischargeDepth := 12) (maxSteps := 1000000) -implicitDefEqProofs only [go_sem, Nat.reduceAdd, Nat.reduceSub, Nat.reduceMul, Nat.reduceLeDiff, Nat.reduceEqDiff, Nat.reduceGT, Nat.reduceBEq, reduceCtorEq, ↓reduceIte, Int.reduceToNat, Int.reduceLE, Int.reduceLT, Int.reduceNe, Int.reduceEq, t3, t8]
    refine useK (cloneT w0 (dK n.l) _ (by rw [dK_len]; omega)) ?_
    rintro d' S' ⟨l1, rfl, rfl⟩
    simp (maxDischargeDepth := 12) (maxSteps := 1000000) -implicitDefEqProofs only [go_sem, Nat.reduceAdd, Nat.reduceSub, Nat.reduceMul, Nat.reduceLeDiff, Nat.reduceEqDiff, Nat.reduceGT, Nat.reduceBEq, reduceCtorEq, ↓reduceIte, Int.reduceToNat, Int.reduceLE, Int.reduceLT, Int.reduceNe, Int.reduceEq, t3, t8, dFn]
    refine ⟨hlt, fun x hx => ?_⟩
    cases getE hc hx
    rw [e2]
    refine useQ (ihk _ hgk (by omega) hf (by simp (maxDischargeDepth := 12) (maxSteps := 1000000) -implicitDefEqProofs only [go_sem, Nat.reduceAdd, Nat.reduceSub, Nat.reduceMul, Nat.reduceLeDiff, Nat.reduceEqDiff, Nat.reduceGT, Nat.reduceBEq, reduceCtorEq, ↓reduceIte, Int.reduceToNat, Int.reduceLE, Int.reduceLT, Int.reduceNe, Int.reduceEq, t3]) (by simp (maxDischargeDepth := 12) (maxSteps := 1000000) -implicitDefEqProofs only [go_sem, Nat.reduceAdd, Nat.reduceSub, Nat.reduceMul, Nat.reduceLeDiff, Nat.reduceEqDiff, Nat.reduceGT, Nat.reduceBEq, reduceCtorEq, ↓reduceIte, Int.reduceToNat, Int.reduceLE, Int.reduceLT, Int.reduceNe, Int.reduceEq, t8, dFn])) ?_
    simp (maxDischargeDepth := 12) (maxSteps := 1000000) -implicitDefEqProofs only [go_sem, Nat.reduceAdd, Nat.reduceSub, Nat.reduceMul, Nat.reduceLeDiff, Nat.reduceEqDiff, Nat.reduceGT, Nat.reduceBEq, reduceCtorEq, ↓reduceIte, Int.reduceToNat, Int.reduceLE, Int.reduceLT, Int.reduceNe, Int.reduceEq]
    refine ⟨hlt, hlt, fun y hy => ?_⟩
    refine use1 (hmend _) ?_ ⟨hwk, .refl _, trivial⟩
    simp (maxDischargeDepth := 12) (maxSteps := 1000000) -implicitDefEqProofs only [go_sem, Nat.reduceAdd, Nat.reduceSub, Nat.reduceMul, Nat.reduceLeDiff, Nat.reduceEqDiff, Nat.reduceGT, Nat.reduceBEq, reduceCtorEq, ↓reduceIte, Int.reduceToNat, Int.reduceLE, Int.reduceLT, Int.reduceNe, Int.reduceEq]
end Go.Proofs.YtfieabidajilmaaGreat

namespace Go.Proofs.YtfieabidajilmaaGreat
open Aml Go
set_option linter.unusedVariables false
set_option linter.unusedSimpArgs false
set_option maxRecDepth 100000
def emN : N := .mk 0 true []
theorem em_good : Good 0 emN := ⟨rfl, List.Pairwise.nil, fun c hc => by cases hc⟩
theorem em_root : RootG emN := ⟨0, em_good, by decide, .inl rfl⟩
theorem emP (w0 : W0) (S : St) : ACall Tryz.prog w0 38 [] S (fun e S' => e = eT emN ∧ S' = S) := by
  refine fnS [] mx Tryz.func38 rfl rfl (by kernel_rfl) ?_; simp (maxDischargeDepth := 12) (maxSteps := 1000000) -implicitDefEqProofs only [Tryz.ntmps38, go_sem, Nat.reduceAdd, Nat.reduceSub, Nat.reduceMul, Nat.reduceLeDiff, Nat.reduceEqDiff, Nat.reduceGT, Nat.reduceBEq, reduceCtorEq, ↓reduceIte, Int.reduceToNat, Int.reduceLE, Int.reduceLT, Int.reduceNe, Int.reduceEq]
  intro b
  exact .agg (.cons (.refl _) (.cons (.refl _) (.cons (.nil _ _ _) (.cons (.nil _ _ _) (.cons (.nil _ _ _) .nil)))))
theorem one_key {key : ByteArray} {l : List C} (h : Rise l) (ha : ∀ c, c ∈ l → c.key = key) : l.length ≤ 1 := by
  cases l with
  | nil => simp
  | cons a l =>
    cases l with
    | nil => simp
    | cons b l =>
      have h1 : ltS a.key b.key = true := (List.pairwise_cons.1 h).1 b List.mem_cons_self
      rw [ha a List.mem_cons_self, ha b (List.mem_cons_of_mem _ List.mem_cons_self), ltS_irrefl] at h1
      cases h1
theorem del_empty {key : ByteArray} {n : N} (h : RootG n) (hf : (findN key n).isSome = true) (hl : (Del key n).l = []) : Del key n = emN := by
  have hen := (root_del key h).2
  obtain ⟨d, hg, hs, h2⟩ := h
  cases d with
  | zero =>
    unfold Del at hl ⊢
    rw [if_pos hf] at hl ⊢
    rw [withoutN_leaf key n hg.1] at hl ⊢
    have e1 := topN_else (.mk 0 true (n.l.filter fun c => !eqS c.key key)) (.inl rfl)
    split at e1
    · rw [e1] at hl ⊢
      rw [N.l_mk] at hl
      rw [hl]; rfl
    · rw [e1] at hl
      have hnd : Nd 0 (.mk 0 true (n.l.filter fun c => !eqS c.key key)) := by
        have := nd_without (key := key) (good_nd hg)
        rwa [withoutN_leaf key n hg.1] at this
      have hM : Nd 1 (.mk 0 false [cellN noS (.mk 0 true (n.l.filter fun c => !eqS c.key key))]) := ⟨rfl, List.cons_ne_nil _ _, fun c hc => by
        rw [N.l_mk, List.mem_singleton] at hc; subst hc; exact cell_ok (by rw [noS_size]; omega) hnd⟩
      have := (nd_mend hM (Nat.lt_add_one 0)).2.1
      exact absurd hl this
  | succ d =>
    exfalso
    rw [enN_eq, hl, List.flatMap_nil] at hen
    have hlen : 2 ≤ n.l.length := h2.resolve_left (by rw [hg.1]; simp)
    have hall : ∀ c, c ∈ enN n → c.key = key := fun c hc => by
      have := List.filter_eq_nil_iff.1 hen.symm c hc
      simp at this
      exact eqS_iff.1 this
    have h1 := one_key (good_rise hg) hall
    rw [enN_eq, hg.1] at h1
    match hn : n.l, hlen with
    | a :: b :: r, _ =>
      obtain ⟨x, hx⟩ := cell_ne (hg.2.2.cell a (by rw [hn]; exact List.mem_cons_self))
      obtain ⟨y, hy⟩ := cell_ne (hg.2.2.cell b (by rw [hn]; exact List.mem_cons_of_mem _ List.mem_cons_self))
      rw [hn, List.flatMap_cons, List.flatMap_cons] at h1
      have p1 := List.length_pos_of_mem hx
      have p2 := List.length_pos_of_mem hy
      simp only [List.length_append] at h1
      omega
set_option maxHeartbeats 8000000 in
theorem DelP (w0 : W0) (key : ByteArray) (n : N) (S : St) (h : RootG n) (ht : ∀ d, Nd d n → totN n + 2 * d + 16 ≤ 131000) : ACall Tryz.prog w0 49 [eT n, dS key] S (fun e S' => e = .tup [eT (Del key n), dB (findN key n).isSome] ∧ S' = S) := by
  have hde := del_empty (key := key) h
  obtain ⟨d, hg, hs, h2⟩ := h
  have hn := good_nd hg
  have htd := ht d hn
  have h1 := fun S => findP w0 key d n S hg (by omega)
  have h3 := fun k b S => downP w0 key k b d n S hg (by omega)
  have h4 := tot_without (key := key) hn
  have h5 := fun S => topP w0 d (withoutN key n) S (nd_without hn) (by omega)
  have hDel : (findN key n).isSome = true → Del key n = topN (withoutN key n) := fun hf => by unfold Del; rw [if_pos hf]
  have hDel0 : (findN key n).isSome = false → Del key n = n := fun hf => by unfold Del; rw [if_neg (by rw [hf]; simp)]
  generalize Del key n = D at *
  generalize topN (withoutN key n) = q at *
  generalize withoutN key n = p at *
  generalize findN key n = fo at *
  refine fnS [] mx Tryz.func49 rfl rfl (by kernel_rfl) ?_; simp (maxDischargeDepth := 12) (maxSteps := 1000000) -implicitDefEqProofs only [Tryz.ntmps49, go_sem, Nat.reduceAdd, Nat.reduceSub, Nat.reduceMul, Nat.reduceLeDiff, Nat.reduceEqDiff, Nat.reduceGT, Nat.reduceBEq, reduceCtorEq, ↓reduceIte, Int.reduceToNat, Int.reduceLE, Int.reduceLT, Int.reduceNe, Int.reduceEq]
  intro b b1 b2
  refine use1 (h1 _) ?_
  simp (maxDischargeDepth := 12) (maxSteps := 1000000) -implicitDefEqProofs only [go_sem, Nat.reduceAdd, Nat.reduceSub, Nat.reduceMul, Nat.reduceLeDiff, Nat.reduceEqDiff, Nat.reduceGT, Nat.reduceBEq, reduceCtorEq, ↓reduceIte, Int.reduceToNat, Int.reduceLE, Int.reduceLT, Int.reduceNe, Int.reduceEq]
  refine ⟨fun hy b3 => ?_, fun hno => ?_⟩
  · rw [hDel hy] at hde ⊢
    refine use1 (h3 b1.n b3.n _ hy (by simp (maxDischargeDepth := 12) (maxSteps := 1000000) -implicitDefEqProofs only [go_sem, Nat.reduceAdd, Nat.reduceSub, Nat.reduceMul, Nat.reduceLeDiff, Nat.reduceEqDiff, Nat.reduceGT, Nat.reduceBEq, reduceCtorEq, ↓reduceIte, Int.reduceToNat, Int.reduceLE, Int.reduceLT, Int.reduceNe, Int.reduceEq]) (by simp (maxDischargeDepth := 12) (maxSteps := 1000000) -implicitDefEqProofs only [go_sem, Nat.reduceAdd, Nat.reduceSub, Nat.reduceMul, Nat.reduceLeDiff, Nat.reduceEqDiff, Nat.reduceGT, Nat.reduceBEq, reduceCtorEq, ↓reduceIte, Int.reduceToNat, Int.reduceLE, Int.reduceLT, Int.reduceNe, Int.reduceEq, dFn])) ?_
    simp (maxDischargeDepth := 12) (maxSteps := 1000000) -implicitDefEqProofs only [go_sem, Nat.reduceAdd, Nat.reduceSub, Nat.reduceMul, Nat.reduceLeDiff, Nat.reduceEqDiff, Nat.reduceGT, Nat.reduceBEq, reduceCtorEq, ↓reduceIte, Int.reduceToNat, Int.reduceLE, Int.reduceLT, Int.reduceNe, Int.reduceEq]
    refine use1 (h5 _) ?_
    simp (maxDischargeDepth := 12) (maxSteps := 1000000) -implicitDefEqProofs only [go_sem, Nat.reduceAdd, Nat.reduceSub, Nat.reduceMul, Nat.reduceLeDiff, Nat.reduceEqDiff, Nat.reduceGT, Nat.reduceBEq, reduceCtorEq, ↓reduceIte, Int.reduceToNat, Int.reduceLE, Int.reduceLT, Int.reduceNe, Int.reduceEq]
    intro b4
    refine ⟨fun hz => ?_, fun _ => by rw [hy]; exact .refl _⟩
    have hq := hde hy (List.eq_nil_of_length_eq_zero (by omega))
    refine use1 (emP w0 _) ?_
    simp (maxDischargeDepth := 12) (maxSteps := 1000000) -implicitDefEqProofs only [go_sem, Nat.reduceAdd, Nat.reduceSub, Nat.reduceMul, Nat.reduceLeDiff, Nat.reduceEqDiff, Nat.reduceGT, Nat.reduceBEq, reduceCtorEq, ↓reduceIte, Int.reduceToNat, Int.reduceLE, Int.reduceLT, Int.reduceNe, Int.reduceEq]
    rw [hy, hq]; exact .refl _
  · rw [hDel0 hno, hno]; exact .refl _
end Go.Proofs.YtfieabidajilmaaGreat

namespace Aml
open Go Go.RowKit
set_option linter.unusedVariables false
set_option linter.unusedSimpArgs false
/-- Less, equal or more, as a number. -/
def cmpS (a b : ByteArray) : Int := if Op.bytesLess a.data.toList b.data.toList = true then -1 else if Op.bytesLess b.data.toList a.data.toList = true then 1 else 0
theorem cmp_less : ∀ x y : List UInt8, Lib.compareBytes x y = if Op.bytesLess x y = true then -1 else if Op.bytesLess y x = true then 1 else 0
  | [], [] => rfl
  | [], _ :: _ => rfl
  | _ :: _, [] => rfl
  | x :: a, y :: b => by
    unfold Lib.compareBytes Op.bytesLess
    by_cases h1 : x < y
    · simp [h1]
    · by_cases h2 : y < x
      · have : (x == y) = false := by
          rw [beq_eq_false_iff_ne]; rintro rfl; exact h1 h2
        simp [h1, h2, this]
      · have : x = y := by
          have := UInt8.le_antisymm (UInt8.not_lt.1 h2) (UInt8.not_lt.1 h1)
          exact this
        subst this
        simp [h1, cmp_less a b]
section
variable {P : Program} {w0 : W0}
theorem cmpX {f : FuncId} {fn : Func} (hf : P.funcs[f]? = some fn) (hname : (fn.name == "runtime.NumGoroutine") = false) (hb : fn.body.isNone = true) (hn : Extern.findNext fn = none) (he : Extern.find fn = some Extern.BytealgCompare.compare)
    (a b : ByteArray) (S : St) {K : DV → St → Prop} (hk : K (.v (.int .i64 (cmpS a b))) S) : @XC P w0 f [.v (.string a), .v (.string b)] S ⟨K⟩ := by
  intro g w us h r
  obtain ⟨u1, us1, rfl, r1, r⟩ := r.uncons
  obtain ⟨u2, us2, rfl, r2, r⟩ := r.uncons
  have : us2 = [] := List.eq_nil_of_length_eq_zero r.len.symm
  subst this
  cases r1; cases r2
  refine ⟨.int .i64 (cmpS a b), w, g, _, S, ?_, .refl g, h, .v _ rfl, hk⟩
  rw [run_callFunc_extern hf hname hb hn he]
  have := Lib.run_compareString (P := P) a b w
  rw [cmp_less] at this
  unfold cmpS
  rw [show [Value.string a, Value.string b].toArray = #[.string a, .string b] from rfl, this]; rfl
theorem overX {f : FuncId} {fn : Func} (hf : P.funcs[f]? = some fn) (hname : (fn.name == "runtime.NumGoroutine") = false) (hb : fn.body.isNone = true) (hn : Extern.findNext fn = none) {t tb e : TypeId} (he : Extern.find fn = some (Extern.SlicesOverlaps.overlaps #[t, t] #[tb]))
    (ht : P.underlying t = some (.slice e)) {size : Nat} (hz : ∀ w, (Go.sizeOf e).run P w = .ok size w) {s : Nat} (hs : 0 < s) (fl : Bool) (xs : List DV) {b : Nat} {ds : List DV} {S : St} (hbx : lk S.box b = some ds) (o n c : Nat) {K : DV → St → Prop} (hk : K (.v (.bool false)) S) :
    @XC P w0 f [.sl s fl xs, .v (.slice (some ⟨b, o, none⟩) n c)] S ⟨K⟩ := by
  intro g w us h r
  obtain ⟨u1, us1, rfl, r1, r⟩ := r.uncons
  obtain ⟨u2, us2, rfl, r2, r⟩ := r.uncons
  have : us2 = [] := List.eq_nil_of_length_eq_zero r.len.symm
  subst this
  cases r2
  refine ⟨.bool false, w, g, _, S, ?_, .refl g, h, .v _ rfl, hk⟩
  rw [run_callFunc_extern hf hname hb hn he]
  obtain ⟨ow, ho⟩ := h.open_
  obtain ⟨_, _, hnone, cs, te, hcs, _, _⟩ := ho.box b ds (lk_mem hbx)
  suffices hrun : (Extern.SlicesOverlaps.overlaps #[t, t] #[tb] #[u1, .slice (some ⟨b, o, none⟩) n c]).run P w = .ok (.bool false) w by
    rw [show [u1, Value.slice (some ⟨b, o, none⟩) n c].toArray = #[u1, .slice (some ⟨b, o, none⟩) n c] from rfl, hrun]; rfl
  rcases rep_sl r1 with ⟨he, o', c', hv', _⟩ | ⟨b', o', c', us, hv', hr, hfl, hlc, hcm, hzz, hone, hc⟩
  · rw [hv']
    cases o' with
    | none =>
      change Sem.run P (α := Value) (do
        let some t := (#[t, t] : Array TypeId)[0]? | stuck "slices.overlaps: no parameter types"
        let .slice elem ← underlying t | stuck "slices.overlaps: slice type expected"
        let size ← sizeOf elem
        pure (Value.bool false)) w = _
      simp [run_underlying ht, hz]
    | some a =>
      change Sem.run P (α := Value) (do
        let some t := (#[t, t] : Array TypeId)[0]? | stuck "slices.overlaps: no parameter types"
        let .slice elem ← underlying t | stuck "slices.overlaps: slice type expected"
        let size ← sizeOf elem
        match (some a : Option Addr), (some ⟨b, o, none⟩ : Option Addr) with
        | some a, some b =>
          if 0 = 0 ∨ n = 0 ∨ size = 0 then pure (Value.bool false)
          else if a.block != b.block && (← frozen a) && (← frozen b) then unsupported .addressObserved
          else do
            if a.block != b.block then do
              noView a; noView b
              if ← mayBeOne a b then return Value.bool ((← choose (.extern "sameAddr.stringBytes" 2)) == 1)
            pure (Value.bool (a.block == b.block && a.off < b.off + n * size && b.off < a.off + 0 * size))
        | _, _ => pure (Value.bool false)) w = _
      simp [run_underlying ht, hz]
  · rw [hv']
    change Sem.run P (α := Value) (do
      let some t := (#[t, t] : Array TypeId)[0]? | stuck "slices.overlaps: no parameter types"
      let .slice elem ← underlying t | stuck "slices.overlaps: slice type expected"
      let size ← sizeOf elem
      match (some ⟨b', o', none⟩ : Option Addr), (some ⟨b, o, none⟩ : Option Addr) with
      | some a, some b =>
        if xs.length = 0 ∨ n = 0 ∨ size = 0 then pure (Value.bool false)
        else if a.block != b.block && (← frozen a) && (← frozen b) then unsupported .addressObserved
        else do
          if a.block != b.block then do
            noView a; noView b
            if ← mayBeOne a b then return Value.bool ((← choose (.extern "sameAddr.stringBytes" 2)) == 1)
          pure (Value.bool (a.block == b.block && a.off < b.off + n * size && b.off < a.off + xs.length * size))
      | _, _ => pure (Value.bool false)) w = _
    by_cases h0 : xs.length = 0 ∨ n = 0 ∨ size = 0
    · rcases h0 with h0 | h0 | h0
      · have h0 := List.eq_nil_of_length_eq_zero h0
        simp [run_underlying ht, hz, h0]
      · simp [run_underlying ht, hz, h0]
      · simp [run_underlying ht, hz, h0]
    · have hu : 0 < us.length := by have := hr.len; omega
      have h1 : ¬ xs = [] := fun e => h0 (.inl (by rw [e]; rfl))
      have h2 : ¬ n = 0 := fun e => h0 (.inr (.inl e))
      have h3 : ¬ size = 0 := fun e => h0 (.inr (.inr e))
      have hsz := hzz 0 us[0] (List.getElem?_eq_getElem hu)
      have himm := hc 0 us[0] 0 (us[0].cells[0]'(by omega)) (List.getElem?_eq_getElem hu) (Array.getElem?_eq_getElem (by omega))
      have hne : b' ≠ b := by rintro rfl; rw [hnone] at himm; cases himm
      have hcell := ho.imm _ _ _ himm
      have hbl : w.heap[b]? = some (.cells cs te (0, 0)) := hcs
      have hfb : ∀ i, w.frozen? ⟨b, i, none⟩ = false := fun i => by simp [World.frozen?, hbl]
      have hsb : w.shape? b = some (te, cs.size) := by simp [World.shape?, hbl]
      obtain ⟨ta, ka, hsa⟩ : ∃ ta ka, w.shape? b' = some (ta, ka + 1) := by
        unfold World.cell? at hcell
        unfold World.shape?
        split at hcell
        · rename_i cc tt ff e1
          simp only [Option.isSome_none, Bool.false_eq_true, if_false] at hcell
          have : 0 < cc.size := by
            have := (Array.getElem?_eq_some_iff.1 hcell).1
            omega
          simp only at e1
          rw [e1]
          exact ⟨tt, cc.size - 1, by simp only [Option.some.injEq, Prod.mk.injEq, true_and]; omega⟩
        · cases hcell
      have hnb : (b' != b) = true := by simpa using hne
      have hnb' : (b' == b) = false := by simpa using hne
      have hfb1 := hfb o
      have hfb2 := hfb cs.size
      cases hfa : w.frozen? ⟨b', o', none⟩ <;> cases hfe : w.frozen? ⟨b', ka + 1, none⟩ <;>
        simp [run_underlying ht, hz, h1, h2, h3, hne, hnb, hnb', frozen, noView, viewAt, mayBeOne, stringish, shape, Sem.run, hsa, hsb, hfa, hfe, hfb1, hfb2]
end
end Aml

namespace Go.Proofs.YtfieabidajilmaaGreat
open Aml Go
set_option linter.unusedVariables false
set_option linter.unusedSimpArgs false
set_option maxRecDepth 100000
/-- A named tree, as the program has it. -/
@[go_sem] def dBk (c : C) : DV := .agg [dS c.key, dI (kid0 c).page, dB (kid0 c).leaf, .sl 1 false ((kid0 c).l.map fun c => dS c.key), .sl 2 false ((if (kid0 c).leaf then (kid0 c).l else []).map dV2), .sl 5 false ((kidsOf (kid0 c)).map dT)]
/-- A view, as the program has it. -/
@[go_sem] def eV (n : N) (l : List C) : DV := .agg [dI n.page, dB n.leaf, .sl 1 false (n.l.map fun c => dS c.key), .sl 2 false ((if n.leaf then n.l else []).map dV2), .sl 5 false ((kidsOf n).map dT), .sl 6 false (l.map dBk)]
theorem cmpS_lt (a b : ByteArray) : cmpS a b < 0 ↔ ltS a b = true := by
  show (if ltS a b = true then (-1 : Int) else if ltS b a = true then 1 else 0) < 0 ↔ _
  split
  · rename_i h; simp [h]
  · rename_i h
    constructor
    · intro k; split at k <;> omega
    · intro k; exact absurd k h
theorem cmpS_eq (a b : ByteArray) : cmpS a b = 0 ↔ eqS a b = true := by
  show (if ltS a b = true then (-1 : Int) else if ltS b a = true then 1 else 0) = 0 ↔ _
  split
  · rename_i h
    rw [eqS_no.2 (ltS_ne h)]; simp
  · rename_i h
    split
    · rename_i k
      rw [eqS_no.2 (ltS_ne k).symm]; simp
    · rename_i k
      rcases ltS_tri a b with q | rfl | q
      · exact absurd q h
      · simp [eqS_self]
      · exact absurd q k
theorem cmpW (w0 : W0) (a b : ByteArray) (S : St) : ACall Tryz.prog w0 80 [dS a, dS b] S (fun d S' => d = dI (cmpS a b) ∧ S' = S) := by
  refine fnS [] mx Tryz.func80 rfl rfl (by kernel_rfl) ?_; simp (maxDischargeDepth := 12) (maxSteps := 1000000) -implicitDefEqProofs only [Tryz.ntmps80, go_sem, Nat.reduceAdd, Nat.reduceSub, Nat.reduceMul, Nat.reduceLeDiff, Nat.reduceEqDiff, Nat.reduceGT, Nat.reduceBEq, reduceCtorEq, ↓reduceIte, Int.reduceToNat, Int.reduceLE, Int.reduceLT, Int.reduceNe, Int.reduceEq]
  refine use1 (r := dI (cmpS a b)) ?_ ?_
  · refine fnS [] mx Tryz.func115 rfl rfl (by kernel_rfl) ?_; simp (maxDischargeDepth := 12) (maxSteps := 1000000) -implicitDefEqProofs only [Tryz.ntmps115, go_sem, Nat.reduceAdd, Nat.reduceSub, Nat.reduceMul, Nat.reduceLeDiff, Nat.reduceEqDiff, Nat.reduceGT, Nat.reduceBEq, reduceCtorEq, ↓reduceIte, Int.reduceToNat, Int.reduceLE, Int.reduceLT, Int.reduceNe, Int.reduceEq]
    refine cmpX Tryz.func140 (by kernel_rfl) rfl (by kernel_rfl) (by kernel_rfl) _ _ _ ?_
    simp (maxDischargeDepth := 12) (maxSteps := 1000000) -implicitDefEqProofs only [go_sem, Nat.reduceAdd, Nat.reduceSub, Nat.reduceMul, Nat.reduceLeDiff, Nat.reduceEqDiff, Nat.reduceGT, Nat.reduceBEq, reduceCtorEq, ↓reduceIte, Int.reduceToNat, Int.reduceLE, Int.reduceLT, Int.reduceNe, Int.reduceEq]
  · simp (maxDischargeDepth := 12) (maxSteps := 1000000) -implicitDefEqProofs only [go_sem, Nat.reduceAdd, Nat.reduceSub, Nat.reduceMul, Nat.reduceLeDiff, Nat.reduceEqDiff, Nat.reduceGT, Nat.reduceBEq, reduceCtorEq, ↓reduceIte, Int.reduceToNat, Int.reduceLE, Int.reduceLT, Int.reduceNe, Int.reduceEq]
theorem cmpB (w0 : W0) (c : C) (key : ByteArray) (S : St) : ACall Tryz.prog w0 79 [dBk c, dS key] S (fun d S' => d = dI (cmpS c.key key) ∧ S' = S) := by
  refine fnS [] mx Tryz.func79 rfl rfl (by kernel_rfl) ?_; simp (maxDischargeDepth := 12) (maxSteps := 1000000) -implicitDefEqProofs only [Tryz.ntmps79, go_sem, Nat.reduceAdd, Nat.reduceSub, Nat.reduceMul, Nat.reduceLeDiff, Nat.reduceEqDiff, Nat.reduceGT, Nat.reduceBEq, reduceCtorEq, ↓reduceIte, Int.reduceToNat, Int.reduceLE, Int.reduceLT, Int.reduceNe, Int.reduceEq]
  intro b
  refine use1 (cmpW w0 _ _ _) ?_
  simp (maxDischargeDepth := 12) (maxSteps := 1000000) -implicitDefEqProofs only [go_sem, Nat.reduceAdd, Nat.reduceSub, Nat.reduceMul, Nat.reduceLeDiff, Nat.reduceEqDiff, Nat.reduceGT, Nat.reduceBEq, reduceCtorEq, ↓reduceIte, Int.reduceToNat, Int.reduceLE, Int.reduceLT, Int.reduceNe, Int.reduceEq]
set_option maxHeartbeats 4000000 in
theorem searchB (w0 : W0) (l : List C) (key : ByteArray) (S : St) (hr : Rise l) (hb : l.length ≤ 1073741824) :
    ACall Tryz.prog w0 78 [.sl 6 false (l.map dBk), dS key, .v (.func (.func 79) #[] #[])] S (fun d S' => d = .tup [dI (idxN l key), dB (hasN l key)] ∧ S' = S) := by
  have hl := rise_mono hr key
  refine fnS [] mx Tryz.func78 rfl rfl (by kernel_rfl) ?_; simp (maxDischargeDepth := 12) (maxSteps := 1000000) -implicitDefEqProofs only [Tryz.ntmps78, go_sem, Nat.reduceAdd, Nat.reduceSub, Nat.reduceMul, Nat.reduceLeDiff, Nat.reduceEqDiff, Nat.reduceGT, Nat.reduceBEq, reduceCtorEq, ↓reduceIte, Int.reduceToNat, Int.reduceLE, Int.reduceLT, Int.reduceNe, Int.reduceEq]
  refine loopK [] [0, 1, 2, 8, 9, 10] (fun s : Nat × Nat => [(9, dI s.1), (10, dI s.2)]) (fun _ => S) (fun s => s.1 ≤ s.2 ∧ s.2 ≤ l.length ∧ (∀ (i : Nat) a, i < s.1 → l[i]? = some a → ltS a.key key = true) ∧ ∀ (i : Nat) a, s.2 ≤ i → l[i]? = some a → ltS a.key key = false) (fun s => s.2 - s.1) (0, l.length) mx (by kernel_rfl) ?_ ?_
  · simp (maxDischargeDepth := 12) (maxSteps := 1000000) -implicitDefEqProofs only [go_sem, Nat.reduceAdd, Nat.reduceSub, Nat.reduceMul, Nat.reduceLeDiff, Nat.reduceEqDiff, Nat.reduceGT, Nat.reduceBEq, reduceCtorEq, ↓reduceIte, Int.reduceToNat, Int.reduceLE, Int.reduceLT, Int.reduceNe, Int.reduceEq]
    exact ⟨Nat.zero_le _, fun i a h => absurd h (by omega), fun i a h e => absurd (List.getElem?_eq_some_iff.1 e).1 (by omega)⟩
  · rintro ⟨i, j⟩ ⟨h1, h2, h3, h4⟩
    simp only at h1 h2 h3 h4
    have eh : IntKind.i64.wrap ((IntKind.u64.wrap (IntKind.i64.wrap ((i : Int) + j))).fdiv (2 ^ min 1 64)) = (((i + j) / 2 : Nat) : Int) := by
      rw [w64 (n := (i : Int) + j) (by omega) (by omega), wu64 (by omega) (by omega), Int.fdiv_eq_ediv_of_nonneg _ (by decide)]
      simp only [show min 1 64 = 1 from rfl, Int.pow_one]
      rw [w64 (by omega) (by omega)]
      omega
    simp (maxDischargeDepth := 12) (maxSteps := 1000000) -implicitDefEqProofs only [go_sem, Nat.reduceAdd, Nat.reduceSub, Nat.reduceMul, Nat.reduceLeDiff, Nat.reduceEqDiff, Nat.reduceGT, Nat.reduceBEq, reduceCtorEq, ↓reduceIte, Int.reduceToNat, Int.reduceLE, Int.reduceLT, Int.reduceNe, Int.reduceEq, eh]
    refine ⟨fun hlt => ⟨by omega, fun a ha => use1 (cmpB w0 a key S) ?_⟩, fun hge => ?_⟩
    · simp (maxDischargeDepth := 12) (maxSteps := 1000000) -implicitDefEqProofs only [go_sem, Nat.reduceAdd, Nat.reduceSub, Nat.reduceMul, Nat.reduceLeDiff, Nat.reduceEqDiff, Nat.reduceGT, Nat.reduceBEq, reduceCtorEq, ↓reduceIte, Int.reduceToNat, Int.reduceLE, Int.reduceLT, Int.reduceNe, Int.reduceEq, eh, cmpS_lt]
      refine ⟨fun hap => ⟨((i + j) / 2 + 1, j), ⟨by simp only; omega, h2, fun x c hx hc => ?_, h4⟩, by simp only; omega, by rw [w64 (by omega) (by omega)]; rfl, rfl⟩, fun hap => ⟨(i, (i + j) / 2), ⟨by simp only; omega, by simp only; omega, h3, fun x c hx hc => ?_⟩, by simp only; omega, rfl, rfl⟩⟩
      · simp only at hx
        exact hl x ((i + j) / 2) c a (by omega) hc ha hap
      · simp only at hx
        refine Bool.eq_false_iff.2 fun hc' => ?_
        have := hl ((i + j) / 2) x a c hx ha hc hc'
        simp only [this] at hap; simp at hap
    · have hij : i = j := by omega
      subst hij
      have hi : idxN l key = i := takeW_len h2 h3 fun c hc => h4 i c (Nat.le_refl _) hc
      refine ⟨fun hlt => ⟨hlt, fun a ha => use1 (cmpB w0 a key S) ?_⟩, fun hn => Wk.tup (.cons (.eq ?_) (.cons (.eq ?_) .nil))⟩
      · simp (maxDischargeDepth := 12) (maxSteps := 1000000) -implicitDefEqProofs only [go_sem, Nat.reduceAdd, Nat.reduceSub, Nat.reduceMul, Nat.reduceLeDiff, Nat.reduceEqDiff, Nat.reduceGT, Nat.reduceBEq, reduceCtorEq, ↓reduceIte, Int.reduceToNat, Int.reduceLE, Int.reduceLT, Int.reduceNe, Int.reduceEq]
        have e : decide (cmpS a.key key = 0) = eqS a.key key := by rw [Bool.eq_iff_iff, decide_eq_true_iff, cmpS_eq]
        unfold hasN; rw [hi, ha, e]
        exact Wk.tup (.cons (.refl _) (.cons (.refl _) .nil))
      · rw [hi]
      · unfold hasN; rw [hi, List.getElem?_eq_none (by omega)]
theorem findV (w0 : W0) (n : N) (l : List C) (key : ByteArray) (S : St) (hr : Rise l) (hb : l.length ≤ 1073741824) :
    ACall Tryz.prog w0 40 [eV n l, dS key] S (fun d S' => d = .tup [dI (idxN l key), dB (hasN l key)] ∧ S' = S) := by
  refine fnS [] mx Tryz.func40 rfl rfl (by kernel_rfl) ?_; simp (maxDischargeDepth := 12) (maxSteps := 1000000) -implicitDefEqProofs only [Tryz.ntmps40, go_sem, Nat.reduceAdd, Nat.reduceSub, Nat.reduceMul, Nat.reduceLeDiff, Nat.reduceEqDiff, Nat.reduceGT, Nat.reduceBEq, reduceCtorEq, ↓reduceIte, Int.reduceToNat, Int.reduceLE, Int.reduceLT, Int.reduceNe, Int.reduceEq]
  intro b
  refine use1 (searchB w0 l key _ hr hb) ?_
  simp (maxDischargeDepth := 12) (maxSteps := 1000000) -implicitDefEqProofs only [go_sem, Nat.reduceAdd, Nat.reduceSub, Nat.reduceMul, Nat.reduceLeDiff, Nat.reduceEqDiff, Nat.reduceGT, Nat.reduceBEq, reduceCtorEq, ↓reduceIte, Int.reduceToNat, Int.reduceLE, Int.reduceLT, Int.reduceNe, Int.reduceEq]
/-- May it be a key? -/
def okKey (k : ByteArray) : Bool := decide (0 < k.size) && decide (k.size ≤ 16)
theorem keyV (w0 : W0) (k : ByteArray) (S : St) : ACall Tryz.prog w0 41 [dS k] S (fun d S' => d = dB (okKey k) ∧ S' = S) := by
  refine fnS [] mx Tryz.func41 rfl rfl (by kernel_rfl) ?_; simp (maxDischargeDepth := 12) (maxSteps := 1000000) -implicitDefEqProofs only [Tryz.ntmps41, go_sem, Nat.reduceAdd, Nat.reduceSub, Nat.reduceMul, Nat.reduceLeDiff, Nat.reduceEqDiff, Nat.reduceGT, Nat.reduceBEq, reduceCtorEq, ↓reduceIte, Int.reduceToNat, Int.reduceLE, Int.reduceLT, Int.reduceNe, Int.reduceEq]
  have e : eqS k { data := #[] } = !decide (0 < k.size) := by
    have h1 : eqS k { data := #[] } = decide (k.data.toList = []) := rfl
    have h2 : k.size = k.data.toList.length := rfl
    rw [h1, h2]
    cases k.data.toList <;> simp
  rw [e]
  unfold okKey
  refine ⟨fun h => ?_, fun h => ?_⟩
  · rw [Bool.not_eq_false'] at h
    rw [h, Bool.true_and, Bool.eq_iff_iff, decide_eq_true_iff, decide_eq_true_iff]; omega
  · rw [Bool.not_eq_true'] at h
    rw [h]; rfl
theorem emptyV (w0 : W0) (S : St) : ACall Tryz.prog w0 9 [] S (fun d S' => d = eV emN [] ∧ S' = S) := by
  refine fnS [] mx Tryz.func9 rfl rfl (by kernel_rfl) ?_; simp (maxDischargeDepth := 12) (maxSteps := 1000000) -implicitDefEqProofs only [Tryz.ntmps9, go_sem, Nat.reduceAdd, Nat.reduceSub, Nat.reduceMul, Nat.reduceLeDiff, Nat.reduceEqDiff, Nat.reduceGT, Nat.reduceBEq, reduceCtorEq, ↓reduceIte, Int.reduceToNat, Int.reduceLE, Int.reduceLT, Int.reduceNe, Int.reduceEq]
  intro b
  refine use1 (emP w0 _) ?_
  simp (maxDischargeDepth := 12) (maxSteps := 1000000) -implicitDefEqProofs only [go_sem, Nat.reduceAdd, Nat.reduceSub, Nat.reduceMul, Nat.reduceLeDiff, Nat.reduceEqDiff, Nat.reduceGT, Nat.reduceBEq, reduceCtorEq, ↓reduceIte, Int.reduceToNat, Int.reduceLE, Int.reduceLT, Int.reduceNe, Int.reduceEq]
theorem cloneB (w0 : W0) (l : List DV) (S : St) (h0 : l.length ≤ 1048576) : ACall Tryz.prog w0 43 [dR 6 l] S fun d S' => ∃ b : FN S.acc, d = .acc b.n l.length ∧ S' = ⟨S.box, (b.n, .arr 6 l) :: S.acc⟩ := by
  refine nilK 6 (by omega) ?_
  refine fnO [] mx Tryz.func43 rfl rfl (by kernel_rfl) ?_; simp (maxDischargeDepth := 12) (maxSteps := 1000000) -implicitDefEqProofs only [Tryz.ntmps43, go_sem, Nat.reduceAdd, Nat.reduceSub, Nat.reduceMul, Nat.reduceLeDiff, Nat.reduceEqDiff, Nat.reduceGT, Nat.reduceBEq, reduceCtorEq, ↓reduceIte, Int.reduceToNat, Int.reduceLE, Int.reduceLT, Int.reduceNe, Int.reduceEq]
  intro b hb
  refine ⟨fun h1 => .inl ⟨Classical.byContradiction fun hn => ?_, 0, rfl⟩, fun h1 => ⟨by omega, by unfold maxLen; omega, fun c => .inr ⟨c, rfl, rfl⟩⟩⟩
  rw [hb hn] at h1; cases h1
set_option maxHeartbeats 1000000 in
theorem numV (w0 : W0) (S : St) : ACall Tryz.prog w0 85 [.v (.int .u64 0), dI 2] S (fun d S' => ∃ l : FN S.acc, d = .acc l.n 2 ∧ S' = ⟨S.box, (l.n, .arr 1 [.v (.int .u8 0), .v (.int .u8 0)]) :: S.acc⟩) := by
  refine fnO [] mx Tryz.func85 rfl rfl (by kernel_rfl) ?_; simp (maxDischargeDepth := 12) (maxSteps := 1000000) -implicitDefEqProofs only [Tryz.ntmps85, go_sem, Nat.reduceAdd, Nat.reduceSub, Nat.reduceMul, Nat.reduceLeDiff, Nat.reduceEqDiff, Nat.reduceGT, Nat.reduceBEq, reduceCtorEq, ↓reduceIte, Int.reduceToNat, Int.reduceLE, Int.reduceLT, Int.reduceNe, Int.reduceEq]
  refine ⟨fun h => absurd h (by omega), fun _ => ⟨by omega, fun b => ?_⟩⟩
  refine loopN [] 2 [0, 1, 5, 16, 17] (fun k => [(17, dI k)]) (fun _ => ⟨S.box, (b.n, .arr 1 [.v (.int .u8 0), .v (.int .u8 0)]) :: S.acc⟩) (fun _ => True) mx (by kernel_rfl) ?_ ?_
  · simp (maxDischargeDepth := 12) (maxSteps := 1000000) -implicitDefEqProofs only [go_sem, Nat.reduceAdd, Nat.reduceSub, Nat.reduceMul, Nat.reduceLeDiff, Nat.reduceEqDiff, Nat.reduceGT, Nat.reduceBEq, reduceCtorEq, ↓reduceIte, Int.reduceToNat, Int.reduceLE, Int.reduceLT, Int.reduceNe, Int.reduceEq]
  · intro k hk _
    simp (maxDischargeDepth := 12) (maxSteps := 1000000) -implicitDefEqProofs only [go_sem, Nat.reduceAdd, Nat.reduceSub, Nat.reduceMul, Nat.reduceLeDiff, Nat.reduceEqDiff, Nat.reduceGT, Nat.reduceBEq, reduceCtorEq, ↓reduceIte, Int.reduceToNat, Int.reduceLE, Int.reduceLT, Int.reduceNe, Int.reduceEq]
    refine ⟨fun hlt => ?_, fun _ => ⟨b, rfl, rfl⟩⟩
    have : k = 0 ∨ k = 1 := by omega
    rcases this with rfl | rfl
    · exact ⟨by decide, by decide, by decide, _, rfl, rfl, by omega, by decide, Aml.Sub.refl _⟩
    · exact ⟨by decide, by decide, by decide, _, rfl, rfl, by omega, by decide, Aml.Sub.refl _⟩
theorem nowhereV (w0 : W0) (S : St) : ACall Tryz.prog w0 45 [] S (fun d S' => d = dS ⟨#[0, 0]⟩ ∧ S' = S) := by
  refine fnS [] mx Tryz.func45 rfl rfl (by kernel_rfl) ?_; simp (maxDischargeDepth := 12) (maxSteps := 1000000) -implicitDefEqProofs only [Tryz.ntmps45, go_sem, Nat.reduceAdd, Nat.reduceSub, Nat.reduceMul, Nat.reduceLeDiff, Nat.reduceEqDiff, Nat.reduceGT, Nat.reduceBEq, reduceCtorEq, ↓reduceIte, Int.reduceToNat, Int.reduceLE, Int.reduceLT, Int.reduceNe, Int.reduceEq]
  refine useK (numV w0 S) ?_
  rintro d S' ⟨l, rfl, rfl⟩
  simp (maxDischargeDepth := 12) (maxSteps := 1000000) -implicitDefEqProofs only [go_sem, Nat.reduceAdd, Nat.reduceSub, Nat.reduceMul, Nat.reduceLeDiff, Nat.reduceEqDiff, Nat.reduceGT, Nat.reduceBEq, reduceCtorEq, ↓reduceIte, Int.reduceToNat, Int.reduceLE, Int.reduceLT, Int.reduceNe, Int.reduceEq]
  exact ⟨by decide, by decide⟩
end Go.Proofs.YtfieabidajilmaaGreat

namespace Go.Proofs.YtfieabidajilmaaGreat
open Aml Go
set_option linter.unusedVariables false
set_option linter.unusedSimpArgs false
set_option maxRecDepth 100000
theorem drop_putL {ds cs : List DV} {o : Nat} (h : o + cs.length ≤ ds.length) : (putL ds o cs).drop o = cs ++ ds.drop (o + cs.length) := by
  unfold putL
  rw [List.append_assoc, List.drop_append_of_le_length (by simp only [List.length_take]; omega), List.drop_eq_nil_of_le (by simp only [List.length_take]; omega), List.nil_append]
theorem put_up {L X Y : List DV} {p q r : Nat} (hX : p + X.length = q) (hY : q + Y.length = r) (hr : r ≤ L.length) : (putL (putL L p X) q Y).take r = L.take p ++ X ++ Y ∧ (putL (putL L p X) q Y).length = L.length := by
  have l1 := putL_len (ds := L) (cs := X) (o := p) (by omega)
  refine ⟨?_, (putL_len (by omega)).trans l1⟩
  rw [← hY, take_putL (by omega), ← hX, take_putL (by omega)]
theorem put_dn {L X Y : List DV} {p q r : Nat} (hX : p + X.length = q) (hY : q + Y.length = r) (hr : r ≤ L.length) : (putL (putL L q Y) p X).take r = L.take p ++ X ++ Y ∧ (putL (putL L q Y) p X).length = L.length := by
  have l1 := putL_len (ds := L) (cs := Y) (o := q) (by omega)
  refine ⟨?_, (putL_len (by omega)).trans l1⟩
  have e : putL (putL L q Y) p X = L.take p ++ X ++ (Y ++ L.drop r) := by
    have h1 := drop_putL (ds := L) (cs := Y) (o := q) (by omega)
    have h2 := take_putL_lo (ds := L) (cs := Y) (o := q) (k := p) (by omega) (by omega)
    rw [hY] at h1
    show (putL L q Y).take p ++ X ++ (putL L q Y).drop (p + X.length) = _
    rw [hX, h1, h2]
  rw [e, ← List.append_assoc]
  have hl : (L.take p ++ X ++ Y).length = r := by simp only [List.length_append, List.length_take]; omega
  rw [← hl, List.take_left]
/-- An own row's cells, cut. -/
theorem rowD_take {s c i : Nat} {xs : List DV} (he : Els s xs) (hi : i ≤ xs.length) : (rowD s c xs).take (i * s) = (xs.take i).flatMap cd := by
  have e : xs.flatMap cd = (xs.take i).flatMap cd ++ (xs.drop i).flatMap cd := by rw [← List.flatMap_append, List.take_append_drop]
  have l1 : ((xs.take i).flatMap cd).length = i * s := by rw [els_len (els_take he _), List.length_take]; congr 1; omega
  unfold rowD
  rw [e, List.append_assoc, List.take_append_of_le_length (by omega), List.take_of_length_le (by omega)]
theorem rowD_mid {s c i : Nat} {xs : List DV} (he : Els s xs) (hi : i ≤ xs.length) : ((rowD s c xs).drop (i * s)).take ((xs.length - i) * s) = (xs.drop i).flatMap cd := by
  have e : xs.flatMap cd = (xs.take i).flatMap cd ++ (xs.drop i).flatMap cd := by rw [← List.flatMap_append, List.take_append_drop]
  have l1 : ((xs.take i).flatMap cd).length = i * s := by rw [els_len (els_take he _), List.length_take]; congr 1; omega
  have l2 : ((xs.drop i).flatMap cd).length = (xs.length - i) * s := by rw [els_len (els_drop he _), List.length_drop]
  unfold rowD
  rw [e, List.append_assoc, List.drop_append, l1, List.drop_eq_nil_of_le (by omega), List.nil_append, Nat.sub_self, List.drop_zero, List.take_append_of_le_length (by omega), List.take_of_length_le (by omega)]
set_option maxHeartbeats 8000000 in
theorem insB1 (w0 : W0) (S : St) (l : Nat) (xs : List DV) (i : Nat) (x : DV) (hl : lk S.acc l = some (.arr 6 xs)) (he : Els 6 xs) (hn : xs ≠ []) (hi : i ≤ xs.length) (hx : okE x = true) (hx6 : (cd x).length = 6) (hb : xs.length ≤ 524288) :
    ACall Tryz.prog w0 42 [.acc l xs.length, dI i, .sl 6 false [x]] S fun d S' => ∃ m : FN S.acc, d = .acc m.n (xs.length + 1) ∧ S' = ⟨S.box, ren S.acc l (m.n, .arr 6 (xs.take i ++ [x] ++ xs.drop i))⟩ := by
  have hyl : (xs.take i ++ [x] ++ xs.drop i).length = xs.length + 1 := by simp only [List.length_append, List.length_take, List.length_drop, List.length_singleton]; omega
  refine (acall_open (P := Tryz.prog) (w0 := w0) (K := fun ys => ys = xs.take i ++ [x] ++ xs.drop i) hl hn (by omega) he fun b c hbn hc1 hc2 => ?_).mono ?_
  · have hrow := rowD_len he hc1
    have htk := fun k h => rowD_take (s := 6) (c := c) (i := k) he h
    have hmd := rowD_mid (s := 6) (c := c) he hi
    generalize rowD 6 c xs = ds at *
    have e1 : IntKind.i64.wrap ((xs.length : Int) + 1) = ((xs.length + 1 : Nat) : Int) := by rw [w64 (by omega) (by omega)]; rfl
    have e2 : IntKind.i64.wrap (((xs.length + 1 : Nat) : Int) - i) = ((xs.length + 1 - i : Nat) : Int) := by rw [w64 (by omega) (by omega)]; omega
    have e3 : IntKind.i64.wrap ((i : Int) + 1) = ((i + 1 : Nat) : Int) := by rw [w64 (by omega) (by omega)]; rfl
    refine fnO [] mx Tryz.func42 rfl rfl (by kernel_rfl) ?_; simp (maxDischargeDepth := 12) (maxSteps := 1000000) -implicitDefEqProofs only [Tryz.ntmps42, go_sem, Nat.reduceAdd, Nat.reduceSub, Nat.reduceMul, Nat.reduceLeDiff, Nat.reduceEqDiff, Nat.reduceGT, Nat.reduceBEq, reduceCtorEq, ↓reduceIte, Int.reduceToNat, Int.reduceLE, Int.reduceLT, Int.reduceNe, Int.reduceEq,  e1, e2, e3, Nat.sub_zero, ite_self, Int.toNat_natCast, List.drop_zero]
    have hels : Els 6 (xs.take i ++ [x] ++ xs.drop i) := els_app (els_app (els_take he _) fun d hd => by rw [List.mem_singleton] at hd; subst hd; exact ⟨hx, hx6⟩) (els_drop he _)
    have hcat : (xs.take i ++ [x] ++ xs.drop i).flatMap cd = ds.take (i * 6) ++ cd x ++ (xs.drop i).flatMap cd := by
      rw [htk i hi, List.flatMap_append, List.flatMap_append, List.flatMap_cons, List.flatMap_nil, List.append_nil]
    have hmdl : ((xs.drop i).flatMap cd).length = (xs.length - i) * 6 := by rw [els_len (els_drop he _), List.length_drop]
    have hxc : [x].flatMap cd = cd x := by simp
    have hok : ∀ d, d ∈ [x] → okE d = true := fun d hd => by rw [List.mem_singleton] at hd; subst hd; exact hx
    generalize hys : xs.take i ++ [x] ++ xs.drop i = ys at *
    have hf1 : ∀ Z : List DV, S.box.Sublist (((b, Z) :: S.box).filter fun p => p.1 != b) := fun Z => by
      rw [List.filter_cons_of_neg (by simp)]
      rw [List.filter_eq_self.2 fun p hp => by simpa using Y.nin_all hbn p hp]
      exact List.Sublist.refl _
    have hf2 : ∀ (b1 : FN ((b, ds) :: S.box)) (Z : List DV), S.box.Sublist (((b1.n, Z) :: (b, ds) :: S.box).filter fun p => p.1 != b1.n) := fun b1 Z => by
      have h1 := Y.nin_all b1.h
      rw [List.filter_cons_of_neg (by simp)]
      rw [List.filter_eq_self.2 fun p hp => by simpa using h1 p hp]
      exact List.sublist_cons_self _ _
    have hcd := hx6
    rw [hxc]
    generalize cd x = X at *
    generalize (xs.drop i).flatMap cd = Y at *
    have hzl := zeroL_len (z := .agg [.v (.string ByteArray.empty), .v (.int .i64 0), .v (.bool false), .sl 0 true [], .sl 0 true [], .sl 0 true []]) (s := 6) rfl (xs.length + 1 - i)
    generalize zeroL (.agg [.v (.string ByteArray.empty), .v (.int .i64 0), .v (.bool false), .sl 0 true [], .sl 0 true [], .sl 0 true []]) (xs.length + 1 - i) = Z at *
    refine ⟨hi, hc1, fun hin => ⟨by omega, hc1, hok, fun h1 => ?_, fun h1 => ⟨by omega, by unfold maxLen at *; omega, fun C h2 h3 b1 => ?_⟩⟩, fun hin => ⟨fun h1 => ?_, fun h1 => ?_⟩⟩
    · refine ⟨b, c, putL ds (xs.length * 6) X, ys, _, rfl, by rw [hyl], by simp only [lk, if_true], rfl, hf1 _, hels, ?_, (putL_len (by omega)).trans hrow, by omega, hc2⟩
      have h2 := take_putL (ds := ds) (cs := X) (o := xs.length * 6) (by omega)
      have hY : Y = [] := List.eq_nil_of_length_eq_zero (by omega)
      rw [hyl, hcat, hin, hY, show (xs.length + 1) * 6 = xs.length * 6 + X.length by omega, h2]; simp
    · have hY : Y = [] := List.eq_nil_of_length_eq_zero (by omega)
      refine ⟨b1.n, C, _, ys, _, rfl, by rw [hyl], by simp only [lk, if_true]; rfl, rfl, hf2 b1 _, hels, ?_, ?_, by omega, h3⟩
      · rw [hyl, hcat, hin, hY, List.append_nil]
        rw [List.take_append_of_le_length (by simp only [List.length_append, List.length_take]; omega)]
        exact List.take_of_length_le (by simp only [List.length_append, List.length_take]; omega)
      · simp only [List.length_append, List.length_take, List.length_replicate]; omega
    · have e4 : i + (xs.length + 1 - i) = xs.length + 1 := by omega
      rw [e4]
      refine ⟨by omega, by omega, by omega, by omega, by omega, by omega, by unfold maxLen at *; omega, fun C h2 h3 b1 => ?_⟩
      have e5 : ¬ C = i := by omega
      have e6 : ¬ C = i + 1 := by omega
      have e7 : ¬ c = i := by omega
      have e8 : min (xs.length - i) (xs.length + 1 - (i + 1)) = xs.length - i := by omega
      simp only [e5, e6, e7, e8, if_false, hmd]
      have hL : (ds.take (i * 6) ++ Z ++ List.replicate ((C - (xs.length + 1)) * 6) DV.any).length = C * 6 := by
        simp only [List.length_append, List.length_take, List.length_replicate]; omega
      have hLt : (ds.take (i * 6) ++ Z ++ List.replicate ((C - (xs.length + 1)) * 6) DV.any).take (i * 6) = ds.take (i * 6) := by
        rw [List.append_assoc, List.take_append_of_le_length (by simp only [List.length_take]; omega), List.take_take, Nat.min_self]
      generalize ds.take (i * 6) ++ Z ++ List.replicate ((C - (xs.length + 1)) * 6) DV.any = L at *
      have hp := put_up (L := L) (X := X) (Y := Y) (p := i * 6) (q := (i + 1) * 6) (r := (xs.length + 1) * 6) (by omega) (by omega) (by omega)
      refine ⟨by omega, by omega, by simp only [List.length_replicate]; omega, hok, by omega, by omega, by omega, hi, hc1, ?_, by omega, b1.n, C, _, ys, _, rfl, by rw [hyl], by simp only [lk, if_true]; rfl, rfl, hf2 b1 _, hels, ?_, ?_, by omega, h3⟩
      · rw [putL_len (by omega)]; omega
      · rw [hyl, hp.1, hLt, hcat]
      · rw [hp.2, hL]
    · refine ⟨by omega, hi, by omega, ?_⟩
      refine overX (t := Tryz.f81.params.getD 0 0) (tb := Tryz.f81.resultTypes.getD 0 0) (e := elT Tryz.prog (Tryz.f81.params.getD 0 0)) Tryz.func81 (by kernel_rfl) rfl (by kernel_rfl) (by kernel_rfl) (by kernel_rfl) (size := 6) (fun w => rfl) (by omega) false [x] (ds := ds) (by simp only [lk, if_true]) _ _ _ ?_
      simp (maxDischargeDepth := 12) (maxSteps := 1000000) -implicitDefEqProofs only [go_sem, Nat.reduceAdd, Nat.reduceSub, Nat.reduceMul, Nat.reduceLeDiff, Nat.reduceEqDiff, Nat.reduceGT, Nat.reduceBEq, reduceCtorEq, ↓reduceIte, Int.reduceToNat, Int.reduceLE, Int.reduceLT, Int.reduceNe, Int.reduceEq, e1, e2, e3, Nat.sub_zero, ite_self, Int.toNat_natCast, List.drop_zero]
      have e5 : ¬ c = i + 1 := by omega
      have e7 : ¬ c = i := by omega
      have e8 : min (xs.length + 1 - i) (xs.length + 1 - (i + 1)) = xs.length - i := by omega
      simp only [e5, e7, e8, if_false, hmd, hxc]
      have hp := put_dn (L := ds) (X := X) (Y := Y) (p := i * 6) (q := (i + 1) * 6) (r := (xs.length + 1) * 6) (by omega) (by omega) (by omega)
      refine ⟨hi, by omega, by omega, by omega, by omega, by omega, by omega, by omega, ?_, hok, by omega, b, c, putL (putL ds ((i + 1) * 6) Y) (i * 6) X, ys, _, rfl, by rw [hyl], by simp only [lk, if_true], rfl, hf1 _, hels, ?_, ?_, by omega, hc2⟩
      · rw [putL_len (by omega)]; omega
      · rw [hyl, hp.1, hcat]
      · rw [hp.2, hrow]
  · rintro d S' ⟨ys, m, rfl, rfl, rfl⟩
    exact ⟨m, by rw [hyl], rfl⟩
theorem insB0 (w0 : W0) (S : St) (l : Nat) (x : DV) (hl : lk S.acc l = some (.arr 6 [])) (hx : okE x = true) (hx6 : (cd x).length = 6) :
    ACall Tryz.prog w0 42 [.acc l 0, dI 0, .sl 6 false [x]] S fun d S' => d = .acc l 1 ∧ S' = ⟨S.box, up S.acc l (.tl 6 [x])⟩ := by
  refine fnO [] mx Tryz.func42 rfl rfl (by kernel_rfl) ?_; simp (maxDischargeDepth := 12) (maxSteps := 1000000) -implicitDefEqProofs only [Tryz.ntmps42, go_sem, Nat.reduceAdd, Nat.reduceSub, Nat.reduceMul, Nat.reduceLeDiff, Nat.reduceEqDiff, Nat.reduceGT, Nat.reduceBEq, reduceCtorEq, ↓reduceIte, Int.reduceToNat, Int.reduceLE, Int.reduceLT, Int.reduceNe, Int.reduceEq,  hl]
  unfold maxLen; omega
end Go.Proofs.YtfieabidajilmaaGreat

namespace Go.Proofs.YtfieabidajilmaaGreat
open Aml Go
set_option linter.unusedVariables false
set_option linter.unusedSimpArgs false
set_option maxRecDepth 100000
theorem nd_inj : ∀ {d e : Nat} {n : N}, Nd d n → Nd e n → d = e
  | 0, 0, _, _, _ => rfl
  | 0, e + 1, n, h, k => by have := h.1; rw [k.1] at this; cases this
  | d + 1, 0, n, h, k => by have := h.1; rw [k.1] at this; cases this
  | d + 1, e + 1, n, h, k => by
    obtain ⟨c, hc⟩ := List.exists_mem_of_ne_nil _ h.2.1
    obtain ⟨_, x, hx, h1⟩ := h.2.2 c hc
    obtain ⟨_, y, hy, h2⟩ := k.2.2 c hc
    rw [hx] at hy; cases hy
    rw [nd_inj h1 h2]
/-- A tree that may be, behind so many steps. -/
def TB (k : Nat) (n : N) : Prop := RootG n ∧ ∃ d, Good d n ∧ d ≤ k ∧ totN n ≤ 120 * k
theorem tb_mono {k m : Nat} {n : N} (h : TB k n) (hm : k ≤ m) : TB m n := let ⟨h1, d, h2, h3, h4⟩ := h; ⟨h1, d, h2, by omega, by omega⟩
theorem tb_put {k : Nat} {n : N} {key val : ByteArray} (h : TB k n) (hk : k ≤ 116) (h0 : key ≠ noS) (h1 : key.size ≤ 16) (h2 : val.size ≤ 400) : TB (k + 1) (Put key val n) := by
  obtain ⟨hr, d, hg, hd, ht⟩ := h
  have hr' := (root_put (val := val) h0 h1 h2 hr).1
  obtain ⟨d', hg', q⟩ := hr'
  obtain ⟨e, he, hn, hT⟩ := nd_Put h1 h2 (good_nd hg)
  have := nd_inj (good_nd hg') hn
  exact ⟨⟨d', hg', q⟩, d', hg', by omega, by omega⟩
theorem tb_del {k : Nat} {n : N} {key : ByteArray} (h : TB k n) (hk : k ≤ 116) : TB (k + 1) (Del key n) := by
  obtain ⟨hr, d, hg, hd, ht⟩ := h
  have hr' := (root_del key hr).1
  obtain ⟨d', hg', q⟩ := hr'
  obtain ⟨e, he, hn, hT⟩ := nd_Del (key := key) (good_nd hg)
  have := nd_inj (good_nd hg') hn
  exact ⟨⟨d', hg', q⟩, d', hg', by omega, by omega⟩
theorem tb_em (k : Nat) : TB k emN := ⟨em_root, 0, em_good, by omega, by show 0 ≤ _; omega⟩
theorem tbPut (w0 : W0) {k : Nat} {n : N} {key val : ByteArray} (h : TB k n) (hk : k ≤ 116) (h1 : key.size ≤ 16) (h2 : val.size ≤ 400) (S : St) : ACall Tryz.prog w0 44 [eT n, dS key, dS val] S (fun e S' => e = eT (Put key val n) ∧ S' = S) := by
  obtain ⟨hr, d, hg, hd, ht⟩ := h
  exact PutP w0 key val h1 h2 d n S hg (by omega)
theorem tbDel (w0 : W0) {k : Nat} {n : N} {key : ByteArray} (h : TB k n) (hk : k ≤ 116) (S : St) : ACall Tryz.prog w0 49 [eT n, dS key] S (fun e S' => e = .tup [eT (Del key n), dB (findN key n).isSome] ∧ S' = S) := by
  obtain ⟨hr, d, hg, hd, ht⟩ := h
  refine DelP w0 key n S hr fun e he => ?_
  have := nd_inj he (good_nd hg)
  omega
theorem tbFind (w0 : W0) {k : Nat} {n : N} {key : ByteArray} (h : TB k n) (hk : k ≤ 116) (S : St) : ACall Tryz.prog w0 56 [eT n, dS key] S (fun e S' => e = .tup [dS ((findN key n).getD noS), dB (findN key n).isSome] ∧ S' = S) := by
  obtain ⟨hr, d, hg, hd, ht⟩ := h
  exact findP w0 key d n S hg (by omega)
/-- Nowhere yet: a tree's root. -/
def nwS : ByteArray := ⟨#[0, 0]⟩
/-- A view behind so many steps. -/
structure VI (k : Nat) (n : N) (l : List C) : Prop where
  dir : TB k n
  rise : Rise l
  cell : ∀ c, c ∈ l → c = cellN c.key (kid0 c) ∧ TB k (kid0 c) ∧ okKey c.key = true
  len : l.length ≤ k
  en : enN n = l.map fun c => .mk c.key nwS [] []
theorem vi_em (k : Nat) : VI k emN [] := ⟨tb_em k, List.Pairwise.nil, fun c hc => absurd hc List.not_mem_nil, Nat.zero_le _, rfl⟩
/-- A tree made. -/
def mkV (name : ByteArray) (n : N) (l : List C) : (N × List C) × Int :=
  if okKey name then (if hasN l name then ((n, l), 38) else ((Put name nwS n, l.take (idxN l name) ++ [cellN name emN] ++ l.drop (idxN l name)), 0)) else ((n, l), 34)
theorem okKey_ne {k : ByteArray} (h : okKey k = true) : k ≠ noS ∧ k.size ≤ 16 := by
  unfold okKey at h
  simp only [Bool.and_eq_true, decide_eq_true_eq] at h
  exact ⟨fun e => by rw [e, noS_size] at h; omega, h.2⟩
set_option maxHeartbeats 8000000 in
theorem makeV (w0 : W0) (k : Nat) (name : ByteArray) (n : N) (l : List C) (S : St) (h : VI k n l) (hk : k ≤ 116) : ACall Tryz.prog w0 11 [eV n l, dS name] S (fun d S' => d = .tup [eV (mkV name n l).1.1 (mkV name n l).1.2, dI (mkV name n l).2] ∧ S' = S) := by
  have hln := h.len
  have hdir := h.dir
  have hrise := h.rise
  clear h
  have hil := idx_le l name
  have hput := fun (a : name.size ≤ 16) S => tbPut w0 (key := name) (val := nwS) hdir hk a (by decide) S
  have q1 : okKey name = false → mkV name n l = ((n, l), 34) := fun e => by unfold mkV; rw [e]; rfl
  have q2 : okKey name = true → hasN l name = true → mkV name n l = ((n, l), 38) := fun e f => by unfold mkV; rw [e, f]; rfl
  have q3 : okKey name = true → hasN l name = false → mkV name n l = ((Put name nwS n, l.take (idxN l name) ++ [cellN name emN] ++ l.drop (idxN l name)), 0) := fun e f => by unfold mkV; rw [e, f]; rfl
  have hcl := cloneB w0 (l.map dBk) 
  have hx6 : (cd (dBk (cellN name emN))).length = 6 := rfl
  have hx : okE (dBk (cellN name emN)) = true := rfl
  generalize Put name nwS n = D at *
  generalize hI : idxN l name = i at *
  generalize mkV name n l = R at *
  refine fnS [7] mx Tryz.func11 rfl rfl (by kernel_rfl) ?_; simp (maxDischargeDepth := 12) (maxSteps := 1000000) -implicitDefEqProofs only [Tryz.ntmps11, go_sem, Nat.reduceAdd, Nat.reduceSub, Nat.reduceMul, Nat.reduceLeDiff, Nat.reduceEqDiff, Nat.reduceGT, Nat.reduceBEq, reduceCtorEq, ↓reduceIte, Int.reduceToNat, Int.reduceLE, Int.reduceLT, Int.reduceNe, Int.reduceEq]
  intro b b1
  refine use1 (findV w0 n l name _ hrise (by omega)) ?_
  simp (maxDischargeDepth := 12) (maxSteps := 1000000) -implicitDefEqProofs only [go_sem, Nat.reduceAdd, Nat.reduceSub, Nat.reduceMul, Nat.reduceLeDiff, Nat.reduceEqDiff, Nat.reduceGT, Nat.reduceBEq, reduceCtorEq, ↓reduceIte, Int.reduceToNat, Int.reduceLE, Int.reduceLT, Int.reduceNe, Int.reduceEq]
  refine use1 (keyV w0 name _) ?_
  simp (maxDischargeDepth := 12) (maxSteps := 1000000) -implicitDefEqProofs only [go_sem, Nat.reduceAdd, Nat.reduceSub, Nat.reduceMul, Nat.reduceLeDiff, Nat.reduceEqDiff, Nat.reduceGT, Nat.reduceBEq, reduceCtorEq, ↓reduceIte, Int.reduceToNat, Int.reduceLE, Int.reduceLT, Int.reduceNe, Int.reduceEq]
  cases hok : okKey name with
  | false => 
    rw [q1 hok]
    simp (maxDischargeDepth := 12) (maxSteps := 1000000) -implicitDefEqProofs only [go_sem, Nat.reduceAdd, Nat.reduceSub, Nat.reduceMul, Nat.reduceLeDiff, Nat.reduceEqDiff, Nat.reduceGT, Nat.reduceBEq, reduceCtorEq, ↓reduceIte, Int.reduceToNat, Int.reduceLE, Int.reduceLT, Int.reduceNe, Int.reduceEq]
    all_goals exact .refl _
  | true =>
    simp (maxDischargeDepth := 12) (maxSteps := 1000000) -implicitDefEqProofs only [go_sem, Nat.reduceAdd, Nat.reduceSub, Nat.reduceMul, Nat.reduceLeDiff, Nat.reduceEqDiff, Nat.reduceGT, Nat.reduceBEq, reduceCtorEq, ↓reduceIte, Int.reduceToNat, Int.reduceLE, Int.reduceLT, Int.reduceNe, Int.reduceEq]
    refine ⟨fun hh => by rw [q2 hok hh]; exact .refl _, fun hh => ?_⟩
    rw [q3 hok hh]
    obtain ⟨_, hsz⟩ := okKey_ne hok
    refine useK (hcl _ (by rw [List.length_map]; omega)) ?_
    rintro d S' ⟨b2, rfl, rfl⟩
    simp (maxDischargeDepth := 12) (maxSteps := 1000000) -implicitDefEqProofs only [go_sem, Nat.reduceAdd, Nat.reduceSub, Nat.reduceMul, Nat.reduceLeDiff, Nat.reduceEqDiff, Nat.reduceGT, Nat.reduceBEq, reduceCtorEq, ↓reduceIte, Int.reduceToNat, Int.reduceLE, Int.reduceLT, Int.reduceNe, Int.reduceEq]
    refine use1 (emP w0 _) ?_
    simp (maxDischargeDepth := 12) (maxSteps := 1000000) -implicitDefEqProofs only [go_sem, Nat.reduceAdd, Nat.reduceSub, Nat.reduceMul, Nat.reduceLeDiff, Nat.reduceEqDiff, Nat.reduceGT, Nat.reduceBEq, reduceCtorEq, ↓reduceIte, Int.reduceToNat, Int.reduceLE, Int.reduceLT, Int.reduceNe, Int.reduceEq]
    rw [hI]
    refine .inl ?_
    by_cases hl : l = []
    · subst hl
      obtain rfl : i = 0 := by simpa using hil
      refine useK (insB0 w0 _ b2.n (dBk (cellN name emN)) (by simp (maxDischargeDepth := 12) (maxSteps := 1000000) -implicitDefEqProofs only [go_sem, Nat.reduceAdd, Nat.reduceSub, Nat.reduceMul, Nat.reduceLeDiff, Nat.reduceEqDiff, Nat.reduceGT, Nat.reduceBEq, reduceCtorEq, ↓reduceIte, Int.reduceToNat, Int.reduceLE, Int.reduceLT, Int.reduceNe, Int.reduceEq]) hx hx6) ?_ ⟨.refl _, .refl _, .full _ _ _, trivial⟩
      rintro d S' ⟨rfl, rfl⟩
      simp (maxDischargeDepth := 12) (maxSteps := 1000000) -implicitDefEqProofs only [go_sem, Nat.reduceAdd, Nat.reduceSub, Nat.reduceMul, Nat.reduceLeDiff, Nat.reduceEqDiff, Nat.reduceGT, Nat.reduceBEq, reduceCtorEq, ↓reduceIte, Int.reduceToNat, Int.reduceLE, Int.reduceLT, Int.reduceNe, Int.reduceEq]
      refine shrK [] [8] mx (by kernel_rfl) ?_
      simp (maxDischargeDepth := 12) (maxSteps := 1000000) -implicitDefEqProofs only [go_sem, Nat.reduceAdd, Nat.reduceSub, Nat.reduceMul, Nat.reduceLeDiff, Nat.reduceEqDiff, Nat.reduceGT, Nat.reduceBEq, reduceCtorEq, ↓reduceIte, Int.reduceToNat, Int.reduceLE, Int.reduceLT, Int.reduceNe, Int.reduceEq]
      refine useQ (nowhereV w0 _) ?_
      simp (maxDischargeDepth := 12) (maxSteps := 1000000) -implicitDefEqProofs only [go_sem, Nat.reduceAdd, Nat.reduceSub, Nat.reduceMul, Nat.reduceLeDiff, Nat.reduceEqDiff, Nat.reduceGT, Nat.reduceBEq, reduceCtorEq, ↓reduceIte, Int.reduceToNat, Int.reduceLE, Int.reduceLT, Int.reduceNe, Int.reduceEq]
      refine useQ (hput hsz _) ?_
      simp (maxDischargeDepth := 12) (maxSteps := 1000000) -implicitDefEqProofs only [go_sem, Nat.reduceAdd, Nat.reduceSub, Nat.reduceMul, Nat.reduceLeDiff, Nat.reduceEqDiff, Nat.reduceGT, Nat.reduceBEq, reduceCtorEq, ↓reduceIte, Int.reduceToNat, Int.reduceLE, Int.reduceLT, Int.reduceNe, Int.reduceEq]
    · refine useK (insB1 w0 _ b2.n (l.map dBk) i (dBk (cellN name emN)) (by simp (maxDischargeDepth := 12) (maxSteps := 1000000) -implicitDefEqProofs only [go_sem, Nat.reduceAdd, Nat.reduceSub, Nat.reduceMul, Nat.reduceLeDiff, Nat.reduceEqDiff, Nat.reduceGT, Nat.reduceBEq, reduceCtorEq, ↓reduceIte, Int.reduceToNat, Int.reduceLE, Int.reduceLT, Int.reduceNe, Int.reduceEq]) (fun d hd => by obtain ⟨c, _, rfl⟩ := List.mem_map.1 hd; exact ⟨rfl, rfl⟩) (by simpa using hl) (by rw [List.length_map]; exact hil) hx hx6 (by rw [List.length_map]; omega)) ?_ ⟨.eq (by rw [List.length_map]), .refl _, .full _ _ _, trivial⟩
      rintro d S' ⟨m, rfl, rfl⟩
      simp (maxDischargeDepth := 12) (maxSteps := 1000000) -implicitDefEqProofs only [go_sem, Nat.reduceAdd, Nat.reduceSub, Nat.reduceMul, Nat.reduceLeDiff, Nat.reduceEqDiff, Nat.reduceGT, Nat.reduceBEq, reduceCtorEq, ↓reduceIte, Int.reduceToNat, Int.reduceLE, Int.reduceLT, Int.reduceNe, Int.reduceEq]
      refine shrK [] [8] mx (by kernel_rfl) ?_
      simp (maxDischargeDepth := 12) (maxSteps := 1000000) -implicitDefEqProofs only [go_sem, Nat.reduceAdd, Nat.reduceSub, Nat.reduceMul, Nat.reduceLeDiff, Nat.reduceEqDiff, Nat.reduceGT, Nat.reduceBEq, reduceCtorEq, ↓reduceIte, Int.reduceToNat, Int.reduceLE, Int.reduceLT, Int.reduceNe, Int.reduceEq]
      refine ⟨by omega, useQ (nowhereV w0 _) ?_⟩
      simp (maxDischargeDepth := 12) (maxSteps := 1000000) -implicitDefEqProofs only [go_sem, Nat.reduceAdd, Nat.reduceSub, Nat.reduceMul, Nat.reduceLeDiff, Nat.reduceEqDiff, Nat.reduceGT, Nat.reduceBEq, reduceCtorEq, ↓reduceIte, Int.reduceToNat, Int.reduceLE, Int.reduceLT, Int.reduceNe, Int.reduceEq]
      refine useQ (hput hsz _) ?_
      simp (maxDischargeDepth := 12) (maxSteps := 1000000) -implicitDefEqProofs only [go_sem, Nat.reduceAdd, Nat.reduceSub, Nat.reduceMul, Nat.reduceLeDiff, Nat.reduceEqDiff, Nat.reduceGT, Nat.reduceBEq, reduceCtorEq, ↓reduceIte, Int.reduceToNat, Int.reduceLE, Int.reduceLT, Int.reduceNe, Int.reduceEq]
      rw [List.map_append, List.map_append]; exact .refl _
/-- A tree dropped. -/
def drV (name : ByteArray) (n : N) (l : List C) : (N × List C) × Int :=
  if hasN l name then ((Del name n, l.take (idxN l name) ++ l.drop (idxN l name + 1)), 0) else ((n, l), 32)
theorem has_lt {l : List C} {name : ByteArray} (h : hasN l name = true) : idxN l name < l.length := by
  unfold hasN at h
  split at h
  · rename_i e; exact (List.getElem?_eq_some_iff.1 e).1
  · cases h
set_option maxHeartbeats 8000000 in
theorem dropV (w0 : W0) (k : Nat) (name : ByteArray) (n : N) (l : List C) (S : St) (h : VI k n l) (hk : k ≤ 116) : ACall Tryz.prog w0 13 [eV n l, dS name] S (fun d S' => d = .tup [eV (drV name n l).1.1 (drV name n l).1.2, dI (drV name n l).2] ∧ S' = S) := by
  have hln := h.len
  have hdir := h.dir
  have hrise := h.rise
  clear h
  have hlt := has_lt (l := l) (name := name)
  have hdel := fun S => tbDel w0 (key := name) hdir hk S
  have q1 : hasN l name = false → drV name n l = ((n, l), 32) := fun e => by unfold drV; rw [e]; rfl
  have q2 : hasN l name = true → drV name n l = ((Del name n, l.take (idxN l name) ++ l.drop (idxN l name + 1)), 0) := fun e => by unfold drV; rw [e]; rfl
  have hcl := cloneB w0 (l.map dBk) 
  generalize Del name n = D at *
  generalize (findN name n).isSome = sm at *
  generalize drV name n l = R at *
  refine fnS [5] mx Tryz.func13 rfl rfl (by kernel_rfl) ?_; simp (maxDischargeDepth := 12) (maxSteps := 1000000) -implicitDefEqProofs only [Tryz.ntmps13, go_sem, Nat.reduceAdd, Nat.reduceSub, Nat.reduceMul, Nat.reduceLeDiff, Nat.reduceEqDiff, Nat.reduceGT, Nat.reduceBEq, reduceCtorEq, ↓reduceIte, Int.reduceToNat, Int.reduceLE, Int.reduceLT, Int.reduceNe, Int.reduceEq]
  intro b b1
  refine use1 (findV w0 n l name _ hrise (by omega)) ?_
  generalize hI : idxN l name = i at *
  simp (maxDischargeDepth := 12) (maxSteps := 1000000) -implicitDefEqProofs only [go_sem, Nat.reduceAdd, Nat.reduceSub, Nat.reduceMul, Nat.reduceLeDiff, Nat.reduceEqDiff, Nat.reduceGT, Nat.reduceBEq, reduceCtorEq, ↓reduceIte, Int.reduceToNat, Int.reduceLE, Int.reduceLT, Int.reduceNe, Int.reduceEq]
  refine ⟨fun hh => ?_, fun hh => by rw [q1 hh]; exact .refl _⟩
  rw [q2 hh]
  have hil := hlt hh
  refine use1 (hdel _) ?_
  simp (maxDischargeDepth := 12) (maxSteps := 1000000) -implicitDefEqProofs only [go_sem, Nat.reduceAdd, Nat.reduceSub, Nat.reduceMul, Nat.reduceLeDiff, Nat.reduceEqDiff, Nat.reduceGT, Nat.reduceBEq, reduceCtorEq, ↓reduceIte, Int.reduceToNat, Int.reduceLE, Int.reduceLT, Int.reduceNe, Int.reduceEq]
  intro b2
  refine Y.ordK [3, 7] [8] [1, 4, 5, 6, 0, 2, 3, 7, 8, 9, 10] mx (by kernel_rfl) ?_
  simp (maxDischargeDepth := 12) (maxSteps := 1000000) -implicitDefEqProofs only [go_sem, Nat.reduceAdd, Nat.reduceSub, Nat.reduceMul, Nat.reduceLeDiff, Nat.reduceEqDiff, Nat.reduceGT, Nat.reduceBEq, reduceCtorEq, ↓reduceIte, Int.reduceToNat, Int.reduceLE, Int.reduceLT, Int.reduceNe, Int.reduceEq]
  refine useK (hcl _ (by rw [List.length_map]; omega)) ?_
  rintro d S' ⟨l1, rfl, rfl⟩
  simp (maxDischargeDepth := 12) (maxSteps := 1000000) -implicitDefEqProofs only [go_sem, Nat.reduceAdd, Nat.reduceSub, Nat.reduceMul, Nat.reduceLeDiff, Nat.reduceEqDiff, Nat.reduceGT, Nat.reduceBEq, reduceCtorEq, ↓reduceIte, Int.reduceToNat, Int.reduceLE, Int.reduceLT, Int.reduceNe, Int.reduceEq]
  rw [i_oneV i (by omega)]
  refine .inl (useK (delB w0 _ l1.n (l.map dBk) i (by simp (maxDischargeDepth := 12) (maxSteps := 1000000) -implicitDefEqProofs only [go_sem, Nat.reduceAdd, Nat.reduceSub, Nat.reduceMul, Nat.reduceLeDiff, Nat.reduceEqDiff, Nat.reduceGT, Nat.reduceBEq, reduceCtorEq, ↓reduceIte, Int.reduceToNat, Int.reduceLE, Int.reduceLT, Int.reduceNe, Int.reduceEq]) (fun d hd => by obtain ⟨c, _, rfl⟩ := List.mem_map.1 hd; exact ⟨rfl, rfl⟩) (by rw [List.length_map]; exact hil) (by rw [List.length_map]; omega)) ?_ ⟨.eq (by rw [List.length_map]), .refl _, .refl _, trivial⟩)
  rintro d S' ⟨m1, rfl, rfl⟩
  simp (maxDischargeDepth := 12) (maxSteps := 1000000) -implicitDefEqProofs only [go_sem, Nat.reduceAdd, Nat.reduceSub, Nat.reduceMul, Nat.reduceLeDiff, Nat.reduceEqDiff, Nat.reduceGT, Nat.reduceBEq, reduceCtorEq, ↓reduceIte, Int.reduceToNat, Int.reduceLE, Int.reduceLT, Int.reduceNe, Int.reduceEq]
  omega
end Go.Proofs.YtfieabidajilmaaGreat

namespace Go.Proofs.YtfieabidajilmaaGreat
open Aml Go
set_option linter.unusedVariables false
set_option linter.unusedSimpArgs false
set_option maxRecDepth 100000
/-- A named tree changed. -/
def chV (name : ByteArray) (f : N → N × Int) (n : N) (l : List C) : (N × List C) × Int :=
  if hasN l name then (match l[idxN l name]? with
    | some c => if (f (kid0 c)).2 = 0 then ((Put name nwS n, l.set (idxN l name) (cellN c.key (f (kid0 c)).1)), 0) else ((n, l), (f (kid0 c)).2)
    | none => ((n, l), 32)) else ((n, l), 32)
theorem has_at {l : List C} {name : ByteArray} (h : hasN l name = true) : ∃ c, l[idxN l name]? = some c ∧ c.key = name := by
  unfold hasN at h
  split at h
  · rename_i c e; exact ⟨c, e, eqS_iff.1 h⟩
  · cases h
set_option maxHeartbeats 8000000 in
theorem changeV (w0 : W0) (k : Nat) (name : ByteArray) (f : N → N × Int) (g : Nat) (cs : List Value) (n : N) (l : List C) (S : St) (h : VI k n l) (hk : k ≤ 116)
    (hg : okF Tryz.prog g = true) (hcs : cs.all (fun u => u.oneCell') = true)
    (hf : ∀ c, l[idxN l name]? = some c → ∀ T, Has S T → ACall Tryz.prog w0 g (eT (kid0 c) :: cs.map .v) T (fun d S' => d = .tup [eT (f (kid0 c)).1, dI (f (kid0 c)).2] ∧ S' = T)) :
    ACall Tryz.prog w0 52 [eV n l, dS name, .v (.func (.func g) #[] cs.toArray)] S (fun d S' => d = .tup [eV (chV name f n l).1.1 (chV name f n l).1.2, dI (chV name f n l).2] ∧ S' = S) := by
  have hln := h.len
  have hdir := h.dir
  have hrise := h.rise
  have hsz : hasN l name = true → name.size ≤ 16 := fun hh => by
    obtain ⟨c, hc, rfl⟩ := has_at hh
    exact (okKey_ne (h.cell c (List.mem_of_getElem? hc)).2.2).2
  clear h
  have hlt := has_lt (l := l) (name := name)
  have hput := fun (a : name.size ≤ 16) S => tbPut w0 (key := name) (val := nwS) hdir hk a (by decide) S
  have q1 : hasN l name = false → chV name f n l = ((n, l), 32) := fun e => by unfold chV; rw [e]; rfl
  have q2 : hasN l name = true → ∀ c, l[idxN l name]? = some c → (f (kid0 c)).2 ≠ 0 → chV name f n l = ((n, l), (f (kid0 c)).2) := fun e c hc h0 => by unfold chV; rw [e, hc]; simp only [if_true]; rw [if_neg h0]
  have q3 : hasN l name = true → ∀ c, l[idxN l name]? = some c → (f (kid0 c)).2 = 0 → chV name f n l = ((Put name nwS n, l.set (idxN l name) (cellN c.key (f (kid0 c)).1)), 0) := fun e c hc h0 => by unfold chV; rw [e, hc]; simp only [if_true]; rw [if_pos h0]
  have hcl := cloneB w0 (l.map dBk) 
  generalize Put name nwS n = D at *
  generalize chV name f n l = R at *
  refine fnS [9] mx Tryz.func52 rfl rfl (by kernel_rfl) ?_; simp (maxDischargeDepth := 12) (maxSteps := 1000000) -implicitDefEqProofs only [Tryz.ntmps52, go_sem, Nat.reduceAdd, Nat.reduceSub, Nat.reduceMul, Nat.reduceLeDiff, Nat.reduceEqDiff, Nat.reduceGT, Nat.reduceBEq, reduceCtorEq, ↓reduceIte, Int.reduceToNat, Int.reduceLE, Int.reduceLT, Int.reduceNe, Int.reduceEq]
  intro b b1
  refine use1 (findV w0 n l name _ hrise (by omega)) ?_
  generalize hI : idxN l name = i at *
  simp (maxDischargeDepth := 12) (maxSteps := 1000000) -implicitDefEqProofs only [go_sem, Nat.reduceAdd, Nat.reduceSub, Nat.reduceMul, Nat.reduceLeDiff, Nat.reduceEqDiff, Nat.reduceGT, Nat.reduceBEq, reduceCtorEq, ↓reduceIte, Int.reduceToNat, Int.reduceLE, Int.reduceLT, Int.reduceNe, Int.reduceEq]
  refine ⟨fun hh => ?_, fun hh => by rw [q1 hh]; exact .refl _⟩
  have hil := hlt hh
  refine ⟨hil, fun c hc => ?_⟩
  simp (maxDischargeDepth := 12) (maxSteps := 1000000) -implicitDefEqProofs only [go_sem, Nat.reduceAdd, Nat.reduceSub, Nat.reduceMul, Nat.reduceLeDiff, Nat.reduceEqDiff, Nat.reduceGT, Nat.reduceBEq, reduceCtorEq, ↓reduceIte, Int.reduceToNat, Int.reduceLE, Int.reduceLT, Int.reduceNe, Int.reduceEq, hg, hcs]
  have hF := hf c hc
  have q2' := q2 hh c hc
  have q3' := q3 hh c hc
  generalize (f (kid0 c)).1 = m at *
  generalize (f (kid0 c)).2 = e at *
  refine ⟨hcs, use1 (hF _ (by simp (maxDischargeDepth := 12) (maxSteps := 1000000) -implicitDefEqProofs only [go_sem, Nat.reduceAdd, Nat.reduceSub, Nat.reduceMul, Nat.reduceLeDiff, Nat.reduceEqDiff, Nat.reduceGT, Nat.reduceBEq, reduceCtorEq, ↓reduceIte, Int.reduceToNat, Int.reduceLE, Int.reduceLT, Int.reduceNe, Int.reduceEq])) ?_⟩
  simp (maxDischargeDepth := 12) (maxSteps := 1000000) -implicitDefEqProofs only [go_sem, Nat.reduceAdd, Nat.reduceSub, Nat.reduceMul, Nat.reduceLeDiff, Nat.reduceEqDiff, Nat.reduceGT, Nat.reduceBEq, reduceCtorEq, ↓reduceIte, Int.reduceToNat, Int.reduceLE, Int.reduceLT, Int.reduceNe, Int.reduceEq]
  intro b2
  refine ⟨fun he => by rw [q2' he]; exact .refl _, fun he => ?_⟩
  rw [q3' (Classical.not_not.1 he)]
  refine useK (hcl _ (by rw [List.length_map]; omega)) ?_
  rintro d S' ⟨l1, rfl, rfl⟩
  simp (maxDischargeDepth := 12) (maxSteps := 1000000) -implicitDefEqProofs only [go_sem, Nat.reduceAdd, Nat.reduceSub, Nat.reduceMul, Nat.reduceLeDiff, Nat.reduceEqDiff, Nat.reduceGT, Nat.reduceBEq, reduceCtorEq, ↓reduceIte, Int.reduceToNat, Int.reduceLE, Int.reduceLT, Int.reduceNe, Int.reduceEq]
  refine ⟨hil, hil, fun a ha => ?_⟩
  cases getE hc ha
  refine shrK [] [12] mx (by kernel_rfl) ?_
  simp (maxDischargeDepth := 12) (maxSteps := 1000000) -implicitDefEqProofs only [go_sem, Nat.reduceAdd, Nat.reduceSub, Nat.reduceMul, Nat.reduceLeDiff, Nat.reduceEqDiff, Nat.reduceGT, Nat.reduceBEq, reduceCtorEq, ↓reduceIte, Int.reduceToNat, Int.reduceLE, Int.reduceLT, Int.reduceNe, Int.reduceEq]
  refine useQ (nowhereV w0 _) ?_
  simp (maxDischargeDepth := 12) (maxSteps := 1000000) -implicitDefEqProofs only [go_sem, Nat.reduceAdd, Nat.reduceSub, Nat.reduceMul, Nat.reduceLeDiff, Nat.reduceEqDiff, Nat.reduceGT, Nat.reduceBEq, reduceCtorEq, ↓reduceIte, Int.reduceToNat, Int.reduceLE, Int.reduceLT, Int.reduceNe, Int.reduceEq]
  refine useQ (hput (hsz hh) _) ?_
  simp (maxDischargeDepth := 12) (maxSteps := 1000000) -implicitDefEqProofs only [go_sem, Nat.reduceAdd, Nat.reduceSub, Nat.reduceMul, Nat.reduceLeDiff, Nat.reduceEqDiff, Nat.reduceGT, Nat.reduceBEq, reduceCtorEq, ↓reduceIte, Int.reduceToNat, Int.reduceLE, Int.reduceLT, Int.reduceNe, Int.reduceEq]
  rw [List.map_set]
  exact .refl _
/-- A key's value put into a named tree. -/
def puV (name key val : ByteArray) (n : N) (l : List C) : (N × List C) × Int :=
  if okKey key && decide (val.size ≤ 400) then chV name (fun t => (Put key val t, 0)) n l else ((n, l), 34)
/-- A key taken out of a named tree. -/
def deV (name key : ByteArray) (n : N) (l : List C) : (N × List C) × Int :=
  chV name (fun t => if (findN key t).isSome then (Del key t, 0) else (t, 33)) n l
/-- A key's value in a named tree. -/
def geV (name key : ByteArray) (l : List C) : ByteArray × Int :=
  match l[idxN l name]? with
  | some c => if hasN l name then (match findN key (kid0 c) with
    | some x => (x, 0)
    | none => (noS, 33)) else (noS, 32)
  | none => (noS, 32)
set_option maxHeartbeats 1000000 in
theorem putC (w0 : W0) (k : Nat) (key val : ByteArray) (t : N) (b1 b2 : Nat) (T : St) (ht : TB k t) (hk : k ≤ 116) (hs : key.size ≤ 16) (hv : val.size ≤ 400) (h1 : lk T.box b1 = some [dS key]) (h2 : lk T.box b2 = some [dS val]) :
    ACall Tryz.prog w0 53 [eT t, .v (.pointer (some ⟨b1, 0, none⟩)), .v (.pointer (some ⟨b2, 0, none⟩))] T (fun d S' => d = .tup [eT (Put key val t), dI 0] ∧ S' = T) := by
  have hp := fun S => tbPut w0 ht hk hs hv S
  generalize Put key val t = p at *
  refine fnS [] mx Tryz.func53 rfl rfl (by kernel_rfl) ?_; simp only [Tryz.ntmps53, List.length_cons, List.length_nil, Nat.reduceAdd, Nat.reduceSub, List.reduceReplicate, List.cons_append, List.nil_append]; simp (maxDischargeDepth := 12) (maxSteps := 1000000) -implicitDefEqProofs only [Tryz.ntmps53, go_sem, Nat.reduceAdd, Nat.reduceSub, Nat.reduceMul, Nat.reduceLeDiff, Nat.reduceEqDiff, Nat.reduceGT, Nat.reduceBEq, reduceCtorEq, ↓reduceIte, Int.reduceToNat, Int.reduceLE, Int.reduceLT, Int.reduceNe, Int.reduceEq,  h1, h2]
  intro b b3
  refine use1 (hp _) ?_
  simp (maxDischargeDepth := 12) (maxSteps := 1000000) -implicitDefEqProofs only [go_sem, Nat.reduceAdd, Nat.reduceSub, Nat.reduceMul, Nat.reduceLeDiff, Nat.reduceEqDiff, Nat.reduceGT, Nat.reduceBEq, reduceCtorEq, ↓reduceIte, Int.reduceToNat, Int.reduceLE, Int.reduceLT, Int.reduceNe, Int.reduceEq, h1, h2]
set_option maxHeartbeats 1000000 in
theorem delC (w0 : W0) (k : Nat) (key : ByteArray) (t : N) (b1 : Nat) (T : St) (ht : TB k t) (hk : k ≤ 116) (h1 : lk T.box b1 = some [dS key]) :
    ACall Tryz.prog w0 55 [eT t, .v (.pointer (some ⟨b1, 0, none⟩))] T (fun d S' => d = .tup [eT (if (findN key t).isSome then (Del key t, (0 : Int)) else (t, 33)).1, dI (if (findN key t).isSome then (Del key t, (0 : Int)) else (t, 33)).2] ∧ S' = T) := by
  have hp := fun S => tbDel w0 (key := key) ht hk S
  generalize (findN key t).isSome = sm at *
  generalize Del key t = p at *
  refine fnS [] mx Tryz.func55 rfl rfl (by kernel_rfl) ?_; simp only [Tryz.ntmps55, List.length_cons, List.length_nil, Nat.reduceAdd, Nat.reduceSub, List.reduceReplicate, List.cons_append, List.nil_append]; simp (maxDischargeDepth := 12) (maxSteps := 1000000) -implicitDefEqProofs only [Tryz.ntmps55, go_sem, Nat.reduceAdd, Nat.reduceSub, Nat.reduceMul, Nat.reduceLeDiff, Nat.reduceEqDiff, Nat.reduceGT, Nat.reduceBEq, reduceCtorEq, ↓reduceIte, Int.reduceToNat, Int.reduceLE, Int.reduceLT, Int.reduceNe, Int.reduceEq,  h1]
  intro b b3
  refine use1 (hp _) ?_
  simp (maxDischargeDepth := 12) (maxSteps := 1000000) -implicitDefEqProofs only [go_sem, Nat.reduceAdd, Nat.reduceSub, Nat.reduceMul, Nat.reduceLeDiff, Nat.reduceEqDiff, Nat.reduceGT, Nat.reduceBEq, reduceCtorEq, ↓reduceIte, Int.reduceToNat, Int.reduceLE, Int.reduceLT, Int.reduceNe, Int.reduceEq, h1]
  intro b4
  refine ⟨fun h => ?_, fun h => ?_⟩
  all_goals rw [h]; exact .refl _
set_option maxHeartbeats 8000000 in
theorem putV (w0 : W0) (k : Nat) (name key val : ByteArray) (n : N) (l : List C) (S : St) (h : VI k n l) (hk : k ≤ 116) : ACall Tryz.prog w0 15 [eV n l, dS name, dS key, dS val] S (fun d S' => d = .tup [eV (puV name key val n l).1.1 (puV name key val n l).1.2, dI (puV name key val n l).2] ∧ S' = S) := by
  have q1 : okKey key = false → puV name key val n l = ((n, l), 34) := fun e => by unfold puV; rw [e]; rfl
  have q2 : ¬ val.size ≤ 400 → puV name key val n l = ((n, l), 34) := fun e => by unfold puV; rw [decide_eq_false e, Bool.and_false]; rfl
  have q3 : okKey key = true → val.size ≤ 400 → puV name key val n l = chV name (fun t => (Put key val t, 0)) n l := fun e f => by unfold puV; rw [e, decide_eq_true f]; rfl
  have hch := fun g cs S => changeV w0 k name (fun t => (Put key val t, 0)) g cs n l S h hk
  generalize puV name key val n l = R at *
  generalize chV name (fun t => (Put key val t, 0)) n l = Q at *
  refine fnS [] mx Tryz.func15 rfl rfl (by kernel_rfl) ?_; simp (maxDischargeDepth := 12) (maxSteps := 1000000) -implicitDefEqProofs only [Tryz.ntmps15, go_sem, Nat.reduceAdd, Nat.reduceSub, Nat.reduceMul, Nat.reduceLeDiff, Nat.reduceEqDiff, Nat.reduceGT, Nat.reduceBEq, reduceCtorEq, ↓reduceIte, Int.reduceToNat, Int.reduceLE, Int.reduceLT, Int.reduceNe, Int.reduceEq]
  intro b b1 b2 b3
  refine use1 (keyV w0 key _) ?_
  simp (maxDischargeDepth := 12) (maxSteps := 1000000) -implicitDefEqProofs only [go_sem, Nat.reduceAdd, Nat.reduceSub, Nat.reduceMul, Nat.reduceLeDiff, Nat.reduceEqDiff, Nat.reduceGT, Nat.reduceBEq, reduceCtorEq, ↓reduceIte, Int.reduceToNat, Int.reduceLE, Int.reduceLT, Int.reduceNe, Int.reduceEq]
  refine ⟨fun e => by rw [q1 e]; exact .refl _, fun e => ⟨fun e2 => by rw [q2 (by omega)]; exact .refl _, fun e2 => ?_⟩⟩
  rw [q3 e (by omega)]
  refine use1 (hch 53 [.pointer (some ⟨b1.n, 0, none⟩), .pointer (some ⟨b2.n, 0, none⟩)] _ (by kernel_rfl) rfl fun c hc T hT => putC w0 k key val (kid0 c) b1.n b2.n T (h.cell c (List.mem_of_getElem? hc)).2.1 hk (okKey_ne e).2 (by omega) (hT.box _ _ (by simp (maxDischargeDepth := 12) (maxSteps := 1000000) -implicitDefEqProofs only [go_sem, Nat.reduceAdd, Nat.reduceSub, Nat.reduceMul, Nat.reduceLeDiff, Nat.reduceEqDiff, Nat.reduceGT, Nat.reduceBEq, reduceCtorEq, ↓reduceIte, Int.reduceToNat, Int.reduceLE, Int.reduceLT, Int.reduceNe, Int.reduceEq])) (hT.box _ _ (by simp (maxDischargeDepth := 12) (maxSteps := 1000000) -implicitDefEqProofs only [go_sem, Nat.reduceAdd, Nat.reduceSub, Nat.reduceMul, Nat.reduceLeDiff, Nat.reduceEqDiff, Nat.reduceGT, Nat.reduceBEq, reduceCtorEq, ↓reduceIte, Int.reduceToNat, Int.reduceLE, Int.reduceLT, Int.reduceNe, Int.reduceEq]))) ?_
  simp (maxDischargeDepth := 12) (maxSteps := 1000000) -implicitDefEqProofs only [go_sem, Nat.reduceAdd, Nat.reduceSub, Nat.reduceMul, Nat.reduceLeDiff, Nat.reduceEqDiff, Nat.reduceGT, Nat.reduceBEq, reduceCtorEq, ↓reduceIte, Int.reduceToNat, Int.reduceLE, Int.reduceLT, Int.reduceNe, Int.reduceEq]
set_option maxHeartbeats 8000000 in
theorem deleteV (w0 : W0) (k : Nat) (name key : ByteArray) (n : N) (l : List C) (S : St) (h : VI k n l) (hk : k ≤ 116) : ACall Tryz.prog w0 18 [eV n l, dS name, dS key] S (fun d S' => d = .tup [eV (deV name key n l).1.1 (deV name key n l).1.2, dI (deV name key n l).2] ∧ S' = S) := by
  have hch := fun g cs S => changeV w0 k name (fun t => if (findN key t).isSome then (Del key t, 0) else (t, 33)) g cs n l S h hk
  unfold deV
  generalize chV name (fun t => if (findN key t).isSome then (Del key t, 0) else (t, 33)) n l = Q at *
  refine fnS [] mx Tryz.func18 rfl rfl (by kernel_rfl) ?_; simp (maxDischargeDepth := 12) (maxSteps := 1000000) -implicitDefEqProofs only [Tryz.ntmps18, go_sem, Nat.reduceAdd, Nat.reduceSub, Nat.reduceMul, Nat.reduceLeDiff, Nat.reduceEqDiff, Nat.reduceGT, Nat.reduceBEq, reduceCtorEq, ↓reduceIte, Int.reduceToNat, Int.reduceLE, Int.reduceLT, Int.reduceNe, Int.reduceEq]
  intro b b1 b2
  refine use1 (hch 55 [.pointer (some ⟨b1.n, 0, none⟩)] _ (by kernel_rfl) rfl fun c hc T hT => delC w0 k key (kid0 c) b1.n T (h.cell c (List.mem_of_getElem? hc)).2.1 hk (hT.box _ _ (by simp (maxDischargeDepth := 12) (maxSteps := 1000000) -implicitDefEqProofs only [go_sem, Nat.reduceAdd, Nat.reduceSub, Nat.reduceMul, Nat.reduceLeDiff, Nat.reduceEqDiff, Nat.reduceGT, Nat.reduceBEq, reduceCtorEq, ↓reduceIte, Int.reduceToNat, Int.reduceLE, Int.reduceLT, Int.reduceNe, Int.reduceEq]))) ?_
  simp (maxDischargeDepth := 12) (maxSteps := 1000000) -implicitDefEqProofs only [go_sem, Nat.reduceAdd, Nat.reduceSub, Nat.reduceMul, Nat.reduceLeDiff, Nat.reduceEqDiff, Nat.reduceGT, Nat.reduceBEq, reduceCtorEq, ↓reduceIte, Int.reduceToNat, Int.reduceLE, Int.reduceLT, Int.reduceNe, Int.reduceEq]
set_option maxHeartbeats 8000000 in
theorem getV (w0 : W0) (k : Nat) (name key : ByteArray) (n : N) (l : List C) (S : St) (h : VI k n l) (hk : k ≤ 116) : ACall Tryz.prog w0 20 [eV n l, dS name, dS key] S (fun d S' => d = .tup [dS (geV name key l).1, dI (geV name key l).2] ∧ S' = S) := by
  have hlt := has_lt (l := l) (name := name)
  have q1 : hasN l name = false → geV name key l = (noS, 32) := fun e => by unfold geV; rw [e]; split <;> rfl
  have q2 : hasN l name = true → ∀ c, l[idxN l name]? = some c → geV name key l = (match findN key (kid0 c) with
    | some x => (x, 0)
    | none => (noS, 33)) := fun e c hc => by unfold geV; rw [e, hc]; rfl
  have hcell := fun c hc => (h.cell c hc).2.1
  generalize geV name key l = R at *
  refine fnS [] mx Tryz.func20 rfl rfl (by kernel_rfl) ?_; simp (maxDischargeDepth := 12) (maxSteps := 1000000) -implicitDefEqProofs only [Tryz.ntmps20, go_sem, Nat.reduceAdd, Nat.reduceSub, Nat.reduceMul, Nat.reduceLeDiff, Nat.reduceEqDiff, Nat.reduceGT, Nat.reduceBEq, reduceCtorEq, ↓reduceIte, Int.reduceToNat, Int.reduceLE, Int.reduceLT, Int.reduceNe, Int.reduceEq]
  intro b
  refine use1 (findV w0 n l name _ h.rise (by have := h.len; omega)) ?_
  generalize hI : idxN l name = i at *
  simp (maxDischargeDepth := 12) (maxSteps := 1000000) -implicitDefEqProofs only [go_sem, Nat.reduceAdd, Nat.reduceSub, Nat.reduceMul, Nat.reduceLeDiff, Nat.reduceEqDiff, Nat.reduceGT, Nat.reduceBEq, reduceCtorEq, ↓reduceIte, Int.reduceToNat, Int.reduceLE, Int.reduceLT, Int.reduceNe, Int.reduceEq]
  refine ⟨fun hh => ⟨hlt hh, fun a ha => ?_⟩, fun hh => by rw [q1 hh]; exact .refl _⟩
  have hF := fun S => tbFind w0 (key := key) (hcell a (List.mem_of_getElem? ha)) hk S
  rw [q2 hh a ha]
  generalize findN key (kid0 a) = fo at *
  refine use1 (hF _) ?_
  cases fo with
  | none => 
    simp (maxDischargeDepth := 12) (maxSteps := 1000000) -implicitDefEqProofs only [go_sem, Nat.reduceAdd, Nat.reduceSub, Nat.reduceMul, Nat.reduceLeDiff, Nat.reduceEqDiff, Nat.reduceGT, Nat.reduceBEq, reduceCtorEq, ↓reduceIte, Int.reduceToNat, Int.reduceLE, Int.reduceLT, Int.reduceNe, Int.reduceEq]
    exact .refl _
  | some x =>
    simp (maxDischargeDepth := 12) (maxSteps := 1000000) -implicitDefEqProofs only [go_sem, Nat.reduceAdd, Nat.reduceSub, Nat.reduceMul, Nat.reduceLeDiff, Nat.reduceEqDiff, Nat.reduceGT, Nat.reduceBEq, reduceCtorEq, ↓reduceIte, Int.reduceToNat, Int.reduceLE, Int.reduceLT, Int.reduceNe, Int.reduceEq]
    exact .refl _
end Go.Proofs.YtfieabidajilmaaGreat

namespace Go.Proofs.YtfieabidajilmaaGreat
open Aml Go
set_option linter.unusedVariables false
set_option linter.unusedSimpArgs false
set_option maxRecDepth 100000
/-- What stands from a place on, in a node. -/
def fromN (n : N) (i : Nat) : List C := (n.l.drop i).flatMap (enC n.leaf)
/-- Below a stack's top: what comes behind the kid that is gone into. -/
def restB : List (N × Nat) → List C
  | [] => []
  | p :: t => fromN p.1 (p.2 + 1) ++ restB t
/-- What a cursor is still to tell; its top comes first. -/
def restR : List (N × Nat) → List C
  | [] => []
  | p :: t => fromN p.1 p.2 ++ restB t
def wtN (n : N) (i : Nat) : Nat := 1 + 2 * tot (n.l.drop i)
def wtB : List (N × Nat) → Nat
  | [] => 0
  | p :: t => wtN p.1 (p.2 + 1) + wtB t
def wtR : List (N × Nat) → Nat
  | [] => 0
  | p :: t => wtN p.1 p.2 + wtB t
def StkB (l : List (N × Nat)) : Prop := ∀ p, p ∈ l → (∃ d, Nd d p.1) ∧ p.2 < p.1.l.length
/-- A cursor's stack. -/
def Stk : List (N × Nat) → Prop
  | [] => True
  | p :: t => (∃ d, Nd d p.1) ∧ p.2 ≤ p.1.l.length ∧ StkB t
/-- It stands ahead of an entry, or behind all. -/
def Stood : List (N × Nat) → Prop
  | [] => True
  | p :: _ => p.1.leaf = true ∧ p.2 < p.1.l.length
def bump : List (N × Nat) → List (N × Nat)
  | [] => []
  | p :: t => (p.1, p.2 + 1) :: t
theorem fromN_zero (n : N) : fromN n 0 = enN n := by unfold fromN; rw [enN_eq]; rfl
theorem fromN_end {n : N} {i : Nat} (h : n.l.length ≤ i) : fromN n i = [] := by unfold fromN; rw [List.drop_eq_nil_of_le h]; rfl
theorem fromN_succ {n : N} {i : Nat} {c : C} (h : n.l[i]? = some c) : fromN n i = enC n.leaf c ++ fromN n (i + 1) := by
  obtain ⟨hi, rfl⟩ := List.getElem?_eq_some_iff.1 h
  unfold fromN
  rw [List.drop_eq_getElem_cons hi]; rfl
theorem restB_bump (l : List (N × Nat)) : restB l = restR (bump l) := by cases l <;> rfl
theorem wtB_bump (l : List (N × Nat)) : wtB l = wtR (bump l) := by cases l <;> rfl
theorem stk_bump {l : List (N × Nat)} (h : StkB l) : Stk (bump l) := by
  cases l with
  | nil => trivial
  | cons p t => exact ⟨(h p List.mem_cons_self).1, (h p List.mem_cons_self).2, fun q hq => h q (List.mem_cons_of_mem _ hq)⟩
theorem wt_len : ∀ l : List (N × Nat), l.length ≤ wtB l
  | [] => Nat.le_refl 0
  | p :: t => by have := wt_len t; simp only [wtB, wtN, List.length_cons]; omega
theorem wtR_len (l : List (N × Nat)) : l.length ≤ wtR l := by
  cases l with
  | nil => exact Nat.le_refl 0
  | cons p t => have := wt_len t; simp only [wtR, wtN, List.length_cons]; omega
/-- Behind all of a node: on with what is below. -/
theorem pop_ok {p : N × Nat} {t : List (N × Nat)} (h : Stk (p :: t)) (hp : p.1.l.length ≤ p.2) : Stk (bump t) ∧ restR (bump t) = restR (p :: t) ∧ wtR (bump t) < wtR (p :: t) := by
  refine ⟨stk_bump h.2.2, ?_, ?_⟩
  · rw [← restB_bump]; simp only [restR, fromN_end hp, List.nil_append]
  · rw [← wtB_bump]; simp only [wtR, wtN]; omega
theorem tot_drop {l : List C} {i : Nat} {c : C} (h : l[i]? = some c) : tot (l.drop i) = totC c + tot (l.drop (i + 1)) := by
  obtain ⟨hi, rfl⟩ := List.getElem?_eq_some_iff.1 h
  rw [List.drop_eq_getElem_cons hi, tot_cons]
/-- Into a kid. -/
theorem push_ok {p : N × Nat} {t : List (N × Nat)} {c : C} (h : Stk (p :: t)) (hl : p.1.leaf = false) (hc : p.1.l[p.2]? = some c) : ∃ k, c.kid = [k] ∧ Stk ((k, 0) :: p :: t) ∧ restR ((k, 0) :: p :: t) = restR (p :: t) ∧ wtR ((k, 0) :: p :: t) < wtR (p :: t) := by
  obtain ⟨⟨d, hd⟩, h1, h2⟩ := h
  cases d with
  | zero => rw [hd.1] at hl; cases hl
  | succ d =>
    obtain ⟨_, k, hk, hkd⟩ := hd.2.2 c (List.mem_of_getElem? hc)
    refine ⟨k, hk, ⟨⟨d, hkd⟩, Nat.zero_le _, fun q hq => ?_⟩, ?_, ?_⟩
    · rcases List.mem_cons.1 hq with rfl | hq
      · exact ⟨⟨d + 1, hd⟩, (List.getElem?_eq_some_iff.1 hc).1⟩
      · exact h2 q hq
    · simp only [restR, restB, fromN_zero]
      rw [fromN_succ hc, hl, enC_br hk, List.append_assoc]
    · simp only [wtR, wtB, wtN, List.drop_zero]
      rw [tot_drop hc, totC_kid hk, ← totN_tot]
      omega
/-- Past an entry. -/
theorem past_ok {p : N × Nat} {t : List (N × Nat)} {c : C} (h : Stk (p :: t)) (hl : p.1.leaf = true) (hc : p.1.l[p.2]? = some c) : Stk (bump (p :: t)) ∧ restR (p :: t) = c :: restR (bump (p :: t)) ∧ wtR (bump (p :: t)) ≤ wtR (p :: t) := by
  have hi := (List.getElem?_eq_some_iff.1 hc).1
  refine ⟨⟨h.1, hi, h.2.2⟩, ?_, ?_⟩
  · simp only [restR, bump]
    rw [fromN_succ hc, hl, enC_leaf]; rfl
  · simp only [wtR, bump, wtN]
    rw [tot_drop hc]; omega
theorem stood_nil {s : List (N × Nat)} (h : Stood s) (hr : restR s = []) : s = [] := by
  cases s with
  | nil => rfl
  | cons p t =>
    have hlt : p.2 < p.1.l.length := h.2
    have hc : p.1.l[p.2]? = some p.1.l[p.2] := List.getElem?_eq_getElem hlt
    simp [restR, fromN_succ hc, h.1, enC_leaf] at hr
/-- The entries from a key on. -/
def geK (key : ByteArray) (l : List C) : List C := l.filter fun c => !ltS c.key key
theorem ge_br {d : Nat} {n : N} (h : Good (d + 1) n) (key : ByteArray) : ∃ c k, n.l[way n.l key]? = some c ∧ c.kid = [k] ∧ Good d k ∧ geK key (enN n) = geK key (enN k) ++ fromN n (way n.l key + 1) := by
  have hB := h.2.2
  obtain ⟨A, c, B, hl, hw, hA, hc, hBk⟩ := way_split hB h.2.1 key
  have hcl : n.l[way n.l key]? = some c := by rw [← hw]; conv => lhs; rw [hl]
                                              simp
  obtain ⟨o1, o2, kid, hkid, o4, o5⟩ := hB.cell c (List.mem_of_getElem? hcl)
  refine ⟨c, kid, hcl, hkid, o4, ?_⟩
  have hen : enN n = A.flatMap (enC false) ++ (enN kid ++ B.flatMap (enC false)) := by rw [enN_eq, h.1, hl, List.flatMap_append, List.flatMap_cons, enC_br hkid]
  have hdr : fromN n (way n.l key + 1) = B.flatMap (enC false) := by
    unfold fromN
    rw [h.1, ← hw]
    conv => lhs; rw [hl]
    simp
  rw [hl] at hB
  rw [hdr, hen]
  unfold geK
  rw [List.filter_append, List.filter_append, flt_no fun x hx => ?_, List.nil_append, flt_all (l := B.flatMap (enC false)) fun x hx => ?_]
  · rw [ltS_asymm (brG_lt hB hBk x hx)]; rfl
  · obtain ⟨a, ha, hx⟩ := List.mem_flatMap.1 hx
    rw [hA a ha x hx]; rfl
theorem ge_leaf {n : N} (h : Good 0 n) (key : ByteArray) : geK key (enN n) = fromN n (idxN n.l key) := by
  obtain ⟨A, B, hl, hA, hB⟩ := cut_at key h.2.1
  have hi : idxN n.l key = A.length := by rw [hl]; exact idx_app hA hB
  unfold fromN geK
  rw [en_leaf h.1, hi, h.1, flat_leaf, hl, List.filter_append, flt_no (fun x hx => by rw [hA x hx]; rfl), flt_all (fun x hx => by rw [hB x hx]; rfl)]
  simp
end Go.Proofs.YtfieabidajilmaaGreat

namespace Aml
open Go Go.RowKit
set_option linter.unusedVariables false
set_option linter.unusedSimpArgs false
section
variable {P : Program} {F : Fence} {n : Nat} {Q : Exit → Act → World → Prop} {a : Act} {w : World} {b : Frame} {k : List Item} {cs : List Frame}
theorem stepR_scope {c : Code} : step P (lone (b.atR a (.code (.scope c) :: k)) cs w) = .next (lone (b.atR a (.code c :: .inScope c :: k)) cs w) := by
  apply step_lone_go; simp [stepG, stepG.exec, Frame.atR]
theorem stepR_inScope {c : Code} : step P (lone (b.atR a (.inScope c :: k)) cs w) = .next (lone (b.atR a k) cs w) := by
  apply step_lone_go; simp [stepG, stepG.exec, Frame.atR]
def noGA (Q : Exit → Act → World → Prop) : Exit → Act → World → Prop
  | .goto _, _, _ => False
  | e, a, w => Q e a w
theorem wpIn_scope {c : Code} (h : c.wpIn F n P (noGA Q) a w) : (Code.scope c).wpIn F n P Q a w := by
  intro b k cs hro hb hr
  have h0 : (lone (b.atR a (.code (.scope c) :: k)) cs w).fenced P F := fenced_calm hb hr rfl
  obtain ⟨e, a₁, w₁, hq, harr⟩ := h b (.inScope c :: k) cs hro hb hr
  cases e with
  | normal => exact ⟨.normal, a₁, w₁, hq, .head h0 stepR_scope (StepsIn.trans harr (.one (fenced_calm hb hr rfl) stepR_inScope))⟩
  | exit id =>
    have hx : exitTo id (.inScope c :: k) = exitTo id k := by simp [exitTo]
    exact ⟨.exit id, a₁, w₁, hq, fun k' hk => .head h0 stepR_scope (harr.1 k' (by rw [hx]; exact hk)),
      fun hr' hk => let ⟨k₁, h1, h2⟩ := harr.2 hr' (by rw [hx]; exact hk); ⟨k₁, h1, .head h0 stepR_scope h2⟩⟩
  | goto l => exact hq.elim
  | ret => exact ⟨_, a₁, w₁, hq, .of_steps (.one h0 stepR_scope) harr⟩
  | panic ch => exact ⟨_, a₁, w₁, hq, .of_steps (.one h0 stepR_scope) harr⟩
  | outgrown => exact ⟨_, a₁, w₁, hq, .of_steps (.one h0 stepR_scope) harr⟩
end
section
variable {P : Program} {w0 : W0}
def noG (Q : Exit → List DV → St → Prop) : Exit → List DV → St → Prop
  | .goto _, _, _ => False
  | e, a, w => Q e a w
theorem noG_normal (Q : Exit → List DV → St → Prop) (fr : List DV) (S : St) : noG Q .normal fr S = Q .normal fr S := rfl
attribute [go_sem] noG_normal
theorem awp_scope {c : Code} {fr : List DV} {S : St} {Q : Exit → List DV → St → Prop} (h : AWp P w0 c fr S (noG Q)) : AWp P w0 (.scope c) fr S Q := by
  intro g a w h1 h2 h3 ro hr
  refine wpIn_scope (wpIn_mono (h g a w h1 h2 h3 ro (hr.imp id fun h => h)) ?_)
  rintro e a w ⟨hd, g', fr, S, k1, k2, k3, k4⟩
  cases e with
  | goto l => exact k4.elim
  | _ => exact ⟨hd, g', fr, S, k1, k2, k3, k4⟩
theorem awp_label {l : Nat} {fr : List DV} {S : St} {Q : Exit → List DV → St → Prop} (h : Q .normal fr S) : AWp P w0 (.label l) fr S Q :=
  fun g a w h1 h2 h3 ro _ => wpIn_label ⟨h3, g, fr, S, .refl g, h1, h2, h⟩
/-- A scope with its label ahead, walked on. -/
theorem scopeK (ss : List Nat := []) {l : Nat} {c : Code} {fr : List DV} {S : St} {Q : Exit → List DV → St → Prop} (hm : P.follows .mixedOrders = true) (hc : okC ss c = true) (h : vw P w0 ss c fr S (noG Q)) : AWp P w0 (.scope (.seq (.label l) c)) fr S Q :=
  awp_scope (awp_seq ((awp_label (Q := fun e fr' S' => e = .normal ∧ fr' = fr ∧ S' = S) ⟨rfl, rfl, rfl⟩).mono fun e fr' S' q => by
    obtain ⟨rfl, rfl, rfl⟩ := q
    exact vw_sound hm c hc h))
end
end Aml

namespace Go.Proofs.YtfieabidajilmaaGreat
open Aml Go
set_option linter.unusedVariables false
set_option linter.unusedSimpArgs false
set_option maxRecDepth 100000
theorem exV_snoc {α : Type} (f : α → DV) (l : List α) {d : DV} (ho : okE d = true) (F : DV → Prop) : exK (l.map f ++ [d]) l.length F = F d := by
  unfold exK
  have h : (l.map f ++ [d])[l.length]? = some d := by rw [List.getElem?_append_right (by simp)]; simp
  simp [h]
  exact fun _ => ho
theorem takeV_snoc {α : Type} (f : α → DV) (l : List α) (d : DV) : (l.map f ++ [d]).take l.length = l.map f := by
  rw [List.take_append_of_le_length (by rw [List.length_map]; exact Nat.le_refl _)]
  exact List.take_of_length_le (by rw [List.length_map]; exact Nat.le_refl _)
theorem setV_snoc {α : Type} (f : α → DV) (l : List α) (d e : DV) : (l.map f ++ [d]).set l.length e = l.map f ++ [e] := by
  rw [List.set_append, if_neg (by simp)]; simp
theorem lkV_ren_new {L : List (Nat × Ob)} {w m : Nat} {o o' : Ob} (h : lk L w = some o') (hm : m = w ∨ nin L m) : lk (ren L w (m, o)) m = some o := by
  induction L with
  | nil => cases h
  | cons p t ih =>
    obtain ⟨k, x⟩ := p
    simp only [lk] at h
    simp only [ren]
    split
    · simp [lk]
    · rename_i hne
      rw [if_neg hne] at h
      rcases hm with rfl | hm
      · simp only [lk, if_neg hne]
        exact ih h (.inl rfl)
      · have hk : ¬ k = m := fun e => by have := nin_lk hm; rw [← e] at this; simp [lk] at this
        have hm' : nin t m := hm.2.2
        simp only [lk, if_neg hk]
        exact ih h (.inr hm')
theorem ninV_ren {L : List (Nat × Ob)} {w m m' : Nat} {o : Ob} (h : nin (ren L w (m, o)) m') (hw : ∃ x, lk L w = some x) : m' = w ∨ nin L m' := by
  by_cases e : m' = w
  · exact .inl e
  · right
    refine nin_of fun p hp hpe => ?_
    have : ∀ {L : List (Nat × Ob)}, p ∈ L → p.1 ≠ w → p ∈ ren L w (m, o) := by
      intro L
      induction L with
      | nil => intro h; cases h
      | cons q t ih =>
        obtain ⟨k, x⟩ := q
        intro hq hne
        simp only [ren]
        rcases List.mem_cons.1 hq with rfl | hq
        · rw [if_neg hne]; exact List.mem_cons_self
        · split
          · exact List.mem_cons_of_mem _ hq
          · exact List.mem_cons_of_mem _ (ih hq hne)
    exact Y.nin_all h p (this hp (by rw [hpe]; exact e)) hpe
theorem renV_ren {L : List (Nat × Ob)} {w m : Nat} {o : Ob} {p : Nat × Ob} {x : Ob} (hw : lk L w = some x) (hm : m = w ∨ nin L m) : ren (ren L w (m, o)) m p = ren L w p := by
  induction L with
  | nil => rfl
  | cons q t ih =>
    obtain ⟨k, y⟩ := q
    simp only [lk] at hw
    simp only [ren]
    split
    · simp [ren]
    · rename_i hne
      rw [if_neg hne] at hw
      have hk : ¬ k = m := by
        rcases hm with rfl | hm
        · exact hne
        · exact fun e => by have := nin_lk hm; rw [← e] at this; simp [lk] at this
      simp only [ren, if_neg hk]
      rw [ih hw (hm.imp id fun h => h.2.2)]
theorem upV_ren {L : List (Nat × Ob)} {w m : Nat} {o o' : Ob} {x : Ob} (hw : lk L w = some x) (hm : m = w ∨ nin L m) : up (ren L w (m, o)) m o' = ren L w (m, o') := by
  induction L with
  | nil => rfl
  | cons q t ih =>
    obtain ⟨k, y⟩ := q
    simp only [lk] at hw
    simp only [ren]
    split
    · simp [up]
    · rename_i hne
      rw [if_neg hne] at hw
      have hk : ¬ k = m := by
        rcases hm with rfl | hm
        · exact hne
        · exact fun e => by have := nin_lk hm; rw [← e] at this; simp [lk] at this
      simp only [up, if_neg hk]
      rw [ih hw (hm.imp id fun h => h.2.2)]
theorem renV_self {L : List (Nat × Ob)} {w : Nat} {o : Ob} (hw : lk L w = some o) : ren L w (w, o) = L := by
  induction L with
  | nil => rfl
  | cons q t ih =>
    obtain ⟨k, y⟩ := q
    simp only [lk] at hw
    simp only [ren]
    split
    · rename_i e; subst e; rw [if_pos rfl] at hw; cases hw; rfl
    · rename_i hne; rw [if_neg hne] at hw; rw [ih hw]
theorem upB_up (L : List (Nat × List DV)) (b : Nat) (u v : List DV) : up (up L b u) b v = up L b v := by
  induction L with
  | nil => rfl
  | cons q t ih =>
    obtain ⟨k, y⟩ := q
    simp only [up]
    split
    · rename_i e; simp [up, e]
    · rename_i hne; simp only [up, if_neg hne, ih]
/-- A step, as the program has it. -/
@[go_sem] def dSt (p : N × Nat) : DV := .agg [dI p.1.page, dB p.1.leaf, .sl 1 false (p.1.l.map fun c => dS c.key), .sl 2 false ((if p.1.leaf then p.1.l else []).map dV2), .sl 5 false ((kidsOf p.1).map dT), dI p.2]
/-- A store with a cursor's stack in it. -/
def cur (S : St) (cb w m : Nat) (st : List (N × Nat)) : St := ⟨up S.box cb [.acc m st.length], ren S.acc w (m, .arr 6 (st.reverse.map dSt))⟩
/-- No step's node is too wide. -/
def Thin (st : List (N × Nat)) : Prop := ∀ p, p ∈ st → totN p.1 ≤ 131000
theorem thin_bump {st : List (N × Nat)} (h : Thin st) : Thin (bump st) := by
  cases st with
  | nil => exact h
  | cons p t =>
    intro q hq
    rcases List.mem_cons.1 hq with rfl | hq
    · exact h p List.mem_cons_self
    · exact h q (List.mem_cons_of_mem _ hq)
set_option maxHeartbeats 8000000 in
theorem settleP (w0 : W0) (cb w : Nat) (st : List (N × Nat)) (S : St) (hb : lk S.box cb = some [.acc w st.length]) (hw : lk S.acc w = some (.arr 6 (st.reverse.map dSt))) (hst : Stk st) (hwt : wtR st ≤ 1000000) (hth : Thin st) :
    ACall Tryz.prog w0 100 [.v (.pointer (some ⟨cb, 0, none⟩))] S fun d S' => ∃ st' m, Thin st' ∧ Stk st' ∧ Stood st' ∧ restR st' = restR st ∧ wtR st' ≤ wtR st ∧ (m = w ∨ nin S.acc m) ∧ S' = cur S cb w m st' := by
  refine fnO [2,4,6] mx Tryz.func100 rfl rfl (by kernel_rfl) ?_; simp (maxDischargeDepth := 12) (maxSteps := 1000000) -implicitDefEqProofs only [Tryz.ntmps100, go_sem, Nat.reduceAdd, Nat.reduceSub, Nat.reduceMul, Nat.reduceLeDiff, Nat.reduceEqDiff, Nat.reduceGT, Nat.reduceBEq, reduceCtorEq, ↓reduceIte, Int.reduceToNat, Int.reduceLE, Int.reduceLT, Int.reduceNe, Int.reduceEq]
  refine scopeK [2,4,6] mx (by kernel_rfl) ?_
  simp (maxDischargeDepth := 12) (maxSteps := 1000000) -implicitDefEqProofs only [go_sem, Nat.reduceAdd, Nat.reduceSub, Nat.reduceMul, Nat.reduceLeDiff, Nat.reduceEqDiff, Nat.reduceGT, Nat.reduceBEq, reduceCtorEq, ↓reduceIte, Int.reduceToNat, Int.reduceLE, Int.reduceLT, Int.reduceNe, Int.reduceEq]
  refine loopK [2,4,6] [0] (fun s : Nat × List (N × Nat) => []) (fun s => cur S cb w s.1 s.2) (fun s => Thin s.2 ∧ Stk s.2 ∧ restR s.2 = restR st ∧ wtR s.2 ≤ wtR st ∧ (s.1 = w ∨ nin S.acc s.1)) (fun s => wtR s.2) (w, st) mx (by kernel_rfl) ?_ ?_
  · have e1 : cur S cb w w st = S := by
      unfold cur
      rw [renV_self hw, up_self hb]
    simp (maxDischargeDepth := 12) (maxSteps := 1000000) -implicitDefEqProofs only [go_sem, Nat.reduceAdd, Nat.reduceSub, Nat.reduceMul, Nat.reduceLeDiff, Nat.reduceEqDiff, Nat.reduceGT, Nat.reduceBEq, reduceCtorEq, ↓reduceIte, Int.reduceToNat, Int.reduceLE, Int.reduceLT, Int.reduceNe, Int.reduceEq, e1]
    exact ⟨hth, hst⟩
  · rintro ⟨m, q⟩ ⟨hq, h1, h2, h3, h4⟩
    simp only at hq h1 h2 h3 h4
    have t3 : lk (cur S cb w m q).box cb = some [.acc m q.length] := by
      show lk (up S.box cb _) cb = _
      rw [lk_up_same, hb]; rfl
    have hm : lk (cur S cb w m q).acc m = some (.arr 6 (q.reverse.map dSt)) := lkV_ren_new hw h4
    cases q with
    | nil =>
      simp (maxDischargeDepth := 12) (maxSteps := 1000000) -implicitDefEqProofs only [go_sem, Nat.reduceAdd, Nat.reduceSub, Nat.reduceMul, Nat.reduceLeDiff, Nat.reduceEqDiff, Nat.reduceGT, Nat.reduceBEq, reduceCtorEq, ↓reduceIte, Int.reduceToNat, Int.reduceLE, Int.reduceLT, Int.reduceNe, Int.reduceEq, t3, hm]
      exact ⟨fun h => absurd h (by omega), fun _ => ⟨[], m, hq, h1, trivial, h2, h3, h4, rfl⟩⟩
    | cons p t =>
      have hm2 : lk (cur S cb w m (p :: t)).acc m = some (.arr 6 (t.reverse.map dSt ++ [dSt p])) := by rw [hm, List.reverse_cons, List.map_append]; rfl
      have hrl : t.reverse.length = t.length := List.length_reverse
      have hln := wtR_len (p :: t)
      rw [List.length_cons] at hln
      have ewrap : IntKind.i64.wrap (((t.length + 1 : Nat) : Int) - 1) = (t.length : Int) := by rw [w64] <;> omega
      have exs := fun (d : DV) (hd : okE d = true) F => exV_snoc dSt t.reverse hd F
      rw [hrl] at exs
      simp (maxDischargeDepth := 12) (maxSteps := 1000000) -implicitDefEqProofs only [go_sem, Nat.reduceAdd, Nat.reduceSub, Nat.reduceMul, Nat.reduceLeDiff, Nat.reduceEqDiff, Nat.reduceGT, Nat.reduceBEq, reduceCtorEq, ↓reduceIte, Int.reduceToNat, Int.reduceLE, Int.reduceLT, Int.reduceNe, Int.reduceEq, t3, hm2, ewrap, exs]
      refine ⟨fun _ => ⟨hrl, hrl, fun hp => ?_, fun hp => ⟨hrl, fun hl => ⟨p :: t, m, hq, h1, ⟨hl, by omega⟩, h2, h3, h4, rfl⟩, fun hl => ?_⟩⟩, fun h => absurd h (by omega)⟩
      · obtain ⟨p1, p2, p3⟩ := pop_ok h1 (by omega)
        have tks := fun (d : DV) => takeV_snoc dSt t.reverse d
        rw [hrl] at tks
        have eb := fun v => upB_up S.box cb [.acc m (p :: t).length] v
        have ea := fun q => renV_ren (o := .arr 6 ((p :: t).reverse.map dSt)) (p := q) hw h4
        refine Y.ordK [] [11] [0, 1, 2, 3, 5, 6, 7, 4, 8, 9, 10, 11, 12, 13, 14] mx (by kernel_rfl) ?_
        simp (maxDischargeDepth := 12) (maxSteps := 1000000) -implicitDefEqProofs only [go_sem, Nat.reduceAdd, Nat.reduceSub, Nat.reduceMul, Nat.reduceLeDiff, Nat.reduceEqDiff, Nat.reduceGT, Nat.reduceBEq, reduceCtorEq, ↓reduceIte, Int.reduceToNat, Int.reduceLE, Int.reduceLT, Int.reduceNe, Int.reduceEq, t3, hm2, ewrap, exs, tks]
        refine .inl ⟨.inr (by omega), ⟨_, _, _, rfl⟩, hrl, fun l2 => ?_⟩
        have hl2 : l2.n = w ∨ nin S.acc l2.n := ninV_ren l2.h ⟨_, hw⟩
        have hT2 : (⟨up (cur S cb w m (p :: t)).box cb [.acc l2.n t.length], ren (cur S cb w m (p :: t)).acc m (l2.n, .arr 6 (t.reverse.map dSt))⟩ : St) = cur S cb w l2.n t := by
          show (⟨up (up S.box cb _) cb _, ren (ren S.acc w _) m _⟩ : St) = _
          rw [eb, ea]; rfl
        rw [hT2]
        refine ⟨fun hpos => ?_, fun hz => ?_⟩
        · cases t with
          | nil => exact absurd hpos (by simp)
          | cons p' t' =>
            have t4 : lk (cur S cb w l2.n (p' :: t')).box cb = some [.acc l2.n (p' :: t').length] := by
              show lk (up S.box cb _) cb = _
              rw [lk_up_same, hb]; rfl
            have hm4 : lk (cur S cb w l2.n (p' :: t')).acc l2.n = some (.arr 6 (t'.reverse.map dSt ++ [dSt p'])) := by
              have : lk (cur S cb w l2.n (p' :: t')).acc l2.n = some (.arr 6 ((p' :: t').reverse.map dSt)) := lkV_ren_new hw hl2
              rw [this, List.reverse_cons, List.map_append]; rfl
            have hrl' : t'.reverse.length = t'.length := List.length_reverse
            rw [List.length_cons] at hln
            have ewrap' : IntKind.i64.wrap (((t'.length + 1 : Nat) : Int) - 1) = (t'.length : Int) := by rw [w64] <;> omega
            have exs' := fun (d : DV) (hd : okE d = true) F => exV_snoc dSt t'.reverse hd F
            have sts' := fun (d e : DV) => setV_snoc dSt t'.reverse d e
            rw [hrl'] at exs' sts'
            obtain ⟨-, hp2, -⟩ := id p1
            have hlt' := hp2
            have hp'l : p'.1.l.length ≤ 1000000 := by
              have := tot_len p'.1
              have := hq p' (List.mem_cons_of_mem _ List.mem_cons_self)
              omega
            have eup := fun o => upV_ren (o := .arr 6 ((p' :: t').reverse.map dSt)) (o' := o) hw hl2
            have eadd : IntKind.i64.wrap ((p'.2 : Int) + 1) = ((p'.2 + 1 : Nat) : Int) := by
              simp only [bump] at hp2
              rw [w64] <;> omega
            refine shrK [] [] mx (by kernel_rfl) ?_
            simp (maxDischargeDepth := 12) (maxSteps := 1000000) -implicitDefEqProofs only [go_sem, Nat.reduceAdd, Nat.reduceSub, Nat.reduceMul, Nat.reduceLeDiff, Nat.reduceEqDiff, Nat.reduceGT, Nat.reduceBEq, reduceCtorEq, ↓reduceIte, Int.reduceToNat, Int.reduceLE, Int.reduceLT, Int.reduceNe, Int.reduceEq, t4, hm4, ewrap', exs', sts', eadd]
            refine ⟨hrl', hrl', (l2.n, (p'.1, p'.2 + 1) :: t'), ⟨thin_bump fun x hx => hq x (List.mem_cons_of_mem _ hx), p1, p2.trans h2, Nat.le_trans (Nat.le_of_lt p3) h3, hl2⟩, p3, ?_⟩
            have hT : cur S cb w l2.n ((p'.1, p'.2 + 1) :: t') = ⟨(cur S cb w l2.n (p' :: t')).box, up (cur S cb w l2.n (p' :: t')).acc l2.n (.arr 6 (t'.reverse.map dSt ++ [dSt (p'.1, p'.2 + 1)]))⟩ := by
              show _ = (⟨up S.box cb _, up (ren S.acc w _) l2.n _⟩ : St)
              rw [eup]
              unfold cur
              simp
            rw [hT]
            exact Aml.Sub.refl _
        · cases t with
          | cons p' t' => exact absurd (by simp only [List.length_cons]; omega) hz
          | nil => exact ⟨(l2.n, []), ⟨fun x hx => (by cases hx), p1, p2.trans h2, Nat.le_trans (Nat.le_of_lt p3) h3, hl2⟩, p3, Aml.Sub.refl _⟩
      · obtain ⟨d, hd⟩ := h1.1
        cases d with
        | zero => rw [hd.1] at hl; cases hl
        | succ d =>
          have hkn := kids_nd hd
          refine Y.ordK [] [] [0, 1, 2, 3, 5, 6, 7, 8, 10, 11, 12, 4, 9, 13, 14, 15, 16, 17, 18, 19, 20, 21] mx (by kernel_rfl) ?_
          simp (maxDischargeDepth := 12) (maxSteps := 1000000) -implicitDefEqProofs only [go_sem, Nat.reduceAdd, Nat.reduceSub, Nat.reduceMul, Nat.reduceLeDiff, Nat.reduceEqDiff, Nat.reduceGT, Nat.reduceBEq, reduceCtorEq, ↓reduceIte, Int.reduceToNat, Int.reduceLE, Int.reduceLT, Int.reduceNe, Int.reduceEq, t3, hm2, ewrap, exs]
          refine ⟨hrl, hrl, by rw [hkn, List.length_map]; omega, fun a ha => ⟨hrl, by omega, by unfold maxLen; omega, ?_⟩⟩
          rw [hkn, List.getElem?_map, Option.map_eq_some_iff] at ha
          obtain ⟨c, hc, rfl⟩ := ha
          obtain ⟨k, hk, p1, p2, p3⟩ := push_ok h1 hl hc
          have hk0 := kid0_eq hk
          have hqk : Thin ((k, 0) :: p :: t) := fun x hx => by
            rcases List.mem_cons.1 hx with rfl | hx
            · have h1 := tot_kid (List.mem_of_getElem? hc) hk
              have h2 := hq p List.mem_cons_self
              show totN k ≤ _
              omega
            · exact hq x hx
          have eb := fun v => upB_up S.box cb [.acc m (p :: t).length] v
          have ea := fun o => upV_ren (o := .arr 6 ((p :: t).reverse.map dSt)) (o' := o) hw h4
          refine ⟨(m, (k, 0) :: p :: t), ⟨hqk, p1, p2.trans h2, Nat.le_trans (Nat.le_of_lt p3) h3, h4⟩, p3, ?_⟩
          rw [hk0]
          have hT : cur S cb w m ((k, 0) :: p :: t) = ⟨up (cur S cb w m (p :: t)).box cb [.acc m (t.reverse.length + 1 + 1)], up (cur S cb w m (p :: t)).acc m (.arr 6 (t.reverse.map dSt ++ [dSt p] ++ [dSt (k, 0)]))⟩ := by
            show _ = (⟨up (up S.box cb _) cb _, up (ren S.acc w _) m _⟩ : St)
            rw [eb, ea]
            unfold cur
            simp [hrl]
          rw [hT]
          exact Aml.Sub.refl _
end Go.Proofs.YtfieabidajilmaaGreat
