/-
  Trees marked as laid, and as the program has them; walked; A row that a statement builds, as one that grows; Trees of the program, and the iterator over their nodes; How many pages a tree takes, and which it has: the program; The end of a growing slice, cleared; Which pages a tree has lost: the program; Trees as the program has them; the laws of marked ones; Numbers put together, in order; Numbers in order, as the document has them; the plain laws of order; What the reference tells of a tree's pages; What the reference tells of a tree's pages, and of lost ones; Few statements whose order is open, each order walked; Statements whose order is open, with rows made and turned to texts: what is made is frozen at once. By an AI agent.
-/
import Derived.Test.YtkibkahknibgfaaMT4
import Derived.Test.YtkibkahknibgfaaMT3
namespace Go.Proofs.Ytkibkahknibgfaa
open Aml Go
set_option linter.unusedVariables false
set_option linter.unusedSimpArgs false
set_option maxRecDepth 100000

/-- Pages of a value, from one on. -/
def pagesR (from_ : Int) (n : Nat) : List Int := (List.range n).map fun (i : Nat) => from_ + i
def longN (z : Nat) : Nat := if 16 < z then (z + 118) / 119 else 0
mutual
/-- A tree of which all is laid, at pages from one on; the page behind them. -/
def markN : N → Int → N × Int
  | .mk p b l, f =>
    let r := markCs b l f
    if l = [] then (.mk 0 b r.1, r.2) else (.mk r.2 b r.1, r.2 + 1)
def markC (b : Bool) : C → Int → C × Int
  | .mk k d ps kid, f => if b then (.mk k d (if 16 < d.size then pagesR f (longN d.size) else ps) kid, f + longN d.size) else
    let r := markNs kid f
    (.mk k d ps r.1, r.2)
def markCs (b : Bool) : List C → Int → List C × Int
  | [], f => ([], f)
  | c :: l, f =>
    let r := markC b c f
    let q := markCs b l r.2
    (r.1 :: q.1, q.2)
def markNs : List N → Int → List N × Int
  | [], f => ([], f)
  | n :: l, f => ([(markN n f).1], (markN n f).2)
end
theorem markCs_snoc (b : Bool) : ∀ (l : List C) (c : C) (f : Int), markCs b (l ++ [c]) f = ((markCs b l f).1 ++ [(markC b c (markCs b l f).2).1], (markC b c (markCs b l f).2).2)
  | [], c, f => by simp [markCs]
  | a :: l, c, f => by simp only [List.cons_append, markCs, markCs_snoc b l c]
theorem markCs_take {b : Bool} {l : List C} {k : Nat} {c : C} (h : l[k]? = some c) (f : Int) : markCs b (l.take (k + 1)) f = ((markCs b (l.take k) f).1 ++ [(markC b c (markCs b (l.take k) f).2).1], (markC b c (markCs b (l.take k) f).2).2) := by
  rw [List.take_add_one, h, Option.toList_some, markCs_snoc]
theorem markCs_len (b : Bool) : ∀ (l : List C) (f : Int), (markCs b l f).1.length = l.length
  | [], _ => rfl
  | a :: l, f => by simp only [markCs, List.length_cons, markCs_len b l]
theorem markN_eq (n : N) (f : Int) : markN n f = if n.l = [] then (.mk 0 n.leaf (markCs n.leaf n.l f).1, (markCs n.leaf n.l f).2) else (.mk (markCs n.leaf n.l f).2 n.leaf (markCs n.leaf n.l f).1, (markCs n.leaf n.l f).2 + 1) := by
  cases n; simp only [markN, N.leaf, N.l]; rfl
theorem markC_leaf (c : C) (f : Int) : markC true c f = (.mk c.key c.data (if 16 < c.data.size then pagesR f (longN c.data.size) else c.pages) c.kid, f + longN c.data.size) := by
  cases c; simp only [markC, if_true, C.key, C.data, C.pages, C.kid]; rfl
theorem markC_br {c : C} {k : N} (h : c.kid = [k]) (f : Int) : markC false c f = (.mk c.key c.data c.pages [(markN k f).1], (markN k f).2) := by
  cases c with | mk ck cd cp cr =>
  simp only [C.kid] at h; subst h
  simp only [markC, Bool.false_eq_true, if_false, markNs, C.key, C.data, C.pages]
theorem longN_le {z : Nat} (h : z ≤ 400) : longN z ≤ 4 := by unfold longN; split <;> omega
theorem tot_take (l : List C) (k : Nat) : tot (l.take k) ≤ tot l := by have := tot_split l k; omega
theorem tot_succ {l : List C} {k : Nat} {c : C} (h : l[k]? = some c) : tot (l.take (k + 1)) = tot (l.take k) + totC c := by
  rw [List.take_add_one, h, Option.toList_some, tot_app, tot_cons, tot_nil]; omega
theorem markCs_to (b : Bool) : ∀ (l : List C) (f : Int), (∀ c, c ∈ l → ∀ f, f ≤ (markC b c f).2 ∧ (markC b c f).2 + 1 ≤ f + 5 * (totC c : Int)) → f ≤ (markCs b l f).2 ∧ (markCs b l f).2 + l.length ≤ f + 5 * (tot l : Int)
  | [], f, _ => by simp [markCs, tot]
  | c :: l, f, h => by
    have h1 := h c List.mem_cons_self f
    have h2 := markCs_to b l (markC b c f).2 fun c hc => h c (List.mem_cons_of_mem _ hc)
    simp only [markCs, List.length_cons, tot_cons]
    omega
theorem mark_to : ∀ (d : Nat) (n : N) (f : Int), Nd d n → f ≤ (markN n f).2 ∧ (markN n f).2 ≤ f + 5 * (totN n : Int) := by
  have cs : ∀ (b : Bool) (l : List C) (f : Int), (∀ c, c ∈ l → ∀ f, f ≤ (markC b c f).2 ∧ (markC b c f).2 + 1 ≤ f + 5 * (totC c : Int)) → f ≤ (markCs b l f).2 ∧ (markCs b l f).2 + l.length ≤ f + 5 * (tot l : Int) := by
    intro b l
    induction l with
    | nil => intro f _; simp [markCs, tot]
    | cons c l ih =>
      intro f h
      have h1 := h c List.mem_cons_self f
      have h2 := ih (markC b c f).2 fun c hc => h c (List.mem_cons_of_mem _ hc)
      simp only [markCs, List.length_cons, tot_cons]
      omega
  have fin : ∀ (n : N) (f : Int), (∀ c, c ∈ n.l → ∀ f, f ≤ (markC n.leaf c f).2 ∧ (markC n.leaf c f).2 + 1 ≤ f + 5 * (totC c : Int)) → f ≤ (markN n f).2 ∧ (markN n f).2 ≤ f + 5 * (totN n : Int) := fun n f h => by
    have h1 := cs n.leaf n.l f h
    rw [markN_eq, totN_tot]
    split
    · simp only; omega
    · rename_i hne
      have := List.length_pos_iff.2 hne
      simp only; omega
  intro d
  induction d with
  | zero =>
    intro n f hn
    refine fin n f fun c hc f => ?_
    have h1 := hn.2 c hc
    rw [hn.1, markC_leaf, totC_eq, h1.2]
    have := longN_le h1.1.2.1
    simp; omega
  | succ d ih =>
    intro n f hn
    refine fin n f fun c hc f => ?_
    obtain ⟨_, k, hk, hnd⟩ := hn.2.2 c hc
    rw [hn.1, markC_br hk, totC_kid hk]
    have := ih k f hnd
    simp only; omega
theorem pagesR_succ (f : Int) (q : Nat) : pagesR f (q + 1) = pagesR f q ++ [f + q] := by
  unfold pagesR
  rw [List.range_succ, List.map_append]; rfl
theorem pagesR_len (f : Int) (q : Nat) : (pagesR f q).length = q := by unfold pagesR; simp
theorem markTo_leaf {l : List C} (h : ∀ c, c ∈ l → c.data.size ≤ 400) (f : Int) : f ≤ (markCs true l f).2 ∧ (markCs true l f).2 ≤ f + 4 * l.length := by
  induction l generalizing f with
  | nil => simp [markCs]
  | cons c l ih =>
    have := ih (fun c hc => h c (List.mem_cons_of_mem _ hc)) (markC true c f).2
    have h1 := longN_le (h c List.mem_cons_self)
    rw [markC_leaf] at this
    simp only [markCs, List.length_cons]
    rw [markC_leaf]
    simp only at this ⊢
    omega
theorem markN_fin {n : N} {b : Bool} (hb : n.leaf = b) (f : Int) : (eN (markN n f).1, (markN n f).2) = if n.l = [] then (.agg [dI 0, dB b, .sl 4 false ((markCs b n.l f).1.map dC)], (markCs b n.l f).2) else (.agg [dI (markCs b n.l f).2, dB b, .sl 4 false ((markCs b n.l f).1.map dC)], (markCs b n.l f).2 + 1) := by
  rw [markN_eq, hb]
  split <;> rfl
set_option maxHeartbeats 8000000 in
theorem markedW (w0 : W0) : ∀ (d : Nat) (n : N) (f : Int) (S : St), Nd d n → totN n ≤ 131072 → 0 ≤ f → f + 5 * (totN n : Int) ≤ 1099511627776 → ACall Try.prog w0 37 [eN n, dI f] S (fun e S' => e = .tup [eN (markN n f).1, dI (markN n f).2] ∧ S' = S) := by
  intro d
  induction d with
  | zero =>
    intro n f S hn ht hf0 hf1
    have hlf := hn.1
    have hl := tot_len n
    have hfin := markN_fin hlf f
    generalize eN (markN n f).1 = R1 at hfin
    generalize (markN n f).2 = R2 at hfin
    refine fnS [17] mx Try.func37 rfl rfl (by kernel_rfl) ?_; simp (maxDischargeDepth := 12) (maxSteps := 1000000) -implicitDefEqProofs only [Try.ntmps37, go_sem, Nat.reduceAdd, Nat.reduceSub, Nat.reduceMul, Nat.reduceLeDiff, Nat.reduceEqDiff, Nat.reduceGT, Nat.reduceBEq, reduceCtorEq, ↓reduceIte, Int.reduceToNat, Int.reduceLE, Int.reduceLT, Int.reduceNe, Int.reduceEq,  hlf]
    intro b b1 b2
    refine awp_growB b2.n 2 4 (by omega) (q_lk_same _ _ _) rfl fun lb => ?_
    simp (maxDischargeDepth := 12) (maxSteps := 1000000) -implicitDefEqProofs only [go_sem, Nat.reduceAdd, Nat.reduceSub, Nat.reduceMul, Nat.reduceLeDiff, Nat.reduceEqDiff, Nat.reduceGT, Nat.reduceBEq, reduceCtorEq, ↓reduceIte, Int.reduceToNat, Int.reduceLE, Int.reduceLT, Int.reduceNe, Int.reduceEq]
    refine loopN [17] n.l.length [1, 2, 4, 6, 7] (fun k => [(1, dI (markCs true (n.l.take k) f).2), (7, dI k)]) (fun k => ⟨(b2.n, [dI 0, dB true, .acc lb.n k]) :: (b1.n, [dI 0, dB false, .sl 0 true []]) :: (b.n, [dI n.page, dB true, .sl 4 false (n.l.map dC)]) :: S.box, (lb.n, .arr 4 ((markCs true (n.l.take k) f).1.map dC)) :: S.acc⟩) (fun _ => True) mx (by kernel_rfl) ?_ ?_
    · simp (maxDischargeDepth := 12) (maxSteps := 1000000) -implicitDefEqProofs only [go_sem, Nat.reduceAdd, Nat.reduceSub, Nat.reduceMul, Nat.reduceLeDiff, Nat.reduceEqDiff, Nat.reduceGT, Nat.reduceBEq, reduceCtorEq, ↓reduceIte, Int.reduceToNat, Int.reduceLE, Int.reduceLT, Int.reduceNe, Int.reduceEq]
      exact ⟨rfl, .refl _⟩
    · intro k hk' _
      have hml : (markCs true (n.l.take k) f).1.length = k := by rw [markCs_len, List.length_take]; omega
      have hto := markTo_leaf (l := n.l.take k) (fun c hc => (hn.2 c (List.mem_of_mem_take hc)).1.2.1) f
      rw [List.length_take] at hto
      have hm8 : maxLen = 9223372036854775807 := rfl
      simp (maxDischargeDepth := 12) (maxSteps := 1000000) -implicitDefEqProofs only [go_sem, Nat.reduceAdd, Nat.reduceSub, Nat.reduceMul, Nat.reduceLeDiff, Nat.reduceEqDiff, Nat.reduceGT, Nat.reduceBEq, reduceCtorEq, ↓reduceIte, Int.reduceToNat, Int.reduceLE, Int.reduceLT, Int.reduceNe, Int.reduceEq, hml]
      refine ⟨fun hlt => ⟨hlt, fun c hc b3 => ?_⟩, fun hge => ?_⟩
      · have hs := markCs_take (b := true) hc f
        have hcm := List.mem_of_getElem? hc
        have hz := (hn.2 c hcm).1.2.1
        rw [markC_leaf] at hs
        have hs1 := congrArg Prod.fst hs
        have hs2 := congrArg Prod.snd hs
        simp only at hs1 hs2
        rw [hs1, hs2]
        generalize hP : markCs true (n.l.take k) f = Pk at *
        obtain ⟨Lk, fk⟩ := Pk
        simp only at hml hto
        have hk1 : IntKind.i64.wrap ((k : Int) + 1) = ((k + 1 : Nat) : Int) := by rw [w64 (by omega) (by omega)]; omega
        refine ⟨fun hbig => ?_, fun hsm => ?_⟩
        · refine growK 11 1 rfl (by omega) fun lp => ?_
          simp (maxDischargeDepth := 12) (maxSteps := 1000000) -implicitDefEqProofs only [go_sem, Nat.reduceAdd, Nat.reduceSub, Nat.reduceMul, Nat.reduceLeDiff, Nat.reduceEqDiff, Nat.reduceGT, Nat.reduceBEq, reduceCtorEq, ↓reduceIte, Int.reduceToNat, Int.reduceLE, Int.reduceLT, Int.reduceNe, Int.reduceEq]
          refine loopN [17] (longN c.data.size) [1, 2, 4, 6, 7, 8, 11, 12] (fun q => [(1, dI (fk + q)), (11, .acc lp.n q), (12, dI ((119 * q : Nat) : Int))]) (fun q => ⟨(b3.n, [dS c.key, dS c.data, .sl 1 false (c.pages.map dI), .sl 3 false (c.kid.map dN)]) :: (b2.n, [dI 0, dB true, .acc lb.n k]) :: (b1.n, [dI 0, dB false, .sl 0 true []]) :: (b.n, [dI n.page, dB true, .sl 4 false (n.l.map dC)]) :: S.box, (lp.n, .arr 1 ((pagesR fk q).map dI)) :: (lb.n, .arr 4 (Lk.map dC)) :: S.acc⟩) (fun _ => True) mx (by kernel_rfl) ?_ ?_
          · simp (maxDischargeDepth := 12) (maxSteps := 1000000) -implicitDefEqProofs only [go_sem, Nat.reduceAdd, Nat.reduceSub, Nat.reduceMul, Nat.reduceLeDiff, Nat.reduceEqDiff, Nat.reduceGT, Nat.reduceBEq, reduceCtorEq, ↓reduceIte, Int.reduceToNat, Int.reduceLE, Int.reduceLT, Int.reduceNe, Int.reduceEq]
            exact ⟨by omega, .refl _⟩
          · intro q hq _
            have hpl := pagesR_len fk q
            have hQ : longN c.data.size = (c.data.size + 118) / 119 := if_pos (by omega)
            have hQ4 := longN_le hz
            simp (maxDischargeDepth := 12) (maxSteps := 1000000) -implicitDefEqProofs only [go_sem, Nat.reduceAdd, Nat.reduceSub, Nat.reduceMul, Nat.reduceLeDiff, Nat.reduceEqDiff, Nat.reduceGT, Nat.reduceBEq, reduceCtorEq, ↓reduceIte, Int.reduceToNat, Int.reduceLE, Int.reduceLT, Int.reduceNe, Int.reduceEq, hpl]
            refine ⟨fun hq1 => ⟨by omega, by omega, by omega, ⟨by rw [w64 (by omega) (by omega)]; omega, by rw [w64 (by omega) (by omega)]; omega⟩, ?_⟩, fun hq1 => ?_⟩
            · rw [pagesR_succ, List.map_append]; exact .refl _
            · have hqe : q = longN c.data.size := by omega
              rw [← hqe, if_pos (by omega)]
              refine shrK [] [11] mx (by kernel_rfl) ?_
              simp (maxDischargeDepth := 12) (maxSteps := 1000000) -implicitDefEqProofs only [go_sem, Nat.reduceAdd, Nat.reduceSub, Nat.reduceMul, Nat.reduceLeDiff, Nat.reduceEqDiff, Nat.reduceGT, Nat.reduceBEq, reduceCtorEq, ↓reduceIte, Int.reduceToNat, Int.reduceLE, Int.reduceLT, Int.reduceNe, Int.reduceEq, hpl, hml]
              refine ⟨by omega, by omega, by omega, hk1, .consB (.consA ?_)⟩
              rw [List.map_append, List.map_cons, List.map_nil, dC_eq]; exact .refl _
        · rw [show longN c.data.size = 0 from if_neg (by omega), if_neg (by omega)]
          simp (maxDischargeDepth := 12) (maxSteps := 1000000) -implicitDefEqProofs only [go_sem, Nat.reduceAdd, Nat.reduceSub, Nat.reduceMul, Nat.reduceLeDiff, Nat.reduceEqDiff, Nat.reduceGT, Nat.reduceBEq, reduceCtorEq, ↓reduceIte, Int.reduceToNat, Int.reduceLE, Int.reduceLT, Int.reduceNe, Int.reduceEq]
          refine ⟨by omega, by omega, hlt, ⟨by omega, hk1⟩, .consB ?_⟩
          rw [List.map_append, List.map_cons, List.map_nil, dC_eq]; exact .refl _
      · have hkl : k = n.l.length := by omega
        rw [hkl, List.take_length] at hml hto ⊢
        refine ⟨fun hp => ?_, fun hp => ?_⟩
        · rw [if_neg (fun e => by rw [e] at hp; simp at hp)] at hfin
          cases hfin
          refine Wk.eq ?_
          rw [w64 (by omega) (by omega)]; rfl
        · rw [if_pos (List.eq_nil_of_length_eq_zero (by omega))] at hfin
          cases hfin
          exact .refl _
  | succ d ih =>
    intro n f S hn ht hf0 hf1
    have hlf := hn.1
    have hl := tot_len n
    have hfin := markN_fin hlf f
    generalize eN (markN n f).1 = R1 at hfin
    generalize (markN n f).2 = R2 at hfin
    refine fnS [17, 18] mx Try.func37 rfl rfl (by kernel_rfl) ?_; simp (maxDischargeDepth := 12) (maxSteps := 1000000) -implicitDefEqProofs only [Try.ntmps37, go_sem, Nat.reduceAdd, Nat.reduceSub, Nat.reduceMul, Nat.reduceLeDiff, Nat.reduceEqDiff, Nat.reduceGT, Nat.reduceBEq, reduceCtorEq, ↓reduceIte, Int.reduceToNat, Int.reduceLE, Int.reduceLT, Int.reduceNe, Int.reduceEq,  hlf]
    intro b b1 b2
    refine awp_growB b2.n 2 4 (by omega) (q_lk_same _ _ _) rfl fun lb => ?_
    simp (maxDischargeDepth := 12) (maxSteps := 1000000) -implicitDefEqProofs only [go_sem, Nat.reduceAdd, Nat.reduceSub, Nat.reduceMul, Nat.reduceLeDiff, Nat.reduceEqDiff, Nat.reduceGT, Nat.reduceBEq, reduceCtorEq, ↓reduceIte, Int.reduceToNat, Int.reduceLE, Int.reduceLT, Int.reduceNe, Int.reduceEq]
    refine loopN [17, 18] n.l.length [1, 2, 4, 6, 7] (fun k => [(1, dI (markCs false (n.l.take k) f).2), (7, dI k)]) (fun k => ⟨(b2.n, [dI 0, dB false, .acc lb.n k]) :: (b1.n, [dI 0, dB false, .sl 0 true []]) :: (b.n, [dI n.page, dB false, .sl 4 false (n.l.map dC)]) :: S.box, (lb.n, .arr 4 ((markCs false (n.l.take k) f).1.map dC)) :: S.acc⟩) (fun _ => True) mx (by kernel_rfl) ?_ ?_
    · simp (maxDischargeDepth := 12) (maxSteps := 1000000) -implicitDefEqProofs only [go_sem, Nat.reduceAdd, Nat.reduceSub, Nat.reduceMul, Nat.reduceLeDiff, Nat.reduceEqDiff, Nat.reduceGT, Nat.reduceBEq, reduceCtorEq, ↓reduceIte, Int.reduceToNat, Int.reduceLE, Int.reduceLT, Int.reduceNe, Int.reduceEq]
      exact ⟨rfl, .refl _⟩
    · intro k hk' _
      have hml : (markCs false (n.l.take k) f).1.length = k := by rw [markCs_len, List.length_take]; omega
      have hm8 : maxLen = 9223372036854775807 := rfl
      have hto : f ≤ (markCs false (n.l.take k) f).2 ∧ (markCs false (n.l.take k) f).2 + k ≤ f + 5 * (tot (n.l.take k) : Int) := by
        have := markCs_to false (n.l.take k) f fun c hc f => by
          obtain ⟨_, kid, hkid, hnd⟩ := hn.2.2 c (List.mem_of_mem_take hc)
          rw [markC_br hkid, totC_kid hkid]
          have := mark_to d kid f hnd
          simp only; omega
        rw [List.length_take] at this
        omega
      have htl : tot (n.l.take k) ≤ tot n.l := tot_take _ _
      rw [totN_tot] at ht hf1
      simp (maxDischargeDepth := 12) (maxSteps := 1000000) -implicitDefEqProofs only [go_sem, Nat.reduceAdd, Nat.reduceSub, Nat.reduceMul, Nat.reduceLeDiff, Nat.reduceEqDiff, Nat.reduceGT, Nat.reduceBEq, reduceCtorEq, ↓reduceIte, Int.reduceToNat, Int.reduceLE, Int.reduceLT, Int.reduceNe, Int.reduceEq, hml]
      refine ⟨fun hlt => ⟨hlt, fun c hc b3 => ?_⟩, fun hge => ?_⟩
      · have hs := markCs_take (b := false) hc f
        have hcm := List.mem_of_getElem? hc
        obtain ⟨hsh, kid, hkid, hnd⟩ := hn.2.2 c hcm
        have htk := tot_succ hc
        rw [totC_kid hkid] at htk
        have htl2 : tot (n.l.take (k + 1)) ≤ tot n.l := tot_take _ _
        rw [markC_br hkid] at hs
        have hs1 := congrArg Prod.fst hs
        have hs2 := congrArg Prod.snd hs
        simp only at hs1 hs2
        rw [hs1, hs2]
        generalize hP : markCs false (n.l.take k) f = Pk at *
        obtain ⟨Lk, fk⟩ := Pk
        simp only at hml hto
        have hk1 : IntKind.i64.wrap ((k : Int) + 1) = ((k + 1 : Nat) : Int) := by rw [w64 (by omega) (by omega)]; omega
        simp (maxDischargeDepth := 12) (maxSteps := 1000000) -implicitDefEqProofs only [go_sem, Nat.reduceAdd, Nat.reduceSub, Nat.reduceMul, Nat.reduceLeDiff, Nat.reduceEqDiff, Nat.reduceGT, Nat.reduceBEq, reduceCtorEq, ↓reduceIte, Int.reduceToNat, Int.reduceLE, Int.reduceLT, Int.reduceNe, Int.reduceEq, hkid]
        refine use1 (ih kid fk _ hnd (by omega) (by omega) (by omega)) ?_
        simp (maxDischargeDepth := 12) (maxSteps := 1000000) -implicitDefEqProofs only [go_sem, Nat.reduceAdd, Nat.reduceSub, Nat.reduceMul, Nat.reduceLeDiff, Nat.reduceEqDiff, Nat.reduceGT, Nat.reduceBEq, reduceCtorEq, ↓reduceIte, Int.reduceToNat, Int.reduceLE, Int.reduceLT, Int.reduceNe, Int.reduceEq, hkid]
        intro b4
        refine wkBoxK b3.n [dS c.key, dS c.data, .sl 1 false (c.pages.map dI), .sl 3 false [dN (markN kid fk).1]] (ds := [dS c.key, dS c.data, .sl 1 false (c.pages.map dI), .sl 3 true [eN (markN kid fk).1]]) (by simp (maxDischargeDepth := 12) (maxSteps := 1000000) -implicitDefEqProofs only [go_sem, Nat.reduceAdd, Nat.reduceSub, Nat.reduceMul, Nat.reduceLeDiff, Nat.reduceEqDiff, Nat.reduceGT, Nat.reduceBEq, reduceCtorEq, ↓reduceIte, Int.reduceToNat, Int.reduceLE, Int.reduceLT, Int.reduceNe, Int.reduceEq]) (by rw [dN_eq]; exact .cons (.refl _) (.cons (.refl _) (.cons (.refl _) (.cons (.full _ _ _) .nil)))) ?_
        simp (maxDischargeDepth := 12) (maxSteps := 1000000) -implicitDefEqProofs only [go_sem, Nat.reduceAdd, Nat.reduceSub, Nat.reduceMul, Nat.reduceLeDiff, Nat.reduceEqDiff, Nat.reduceGT, Nat.reduceBEq, reduceCtorEq, ↓reduceIte, Int.reduceToNat, Int.reduceLE, Int.reduceLT, Int.reduceNe, Int.reduceEq]
        refine shrK [] [] mx (by kernel_rfl) ?_
        simp (maxDischargeDepth := 12) (maxSteps := 1000000) -implicitDefEqProofs only [go_sem, Nat.reduceAdd, Nat.reduceSub, Nat.reduceMul, Nat.reduceLeDiff, Nat.reduceEqDiff, Nat.reduceGT, Nat.reduceBEq, reduceCtorEq, ↓reduceIte, Int.reduceToNat, Int.reduceLE, Int.reduceLT, Int.reduceNe, Int.reduceEq, hml]
        refine ⟨by omega, by omega, by omega, hk1, .consB (.consB ?_)⟩
        simp (maxDischargeDepth := 12) (maxSteps := 1000000) -implicitDefEqProofs only [go_sem, Nat.reduceAdd, Nat.reduceSub, Nat.reduceMul, Nat.reduceLeDiff, Nat.reduceEqDiff, Nat.reduceGT, Nat.reduceBEq, reduceCtorEq, ↓reduceIte, Int.reduceToNat, Int.reduceLE, Int.reduceLT, Int.reduceNe, Int.reduceEq, List.map_append, List.map_cons, List.map_nil]
      · have hkl : k = n.l.length := by omega
        rw [hkl, List.take_length] at hml hto ⊢
        refine ⟨fun hp => ?_, fun hp => ?_⟩
        · rw [if_neg (fun e => by rw [e] at hp; simp at hp)] at hfin
          cases hfin
          refine Wk.eq ?_
          rw [w64 (by omega) (by omega)]; rfl
        · rw [if_pos (List.eq_nil_of_length_eq_zero (by omega))] at hfin
          cases hfin
          exact .refl _
end Go.Proofs.Ytkibkahknibgfaa

namespace Aml
open Go Go.RowKit
set_option linter.unusedVariables false
set_option linter.unusedSimpArgs false

/-- A row, as one that grows. -/
def arrK (d : DV) (S : St) (K : DV → St → Prop) : Prop := match d with
  | .sl s true xs => ∀ l, nin S.acc l → K (.acc l xs.length) ⟨S.box, (l, .arr s xs) :: S.acc⟩
  | _ => False
section
variable {P : Program} {w0 : W0}
theorem buildSlice_arr {g : Gh} {S : St} {w : World} (h1 : Rel w0 g S w) {t len : Nat} {parts : List (Nat × DV)} {vs : List (Nat × Value)} (hx : parts.map (·.1) = vs.map (·.1)) (hR : RepL g (parts.map (·.2)) (vs.map (·.2))) {K : DV → St → Prop}
    {e : Nat} (hte : ∀ e' s b i, tk P t = .sl e' s b i → e' = e) (h : vBuildSlice (tk P t) (zD P e) len parts fun d => arrK d S K) :
    ∃ d u w' g' S', (Instr.buildSlice t len vs.toArray).run P w = .ok u w' ∧ g.le g' ∧ Rel w0 g' S' w' ∧ Rep g' d u ∧ K d S' := by
  unfold vBuildSlice at h
  split at h
  · rename_i e' s by' hk
    obtain rfl := hte _ _ _ _ hk
    obtain ⟨hok, hzl, hbig, h⟩ := h
    obtain ⟨hu, hs, _, hei⟩ := tk_sl hk
    obtain ⟨ti, z, hi, hz, hzs, hpos⟩ := okEl_spec hei
    have hsz : ti.size = s := by simpa [Program.cellsOf, hi] using hs
    have hzD : zD P e' = cv z := by simp [zD, hi, hz]
    have hrz : Rep g (zD P e') z := hzD ▸ rep_cv g z
    split at h
    · rename_i xs hf
      have hpw := pw_made (z := z) (s := s) (n := len) (by omega) (by omega)
      obtain ⟨cs', us', q1, q2, q3, q4, q5⟩ := fillE_ok (g := g) (s := s) parts vs (List.replicate len (zD P e')) (List.replicate len z) ((Array.range (len * s)).map (z.cells[· % z.cells.size]!)) xs hx hR
        ⟨by simp, fun i d u a b => by
          rw [List.getElem?_replicate] at a b
          split at a
          · rename_i hlt; rw [if_pos hlt] at b; simp only [Option.some.injEq] at a b; subst a; subst b; exact hrz
          · cases a⟩ hpw (fun u hu x hx => by rw [List.eq_of_mem_replicate hu] at hx; exact hrz.one hok x hx) hf
      have hlen : xs.length = len := by simpa using q5
      have hlu : us'.length = len := by rw [← q2.len]; exact hlen
      have hrun : (Instr.buildSlice t len vs.toArray).run P w = .ok (.slice (some ⟨w.heap.size, 0, none⟩) len len) (w.alloc (.cells cs' e')) := by
        have hb : ¬ (len * s > 2 ^ 24) := by omega
        simp only [Instr.buildSlice]
        by_cases hls : len * s = 0
        · have hl0 : len = 0 := by rcases Nat.mul_eq_zero.1 hls with h' | h' <;> omega
          have hcs : ((Array.range (len * s)).map (z.cells[· % z.cells.size]!)) = #[] := by simp [hls]
          rw [hcs] at q1
          have hr0 : ∀ f : Nat → Value, (Array.range 0).map f = #[] := fun f => by simp
          simp only [run_underlying hu, Go.sizeOf, typeInfo, hi, hsz, hls, newRow, Sem.run_bind, Sem.run_pure, Result.andThen_ok, run_program, hr0, if_true]
          rw [q1]
          simp [hl0]
        · simp [run_underlying hu, Go.sizeOf, typeInfo, hi, hsz, hls, hb, zeroValue, hz, q1, newRow]
      have hlm : len ≤ maxLen := by
        have : len * 1 ≤ len * s := Nat.mul_le_mul_left len (by omega)
        unfold maxLen; omega
      have hcsz : cs'.size = len * s := by
        have := q3.size
        rw [hlu] at this
        simpa using this
      obtain ⟨l, g', hle, hne, hRel, hA⟩ := h1.newArr (s := s) (xs := xs) (us := us') (c := len) (below_alloc w (.cells cs' e')) (by omega) (Nat.le_refl _) (heap_alloc_new w _) hcsz (by omega) hlm q2 q3.each q4 (fun i u j x a b => by have := q3.at_ i u j x a b; simpa using this)
      rw [hlen] at hA
      have h' := h l (nin_of hne)
      rw [hlen] at h'
      exact ⟨_, _, _, _, _, hrun, hle, hRel, hA, h'⟩
    · exact h.elim
  · exact h.elim
theorem y_buildArr {o : Oper} {t len : Nat} {parts : List (Nat × Operand)} (ho : o.op = .buildSlice t len parts.toArray) {ρD : Operand → DV} {S : St} {K : DV → St → Prop}
    (h : shrs S (parts.map fun p => ρD p.2) fun ds S => vBuildSlice (tk P t) (zD P (elT P t)) len ((parts.map (·.1)).zip ds) fun d => arrK d S K) : YieldsE P w0 o ρD S K := by
  intro g w ρ h1 h2 hcst
  have hR := repL_of_ops (g := g) (ρD := ρD) (ρ := ρ) parts (fun p hp => h2 p.2 (by simp only [ho, Op.operands]; simp; exact ⟨p.1, hp⟩))
  obtain ⟨g', ds, S', l1, R1, r1, k1⟩ := shrs_ok _ h1 hR h
  have hlen : (parts.map (·.1)).length = ds.length := by have := r1.len; simpa using this.symm
  obtain ⟨d, u, w', g2, S2, e1, l2, R2, e2, e3⟩ := buildSlice_arr (P := P) R1 (t := t) (len := len) (parts := (parts.map (·.1)).zip ds) (vs := parts.map fun p => (p.1, ρ p.2)) (by rw [zip_fst hlen]; simp) (by rw [zip_snd hlen]; simpa [Function.comp_def] using r1)
    (e := elT P t) (fun e' s b i hk => by simp [elT, hk]) k1
  have hrun : (execOp ρ o).run P w = .ok (.value u) w' := by
    have e : (parts.toArray.map fun (i, x) => (i, ρ x)) = (parts.map fun p => (p.1, ρ p.2)).toArray := by simp
    simp only [execOp, ho, Sem.run_bind]
    rw [e, e1]
    rfl
  rw [hrun]
  exact ⟨g2, d, S2, l1.trans l2, R2, e2, e3⟩
def opA (P : Program) (w0 : W0) (op : Op) (fr : List DV) (S : St) (K : DV → St → Prop) : Prop := match op with
  | .buildSlice t len parts => shrs S (parts.toList.map fun p => ev fr p.2) fun ds S => vBuildSlice (tk P t) (zD P (elT P t)) len ((parts.toList.map (·.1)).zip ds) fun d => arrK d S K
  | op => vcOp P w0 op fr S K
def vcLA (P : Program) (w0 : W0) (ops : Array Oper) (K : List DV → St → Prop) : List Oper → List DV → St → Prop
  | [], fr, S => K fr S
  | o :: rest, fr, S => guardK ops fr o.guard (fun fr => opA P w0 o.op fr S fun d S' => vcLA P w0 ops K rest (pt fr o.dst d) S') (fun fr => vcLA P w0 ops K rest (pt fr o.dst ud) S)
theorem opA_sound {o : Oper} {fr : List DV} {S : St} {K : DV → St → Prop} (hs : okSl o.op = true) (h : opA P w0 o.op fr S K) : YieldsE P w0 o (ev fr) S K := by
  cases hop : o.op with
  | buildSlice t len parts => rw [hop] at h; exact y_buildArr (parts := parts.toList) (by simpa using hop) h
  | _ => rw [hop] at h; exact vcOp_sound hs (by rw [hop]; exact h)
theorem vcLA_sound {ops : Array Oper} {K : List DV → St → Prop} : ∀ (l : List Oper) {fr : List DV} {S : St}, l.all (fun o => okSl o.op) = true → vcLA P w0 ops K l fr S → LWp P w0 ops K l fr S
  | [], fr, S, _, h => h
  | o :: rest, fr, S, hs, h => by
    simp only [List.all_cons, Bool.and_eq_true] at hs
    refine guardK_mono (fun fr h => ?_) (fun fr h => vcLA_sound rest hs.2 h) h
    exact yields_mono (fun d S h => vcLA_sound rest hs.2 h) (opA_sound hs.1 h)
/-- A region in which what is built may grow. -/
theorem arrR {id : Nat} {l : List Oper} {fr : List DV} {S : St} {Q : Exit → List DV → St → Prop} (hs : l.all (fun o => okSl o.op) = true) (h : vcLA P w0 l.toArray (fun fr S => normF fr fun fr => Q .normal fr S) l fr S) : AWp P w0 (.region id l.toArray false) fr S Q :=
  awp_region (vcLA_sound l hs h)
section
variable {ops : Array Oper} {fr : List DV} {S : St} {rest : List Oper} {dst : Option Tmp} {op : Op} {ty : TypeId} {pos : String} {aft : Array Edge} {K : List DV → St → Prop} {K2 : DV → St → Prop}
theorem a_nil : vcLA P w0 ops K [] fr S = K fr S := rfl
theorem a_none : vcLA P w0 ops K (⟨dst, op, ty, pos, aft, none⟩ :: rest) fr S = opA P w0 op fr S fun d S' => vcLA P w0 ops K rest (pt fr dst d) S' := rfl
theorem a_load (t : TypeId) (x : Operand) : opA P w0 (.load t x) fr S K2 = vcOp P w0 (.load t x) fr S K2 := rfl
theorem a_move (x : Operand) : opA P w0 (.move x) fr S K2 = vcOp P w0 (.move x) fr S K2 := rfl
theorem a_assign (x : Operand) : opA P w0 (.assign x) fr S K2 = vcOp P w0 (.assign x) fr S K2 := rfl
theorem a_buildSlice (t : TypeId) (len : Nat) (parts : List (Nat × Operand)) : opA P w0 (.buildSlice t len parts.toArray) fr S K2 = (shrs S (parts.map fun p => ev fr p.2) fun ds S => vBuildSlice (tk P t) (zD P (elT P t)) len ((parts.map (·.1)).zip ds) fun d => arrK d S K2) := rfl
theorem a_arrK (s : Nat) (xs : List DV) : arrK (.sl s true xs) S K2 = ∀ l : FN S.acc, K2 (.acc l.n xs.length) ⟨S.box, (l.n, .arr s xs) :: S.acc⟩ := n_fresh S.acc fun l => K2 (.acc l xs.length) ⟨S.box, (l, .arr s xs) :: S.acc⟩
@[congr] theorem c_opA {fr' : List DV} {S' : St} (h1 : fr = fr') (h2 : S = S') : opA P w0 op fr S K2 = opA P w0 op fr' S' K2 := by cases h1; cases h2; rfl
@[congr] theorem c_vcLA {l : List Oper} {fr' : List DV} {S' : St} (h1 : fr = fr') (h2 : S = S') : vcLA P w0 ops K l fr S = vcLA P w0 ops K l fr' S' := by cases h1; cases h2; rfl
@[congr] theorem c_arrK {d d' : DV} {S' : St} (h1 : d = d') (h2 : S = S') : arrK d S K2 = arrK d' S' K2 := by cases h1; cases h2; rfl
end
end
attribute [go_sem ↓] a_nil a_none a_load a_move a_assign a_buildSlice a_arrK
end Aml

namespace Go.Proofs.Ytkibkahknibgfaa
open Aml Go
set_option linter.unusedVariables false
set_option linter.unusedSimpArgs false
set_option maxRecDepth 100000

/-- A branch's kids. -/
def kidsOf (n : N) : List N := if n.leaf then [] else n.l.flatMap fun c => c.kid.take 1
@[go_sem] def dV2 (c : C) : DV := .agg [dS c.data, .sl 1 false (c.pages.map dI)]
mutual
/-- A tree, as the program has it. -/
def dT : N → DV
  | .mk p b l => .agg [dI p, dB b, .sl 1 false (l.map fun c => dS c.key), .sl 2 false ((if b then l else []).map dV2), .sl 5 false (if b then [] else dTCs l)]
def dTC : C → List DV
  | .mk _ _ _ kid => dTNs kid
def dTCs : List C → List DV
  | [] => []
  | c :: l => dTC c ++ dTCs l
def dTNs : List N → List DV
  | [] => []
  | n :: _ => [dT n]
end
theorem dTNs_eq : ∀ l, dTNs l = (l.take 1).map dT
  | [] => by simp [dTNs]
  | n :: l => by simp [dTNs]
theorem dTCs_eq : ∀ l, dTCs l = (l.flatMap fun c => c.kid.take 1).map dT
  | [] => by simp [dTCs]
  | c :: l => by
    cases c
    simp only [dTCs, dTC, dTNs_eq, dTCs_eq l, List.flatMap_cons, List.map_append, C.kid_mk]
@[go_sem] def eT (n : N) : DV := .agg [dI n.page, dB n.leaf, .sl 1 false (n.l.map fun c => dS c.key), .sl 2 false ((if n.leaf then n.l else []).map dV2), .sl 5 false ((kidsOf n).map dT)]
@[go_sem] theorem dT_eq (n : N) : dT n = eT n := by
  cases n with | mk p b l =>
  simp only [dT, eT, N.page_mk, N.leaf_mk, N.l_mk, kidsOf]
  cases b <;> simp [dTCs_eq]
def cT (n : N) : List DV := [dI n.page, dB n.leaf, .sl 1 false (n.l.map fun c => dS c.key), .sl 2 false ((if n.leaf then n.l else []).map dV2), .sl 5 false ((kidsOf n).map dT)]
mutual
/-- The nodes in the order in which they come; none below one of which something is so. -/
def visN (ends : N → Bool) : N → List N
  | .mk p b l => .mk p b l :: (if ends (.mk p b l) then [] else if b then [] else visCs ends l)
def visC (ends : N → Bool) : C → List N
  | .mk _ _ _ kid => visNs ends kid
def visCs (ends : N → Bool) : List C → List N
  | [] => []
  | c :: l => visCs ends l ++ visC ends c
def visNs (ends : N → Bool) : List N → List N
  | [] => []
  | n :: _ => visN ends n
end
theorem visNs_eq (ends : N → Bool) : ∀ l, visNs ends l = (l.take 1).flatMap (visN ends)
  | [] => by simp [visNs]
  | n :: l => by simp [visNs]
theorem visCs_eq (ends : N → Bool) : ∀ l, visCs ends l = (l.flatMap fun c => c.kid.take 1).reverse.flatMap (visN ends)
  | [] => by simp [visCs]
  | c :: l => by
    cases c with | mk k d ps kid =>
    have hr : (kid.take 1).reverse = kid.take 1 := by cases kid <;> rfl
    simp only [visCs, visC, visNs_eq, visCs_eq ends l, List.flatMap_cons, List.reverse_append, List.flatMap_append, C.kid_mk, hr]
theorem visN_eq (ends : N → Bool) (n : N) : visN ends n = n :: (if ends n then [] else (kidsOf n).reverse.flatMap (visN ends)) := by
  cases n with | mk p b l =>
  simp only [visN, kidsOf, N.leaf_mk, N.l_mk, visCs_eq]
  cases b <;> simp
/-- What is still to come, the last first. -/
def visS (ends : N → Bool) (s : List N) : List N := s.reverse.flatMap (visN ends)
theorem visS_snoc (ends : N → Bool) (s : List N) (x : N) : visS ends (s ++ [x]) = x :: visS ends (s ++ if ends x then [] else kidsOf x) := by
  unfold visS
  rw [List.reverse_append, List.reverse_cons, List.reverse_nil, List.nil_append, List.flatMap_append, List.flatMap_cons, List.flatMap_nil, List.append_nil, visN_eq, List.cons_append]
  congr 1
  cases ends x <;> simp [List.reverse_append, List.flatMap_append]
set_option maxHeartbeats 4000000 in
theorem nodesW (w0 : W0) (n : N) (fe : FuncId) (S : St) : ACall Try.prog w0 62 [eT n, .v (.func (.func fe) #[] #[])] S (fun d S' => ∃ (b : FN S.box) (c : FN ((b.n, cT n) :: S.box)), d = .v (.func (.func 87) #[] #[.pointer (some ⟨b.n, 0, none⟩), .pointer (some ⟨c.n, 0, none⟩)]) ∧ S' = ⟨(c.n, [.v (.func (.func fe) #[] #[])]) :: (b.n, cT n) :: S.box, S.acc⟩) := by
  refine fnO [] mx Try.func62 rfl rfl (by kernel_rfl) ?_; simp (maxDischargeDepth := 12) (maxSteps := 1000000) -implicitDefEqProofs only [Try.ntmps62, go_sem, Nat.reduceAdd, Nat.reduceSub, Nat.reduceMul, Nat.reduceLeDiff, Nat.reduceEqDiff, Nat.reduceGT, Nat.reduceBEq, reduceCtorEq, ↓reduceIte, Int.reduceToNat, Int.reduceLE, Int.reduceLT, Int.reduceNe, Int.reduceEq]
  exact fun b c => ⟨b, c, rfl, rfl⟩
theorem ex_snoc {α : Type} (f : α → DV) (l : List α) {d : DV} (ho : okE d = true) (F : DV → Prop) : exK (l.map f ++ [d]) l.length F = F d := by
  unfold exK
  have h : (l.map f ++ [d])[l.length]? = some d := by rw [List.getElem?_append_right (by simp)]; simp
  simp [h]
  exact fun _ => ho
theorem take_map_snoc {α : Type} (f : α → DV) (l : List α) (d : DV) : (l.map f ++ [d]).take l.length = l.map f := by
  rw [List.take_append_of_le_length (by rw [List.length_map]; exact Nat.le_refl _)]
  exact List.take_of_length_le (by rw [List.length_map]; exact Nat.le_refl _)
theorem lk_ren_new {L : List (Nat × Ob)} {w m : Nat} {o o' : Ob} (h : lk L w = some o') (hm : nin L m) : lk (ren L w (m, o)) m = some o := by
  induction L with
  | nil => cases h
  | cons p t ih =>
    obtain ⟨k, x⟩ := p
    simp only [lk] at h
    simp only [ren]
    split
    · simp [lk]
    · rename_i hne
      rw [if_neg hne] at h
      have hk : ¬ k = m := fun e => by have := nin_lk hm; rw [← e] at this; simp [lk] at this
      have hm' : nin t m := hm.2.2
      simp only [lk, if_neg hk]
      exact ih h hm'
theorem lk_ren_old {L : List (Nat × Ob)} {w m c : Nat} {o : Ob} (h1 : c ≠ w) (h2 : c ≠ m) : lk (ren L w (m, o)) c = lk L c := by
  induction L with
  | nil => rfl
  | cons p t ih =>
    obtain ⟨k, x⟩ := p
    simp only [ren]
    split
    · rename_i e; subst e; simp only [lk]; rw [if_neg (fun e => h2 e.symm), if_neg (fun e => h1 e.symm)]
    · simp only [lk, ih]
theorem lk_dom {α : Type} : ∀ {L L' : List (Nat × α)} {n : Nat}, L.map (·.1) = L'.map (·.1) → lk L n = none → lk L' n = none
  | [], [], _, _, _ => rfl
  | [], _ :: _, _, h, _ => by simp at h
  | _ :: _, [], _, h, _ => by simp at h
  | (k, x) :: t, (k', x') :: t', n, h, hn => by
    simp only [List.map_cons, List.cons.injEq] at h
    obtain ⟨e, h⟩ := h
    subst e
    simp only [lk] at hn ⊢
    split at hn
    · cases hn
    · rename_i hne; rw [if_neg hne]; exact lk_dom h hn
@[go_sem] theorem ty_k119 : tk Try.prog 119 = .fn := by kernel_rfl
@[go_sem] theorem ty_z119 : zD Try.prog 119 = .v .nilFunc := by kernel_rfl
@[go_sem] theorem ty_c119 : Try.prog.cellsOf 119 = 1 := by kernel_rfl
@[go_sem] theorem ty_i119 : (Try.prog.info? 119).isSome = true := by kernel_rfl
theorem visS_len (ends : N → Bool) (s : List N) : s.length ≤ (visS ends s).length := by
  unfold visS
  rw [← List.length_reverse]
  induction s.reverse with
  | nil => exact Nat.le_refl 0
  | cons x t ih => rw [List.flatMap_cons, visN_eq]; simp only [List.length_append, List.length_cons]; omega
theorem lk_up (L : List (Nat × List DV)) (b c : Nat) (v : List DV) : lk (up L b v) c = if b = c then (lk L c).map (fun _ => v) else lk L c := by
  split
  · rename_i e; subst e; exact lk_up_same _ _ _
  · rename_i e; exact lk_up_ne e _ _
theorem Has_upd {X T : St} {b : Nat} (h : Has X T) (v : List DV) : Has ⟨up X.box b v, X.acc⟩ ⟨up T.box b v, T.acc⟩ := ⟨fun c x hc => by
  simp only [lk_up] at hc ⊢
  split at hc
  · rename_i e
    obtain ⟨y, hy, rfl⟩ := Option.map_eq_some_iff.1 hc
    rw [h.box _ _ hy, if_pos e]; rfl
  · rename_i e
    rw [if_neg e]; exact h.box _ _ hc, h.acc⟩
theorem up_same {α : Type} {L : List (Nat × α)} {b : Nat} {v : α} (h : lk L b = some v) : up L b v = L := by
  induction L with
  | nil => rfl
  | cons p t ih =>
    obtain ⟨k, x⟩ := p
    simp only [lk] at h
    simp only [up]
    split
    · rename_i e; rw [if_pos e] at h; cases h; rfl
    · rename_i e; rw [if_neg e] at h; rw [ih h]
theorem lk_upA (L : List (Nat × Ob)) (b c : Nat) (v : Ob) : lk (up L b v) c = if b = c then (lk L c).map (fun _ => v) else lk L c := by
  split
  · rename_i e; subst e; exact lk_up_same _ _ _
  · rename_i e; exact lk_up_ne e _ _
theorem Has_upd2 {X T : St} {b l : Nat} (h : Has X T) (v : List DV) (o : Ob) : Has ⟨up X.box b v, up X.acc l o⟩ ⟨up T.box b v, up T.acc l o⟩ := ⟨(Has_upd h v).box, fun c x hc => by
  simp only [lk_upA] at hc ⊢
  split at hc
  · rename_i e
    obtain ⟨y, hy, rfl⟩ := Option.map_eq_some_iff.1 hc
    rw [h.acc _ _ hy, if_pos e]; rfl
  · rename_i e
    rw [if_neg e]; exact h.acc _ _ hc⟩
theorem Kp_up2 {X T : St} {b l : Nat} {v : List DV} {o : Ob} (hb : ¬ lk X.box b = none) (hl : ¬ lk X.acc l = none) : Kp X T ⟨up T.box b v, up T.acc l o⟩ := ⟨fun c x hc hx => by
  show lk (up T.box b v) c = some x
  rw [lk_up_ne (fun e => hb (by rw [e]; exact hc))]; exact hx, fun c x hc hx => by
  show lk (up T.acc l o) c = some x
  rw [lk_up_ne (fun e => hl (by rw [e]; exact hc))]; exact hx⟩
structure Wk1 where
  T : St
  w : Nat
  pre : List N
  s : List N
def bigN (B : Nat) (n : N) : Prop := (kidsOf n).length ≤ B
set_option maxHeartbeats 8000000 in
/-- The iterator: at the yield of whatever loop, with whatever store of the caller's. -/
theorem iterW (w0 : W0) (l b2 b3 : Nat) (n : N) (ends : N → Bool) (fe : FuncId) (X : List N → St) (B : Nat) (hB : (visN ends n).length ≤ B) (hB2 : B ≤ 1048576)
    (h2 : ∀ pre, lk (X pre).box b2 = some (cT n)) (h3 : ∀ pre, lk (X pre).box b3 = some [.v (.func (.func fe) #[] #[])]) (hfe : okF Try.prog fe = true)
    (hend : ∀ x T, ACall Try.prog w0 fe [eT x] T (fun d T' => d = dB (ends x) ∧ T' = T))
    (hdb : ∀ pre, (X pre).box.map (·.1) = (X []).box.map (·.1)) (hda : ∀ pre, (X pre).acc.map (·.1) = (X []).acc.map (·.1))
    (hy : YK Try.prog w0 l X (fun x => [eT x]) (visN ends n)) : ∀ T, Has (X []) T → ACall Try.prog w0 87 [.v (.func (.yield l) #[] #[]), .v (.pointer (some ⟨b2, 0, none⟩)), .v (.pointer (some ⟨b3, 0, none⟩))] T (fun _ T' => Has (X (visN ends n)) T') := by
  intro T hT
  have t2 : lk T.box b2 = some (cT n) := hT.box _ _ (h2 [])
  have t3 : lk T.box b3 = some [.v (.func (.func fe) #[] #[])] := hT.box _ _ (h3 [])
  refine fnO [0] mx Try.func87 rfl rfl (by kernel_rfl) ?_; simp (maxDischargeDepth := 12) (maxSteps := 1000000) -implicitDefEqProofs only [Try.ntmps87, go_sem, Nat.reduceAdd, Nat.reduceSub, Nat.reduceMul, Nat.reduceLeDiff, Nat.reduceEqDiff, Nat.reduceGT, Nat.reduceBEq, reduceCtorEq, ↓reduceIte, Int.reduceToNat, Int.reduceLE, Int.reduceLT, Int.reduceNe, Int.reduceEq,  t2, t3]
  refine arrR (by kernel_rfl) ?_
  simp (maxDischargeDepth := 12) (maxSteps := 1000000) -implicitDefEqProofs only [go_sem, Nat.reduceAdd, Nat.reduceSub, Nat.reduceMul, Nat.reduceLeDiff, Nat.reduceEqDiff, Nat.reduceGT, Nat.reduceBEq, reduceCtorEq, ↓reduceIte, Int.reduceToNat, Int.reduceLE, Int.reduceLT, Int.reduceNe, Int.reduceEq, t2, t3, cT]
  intro lb
  refine loopK [] [0, 2, 4] (fun s : Wk1 => [(4, .acc s.w s.s.length)]) (fun s => s.T) (fun s => Has (X s.pre) s.T ∧ lk s.T.acc s.w = some (.arr 5 (s.s.map dT)) ∧ lk (X s.pre).acc s.w = none ∧ s.pre ++ visS ends s.s = visN ends n) (fun s => (visN ends n).length - s.pre.length) ⟨⟨T.box, (lb.n, .arr 5 [dT n]) :: T.acc⟩, lb.n, [], [n]⟩ mx (by kernel_rfl) ?_ ?_
  · have hnone : lk T.acc lb.n = none := nin_lk lb.h
    refine ⟨⟨⟨hT.box, fun l' o ho => ?_⟩, by simp [lk], ?_, ?_⟩, ?_, ?_⟩
    · have := hT.acc _ _ ho
      show lk ((lb.n, _) :: T.acc) l' = _
      simp only [lk]
      rw [if_neg (fun e => by rw [e, this] at hnone; cases hnone)]; exact this
    · show lk (X []).acc lb.n = none
      cases hx : lk (X []).acc lb.n with
      | none => rfl
      | some o => rw [hT.acc _ _ hx] at hnone; cases hnone
    · show [] ++ visS ends [n] = visN ends n
      simp [visS]
    · simp (maxDischargeDepth := 12) (maxSteps := 1000000) -implicitDefEqProofs only [go_sem, Nat.reduceAdd, Nat.reduceSub, Nat.reduceMul, Nat.reduceLeDiff, Nat.reduceEqDiff, Nat.reduceGT, Nat.reduceBEq, reduceCtorEq, ↓reduceIte, Int.reduceToNat, Int.reduceLE, Int.reduceLT, Int.reduceNe, Int.reduceEq]
    · simp (maxDischargeDepth := 12) (maxSteps := 1000000) -implicitDefEqProofs only [go_sem, Nat.reduceAdd, Nat.reduceSub, Nat.reduceMul, Nat.reduceLeDiff, Nat.reduceEqDiff, Nat.reduceGT, Nat.reduceBEq, reduceCtorEq, ↓reduceIte, Int.reduceToNat, Int.reduceLE, Int.reduceLT, Int.reduceNe, Int.reduceEq]
  · rintro ⟨T, w, pre, st⟩ ⟨hT', hw, hwX, hV⟩
    simp only at hT' hw hwX hV
    have t2 : lk T.box b2 = some (cT n) := hT'.box _ _ (h2 pre)
    have t3 : lk T.box b3 = some [.v (.func (.func fe) #[] #[])] := hT'.box _ _ (h3 pre)
    rcases List.eq_nil_or_concat st with rfl | ⟨st, x, rfl⟩
    · have hV' : pre = visN ends n := by simpa [visS] using hV
      simp (maxDischargeDepth := 12) (maxSteps := 1000000) -implicitDefEqProofs only [go_sem, Nat.reduceAdd, Nat.reduceSub, Nat.reduceMul, Nat.reduceLeDiff, Nat.reduceEqDiff, Nat.reduceGT, Nat.reduceBEq, reduceCtorEq, ↓reduceIte, Int.reduceToNat, Int.reduceLE, Int.reduceLT, Int.reduceNe, Int.reduceEq, t3, hw]
      rw [← hV']
      exact ⟨fun h => absurd h (by omega), fun _ => hT'⟩
    · rw [List.concat_eq_append] at hw hV ⊢
      rw [visS_snoc] at hV
      have hlen : (st ++ [x]).length = st.length + 1 := by simp
      have hw2 : lk T.acc w = some (.arr 5 (st.map dT ++ [eT x])) := by rw [hw, List.map_append, List.map_cons, List.map_nil, dT_eq]
      have hsl := visS_len ends (st ++ if ends x then [] else kidsOf x)
      have hVl : pre.length + (1 + (visS ends (st ++ if ends x then [] else kidsOf x)).length) ≤ B := by rw [← hV] at hB; simp only [List.length_append, List.length_cons] at hB; omega
      rw [List.length_append] at hsl
      have ewrap : IntKind.i64.wrap (((st.length + 1 : Nat) : Int) - 1) = (st.length : Int) := by rw [w64] <;> omega
      simp (maxDischargeDepth := 12) (maxSteps := 1000000) -implicitDefEqProofs only [go_sem, Nat.reduceAdd, Nat.reduceSub, Nat.reduceMul, Nat.reduceLeDiff, Nat.reduceEqDiff, Nat.reduceGT, Nat.reduceBEq, reduceCtorEq, ↓reduceIte, Int.reduceToNat, Int.reduceLE, Int.reduceLT, Int.reduceNe, Int.reduceEq, t3, hw2, hlen, ewrap, ex_snoc, take_map_snoc]
      refine ⟨fun _ b5 => .inl ⟨.inr (by omega), ⟨_, _, _, rfl⟩, fun m => ?_⟩, fun h => absurd (by omega) h⟩
      have hbn : lk T.box b5.n = none := nin_lk b5.h
      have hmn : lk T.acc m.n = none := nin_lk m.h
      have hXb : lk (X pre).box b5.n = none := by
        cases hx : lk (X pre).box b5.n with
        | none => rfl
        | some o => rw [hT'.box _ _ hx] at hbn; cases hbn
      have hXm : lk (X pre).acc m.n = none := by
        cases hx : lk (X pre).acc m.n with
        | none => rfl
        | some o => rw [hT'.acc _ _ hx] at hmn; cases hmn
      have hmw : m.n ≠ w := by rintro e; rw [e, hw] at hmn; cases hmn
      have hT1 : Has (X pre) ⟨(b5.n, cT x) :: T.box, ren T.acc w (m.n, .arr 5 (st.map dT))⟩ := ⟨fun c y hc => by
        simp only [lk]
        rw [if_neg (fun e => by rw [← e, hXb] at hc; cases hc)]; exact hT'.box c y hc, fun c o hc => by
        rw [lk_ren_old (fun e => by rw [e, hwX] at hc; cases hc) (fun e => by rw [e, hXm] at hc; cases hc)]; exact hT'.acc c o hc⟩
      have hpre : (pre ++ [x]) <+: visN ends n := ⟨_, by rw [List.append_assoc]; exact hV⟩
      refine useY (hy pre x _ hpre hT1) ?_
      rintro d T2 ⟨rfl, hT2, hK⟩
      have u5 : lk T2.box b5.n = some (cT x) := hK.box _ _ hXb (by simp only [lk, if_true]; rfl)
      have um : lk T2.acc m.n = some (.arr 5 (st.map dT)) := hK.acc _ _ hXm (lk_ren_new hw m.h)
      have u3 : lk T2.box b3 = some [.v (.func (.func fe) #[] #[])] := hT2.box _ _ (h3 _)
      have hX2m : lk (X (pre ++ [x])).acc m.n = none := lk_dom ((hda _).trans (hda _).symm) hXm
      have hmeas : (visN ends n).length - (pre ++ [x]).length < (visN ends n).length - pre.length := by
        have := hpre.length_le
        rw [List.length_append] at this ⊢
        simp only [List.length_cons, List.length_nil] at *
        omega
      simp (maxDischargeDepth := 12) (maxSteps := 1000000) -implicitDefEqProofs only [go_sem, Nat.reduceAdd, Nat.reduceSub, Nat.reduceMul, Nat.reduceLeDiff, Nat.reduceEqDiff, Nat.reduceGT, Nat.reduceBEq, reduceCtorEq, ↓reduceIte, Int.reduceToNat, Int.reduceLE, Int.reduceLT, Int.reduceNe, Int.reduceEq, u5, um, u3, cT]
      refine ⟨hfe, use1 (hend x _) ?_⟩
      simp (maxDischargeDepth := 12) (maxSteps := 1000000) -implicitDefEqProofs only [go_sem, Nat.reduceAdd, Nat.reduceSub, Nat.reduceMul, Nat.reduceLeDiff, Nat.reduceEqDiff, Nat.reduceGT, Nat.reduceBEq, reduceCtorEq, ↓reduceIte, Int.reduceToNat, Int.reduceLE, Int.reduceLT, Int.reduceNe, Int.reduceEq, u5, um, u3, cT]
      have hlV : (st.length + (kidsOf x).length) * 88 ≤ 140737488355328 ∧ st.length + (kidsOf x).length ≤ maxLen ∨ ends x = true := by
        cases he : ends x
        · rw [he] at hsl hVl
          simp only [Bool.false_eq_true, if_false] at hsl hVl
          refine .inl ⟨by omega, ?_⟩
          have : maxLen = 9223372036854775807 := rfl
          omega
        · exact .inr rfl
      refine ⟨fun he => ?_, fun he => ?_⟩
      · rw [he, if_pos rfl, List.append_nil] at hV
        refine ⟨⟨T2, m.n, pre ++ [x], st⟩, ⟨hT2, um, hX2m, by rw [List.append_assoc]; exact hV⟩, hmeas, .refl _, .refl _⟩
      · rw [he, if_neg (by simp)] at hV
        obtain ⟨q1, q2⟩ := hlV.resolve_right (by rw [he]; simp)
        refine ⟨q1, q2, ⟨⟨T2.box, up T2.acc m.n (.arr 5 ((st ++ kidsOf x).map dT))⟩, m.n, pre ++ [x], st ++ kidsOf x⟩, ⟨⟨hT2.box, fun l o hl => ?_⟩, ?_, hX2m, by rw [List.append_assoc]; exact hV⟩, hmeas, Wk.eq (by rw [List.length_append]), .refl _⟩
        · show lk (up T2.acc m.n _) l = some o
          rw [lk_up_ne (fun e => by rw [← e, hX2m] at hl; cases hl)]
          exact hT2.acc l o hl
        · show lk (up T2.acc m.n _) m.n = _
          rw [lk_up_same, um]; rfl
end Go.Proofs.Ytkibkahknibgfaa

namespace Go.Proofs.Ytkibkahknibgfaa
open Aml Go
set_option linter.unusedVariables false
set_option linter.unusedSimpArgs false
set_option maxRecDepth 100000

set_option maxHeartbeats 400000 in
theorem needP (w0 : W0) (z : Int) (S : St) : ACall Try.prog w0 63 [dI z] S (fun d S' => d = dI (need z) ∧ S' = S) := by
  refine fnS [] mx Try.func63 rfl rfl (by kernel_rfl) ?_; simp (maxDischargeDepth := 12) (maxSteps := 1000000) -implicitDefEqProofs only [Try.ntmps63, go_sem, Nat.reduceAdd, Nat.reduceSub, Nat.reduceMul, Nat.reduceLeDiff, Nat.reduceEqDiff, Nat.reduceGT, Nat.reduceBEq, reduceCtorEq, ↓reduceIte, Int.reduceToNat, Int.reduceLE, Int.reduceLT, Int.reduceNe, Int.reduceEq]
  unfold need
  refine ⟨fun h => by rw [if_neg (by omega)]; rfl, fun h1 => ⟨fun h => by rw [if_neg (by omega)]; rfl, fun h2 => ?_⟩⟩
  rw [if_pos (by omega), w64 (n := z + 119) (by omega) (by omega), w64 (n := z + 119 - 1) (by omega) (by omega), Int.tdiv_eq_ediv_of_nonneg (by omega), w64 (by omega) (by omega)]
  omega
set_option maxHeartbeats 400000 in
theorem laidW (w0 : W0) (x : N) (S : St) : ACall Try.prog w0 61 [eT x] S (fun d S' => d = dB (decide (x.page ≠ 0)) ∧ S' = S) := by
  refine fnS [] mx Try.func61 rfl rfl (by kernel_rfl) ?_; simp (maxDischargeDepth := 12) (maxSteps := 1000000) -implicitDefEqProofs only [Try.ntmps61, go_sem, Nat.reduceAdd, Nat.reduceSub, Nat.reduceMul, Nat.reduceLeDiff, Nat.reduceEqDiff, Nat.reduceGT, Nat.reduceBEq, reduceCtorEq, ↓reduceIte, Int.reduceToNat, Int.reduceLE, Int.reduceLT, Int.reduceNe, Int.reduceEq]
set_option maxHeartbeats 400000 in
theorem neverW (w0 : W0) (x : N) (S : St) : ACall Try.prog w0 65 [eT x] S (fun d S' => d = dB false ∧ S' = S) := by
  refine fnS [] mx Try.func65 rfl rfl (by kernel_rfl) ?_; simp (maxDischargeDepth := 12) (maxSteps := 1000000) -implicitDefEqProofs only [Try.ntmps65, go_sem, Nat.reduceAdd, Nat.reduceSub, Nat.reduceMul, Nat.reduceLeDiff, Nat.reduceEqDiff, Nat.reduceGT, Nat.reduceBEq, reduceCtorEq, ↓reduceIte, Int.reduceToNat, Int.reduceLE, Int.reduceLT, Int.reduceNe, Int.reduceEq]
/-- What a cell of a leaf takes. -/
def fc1 (c : C) : Nat := if c.pages = [] then need (c.data.size : Int) else 0
def fcS (l : List C) : Nat := (l.map fc1).sum
/-- What a node takes, without those below. -/
def fr1 (x : N) : Nat := if x.page ≠ 0 then 0 else if x.leaf = true ∧ x.l = [] then 0 else 1 + fcS (if x.leaf then x.l else [])
theorem fcS_succ {l : List C} {k : Nat} {c : C} (h : l[k]? = some c) : fcS (l.take (k + 1)) = fcS (l.take k) + fc1 c := by
  unfold fcS
  rw [List.take_add_one, h]; simp
theorem fcS_take (l : List C) (k : Nat) : fcS (l.take k) ≤ fcS l := by
  have := congrArg fcS (List.take_append_drop k l)
  simp only [fcS, List.map_append, List.sum_append] at this ⊢
  omega
def frS (l : List N) : Nat := (l.map fr1).sum
theorem frS_snoc (l : List N) (x : N) : frS (l ++ [x]) = frS l + fr1 x := by simp [frS]
theorem frS_pre {l m : List N} (h : l <+: m) : frS l ≤ frS m := by
  obtain ⟨t, rfl⟩ := h
  simp [frS]
def laidB (x : N) : Bool := decide (x.page ≠ 0)
set_option maxHeartbeats 8000000 in
set_option maxHeartbeats 8000000 in
theorem freshP (w0 : W0) (n : N) (S : St) (hV : (visN laidB n).length ≤ 1048576) (hF : frS (visN laidB n) ≤ 1099511627776) (hl : ∀ x, x ∈ visN laidB n → x.l.length ≤ 1048576) :
    ACall Try.prog w0 30 [eT n] S (fun d S' => d = dI (frS (visN laidB n)) ∧ S' = S) := by
  refine fnS [] mx Try.func30 rfl rfl (by kernel_rfl) ?_; simp (maxDischargeDepth := 12) (maxSteps := 1000000) -implicitDefEqProofs only [Try.ntmps30, go_sem, Nat.reduceAdd, Nat.reduceSub, Nat.reduceMul, Nat.reduceLeDiff, Nat.reduceEqDiff, Nat.reduceGT, Nat.reduceBEq, reduceCtorEq, ↓reduceIte, Int.reduceToNat, Int.reduceLE, Int.reduceLT, Int.reduceNe, Int.reduceEq]
  intro b b1 b2
  refine useK (nodesW w0 n 61 _) ?_
  rintro d S' ⟨b3, b4, rfl, rfl⟩
  simp (maxDischargeDepth := 12) (maxSteps := 1000000) -implicitDefEqProofs only [go_sem, Nat.reduceAdd, Nat.reduceSub, Nat.reduceMul, Nat.reduceLeDiff, Nat.reduceEqDiff, Nat.reduceGT, Nat.reduceBEq, reduceCtorEq, ↓reduceIte, Int.reduceToNat, Int.reduceLE, Int.reduceLT, Int.reduceNe, Int.reduceEq]
  refine rangeK [11] (fun pre => ⟨(b4.n, [.v (.func (.func 61) #[] #[])]) :: (b3.n, cT n) :: (b2.n, [dI (frS pre)]) :: (b1.n, [.v (.func (.func 61) #[] #[])]) :: (b.n, cT n) :: S.box, S.acc⟩) (fun x => [eT x]) (visN laidB n) mx (by kernel_rfl) rfl rfl rfl (fun _ => rfl) (fun _ => rfl) (fun _ => rfl) ?_ ?_ ?_
  · intro l w1 hy T hT
    exact iterW w1 l b3.n b4.n n laidB 61 _ _ hV (Nat.le_refl _) (fun _ => by simp (maxDischargeDepth := 12) (maxSteps := 1000000) -implicitDefEqProofs only [go_sem, Nat.reduceAdd, Nat.reduceSub, Nat.reduceMul, Nat.reduceLeDiff, Nat.reduceEqDiff, Nat.reduceGT, Nat.reduceBEq, reduceCtorEq, ↓reduceIte, Int.reduceToNat, Int.reduceLE, Int.reduceLT, Int.reduceNe, Int.reduceEq]) (fun _ => by simp (maxDischargeDepth := 12) (maxSteps := 1000000) -implicitDefEqProofs only [go_sem, Nat.reduceAdd, Nat.reduceSub, Nat.reduceMul, Nat.reduceLeDiff, Nat.reduceEqDiff, Nat.reduceGT, Nat.reduceBEq, reduceCtorEq, ↓reduceIte, Int.reduceToNat, Int.reduceLE, Int.reduceLT, Int.reduceNe, Int.reduceEq]) (by simp only [go_sem]) (fun x T => laidW w1 x T) (fun _ => rfl) (fun _ => rfl) hy T hT
  · intro pre x T hp hT
    have t2 : lk T.box b2.n = some [dI (frS pre)] := hT.box _ _ (by simp (maxDischargeDepth := 12) (maxSteps := 1000000) -implicitDefEqProofs only [go_sem, Nat.reduceAdd, Nat.reduceSub, Nat.reduceMul, Nat.reduceLeDiff, Nat.reduceEqDiff, Nat.reduceGT, Nat.reduceBEq, reduceCtorEq, ↓reduceIte, Int.reduceToNat, Int.reduceLE, Int.reduceLT, Int.reduceNe, Int.reduceEq])
    have t1 : lk T.box b1.n = some [.v (.func (.func 61) #[] #[])] := hT.box _ _ (by simp (maxDischargeDepth := 12) (maxSteps := 1000000) -implicitDefEqProofs only [go_sem, Nat.reduceAdd, Nat.reduceSub, Nat.reduceMul, Nat.reduceLeDiff, Nat.reduceEqDiff, Nat.reduceGT, Nat.reduceBEq, reduceCtorEq, ↓reduceIte, Int.reduceToNat, Int.reduceLE, Int.reduceLT, Int.reduceNe, Int.reduceEq])
    simp only [setPs]
    simp (maxDischargeDepth := 12) (maxSteps := 1000000) -implicitDefEqProofs only [go_sem, Nat.reduceAdd, Nat.reduceSub, Nat.reduceMul, Nat.reduceLeDiff, Nat.reduceEqDiff, Nat.reduceGT, Nat.reduceBEq, reduceCtorEq, ↓reduceIte, Int.reduceToNat, Int.reduceLE, Int.reduceLT, Int.reduceNe, Int.reduceEq, t1, t2]
    intro b5
    refine use1 (laidW w0 x _) ?_
    have hfr := frS_snoc pre x
    have hfp := Nat.le_trans (frS_pre hp) hF
    have hxl := hl x (by obtain ⟨t, ht⟩ := hp; rw [← ht]; simp)
    have hb5 : ¬ b5.n = b2.n := fun e => by have := nin_lk b5.h; rw [e, t2] at this; cases this
    have h1 : fr1 x = if x.page ≠ 0 then 0 else if x.leaf = true ∧ x.l = [] then 0 else 1 + fcS (if x.leaf then x.l else []) := rfl
    have hH : ∀ v, v = (frS (pre ++ [x]) : Int) → Has _ ⟨up T.box b2.n [dI v], T.acc⟩ := fun v hv => by rw [hv]; exact Has_upd hT _
    have hu : ∀ v : Int, up ((b4.n, [.v (.func (.func 61) #[] #[])]) :: (b3.n, cT n) :: (b2.n, [dI (frS pre)]) :: (b1.n, [.v (.func (.func 61) #[] #[])]) :: (b.n, cT n) :: S.box) b2.n [dI v] = (b4.n, [.v (.func (.func 61) #[] #[])]) :: (b3.n, cT n) :: (b2.n, [dI v]) :: (b1.n, [.v (.func (.func 61) #[] #[])]) :: (b.n, cT n) :: S.box := fun v => by simp (maxDischargeDepth := 12) (maxSteps := 1000000) -implicitDefEqProofs only [go_sem, Nat.reduceAdd, Nat.reduceSub, Nat.reduceMul, Nat.reduceLeDiff, Nat.reduceEqDiff, Nat.reduceGT, Nat.reduceBEq, reduceCtorEq, ↓reduceIte, Int.reduceToNat, Int.reduceLE, Int.reduceLT, Int.reduceNe, Int.reduceEq]
    have hK : ∀ v, Kp ⟨(b4.n, [.v (.func (.func 61) #[] #[])]) :: (b3.n, cT n) :: (b2.n, [dI (frS pre)]) :: (b1.n, [.v (.func (.func 61) #[] #[])]) :: (b.n, cT n) :: S.box, S.acc⟩ T ⟨up T.box b2.n v, T.acc⟩ := fun v => Kp.up (by simp (maxDischargeDepth := 12) (maxSteps := 1000000) -implicitDefEqProofs only [go_sem, Nat.reduceAdd, Nat.reduceSub, Nat.reduceMul, Nat.reduceLeDiff, Nat.reduceEqDiff, Nat.reduceGT, Nat.reduceBEq, reduceCtorEq, ↓reduceIte, Int.reduceToNat, Int.reduceLE, Int.reduceLT, Int.reduceNe, Int.reduceEq])
    simp only [hu] at hH
    simp (maxDischargeDepth := 12) (maxSteps := 1000000) -implicitDefEqProofs only [go_sem, Nat.reduceAdd, Nat.reduceSub, Nat.reduceMul, Nat.reduceLeDiff, Nat.reduceEqDiff, Nat.reduceGT, Nat.reduceBEq, reduceCtorEq, ↓reduceIte, Int.reduceToNat, Int.reduceLE, Int.reduceLT, Int.reduceNe, Int.reduceEq, t1, t2]
    refine ⟨fun hp0 => ?_, fun hp0 => ⟨fun hlf => ⟨fun hl0 => ?_, fun hl0 => ?_⟩, fun hlf => ?_⟩⟩
    · rw [if_pos hp0] at h1
      rw [h1] at hfr
      rw [hfr]
      exact ⟨hT.consB b5 _ rfl, (Kp.refl _ _).consB b5 _ rfl⟩
    · have hl1 : x.l = [] := List.eq_nil_of_length_eq_zero (by omega)
      rw [if_neg hp0, if_pos ⟨hlf, hl1⟩] at h1
      rw [h1] at hfr
      rw [hfr]
      exact ⟨hT.consB b5 _ rfl, (Kp.refl _ _).consB b5 _ rfl⟩
    all_goals
      have hlL : (if x.leaf = true then x.l else []).length ≤ 1048576 := by split <;> first | exact hxl | exact Nat.zero_le _
      generalize hL : (if x.leaf = true then x.l else []) = L at *
      have h1 : fr1 x = 1 + fcS L := by
        rw [h1, if_neg hp0, if_neg (fun e => by simp_all)]
      refine loopN [11] L.length [3, 4, 11, 28, 29, 30] (fun k => [(30, dI k)]) (fun k => ⟨up T.box b2.n [dI ((frS pre + 1 + fcS (L.take k) : Nat) : Int)], T.acc⟩) (fun _ => True) mx (by kernel_rfl) ?_ ?_
      · simp (maxDischargeDepth := 12) (maxSteps := 1000000) -implicitDefEqProofs only [go_sem, Nat.reduceAdd, Nat.reduceSub, Nat.reduceMul, Nat.reduceLeDiff, Nat.reduceEqDiff, Nat.reduceGT, Nat.reduceBEq, reduceCtorEq, ↓reduceIte, Int.reduceToNat, Int.reduceLE, Int.reduceLT, Int.reduceNe, Int.reduceEq]
        refine .consB ?_
        rw [show IntKind.i64.wrap ((frS pre : Int) + 1) = ((frS pre + 1 + fcS [] : Nat) : Int) from by rw [w64 (by omega) (by omega)]; simp [fcS]]
        exact .refl _
      · intro k hk _
        have e2 : ∀ z : List DV, lk (up T.box b2.n z) b2.n = some z := fun z => by rw [lk_up_same, t2]; rfl
        have hle := fcS_take L k
        simp (maxDischargeDepth := 12) (maxSteps := 1000000) -implicitDefEqProofs only [go_sem, Nat.reduceAdd, Nat.reduceSub, Nat.reduceMul, Nat.reduceLeDiff, Nat.reduceEqDiff, Nat.reduceGT, Nat.reduceBEq, reduceCtorEq, ↓reduceIte, Int.reduceToNat, Int.reduceLE, Int.reduceLT, Int.reduceNe, Int.reduceEq, t1, t2]
        refine ⟨fun hlt => ⟨hlt, fun c hc b6 => ⟨fun hp0 => ?_, fun hp0 => ⟨hlt, by rw [w64 (by omega) (by omega)]; omega, .consB ?_⟩⟩⟩, fun hge => ?_⟩
        · have hne : ¬ b6.n = b2.n := fun e => by have := nin_lk b6.h; rw [e, e2] at this; cases this
          have hpl : c.pages = [] := List.eq_nil_of_length_eq_zero (by omega)
          refine lexK mx (by kernel_rfl) ?_
          simp (maxDischargeDepth := 12) (maxSteps := 1000000) -implicitDefEqProofs only [go_sem, Nat.reduceAdd, Nat.reduceSub, Nat.reduceMul, Nat.reduceLeDiff, Nat.reduceEqDiff, Nat.reduceGT, Nat.reduceBEq, reduceCtorEq, ↓reduceIte, Int.reduceToNat, Int.reduceLE, Int.reduceLT, Int.reduceNe, Int.reduceEq, e2, hne]
          refine useX (fun B hB => needP w0 _ _) ?_
          have hc1 : fc1 c = need (c.data.size : Int) := if_pos hpl
          have hs := fcS_succ hc
          have hle' := fcS_take L (k + 1)
          simp (maxDischargeDepth := 12) (maxSteps := 1000000) -implicitDefEqProofs only [go_sem, Nat.reduceAdd, Nat.reduceSub, Nat.reduceMul, Nat.reduceLeDiff, Nat.reduceEqDiff, Nat.reduceGT, Nat.reduceBEq, reduceCtorEq, ↓reduceIte, Int.reduceToNat, Int.reduceLE, Int.reduceLT, Int.reduceNe, Int.reduceEq, e2, hne, up_up]
          refine ⟨hlt, by rw [w64 (by omega) (by omega)]; omega, .consB ?_⟩
          rw [show IntKind.i64.wrap (((frS pre + 1 + fcS (L.take k) : Nat) : Int) + (need (c.data.size : Int) : Int)) = ((frS pre + 1 + fcS (L.take (k + 1)) : Nat) : Int) from by rw [w64 (by omega) (by omega)]; omega]
          exact .refl _
        · rw [fcS_succ hc, show fc1 c = 0 from if_neg fun e => by rw [e] at hp0; exact hp0 rfl]
          exact .refl _
        · have hkL : k = L.length := by omega
          rw [hkL, List.take_length]
          exact ⟨hH _ (by omega), hK _⟩
  · simp (maxDischargeDepth := 12) (maxSteps := 1000000) -implicitDefEqProofs only [go_sem, Nat.reduceAdd, Nat.reduceSub, Nat.reduceMul, Nat.reduceLeDiff, Nat.reduceEqDiff, Nat.reduceGT, Nat.reduceBEq, reduceCtorEq, ↓reduceIte, Int.reduceToNat, Int.reduceLE, Int.reduceLT, Int.reduceNe, Int.reduceEq]
/-- The pages of a node, without those below. -/
def pg1 (x : N) : List Int := (if x.page ≠ 0 then [x.page] else []) ++ (if x.leaf then x.l else []).flatMap C.pages
def pgS (l : List N) : List Int := l.flatMap pg1
theorem pgS_snoc (l : List N) (x : N) : pgS (l ++ [x]) = pgS l ++ pg1 x := by simp [pgS]
theorem pgS_pre {l m : List N} (h : l <+: m) : (pgS l).length ≤ (pgS m).length := by
  obtain ⟨t, rfl⟩ := h
  simp [pgS]
def noB (x : N) : Bool := false
set_option maxHeartbeats 8000000 in
theorem pagesP (w0 : W0) (n : N) (S : St) (hV : (visN noB n).length ≤ 1048576) (hF : (pgS (visN noB n)).length ≤ 1073741824) (hl : ∀ x, x ∈ visN noB n → x.l.length ≤ 1048576) :
    ACall Try.prog w0 33 [eT n] S (fun d S' => ∃ m : FN S.acc, d = .acc m.n (pgS (visN noB n)).length ∧ S' = ⟨S.box, (m.n, .arr 1 ((srt (pgS (visN noB n))).map dI)) :: S.acc⟩) := by
  refine fnP [] mx Try.func33 rfl rfl (by kernel_rfl) ?_; simp (maxDischargeDepth := 12) (maxSteps := 1000000) -implicitDefEqProofs only [Try.ntmps33, go_sem, Nat.reduceAdd, Nat.reduceSub, Nat.reduceMul, Nat.reduceLeDiff, Nat.reduceEqDiff, Nat.reduceGT, Nat.reduceBEq, reduceCtorEq, ↓reduceIte, Int.reduceToNat, Int.reduceLE, Int.reduceLT, Int.reduceNe, Int.reduceEq]
  intro b b1
  refine useK (nodesW w0 n 65 _) ?_
  rintro d S' ⟨b3, b4, rfl, rfl⟩
  simp (maxDischargeDepth := 12) (maxSteps := 1000000) -implicitDefEqProofs only [go_sem, Nat.reduceAdd, Nat.reduceSub, Nat.reduceMul, Nat.reduceLeDiff, Nat.reduceEqDiff, Nat.reduceGT, Nat.reduceBEq, reduceCtorEq, ↓reduceIte, Int.reduceToNat, Int.reduceLE, Int.reduceLT, Int.reduceNe, Int.reduceEq]
  refine awp_growB b1.n 0 1 (by omega) (ds := [.sl 0 true []]) (by simp (maxDischargeDepth := 12) (maxSteps := 1000000) -implicitDefEqProofs only [go_sem, Nat.reduceAdd, Nat.reduceSub, Nat.reduceMul, Nat.reduceLeDiff, Nat.reduceEqDiff, Nat.reduceGT, Nat.reduceBEq, reduceCtorEq, ↓reduceIte, Int.reduceToNat, Int.reduceLE, Int.reduceLT, Int.reduceNe, Int.reduceEq]) rfl fun lb => ?_
  simp (maxDischargeDepth := 12) (maxSteps := 1000000) -implicitDefEqProofs only [go_sem, Nat.reduceAdd, Nat.reduceSub, Nat.reduceMul, Nat.reduceLeDiff, Nat.reduceEqDiff, Nat.reduceGT, Nat.reduceBEq, reduceCtorEq, ↓reduceIte, Int.reduceToNat, Int.reduceLE, Int.reduceLT, Int.reduceNe, Int.reduceEq]
  refine rangeK [] (fun pre => ⟨(b4.n, [.v (.func (.func 65) #[] #[])]) :: (b3.n, cT n) :: (b1.n, [.acc lb.n (pgS pre).length]) :: (b.n, cT n) :: S.box, (lb.n, .arr 1 ((pgS pre).map dI)) :: S.acc⟩) (fun x => [eT x]) (visN noB n) mx (by kernel_rfl) rfl rfl rfl (fun _ => rfl) (fun _ => rfl) (fun _ => rfl) ?_ ?_ ?_
  · intro l w1 hy T hT
    exact iterW w1 l b3.n b4.n n noB 65 _ _ hV (Nat.le_refl _) (fun _ => by simp (maxDischargeDepth := 12) (maxSteps := 1000000) -implicitDefEqProofs only [go_sem, Nat.reduceAdd, Nat.reduceSub, Nat.reduceMul, Nat.reduceLeDiff, Nat.reduceEqDiff, Nat.reduceGT, Nat.reduceBEq, reduceCtorEq, ↓reduceIte, Int.reduceToNat, Int.reduceLE, Int.reduceLT, Int.reduceNe, Int.reduceEq]) (fun _ => by simp (maxDischargeDepth := 12) (maxSteps := 1000000) -implicitDefEqProofs only [go_sem, Nat.reduceAdd, Nat.reduceSub, Nat.reduceMul, Nat.reduceLeDiff, Nat.reduceEqDiff, Nat.reduceGT, Nat.reduceBEq, reduceCtorEq, ↓reduceIte, Int.reduceToNat, Int.reduceLE, Int.reduceLT, Int.reduceNe, Int.reduceEq]) (by simp only [go_sem]) (fun x T => neverW w1 x T) (fun _ => rfl) (fun _ => rfl) hy T hT
  · intro pre x T hp hT
    have t1 : lk T.box b1.n = some [.acc lb.n (pgS pre).length] := hT.box _ _ (by simp (maxDischargeDepth := 12) (maxSteps := 1000000) -implicitDefEqProofs only [go_sem, Nat.reduceAdd, Nat.reduceSub, Nat.reduceMul, Nat.reduceLeDiff, Nat.reduceEqDiff, Nat.reduceGT, Nat.reduceBEq, reduceCtorEq, ↓reduceIte, Int.reduceToNat, Int.reduceLE, Int.reduceLT, Int.reduceNe, Int.reduceEq])
    have u1 : lk T.acc lb.n = some (.arr 1 ((pgS pre).map dI)) := hT.acc _ _ (by simp (maxDischargeDepth := 12) (maxSteps := 1000000) -implicitDefEqProofs only [go_sem, Nat.reduceAdd, Nat.reduceSub, Nat.reduceMul, Nat.reduceLeDiff, Nat.reduceEqDiff, Nat.reduceGT, Nat.reduceBEq, reduceCtorEq, ↓reduceIte, Int.reduceToNat, Int.reduceLE, Int.reduceLT, Int.reduceNe, Int.reduceEq])
    have hxl := hl x (by obtain ⟨t, ht⟩ := hp; rw [← ht]; simp)
    have hpl := Nat.le_trans (pgS_pre hp) hF
    rw [pgS_snoc] at hpl
    have h1 : pg1 x = (if x.page ≠ 0 then [x.page] else []) ++ (if x.leaf then x.l else []).flatMap C.pages := rfl
    rw [List.length_append] at hpl
    have hH : ∀ l : List Int, l = pgS (pre ++ [x]) → Has _ ⟨up T.box b1.n [.acc lb.n l.length], up T.acc lb.n (.arr 1 (l.map dI))⟩ := fun v hv => by rw [hv]; exact Has_upd2 hT _ _
    have hu : ∀ (l : List Int), (⟨up ((b4.n, [.v (.func (.func 65) #[] #[])]) :: (b3.n, cT n) :: (b1.n, [.acc lb.n (pgS pre).length]) :: (b.n, cT n) :: S.box) b1.n [.acc lb.n l.length], up ((lb.n, .arr 1 ((pgS pre).map dI)) :: S.acc) lb.n (.arr 1 (l.map dI))⟩ : St) = ⟨(b4.n, [.v (.func (.func 65) #[] #[])]) :: (b3.n, cT n) :: (b1.n, [.acc lb.n l.length]) :: (b.n, cT n) :: S.box, (lb.n, .arr 1 (l.map dI)) :: S.acc⟩ := fun v => by simp (maxDischargeDepth := 12) (maxSteps := 1000000) -implicitDefEqProofs only [go_sem, Nat.reduceAdd, Nat.reduceSub, Nat.reduceMul, Nat.reduceLeDiff, Nat.reduceEqDiff, Nat.reduceGT, Nat.reduceBEq, reduceCtorEq, ↓reduceIte, Int.reduceToNat, Int.reduceLE, Int.reduceLT, Int.reduceNe, Int.reduceEq]
    have hK : ∀ v o, Kp ⟨(b4.n, [.v (.func (.func 65) #[] #[])]) :: (b3.n, cT n) :: (b1.n, [.acc lb.n (pgS pre).length]) :: (b.n, cT n) :: S.box, (lb.n, .arr 1 ((pgS pre).map dI)) :: S.acc⟩ T ⟨up T.box b1.n v, up T.acc lb.n o⟩ := fun v o => Kp_up2 (by simp (maxDischargeDepth := 12) (maxSteps := 1000000) -implicitDefEqProofs only [go_sem, Nat.reduceAdd, Nat.reduceSub, Nat.reduceMul, Nat.reduceLeDiff, Nat.reduceEqDiff, Nat.reduceGT, Nat.reduceBEq, reduceCtorEq, ↓reduceIte, Int.reduceToNat, Int.reduceLE, Int.reduceLT, Int.reduceNe, Int.reduceEq]) (by simp (maxDischargeDepth := 12) (maxSteps := 1000000) -implicitDefEqProofs only [go_sem, Nat.reduceAdd, Nat.reduceSub, Nat.reduceMul, Nat.reduceLeDiff, Nat.reduceEqDiff, Nat.reduceGT, Nat.reduceBEq, reduceCtorEq, ↓reduceIte, Int.reduceToNat, Int.reduceLE, Int.reduceLT, Int.reduceNe, Int.reduceEq])
    simp only [hu] at hH
    simp only [setPs]
    simp (maxDischargeDepth := 12) (maxSteps := 1000000) -implicitDefEqProofs only [go_sem, Nat.reduceAdd, Nat.reduceSub, Nat.reduceMul, Nat.reduceLeDiff, Nat.reduceEqDiff, Nat.reduceGT, Nat.reduceBEq, reduceCtorEq, ↓reduceIte, Int.reduceToNat, Int.reduceLE, Int.reduceLT, Int.reduceNe, Int.reduceEq, t1, u1]
    intro b5
    have hb5 : ¬ b5.n = b1.n := fun e => by have := nin_lk b5.h; rw [e, t1] at this; cases this
    have hm8 : maxLen = 9223372036854775807 := rfl
    refine ⟨fun hp0 => ⟨by omega, by omega, ?_⟩, fun hp0 => ?_⟩
    all_goals
      have hlL : (if x.leaf = true then x.l else []).length ≤ 1048576 := by split <;> first | exact hxl | exact Nat.zero_le _
      generalize hL : (if x.leaf = true then x.l else []) = L at *
      obtain ⟨P0, hP0⟩ : ∃ P0, P0 = pgS pre ++ (if x.page ≠ 0 then [x.page] else []) := ⟨_, rfl⟩
      have hx : pgS (pre ++ [x]) = P0 ++ L.flatMap C.pages := by rw [pgS_snoc, h1, hP0, List.append_assoc]
      have hxlen : P0.length + (L.flatMap C.pages).length ≤ 1073741824 := by
        rw [h1] at hpl
        rw [hP0]
        simp only [List.length_append] at hpl ⊢
        omega
      have htk : ∀ k, ((L.take k).flatMap C.pages).length ≤ (L.flatMap C.pages).length := fun k => by
        have := congrArg (List.flatMap C.pages) (List.take_append_drop k L)
        have := congrArg List.length this
        simp only [List.flatMap_append, List.length_append] at this
        omega
      refine loopN [] L.length [3, 9, 19, 20, 21] (fun k => [(21, dI k)]) (fun k => ⟨up T.box b1.n [.acc lb.n (P0 ++ (L.take k).flatMap C.pages).length], up T.acc lb.n (.arr 1 ((P0 ++ (L.take k).flatMap C.pages).map dI))⟩) (fun _ => True) mx (by kernel_rfl) ?_ ?_
      · simp (maxDischargeDepth := 12) (maxSteps := 1000000) -implicitDefEqProofs only [go_sem, Nat.reduceAdd, Nat.reduceSub, Nat.reduceMul, Nat.reduceLeDiff, Nat.reduceEqDiff, Nat.reduceGT, Nat.reduceBEq, reduceCtorEq, ↓reduceIte, Int.reduceToNat, Int.reduceLE, Int.reduceLT, Int.reduceNe, Int.reduceEq]
        refine .consB ?_
        first
          | (rw [if_pos (show x.page ≠ 0 from hp0)] at hP0
             subst hP0
             simp only [List.flatMap_nil, List.length_append, List.length_cons, List.length_nil, Nat.add_zero, Nat.zero_add, List.append_nil, List.map_append, List.map_cons, List.map_nil]
             exact .refl _)
          | (rw [if_neg (show ¬ x.page ≠ 0 from hp0), List.append_nil] at hP0
             subst hP0
             simp only [List.flatMap_nil, List.length_nil, Nat.add_zero, List.append_nil]
             rw [up_same t1, up_same u1]
             exact .refl _)
      · intro k hk _
        have e2 : ∀ z : List DV, lk (up T.box b1.n z) b1.n = some z := fun z => by rw [lk_up_same, t1]; rfl
        have e3 : ∀ z : Ob, lk (up T.acc lb.n z) lb.n = some z := fun z => by rw [lk_up_same, u1]; rfl
        have htk0 := htk k
        have htk1 := htk (k + 1)
        have hsu : ∀ {c : C}, L[k]? = some c → (L.take (k + 1)).flatMap C.pages = (L.take k).flatMap C.pages ++ c.pages := fun {c} hc => by rw [List.take_add_one, hc]; simp
        simp (maxDischargeDepth := 12) (maxSteps := 1000000) -implicitDefEqProofs only [go_sem, Nat.reduceAdd, Nat.reduceSub, Nat.reduceMul, Nat.reduceLeDiff, Nat.reduceEqDiff, Nat.reduceGT, Nat.reduceBEq, reduceCtorEq, ↓reduceIte, Int.reduceToNat, Int.reduceLE, Int.reduceLT, Int.reduceNe, Int.reduceEq, e2, e3, up_up]
        refine ⟨fun hlt => ⟨hlt, fun c hc b6 => ?_⟩, fun hge => ?_⟩
        · have hs := hsu hc
          have hs2 := congrArg List.length hs
          rw [List.length_append] at hs2
          refine ⟨by omega, by omega, hlt, by rw [w64 (by omega) (by omega)]; omega, .consB ?_⟩
          rw [hs]
          simp only [List.length_append, Nat.add_assoc, List.append_assoc]
          exact .refl _
        · have hkL : k = L.length := by omega
          rw [hkL, List.take_length]
          rw [hkL, List.take_length] at htk0
          have hxl2 := congrArg List.length hx
          rw [List.length_append] at hxl2
          refine ⟨?_, hK _ _⟩
          have := hH (P0 ++ L.flatMap C.pages) hx.symm
          rw [List.length_append] at this
          exact this
  · simp (maxDischargeDepth := 12) (maxSteps := 1000000) -implicitDefEqProofs only [go_sem, Nat.reduceAdd, Nat.reduceSub, Nat.reduceMul, Nat.reduceLeDiff, Nat.reduceEqDiff, Nat.reduceGT, Nat.reduceBEq, reduceCtorEq, ↓reduceIte, Int.reduceToNat, Int.reduceLE, Int.reduceLT, Int.reduceNe, Int.reduceEq]
    refine .inl ?_
    refine useK (sort_int w0 (S := ⟨_, (lb.n, .arr 1 ((pgS (visN noB n)).map dI)) :: S.acc⟩) (l := lb.n) (zs := pgS (visN noB n)) (by simp (maxDischargeDepth := 12) (maxSteps := 1000000) -implicitDefEqProofs only [go_sem, Nat.reduceAdd, Nat.reduceSub, Nat.reduceMul, Nat.reduceLeDiff, Nat.reduceEqDiff, Nat.reduceGT, Nat.reduceBEq, reduceCtorEq, ↓reduceIte, Int.reduceToNat, Int.reduceLE, Int.reduceLT, Int.reduceNe, Int.reduceEq]) (by omega)) ?_
    rintro d S' ⟨rfl, rfl⟩
    simp (maxDischargeDepth := 12) (maxSteps := 1000000) -implicitDefEqProofs only [go_sem, Nat.reduceAdd, Nat.reduceSub, Nat.reduceMul, Nat.reduceLeDiff, Nat.reduceEqDiff, Nat.reduceGT, Nat.reduceBEq, reduceCtorEq, ↓reduceIte, Int.reduceToNat, Int.reduceLE, Int.reduceLT, Int.reduceNe, Int.reduceEq]
    exact ⟨_, _, .refl _, .consB (.consB (.consB (.consB (.refl _)))), lb, rfl, rfl⟩
end Go.Proofs.Ytkibkahknibgfaa

namespace Aml
open Go Go.RowKit
set_option linter.unusedVariables false
set_option linter.unusedSimpArgs false
section
variable {P : Program} {w0 : W0}
theorem clear_ok {g : Gh} {S : St} {w : World} (h1 : Rel w0 g S w) {l : Nat} {xs : List DV} (hl : lk S.acc l = some (.arr 1 xs)) {b c : Nat} (hval : g.acc l xs.length = some (.slice (some ⟨b, 0, none⟩) xs.length c)) {k : Nat} (hk : k < xs.length)
    {t e ty : TypeId} {z : Value} (hu : P.underlying t = some (.slice e)) (hv : ∀ w, (zeroValue e).run P w = .ok z w) (hz : z.cells = #[z]) (hz1 : z.oneCell' = true) {zd : DV} (hrz : Rep g zd z) (c' : Nat) :
    ∃ w', (Builtin.clear_ #[t] ty #[.slice (some ⟨b, k, none⟩) (xs.length - k) c']).run P w = .ok (.tuple #[]) w' ∧ Rel w0 g ⟨S.box, up S.acc l (.arr 1 (xs.take k ++ List.replicate (xs.length - k) zd))⟩ w' := by
  obtain ⟨ow, hO⟩ := h1.open_
  obtain ⟨hs, ⟨he, o2, ha⟩ | ⟨b', c0, cs, e0, q1, q2, q3, q4, q5, q6, q7, q8, us, q9, q10, q11, q12⟩⟩ := hO.acc l _ (lk_mem hl)
  · rw [he] at hk; simp at hk
  have hval' := hval
  rw [q1] at hval'
  simp only [Option.some.injEq, Value.slice.injEq, Addr.mk.injEq, true_and, and_true] at hval'
  obtain ⟨rfl, rfl⟩ := hval'
  have hzc : (Builtin.zeroCells z.cells (xs.length - k)).toList = List.replicate (xs.length - k) z := by
    rw [hz]
    simp [Builtin.zeroCells]
    apply List.ext_getElem
    · simp
    · intro i h1 h2
      simp [Nat.mod_one]
  obtain ⟨m, hm⟩ : ∃ m, m + 1 = xs.length - k := ⟨xs.length - k - 1, by omega⟩
  have hul : us.length = xs.length := q9.len.symm
  have hst := run_storeCells_at (P := P) b' k e0 (List.replicate (xs.length - k) z) 0 cs w q5 (by simp; omega) (fun u hu => by rw [List.eq_of_mem_replicate hu]; exact hz1)
  have hle2 : k + (List.replicate (xs.length - k) z).length ≤ cs.toList.length := by simp; omega
  refine ⟨w.setRow b' (setAllV cs.toList k (List.replicate (xs.length - k) z)).toArray, ?_, ?_⟩
  · rw [setAllV_eq _ _ _ hle2]
    simp only [Nat.add_zero] at hst
    rw [← hm] at hst hzc ⊢
    simp [Builtin.clear_, run_underlying hu, hv, hzc, hst]
  · have hxs : (xs.take k ++ List.replicate (xs.length - k) zd).length = xs.length := by simp; omega
    refine h1.rearr (ys := xs.take k ++ List.replicate (xs.length - k) zd) (us := us.take k ++ List.replicate (xs.length - k) z) (b := b') (c := c0) (e := e0) (cs := (setAllV cs.toList k (List.replicate (xs.length - k) z)).toArray) hl hval hxs (by omega) ?_ ?_ ?_ ?_ ?_ ?_ ?_ ?_ ?_
    · exact setRow_heap w b' cs _ e0 (0, 0) q5
    · rw [List.size_toArray, setAllV_eq _ _ _ hle2]
      simp only [List.length_append, List.length_take, List.length_drop, Array.length_toList]
      simp only [Array.length_toList] at hle2
      rw [← q6]; omega
    · exact h1.below.step ⟨rfl, rfl, rfl, by simp, fun k hk => setRow_other w b' k _ (by omega)⟩ b' (nc_cells q5) fun k _ hne => setRow_other w b' k _ hne
    · simp
    · intro k _ hkb; exact setRow_other w b' k _ hkb
    · refine RepL.append ?_ ?_
      · exact ⟨by simp [hul], fun i d u a1 a2 => by
          rw [List.getElem?_take] at a1 a2
          split at a1
          · rename_i hlt; rw [if_pos hlt] at a2; exact q9.at_ i d u a1 a2
          · cases a1⟩
      · exact ⟨by simp, fun i d u a1 a2 => by
          rw [List.getElem?_replicate] at a1 a2
          split at a1
          · rename_i hlt; rw [if_pos hlt] at a2; cases a1; cases a2; exact hrz
          · cases a1⟩
    · intro j u hj
      rcases List.mem_append.1 (List.mem_of_getElem? hj) with hu | hu
      · obtain ⟨i, hi⟩ := List.mem_iff_getElem?.1 (List.mem_of_mem_take hu)
        exact q10 i u hi
      · rw [List.eq_of_mem_replicate hu, hz]; rfl
    · intro u hu x hx
      rcases List.mem_append.1 hu with hu | hu
      · exact q11 u (List.mem_of_mem_take hu) x hx
      · rw [List.eq_of_mem_replicate hu, hz] at hx
        simp only [List.mem_singleton] at hx
        subst hx; exact hz1
    · intro i u j x hi2 hj
      rw [List.getElem?_toArray, get_setAllV hle2]
      rcases Nat.lt_or_ge i k with hik | hik
      · rw [List.getElem?_append_left (by simp; omega), List.getElem?_take, if_pos hik] at hi2
        have hjs : j < 1 := by rw [← q10 i u hi2]; exact (Array.getElem?_eq_some_iff.1 hj).1
        rw [if_neg (by simp; omega)]
        simpa using q12 i u j x hi2 hj
      · have hlk : (us.take k).length = k := by simp; omega
        rw [List.getElem?_append_right (by omega), hlk, List.getElem?_replicate] at hi2
        split at hi2
        · rename_i hlt
          cases hi2
          rw [hz] at hj
          have hj0 : j = 0 := by
            have := (Array.getElem?_eq_some_iff.1 hj).1
            simp at this; omega
          subst hj0
          rw [if_pos (by simp; omega), List.getElem?_replicate, if_pos (by omega)]
          simpa using hj
        · cases hi2
/-- 'clear(s[k:])' of a growing slice. -/
theorem clearR {id : Nat} {i p q r j : Nat} {t t1 t2 t3 t4 : TypeId} {s1 s2 s3 s4 : String} {a1 a2 a3 a4 : Array Edge} {fr : List DV} {S : St} {Q : Exit → List DV → St → Prop} {l k : Nat} {xs : List DV} {kk : IntKind} {e by' : Nat} {zd : Value}
    (hk : tk P t = .sl e 1 by' true) (hz : zD P e = .v zd) (hi : fr[i]? = some (.acc l xs.length)) (hj : fr[j]? = some (.v (.int kk k))) (hl : lk S.acc l = some (.arr 1 xs)) (hkx : k < xs.length)
    (hs : (decide (j ≠ i) && decide (j ≠ p) && decide (q ≠ p) && decide (i ≠ p) && decide (i ≠ q) && decide (i ≠ r)) = true) (hp : p < fr.length) (hq : q < fr.length) (hr : r < fr.length)
    (h : ∀ v u, Q .normal (((((fr.set i (.v v)).set p (.v v)).set q (.v (.int kk k))).set r (.v u)).set i (.acc l xs.length)) ⟨S.box, up S.acc l (.arr 1 (xs.take k ++ List.replicate (xs.length - k) (.v zd)))⟩) :
    AWp P w0 (.region id #[⟨some p, .move (.tmp i), t1, s1, a1, none⟩, ⟨some q, .move (.tmp j), t2, s2, a2, none⟩, ⟨some r, .slice t (.tmp p) (some (.tmp q)) none none, t3, s3, a3, none⟩, ⟨none, .call ⟨.builtin .clear, #[.tmp r], #[t]⟩, t4, s4, a4, none⟩] false) fr S Q := by
  simp only [Bool.and_eq_true, decide_eq_true_eq] at hs
  obtain ⟨⟨⟨⟨⟨n1, n2⟩, n3⟩, n4⟩, n5⟩, n6⟩ := hs
  intro g a w h1 h2 h3
  have hilt : i < fr.length := (List.getElem?_eq_some_iff.1 hi).1
  have hjlt : j < fr.length := (List.getElem?_eq_some_iff.1 hj).1
  have hlen : fr.length = a.tmps.toList.length := h2.len
  have hri := h2.at_ i _ _ hi (List.getElem?_eq_getElem (by omega))
  obtain ⟨v, hv⟩ : ∃ v, v = a.tmps.toList[i]'(by omega) := ⟨_, rfl⟩
  rw [← hv] at hri
  obtain ⟨b, c, hval, hve⟩ : ∃ b c, g.acc l xs.length = some (.slice (some ⟨b, 0, none⟩) xs.length c) ∧ v = .slice (some ⟨b, 0, none⟩) xs.length c ∧ xs.length ≤ c := by
    obtain ⟨ow, hO⟩ := h1.open_
    obtain ⟨hs, ⟨he, o2, ha⟩ | ⟨b', c0, cs, e0, q1, q2, q3, q4, q5, q6, q7, q8, us, q9, q10, q11, q12⟩⟩ := hO.acc l _ (lk_mem hl)
    · rw [he] at hkx; simp at hkx
    · refine ⟨b', c0, q1, ?_, q7⟩
      cases hri with
      | acc _ _ o c h => rw [q1] at h; exact (Option.some.inj h).symm
  obtain ⟨hve, hnc⟩ := hve
  let w1 : W0 := ⟨w0.w, g⟩
  have hsub : ∀ (g : Gh), g.sub g := fun g => ⟨fun _ _ _ h => h, fun _ _ _ h => h, fun _ _ h => h⟩
  have R1 : Rel w1 g S w := h1.withObj (w0' := w1) (ob := g.obj) rfl h1.below.obj (hsub g)
  have ho : v.oneCell' = true := by rw [hve]; rfl
  have h2' : RepL g (fr.set i (.v v)) a.tmps.toList := repL_same h2 (by rw [hv]; exact List.getElem?_eq_getElem (by omega)) (.v _ ho)
  obtain ⟨hu, hss, _, hei⟩ := tk_sl hk
  obtain ⟨ti, z, hii, hzz, hzs, hpos⟩ := okEl_spec hei
  have hsz : ti.size = 1 := by simpa [Program.cellsOf, hii] using hss
  have hzD : zD P e = cv z := by simp [zD, hii, hzz]
  have hzv : z = zd := by
    have hr := rep_cv g z
    rw [← hzD, hz] at hr
    exact rep_v hr
  have hz1 : zd.oneCell' = true ∧ zd.cells = #[zd] := by
    have hr := rep_cv g z
    rw [← hzD, hz] at hr
    have hone := hr.one rfl
    rw [← hzv]
    rw [hsz] at hzs
    cases hr with
    | v _ h => rw [hzv]; exact ⟨h, by cases zd <;> first | rfl | cases h⟩
  have hrun := fun (w : World) => (show (zeroValue e).run P w = .ok zd w by simp [zeroValue, typeInfo, hii, hzz, hzv])
  have hsize : ∀ w, (Go.sizeOf e).run P w = .ok 1 w := fun w => by simp [Go.sizeOf, typeInfo, hii, hsz]
  -- the walk
  have g1 : (fr.set i (.v v)).getD i ud = .v v := by simp [List.getD_eq_getElem?_getD, hilt]
  have g2 : ((fr.set i (.v v)).set p (.v v)).getD j ud = .v (.int kk k) := by
    rw [List.getD_eq_getElem?_getD, List.getElem?_set_ne (fun e => n2 e.symm), List.getElem?_set_ne (fun e => n1 e.symm), hj]; rfl
  have g3 : (((fr.set i (.v v)).set p (.v v)).set q (.v (.int kk k))).getD p ud = .v v := by
    rw [List.getD_eq_getElem?_getD, List.getElem?_set_ne n3, List.getElem?_set_self (by simpa using hp)]; rfl
  have g4 : (((fr.set i (.v v)).set p (.v v)).set q (.v (.int kk k))).getD q ud = .v (.int kk k) := by
    rw [List.getD_eq_getElem?_getD, List.getElem?_set_self (by simpa using hq)]; rfl
  have g5 : ∀ x, ((((fr.set i (.v v)).set p (.v v)).set q (.v (.int kk k))).set r x).getD r ud = x := fun x => by
    rw [List.getD_eq_getElem?_getD, List.getElem?_set_self (by simpa using hr)]; rfl
  have L : ∀ ops : Array Oper, LWp P w1 ops (fun fr' S' => fr'[i]? = some (.v v) ∧ Q .normal (fr'.set i (.acc l xs.length)) S') [⟨some p, .move (.tmp i), t1, s1, a1, none⟩, ⟨some q, .move (.tmp j), t2, s2, a2, none⟩, ⟨some r, .slice t (.tmp p) (some (.tmp q)) none none, t3, s3, a3, none⟩, ⟨none, .call ⟨.builtin .clear, #[.tmp r], #[t]⟩, t4, s4, a4, none⟩] (fr.set i (.v v)) S := by
    intro ops
    refine y_move (P := P) rfl ?_
    show LWp P w1 ops _ _ ((fr.set i (.v v)).set p ((fr.set i (.v v)).getD i ud)) S
    rw [g1]
    refine y_move (P := P) rfl ?_
    show LWp P w1 ops _ _ (((fr.set i (.v v)).set p (.v v)).set q (((fr.set i (.v v)).set p (.v v)).getD j ud)) S
    rw [g2]
    show YieldsE P w1 _ _ S _
    intro ga wa ρ ra rb rc
    have hx := rb (.tmp p) (by simp [Op.operands])
    have hy := rb (.tmp q) (by simp [Op.operands])
    change Rep ga ((((fr.set i (.v v)).set p (.v v)).set q (.v (.int kk k))).getD p ud) _ at hx
    change Rep ga ((((fr.set i (.v v)).set p (.v v)).set q (.v (.int kk k))).getD q ud) _ at hy
    rw [g3] at hx
    rw [g4] at hy
    have hx := rep_v hx
    have hy := rep_v hy
    have hb : (Instr.sliceBounds true xs.length c (some (.int kk (k : Int))) none none).run P wa = .ok (k, xs.length, c) wa := by
      have : (Instr.sliceBound (.int kk (k : Int)) xs.length .sliceB).run P wa = .ok k wa := by
        have := run_bound (P := P) (k := kk) (i := (k : Int)) (y := xs.length) (code := .sliceB) (w := wa) (by omega) (by omega)
        simpa using this
      simp [Instr.sliceBounds, this]
    have hck : ¬ c = k := by omega
    have hrun3 : (execOp ρ ⟨some r, .slice t (.tmp p) (some (.tmp q)) none none, t3, s3, a3, none⟩).run P wa = .ok (.value (.slice (some ⟨b, k, none⟩) (xs.length - k) (c - k))) wa := by
      simp [execOp, hx, hve, Instr.sliceAt, Instr.slice, run_underlying hu, hy, hb, hsize, hck, Addr.add] <;> omega
    rw [hrun3]
    refine ⟨ga, .v (.slice (some ⟨b, k, none⟩) (xs.length - k) (c - k)), S, .refl ga, ra, .v _ rfl, ?_⟩
    show YieldsE P w1 _ _ S _
    intro gb wb ρ2 ra2 rb2 rc2
    have hx2 := rb2 (.tmp r) (by simp [Op.operands, Call.operands])
    change Rep gb (((((fr.set i (.v v)).set p (.v v)).set q (.v (.int kk k))).set r _).getD r ud) _ at hx2
    rw [g5] at hx2
    have hx2 := rep_v hx2
    obtain ⟨w', e1, e2⟩ := clear_ok (P := P) (ty := t4) ra2 hl (ra2.below.req.acc _ _ _ hval) hkx hu hrun hz1.2 hz1.1 (zd := .v zd) (.v _ hz1.1) (c - k)
    have hrun4 : (execOp ρ2 ⟨none, .call ⟨.builtin .clear, #[.tmp r], #[t]⟩, t4, s4, a4, none⟩).run P wb = .ok (.value (.tuple #[])) w' := by
      simp [execOp, resolve, invoke, builtin, hx2, e1]
    rw [hrun4]
    refine ⟨gb, .any, _, .refl gb, e2, .any _, ?_, h _ _⟩
    show (((((fr.set i (.v v)).set p (.v v)).set q (.v (.int kk k))).set r _)[i]? : Option DV) = _
    rw [List.getElem?_set_ne (fun e => n6 e.symm), List.getElem?_set_ne (fun e => n5 e.symm), List.getElem?_set_ne (fun e => n4 e.symm), List.getElem?_set_self hilt]
  refine wpA_mono (wpA_region_lit fun ro => lwp_sound (w0 := w1) (Q := fun e fr' S' => fr'[i]? = some (.v v) ∧ Q e (fr'.set i (.acc l xs.length)) S') _ _ S g a w (.refl g) R1 h2' h3 (L _)) ?_
  rintro e' a' w' ⟨hd, g', fr', S', k1, k2, k3, k5, k4⟩
  have hb0 : w0.gh.sub g' := ⟨fun _ _ _ h => k2.below.req.imm _ _ _ (h1.below.req.imm _ _ _ h), fun _ _ _ h => k2.below.req.acc _ _ _ (h1.below.req.acc _ _ _ h), fun _ _ h => k2.below.req.obj _ _ (h1.below.req.obj _ _ h)⟩
  refine ⟨hd, g', fr'.set i (.acc l xs.length), S', k1, k2.withObj (w0' := w0) (ob := g'.obj) rfl k2.below.obj hb0, ?_, k4⟩
  have hlt' : i < a'.tmps.toList.length := by rw [← k3.len]; exact (List.getElem?_eq_some_iff.1 k5).1
  have hu' := List.getElem?_eq_getElem hlt'
  have hvi := rep_v (k3.at_ i _ _ k5 hu')
  refine repL_same k3 hu' ?_
  rw [hvi, hve]
  exact .acc _ _ _ _ (k1.acc _ _ _ hval)
end
end Aml

namespace Go.Proofs.Ytkibkahknibgfaa
open Aml Go
set_option linter.unusedVariables false
set_option linter.unusedSimpArgs false
set_option maxRecDepth 100000

set_option maxHeartbeats 400000 in
theorem nanC (w0 : W0) (a : Int) (S : St) : ACall Try.prog w0 112 [dI a] S (fun d S' => d = dB false ∧ S' = S) := by
  refine fnS [] mx Try.func112 rfl rfl (by kernel_rfl) ?_; simp (maxDischargeDepth := 12) (maxSteps := 1000000) -implicitDefEqProofs only [Try.ntmps112, go_sem, Nat.reduceAdd, Nat.reduceSub, Nat.reduceMul, Nat.reduceLeDiff, Nat.reduceEqDiff, Nat.reduceGT, Nat.reduceBEq, reduceCtorEq, ↓reduceIte, Int.reduceToNat, Int.reduceLE, Int.reduceLT, Int.reduceNe, Int.reduceEq]
set_option maxHeartbeats 400000 in
theorem nanS (w0 : W0) (a : Int) (S : St) : ACall Try.prog w0 92 [dI a] S (fun d S' => d = dB false ∧ S' = S) := by
  refine fnS [] mx Try.func92 rfl rfl (by kernel_rfl) ?_; simp (maxDischargeDepth := 12) (maxSteps := 1000000) -implicitDefEqProofs only [Try.ntmps92, go_sem, Nat.reduceAdd, Nat.reduceSub, Nat.reduceMul, Nat.reduceLeDiff, Nat.reduceEqDiff, Nat.reduceGT, Nat.reduceBEq, reduceCtorEq, ↓reduceIte, Int.reduceToNat, Int.reduceLE, Int.reduceLT, Int.reduceNe, Int.reduceEq]
set_option maxHeartbeats 400000 in
theorem lessC (w0 : W0) (a b : Int) (S : St) : ACall Try.prog w0 91 [dI a, dI b] S (fun d S' => d = dB (decide (a < b)) ∧ S' = S) := by
  refine fnS [] mx Try.func91 rfl rfl (by kernel_rfl) ?_; simp (maxDischargeDepth := 12) (maxSteps := 1000000) -implicitDefEqProofs only [Try.ntmps91, go_sem, Nat.reduceAdd, Nat.reduceSub, Nat.reduceMul, Nat.reduceLeDiff, Nat.reduceEqDiff, Nat.reduceGT, Nat.reduceBEq, reduceCtorEq, ↓reduceIte, Int.reduceToNat, Int.reduceLE, Int.reduceLT, Int.reduceNe, Int.reduceEq]
  refine use1 (nanC w0 a S) ?_
  simp (maxDischargeDepth := 12) (maxSteps := 1000000) -implicitDefEqProofs only [go_sem, Nat.reduceAdd, Nat.reduceSub, Nat.reduceMul, Nat.reduceLeDiff, Nat.reduceEqDiff, Nat.reduceGT, Nat.reduceBEq, reduceCtorEq, ↓reduceIte, Int.reduceToNat, Int.reduceLE, Int.reduceLT, Int.reduceNe, Int.reduceEq]
/-- A row that rises. -/
def Up (l : List Int) : Prop := ∀ (i j : Nat) (a b : Int), i ≤ j → l[i]? = some a → l[j]? = some b → a ≤ b
set_option maxHeartbeats 4000000 in
theorem searchW (w0 : W0) (l : List Int) (p : Int) (S : St) (hl : Up l) (hb : l.length ≤ 1073741824) : ACall Try.prog w0 71 [dL l, dI p] S (fun d S' => d = .tup [.any, dB (decide (p ∈ l))] ∧ S' = S) := by
  refine fnS [] mx Try.func71 rfl rfl (by kernel_rfl) ?_; simp (maxDischargeDepth := 12) (maxSteps := 1000000) -implicitDefEqProofs only [Try.ntmps71, go_sem, Nat.reduceAdd, Nat.reduceSub, Nat.reduceMul, Nat.reduceLeDiff, Nat.reduceEqDiff, Nat.reduceGT, Nat.reduceBEq, reduceCtorEq, ↓reduceIte, Int.reduceToNat, Int.reduceLE, Int.reduceLT, Int.reduceNe, Int.reduceEq]
  refine loopK [] [0, 1, 6, 7, 8] (fun s : Nat × Nat => [(7, dI s.1), (8, dI s.2)]) (fun _ => S) (fun s => s.1 ≤ s.2 ∧ s.2 ≤ l.length ∧ (∀ (i : Nat) a, i < s.1 → l[i]? = some a → a < p) ∧ ∀ (i : Nat) a, s.2 ≤ i → l[i]? = some a → p ≤ a) (fun s => s.2 - s.1) (0, l.length) mx (by kernel_rfl) ?_ ?_
  · simp (maxDischargeDepth := 12) (maxSteps := 1000000) -implicitDefEqProofs only [go_sem, Nat.reduceAdd, Nat.reduceSub, Nat.reduceMul, Nat.reduceLeDiff, Nat.reduceEqDiff, Nat.reduceGT, Nat.reduceBEq, reduceCtorEq, ↓reduceIte, Int.reduceToNat, Int.reduceLE, Int.reduceLT, Int.reduceNe, Int.reduceEq]
    exact ⟨Nat.zero_le _, fun i a h => absurd h (by omega), fun i a h e => absurd (List.getElem?_eq_some_iff.1 e).1 (by omega)⟩
  · rintro ⟨i, j⟩ ⟨h1, h2, h3, h4⟩
    simp only at h1 h2 h3 h4
    have eh : IntKind.i64.wrap ((IntKind.u64.wrap (IntKind.i64.wrap ((i : Int) + j))).fdiv (2 ^ min 1 64)) = (((i + j) / 2 : Nat) : Int) := by
      rw [w64 (n := (i : Int) + j) (by omega) (by omega), wu64 (by omega) (by omega), Int.fdiv_eq_ediv_of_nonneg _ (by decide)]
      simp only [show min 1 64 = 1 from rfl, Int.pow_one]
      rw [w64 (by omega) (by omega)]
      omega
    simp (maxDischargeDepth := 12) (maxSteps := 1000000) -implicitDefEqProofs only [go_sem, Nat.reduceAdd, Nat.reduceSub, Nat.reduceMul, Nat.reduceLeDiff, Nat.reduceEqDiff, Nat.reduceGT, Nat.reduceBEq, reduceCtorEq, ↓reduceIte, Int.reduceToNat, Int.reduceLE, Int.reduceLT, Int.reduceNe, Int.reduceEq, eh]
    refine ⟨fun hlt => ⟨by omega, fun a ha => use1 (lessC w0 a p S) ?_⟩, fun hge => ⟨fun hlt => ⟨hlt, fun a ha => ⟨fun hap => Wk.tup (.cons (.any _) (.cons (.eq ?_) .nil)), fun hap => ⟨hlt, fun c hc => use1 (nanS w0 c S) ?_⟩⟩⟩, fun hn => ?_⟩⟩
    · simp (maxDischargeDepth := 12) (maxSteps := 1000000) -implicitDefEqProofs only [go_sem, Nat.reduceAdd, Nat.reduceSub, Nat.reduceMul, Nat.reduceLeDiff, Nat.reduceEqDiff, Nat.reduceGT, Nat.reduceBEq, reduceCtorEq, ↓reduceIte, Int.reduceToNat, Int.reduceLE, Int.reduceLT, Int.reduceNe, Int.reduceEq, eh]
      refine ⟨fun hap => ⟨((i + j) / 2 + 1, j), ⟨by simp only; omega, h2, fun x c hx hc => ?_, h4⟩, by simp only; omega, by rw [w64 (by omega) (by omega)]; rfl, rfl⟩, fun hap => ⟨(i, (i + j) / 2), ⟨by simp only; omega, by simp only; omega, h3, fun x c hx hc => ?_⟩, by simp only; omega, rfl, rfl⟩⟩
      · simp only at hx
        have := hl x ((i + j) / 2) c a (by omega) hc ha
        omega
      · simp only at hx
        have := hl ((i + j) / 2) x a c hx ha hc
        omega
    · have hin : p ∈ l := hap ▸ List.mem_of_getElem? ha
      rw [decide_eq_true hin]
    · simp (maxDischargeDepth := 12) (maxSteps := 1000000) -implicitDefEqProofs only [go_sem, Nat.reduceAdd, Nat.reduceSub, Nat.reduceMul, Nat.reduceLeDiff, Nat.reduceEqDiff, Nat.reduceGT, Nat.reduceBEq, reduceCtorEq, ↓reduceIte, Int.reduceToNat, Int.reduceLE, Int.reduceLT, Int.reduceNe, Int.reduceEq]
      have hni : ¬ p ∈ l := fun hin => by
        obtain ⟨x, hx⟩ := List.mem_iff_getElem?.1 hin
        rcases Nat.lt_or_ge x i with h | h
        · have := h3 x p h hx; omega
        · have hle := hl i x a p h ha hx
          have := h4 i a (by omega) ha
          omega
      rw [decide_eq_false hni]
      exact Wk.tup (.cons (.any _) (.cons (.refl _) .nil))
    · have hni : ¬ p ∈ l := fun hin => by
        obtain ⟨x, hx⟩ := List.mem_iff_getElem?.1 hin
        have hxl := (List.getElem?_eq_some_iff.1 hx).1
        have := h3 x p (by omega) hx
        omega
      rw [decide_eq_false hni]
      exact Wk.tup (.cons (.any _) (.cons (.refl _) .nil))
set_option maxHeartbeats 4000000 in
theorem lostEndW (w0 : W0) (b : Nat) (l : List Int) (p : Int) (S : St) (hb : lk S.box b = some [dL l]) (hl : Up l) (h0 : l.length ≤ 1073741824) : ACall Try.prog w0 70 [dI p, .v (.pointer (some ⟨b, 0, none⟩))] S (fun d S' => d = dB (decide (p ∈ l)) ∧ S' = S) := by
  refine fnS [] mx Try.func70 rfl rfl (by kernel_rfl) ?_; simp (maxDischargeDepth := 12) (maxSteps := 1000000) -implicitDefEqProofs only [Try.ntmps70, go_sem, Nat.reduceAdd, Nat.reduceSub, Nat.reduceMul, Nat.reduceLeDiff, Nat.reduceEqDiff, Nat.reduceGT, Nat.reduceBEq, reduceCtorEq, ↓reduceIte, Int.reduceToNat, Int.reduceLE, Int.reduceLT, Int.reduceNe, Int.reduceEq,  hb]
  refine use1 (searchW w0 l p S hl h0) ?_
  simp (maxDischargeDepth := 12) (maxSteps := 1000000) -implicitDefEqProofs only [go_sem, Nat.reduceAdd, Nat.reduceSub, Nat.reduceMul, Nat.reduceLeDiff, Nat.reduceEqDiff, Nat.reduceGT, Nat.reduceBEq, reduceCtorEq, ↓reduceIte, Int.reduceToNat, Int.reduceLE, Int.reduceLT, Int.reduceNe, Int.reduceEq]
def hitI (l : List Int) (p : Int) : Bool := decide (p ∈ l)
def fltI (l zs : List Int) : List Int := zs.filter fun p => !hitI l p
/-- Where the first one stands, or -1. -/
def idxI (l zs : List Int) : Int := if zs.findIdx (hitI l) < zs.length then (zs.findIdx (hitI l) : Int) else -1
set_option maxHeartbeats 4000000 in
theorem indexW (w0 : W0) (b m : Nat) (l zs : List Int) (S : St) (hb : lk S.box b = some [dL l]) (hm : lk S.acc m = some (.arr 1 (zs.map dI))) (hl : Up l) (h0 : l.length ≤ 1073741824) (h1 : zs.length ≤ 1073741824) :
    ACall Try.prog w0 90 [.acc m zs.length, .v (.func (.func 70) #[] #[.pointer (some ⟨b, 0, none⟩)])] S (fun d S' => d = dI (idxI l zs) ∧ S' = S) := by
  refine fnS [] mx Try.func90 rfl rfl (by kernel_rfl) ?_; simp (maxDischargeDepth := 12) (maxSteps := 1000000) -implicitDefEqProofs only [Try.ntmps90, go_sem, Nat.reduceAdd, Nat.reduceSub, Nat.reduceMul, Nat.reduceLeDiff, Nat.reduceEqDiff, Nat.reduceGT, Nat.reduceBEq, reduceCtorEq, ↓reduceIte, Int.reduceToNat, Int.reduceLE, Int.reduceLT, Int.reduceNe, Int.reduceEq,  hb, hm]
  refine loopN [] zs.length [0, 1, 7, 8] (fun k => [(8, dI k)]) (fun _ => S) (fun k => k ≤ zs.findIdx (hitI l)) mx (by kernel_rfl) ?_ ?_
  · simp (maxDischargeDepth := 12) (maxSteps := 1000000) -implicitDefEqProofs only [go_sem, Nat.reduceAdd, Nat.reduceSub, Nat.reduceMul, Nat.reduceLeDiff, Nat.reduceEqDiff, Nat.reduceGT, Nat.reduceBEq, reduceCtorEq, ↓reduceIte, Int.reduceToNat, Int.reduceLE, Int.reduceLT, Int.reduceNe, Int.reduceEq]
    exact Nat.zero_le _
  · intro k hk hinv
    simp (maxDischargeDepth := 12) (maxSteps := 1000000) -implicitDefEqProofs only [go_sem, Nat.reduceAdd, Nat.reduceSub, Nat.reduceMul, Nat.reduceLeDiff, Nat.reduceEqDiff, Nat.reduceGT, Nat.reduceBEq, reduceCtorEq, ↓reduceIte, Int.reduceToNat, Int.reduceLE, Int.reduceLT, Int.reduceNe, Int.reduceEq, hb, hm]
    refine ⟨fun hlt => ⟨hlt, hlt, fun a ha => use1 (lostEndW w0 b l a S hb hl h0) ?_⟩, fun hge => ?_⟩
    · have hak : zs[k] = a := (List.getElem?_eq_some_iff.1 ha).2
      simp (maxDischargeDepth := 12) (maxSteps := 1000000) -implicitDefEqProofs only [go_sem, Nat.reduceAdd, Nat.reduceSub, Nat.reduceMul, Nat.reduceLeDiff, Nat.reduceEqDiff, Nat.reduceGT, Nat.reduceBEq, reduceCtorEq, ↓reduceIte, Int.reduceToNat, Int.reduceLE, Int.reduceLT, Int.reduceNe, Int.reduceEq]
      refine ⟨fun hin => ?_, fun hni => ⟨hlt, ?_, by rw [w64 (by omega) (by omega)]; omega⟩⟩
      · have : ¬ k < zs.findIdx (hitI l) := fun h => by
          have := List.not_of_lt_findIdx h
          rw [hak] at this
          simp [hitI, hin] at this
        unfold idxI
        rw [if_pos (by omega)]; omega
      · rcases Nat.lt_or_ge k (zs.findIdx (hitI l)) with h | h
        · exact h
        · have he : zs.findIdx (hitI l) = k := by omega
          have := List.findIdx_getElem (xs := zs) (p := hitI l) (w := by omega)
          simp only [he, hak] at this
          simp [hitI, hni] at this
    · unfold idxI
      rw [if_neg (by omega)]
set_option maxHeartbeats 4000000 in
theorem deleteW (w0 : W0) (b : Nat) (l zs : List Int) (B : List (Nat × List DV)) (A : List (Nat × Ob)) (m : FN A) (hb : lk B b = some [dL l]) (hl : Up l) (h0 : l.length ≤ 1073741824) (h1 : zs.length ≤ 1073741824) :
    ACall Try.prog w0 69 [.acc m.n zs.length, .v (.func (.func 70) #[] #[.pointer (some ⟨b, 0, none⟩)])] ⟨B, (m.n, .arr 1 (zs.map dI)) :: A⟩ (fun d S' => ∃ m' : FN A, d = .acc m'.n (fltI l zs).length ∧ S' = ⟨B, (m'.n, .arr 1 ((fltI l zs).map dI)) :: A⟩) := by
  refine fnO [11] mx Try.func69 rfl rfl (by kernel_rfl) ?_; simp (maxDischargeDepth := 12) (maxSteps := 1000000) -implicitDefEqProofs only [Try.ntmps69, go_sem, Nat.reduceAdd, Nat.reduceSub, Nat.reduceMul, Nat.reduceLeDiff, Nat.reduceEqDiff, Nat.reduceGT, Nat.reduceBEq, reduceCtorEq, ↓reduceIte, Int.reduceToNat, Int.reduceLE, Int.reduceLT, Int.reduceNe, Int.reduceEq,  hb]
  refine .inl (use1 (indexW w0 b m.n l zs _ (by simp (maxDischargeDepth := 12) (maxSteps := 1000000) -implicitDefEqProofs only [go_sem, Nat.reduceAdd, Nat.reduceSub, Nat.reduceMul, Nat.reduceLeDiff, Nat.reduceEqDiff, Nat.reduceGT, Nat.reduceBEq, reduceCtorEq, ↓reduceIte, Int.reduceToNat, Int.reduceLE, Int.reduceLT, Int.reduceNe, Int.reduceEq, hb]) (by simp (maxDischargeDepth := 12) (maxSteps := 1000000) -implicitDefEqProofs only [go_sem, Nat.reduceAdd, Nat.reduceSub, Nat.reduceMul, Nat.reduceLeDiff, Nat.reduceEqDiff, Nat.reduceGT, Nat.reduceBEq, reduceCtorEq, ↓reduceIte, Int.reduceToNat, Int.reduceLE, Int.reduceLT, Int.reduceNe, Int.reduceEq]) hl h0 h1) ?_)
  simp (maxDischargeDepth := 12) (maxSteps := 1000000) -implicitDefEqProofs only [go_sem, Nat.reduceAdd, Nat.reduceSub, Nat.reduceMul, Nat.reduceLeDiff, Nat.reduceEqDiff, Nat.reduceGT, Nat.reduceBEq, reduceCtorEq, ↓reduceIte, Int.reduceToNat, Int.reduceLE, Int.reduceLT, Int.reduceNe, Int.reduceEq, hb]
  refine ⟨fun hm1 => ?_, fun hm1 => ?_⟩
  · have hge : zs.length ≤ zs.findIdx (hitI l) := by
      unfold idxI at hm1
      split at hm1 <;> omega
    have hf : fltI l zs = zs := by
      refine List.filter_eq_self.2 fun a ha => ?_
      obtain ⟨x, hx⟩ := List.mem_iff_getElem?.1 ha
      have hlt := (List.getElem?_eq_some_iff.1 hx).1
      have := List.not_of_lt_findIdx (Nat.lt_of_lt_of_le hlt hge)
      rw [(List.getElem?_eq_some_iff.1 hx).2] at this
      simpa using this
    exact ⟨m, by rw [hf], by rw [hf]⟩
  · have hlt : zs.findIdx (hitI l) < zs.length := by
      unfold idxI at hm1
      split at hm1 <;> first | assumption | exact absurd rfl hm1
    generalize hi0 : zs.findIdx (hitI l) = i0 at hlt
    have hidx : idxI l zs = (i0 : Int) := by unfold idxI; rw [hi0, if_pos hlt]
    have htk : fltI l (zs.take (i0 + 1)) = zs.take i0 := by
      have hx : zs[i0]? = some zs[i0] := List.getElem?_eq_getElem hlt
      have hh := List.findIdx_getElem (xs := zs) (p := hitI l) (w := by omega)
      simp only [hi0] at hh
      rw [List.take_add_one, hx, Option.toList_some]
      unfold fltI
      rw [List.filter_append, List.filter_eq_self.2 fun a ha => ?_]
      · simp [hh]
      · obtain ⟨x, hx⟩ := List.mem_iff_getElem?.1 ha
        rw [List.getElem?_take] at hx
        split at hx
        · rename_i hxi
          have := List.not_of_lt_findIdx (p := hitI l) (xs := zs) (i := x) (by omega)
          rw [(List.getElem?_eq_some_iff.1 hx).2] at this
          simpa using this
        · cases hx
    rw [hidx]
    refine loopK [11] [0, 1, 5, 6] (fun s : Nat × Nat × List Int => [(5, dI s.1), (6, dI s.2.1)]) (fun s => ⟨B, (m.n, .arr 1 (s.2.2.map dI)) :: A⟩) (fun s => s.1 < s.2.1 ∧ s.2.1 ≤ zs.length ∧ s.2.2.length = zs.length ∧ s.2.2.take s.1 = fltI l (zs.take s.2.1) ∧ ∀ x, s.2.1 ≤ x → s.2.2[x]? = zs[x]?) (fun s => zs.length - s.2.1) (i0, i0 + 1, zs) mx (by kernel_rfl) ?_ ?_
    · simp (maxDischargeDepth := 12) (maxSteps := 1000000) -implicitDefEqProofs only [go_sem, Nat.reduceAdd, Nat.reduceSub, Nat.reduceMul, Nat.reduceLeDiff, Nat.reduceEqDiff, Nat.reduceGT, Nat.reduceBEq, reduceCtorEq, ↓reduceIte, Int.reduceToNat, Int.reduceLE, Int.reduceLT, Int.reduceNe, Int.reduceEq]
      exact ⟨⟨by omega, htk.symm⟩, by rw [w64 (by omega) (by omega)]; omega⟩
    · rintro ⟨i, j, xs⟩ ⟨k1, k2, k3, k4, k5⟩
      simp only at k1 k2 k3 k4 k5
      rw [← k3]
      simp (maxDischargeDepth := 12) (maxSteps := 1000000) -implicitDefEqProofs only [go_sem, Nat.reduceAdd, Nat.reduceSub, Nat.reduceMul, Nat.reduceLeDiff, Nat.reduceEqDiff, Nat.reduceGT, Nat.reduceBEq, reduceCtorEq, ↓reduceIte, Int.reduceToNat, Int.reduceLE, Int.reduceLT, Int.reduceNe, Int.reduceEq]
      refine ⟨fun hj => ⟨hj, hj, fun a ha => use1 (lostEndW w0 b l a _ (by simp (maxDischargeDepth := 12) (maxSteps := 1000000) -implicitDefEqProofs only [go_sem, Nat.reduceAdd, Nat.reduceSub, Nat.reduceMul, Nat.reduceLeDiff, Nat.reduceEqDiff, Nat.reduceGT, Nat.reduceBEq, reduceCtorEq, ↓reduceIte, Int.reduceToNat, Int.reduceLE, Int.reduceLT, Int.reduceNe, Int.reduceEq, hb]) hl h0) ?_⟩, fun hj => ?_⟩
      · have hzj : zs[j]? = some a := by rw [← k5 j (Nat.le_refl _)]; exact ha
        have hfj : fltI l (zs.take (j + 1)) = fltI l (zs.take j) ++ (if a ∈ l then [] else [a]) := by
          rw [List.take_add_one, hzj, Option.toList_some]
          unfold fltI
          rw [List.filter_append]
          congr 1
          by_cases h : a ∈ l <;> simp [hitI, h]
        have hset : (xs.map dI).set i (.v (.int .i64 a)) = (xs.set i a).map dI := (List.map_set (f := dI)).symm
        simp (maxDischargeDepth := 12) (maxSteps := 1000000) -implicitDefEqProofs only [go_sem, Nat.reduceAdd, Nat.reduceSub, Nat.reduceMul, Nat.reduceLeDiff, Nat.reduceEqDiff, Nat.reduceGT, Nat.reduceBEq, reduceCtorEq, ↓reduceIte, Int.reduceToNat, Int.reduceLE, Int.reduceLT, Int.reduceNe, Int.reduceEq, hb, hset]
        have hj' : IntKind.i64.wrap ((j : Int) + 1) = ((j + 1 : Nat) : Int) := by rw [w64 (by omega) (by omega)]; omega
        have hi' : IntKind.i64.wrap ((i : Int) + 1) = ((i + 1 : Nat) : Int) := by rw [w64 (by omega) (by omega)]; omega
        refine ⟨fun hni => ⟨by omega, by omega, fun _ _ => ⟨(i + 1, j + 1, xs.set i a), ⟨by simp only; omega, by simp only; omega, by simp, ?_, fun x hx => ?_⟩, by simp only; omega, ⟨hi', hj'⟩, .refl _⟩⟩, fun hin => ⟨(i, j + 1, xs), ⟨by simp only; omega, by simp only; omega, rfl, ?_, fun x hx => k5 x (by simp only at hx; omega)⟩, by simp only; omega, ⟨rfl, hj'⟩, .refl _⟩⟩
        · simp only
          rw [hfj, if_neg hni, ← k4, List.take_add_one, List.getElem?_set_self (by omega), List.take_set_of_le (Nat.le_refl _)]; rfl
        · simp only at hx ⊢
          rw [List.getElem?_set_ne (by omega)]
          exact k5 x (by omega)
        · simp only
          rw [hfj, if_pos (Decidable.not_not.1 hin), List.append_nil, k4]
      · have hjn : j = xs.length := by omega
        have hfin : xs.take i = fltI l zs := by rw [k4, hjn, k3, List.take_length]
        have hfl : (fltI l zs).length = i := by rw [← hfin, List.length_take]; omega
        refine clearR (l := m.n) (k := i) (xs := xs.map dI) ty.k59 ty.z3 (by simp) rfl (by simp (maxDischargeDepth := 12) (maxSteps := 1000000) -implicitDefEqProofs only [go_sem, Nat.reduceAdd, Nat.reduceSub, Nat.reduceMul, Nat.reduceLeDiff, Nat.reduceEqDiff, Nat.reduceGT, Nat.reduceBEq, reduceCtorEq, ↓reduceIte, Int.reduceToNat, Int.reduceLE, Int.reduceLT, Int.reduceNe, Int.reduceEq]) (by rw [List.length_map]; omega) rfl (by simp) (by simp) (by simp) fun v u => ?_
        simp (maxDischargeDepth := 12) (maxSteps := 1000000) -implicitDefEqProofs only [go_sem, Nat.reduceAdd, Nat.reduceSub, Nat.reduceMul, Nat.reduceLeDiff, Nat.reduceEqDiff, Nat.reduceGT, Nat.reduceBEq, reduceCtorEq, ↓reduceIte, Int.reduceToNat, Int.reduceLE, Int.reduceLT, Int.reduceNe, Int.reduceEq, hb, List.length_map]
        have hT : ((xs.take i).map dI ++ List.replicate (xs.length - i) (DV.v (.int .i64 0))).take i = (fltI l zs).map dI := by
          rw [List.take_append_of_le_length (by rw [List.length_map, List.length_take]; omega), List.take_of_length_le (by rw [List.length_map, List.length_take]; omega), hfin]
        refine .inl ⟨.inr (by omega), ⟨_, _, _, rfl⟩, by rw [List.length_replicate]; omega, fun m' => ⟨⟨m'.n, m'.h.2.2⟩, by rw [hfl], ?_⟩⟩
        rw [hT]
theorem srt_Up (l : List Int) : Up (srt l) := by
  have hp : (srt l).Pairwise (fun x y => decide (x ≤ y) = true) := List.pairwise_mergeSort (by intro a b c; simp; omega) (by intro a b; simp; omega) l
  intro i j a b hij ha hb
  obtain ⟨hi, rfl⟩ := List.getElem?_eq_some_iff.1 ha
  obtain ⟨hj, rfl⟩ := List.getElem?_eq_some_iff.1 hb
  rcases Nat.lt_or_ge i j with h | h
  · have := List.pairwise_iff_getElem.1 hp i j hi hj h
    simpa using this
  · have : i = j := by omega
    subst this; exact Int.le_refl _
/-- A tree's pages. -/
def pgsT (n : N) : List Int := srt (pgS (visN noB n))
set_option maxHeartbeats 8000000 in
theorem lostP (w0 : W0) (a b : N) (S : St) (hVa : (visN noB a).length ≤ 1048576) (hFa : (pgS (visN noB a)).length ≤ 1073741824) (hla : ∀ x, x ∈ visN noB a → x.l.length ≤ 1048576)
    (hVb : (visN noB b).length ≤ 1048576) (hFb : (pgS (visN noB b)).length ≤ 1073741824) (hlb : ∀ x, x ∈ visN noB b → x.l.length ≤ 1048576) : ACall Try.prog w0 35 [eT a, eT b] S (fun d S' => d = dL (fltI (pgsT b) (pgsT a)) ∧ S' = S) := by
  refine fnS [2] mx Try.func35 rfl rfl (by kernel_rfl) ?_; simp (maxDischargeDepth := 12) (maxSteps := 1000000) -implicitDefEqProofs only [Try.ntmps35, go_sem, Nat.reduceAdd, Nat.reduceSub, Nat.reduceMul, Nat.reduceLeDiff, Nat.reduceEqDiff, Nat.reduceGT, Nat.reduceBEq, reduceCtorEq, ↓reduceIte, Int.reduceToNat, Int.reduceLE, Int.reduceLT, Int.reduceNe, Int.reduceEq]
  intro b1 b2
  refine useK (pagesP w0 b _ hVb hFb hlb) ?_
  rintro d S' ⟨m, rfl, rfl⟩
  simp (maxDischargeDepth := 12) (maxSteps := 1000000) -implicitDefEqProofs only [go_sem, Nat.reduceAdd, Nat.reduceSub, Nat.reduceMul, Nat.reduceLeDiff, Nat.reduceEqDiff, Nat.reduceGT, Nat.reduceBEq, reduceCtorEq, ↓reduceIte, Int.reduceToNat, Int.reduceLE, Int.reduceLT, Int.reduceNe, Int.reduceEq]
  intro b3
  refine shrB b3.n 0 (l := m.n) (s := 1) (xs := (srt (pgS (visN noB b))).map dI) (ds := [.acc m.n (pgS (visN noB b)).length]) (by simp (maxDischargeDepth := 12) (maxSteps := 1000000) -implicitDefEqProofs only [go_sem, Nat.reduceAdd, Nat.reduceSub, Nat.reduceMul, Nat.reduceLeDiff, Nat.reduceEqDiff, Nat.reduceGT, Nat.reduceBEq, reduceCtorEq, ↓reduceIte, Int.reduceToNat, Int.reduceLE, Int.reduceLT, Int.reduceNe, Int.reduceEq]) (by simp [srt_length]) (by simp (maxDischargeDepth := 12) (maxSteps := 1000000) -implicitDefEqProofs only [go_sem, Nat.reduceAdd, Nat.reduceSub, Nat.reduceMul, Nat.reduceLeDiff, Nat.reduceEqDiff, Nat.reduceGT, Nat.reduceBEq, reduceCtorEq, ↓reduceIte, Int.reduceToNat, Int.reduceLE, Int.reduceLT, Int.reduceNe, Int.reduceEq]) ?_
  simp (maxDischargeDepth := 12) (maxSteps := 1000000) -implicitDefEqProofs only [go_sem, Nat.reduceAdd, Nat.reduceSub, Nat.reduceMul, Nat.reduceLeDiff, Nat.reduceEqDiff, Nat.reduceGT, Nat.reduceBEq, reduceCtorEq, ↓reduceIte, Int.reduceToNat, Int.reduceLE, Int.reduceLT, Int.reduceNe, Int.reduceEq]
  refine shrK [] [] mx (by kernel_rfl) ?_
  simp (maxDischargeDepth := 12) (maxSteps := 1000000) -implicitDefEqProofs only [go_sem, Nat.reduceAdd, Nat.reduceSub, Nat.reduceMul, Nat.reduceLeDiff, Nat.reduceEqDiff, Nat.reduceGT, Nat.reduceBEq, reduceCtorEq, ↓reduceIte, Int.reduceToNat, Int.reduceLE, Int.reduceLT, Int.reduceNe, Int.reduceEq]
  refine useK (pagesP w0 a _ hVa hFa hla) ?_
  rintro d S' ⟨m2, rfl, rfl⟩
  simp (maxDischargeDepth := 12) (maxSteps := 1000000) -implicitDefEqProofs only [go_sem, Nat.reduceAdd, Nat.reduceSub, Nat.reduceMul, Nat.reduceLeDiff, Nat.reduceEqDiff, Nat.reduceGT, Nat.reduceBEq, reduceCtorEq, ↓reduceIte, Int.reduceToNat, Int.reduceLE, Int.reduceLT, Int.reduceNe, Int.reduceEq]
  rw [← srt_length (pgS (visN noB a))]
  refine .inl (useK (deleteW w0 b3.n (pgsT b) (pgsT a) _ _ m2 (by simp (maxDischargeDepth := 12) (maxSteps := 1000000) -implicitDefEqProofs only [go_sem, Nat.reduceAdd, Nat.reduceSub, Nat.reduceMul, Nat.reduceLeDiff, Nat.reduceEqDiff, Nat.reduceGT, Nat.reduceBEq, reduceCtorEq, ↓reduceIte, Int.reduceToNat, Int.reduceLE, Int.reduceLT, Int.reduceNe, Int.reduceEq]; rfl) (srt_Up _) (by unfold pgsT; rw [srt_length]; exact hFb) (by unfold pgsT; rw [srt_length]; exact hFa)) ?_)
  rintro d S' ⟨m3, rfl, rfl⟩
  simp (maxDischargeDepth := 12) (maxSteps := 1000000) -implicitDefEqProofs only [go_sem, Nat.reduceAdd, Nat.reduceSub, Nat.reduceMul, Nat.reduceLeDiff, Nat.reduceEqDiff, Nat.reduceGT, Nat.reduceBEq, reduceCtorEq, ↓reduceIte, Int.reduceToNat, Int.reduceLE, Int.reduceLT, Int.reduceNe, Int.reduceEq]
end Go.Proofs.Ytkibkahknibgfaa

namespace Go.Proofs.Ytkibkahknibgfaa
open Aml Go
set_option linter.unusedVariables false
set_option linter.unusedSimpArgs false
set_option maxRecDepth 100000

theorem kidsOf_leaf {n : N} (h : n.leaf = true) : kidsOf n = [] := by unfold kidsOf; rw [h]; rfl
theorem kidsOf_br {n : N} (h : n.leaf = false) : kidsOf n = n.l.flatMap fun c => c.kid.take 1 := by unfold kidsOf; rw [h]; rfl
set_option maxHeartbeats 8000000 in
theorem nodeW (w0 : W0) : ∀ (d : Nat) (n : N) (S : St), Nd d n → totN n ≤ 131072 → ACall Try.prog w0 29 [eN n] S (fun e S' => e = eT n ∧ S' = S) := by
  intro d
  induction d with
  | zero =>
    intro n S hn ht
    have hlf := hn.1
    have hl := tot_len n
    have hres : eT n = .agg [dI n.page, dB true, .sl 1 false (n.l.map fun c => dS c.key), .sl 2 false (n.l.map dV2), .sl 5 false []] := by
      show DV.agg _ = _
      rw [kidsOf_leaf hlf, hlf]; rfl
    rw [hres]
    refine fnS [] mx Try.func29 rfl rfl (by kernel_rfl) ?_; simp (maxDischargeDepth := 12) (maxSteps := 1000000) -implicitDefEqProofs only [Try.ntmps29, go_sem, Nat.reduceAdd, Nat.reduceSub, Nat.reduceMul, Nat.reduceLeDiff, Nat.reduceEqDiff, Nat.reduceGT, Nat.reduceBEq, reduceCtorEq, ↓reduceIte, Int.reduceToNat, Int.reduceLE, Int.reduceLT, Int.reduceNe, Int.reduceEq,  hlf]
    intro b b1 b2
    refine awp_growB b2.n 2 1 (by omega) (q_lk_same _ _ _) rfl fun lk1 => ?_
    simp (maxDischargeDepth := 12) (maxSteps := 1000000) -implicitDefEqProofs only [go_sem, Nat.reduceAdd, Nat.reduceSub, Nat.reduceMul, Nat.reduceLeDiff, Nat.reduceEqDiff, Nat.reduceGT, Nat.reduceBEq, reduceCtorEq, ↓reduceIte, Int.reduceToNat, Int.reduceLE, Int.reduceLT, Int.reduceNe, Int.reduceEq]
    refine awp_growB b2.n 3 2 (by omega) (q_lk_same _ _ _) rfl fun lv => ?_
    simp (maxDischargeDepth := 12) (maxSteps := 1000000) -implicitDefEqProofs only [go_sem, Nat.reduceAdd, Nat.reduceSub, Nat.reduceMul, Nat.reduceLeDiff, Nat.reduceEqDiff, Nat.reduceGT, Nat.reduceBEq, reduceCtorEq, ↓reduceIte, Int.reduceToNat, Int.reduceLE, Int.reduceLT, Int.reduceNe, Int.reduceEq]
    refine loopN [] n.l.length [1, 2, 3, 4] (fun k => [(4, dI k)]) (fun k => ⟨(b2.n, [dI n.page, dB true, .acc lk1.n k, .acc lv.n k, .sl 0 true []]) :: (b1.n, [dI 0, dB false, .sl 0 true [], .sl 0 true [], .sl 0 true []]) :: (b.n, [dI n.page, dB true, .sl 4 false (n.l.map dC)]) :: S.box, (lv.n, .arr 2 ((n.l.take k).map dV2)) :: (lk1.n, .arr 1 ((n.l.take k).map fun c => dS c.key)) :: S.acc⟩) (fun _ => True) mx (by kernel_rfl) ?_ ?_
    · simp (maxDischargeDepth := 12) (maxSteps := 1000000) -implicitDefEqProofs only [go_sem, Nat.reduceAdd, Nat.reduceSub, Nat.reduceMul, Nat.reduceLeDiff, Nat.reduceEqDiff, Nat.reduceGT, Nat.reduceBEq, reduceCtorEq, ↓reduceIte, Int.reduceToNat, Int.reduceLE, Int.reduceLT, Int.reduceNe, Int.reduceEq]
    · intro k hk' _
      have hml : (n.l.take k).length = k := by rw [List.length_take]; omega
      have hm8 : maxLen = 9223372036854775807 := rfl
      simp (maxDischargeDepth := 12) (maxSteps := 1000000) -implicitDefEqProofs only [go_sem, Nat.reduceAdd, Nat.reduceSub, Nat.reduceMul, Nat.reduceLeDiff, Nat.reduceEqDiff, Nat.reduceGT, Nat.reduceBEq, reduceCtorEq, ↓reduceIte, Int.reduceToNat, Int.reduceLE, Int.reduceLT, Int.reduceNe, Int.reduceEq, hml]
      refine ⟨fun hlt => ⟨hlt, fun c hc => ⟨by omega, by omega, hlt, fun c2 hc2 => ⟨hlt, fun c3 hc3 => ⟨by omega, by omega, hlt, by rw [w64 (by omega) (by omega)]; omega, ?_⟩⟩⟩⟩, fun hge => ?_⟩
      · rw [hc] at hc2 hc3
        cases hc2; cases hc3
        have ht1 : n.l.take (k + 1) = n.l.take k ++ [c] := by rw [List.take_add_one, hc]; rfl
        rw [ht1]
        simp (maxDischargeDepth := 12) (maxSteps := 1000000) -implicitDefEqProofs only [go_sem, Nat.reduceAdd, Nat.reduceSub, Nat.reduceMul, Nat.reduceLeDiff, Nat.reduceEqDiff, Nat.reduceGT, Nat.reduceBEq, reduceCtorEq, ↓reduceIte, Int.reduceToNat, Int.reduceLE, Int.reduceLT, Int.reduceNe, Int.reduceEq, List.map_append, List.map_cons, List.map_nil]
      · rw [List.take_of_length_le (by omega)]
        exact .agg (.cons (.refl _) (.cons (.refl _) (.cons (.refl _) (.cons (.refl _) (.cons (.nil _ _ _) .nil)))))
  | succ d ih =>
    intro n S hn ht
    have hlf := hn.1
    have hl := tot_len n
    have hres : eT n = .agg [dI n.page, dB false, .sl 1 false (n.l.map fun c => dS c.key), .sl 2 false [], .sl 5 false ((n.l.flatMap fun c => c.kid.take 1).map dT)] := by
      show DV.agg _ = _
      rw [kidsOf_br hlf, hlf]; rfl
    rw [hres]
    refine fnS [] mx Try.func29 rfl rfl (by kernel_rfl) ?_; simp (maxDischargeDepth := 12) (maxSteps := 1000000) -implicitDefEqProofs only [Try.ntmps29, go_sem, Nat.reduceAdd, Nat.reduceSub, Nat.reduceMul, Nat.reduceLeDiff, Nat.reduceEqDiff, Nat.reduceGT, Nat.reduceBEq, reduceCtorEq, ↓reduceIte, Int.reduceToNat, Int.reduceLE, Int.reduceLT, Int.reduceNe, Int.reduceEq,  hlf]
    intro b b1 b2
    refine awp_growB b2.n 2 1 (by omega) (q_lk_same _ _ _) rfl fun lk1 => ?_
    simp (maxDischargeDepth := 12) (maxSteps := 1000000) -implicitDefEqProofs only [go_sem, Nat.reduceAdd, Nat.reduceSub, Nat.reduceMul, Nat.reduceLeDiff, Nat.reduceEqDiff, Nat.reduceGT, Nat.reduceBEq, reduceCtorEq, ↓reduceIte, Int.reduceToNat, Int.reduceLE, Int.reduceLT, Int.reduceNe, Int.reduceEq]
    refine awp_growB b2.n 4 5 (by omega) (q_lk_same _ _ _) rfl fun lv => ?_
    simp (maxDischargeDepth := 12) (maxSteps := 1000000) -implicitDefEqProofs only [go_sem, Nat.reduceAdd, Nat.reduceSub, Nat.reduceMul, Nat.reduceLeDiff, Nat.reduceEqDiff, Nat.reduceGT, Nat.reduceBEq, reduceCtorEq, ↓reduceIte, Int.reduceToNat, Int.reduceLE, Int.reduceLT, Int.reduceNe, Int.reduceEq]
    refine loopN [] n.l.length [1, 2, 3, 4] (fun k => [(4, dI k)]) (fun k => ⟨(b2.n, [dI n.page, dB false, .acc lk1.n k, .sl 0 true [], .acc lv.n k]) :: (b1.n, [dI 0, dB false, .sl 0 true [], .sl 0 true [], .sl 0 true []]) :: (b.n, [dI n.page, dB false, .sl 4 false (n.l.map dC)]) :: S.box, (lv.n, .arr 5 (((n.l.take k).flatMap fun c => c.kid.take 1).map dT)) :: (lk1.n, .arr 1 ((n.l.take k).map fun c => dS c.key)) :: S.acc⟩) (fun _ => True) mx (by kernel_rfl) ?_ ?_
    · simp (maxDischargeDepth := 12) (maxSteps := 1000000) -implicitDefEqProofs only [go_sem, Nat.reduceAdd, Nat.reduceSub, Nat.reduceMul, Nat.reduceLeDiff, Nat.reduceEqDiff, Nat.reduceGT, Nat.reduceBEq, reduceCtorEq, ↓reduceIte, Int.reduceToNat, Int.reduceLE, Int.reduceLT, Int.reduceNe, Int.reduceEq]
      exact .refl _
    · intro k hk' _
      have hml : (n.l.take k).length = k := by rw [List.length_take]; omega
      have hkl : ((n.l.take k).flatMap fun c => c.kid.take 1).length = k := by
        have : ∀ l : List C, (∀ c, c ∈ l → ∃ k, c.kid = [k]) → (l.flatMap fun c => c.kid.take 1).length = l.length := by
          intro l
          induction l with
          | nil => intro _; rfl
          | cons c l ih2 =>
            intro h
            obtain ⟨k, hk⟩ := h c List.mem_cons_self
            rw [List.flatMap_cons, List.length_append, ih2 fun c hc => h c (List.mem_cons_of_mem _ hc), hk]
            simp; omega
        rw [this _ fun c hc => by obtain ⟨_, kid, hkid, _⟩ := hn.2.2 c (List.mem_of_mem_take hc); exact ⟨kid, hkid⟩, hml]
      have hm8 : maxLen = 9223372036854775807 := rfl
      simp (maxDischargeDepth := 12) (maxSteps := 1000000) -implicitDefEqProofs only [go_sem, Nat.reduceAdd, Nat.reduceSub, Nat.reduceMul, Nat.reduceLeDiff, Nat.reduceEqDiff, Nat.reduceGT, Nat.reduceBEq, reduceCtorEq, ↓reduceIte, Int.reduceToNat, Int.reduceLE, Int.reduceLT, Int.reduceNe, Int.reduceEq, hml, hkl]
      refine ⟨fun hlt => ⟨hlt, fun c hc => ⟨by omega, by omega, hlt, fun c2 hc2 => ?_⟩⟩, fun hge => ?_⟩
      · rw [hc] at hc2
        cases hc2
        obtain ⟨_, kid, hkid, hnd⟩ := hn.2.2 c (List.mem_of_getElem? hc)
        have htk := tot_kid (List.mem_of_getElem? hc) hkid
        have ht1 : n.l.take (k + 1) = n.l.take k ++ [c] := by rw [List.take_add_one, hc]; rfl
        rw [hkid]
        refine ⟨by simp, fun c4 hc4 => ?_⟩
        cases hc4
        refine useQ (ih kid _ hnd (by omega)) ?_
        simp (maxDischargeDepth := 12) (maxSteps := 1000000) -implicitDefEqProofs only [go_sem, Nat.reduceAdd, Nat.reduceSub, Nat.reduceMul, Nat.reduceLeDiff, Nat.reduceEqDiff, Nat.reduceGT, Nat.reduceBEq, reduceCtorEq, ↓reduceIte, Int.reduceToNat, Int.reduceLE, Int.reduceLT, Int.reduceNe, Int.reduceEq, hkl, Nat.min_eq_left hk']
        refine ⟨by omega, by omega, hlt, by rw [w64 (by omega) (by omega)]; omega, ?_⟩
        rw [ht1, List.flatMap_append, List.flatMap_cons, List.flatMap_nil, hkid]
        simp (maxDischargeDepth := 12) (maxSteps := 1000000) -implicitDefEqProofs only [go_sem, Nat.reduceAdd, Nat.reduceSub, Nat.reduceMul, Nat.reduceLeDiff, Nat.reduceEqDiff, Nat.reduceGT, Nat.reduceBEq, reduceCtorEq, ↓reduceIte, Int.reduceToNat, Int.reduceLE, Int.reduceLT, Int.reduceNe, Int.reduceEq, List.map_append, List.map_cons, List.map_nil, List.append_nil, List.take_succ_cons, List.take_zero]
      · rw [List.take_of_length_le (by omega)]
        exact .agg (.cons (.refl _) (.cons (.refl _) (.cons (.refl _) (.cons (.nil _ _ _) (.cons (.refl _) .nil)))))
theorem mk_short {z : Nat} (h : z ≤ 400) (f : Int) : (pagesR f (longN z)).length ≤ 4 := by rw [pagesR_len]; exact longN_le h
theorem markCs_mem (b : Bool) : ∀ {l : List C} {f : Int} {x : C}, x ∈ (markCs b l f).1 → ∃ c f', c ∈ l ∧ x = (markC b c f').1
  | c :: l, f, x, h => by
    simp only [markCs] at h
    rcases List.mem_cons.1 h with e | h
    · exact ⟨c, f, List.mem_cons_self, e⟩
    · obtain ⟨c', f', h1, h2⟩ := markCs_mem b h
      exact ⟨c', f', List.mem_cons_of_mem _ h1, h2⟩
theorem markN_l (n : N) (f : Int) : (markN n f).1.l = (markCs n.leaf n.l f).1 := by rw [markN_eq]; split <;> rfl
theorem markN_leaf (n : N) (f : Int) : (markN n f).1.leaf = n.leaf := by rw [markN_eq]; split <;> rfl
theorem nd_mark : ∀ {d : Nat} {n : N} (f : Int), Nd d n → Nd d (markN n f).1
  | 0, n, f, h => by
    refine ⟨by rw [markN_leaf]; exact h.1, fun x hx => ?_⟩
    rw [markN_l, h.1] at hx
    obtain ⟨c, f', hc, rfl⟩ := markCs_mem true hx
    obtain ⟨h1, h2⟩ := h.2 c hc
    rw [markC_leaf]
    refine ⟨⟨h1.1, h1.2.1, ?_⟩, h2⟩
    show (if 16 < c.data.size then pagesR f' (longN c.data.size) else c.pages).length ≤ 4
    split
    · exact mk_short h1.2.1 _
    · exact h1.2.2
  | d + 1, n, f, h => by
    refine ⟨by rw [markN_leaf]; exact h.1, ?_, fun x hx => ?_⟩
    · rw [markN_l]
      intro e
      have := markCs_len n.leaf n.l f
      rw [e] at this
      exact h.2.1 (List.eq_nil_of_length_eq_zero this.symm)
    · rw [markN_l, h.1] at hx
      obtain ⟨c, f', hc, rfl⟩ := markCs_mem false hx
      obtain ⟨h1, k, hk, hnd⟩ := h.2.2 c hc
      rw [markC_br hk]
      exact ⟨⟨h1.1, h1.2.1, h1.2.2⟩, _, rfl, nd_mark f' hnd⟩
theorem tot_mark : ∀ {d : Nat} {n : N} (f : Int), Nd d n → totN (markN n f).1 = totN n := by
  have cs : ∀ (b : Bool) (l : List C) (f : Int), (∀ c, c ∈ l → ∀ f, totC (markC b c f).1 = totC c) → tot (markCs b l f).1 = tot l := by
    intro b l
    induction l with
    | nil => intro f _; rfl
    | cons c l ih =>
      intro f h
      simp only [markCs, tot_cons]
      rw [h c List.mem_cons_self, ih _ fun c hc => h c (List.mem_cons_of_mem _ hc)]
  intro d
  induction d with
  | zero =>
    intro n f h
    rw [totN_tot, totN_tot, markN_l, h.1]
    refine cs true n.l f fun c hc f => ?_
    rw [markC_leaf, totC_eq, totC_eq]; rfl
  | succ d ih =>
    intro n f h
    rw [totN_tot, totN_tot, markN_l, h.1]
    refine cs false n.l f fun c hc f => ?_
    obtain ⟨_, k, hk, hnd⟩ := h.2.2 c hc
    rw [markC_br hk, totC_kid hk, totC_kid (k := (markN k f).1) rfl, ih f hnd]
end Go.Proofs.Ytkibkahknibgfaa

namespace Go.Proofs.Ytkibkahknibgfaa
open Aml Go
set_option linter.unusedVariables false
set_option linter.unusedSimpArgs false
set_option maxRecDepth 100000

set_option maxHeartbeats 1000000 in
theorem grow0 (w0 : W0) (n : Int) (S : St) (h0 : 0 ≤ n) (h1 : n ≤ 1099511627776) : ACall Try.prog w0 118 [.sl 0 true [], dI n] S (fun d S' => ∃ l : FN S.acc, d = .acc l.n 0 ∧ S' = ⟨S.box, (l.n, .arr 1 []) :: S.acc⟩) := by
  refine acall_nil (K' := fun d S' => (d = .sl 0 true [] ∧ S' = S) ∨ ∃ l : FN S.acc, d = .acc l.n 0 ∧ S' = ⟨S.box, (l.n, .arr 1 []) :: S.acc⟩) ?_ 1 (by omega) ?_
  · refine fnO [] mx Try.func118 rfl rfl (by kernel_rfl) ?_; simp (maxDischargeDepth := 12) (maxSteps := 1000000) -implicitDefEqProofs only [Try.ntmps118, go_sem, Nat.reduceAdd, Nat.reduceSub, Nat.reduceMul, Nat.reduceLeDiff, Nat.reduceEqDiff, Nat.reduceGT, Nat.reduceBEq, reduceCtorEq, ↓reduceIte, Int.reduceToNat, Int.reduceLE, Int.reduceLT, Int.reduceNe, Int.reduceEq]
    have e1 : IntKind.i64.wrap (0 - 0) = 0 := w64 (by omega) (by omega)
    rw [e1, Int.sub_zero, w64 (by omega) (by omega)]
    refine ⟨fun h => by omega, fun h h2 => ⟨by omega, by omega, by omega, fun l => .inl ⟨⟨_, _, _, rfl⟩, by simp, fun l' => ⟨⟨l'.n, l'.h.2.2⟩, rfl, rfl⟩⟩⟩⟩
  · rintro d S' (⟨rfl, rfl⟩ | h)
    · exact .inr ⟨⟨0, rfl⟩, fun l hl => ⟨⟨l, hl⟩, rfl, rfl⟩⟩
    · exact .inl h

def flat (rows : List (List Int)) : List Int := rows.flatten
theorem flat_succ {rows : List (List Int)} {k : Nat} {a : List Int} (h : rows[k]? = some a) : flat (rows.take (k + 1)) = flat (rows.take k) ++ a := by
  unfold flat
  rw [List.take_add_one, h]
  simp
theorem flat_le (rows : List (List Int)) (k : Nat) : (flat (rows.take k)).length ≤ (flat rows).length := by
  have : flat rows = flat (rows.take k) ++ flat (rows.drop k) := by
    unfold flat
    rw [← List.flatten_append, List.take_append_drop]
  rw [this]; simp

set_option maxHeartbeats 1000000 in
theorem concat (w0 : W0) (rows : List (List Int)) (S : St) (h0 : rows.length ≤ 1099511627776) (h1 : (flat rows).length ≤ 1099511627776) :
    ACall Try.prog w0 99 [.sl 1 false (rows.map dL)] S (fun d S' => ∃ l : FN S.acc, d = .acc l.n (flat rows).length ∧ S' = ⟨S.box, (l.n, .arr 1 ((flat rows).map dI)) :: S.acc⟩) := by
  refine fnO [] mx Try.func99 rfl rfl (by kernel_rfl) ?_; simp (maxDischargeDepth := 12) (maxSteps := 1000000) -implicitDefEqProofs only [Try.ntmps99, go_sem, Nat.reduceAdd, Nat.reduceSub, Nat.reduceMul, Nat.reduceLeDiff, Nat.reduceEqDiff, Nat.reduceGT, Nat.reduceBEq, reduceCtorEq, ↓reduceIte, Int.reduceToNat, Int.reduceLE, Int.reduceLT, Int.reduceNe, Int.reduceEq]
  refine loopN [] rows.length [0, 3, 9, 10, 11] (fun k => [(3, dI (flat (rows.take k)).length), (11, dI k)]) (fun _ => S) (fun k => True) mx (by kernel_rfl) ?_ ?_
  · simp (maxDischargeDepth := 12) (maxSteps := 1000000) -implicitDefEqProofs only [go_sem, Nat.reduceAdd, Nat.reduceSub, Nat.reduceMul, Nat.reduceLeDiff, Nat.reduceEqDiff, Nat.reduceGT, Nat.reduceBEq, reduceCtorEq, ↓reduceIte, Int.reduceToNat, Int.reduceLE, Int.reduceLT, Int.reduceNe, Int.reduceEq]
    simp [flat]
  · intro k hk _
    simp (maxDischargeDepth := 12) (maxSteps := 1000000) -implicitDefEqProofs only [go_sem, Nat.reduceAdd, Nat.reduceSub, Nat.reduceMul, Nat.reduceLeDiff, Nat.reduceEqDiff, Nat.reduceGT, Nat.reduceBEq, reduceCtorEq, ↓reduceIte, Int.reduceToNat, Int.reduceLE, Int.reduceLT, Int.reduceNe, Int.reduceEq]
    refine ⟨fun hlt => ⟨hlt, fun a ha => ?_⟩, fun hge => ?_⟩
    · have h2 := flat_succ ha
      have h3 := flat_le rows (k + 1)
      rw [h2, List.length_append] at h3
      rw [w64 (by omega) (by omega)]
      refine ⟨fun h => by omega, fun h => ⟨hlt, ?_, w64 (by omega) (by omega)⟩⟩
      rw [h2, List.length_append]; omega
    · rw [List.take_of_length_le (by omega)]
      refine useK (grow0 w0 (flat rows).length S (by omega) (by omega)) ?_
      rintro d S' ⟨l, rfl, rfl⟩
      simp (maxDischargeDepth := 12) (maxSteps := 1000000) -implicitDefEqProofs only [go_sem, Nat.reduceAdd, Nat.reduceSub, Nat.reduceMul, Nat.reduceLeDiff, Nat.reduceEqDiff, Nat.reduceGT, Nat.reduceBEq, reduceCtorEq, ↓reduceIte, Int.reduceToNat, Int.reduceLE, Int.reduceLT, Int.reduceNe, Int.reduceEq]
      refine loopN [] rows.length [6, 25, 26, 27] (fun k => [(6, .acc l.n (flat (rows.take k)).length), (27, dI k)]) (fun k => ⟨S.box, (l.n, .arr 1 ((flat (rows.take k)).map dI)) :: S.acc⟩) (fun k => True) mx (by kernel_rfl) ?_ ?_
      · simp (maxDischargeDepth := 12) (maxSteps := 1000000) -implicitDefEqProofs only [go_sem, Nat.reduceAdd, Nat.reduceSub, Nat.reduceMul, Nat.reduceLeDiff, Nat.reduceEqDiff, Nat.reduceGT, Nat.reduceBEq, reduceCtorEq, ↓reduceIte, Int.reduceToNat, Int.reduceLE, Int.reduceLT, Int.reduceNe, Int.reduceEq]
        simp [flat, Wk.refl, Sub.refl]
      · intro k hk _
        simp (maxDischargeDepth := 12) (maxSteps := 1000000) -implicitDefEqProofs only [go_sem, Nat.reduceAdd, Nat.reduceSub, Nat.reduceMul, Nat.reduceLeDiff, Nat.reduceEqDiff, Nat.reduceGT, Nat.reduceBEq, reduceCtorEq, ↓reduceIte, Int.reduceToNat, Int.reduceLE, Int.reduceLT, Int.reduceNe, Int.reduceEq]
        refine ⟨fun hlt => ⟨hlt, fun a ha => ?_⟩, fun hge => ⟨l, ?_⟩⟩
        · have h2 := flat_succ ha
          have h3 := flat_le rows (k + 1)
          rw [h2, List.length_append] at h3
          refine ⟨by omega, by unfold maxLen; omega, hlt, ⟨?_, w64 (by omega) (by omega)⟩, ?_⟩
          · rw [h2, List.length_append]; exact .refl _
          · rw [h2]; exact .refl _
        · rw [List.take_of_length_le (by omega)]; exact ⟨rfl, rfl⟩

set_option maxHeartbeats 1000000 in
theorem together (w0 : W0) (rows : List (List Int)) (S : St) (h0 : rows.length ≤ 1099511627776) (h1 : (flat rows).length ≤ 1099511627776) :
    ACall Try.prog w0 79 [.sl 1 false (rows.map dL)] S (fun d S' => d = dL (srt (flat rows)) ∧ S' = S) := by
  refine fnS [] mx Try.func79 rfl rfl (by kernel_rfl) ?_; simp (maxDischargeDepth := 12) (maxSteps := 1000000) -implicitDefEqProofs only [Try.ntmps79, go_sem, Nat.reduceAdd, Nat.reduceSub, Nat.reduceMul, Nat.reduceLeDiff, Nat.reduceEqDiff, Nat.reduceGT, Nat.reduceBEq, reduceCtorEq, ↓reduceIte, Int.reduceToNat, Int.reduceLE, Int.reduceLT, Int.reduceNe, Int.reduceEq]
  refine useK (concat w0 rows S h0 h1) ?_
  rintro d S' ⟨l, rfl, rfl⟩
  simp (maxDischargeDepth := 12) (maxSteps := 1000000) -implicitDefEqProofs only [go_sem, Nat.reduceAdd, Nat.reduceSub, Nat.reduceMul, Nat.reduceLeDiff, Nat.reduceEqDiff, Nat.reduceGT, Nat.reduceBEq, reduceCtorEq, ↓reduceIte, Int.reduceToNat, Int.reduceLE, Int.reduceLT, Int.reduceNe, Int.reduceEq]
  refine .inl (useK (sort_int w0 (l := l.n) (zs := flat rows) (S := ⟨S.box, (l.n, .arr 1 ((flat rows).map dI)) :: S.acc⟩) (by simp [lk]) (by omega)) ?_)
  rintro d S' ⟨rfl, rfl⟩
  simp (maxDischargeDepth := 12) (maxSteps := 1000000) -implicitDefEqProofs only [go_sem, Nat.reduceAdd, Nat.reduceSub, Nat.reduceMul, Nat.reduceLeDiff, Nat.reduceEqDiff, Nat.reduceGT, Nat.reduceBEq, reduceCtorEq, ↓reduceIte, Int.reduceToNat, Int.reduceLE, Int.reduceLT, Int.reduceNe, Int.reduceEq]
  exact srt_length _

def pgs (l : List Wt) : List (List Int) := l.map (·.pages)
def listed (p : Pl) : List Int := srt (flat (p.free :: pgs p.wait))
theorem pgs_succ {l : List Wt} {k : Nat} {a : Wt} (h : l[k]? = some a) : pgs (l.take (k + 1)) = pgs (l.take k) ++ [a.pages] := by
  unfold pgs
  rw [List.take_add_one, h]
  simp
theorem pgs_len (l : List Wt) (k : Nat) (h : k ≤ l.length) : (pgs (l.take k)).length = k := by unfold pgs; rw [List.length_map, List.length_take]; omega
theorem flat_pgs (f : List Int) (l : List Wt) : (flat (f :: pgs l)).length = f.length + nW l := by
  unfold flat pgs nW
  simp [List.length_flatten]
  rfl

set_option maxHeartbeats 1000000 in
theorem listedW (w0 : W0) (p : Pl) (S : St) (h0 : p.wait.length ≤ 1048576) (h1 : p.free.length + nW p.wait ≤ 1048576) :
    ACall Try.prog w0 51 [dP p] S (fun d S' => d = dL (listed p) ∧ S' = S) := by
  refine fnS [] mx Try.func51 rfl rfl (by kernel_rfl) ?_; simp (maxDischargeDepth := 12) (maxSteps := 1000000) -implicitDefEqProofs only [Try.ntmps51, go_sem, Nat.reduceAdd, Nat.reduceSub, Nat.reduceMul, Nat.reduceLeDiff, Nat.reduceEqDiff, Nat.reduceGT, Nat.reduceBEq, reduceCtorEq, ↓reduceIte, Int.reduceToNat, Int.reduceLE, Int.reduceLT, Int.reduceNe, Int.reduceEq]
  intro b
  refine awp_tail 3 (by omega) rfl fun l hl => ?_
  obtain ⟨l, rfl⟩ : ∃ b : FN S.acc, b.n = l := ⟨⟨l, hl⟩, rfl⟩
  clear hl
  simp (maxDischargeDepth := 12) (maxSteps := 1000000) -implicitDefEqProofs only [go_sem, Nat.reduceAdd, Nat.reduceSub, Nat.reduceMul, Nat.reduceLeDiff, Nat.reduceEqDiff, Nat.reduceGT, Nat.reduceBEq, reduceCtorEq, ↓reduceIte, Int.reduceToNat, Int.reduceLE, Int.reduceLT, Int.reduceNe, Int.reduceEq]
  refine loopN [] p.wait.length [3, 10, 11, 12] (fun k => [(3, .acc l.n (k + 1)), (12, dI k)]) (fun k => ⟨S.box, (l.n, .tl 1 ((p.free :: pgs (p.wait.take k)).map dL)) :: S.acc⟩) (fun k => True) mx (by kernel_rfl) ?_ ?_
  · simp (maxDischargeDepth := 12) (maxSteps := 1000000) -implicitDefEqProofs only [go_sem, Nat.reduceAdd, Nat.reduceSub, Nat.reduceMul, Nat.reduceLeDiff, Nat.reduceEqDiff, Nat.reduceGT, Nat.reduceBEq, reduceCtorEq, ↓reduceIte, Int.reduceToNat, Int.reduceLE, Int.reduceLT, Int.reduceNe, Int.reduceEq]
    exact .consB (.refl _)
  · intro k hk _
    have hpl := pgs_len p.wait k hk
    simp (maxDischargeDepth := 12) (maxSteps := 1000000) -implicitDefEqProofs only [go_sem, Nat.reduceAdd, Nat.reduceSub, Nat.reduceMul, Nat.reduceLeDiff, Nat.reduceEqDiff, Nat.reduceGT, Nat.reduceBEq, reduceCtorEq, ↓reduceIte, Int.reduceToNat, Int.reduceLE, Int.reduceLT, Int.reduceNe, Int.reduceEq]
    refine ⟨fun hlt => ⟨hlt, fun a ha b' => ?_⟩, fun hge => ?_⟩
    · have h2 := pgs_succ ha
      have e : List.map dL (pgs (List.take k p.wait)) ++ [DV.sl 1 false (List.map dI a.pages)] = List.map dL (pgs (List.take (k + 1) p.wait)) := by rw [h2, List.map_append]; rfl
      refine ⟨hpl, by omega, by unfold maxLen; omega, hlt, ⟨?_, w64 (by omega) (by omega)⟩, ?_⟩
      · rw [hpl]; exact .refl _
      · rw [e]; exact .consB (.refl _)
    · rw [List.take_of_length_le (by omega)]
      refine .inr ?_
      refine ⟨by unfold pgs; rw [List.length_map]; omega, ?_⟩
      refine use1 (together w0 (p.free :: pgs p.wait) _ (by unfold pgs; simp; omega) (by rw [flat_pgs]; omega)) ?_
      simp (maxDischargeDepth := 12) (maxSteps := 1000000) -implicitDefEqProofs only [go_sem, Nat.reduceAdd, Nat.reduceSub, Nat.reduceMul, Nat.reduceLeDiff, Nat.reduceEqDiff, Nat.reduceGT, Nat.reduceBEq, reduceCtorEq, ↓reduceIte, Int.reduceToNat, Int.reduceLE, Int.reduceLT, Int.reduceNe, Int.reduceEq]
      simp [listed, Wk_self]
end Go.Proofs.Ytkibkahknibgfaa

namespace Go.Proofs.Ytkibkahknibgfaa
open Aml Go
set_option linter.unusedVariables false
set_option linter.unusedSimpArgs false
set_option maxRecDepth 100000

theorem srt_perm (l : List Int) : (srt l).Perm l := List.mergeSort_perm l _
theorem srt_up (l : List Int) : (srt l).Pairwise (· ≤ ·) := by
  have := List.pairwise_mergeSort (le := fun x y : Int => decide (x ≤ y)) (fun a b c h k => by simp at *; omega) (fun a b => by simp; omega) l
  exact this.imp fun h => by simpa using h
theorem srt_eq {a b : List Int} (h1 : a.Pairwise (· ≤ ·)) (h2 : a.Perm b) : a = srt b :=
  List.Perm.eq_of_pairwise (le := (· ≤ ·)) (fun x y _ _ h k => Int.le_antisymm h k) h1 (srt_up b) (h2.trans (srt_perm b).symm)
theorem srt_congr {a b : List Int} (h : a.Perm b) : srt a = srt b := srt_eq (srt_up a) ((srt_perm a).trans h)
theorem srt_self {a : List Int} (h : a.Pairwise (· ≤ ·)) : srt a = a := (srt_eq h (.refl a)).symm
theorem srt_insert {p : List Int} {x : Int} {j : Nat} (h1 : ∀ (i : Nat) a, i < j → (srt p)[i]? = some a → a ≤ x) (h2 : ∀ a, (srt p)[j]? = some a → x < a) : (srt p).take j ++ x :: (srt p).drop j = srt (p ++ [x]) := by
  have hp := srt_up p
  refine srt_eq ?_ ?_
  · rw [List.pairwise_append]
    have hs : (srt p).take j ++ (srt p).drop j = srt p := List.take_append_drop _ _
    rw [← hs, List.pairwise_append] at hp
    have hd : ∀ y ∈ (srt p).drop j, x ≤ y := by
      intro y hy
      cases he : (srt p).drop j with
      | nil => rw [he] at hy; cases hy
      | cons z t =>
        have hz : (srt p)[j]? = some z := by
          have := congrArg (fun l => l[0]?) he
          simpa using this
        have hxz := h2 z hz
        have hpd := hp.2.1
        rw [he] at hpd hy
        rcases List.mem_cons.1 hy with rfl | hy
        · omega
        · have := (List.pairwise_cons.1 hpd).1 y hy; omega
    refine ⟨hp.1, List.pairwise_cons.2 ⟨fun y hy => hd y hy, hp.2.1⟩, fun y hy z hz => ?_⟩
    have hyx : y ≤ x := by
      obtain ⟨i, hi⟩ := List.getElem?_of_mem hy
      rw [List.getElem?_take] at hi
      split at hi
      · rename_i hlt; exact h1 i y hlt hi
      · cases hi
    rcases List.mem_cons.1 hz with rfl | hz
    · exact hyx
    · have := hd z hz; omega
  · have hs : (srt p).take j ++ (srt p).drop j = srt p := List.take_append_drop _ _
    have : ((srt p).take j ++ x :: (srt p).drop j).Perm (x :: srt p) := by
      have := List.perm_middle (a := x) (l₁ := (srt p).take j) (l₂ := (srt p).drop j)
      rw [hs] at this; exact this
    exact this.trans (((srt_perm p).cons x).trans (List.perm_append_singleton x p).symm)
theorem take_snoc {α : Type} {l : List α} {k : Nat} {a : α} (h : l[k]? = some a) : l.take (k + 1) = l.take k ++ [a] := by rw [List.take_add_one, h]; rfl

set_option maxHeartbeats 4000000 in
theorem sortedR (w0 : W0) (l : List Int) (S : St) (h0 : l.length ≤ 1048576) :
    ACall Try.prog w0 67 [dL l] S (fun d S' => d = dL (srt l) ∧ S' = S) := by
  refine fnS [] mx Try.func67 rfl rfl (by kernel_rfl) ?_; simp (maxDischargeDepth := 12) (maxSteps := 1000000) -implicitDefEqProofs only [Try.ntmps67, go_sem, Nat.reduceAdd, Nat.reduceSub, Nat.reduceMul, Nat.reduceLeDiff, Nat.reduceEqDiff, Nat.reduceGT, Nat.reduceBEq, reduceCtorEq, ↓reduceIte, Int.reduceToNat, Int.reduceLE, Int.reduceLT, Int.reduceNe, Int.reduceEq]
  refine loopNZ [] [3] l.length [0, 3, 4] (fun k => [(3, dL (srt (l.take k))), (4, dI k)]) (fun _ => S) (fun k => True) mx (by kernel_rfl) ?_ ?_
  · simp (maxDischargeDepth := 12) (maxSteps := 1000000) -implicitDefEqProofs only [go_sem, Nat.reduceAdd, Nat.reduceSub, Nat.reduceMul, Nat.reduceLeDiff, Nat.reduceEqDiff, Nat.reduceGT, Nat.reduceBEq, reduceCtorEq, ↓reduceIte, Int.reduceToNat, Int.reduceLE, Int.reduceLT, Int.reduceNe, Int.reduceEq]
    rw [show srt [] = [] by simp [srt]]
    simp (maxDischargeDepth := 12) (maxSteps := 1000000) -implicitDefEqProofs only [go_sem, Nat.reduceAdd, Nat.reduceSub, Nat.reduceMul, Nat.reduceLeDiff, Nat.reduceEqDiff, Nat.reduceGT, Nat.reduceBEq, reduceCtorEq, ↓reduceIte, Int.reduceToNat, Int.reduceLE, Int.reduceLT, Int.reduceNe, Int.reduceEq]
  · intro k hk _
    simp (maxDischargeDepth := 12) (maxSteps := 1000000) -implicitDefEqProofs only [go_sem, Nat.reduceAdd, Nat.reduceSub, Nat.reduceMul, Nat.reduceLeDiff, Nat.reduceEqDiff, Nat.reduceGT, Nat.reduceBEq, reduceCtorEq, ↓reduceIte, Int.reduceToNat, Int.reduceLE, Int.reduceLT, Int.reduceNe, Int.reduceEq]
    refine ⟨fun hlt => ?_, fun hge => ?_⟩
    · obtain ⟨x, hx⟩ : ∃ x, l[k]? = some x := ⟨_, List.getElem?_eq_getElem hlt⟩
      have hsl : (srt (l.take k)).length = k := by rw [srt_length, List.length_take]; omega
      refine loopK [] [0, 3, 4, 5] (fun j : Nat => [(5, dI j)]) (fun _ => S) (fun j => j ≤ k ∧ ∀ (i : Nat) a, i < j → (srt (l.take k))[i]? = some a → a ≤ x) (fun j => k - j) 0 mx (by kernel_rfl) ?_ ?_
      · simp (maxDischargeDepth := 12) (maxSteps := 1000000) -implicitDefEqProofs only [go_sem, Nat.reduceAdd, Nat.reduceSub, Nat.reduceMul, Nat.reduceLeDiff, Nat.reduceEqDiff, Nat.reduceGT, Nat.reduceBEq, reduceCtorEq, ↓reduceIte, Int.reduceToNat, Int.reduceLE, Int.reduceLT, Int.reduceNe, Int.reduceEq]
        exact ⟨by omega, fun i a hi => by omega⟩
      · intro j hjj
        have hj := hjj.1
        have hup := hjj.2
        clear hjj
        simp (maxDischargeDepth := 12) (maxSteps := 1000000) -implicitDefEqProofs only [go_sem, Nat.reduceAdd, Nat.reduceSub, Nat.reduceMul, Nat.reduceLeDiff, Nat.reduceEqDiff, Nat.reduceGT, Nat.reduceBEq, reduceCtorEq, ↓reduceIte, Int.reduceToNat, Int.reduceLE, Int.reduceLT, Int.reduceNe, Int.reduceEq]
        have fin : (∀ a, (srt (l.take k))[j]? = some a → x < a) → List.map dI ((srt (l.take k)).take j) ++ [DV.v (.int .i64 x)] ++ List.map dI ((srt (l.take k)).drop j) = List.map dI (srt (l.take (k + 1))) := by
          intro h
          rw [take_snoc hx, ← srt_insert (x := x) (j := j) hup h]
          simp [dI]
        rw [hsl]
        refine ⟨fun h1 => ⟨h1, fun a ha => ⟨hlt, fun y hy => ?_⟩⟩, fun h1 => ?_⟩
        · cases getE hx hy
          refine ⟨fun h2 => ⟨j + 1, ⟨by omega, fun i b hi hb => ?_⟩, by omega, w64 (by omega) (by omega)⟩, fun h2 => ?_⟩
          · by_cases e : i = j
            · subst e; cases getE ha hb; exact h2
            · exact hup i b (by omega) hb
          · refine ⟨by omega, by omega, by unfold maxLen; omega, fun b => ⟨hlt, fun y hy => ?_⟩⟩
            cases getE hx hy
            have f2 := fin (fun b hb => by cases getE ha hb; omega)
            simp only [List.append_assoc] at f2 ⊢
            rw [f2]
            exact ⟨by omega, by unfold maxLen; omega, by omega, by omega, by unfold maxLen; omega, hlt, .refl _, w64 (by omega) (by omega)⟩
        · refine ⟨by omega, by omega, by unfold maxLen; omega, fun b => ⟨hlt, fun y hy => ?_⟩⟩
          cases getE hx hy
          have f2 := fin (fun b hb => by have := (List.getElem?_eq_some_iff.1 hb).1; omega)
          simp only [List.append_assoc] at f2 ⊢
          rw [f2]
          exact ⟨by omega, by unfold maxLen; omega, by omega, by omega, by unfold maxLen; omega, hlt, .refl _, w64 (by omega) (by omega)⟩
    · rw [List.take_of_length_le (by omega)]; exact .refl _
end Go.Proofs.Ytkibkahknibgfaa

namespace Go.Proofs.Ytkibkahknibgfaa
open Aml Go
set_option linter.unusedVariables false
set_option linter.unusedSimpArgs false
set_option maxRecDepth 100000

/-- A branch's kids, as a list of them. -/
theorem kids_map {l : List C} (h : ∀ c, c ∈ l → ∃ k, c.kid = [k]) : (l.flatMap fun c => c.kid.take 1) = l.map kid0 := by
  induction l with
  | nil => rfl
  | cons c l ih =>
    obtain ⟨k, hk⟩ := h c List.mem_cons_self
    rw [List.flatMap_cons, ih fun c hc => h c (List.mem_cons_of_mem _ hc), hk, List.map_cons, kid0_eq hk]; rfl
theorem kids_nd {d : Nat} {n : N} (h : Nd (d + 1) n) : kidsOf n = n.l.map kid0 := by
  rw [kidsOf_br h.1]
  exact kids_map fun c hc => by obtain ⟨_, k, hk, _⟩ := h.2.2 c hc; exact ⟨k, hk⟩
theorem sum_flat {α : Type} (f : α → Nat) (g : N → List α) (l : List N) : ((l.reverse.flatMap g).map f).sum = (l.map fun n => ((g n).map f).sum).sum := by
  induction l with
  | nil => rfl
  | cons a l ih => rw [List.reverse_cons, List.flatMap_append, List.map_append, List.sum_append, ih, List.map_cons, List.sum_cons]; simp; omega
/-- What the nodes below weigh. -/
def wT (ends : N → Bool) (f : N → Nat) (n : N) : Nat := ((visN ends n).map f).sum
theorem wT_eq (ends : N → Bool) (f : N → Nat) (n : N) : wT ends f n = f n + if ends n then 0 else ((kidsOf n).map (wT ends f)).sum := by
  unfold wT
  rw [visN_eq, List.map_cons, List.sum_cons]
  split
  · rfl
  · rw [sum_flat]
theorem wT_le (ends : N → Bool) (f : N → Nat) (hf : ∀ d x, Nd d x → f x ≤ 1 + if x.leaf then 4 * x.l.length else 0) : ∀ (d : Nat) (n : N), Nd d n → wT ends f n ≤ 1 + 5 * totN n
  | 0, n, h => by
    have h1 := hf 0 n h
    have h2 := tot_len n
    rw [wT_eq, kidsOf_leaf h.1]
    rw [h.1, if_pos rfl] at h1
    split <;> simp <;> omega
  | d + 1, n, h => by
    have h1 := hf _ n h
    rw [h.1, if_neg (by simp)] at h1
    rw [wT_eq, kids_nd h, totN_tot]
    have : ∀ l : List C, (∀ c, c ∈ l → c ∈ n.l) → ((l.map kid0).map (wT ends f)).sum ≤ 5 * tot l := by
      intro l
      induction l with
      | nil => intro _; exact Nat.zero_le _
      | cons c l ih =>
        intro hl
        obtain ⟨_, k, hk, hnd⟩ := h.2.2 c (hl c List.mem_cons_self)
        have h1 := ih fun c hc => hl c (List.mem_cons_of_mem _ hc)
        have h2 := wT_le ends f hf d k hnd
        rw [List.map_cons, List.map_cons, List.sum_cons, kid0_eq hk, tot_cons, totC_kid hk]
        omega
    have := this n.l fun _ h => h
    split <;> omega
theorem vis_len (ends : N → Bool) {d : Nat} {n : N} (h : Nd d n) : (visN ends n).length ≤ 1 + 5 * totN n := by
  have := wT_le ends (fun _ => 1) (fun _ _ _ => by omega) d n h
  unfold wT at this
  have e : ∀ l : List N, (l.map fun _ => 1).sum = l.length := fun l => by
    induction l with
    | nil => rfl
    | cons a l ih => rw [List.map_cons, List.sum_cons, ih, List.length_cons]; omega
  rwa [e] at this
theorem vis_mem (ends : N → Bool) : ∀ (d : Nat) (n : N), Nd d n → ∀ x, x ∈ visN ends n → ∃ d', Nd d' x ∧ totN x ≤ totN n
  | 0, n, h, x, hx => by
    rw [visN_eq, kidsOf_leaf h.1] at hx
    have : x = n := by
      rcases List.mem_cons.1 hx with e | hx
      · exact e
      · split at hx <;> cases hx
    subst this
    exact ⟨0, h, Nat.le_refl _⟩
  | d + 1, n, h, x, hx => by
    rw [visN_eq, kids_nd h] at hx
    rcases List.mem_cons.1 hx with rfl | hx
    · exact ⟨_, h, Nat.le_refl _⟩
    · split at hx
      · cases hx
      · obtain ⟨k, hk, hx⟩ := List.mem_flatMap.1 hx
        obtain ⟨c, hc, rfl⟩ := List.mem_map.1 (List.mem_reverse.1 hk)
        obtain ⟨_, k, hkid, hnd⟩ := h.2.2 c hc
        rw [kid0_eq hkid] at hx
        obtain ⟨d', h1, h2⟩ := vis_mem ends d k hnd x hx
        have := tot_kid hc hkid
        exact ⟨d', h1, by omega⟩
theorem vis_l (ends : N → Bool) {d : Nat} {n : N} (h : Nd d n) (x : N) (hx : x ∈ visN ends n) : x.l.length ≤ totN n := by
  obtain ⟨d', h1, h2⟩ := vis_mem ends d n h x hx
  have := tot_len x
  omega
theorem fcS_le (l : List C) : fcS l ≤ 4 * l.length := by
  unfold fcS
  induction l with
  | nil => exact Nat.le_refl _
  | cons c l ih =>
    have : fc1 c ≤ 4 := by unfold fc1; split; exact need_le _; omega
    rw [List.map_cons, List.sum_cons, List.length_cons]; omega
theorem fr1_le (x : N) : fr1 x ≤ 1 + if x.leaf then 4 * x.l.length else 0 := by
  unfold fr1
  split
  · omega
  · split
    · omega
    · split
      · have := fcS_le x.l; omega
      · simp [fcS]
theorem pages_le {l : List C} (h : ∀ c, c ∈ l → Sh c) : (l.flatMap C.pages).length ≤ 4 * l.length := by
  induction l with
  | nil => exact Nat.le_refl _
  | cons c l ih =>
    have h1 := ih fun c hc => h c (List.mem_cons_of_mem _ hc)
    have h2 := (h c List.mem_cons_self).2.2
    rw [List.flatMap_cons, List.length_append, List.length_cons]; omega
theorem pg1_le {d : Nat} {x : N} (h : Nd d x) : (pg1 x).length ≤ 1 + if x.leaf then 4 * x.l.length else 0 := by
  unfold pg1
  rw [List.length_append]
  have h1 : (if x.page ≠ 0 then [x.page] else []).length ≤ 1 := by split <;> simp
  have h2 : ((if x.leaf then x.l else []).flatMap C.pages).length ≤ if x.leaf then 4 * x.l.length else 0 := by
    split
    · exact pages_le (nd_sh h)
    · simp
  omega
theorem pgS_le (ends : N → Bool) {d : Nat} {n : N} (h : Nd d n) : (pgS (visN ends n)).length ≤ 1 + 5 * totN n := by
  have := wT_le ends (fun x => (pg1 x).length) (fun d x hx => pg1_le hx) d n h
  unfold wT at this
  unfold pgS
  rw [List.length_flatMap]
  exact this
/-- What a tree takes. -/
def frT (n : N) : Nat := frS (visN laidB n)
theorem frT_le {d : Nat} {n : N} (h : Nd d n) : frT n ≤ 1 + 5 * totN n := wT_le laidB fr1 (fun _ x _ => fr1_le x) d n h
def rfC (b : Bool) (c : C) : Nat := if b then fc1 c else frT (kid0 c)
def rfS (b : Bool) (l : List C) : Nat := (l.map (rfC b)).sum
theorem rfS_succ {b : Bool} {l : List C} {k : Nat} {c : C} (h : l[k]? = some c) : rfS b (l.take (k + 1)) = rfS b (l.take k) + rfC b c := by
  unfold rfS
  rw [List.take_add_one, h]; simp
theorem rfS_take (b : Bool) (l : List C) (k : Nat) : rfS b (l.take k) ≤ rfS b l := by
  have := congrArg (rfS b) (List.take_append_drop k l)
  simp only [rfS, List.map_append, List.sum_append] at this ⊢
  omega
theorem frT_eq {d : Nat} {n : N} (h : Nd d n) : frT n = if n.page ≠ 0 then 0 else if n.leaf = true ∧ n.l = [] then 0 else 1 + rfS n.leaf n.l := by
  have h1 : frT n = wT laidB fr1 n := rfl
  have e : fr1 n = if n.page ≠ 0 then 0 else if n.leaf = true ∧ n.l = [] then 0 else 1 + fcS (if n.leaf then n.l else []) := rfl
  rw [h1, wT_eq, e]
  by_cases hp : n.page ≠ 0
  · have hb : laidB n = true := decide_eq_true hp
    rw [if_pos hp, if_pos hp, hb]; rfl
  · have hb : laidB n = false := decide_eq_false hp
    rw [if_neg hp, if_neg hp, hb]
    have e2 : ∀ x : Nat, (if false = true then 0 else x) = x := fun x => if_neg (by simp)
    rw [e2]
    by_cases hz : n.leaf = true ∧ n.l = []
    · rw [if_pos hz, if_pos hz, kidsOf_leaf hz.1]; rfl
    · rw [if_neg hz, if_neg hz]
      cases d with
      | zero => rw [kidsOf_leaf h.1, h.1]; rfl
      | succ d =>
        rw [kids_nd h, h.1, List.map_map, show (if false = true then n.l else []) = [] from rfl, show fcS [] = 0 from rfl]
        rfl
set_option maxHeartbeats 4000000 in
theorem freshR (w0 : W0) : ∀ (d : Nat) (n : N) (S : St), Nd d n → totN n ≤ 131072 → ACall Try.prog w0 31 [eN n] S (fun e S' => e = dI (frT n) ∧ S' = S) := by
  intro d
  induction d with
  | zero =>
    intro n S hn ht
    have hlf := hn.1
    have hl := tot_len n
    have hq := frT_eq hn
    have hle := frT_le hn
    rw [hlf] at hq
    refine fnS [] mx Try.func31 rfl rfl (by kernel_rfl) ?_; simp (maxDischargeDepth := 12) (maxSteps := 1000000) -implicitDefEqProofs only [Try.ntmps31, go_sem, Nat.reduceAdd, Nat.reduceSub, Nat.reduceMul, Nat.reduceLeDiff, Nat.reduceEqDiff, Nat.reduceGT, Nat.reduceBEq, reduceCtorEq, ↓reduceIte, Int.reduceToNat, Int.reduceLE, Int.reduceLT, Int.reduceNe, Int.reduceEq,  hlf]
    intro b
    refine ⟨fun hp => by rw [hq, if_pos hp]; rfl, fun hp => ⟨fun hl0 => by rw [hq, if_neg hp, if_pos ⟨rfl, List.eq_nil_of_length_eq_zero (by omega)⟩]; rfl, fun hl0 => ?_⟩⟩
    rw [if_neg hp, if_neg (fun e => by rw [e.2] at hl0; exact hl0 rfl)] at hq
    refine loopN [] n.l.length [1, 3, 4] (fun k => [(3, dI ((1 + rfS true (n.l.take k) : Nat) : Int)), (4, dI k)]) (fun k => ⟨(b.n, [dI n.page, dB true, .sl 4 false (n.l.map dC)]) :: S.box, S.acc⟩) (fun _ => True) mx (by kernel_rfl) ?_ ?_
    · simp (maxDischargeDepth := 12) (maxSteps := 1000000) -implicitDefEqProofs only [go_sem, Nat.reduceAdd, Nat.reduceSub, Nat.reduceMul, Nat.reduceLeDiff, Nat.reduceEqDiff, Nat.reduceGT, Nat.reduceBEq, reduceCtorEq, ↓reduceIte, Int.reduceToNat, Int.reduceLE, Int.reduceLT, Int.reduceNe, Int.reduceEq]
      rfl
    · intro k hk _
      have hrt := rfS_take true n.l k
      have hrt1 := rfS_take true n.l (k + 1)
      simp (maxDischargeDepth := 12) (maxSteps := 1000000) -implicitDefEqProofs only [go_sem, Nat.reduceAdd, Nat.reduceSub, Nat.reduceMul, Nat.reduceLeDiff, Nat.reduceEqDiff, Nat.reduceGT, Nat.reduceBEq, reduceCtorEq, ↓reduceIte, Int.reduceToNat, Int.reduceLE, Int.reduceLT, Int.reduceNe, Int.reduceEq]
      refine ⟨fun hlt => ⟨hlt, fun c hc b2 => ⟨fun hp0 => use1 (needR w0 _ _) ?_, fun hp0 => ⟨hlt, ?_, by rw [w64 (by omega) (by omega)]; omega⟩⟩⟩, fun hge => by rw [List.take_of_length_le (by omega), hq]⟩
      · have h1 := rfS_succ (b := true) hc
        have h2 : rfC true c = need (c.data.size : Int) := by
          show fc1 c = _
          exact if_pos (List.eq_nil_of_length_eq_zero (by omega))
        simp (maxDischargeDepth := 12) (maxSteps := 1000000) -implicitDefEqProofs only [go_sem, Nat.reduceAdd, Nat.reduceSub, Nat.reduceMul, Nat.reduceLeDiff, Nat.reduceEqDiff, Nat.reduceGT, Nat.reduceBEq, reduceCtorEq, ↓reduceIte, Int.reduceToNat, Int.reduceLE, Int.reduceLT, Int.reduceNe, Int.reduceEq]
        refine ⟨hlt, by rw [w64 (by omega) (by omega)]; omega, by rw [w64 (by omega) (by omega)]; omega⟩
      · have h1 := rfS_succ (b := true) hc
        have h2 : rfC true c = 0 := by
          show fc1 c = 0
          exact if_neg (fun e => by rw [e] at hp0; exact hp0 rfl)
        omega
  | succ d ih =>
    intro n S hn ht
    have hlf := hn.1
    have hl := tot_len n
    have hq := frT_eq hn
    have hle := frT_le hn
    rw [hlf] at hq
    refine fnS [] mx Try.func31 rfl rfl (by kernel_rfl) ?_; simp (maxDischargeDepth := 12) (maxSteps := 1000000) -implicitDefEqProofs only [Try.ntmps31, go_sem, Nat.reduceAdd, Nat.reduceSub, Nat.reduceMul, Nat.reduceLeDiff, Nat.reduceEqDiff, Nat.reduceGT, Nat.reduceBEq, reduceCtorEq, ↓reduceIte, Int.reduceToNat, Int.reduceLE, Int.reduceLT, Int.reduceNe, Int.reduceEq,  hlf]
    intro b
    refine ⟨fun hp => by rw [hq, if_pos hp]; rfl, fun hp => ?_⟩
    rw [if_neg hp, if_neg (by simp)] at hq
    refine loopN [] n.l.length [1, 3, 4] (fun k => [(3, dI ((1 + rfS false (n.l.take k) : Nat) : Int)), (4, dI k)]) (fun k => ⟨(b.n, [dI n.page, dB false, .sl 4 false (n.l.map dC)]) :: S.box, S.acc⟩) (fun _ => True) mx (by kernel_rfl) ?_ ?_
    · simp (maxDischargeDepth := 12) (maxSteps := 1000000) -implicitDefEqProofs only [go_sem, Nat.reduceAdd, Nat.reduceSub, Nat.reduceMul, Nat.reduceLeDiff, Nat.reduceEqDiff, Nat.reduceGT, Nat.reduceBEq, reduceCtorEq, ↓reduceIte, Int.reduceToNat, Int.reduceLE, Int.reduceLT, Int.reduceNe, Int.reduceEq]
      rfl
    · intro k hk _
      have hrt := rfS_take false n.l k
      have hrt1 := rfS_take false n.l (k + 1)
      simp (maxDischargeDepth := 12) (maxSteps := 1000000) -implicitDefEqProofs only [go_sem, Nat.reduceAdd, Nat.reduceSub, Nat.reduceMul, Nat.reduceLeDiff, Nat.reduceEqDiff, Nat.reduceGT, Nat.reduceBEq, reduceCtorEq, ↓reduceIte, Int.reduceToNat, Int.reduceLE, Int.reduceLT, Int.reduceNe, Int.reduceEq]
      refine ⟨fun hlt => ⟨hlt, fun c hc b2 => ?_⟩, fun hge => by rw [List.take_of_length_le (by omega), hq]⟩
      obtain ⟨_, kid, hkid, hnd⟩ := hn.2.2 c (List.mem_of_getElem? hc)
      have h1 := rfS_succ (b := false) hc
      have h2 : rfC false c = frT kid := by rw [← kid0_eq hkid]; rfl
      have h3 := tot_kid (List.mem_of_getElem? hc) hkid
      rw [hkid]
      refine ⟨by simp, fun kid' hk' => ?_⟩
      cases hk'
      refine use1 (ih kid _ hnd (by omega)) ?_
      simp (maxDischargeDepth := 12) (maxSteps := 1000000) -implicitDefEqProofs only [go_sem, Nat.reduceAdd, Nat.reduceSub, Nat.reduceMul, Nat.reduceLeDiff, Nat.reduceEqDiff, Nat.reduceGT, Nat.reduceBEq, reduceCtorEq, ↓reduceIte, Int.reduceToNat, Int.reduceLE, Int.reduceLT, Int.reduceNe, Int.reduceEq]
      refine ⟨hlt, by rw [w64 (by omega) (by omega)]; omega, by rw [w64 (by omega) (by omega)]; omega⟩
mutual
/-- All pages, as the reference gathers them. -/
def alN : N → List Int
  | .mk p b l => (if p ≠ 0 then [p] else []) ++ alCs b l
def alC (b : Bool) : C → List Int
  | .mk _ _ ps kid => ps ++ if b then [] else alNs kid
def alCs (b : Bool) : List C → List Int
  | [] => []
  | c :: l => alC b c ++ alCs b l
def alNs : List N → List Int
  | [] => []
  | n :: _ => alN n
end
theorem alCs_flat (b : Bool) (l : List C) : alCs b l = l.flatMap (alC b) := by
  induction l with
  | nil => rfl
  | cons c l ih => rw [alCs, ih, List.flatMap_cons]
theorem alN_eq (n : N) : alN n = (if n.page ≠ 0 then [n.page] else []) ++ n.l.flatMap (alC n.leaf) := by
  cases n; rw [alN, alCs_flat]; rfl
theorem alC_leaf (c : C) : alC true c = c.pages := by cases c; simp [alC, C.pages]
theorem alC_br {c : C} {k : N} (h : c.kid = [k]) : alC false c = c.pages ++ alN k := by
  cases c with | mk a b d e =>
  simp only [C.kid_mk] at h
  subst h
  simp [alC, alNs, C.pages]
theorem flat_perm {α β : Type} {f g : α → List β} {l : List α} (h : ∀ a, a ∈ l → (f a).Perm (g a)) : (l.flatMap f).Perm (l.flatMap g) := by
  induction l with
  | nil => exact .refl _
  | cons a l ih =>
    rw [List.flatMap_cons, List.flatMap_cons]
    exact (h a List.mem_cons_self).append (ih fun x hx => h x (List.mem_cons_of_mem _ hx))
theorem al_perm : ∀ (d : Nat) (n : N), Nd d n → (alN n).Perm (pgS (visN noB n))
  | 0, n, h => by
    rw [alN_eq, visN_eq, kidsOf_leaf h.1]
    have : pgS (n :: if noB n = true then [] else List.flatMap (visN noB) [].reverse) = pg1 n := by simp [pgS, noB]
    rw [this]
    unfold pg1
    rw [h.1, if_pos rfl]
    rw [show alC true = C.pages from funext alC_leaf]
  | d + 1, n, h => by
    rw [alN_eq, visN_eq, kids_nd h, h.1]
    have e1 : pgS (n :: if noB n = true then [] else (n.l.map kid0).reverse.flatMap (visN noB)) = pg1 n ++ pgS ((n.l.map kid0).reverse.flatMap (visN noB)) := by simp [pgS, noB]
    have e2 : pg1 n = if n.page ≠ 0 then [n.page] else [] := by unfold pg1; rw [h.1]; simp
    rw [e1, e2]
    refine .append_left _ ?_
    have e3 : ∀ l : List N, pgS (l.flatMap (visN noB)) = l.flatMap fun k => pgS (visN noB k) := fun l => by unfold pgS; rw [List.flatMap_assoc]
    rw [e3]
    refine .trans ?_ (.symm ((List.reverse_perm _).flatMap_right _))
    rw [List.flatMap_map]
    refine flat_perm fun c hc => ?_
    obtain ⟨hs, k, hk, hnd⟩ := h.2.2 c hc
    rw [alC_br hk, kid0_eq hk, List.eq_nil_of_length_eq_zero (Nat.le_zero.1 hs.2.2), List.nil_append]
    exact al_perm d k hnd
end Go.Proofs.Ytkibkahknibgfaa

namespace Go.Proofs.Ytkibkahknibgfaa
open Aml Go
set_option linter.unusedVariables false
set_option linter.unusedSimpArgs false
set_option maxRecDepth 100000

theorem al_len {d : Nat} {n : N} (h : Nd d n) : (alN n).length ≤ 1 + 5 * totN n := by
  rw [(al_perm d n h).length_eq]
  exact pgS_le noB h
theorem alT_le (b : Bool) (l : List C) (k : Nat) : ((l.take k).flatMap (alC b)).length ≤ (l.flatMap (alC b)).length := by
  have := congrArg (List.flatMap (alC b)) (List.take_append_drop k l)
  have := congrArg List.length this
  simp only [List.flatMap_append, List.length_append] at this
  omega
theorem alT_succ {b : Bool} {l : List C} {k : Nat} {c : C} (h : l[k]? = some c) : (l.take (k + 1)).flatMap (alC b) = (l.take k).flatMap (alC b) ++ alC b c := by
  rw [List.take_add_one, h]; simp
set_option maxHeartbeats 4000000 in
theorem allR (w0 : W0) : ∀ (d : Nat) (n : N) (S : St), Nd d n → totN n ≤ 131072 → ACall Try.prog w0 68 [eN n] S (fun e S' => e = dL (alN n) ∧ S' = S) := by
  intro d
  induction d with
  | zero =>
    intro n S hn ht
    have hlf := hn.1
    have hl := tot_len n
    have hq := alN_eq n
    have hle := al_len hn
    rw [hlf] at hq
    have hm8 : maxLen = 9223372036854775807 := rfl
    refine fnS [2] mx Try.func68 rfl rfl (by kernel_rfl) ?_; simp (maxDischargeDepth := 12) (maxSteps := 1000000) -implicitDefEqProofs only [Try.ntmps68, go_sem, Nat.reduceAdd, Nat.reduceSub, Nat.reduceMul, Nat.reduceLeDiff, Nat.reduceEqDiff, Nat.reduceGT, Nat.reduceBEq, reduceCtorEq, ↓reduceIte, Int.reduceToNat, Int.reduceLE, Int.reduceLT, Int.reduceNe, Int.reduceEq,  hlf]
    intro b
    refine growK 3 1 rfl (by omega) fun lp => ?_
    refine shrK [] [] mx (by kernel_rfl) ?_
    simp (maxDischargeDepth := 12) (maxSteps := 1000000) -implicitDefEqProofs only [go_sem, Nat.reduceAdd, Nat.reduceSub, Nat.reduceMul, Nat.reduceLeDiff, Nat.reduceEqDiff, Nat.reduceGT, Nat.reduceBEq, reduceCtorEq, ↓reduceIte, Int.reduceToNat, Int.reduceLE, Int.reduceLT, Int.reduceNe, Int.reduceEq]
    refine ⟨fun hp => ⟨by omega, ?_⟩, fun hp => ?_⟩
    all_goals
      obtain ⟨P0, hP0⟩ : ∃ P0, P0 = (if n.page ≠ 0 then [n.page] else []) := ⟨_, rfl⟩
      rw [← hP0] at hq
      have hP1 : P0.length ≤ 1 := by rw [hP0]; split <;> simp
      rw [hq, List.length_append] at hle
      refine loopN [] n.l.length [1, 3, 4] (fun k => [(3, .acc lp.n (P0 ++ (n.l.take k).flatMap (alC true)).length), (4, dI k)]) (fun k => ⟨(b.n, [dI n.page, dB true, .sl 4 false (n.l.map dC)]) :: S.box, (lp.n, .arr 1 ((P0 ++ (n.l.take k).flatMap (alC true)).map dI)) :: S.acc⟩) (fun _ => True) mx (by kernel_rfl) ?_ ?_
      · simp (maxDischargeDepth := 12) (maxSteps := 1000000) -implicitDefEqProofs only [go_sem, Nat.reduceAdd, Nat.reduceSub, Nat.reduceMul, Nat.reduceLeDiff, Nat.reduceEqDiff, Nat.reduceGT, Nat.reduceBEq, reduceCtorEq, ↓reduceIte, Int.reduceToNat, Int.reduceLE, Int.reduceLT, Int.reduceNe, Int.reduceEq]
        first
          | (rw [if_pos (show n.page ≠ 0 from hp)] at hP0
             subst hP0
             exact ⟨.refl _, .refl _⟩)
          | (rw [if_neg (show ¬ n.page ≠ 0 from hp)] at hP0
             subst hP0
             exact ⟨.refl _, .refl _⟩)
      · intro k hk _
        have h1 := alT_le true n.l k
        have h2 := alT_le true n.l (k + 1)
        simp (maxDischargeDepth := 12) (maxSteps := 1000000) -implicitDefEqProofs only [go_sem, Nat.reduceAdd, Nat.reduceSub, Nat.reduceMul, Nat.reduceLeDiff, Nat.reduceEqDiff, Nat.reduceGT, Nat.reduceBEq, reduceCtorEq, ↓reduceIte, Int.reduceToNat, Int.reduceLE, Int.reduceLT, Int.reduceNe, Int.reduceEq]
        refine ⟨fun hlt => ⟨hlt, fun c hc => ?_⟩, fun hge => ?_⟩
        · have h3 := alT_succ (b := true) hc
          have h4 := congrArg List.length h3
          rw [List.length_append, alC_leaf] at h4
          refine ⟨by omega, by omega, hlt, ⟨.eq (by rw [h4, Nat.add_assoc]), by rw [w64 (by omega) (by omega)]; omega⟩, ?_⟩
          rw [h3, alC_leaf, List.append_assoc]
          exact .refl _
        · rw [List.take_of_length_le (by omega), hq]
          exact .refl _
  | succ d ih =>
    intro n S hn ht
    have hlf := hn.1
    have hl := tot_len n
    have hq := alN_eq n
    have hle := al_len hn
    rw [hlf] at hq
    have hm8 : maxLen = 9223372036854775807 := rfl
    refine fnS [2] mx Try.func68 rfl rfl (by kernel_rfl) ?_; simp (maxDischargeDepth := 12) (maxSteps := 1000000) -implicitDefEqProofs only [Try.ntmps68, go_sem, Nat.reduceAdd, Nat.reduceSub, Nat.reduceMul, Nat.reduceLeDiff, Nat.reduceEqDiff, Nat.reduceGT, Nat.reduceBEq, reduceCtorEq, ↓reduceIte, Int.reduceToNat, Int.reduceLE, Int.reduceLT, Int.reduceNe, Int.reduceEq,  hlf]
    intro b
    refine growK 3 1 rfl (by omega) fun lp => ?_
    refine shrK [] [] mx (by kernel_rfl) ?_
    simp (maxDischargeDepth := 12) (maxSteps := 1000000) -implicitDefEqProofs only [go_sem, Nat.reduceAdd, Nat.reduceSub, Nat.reduceMul, Nat.reduceLeDiff, Nat.reduceEqDiff, Nat.reduceGT, Nat.reduceBEq, reduceCtorEq, ↓reduceIte, Int.reduceToNat, Int.reduceLE, Int.reduceLT, Int.reduceNe, Int.reduceEq]
    refine ⟨fun hp => ⟨by omega, ?_⟩, fun hp => ?_⟩
    all_goals
      obtain ⟨P0, hP0⟩ : ∃ P0, P0 = (if n.page ≠ 0 then [n.page] else []) := ⟨_, rfl⟩
      rw [← hP0] at hq
      have hP1 : P0.length ≤ 1 := by rw [hP0]; split <;> simp
      rw [hq, List.length_append] at hle
      refine loopN [] n.l.length [1, 3, 4] (fun k => [(3, .acc lp.n (P0 ++ (n.l.take k).flatMap (alC false)).length), (4, dI k)]) (fun k => ⟨(b.n, [dI n.page, dB false, .sl 4 false (n.l.map dC)]) :: S.box, (lp.n, .arr 1 ((P0 ++ (n.l.take k).flatMap (alC false)).map dI)) :: S.acc⟩) (fun _ => True) mx (by kernel_rfl) ?_ ?_
      · simp (maxDischargeDepth := 12) (maxSteps := 1000000) -implicitDefEqProofs only [go_sem, Nat.reduceAdd, Nat.reduceSub, Nat.reduceMul, Nat.reduceLeDiff, Nat.reduceEqDiff, Nat.reduceGT, Nat.reduceBEq, reduceCtorEq, ↓reduceIte, Int.reduceToNat, Int.reduceLE, Int.reduceLT, Int.reduceNe, Int.reduceEq]
        first
          | (rw [if_pos (show n.page ≠ 0 from hp)] at hP0
             subst hP0
             exact ⟨.refl _, .refl _⟩)
          | (rw [if_neg (show ¬ n.page ≠ 0 from hp)] at hP0
             subst hP0
             exact ⟨.refl _, .refl _⟩)
      · intro k hk _
        have h1 := alT_le false n.l k
        have h2 := alT_le false n.l (k + 1)
        simp (maxDischargeDepth := 12) (maxSteps := 1000000) -implicitDefEqProofs only [go_sem, Nat.reduceAdd, Nat.reduceSub, Nat.reduceMul, Nat.reduceLeDiff, Nat.reduceEqDiff, Nat.reduceGT, Nat.reduceBEq, reduceCtorEq, ↓reduceIte, Int.reduceToNat, Int.reduceLE, Int.reduceLT, Int.reduceNe, Int.reduceEq]
        refine ⟨fun hlt => ⟨hlt, fun c hc => ?_⟩, fun hge => ?_⟩
        · obtain ⟨hs, kid, hkid, hnd⟩ := hn.2.2 c (List.mem_of_getElem? hc)
          have hpn : c.pages = [] := List.eq_nil_of_length_eq_zero (Nat.le_zero.1 hs.2.2)
          have htk := tot_kid (List.mem_of_getElem? hc) hkid
          have hkl : ((n.l.take (k + 1)).flatMap (alC false)) = (n.l.take k).flatMap (alC false) ++ alN kid := by rw [alT_succ hc, alC_br hkid, hpn, List.nil_append]
          have hkn := congrArg List.length hkl
          rw [List.length_append] at hkn
          rw [hpn, List.append_nil, List.length_nil, Nat.add_zero]
          refine ⟨by omega, by omega, hlt, fun c2 hc2 => ?_⟩
          rw [hc] at hc2
          cases hc2
          rw [hkid]
          refine ⟨by simp, fun kid2 hkid2 => ?_⟩
          cases hkid2
          refine use1 (ih kid _ hnd (by omega)) ?_
          simp (maxDischargeDepth := 12) (maxSteps := 1000000) -implicitDefEqProofs only [go_sem, Nat.reduceAdd, Nat.reduceSub, Nat.reduceMul, Nat.reduceLeDiff, Nat.reduceEqDiff, Nat.reduceGT, Nat.reduceBEq, reduceCtorEq, ↓reduceIte, Int.reduceToNat, Int.reduceLE, Int.reduceLT, Int.reduceNe, Int.reduceEq]
          refine ⟨by omega, by omega, hlt, ⟨.eq (by rw [hkn, Nat.add_assoc]), by rw [w64 (by omega) (by omega)]; omega⟩, ?_⟩
          rw [hkl, List.append_assoc]
          exact .refl _
        · rw [List.take_of_length_le (by omega), hq]
          exact .refl _
set_option maxHeartbeats 4000000 in
theorem refPagesW (w0 : W0) (d : Nat) (n : N) (S : St) (hn : Nd d n) (ht : totN n ≤ 131072) : ACall Try.prog w0 34 [eN n] S (fun e S' => e = dL (pgsT n) ∧ S' = S) := by
  have hle := al_len hn
  refine fnS [] mx Try.func34 rfl rfl (by kernel_rfl) ?_; simp (maxDischargeDepth := 12) (maxSteps := 1000000) -implicitDefEqProofs only [Try.ntmps34, go_sem, Nat.reduceAdd, Nat.reduceSub, Nat.reduceMul, Nat.reduceLeDiff, Nat.reduceEqDiff, Nat.reduceGT, Nat.reduceBEq, reduceCtorEq, ↓reduceIte, Int.reduceToNat, Int.reduceLE, Int.reduceLT, Int.reduceNe, Int.reduceEq]
  intro b
  refine use1 (allR w0 d n _ hn ht) ?_
  simp (maxDischargeDepth := 12) (maxSteps := 1000000) -implicitDefEqProofs only [go_sem, Nat.reduceAdd, Nat.reduceSub, Nat.reduceMul, Nat.reduceLeDiff, Nat.reduceEqDiff, Nat.reduceGT, Nat.reduceBEq, reduceCtorEq, ↓reduceIte, Int.reduceToNat, Int.reduceLE, Int.reduceLT, Int.reduceNe, Int.reduceEq]
  refine use1 (sortedR w0 (alN n) _ (by omega)) ?_
  simp (maxDischargeDepth := 12) (maxSteps := 1000000) -implicitDefEqProofs only [go_sem, Nat.reduceAdd, Nat.reduceSub, Nat.reduceMul, Nat.reduceLeDiff, Nat.reduceEqDiff, Nat.reduceGT, Nat.reduceBEq, reduceCtorEq, ↓reduceIte, Int.reduceToNat, Int.reduceLE, Int.reduceLT, Int.reduceNe, Int.reduceEq]
  rw [srt_congr (al_perm d n hn)]
  exact .refl _
set_option maxHeartbeats 4000000 in
theorem withoutR (w0 : W0) (l o : List Int) (S : St) (h0 : l.length ≤ 1048576) (h1 : o.length ≤ 1048576) : ACall Try.prog w0 72 [dL l, dL o] S (fun e S' => e = dL (fltI o l) ∧ S' = S) := by
  have hm8 : maxLen = 9223372036854775807 := rfl
  refine fnS [2] mx Try.func72 rfl rfl (by kernel_rfl) ?_; simp (maxDischargeDepth := 12) (maxSteps := 1000000) -implicitDefEqProofs only [Try.ntmps72, go_sem, Nat.reduceAdd, Nat.reduceSub, Nat.reduceMul, Nat.reduceLeDiff, Nat.reduceEqDiff, Nat.reduceGT, Nat.reduceBEq, reduceCtorEq, ↓reduceIte, Int.reduceToNat, Int.reduceLE, Int.reduceLT, Int.reduceNe, Int.reduceEq]
  refine growK 5 1 rfl (by omega) fun lp => ?_
  refine shrK [] [] mx (by kernel_rfl) ?_
  simp (maxDischargeDepth := 12) (maxSteps := 1000000) -implicitDefEqProofs only [go_sem, Nat.reduceAdd, Nat.reduceSub, Nat.reduceMul, Nat.reduceLeDiff, Nat.reduceEqDiff, Nat.reduceGT, Nat.reduceBEq, reduceCtorEq, ↓reduceIte, Int.reduceToNat, Int.reduceLE, Int.reduceLT, Int.reduceNe, Int.reduceEq]
  refine loopN [] l.length [0, 1, 5, 6] (fun k => [(5, .acc lp.n (fltI o (l.take k)).length), (6, dI k)]) (fun k => ⟨S.box, (lp.n, .arr 1 ((fltI o (l.take k)).map dI)) :: S.acc⟩) (fun _ => True) mx (by kernel_rfl) ?_ ?_
  · simp (maxDischargeDepth := 12) (maxSteps := 1000000) -implicitDefEqProofs only [go_sem, Nat.reduceAdd, Nat.reduceSub, Nat.reduceMul, Nat.reduceLeDiff, Nat.reduceEqDiff, Nat.reduceGT, Nat.reduceBEq, reduceCtorEq, ↓reduceIte, Int.reduceToNat, Int.reduceLE, Int.reduceLT, Int.reduceNe, Int.reduceEq]
    exact ⟨.refl _, .refl _⟩
  · intro k hk _
    simp (maxDischargeDepth := 12) (maxSteps := 1000000) -implicitDefEqProofs only [go_sem, Nat.reduceAdd, Nat.reduceSub, Nat.reduceMul, Nat.reduceLeDiff, Nat.reduceEqDiff, Nat.reduceGT, Nat.reduceBEq, reduceCtorEq, ↓reduceIte, Int.reduceToNat, Int.reduceLE, Int.reduceLT, Int.reduceNe, Int.reduceEq]
    refine ⟨fun hlt => ?_, fun hge => ?_⟩
    · have hx : l[k]? = some l[k] := List.getElem?_eq_getElem hlt
      refine loopN [] o.length [0, 1, 5, 6, 7, 8] (fun j => [(7, dB (hitI (o.take j) l[k])), (8, dI j)]) (fun j => ⟨S.box, (lp.n, .arr 1 ((fltI o (l.take k)).map dI)) :: S.acc⟩) (fun _ => True) mx (by kernel_rfl) ?_ ?_
      · simp (maxDischargeDepth := 12) (maxSteps := 1000000) -implicitDefEqProofs only [go_sem, Nat.reduceAdd, Nat.reduceSub, Nat.reduceMul, Nat.reduceLeDiff, Nat.reduceEqDiff, Nat.reduceGT, Nat.reduceBEq, reduceCtorEq, ↓reduceIte, Int.reduceToNat, Int.reduceLE, Int.reduceLT, Int.reduceNe, Int.reduceEq]
        rfl
      · intro j hj _
        have hfl : (fltI o (l.take k)).length ≤ 1048576 := Nat.le_trans (List.length_filter_le _ _) (by rw [List.length_take]; omega)
        have hfs : fltI o (l.take (k + 1)) = fltI o (l.take k) ++ if hitI o l[k] then [] else [l[k]] := by
          unfold fltI
          rw [List.take_add_one, hx, Option.toList_some, List.filter_append]
          congr 1
          cases h : hitI o l[k] <;> simp [h]
        have hj1 : ∀ a, o[j]? = some a → hitI (o.take (j + 1)) l[k] = (hitI (o.take j) l[k] || decide (a = l[k])) := fun a ha => by
          unfold hitI
          rw [List.take_add_one, ha, Option.toList_some]
          rw [Bool.eq_iff_iff]
          simp only [List.mem_append, List.mem_singleton, Bool.or_eq_true, decide_eq_true_eq]
          exact ⟨fun h => h.imp id Eq.symm, fun h => h.imp id Eq.symm⟩
        have hk1 : IntKind.i64.wrap ((k : Int) + 1) = ((k + 1 : Nat) : Int) := by rw [w64 (by omega) (by omega)]; omega
        simp (maxDischargeDepth := 12) (maxSteps := 1000000) -implicitDefEqProofs only [go_sem, Nat.reduceAdd, Nat.reduceSub, Nat.reduceMul, Nat.reduceLeDiff, Nat.reduceEqDiff, Nat.reduceGT, Nat.reduceBEq, reduceCtorEq, ↓reduceIte, Int.reduceToNat, Int.reduceLE, Int.reduceLT, Int.reduceNe, Int.reduceEq, hx]
        refine ⟨fun hlj => ?_, fun hgj => ?_⟩
        · have ho : o[j]? = some o[j] := List.getElem?_eq_getElem hlj
          have hj2 : IntKind.i64.wrap ((j : Int) + 1) = ((j + 1 : Nat) : Int) := by rw [w64 (by omega) (by omega)]; omega
          refine ⟨fun hh => ⟨hlj, by rw [hj1 _ ho, hh]; rfl, hj2⟩, fun hh => ⟨hlj, fun a ha => ⟨hlt, hlj, by rw [hj1 _ ha, hh]; rfl, hj2⟩⟩⟩
        · rw [List.take_of_length_le (Nat.le_of_not_lt hgj)]
          refine ⟨fun hh => ⟨hlt, ⟨?_, hk1⟩, ?_⟩, fun hh => ⟨hlt, by omega, by omega, hlt, ⟨?_, hk1⟩, ?_⟩⟩
          · rw [hfs, hh]; simp only [if_true, List.append_nil]; exact .refl _
          · rw [hfs, hh]; simp only [if_true, List.append_nil]; exact .refl _
          · rw [hfs, hh, List.length_append]; exact .refl _
          · rw [hfs, hh, List.map_append]; exact .refl _
    · rw [List.take_of_length_le (by omega)]
      exact .refl _
set_option maxHeartbeats 4000000 in
theorem refLostW (w0 : W0) (d e : Nat) (a b : N) (S : St) (ha : Nd d a) (hta : totN a ≤ 131072) (hb : Nd e b) (htb : totN b ≤ 131072) : ACall Try.prog w0 36 [eN a, eN b] S (fun e S' => e = dL (fltI (pgsT b) (pgsT a)) ∧ S' = S) := by
  refine fnS [] mx Try.func36 rfl rfl (by kernel_rfl) ?_; simp (maxDischargeDepth := 12) (maxSteps := 1000000) -implicitDefEqProofs only [Try.ntmps36, go_sem, Nat.reduceAdd, Nat.reduceSub, Nat.reduceMul, Nat.reduceLeDiff, Nat.reduceEqDiff, Nat.reduceGT, Nat.reduceBEq, reduceCtorEq, ↓reduceIte, Int.reduceToNat, Int.reduceLE, Int.reduceLT, Int.reduceNe, Int.reduceEq]
  intro b1 b2
  refine useQ (refPagesW w0 d a _ ha hta) ?_
  simp (maxDischargeDepth := 12) (maxSteps := 1000000) -implicitDefEqProofs only [go_sem, Nat.reduceAdd, Nat.reduceSub, Nat.reduceMul, Nat.reduceLeDiff, Nat.reduceEqDiff, Nat.reduceGT, Nat.reduceBEq, reduceCtorEq, ↓reduceIte, Int.reduceToNat, Int.reduceLE, Int.reduceLT, Int.reduceNe, Int.reduceEq]
  refine useQ (refPagesW w0 e b _ hb htb) ?_
  simp (maxDischargeDepth := 12) (maxSteps := 1000000) -implicitDefEqProofs only [go_sem, Nat.reduceAdd, Nat.reduceSub, Nat.reduceMul, Nat.reduceLeDiff, Nat.reduceEqDiff, Nat.reduceGT, Nat.reduceBEq, reduceCtorEq, ↓reduceIte, Int.reduceToNat, Int.reduceLE, Int.reduceLT, Int.reduceNe, Int.reduceEq]
  have hla := pgS_le noB ha
  have hlb := pgS_le noB hb
  refine useQ (withoutR w0 (pgsT a) (pgsT b) _ (by unfold pgsT; rw [srt_length]; omega) (by unfold pgsT; rw [srt_length]; omega)) ?_
  simp (maxDischargeDepth := 12) (maxSteps := 1000000) -implicitDefEqProofs only [go_sem, Nat.reduceAdd, Nat.reduceSub, Nat.reduceMul, Nat.reduceLeDiff, Nat.reduceEqDiff, Nat.reduceGT, Nat.reduceBEq, reduceCtorEq, ↓reduceIte, Int.reduceToNat, Int.reduceLE, Int.reduceLT, Int.reduceNe, Int.reduceEq]
end Go.Proofs.Ytkibkahknibgfaa

namespace Aml
open Go Go.RowKit
set_option linter.unusedVariables false
set_option linter.unusedSimpArgs false

/-- Which of the remaining ones may come: the first, the second, either. -/
inductive Tr where
  | leaf | head (t : Tr) | snd (t : Tr) | both (t u : Tr)
def vwT (P : Program) (w0 : W0) (K : List DV → St → Prop) : Tr → List Oper → List DV → St → Prop
  | .leaf, [], fr, S => K fr S
  | .head t, o :: r, fr, S => vcOp P w0 o.op fr S fun d S' => vwT P w0 K t r (pt fr o.dst d) S'
  | .snd t, p :: o :: r, fr, S => vcOp P w0 o.op fr S fun d S' => vwT P w0 K t (p :: r) (pt fr o.dst d) S'
  | .both t u, p :: o :: r, fr, S => (vcOp P w0 p.op fr S fun d S' => vwT P w0 K t (o :: r) (pt fr p.dst d) S') ∧ vcOp P w0 o.op fr S fun d S' => vwT P w0 K u (p :: r) (pt fr o.dst d) S'
  | _, _, _, _ => False
def okT (ops : Array Oper) : Nat → Array Bool → Tr → List Nat → Bool
  | _, L, .leaf, [] => (Region.ready .any ops L).isEmpty
  | f + 1, L, .head t, i :: r => !(Region.ready .any ops L).isEmpty && (Region.ready .any ops L).all (fun x => x == i) && okT ops f (L.setIfInBounds i true) t r
  | f + 1, L, .snd t, i :: j :: r => !(Region.ready .any ops L).isEmpty && (Region.ready .any ops L).all (fun x => x == j) && okT ops f (L.setIfInBounds j true) t (i :: r)
  | f + 1, L, .both t u, i :: j :: r => !(Region.ready .any ops L).isEmpty && (Region.ready .any ops L).all (fun x => x == i || x == j) && okT ops f (L.setIfInBounds i true) t (j :: r) && okT ops f (L.setIfInBounds j true) u (i :: r)
  | _, _, _, _ => false
def okR (l : List Oper) (t : Tr) : Bool := l.all (fun o => okSl o.op && o.guard.isNone) && okT l.toArray l.length (Array.replicate l.length false) t (List.range l.length)
section
variable {P : Program} {w0 : W0}
theorem vwT_sound {ro : Option Nat} {ops : Array Oper} {g0 : Gh} {Q : Exit → List DV → St → Prop} (hs : ∀ (i : Nat) o, ops[i]? = some o → okSl o.op = true ∧ o.guard = none) : ∀ (fuel : Nat) (L : Array Bool) (t : Tr) (is : List Nat) (l : List Oper) (fr : List DV) (S : St) (g : Gh) (a : Act) (w : World),
    okT ops fuel L t is = true → is.map (ops[·]?) = l.map some → g0.le g → Rel w0 g S w → RepL g fr a.tmps.toList → Dk w0 g.obj a w → vwT P w0 (fun fr S => Q .normal fr S) t l fr S → wpAnyIn (fz ro) 0 P .any ops (Good w0 g0 Q) fuel L a w := by
  have one : ∀ {i : Nat} {o : Oper} {fr : List DV} {S : St} {g : Gh} {a : Act} {w : World} {K : List DV → St → Prop} {K' : Act → World → Prop}, ops[i]? = some o → g0.le g → Rel w0 g S w → RepL g fr a.tmps.toList → Dk w0 g.obj a w →
      (∀ fr S g a w, g0.le g → Rel w0 g S w → RepL g fr a.tmps.toList → Dk w0 g.obj a w → K fr S → K' a w) → (vcOp P w0 o.op fr S fun d S' => K (pt fr o.dst d) S') → wpOpIn (fz ro) 0 P ops (Good w0 g0 Q) i K' a w := by
    intro i o fr S g a w K K' hi k h1 h2 h3 hK h
    obtain ⟨q1, q2⟩ := hs i o hi
    refine step_op k h1 h2 h3 hK ?_ hi
    rw [q2]
    exact vcOp_sound q1 h
  intro fuel
  induction fuel with
  | zero =>
    intro L t is l fr S g a w hok hl k h1 h2 h3 h
    cases t <;> cases is <;> (try cases l) <;> simp_all [okT, vwT, wpAnyIn]
    exact ⟨k.kd h3, g, fr, S, k, h1, h2, h⟩
  | succ fuel ih =>
    intro L t is l fr S g a w hok hl k h1 h2 h3 h
    cases t with
    | leaf =>
      match is, l, hok, hl, h with
      | [], [], hok, _, h =>
        have he : Region.ready .any ops L = [] := by simpa [okT] using hok
        exact ⟨fun _ => ⟨k.kd h3, g, fr, S, k, h1, h2, h⟩, fun i hi => by rw [he] at hi; cases hi⟩
      | [], _ :: _, _, hl, _ => cases hl
      | _ :: _, _, hok, _, _ => simp [okT] at hok
    | head t =>
      match is, l, hok, hl, h with
      | i :: is, o :: l, hok, hl, h =>
        simp only [okT, Bool.and_eq_true, Bool.not_eq_true', List.isEmpty_eq_false_iff] at hok
        simp only [List.map_cons, List.cons.injEq] at hl
        refine ⟨fun e => absurd e hok.1.1, fun x hx => ?_⟩
        have hxi := List.all_eq_true.1 hok.1.2 x hx
        simp only [beq_iff_eq] at hxi
        subst hxi
        exact one hl.1 k h1 h2 h3 (fun fr' S' g' a' w' p1 p2 p3 p4 p5 => ih _ t is l fr' S' g' a' w' hok.2 hl.2 p1 p2 p3 p4 p5) h
      | [], _, hok, _, _ => simp [okT] at hok
      | _ :: _, [], _, hl, _ => cases hl
    | snd t =>
      match is, l, hok, hl, h with
      | i :: j :: is, p :: o :: l, hok, hl, h =>
        simp only [okT, Bool.and_eq_true, Bool.not_eq_true', List.isEmpty_eq_false_iff] at hok
        simp only [List.map_cons, List.cons.injEq] at hl
        refine ⟨fun e => absurd e hok.1.1, fun x hx => ?_⟩
        have hxi := List.all_eq_true.1 hok.1.2 x hx
        simp only [beq_iff_eq] at hxi
        subst hxi
        exact one hl.2.1 k h1 h2 h3 (fun fr' S' g' a' w' p1 p2 p3 p4 p5 => ih _ t (i :: is) (p :: l) fr' S' g' a' w' hok.2 (by simp [hl.1, hl.2.2]) p1 p2 p3 p4 p5) h
      | [], _, hok, _, _ => simp [okT] at hok
      | [_], _, hok, _, _ => simp [okT] at hok
      | _ :: _ :: _, [], _, hl, _ => cases hl
      | _ :: _ :: _, [_], _, hl, _ => simp at hl
    | both t u =>
      match is, l, hok, hl, h with
      | i :: j :: is, p :: o :: l, hok, hl, h =>
        simp only [okT, Bool.and_eq_true, Bool.not_eq_true', List.isEmpty_eq_false_iff] at hok
        simp only [List.map_cons, List.cons.injEq] at hl
        refine ⟨fun e => absurd e hok.1.1.1, fun x hx => ?_⟩
        have hxi := List.all_eq_true.1 hok.1.1.2 x hx
        simp only [Bool.or_eq_true, beq_iff_eq] at hxi
        rcases hxi with hxi | hxi
        · subst hxi
          exact one hl.1 k h1 h2 h3 (fun fr' S' g' a' w' p1 p2 p3 p4 p5 => ih _ t (j :: is) (o :: l) fr' S' g' a' w' hok.1.2 (by simp [hl.2.1, hl.2.2]) p1 p2 p3 p4 p5) h.1
        · subst hxi
          exact one hl.2.1 k h1 h2 h3 (fun fr' S' g' a' w' p1 p2 p3 p4 p5 => ih _ u (i :: is) (p :: l) fr' S' g' a' w' hok.2 (by simp [hl.1, hl.2.2]) p1 p2 p3 p4 p5) h.2
      | [], _, hok, _, _ => simp [okT] at hok
      | [_], _, hok, _, _ => simp [okT] at hok
      | _ :: _ :: _, [], _, hl, _ => cases hl
      | _ :: _ :: _, [_], _, hl, _ => simp at hl
/-- A region, all of its orders walked. -/
theorem allK (t : Tr) {id : Nat} {l : List Oper} {fr : List DV} {S : St} {Q : Exit → List DV → St → Prop} (hm : P.follows .mixedOrders = true) (hB : okR l t = true) (h : vwT P w0 (fun fr S => normF fr fun fr => Q .normal fr S) t l fr S) : AWp P w0 (.region id l.toArray true) fr S Q := by
  simp only [okR, Bool.and_eq_true] at hB
  intro g a w h1 h2 h3
  refine wpA_region_any hm fun ro => ?_
  have hR : Rel w0 g S { w with drawn := w.drawn + 1 } := h1.grow (below_drew w)
  have hs : ∀ (i : Nat) o, l.toArray[i]? = some o → okSl o.op = true ∧ o.guard = none := fun i o hi => by
    have := List.all_eq_true.1 hB.1 o (List.mem_of_getElem? (by simpa using hi))
    simpa using this
  have := vwT_sound (ro := ro) (g0 := g) (Q := Q) hs _ _ t (List.range l.length) l fr S g a _ hB.2 (by
    apply List.ext_getElem?
    intro i
    simp only [List.getElem?_map, List.getElem?_range', List.getElem?_toArray]
    rcases Nat.lt_or_ge i l.length with hi | hi
    · rw [List.getElem?_range hi]; simp [List.getElem?_eq_getElem hi]
    · rw [List.getElem?_eq_none (by simpa using hi), List.getElem?_eq_none hi]; rfl) (.refl g) hR h2 (h3.keep rfl fun _ _ h _ => h) h
  simpa using this
section
variable {K : List DV → St → Prop} {fr : List DV} {S : St} {t u : Tr} {o p : Oper} {r : List Oper} {dst dst2 : Option Tmp} {op op2 : Op} {ty ty2 : TypeId} {pos pos2 : String} {aft aft2 : Array Edge}
theorem t_leaf : vwT P w0 K .leaf [] fr S = K fr S := rfl
theorem t_head : vwT P w0 K (.head t) (⟨dst, op, ty, pos, aft, none⟩ :: r) fr S = vcOp P w0 op fr S fun d S' => vwT P w0 K t r (pt fr dst d) S' := rfl
theorem t_snd : vwT P w0 K (.snd t) (p :: ⟨dst, op, ty, pos, aft, none⟩ :: r) fr S = vcOp P w0 op fr S fun d S' => vwT P w0 K t (p :: r) (pt fr dst d) S' := rfl
theorem t_both : vwT P w0 K (.both t u) (⟨dst, op, ty, pos, aft, none⟩ :: ⟨dst2, op2, ty2, pos2, aft2, none⟩ :: r) fr S = ((vcOp P w0 op fr S fun d S' => vwT P w0 K t (⟨dst2, op2, ty2, pos2, aft2, none⟩ :: r) (pt fr dst d) S') ∧ vcOp P w0 op2 fr S fun d S' => vwT P w0 K u (⟨dst, op, ty, pos, aft, none⟩ :: r) (pt fr dst2 d) S') := rfl
@[congr] theorem c_vwT {fr' : List DV} {S' : St} (h1 : fr = fr') (h2 : S = S') : vwT P w0 K t r fr S = vwT P w0 K t r fr' S' := by cases h1; cases h2; rfl
end
end
attribute [go_sem ↓] t_leaf t_head t_snd t_both
end Aml

namespace Aml
open Go Go.RowKit
set_option linter.unusedVariables false
set_option linter.unusedSimpArgs false
section
variable {P : Program} {w0 : W0}
/-- What is made is frozen, its own objects forgotten. -/
theorem yields_q {o : Oper} {ρD : Operand → DV} {S : St} {r : DV} (h : YieldsE P w0 o ρD S fun d S' => shr S' d fun d' S'' => d' = r ∧ Sub S S'') : YieldsE P w0 o ρD S fun d S' => d = r ∧ S' = S := by
  intro g w ρ h1 h2 hcst
  have := h g w ρ h1 h2 hcst
  split at this
  · obtain ⟨g', d, S', a, b, c, e⟩ := this
    obtain ⟨g2, d2, S2, q1, q2, q3, q4, q5⟩ := shr_ok b c e
    exact ⟨g2, d2, S, a.trans q1, q2.forget q5.box q5.acc, q3, q4, rfl⟩
  · obtain ⟨g', S', a, b, e⟩ := this
    have e : ud = r ∧ Sub S S' := e
    exact ⟨g', S, a, b.forget e.2.box e.2.acc, e.1, rfl⟩
  · refine this.mono ?_
    rintro e w'' ⟨r', g', d, S', a, b, c, x, y⟩
    obtain ⟨g2, d2, S2, q1, q2, q3, q4, q5⟩ := shr_ok c x y
    exact ⟨r', g2, d2, S, a, b.trans q1, q2.forget q5.box q5.acc, q3, q4, rfl⟩
  · refine fun ro => (this ro).mono ?_
    rintro e w'' ⟨r', g', d, S', a, b, c, x, y⟩
    obtain ⟨g2, d2, S2, q1, q2, q3, q4, q5⟩ := shr_ok c x y
    exact ⟨r', g2, d2, S, a, b.trans q1, q2.forget q5.box q5.acc, q3, q4, rfl⟩
  · exact this
def vMakeQ (k : TK) (z x y : DV) (K : DV → Prop) : Prop := match k, x, y with
  | .sl _ s by' true, .v (.int _ n), .v (.int _ m) => okE z = true ∧ 0 ≤ n ∧ n ≤ m ∧ m * by' ≤ 140737488355328 ∧ m ≤ 9223372036854775807 ∧ K (.sl s false (List.replicate n.toNat z))
  | _, _, _ => False
def vConvZ (a b ke : TK) (x : DV) (K : DV → Prop) : Prop := match a, b, x with
  | .sl _ _ _ _, .str, .sl s _ xs => ke = .int .u8 ∧ s = 1 ∧ okBy xs = true ∧ K (.v (.string (strOfNums (byD xs))))
  | a, b, x => vConv a b x K
def opZ (P : Program) (w0 : W0) (op : Op) (fr : List DV) (S : St) (K : DV → Prop) : Prop := match op with
  | .makeSlice t x y => vMakeQ (tk P t) (zD P (elT P t)) (ev fr x) (ev fr y) K
  | .convert s d x => vConvZ (tk P s) (tk P d) (tk P (elT P s)) (ev fr x) K
  | op => vcOpQ P w0 op fr S K
def isQZ : Op → Bool
  | .makeSlice .. => true
  | op => isQ op
def LZ (P : Program) (w0 : W0) (S : St) (ops : Array Oper) (K : List DV → St → Prop) : List Oper → List DV → Prop
  | [], fr => K fr S
  | o :: rest, fr => selK (isQZ o.op) (guardK ops fr o.guard (fun fr => opZ P w0 o.op fr S fun d => LZ P w0 S ops K rest (pt fr o.dst d)) (fun fr => LZ P w0 S ops K rest (pt fr o.dst ud))) (vcL P w0 ops K (o :: rest) fr S)
theorem opZ_sound {o : Oper} {fr : List DV} {S : St} {K : DV → Prop} (hs : okSl o.op = true) (h : opZ P w0 o.op fr S K) : ∃ d, QY P w0 S o fr d ∧ K d := by
  cases hop : o.op with
  | makeSlice t x y =>
    rw [hop] at h
    simp only [opZ, vMakeQ] at h
    split at h
    · rename_i e s by' k1 n k2 m hk hx hy
      obtain ⟨q1, q2, q3, q4, q5, q6⟩ := h
      refine ⟨_, yields_q (y_makeSlice hop ?_), q6⟩
      rw [hk, hx, hy]
      refine ⟨q1, q2, q3, q4, q5, fun l hl => ?_⟩
      show shr _ _ _
      unfold shr shr1
      simp only [lk, if_true, List.length_replicate, true_and]
      exact ⟨List.Sublist.refl _, by show List.Sublist S.acc (up _ _ _); simp only [up, if_true]; exact List.sublist_cons_self _ _⟩
    · exact h.elim
  | convert s d x =>
    rw [hop] at h hs
    simp only [opZ, vConvZ] at h
    split at h
    · rename_i e c b i s0 f xs hk hd hx
      obtain ⟨q1, q2, q3, q4⟩ := h
      refine ⟨_, y_convS (K := fun d S' => d = _ ∧ S' = S) hop ?_, q4⟩
      rw [hk, hd, hx]
      exact ⟨q1, rfl, q2, q3, rfl, rfl⟩
    · exact vcOpQ_sound (by rw [hop]; exact hs) (by rw [hop]; exact h)
  | _ => rw [hop] at h hs; exact vcOpQ_sound (by rw [hop]; exact hs) (by rw [hop]; exact h)
def nprZ (l : List Oper) : Nat := (l.takeWhile fun o => isQZ o.op).length
theorem LZ_split {S : St} {ops : Array Oper} {K : List DV → St → Prop} : ∀ {l : List Oper} {fr : List DV}, l.all (fun o => okSl o.op) = true → LZ P w0 S ops K l fr → LQ P w0 S ops (fun fr => vcL P w0 ops K (l.drop (nprZ l)) fr S) (l.take (nprZ l)) fr
  | [], fr, _, h => h
  | o :: rest, fr, hs, h => by
    simp only [List.all_cons, Bool.and_eq_true] at hs
    unfold LZ selK at h
    cases hq : isQZ o.op with
    | true =>
      rw [hq] at h
      simp only at h
      have e : nprZ (o :: rest) = nprZ rest + 1 := by simp [nprZ, hq]
      rw [e, List.take_succ_cons, List.drop_succ_cons]
      exact guardK_mono (fun fr h => by obtain ⟨d, q1, q2⟩ := opZ_sound hs.1 h; exact ⟨d, q1, LZ_split hs.2 q2⟩) (fun fr h => LZ_split hs.2 h) h
    | false =>
      rw [hq] at h
      have e : nprZ (o :: rest) = 0 := by simp [nprZ, hq]
      rw [e]
      exact h
/-- What such a region asks. -/
def okZ (l : List Oper) : Bool := l.all (fun o => okSl o.op && o.guard.isNone) && Region.lexB .any (l.take (nprZ l)).toArray && tailB .any l.toArray (nprZ l)
theorem makeK {id : Nat} {l : List Oper} {fr : List DV} {S : St} {Q : Exit → List DV → St → Prop} (hm : P.follows .mixedOrders = true) (hB : okZ l = true) (h : LZ P w0 S l.toArray (fun fr S => normF fr fun fr => Q .normal fr S) l fr) : AWp P w0 (.region id l.toArray true) fr S Q := by
  simp only [okZ, Bool.and_eq_true] at hB
  obtain ⟨⟨b1, b2⟩, b3⟩ := hB
  have hs : l.all (fun o => okSl o.op) = true := List.all_eq_true.2 fun o ho => by
    have := List.all_eq_true.1 b1 o ho
    simp only [Bool.and_eq_true] at this
    exact this.1
  have hn : nprZ l ≤ l.length := List.Sublist.length_le (List.takeWhile_sublist _)
  refine awp_drawT (nprZ l) hn hm b2 b3 hs (LQ_arr ?_ (LZ_split hs h))
  intro o ho j want hg
  have := List.all_eq_true.1 b1 o (List.mem_of_mem_take ho)
  simp [hg] at this
section
variable {ops : Array Oper} {K : List DV → St → Prop} {K2 : DV → Prop} {fr : List DV} {S : St} {r : List Oper} {dst : Option Tmp} {op : Op} {ty : TypeId} {pos : String} {aft : Array Edge}
theorem z_nil : LZ P w0 S ops K [] fr = K fr S := rfl
theorem z_none : LZ P w0 S ops K (⟨dst, op, ty, pos, aft, none⟩ :: r) fr = selK (isQZ op) (opZ P w0 op fr S fun d => LZ P w0 S ops K r (pt fr dst d)) (vcL P w0 ops K (⟨dst, op, ty, pos, aft, none⟩ :: r) fr S) := rfl
theorem z_make (t : TypeId) (x y : Operand) : opZ P w0 (.makeSlice t x y) fr S K2 = vMakeQ (tk P t) (zD P (elT P t)) (ev fr x) (ev fr y) K2 := rfl
theorem z_conv (s d : TypeId) (x : Operand) : opZ P w0 (.convert s d x) fr S K2 = vConvZ (tk P s) (tk P d) (tk P (elT P s)) (ev fr x) K2 := rfl
theorem z_load (t : TypeId) (x : Operand) : opZ P w0 (.load t x) fr S K2 = vcOpQ P w0 (.load t x) fr S K2 := rfl
theorem z_move (x : Operand) : opZ P w0 (.move x) fr S K2 = vcOpQ P w0 (.move x) fr S K2 := rfl
theorem z_assign (x : Operand) : opZ P w0 (.assign x) fr S K2 = vcOpQ P w0 (.assign x) fr S K2 := rfl
theorem z_index (t : TypeId) (x i : Operand) : opZ P w0 (.indexAddr t x i) fr S K2 = vcOpQ P w0 (.indexAddr t x i) fr S K2 := rfl
theorem z_field (t : TypeId) (x : Operand) (f : Nat) : opZ P w0 (.fieldAddr t x f) fr S K2 = vcOpQ P w0 (.fieldAddr t x f) fr S K2 := rfl
theorem z_call (c : Call) : opZ P w0 (.call c) fr S K2 = vcOpQ P w0 (.call c) fr S K2 := rfl
theorem z_vmake (e s b : Nat) (z : DV) (k1 k2 : IntKind) (n m : Int) : vMakeQ (.sl e s b true) z (.v (.int k1 n)) (.v (.int k2 m)) K2 = (okE z = true ∧ 0 ≤ n ∧ n ≤ m ∧ m * b ≤ 140737488355328 ∧ m ≤ 9223372036854775807 ∧ K2 (.sl s false (List.replicate n.toNat z))) := rfl
theorem z_vconv (e c b : Nat) (i : Bool) (ke : TK) (s : Nat) (f : Bool) (xs : List DV) : vConvZ (.sl e c b i) .str ke (.sl s f xs) K2 = (ke = .int .u8 ∧ s = 1 ∧ okBy xs = true ∧ K2 (.v (.string (strOfNums (byD xs))))) := rfl
@[congr] theorem c_LZ {fr' : List DV} (h1 : fr = fr') : LZ P w0 S ops K r fr = LZ P w0 S ops K r fr' := by cases h1; rfl
@[congr] theorem c_opZ {fr' : List DV} (h1 : fr = fr') : opZ P w0 op fr S K2 = opZ P w0 op fr' S K2 := by cases h1; rfl
@[congr] theorem c_vMakeQ {k k' : TK} {z z' x x' y y' : DV} (h1 : k = k') (h2 : z = z') (h3 : x = x') (h4 : y = y') : vMakeQ k z x y K2 = vMakeQ k' z' x' y' K2 := by cases h1; cases h2; cases h3; cases h4; rfl
@[congr] theorem c_vConvZ {k k' q q' ke ke' : TK} {x x' : DV} (h1 : k = k') (h2 : q = q') (h3 : ke = ke') (h4 : x = x') : vConvZ k q ke x K2 = vConvZ k' q' ke' x' K2 := by cases h1; cases h2; cases h3; cases h4; rfl
end
end
attribute [go_sem ↓] z_nil z_none z_make z_conv z_load z_move z_assign z_index z_field z_call
attribute [go_sem] z_vmake z_vconv isQZ
end Aml
