/-
  Which pages a tree has lost: the program; Views as the program has them, of the reference's; the trees of a view, one by one; Numbers, sums and pages as texts: what the reference computes; Nodes as pages: what the reference computes; Long values as pages: what the reference computes; A tree laid on pages: what the reference computes; A value, and a cell, laid on pages: what the reference computes; A tree's entries: what the reference computes (in a view's words); What a view's names are; what was put is got: plain laws; Whether a tree may be: what the program computes; A tree laid on pages: what the reference computes; Trees marked as laid, and as the program has them; walked; Trees as the program has them; the laws of marked ones; What the functions of pools compute; Rows of pages; rooms; what is the same; Numbers put together, in order; Numbers in order, as the document has them; the plain laws of order; What the reference tells of a tree's pages; What the reference tells of a tree's pages, and of lost ones; A tree laid on pages: plain laws; A tree laid on pages: what it stays; A tree laid on pages: the pages it has; What trees keep when they are mended: whatever cells tell; pages are never new: plain laws; The trees of steps, by the references; The example of the statement is as it says; Marked trees: their pages, and how many are taken: plain laws; What the trees of steps are: plain laws; A tree laid on pages: all of it is laid; A tree laid on pages: its entries may stand on a page; A laid tree stands on pages: plain laws; Views laid on pages: plain laws; How many pages a view takes, which it has, and which another one has lost: the program; What a view has lost, what a commit of it takes, and whether it has room: the program; What a commit of a view takes, and whether it has room: the program; the law's example. By an AI agent.
-/
import Derived.Test.YtfieabidajilmaaGreatMN5
import Derived.Test.YtfieabidajilmaaGreatMN3
import Derived.Test.YtfieabidajilmaaGreatMN4
namespace Go.Proofs.YtfieabidajilmaaGreat
open Aml Go
set_option linter.unusedVariables false
set_option linter.unusedSimpArgs false
set_option maxRecDepth 100000

set_option maxHeartbeats 400000 in
theorem nanC (w0 : W0) (a : Int) (S : St) : ACall Tryz.prog w0 136 [dI a] S (fun d S' => d = dB false ∧ S' = S) := by
  refine fnS [] mx Tryz.func136 rfl rfl (by kernel_rfl) ?_; exact @goW _ (goT1 @Tryz.ntmps136)
set_option maxHeartbeats 400000 in
theorem nanS (w0 : W0) (a : Int) (S : St) : ACall Tryz.prog w0 110 [dI a] S (fun d S' => d = dB false ∧ S' = S) := by
  refine fnS [] mx Tryz.func110 rfl rfl (by kernel_rfl) ?_; exact @goW _ (goT1 @Tryz.ntmps110)
set_option maxHeartbeats 400000 in
theorem lessC (w0 : W0) (a b : Int) (S : St) : ACall Tryz.prog w0 109 [dI a, dI b] S (fun d S' => d = dB (decide (a < b)) ∧ S' = S) := by
  refine fnS [] mx Tryz.func109 rfl rfl (by kernel_rfl) ?_; refine @goW _ (goS1 @Tryz.ntmps109 ?_)
  refine use1 (nanC w0 a S) ?_
  exact @goW _ goT
/-- A row that rises. -/
def Up (l : List Int) : Prop := ∀ (i j : Nat) (a b : Int), i ≤ j → l[i]? = some a → l[j]? = some b → a ≤ b
set_option maxHeartbeats 4000000 in
theorem searchW (w0 : W0) (l : List Int) (p : Int) (S : St) (hl : Up l) (hb : l.length ≤ 1073741824) : ACall Tryz.prog w0 70 [dL l, dI p] S (fun d S' => d = .tup [.any, dB (decide (p ∈ l))] ∧ S' = S) := by
  refine fnS [] mx Tryz.func70 rfl rfl (by kernel_rfl) ?_; refine @goW _ (goS1 @Tryz.ntmps70 ?_)
  refine loopK [] [0, 1, 6, 7, 8] (fun s : Nat × Nat => [(7, dI s.1), (8, dI s.2)]) (fun _ => S) (fun s => s.1 ≤ s.2 ∧ s.2 ≤ l.length ∧ (∀ (i : Nat) a, i < s.1 → l[i]? = some a → a < p) ∧ ∀ (i : Nat) a, s.2 ≤ i → l[i]? = some a → p ≤ a) (fun s => s.2 - s.1) (0, l.length) mx (by kernel_rfl) ?_ ?_
  · refine @goW _ (goS ?_)
    exact ⟨Nat.zero_le _, fun i a h => absurd h (by omega), fun i a h e => absurd (List.getElem?_eq_some_iff.1 e).1 (by omega)⟩
  · rintro ⟨i, j⟩ ⟨h1, h2, h3, h4⟩
    simp only at h1 h2 h3 h4
    have eh : IntKind.i64.wrap ((IntKind.u64.wrap (IntKind.i64.wrap ((i : Int) + j))).fdiv (2 ^ min 1 64)) = (((i + j) / 2 : Nat) : Int) := by
      rw [w64 (n := (i : Int) + j) (by omega) (by omega), wu64 (by omega) (by omega), Int.fdiv_eq_ediv_of_nonneg _ (by decide)]
      simp only [show min 1 64 = 1 from rfl, Int.pow_one]
      rw [w64 (by omega) (by omega)]
      omega
    refine @goW _ (goS1 @eh ?_)
    refine ⟨fun hlt => ⟨by omega, fun a ha => use1 (lessC w0 a p S) ?_⟩, fun hge => ⟨fun hlt => ⟨hlt, fun a ha => ⟨fun hap => Wk.tup (.cons (.any _) (.cons (.eq ?_) .nil)), fun hap => ⟨hlt, fun c hc => use1 (nanS w0 c S) ?_⟩⟩⟩, fun hn => ?_⟩⟩
    · refine @goW _ (goS1 @eh ?_)
      refine ⟨fun hap => ⟨((i + j) / 2 + 1, j), ⟨by simp only; omega, h2, fun x c hx hc => ?_, h4⟩, by simp only; omega, by rw [w64 (by omega) (by omega)]; rfl, rfl⟩, fun hap => ⟨(i, (i + j) / 2), ⟨by simp only; omega, by simp only; omega, h3, fun x c hx hc => ?_⟩, by simp only; omega, rfl, rfl⟩⟩
      · simp only at hx
        have := hl x ((i + j) / 2) c a (by omega) hc ha
        omega
      · simp only at hx
        have := hl ((i + j) / 2) x a c hx ha hc
        omega
    · have hin : p ∈ l := hap ▸ List.mem_of_getElem? ha
      rw [decide_eq_true hin]
    · refine @goW _ (goS ?_)
      have hni : ¬ p ∈ l := fun hin => by
        obtain ⟨x, hx⟩ := List.mem_iff_getElem?.1 hin
        rcases Nat.lt_or_ge x i with h | h
        · have := h3 x p h hx; omega
        · have hle := hl i x a p h ha hx
          have := h4 i a (by omega) ha
          omega
      rw [decide_eq_false hni]
      exact Wk.tup (.cons (.any _) (.cons (.refl _) .nil))
    · have hni : ¬ p ∈ l := fun hin => by
        obtain ⟨x, hx⟩ := List.mem_iff_getElem?.1 hin
        have hxl := (List.getElem?_eq_some_iff.1 hx).1
        have := h3 x p (by omega) hx
        omega
      rw [decide_eq_false hni]
      exact Wk.tup (.cons (.any _) (.cons (.refl _) .nil))
def hitI (l : List Int) (p : Int) : Bool := decide (p ∈ l)
def fltI (l zs : List Int) : List Int := zs.filter fun p => !hitI l p
/-- Where the first one stands, or -1. -/
def idxI (l zs : List Int) : Int := if zs.findIdx (hitI l) < zs.length then (zs.findIdx (hitI l) : Int) else -1
theorem srt_Up (l : List Int) : Up (srt l) := by
  have hp : (srt l).Pairwise (fun x y => decide (x ≤ y) = true) := List.pairwise_mergeSort (by intro a b c; simp; omega) (by intro a b; simp; omega) l
  intro i j a b hij ha hb
  obtain ⟨hi, rfl⟩ := List.getElem?_eq_some_iff.1 ha
  obtain ⟨hj, rfl⟩ := List.getElem?_eq_some_iff.1 hb
  rcases Nat.lt_or_ge i j with h | h
  · have := List.pairwise_iff_getElem.1 hp i j hi hj h
    simpa using this
  · have : i = j := by omega
    subst this; exact Int.le_refl _
/-- A tree's pages. -/
def pgsT (n : N) : List Int := srt (pgS (visN noB n))
end Go.Proofs.YtfieabidajilmaaGreat

namespace Go.Proofs.YtfieabidajilmaaGreat
open Aml Go
set_option linter.unusedVariables false
set_option linter.unusedSimpArgs false
set_option maxRecDepth 100000
set_option maxHeartbeats 8000000 in
theorem nodeL22 (w0 : W0) : ∀ (d : Nat) (n : N) (S : St), Nd d n → totN n ≤ 131072 → ACall Tryz.prog w0 65 [eN n] S (fun e S' => e = eT n ∧ S' = S) := by
  intro d
  induction d with
  | zero =>
    intro n S hn ht
    have hlf := hn.1
    have hl := tot_len n
    have hres : eT n = .agg [dI n.page, dB true, .sl 1 false (n.l.map fun c => dS c.key), .sl 2 false (n.l.map dV2), .sl 5 false []] := by
      show DV.agg _ = _
      rw [kidsOf_leaf hlf, hlf]; rfl
    rw [hres]
    refine fnS [] mx Tryz.func65 rfl rfl (by kernel_rfl) ?_; (refine @goW _ ?_; refine goS2 @Tryz.ntmps65 @hlf ?_)
    intro b b1 b2
    refine awp_growB b2.n 2 1 (by omega) (q_lk_same _ _ _) rfl fun lk1 => ?_
    (refine @goW _ ?_; refine goS ?_)
    refine awp_growB b2.n 3 2 (by omega) (q_lk_same _ _ _) rfl fun lv => ?_
    (refine @goW _ ?_; refine goS ?_)
    refine loopN [] n.l.length [1, 2, 3, 4] (fun k => [(4, dI k)]) (fun k => ⟨(b2.n, [dI n.page, dB true, .acc lk1.n k, .acc lv.n k, .sl 0 true []]) :: (b1.n, [dI 0, dB false, .sl 0 true [], .sl 0 true [], .sl 0 true []]) :: (b.n, [dI n.page, dB true, .sl 4 false (n.l.map dC)]) :: S.box, (lv.n, .arr 2 ((n.l.take k).map dV2)) :: (lk1.n, .arr 1 ((n.l.take k).map fun c => dS c.key)) :: S.acc⟩) (fun _ => True) mx (by kernel_rfl) ?_ ?_
    · (refine @goW _ ?_; exact goT)
    · intro k hk' _
      have hml : (n.l.take k).length = k := by rw [List.length_take]; omega
      have hm8 : maxLen = 9223372036854775807 := rfl
      (refine @goW _ ?_; refine goS1 @hml ?_)
      refine ⟨fun hlt => ⟨hlt, fun c hc => ⟨by omega, by omega, hlt, fun c2 hc2 => ⟨hlt, fun c3 hc3 => ⟨by omega, by omega, hlt, by rw [w64 (by omega) (by omega)]; omega, ?_⟩⟩⟩⟩, fun hge => ?_⟩
      · rw [hc] at hc2 hc3
        cases hc2; cases hc3
        have ht1 : n.l.take (k + 1) = n.l.take k ++ [c] := by rw [List.take_add_one, hc]; rfl
        rw [ht1]
        simp (maxDischargeDepth := 12) (maxSteps := 1000000) -implicitDefEqProofs only [go_sem, Nat.reduceAdd, Nat.reduceSub, Nat.reduceMul, Nat.reduceLeDiff, Nat.reduceEqDiff, Nat.reduceGT, Nat.reduceBEq, reduceCtorEq, ↓reduceIte, Int.reduceToNat, Int.reduceLE, Int.reduceLT, Int.reduceNe, Int.reduceEq, List.map_append, List.map_cons, List.map_nil]
      · rw [List.take_of_length_le (by omega)]
        exact .agg (.cons (.refl _) (.cons (.refl _) (.cons (.refl _) (.cons (.refl _) (.cons (.nil _ _ _) .nil)))))
  | succ d ih =>
    intro n S hn ht
    have hlf := hn.1
    have hl := tot_len n
    have hres : eT n = .agg [dI n.page, dB false, .sl 1 false (n.l.map fun c => dS c.key), .sl 2 false [], .sl 5 false ((n.l.flatMap fun c => c.kid.take 1).map dT)] := by
      show DV.agg _ = _
      rw [kidsOf_br hlf, hlf]; rfl
    rw [hres]
    refine fnS [] mx Tryz.func65 rfl rfl (by kernel_rfl) ?_; (refine @goW _ ?_; refine goS2 @Tryz.ntmps65 @hlf ?_)
    intro b b1 b2
    refine awp_growB b2.n 2 1 (by omega) (q_lk_same _ _ _) rfl fun lk1 => ?_
    (refine @goW _ ?_; refine goS ?_)
    refine awp_growB b2.n 4 5 (by omega) (q_lk_same _ _ _) rfl fun lv => ?_
    (refine @goW _ ?_; refine goS ?_)
    refine loopN [] n.l.length [1, 2, 3, 4] (fun k => [(4, dI k)]) (fun k => ⟨(b2.n, [dI n.page, dB false, .acc lk1.n k, .sl 0 true [], .acc lv.n k]) :: (b1.n, [dI 0, dB false, .sl 0 true [], .sl 0 true [], .sl 0 true []]) :: (b.n, [dI n.page, dB false, .sl 4 false (n.l.map dC)]) :: S.box, (lv.n, .arr 5 (((n.l.take k).flatMap fun c => c.kid.take 1).map dT)) :: (lk1.n, .arr 1 ((n.l.take k).map fun c => dS c.key)) :: S.acc⟩) (fun _ => True) mx (by kernel_rfl) ?_ ?_
    · (refine @goW _ ?_; refine goS ?_)
      exact .refl _
    · intro k hk' _
      have hml : (n.l.take k).length = k := by rw [List.length_take]; omega
      have hkl : ((n.l.take k).flatMap fun c => c.kid.take 1).length = k := by
        have : ∀ l : List C, (∀ c, c ∈ l → ∃ k, c.kid = [k]) → (l.flatMap fun c => c.kid.take 1).length = l.length := by
          intro l
          induction l with
          | nil => intro _; rfl
          | cons c l ih2 =>
            intro h
            obtain ⟨k, hk⟩ := h c List.mem_cons_self
            rw [List.flatMap_cons, List.length_append, ih2 fun c hc => h c (List.mem_cons_of_mem _ hc), hk]
            simp; omega
        rw [this _ fun c hc => by obtain ⟨_, kid, hkid, _⟩ := hn.2.2 c (List.mem_of_mem_take hc); exact ⟨kid, hkid⟩, hml]
      have hm8 : maxLen = 9223372036854775807 := rfl
      (refine @goW _ ?_; refine goS2 @hml @hkl ?_)
      refine ⟨fun hlt => ⟨hlt, fun c hc => ⟨by omega, by omega, hlt, fun c2 hc2 => ?_⟩⟩, fun hge => ?_⟩
      · rw [hc] at hc2
        cases hc2
        obtain ⟨_, kid, hkid, hnd⟩ := hn.2.2 c (List.mem_of_getElem? hc)
        have htk := tot_kid (List.mem_of_getElem? hc) hkid
        have ht1 : n.l.take (k + 1) = n.l.take k ++ [c] := by rw [List.take_add_one, hc]; rfl
        rw [hkid]
        refine ⟨by simp, fun c4 hc4 => ?_⟩
        cases hc4
        refine useQ (ih kid _ hnd (by omega)) ?_
        (refine @goW _ ?_; refine goS2 @hkl (Nat.min_eq_left hk') ?_)
        refine ⟨by omega, by omega, hlt, by rw [w64 (by omega) (by omega)]; omega, ?_⟩
        rw [ht1, List.flatMap_append, List.flatMap_cons, List.flatMap_nil, hkid]
        simp (maxDischargeDepth := 12) (maxSteps := 1000000) -implicitDefEqProofs only [go_sem, Nat.reduceAdd, Nat.reduceSub, Nat.reduceMul, Nat.reduceLeDiff, Nat.reduceEqDiff, Nat.reduceGT, Nat.reduceBEq, reduceCtorEq, ↓reduceIte, Int.reduceToNat, Int.reduceLE, Int.reduceLT, Int.reduceNe, Int.reduceEq, List.map_append, List.map_cons, List.map_nil, List.append_nil, List.take_succ_cons, List.take_zero]
      · rw [List.take_of_length_le (by omega)]
        exact .agg (.cons (.refl _) (.cons (.refl _) (.cons (.refl _) (.cons (.nil _ _ _) (.cons (.refl _) .nil)))))
theorem tbNode22 (w0 : W0) {k : Nat} {n : N} (h : TB k n) (hk : k ≤ 116) (S : St) : ACall Tryz.prog w0 65 [eN n] S (fun e S' => e = eT n ∧ S' = S) := by
  obtain ⟨hr, d, hg, hd, ht⟩ := h
  exact nodeL22 w0 d n S (good_nd hg) (by omega)
set_option maxHeartbeats 8000000 in
theorem shownW (w0 : W0) (k : Nat) (n : N) (l : List C) (S : St) (h : VI k n l) (hk : k ≤ 116) : ACall Tryz.prog w0 29 [eL n l] S (fun d S' => d = eV n l ∧ S' = S) := by
  have hln := h.len
  have hdn := fun S => tbNode22 w0 h.dir hk S
  have hcn := fun c (hc : c ∈ l) S => tbNode22 w0 (h.cell c hc).2.1 hk S
  refine fnS [] mx Tryz.func29 rfl rfl (by kernel_rfl) ?_; (refine @goW _ ?_; refine goS1 @Tryz.ntmps29 ?_)
  intro b b2
  refine use1 (hdn _) ?_
  (refine @goW _ ?_; refine goS ?_)
  intro b3
  refine awp_growB b3.n 5 6 (by omega) (q_lk_same _ _ _) rfl fun lk => ?_
  (refine @goW _ ?_; refine goS ?_)
  refine loopN [] l.length [1, 2, 3, 4] (fun k => [(4, dI k)]) (fun k => ⟨(b3.n, [dI n.page, dB n.leaf, .sl 1 false (n.l.map fun c => dS c.key), .sl 2 false ((if n.leaf then n.l else []).map dV2), .sl 5 false ((kidsOf n).map dT), .acc lk.n k]) :: (b2.n, [dI 0, dB false, .sl 0 true [], .sl 0 true [], .sl 0 true [], .sl 0 true []]) :: (b.n, [dI n.page, dB n.leaf, .sl 4 false (n.l.map dC), .sl 4 false (l.map dBl)]) :: S.box, (lk.n, .arr 6 ((l.take k).map dBk)) :: S.acc⟩) (fun _ => True) mx (by kernel_rfl) ?_ ?_
  · (refine @goW _ ?_; exact goT)
  · intro j hj _
    have hml : (l.take j).length = j := by rw [List.length_take]; omega
    (refine @goW _ ?_; refine goS1 @hml ?_)
    refine ⟨fun hlt => ⟨hlt, fun c hc => ⟨hlt, fun c2 hc2 => ?_⟩⟩, fun hge => ?_⟩
    · cases getE hc hc2
      refine useQ (hcn c (List.mem_of_getElem? hc) _) ?_
      have ht1 : l.take (j + 1) = l.take j ++ [c] := by rw [List.take_add_one, hc]; rfl
      rw [ht1]
      simp (maxDischargeDepth := 12) (maxSteps := 1000000) -implicitDefEqProofs only [go_sem, Nat.reduceAdd, Nat.reduceSub, Nat.reduceMul, Nat.reduceLeDiff, Nat.reduceEqDiff, Nat.reduceGT, Nat.reduceBEq, reduceCtorEq, ↓reduceIte, Int.reduceToNat, Int.reduceLE, Int.reduceLT, Int.reduceNe, Int.reduceEq, hml, List.map_append, List.map_cons, List.map_nil]
      exact ⟨by omega, by unfold maxLen; omega, hlt, i_oneV j (by omega)⟩
    · rw [List.take_of_length_le (by omega)]
      exact .refl _
/-- A view in a box. -/
def rowV (n : N) (l : List C) : List DV := [dI n.page, dB n.leaf, .sl 1 false (n.l.map fun c => dS c.key), .sl 2 false ((if n.leaf then n.l else []).map dV2), .sl 5 false ((kidsOf n).map dT), .sl 6 false (l.map dBk)]
set_option maxHeartbeats 4000000 in
theorem treesW (w0 : W0) (n : N) (l : List C) (S : St) : ACall Tryz.prog w0 66 [eV n l] S (fun d S' => ∃ b : FN S.box, d = .v (.func (.func 104) #[] #[.pointer (some ⟨b.n, 0, none⟩)]) ∧ S' = ⟨(b.n, rowV n l) :: S.box, S.acc⟩) := by
  refine fnO [] mx Tryz.func66 rfl rfl (by kernel_rfl) ?_; (refine @goW _ ?_; refine goS1 @Tryz.ntmps66 ?_)
  exact fun b => ⟨b, rfl, rfl⟩
/-- A view's trees, as need tells them. -/
def treL (n : N) (l : List C) : List N := n :: l.map kid0
structure Wk2 where
  T : St
  k : Nat
set_option maxHeartbeats 8000000 in
theorem iterT (w0 : W0) (y b2 : Nat) (n : N) (l : List C) (X : List N → St) (hl : l.length ≤ 1048576)
    (h2 : ∀ pre, lk (X pre).box b2 = some (rowV n l))
    (hy : YK Tryz.prog w0 y X (fun x => [eT x]) (treL n l)) : ∀ T, Has (X []) T → ACall Tryz.prog w0 104 [.v (.func (.yield y) #[] #[]), .v (.pointer (some ⟨b2, 0, none⟩))] T (fun _ T' => Has (X (treL n l)) T') := by
  intro T hT
  have t2 : lk T.box b2 = some (rowV n l) := hT.box _ _ (h2 [])
  unfold rowV at t2 h2
  refine fnO [] mx Tryz.func104 rfl rfl (by kernel_rfl) ?_; simp only [Tryz.ntmps104, List.length_cons, List.length_nil, Nat.reduceAdd, Nat.reduceSub, List.reduceReplicate, List.cons_append, List.nil_append]; (refine @goW _ ?_; refine goS2 @Tryz.ntmps104 @t2 ?_)
  have hp0 : ([] ++ [n]) <+: treL n l := ⟨l.map kid0, rfl⟩
  refine useY (hy [] n _ hp0 hT) ?_
  rintro d T2 ⟨rfl, hT2, hK⟩
  have u2 := hT2.box _ _ (h2 _)
  (refine @goW _ ?_; refine goS1 @u2 ?_)
  refine loopK [] [0, 11, 12, 13] (fun s : Wk2 => [(13, dI s.k)]) (fun s => s.T) (fun s => s.k ≤ l.length ∧ Has (X (n :: (l.take s.k).map kid0)) s.T) (fun s => l.length - s.k) ⟨T2, 0⟩ mx (by kernel_rfl) ?_ ?_
  · (refine @goW _ ?_; refine goS ?_)
    exact ⟨Nat.zero_le _, hT2⟩
  · rintro ⟨T, k⟩ ⟨h1, hTk⟩
    simp only at h1 hTk
    (refine @goW _ ?_; refine goS ?_)
    refine ⟨fun hlt => ⟨hlt, fun c hc b5 => ?_⟩, fun hge => ?_⟩
    · have hpk : ((n :: (l.take k).map kid0) ++ [kid0 c]) = n :: (l.take (k + 1)).map kid0 := by rw [List.take_add_one, hc]; simp
      have hpre : ((n :: (l.take k).map kid0) ++ [kid0 c]) <+: treL n l := by
        rw [hpk]
        exact List.cons_prefix_cons.2 ⟨rfl, (List.take_prefix _ _).map _⟩
      refine useY (hy _ (kid0 c) _ hpre (hTk.consB b5 _ rfl)) ?_
      rintro d T3 ⟨rfl, hT3, hK3⟩
      rw [hpk] at hT3
      (refine @goW _ ?_; refine goS ?_)
      exact ⟨⟨T3, k + 1⟩, ⟨by simp only; omega, hT3⟩, by simp only; omega, i_oneV k (by omega), .refl _⟩
    · rw [List.take_of_length_le (by omega)] at hTk
      exact hTk
end Go.Proofs.YtfieabidajilmaaGreat

namespace Go.Proofs.YtfieabidajilmaaGreat
open Aml Go
set_option linter.unusedVariables false
set_option linter.unusedSimpArgs false
set_option maxRecDepth 100000
@[go_sem] theorem s_add (a b : ByteArray) (K : DV → Prop) : vBinS .add a b K = (a.size + b.size ≤ 9223372036854775807 ∧ K (.v (.string (a ++ b)))) := rfl
@[go_sem] theorem by_one (x : Int) : byD [.v (.int .u8 x)] = [x] := rfl
@[go_sem] theorem okBy_one (x : Int) : okBy [.v (.int .u8 x)] = true := rfl
@[go_sem] theorem by_two (x y : Int) : byD [.v (.int .u8 x), .v (.int .u8 y)] = [x, y] := rfl
@[go_sem] theorem okBy_two (x y : Int) : okBy [.v (.int .u8 x), .v (.int .u8 y)] = true := rfl
/-- A number behind so many bytes. -/
def numX : Nat → Int → Int
  | 0, x => x
  | i + 1, x => IntKind.u64.wrap ((numX i x).tdiv 256)
/-- A number in so many bytes. -/
def numS : Nat → Int → ByteArray
  | 0, _ => noS
  | i + 1, x => strOfNums [IntKind.u8.wrap (numX i x)] ++ numS i x
theorem numS_size : ∀ (k : Nat) (x : Int), (numS k x).size = k
  | 0, _ => noS_size
  | k + 1, x => by
    rw [numS, ByteArray.size_append, numS_size k x, strOfNums_size]
    simp; omega
set_option maxHeartbeats 2000000 in
theorem numR (w0 : W0) (x : Int) (k : Nat) (S : St) (h0 : 1 ≤ k) (h1 : k ≤ 8) : ACall Tryz.prog w0 185 [dU x, dI k] S (fun d S' => d = dS (numS k x) ∧ S' = S) := by
  refine fnS [] mx Tryz.func185 rfl rfl (by kernel_rfl) ?_; refine @goW _ (goS1 @Tryz.ntmps185 ?_)
  refine ⟨fun h => absurd h (by omega), fun _ => ⟨fun h => absurd h (by omega), fun _ => ?_⟩⟩
  refine loopN [] k [0, 1, 5, 6] (fun i => [(0, dU (numX i x)), (5, dS (numS i x)), (6, dI i)]) (fun _ => S) (fun _ => True) mx (by kernel_rfl) ?_ ?_
  · refine @goW _ (goS ?_)
    exact ⟨rfl, rfl⟩
  · intro i hi _
    have hs := numS_size i x
    have hz : (strOfNums [IntKind.u8.wrap (numX i x)]).size = 1 := strOfNums_size _
    refine @goW _ (goS1 @hz ?_)
    refine ⟨fun hlt => ⟨by omega, hlt, rfl, rfl, by rw [w64 (by omega) (by omega)]; rfl⟩, fun hge => by rw [show i = k by omega]⟩
/-- One bit's step, of a number. -/
def bitI (x : Int) : Int := if x.tmod 2 = 1 then bitD .xor .u32 (IntKind.u32.wrap (x.tdiv 2)) 3988292384 else IntKind.u32.wrap (x.tdiv 2)
def bitsI : Nat → Int → Int
  | 0, x => x
  | k + 1, x => bitI (bitsI k x)
/-- A text's bytes. -/
def bytI (s : ByteArray) : List Int := s.data.toList.map fun c => (c.toNat : Int)
theorem bytI_len (s : ByteArray) : (bytI s).length = s.size := by unfold bytI; rw [List.length_map]; rfl
def crcF (l : List Int) (x : Int) : Int := l.foldl (fun x c => bitsI 8 (bitD .xor .u32 x (IntKind.u32.wrap c))) x
/-- A text's sum. -/
def onS (x : Int) (s : ByteArray) : Int := IntKind.u32.wrap (4294967295 - crcF (bytI s) (IntKind.u32.wrap (4294967295 - x)))
set_option maxHeartbeats 2000000 in
theorem onR (w0 : W0) (x : Int) (s : ByteArray) (S : St) (h : s.size ≤ 1048576) : ACall Tryz.prog w0 192 [.v (.int .u32 x), dS s] S (fun d S' => d = .v (.int .u32 (onS x s)) ∧ S' = S) := by
  refine fnS [] mx Tryz.func192 rfl rfl (by kernel_rfl) ?_; refine @goW _ (goS1 @Tryz.ntmps192 ?_)
  refine loopN [] s.size [1, 5, 6] (fun i => [(5, .v (.int .u32 (crcF ((bytI s).take i) (IntKind.u32.wrap (4294967295 - x))))), (6, dI i)]) (fun _ => S) (fun _ => True) mx (by kernel_rfl) ?_ ?_
  · refine @goW _ (goS ?_)
    rfl
  · intro i hi _
    refine @goW _ (goS ?_)
    refine ⟨fun hlt => ⟨hlt, fun c hc => ?_⟩, fun hge => by rw [List.take_of_length_le (by rw [bytI_len]; omega)]; rfl⟩
    have hs : (bytI s).take (i + 1) = (bytI s).take i ++ [(c.toNat : Int)] := by
      rw [List.take_add_one]; unfold bytI; rw [List.getElem?_map, hc]; rfl
    have hX : crcF ((bytI s).take (i + 1)) (IntKind.u32.wrap (4294967295 - x)) = bitsI 8 (bitD .xor .u32 (crcF ((bytI s).take i) (IntKind.u32.wrap (4294967295 - x))) (IntKind.u32.wrap (c.toNat : Int))) := by
      rw [hs]; unfold crcF; rw [List.foldl_append]; rfl
    rw [hX]
    generalize bitD .xor .u32 (crcF ((bytI s).take i) (IntKind.u32.wrap (4294967295 - x))) (IntKind.u32.wrap (c.toNat : Int)) = X
    refine loopN [] 8 [1, 5, 6, 7] (fun j => [(5, .v (.int .u32 (bitsI j X))), (7, dI j)]) (fun _ => S) (fun _ => True) mx (by kernel_rfl) ?_ ?_
    · refine @goW _ (goS ?_)
      rfl
    · intro j hj _
      refine @goW _ (goS ?_)
      have e1 : (bitsI j X).tmod 2 = 1 → bitsI (j + 1) X = bitD .xor .u32 (IntKind.u32.wrap ((bitsI j X).tdiv 2)) 3988292384 := fun h => if_pos h
      have e2 : ¬ (bitsI j X).tmod 2 = 1 → bitsI (j + 1) X = IntKind.u32.wrap ((bitsI j X).tdiv 2) := fun h => if_neg h
      refine ⟨fun hlt2 => ⟨fun hb => ⟨by omega, (e1 hb).symm, by rw [w64 (by omega) (by omega)]; rfl⟩, fun hb => ⟨by omega, (e2 hb).symm, by rw [w64 (by omega) (by omega)]; rfl⟩⟩, fun hge => ⟨hlt, by rw [show j = 8 by omega], by rw [w64 (by omega) (by omega)]; rfl⟩⟩
theorem ofR (w0 : W0) (s : ByteArray) (S : St) (h : s.size ≤ 1048576) : ACall Tryz.prog w0 189 [dS s] S (fun d S' => d = .v (.int .u32 (onS 0 s)) ∧ S' = S) := by
  refine fnS [] mx Tryz.func189 rfl rfl (by kernel_rfl) ?_; refine @goW _ (goS1 @Tryz.ntmps189 ?_)
  refine use1 (onR w0 0 s _ h) ?_
  exact @goW _ goT
/-- A text, with how long it is ahead. -/
def textS (s : ByteArray) : ByteArray := numS 1 (IntKind.u64.wrap (s.size : Int)) ++ s
theorem textS_size (s : ByteArray) : (textS s).size = 1 + s.size := by unfold textS; rw [ByteArray.size_append, numS_size]
theorem textR (w0 : W0) (s : ByteArray) (S : St) (h : s.size ≤ 255) : ACall Tryz.prog w0 190 [dS s] S (fun d S' => d = dS (textS s) ∧ S' = S) := by
  refine fnS [] mx Tryz.func190 rfl rfl (by kernel_rfl) ?_; refine @goW _ (goS1 @Tryz.ntmps190 ?_)
  refine ⟨fun h => absurd h (by omega), fun _ => ?_⟩
  refine use1 (numR w0 _ 1 _ (by omega) (by omega)) ?_
  have hz := numS_size 1 (IntKind.u64.wrap (s.size : Int))
  refine @goW _ (goS1 @hz ?_)
  refine ⟨by omega, ?_⟩
  rfl
/-- How much cells take. -/
def sizS (l : List ByteArray) : Nat := (l.map fun s => s.size + 1).sum
theorem sizS_take (l : List ByteArray) (k : Nat) : sizS (l.take k) ≤ sizS l := by
  have := congrArg sizS (List.take_append_drop k l)
  simp only [sizS, List.map_append, List.sum_append] at this ⊢
  omega
theorem sizS_succ {l : List ByteArray} {k : Nat} {s : ByteArray} (h : l[k]? = some s) : sizS (l.take (k + 1)) = sizS (l.take k) + s.size + 1 := by
  unfold sizS
  rw [List.take_add_one, h]; simp; omega
set_option maxHeartbeats 2000000 in
theorem sizR (w0 : W0) (l : List ByteArray) (S : St) (h : sizS l ≤ 1048576) (hl : l.length ≤ 1048576) : ACall Tryz.prog w0 188 [.sl 1 false (l.map dS)] S (fun d S' => d = dI (sizS l) ∧ S' = S) := by
  refine fnS [] mx Tryz.func188 rfl rfl (by kernel_rfl) ?_; refine @goW _ (goS1 @Tryz.ntmps188 ?_)
  refine loopN [] l.length [0, 3, 4] (fun k => [(3, dI (sizS (l.take k))), (4, dI k)]) (fun _ => S) (fun _ => True) mx (by kernel_rfl) ?_ ?_
  · refine @goW _ (goS ?_)
    rfl
  · intro k hk _
    have h1 := sizS_take l k
    have h2 := sizS_take l (k + 1)
    refine @goW _ (goS ?_)
    refine ⟨fun hlt => ⟨hlt, fun s hs => ?_⟩, fun hge => by rw [List.take_of_length_le (by omega)]⟩
    have h3 := sizS_succ hs
    refine ⟨hlt, ?_, by rw [w64 (by omega) (by omega)]; rfl⟩
    rw [w64 (n := (s.size : Int) + 1) (by omega) (by omega), w64 (by omega) (by omega)]; omega
/-- The cells behind each other, the last one first. -/
def backS : List ByteArray → ByteArray → ByteArray
  | [], b => b
  | s :: l, b => backS l (s ++ b)
/-- Where they begin. -/
def slotS : List ByteArray → ByteArray → ByteArray → ByteArray
  | [], _, s => s
  | c :: l, b, s => slotS l (c ++ b) (s ++ strOfNums [IntKind.u8.wrap (IntKind.i64.wrap (128 - (((c ++ b).size : Nat) : Int)))])
theorem back_app (l m : List ByteArray) (b : ByteArray) : backS (l ++ m) b = backS m (backS l b) := by
  induction l generalizing b with
  | nil => rfl
  | cons a l ih => exact ih _
theorem slot_app (l m : List ByteArray) (b s : ByteArray) : slotS (l ++ m) b s = slotS m (backS l b) (slotS l b s) := by
  induction l generalizing b s with
  | nil => rfl
  | cons a l ih => exact ih _ _
theorem back_size (l : List ByteArray) (b : ByteArray) : (backS l b).size + l.length = b.size + sizS l := by
  induction l generalizing b with
  | nil => simp [backS, sizS]
  | cons a l ih =>
    have := ih (a ++ b)
    rw [ByteArray.size_append] at this
    simp only [backS, sizS, List.map_cons, List.sum_cons, List.length_cons] at *
    omega
theorem slot_size (l : List ByteArray) (b s : ByteArray) : (slotS l b s).size = s.size + l.length := by
  induction l generalizing b s with
  | nil => rfl
  | cons a l ih =>
    rw [slotS, ih, ByteArray.size_append, strOfNums_size]
    simp; omega
theorem siz_len (l : List ByteArray) : l.length ≤ sizS l := by
  induction l with
  | nil => simp
  | cons a l ih => simp only [sizS, List.map_cons, List.sum_cons, List.length_cons] at *; omega
/-- A page, but for its sum. -/
def bodyS (kind : Int) (l : List ByteArray) : ByteArray :=
  strOfNums [kind, IntKind.u8.wrap (l.length : Int)] ++ slotS l noS noS ++ (strOfNums (List.replicate (122 - sizS l) 0) ++ backS l noS)
/-- A page. -/
def packS (kind : Int) (l : List ByteArray) : ByteArray := numS 4 (IntKind.u64.wrap (onS 0 (bodyS kind l))) ++ bodyS kind l
theorem body_size (kind : Int) {l : List ByteArray} (h : sizS l ≤ 122) : (bodyS kind l).size = 124 := by
  unfold bodyS
  have h1 := back_size l noS
  have h2 := slot_size l noS noS
  have h3 := siz_len l
  rw [noS_size] at h1 h2
  simp only [ByteArray.size_append, strOfNums_size, List.length_replicate, List.length_cons, List.length_nil]
  omega
set_option maxHeartbeats 4000000 in
theorem packR (w0 : W0) (kind : Int) (l : List ByteArray) (S : St) (hk : kind ≠ 0) (h : sizS l ≤ 122) : ACall Tryz.prog w0 177 [dY kind, .sl 1 false (l.map dS)] S (fun d S' => d = .tup [dS (packS kind l), dI 0] ∧ S' = S) := by
  have hll := siz_len l
  refine fnS [] mx Tryz.func177 rfl rfl (by kernel_rfl) ?_; refine @goW _ (goS1 @Tryz.ntmps177 ?_)
  refine ⟨fun e => absurd e hk, fun _ => use1 (sizR w0 l _ (by omega) (by omega)) ?_⟩
  refine @goW _ (goS ?_)
  refine ⟨fun e => absurd e (by omega), fun _ => ?_⟩
  refine loopN [] l.length [0, 1, 6, 7, 8] (fun k => [(6, dS (slotS (l.take k) noS noS)), (7, dS (backS (l.take k) noS)), (8, dI k)]) (fun _ => S) (fun _ => True) mx (by kernel_rfl) ?_ ?_
  · refine @goW _ (goS ?_)
    exact ⟨rfl, rfl⟩
  · intro k hk2 _
    have h1 := back_size (l.take k) noS
    have h2 := slot_size (l.take k) noS noS
    have h3 := sizS_take l k
    rw [noS_size, List.length_take] at h1 h2
    refine @goW _ (goS ?_)
    refine ⟨fun hlt => ⟨hlt, fun s hs => ?_⟩, fun hge => ?_⟩
    · have hb : backS (l.take (k + 1)) noS = s ++ backS (l.take k) noS := by rw [List.take_add_one, hs, back_app]; rfl
      have hsl : slotS (l.take (k + 1)) noS noS = slotS (l.take k) noS noS ++ strOfNums [IntKind.u8.wrap (IntKind.i64.wrap (128 - (((s ++ backS (l.take k) noS).size : Nat) : Int)))] := by rw [List.take_add_one, hs, slot_app]; rfl
      have h4 := sizS_succ hs
      have h5 := sizS_take l (k + 1)
      have hz : ∀ x : Int, (strOfNums [x]).size = 1 := fun x => strOfNums_size _
      rw [hb, hsl]
      refine @goW _ (goS2 @hz @ByteArray.size_append ?_)
      exact ⟨by omega, by omega, hlt, by rw [w64 (by omega) (by omega)]; rfl⟩
    · rw [List.take_of_length_le (by omega)] at h1 h2 ⊢
      have hz2 : (strOfNums [kind, IntKind.u8.wrap (l.length : Int)]).size = 2 := strOfNums_size _
      have eN : IntKind.i64.wrap (IntKind.i64.wrap (124 - (((strOfNums [kind, IntKind.u8.wrap (l.length : Int)]).size + (slotS l noS noS).size : Nat) : Int)) - ((backS l noS).size : Int)) = ((122 - sizS l : Nat) : Int) := by
        rw [w64 (n := 124 - _) (by omega) (by omega), w64 (by omega) (by omega)]; omega
      rw [eN, Int.toNat_natCast]
      have hz3 : (strOfNums (List.replicate (122 - sizS l) 0)).size = 122 - sizS l := by rw [strOfNums_size, List.length_replicate]
      have hbs := body_size kind h
      refine ⟨by omega, by omega, by omega, by omega, fun b => ⟨by simp, by omega, by omega, use1 (ofR w0 _ _ (by show (bodyS kind l).size ≤ _; omega)) ?_⟩⟩
      have hz4 := numS_size 4 (IntKind.u64.wrap (onS 0 (bodyS kind l)))
      refine @goW _ (goS ?_)
      refine use1 (numR w0 _ 4 _ (by omega) (by omega)) ?_
      refine @goW _ (goS ?_)
      exact ⟨by omega, .refl _⟩
end Go.Proofs.YtfieabidajilmaaGreat

namespace Go.Proofs.YtfieabidajilmaaGreat
open Aml Go
set_option linter.unusedVariables false
set_option linter.unusedSimpArgs false
set_option maxRecDepth 100000
/-- An entry of a node's page. -/
structure E8 where
  key : ByteArray
  data : ByteArray
  far : Bool
  size : Int
  page : Int
@[go_sem] def dE8 (e : E8) : DV := .agg [dS e.key, dS e.data, dB e.far, dI e.size, dI e.page]
/-- A cell of a node's page. -/
def cellS (b : Bool) (e : E8) : ByteArray :=
  textS e.key ++ (if b then (if e.far then ((⟨#[1]⟩ : ByteArray) ++ numS 2 (IntKind.u64.wrap e.size)) ++ numS 2 (IntKind.u64.wrap e.page) else (⟨#[0]⟩ : ByteArray) ++ e.data) else numS 2 (IntKind.u64.wrap e.page))
theorem cellS_size (b : Bool) (e : E8) : (cellS b e).size = 1 + e.key.size + (if b then (if e.far then 5 else 1 + e.data.size) else 2) := by
  unfold cellS
  rw [ByteArray.size_append, textS_size]
  have h0 : (⟨#[0]⟩ : ByteArray).size = 1 := rfl
  have h1 : (⟨#[1]⟩ : ByteArray).size = 1 := rfl
  split
  · split
    · rw [ByteArray.size_append, ByteArray.size_append, numS_size, numS_size, h1]
    · rw [ByteArray.size_append, h0]
  · rw [numS_size]
/-- An entry that may stand in a leaf, or in a branch. -/
def OkE (b : Bool) (e : E8) : Prop := e.key.size ≤ 16 ∧ (if b then (if e.far then e.data = noS ∧ 16 < e.size ∧ e.size ≤ 400 ∧ 2 ≤ e.page ∧ e.page ≤ 999 else e.data.size ≤ 16 ∧ e.size = 0 ∧ e.page = 0) else e.data = noS ∧ e.far = false ∧ e.size = 0 ∧ 2 ≤ e.page ∧ e.page ≤ 999)
set_option maxHeartbeats 4000000 in
theorem cellsR (w0 : W0) (b : Bool) (l : List E8) (S : St) (hl : l.length ≤ 1048576) (hk : ∀ e, e ∈ l → e.key.size ≤ 255 ∧ e.data.size ≤ 1048576) : ACall Tryz.prog w0 178 [.agg [dB b, .sl 5 false (l.map dE8)]] S (fun d S' => d = .sl 1 false ((l.map (cellS b)).map dS) ∧ S' = S) := by
  refine fnS [2] mx Tryz.func178 rfl rfl (by kernel_rfl) ?_; refine @goW _ (goS1 @Tryz.ntmps178 ?_)
  intro b1
  refine growK 3 1 rfl (by omega) fun lp => ?_
  refine shrK [] [] mx (by kernel_rfl) ?_
  refine @goW _ (goS ?_)
  refine loopN [] l.length [1, 3, 4] (fun k => [(3, .acc lp.n k), (4, dI k)]) (fun k => ⟨(b1.n, [dB b, .sl 5 false (l.map dE8)]) :: S.box, (lp.n, .arr 1 (((l.take k).map (cellS b)).map dS)) :: S.acc⟩) (fun _ => True) mx (by kernel_rfl) ?_ ?_
  · exact @goW _ goT
  · intro k hk' _
    have hml : (l.take k).length = k := by rw [List.length_take]; omega
    refine @goW _ (goS1 @hml ?_)
    refine ⟨fun hlt => ⟨hlt, fun a ha b2 => ⟨hlt, fun a2 ha2 => ?_⟩⟩, fun hge => ?_⟩
    · cases getE ha ha2
      obtain ⟨q1, q2⟩ := hk a (List.mem_of_getElem? ha)
      refine use1 (textR w0 _ _ q1) ?_
      have ht1 : l.take (k + 1) = l.take k ++ [a] := by rw [List.take_add_one, ha]; rfl
      have hts := textS_size a.key
      have hcs : cellS b a = textS a.key ++ (if b then (if a.far then ((⟨#[1]⟩ : ByteArray) ++ numS 2 (IntKind.u64.wrap a.size)) ++ numS 2 (IntKind.u64.wrap a.page) else (⟨#[0]⟩ : ByteArray) ++ a.data) else numS 2 (IntKind.u64.wrap a.page)) := rfl
      have hn2 := fun x => numS_size 2 x
      have e0 : (⟨#[0]⟩ : ByteArray).size = 1 := rfl
      have e1 : (⟨#[1]⟩ : ByteArray).size = 1 := rfl
      rw [ht1]
      have hm8 : maxLen = 9223372036854775807 := rfl
      cases b with
      | false =>
        refine @goW _ (goS1 @hts ?_)
        have hcS : cellS false a = textS a.key ++ numS 2 (IntKind.u64.wrap a.page) := rfl
        refine use1 (numR w0 _ 2 _ (by omega) (by omega)) ?_
        simp (maxDischargeDepth := 12) (maxSteps := 1000000) -implicitDefEqProofs only [go_sem, Nat.reduceAdd, Nat.reduceSub, Nat.reduceMul, Nat.reduceLeDiff, Nat.reduceEqDiff, Nat.reduceGT, Nat.reduceBEq, reduceCtorEq, ↓reduceIte, Int.reduceToNat, Int.reduceLE, Int.reduceLT, Int.reduceNe, Int.reduceEq, hts, hn2, hcS, hml, List.map_append, List.map_cons, List.map_nil]
        exact ⟨by omega, by omega, by omega, hlt, by rw [w64 (by omega) (by omega)]; rfl⟩
      | true =>
        cases hf : a.far with
        | false =>
          have hcS : cellS true a = textS a.key ++ ((⟨#[0]⟩ : ByteArray) ++ a.data) := by unfold cellS; rw [hf]; rfl
          simp (maxDischargeDepth := 12) (maxSteps := 1000000) -implicitDefEqProofs only [go_sem, Nat.reduceAdd, Nat.reduceSub, Nat.reduceMul, Nat.reduceLeDiff, Nat.reduceEqDiff, Nat.reduceGT, Nat.reduceBEq, reduceCtorEq, ↓reduceIte, Int.reduceToNat, Int.reduceLE, Int.reduceLT, Int.reduceNe, Int.reduceEq, hts, e0, hf, hcS, hml, List.map_append, List.map_cons, List.map_nil, ByteArray.size_append]
          exact ⟨by omega, by omega, by omega, by omega, hlt, by rw [w64 (by omega) (by omega)]; rfl⟩
        | true =>
          have hcS : cellS true a = textS a.key ++ (((⟨#[1]⟩ : ByteArray) ++ numS 2 (IntKind.u64.wrap a.size)) ++ numS 2 (IntKind.u64.wrap a.page)) := by unfold cellS; rw [hf]; rfl
          refine @goW _ (goS2 @hts @hf ?_)
          refine useQ (numR w0 _ 2 _ (by omega) (by omega)) ?_
          refine @goW _ (goS3 @e1 @hn2 @ByteArray.size_append ?_)
          refine useQ (numR w0 _ 2 _ (by omega) (by omega)) ?_
          simp (maxDischargeDepth := 12) (maxSteps := 1000000) -implicitDefEqProofs only [go_sem, Nat.reduceAdd, Nat.reduceSub, Nat.reduceMul, Nat.reduceLeDiff, Nat.reduceEqDiff, Nat.reduceGT, Nat.reduceBEq, reduceCtorEq, ↓reduceIte, Int.reduceToNat, Int.reduceLE, Int.reduceLT, Int.reduceNe, Int.reduceEq, hts, e1, hn2, hf, hcS, hml, List.map_append, List.map_cons, List.map_nil, ByteArray.size_append]
          exact ⟨by omega, by omega, by omega, hlt, by rw [w64 (by omega) (by omega)]; rfl⟩
    · rw [List.take_of_length_le (by omega)]
      exact .refl _
/-- Whether a value may be. -/
def fineB (e : E8) : Bool := if e.far then eqS e.data noS && decide (16 < e.size) && decide (e.size ≤ 400) && decide (2 ≤ e.page) && decide (e.page ≤ 999) else decide (e.data.size ≤ 16) && decide (e.size = 0) && decide (e.page = 0)
theorem fineR (w0 : W0) (e : E8) (S : St) : ACall Tryz.prog w0 187 [.agg [dS e.data, dB e.far, dI e.size, dI e.page]] S (fun d S' => d = dB (fineB e) ∧ S' = S) := by
  refine fnS [] mx Tryz.func187 rfl rfl (by kernel_rfl) ?_; refine @goW _ (goS1 @Tryz.ntmps187 ?_)
  intro b
  unfold fineB
  have en : noS = (⟨#[]⟩ : ByteArray) := rfl
  refine ⟨fun hf => ?_, fun hf => ?_⟩
  · rw [hf, en]
    simp only [if_true, ge_iff_le, gt_iff_lt]
    refine ⟨fun h1 => ⟨fun h2 => ⟨fun h3 => ⟨fun h4 => ?_, fun h4 => ?_⟩, fun h3 => ?_⟩, fun h2 => ?_⟩, fun h1 => ?_⟩
    · rw [h1, decide_eq_true h2, decide_eq_true h3, decide_eq_true h4]; rfl
    · rw [decide_eq_false h4]; simp
    · rw [decide_eq_false h3]; simp
    · rw [decide_eq_false h2]; simp
    · rw [h1]; rfl
  · rw [hf]
    simp only [Bool.false_eq_true, if_false]
    refine ⟨fun h1 => ⟨fun h2 => ?_, fun h2 => ?_⟩, fun h1 => ?_⟩
    · rw [decide_eq_true (show e.data.size ≤ 16 by omega), decide_eq_true h2]; rfl
    · rw [decide_eq_false h2]; simp
    · rw [decide_eq_false (show ¬ e.data.size ≤ 16 by omega)]; rfl
theorem fine_ok {e : E8} (h : OkE true e) : fineB e = true := by
  have h := h.2
  simp only [if_true] at h
  unfold fineB
  split
  · rename_i hf
    rw [if_pos hf] at h
    rw [eqS_iff.2 h.1, decide_eq_true h.2.1, decide_eq_true h.2.2.1, decide_eq_true h.2.2.2.1, decide_eq_true h.2.2.2.2]; rfl
  · rename_i hf
    rw [if_neg hf] at h
    rw [decide_eq_true h.1, decide_eq_true h.2.1, decide_eq_true h.2.2]; rfl
set_option maxHeartbeats 8000000 in
theorem check8R (w0 : W0) (b : Bool) (l : List E8) (S : St) (hl : l.length ≤ 1048576) (hk : ∀ e, e ∈ l → OkE b e) (hr : l.Pairwise fun x y => ltS x.key y.key = true) (h0 : ∀ (i : Nat) e, l[i]? = some e → (e.key = noS ↔ i = 0 ∧ b = false)) (hs : sizS (l.map (cellS b)) ≤ 122) (h1 : 1 < l.length ∨ (b = true ∧ l.length = 1)) :
    ACall Tryz.prog w0 176 [.agg [dB b, .sl 5 false (l.map dE8)]] S (fun d S' => d = dB true ∧ S' = S) := by
  have hcl := fun S => cellsR w0 b l S hl fun e he => ⟨by have := (hk e he).1; omega, by
    have h := (hk e he).2
    split at h
    · split at h
      · rw [h.1, noS_size]; omega
      · have := h.1; omega
    · rw [h.1, noS_size]; omega⟩
  have hfi := fun e S => fineR w0 e S
  cases b with
  | true =>
    refine fnS [6,7,10] mx Tryz.func176 rfl rfl (by kernel_rfl) ?_; refine @goW _ (goS1 @Tryz.ntmps176 ?_)
    intro b1
    refine loopN [6, 7, 10] l.length [1, 3] (fun k => [(3, dI k)]) (fun k => ⟨(b1.n, [dB true, .sl 5 false (l.map dE8)]) :: S.box, S.acc⟩) (fun _ => True) mx (by kernel_rfl) ?_ ?_
    · exact @goW _ goT
    · intro k hk' _
      refine @goW _ (goS ?_)
      refine ⟨fun hlt => ⟨hlt, fun a ha => ⟨hlt, fun a0 ha0 b2 => ?_⟩⟩, fun hge => use1 (hcl _) ?_⟩
      · cases getE ha ha0
        have hm := List.mem_of_getElem? ha
        have hok := hk a hm
        have f2 : ((a.key.size : Int) > 16) = False := eq_false (by have := hok.1; omega)
        have f5 : IntKind.i64.wrap ((k : Int) + 1) = ((k + 1 : Nat) : Int) := by rw [w64 (by omega) (by omega)]; rfl
        refine cutK (σ := Unit) [7, 10] [1, 3, 4, 5, 6] (fun _ => [(6, dB false)]) (fun _ => ⟨(b2.n, [dS a.data, dB a.far, dI a.size, dI a.page]) :: (b1.n, [dB true, .sl 5 false (l.map dE8)]) :: S.box, S.acc⟩) (fun _ => True) mx (by kernel_rfl) ?_ ?_
        · refine @goW _ (goS ?_)
          exact ⟨(), trivial⟩
        · intro _ _
          refine @goW _ (goS ?_)
          refine cutK (σ := Unit) [10] [1, 3, 4, 5, 6, 66] (fun _ => [(66, dB false)]) (fun _ => ⟨(b2.n, [dS a.data, dB a.far, dI a.size, dI a.page]) :: (b1.n, [dB true, .sl 5 false (l.map dE8)]) :: S.box, S.acc⟩) (fun _ => True) mx (by kernel_rfl) ?_ ?_
          · rcases Nat.eq_zero_or_pos k with z0 | z0
            · have z2 : ((k : Int) > 0) = False := eq_false (by omega)
              have f1 : eqS a.key { data := #[] } = false := eqS_no.2 fun e => (by have := ((h0 k a ha).1 e).2; cases this)
              refine @goW _ (goS4 @f1 @f2 @z2 @hlt ?_)
              exact ⟨(), trivial⟩
            · have z2 : ((k : Int) > 0) = True := eq_true (by omega)
              have z3 : IntKind.i64.wrap ((k : Int) - 1) = ((k - 1 : Nat) : Int) := by rw [w64 (by omega) (by omega)]; omega
              obtain ⟨c0, hc0⟩ : ∃ c0, l[k - 1]? = some c0 := ⟨_, List.getElem?_eq_getElem (by omega)⟩
              have z4 : leS a.key c0.key = false := leS_no.2 (by obtain ⟨u1, rfl⟩ := List.getElem?_eq_some_iff.1 hc0; obtain ⟨u2, rfl⟩ := List.getElem?_eq_some_iff.1 ha; exact List.pairwise_iff_getElem.1 hr _ _ u1 u2 (by omega))
              have f1 : eqS a.key { data := #[] } = false := eqS_no.2 fun e => absurd ((h0 k a ha).1 e).1 (by omega)
              have z5 : decide (k = 0) = false := decide_eq_false (by omega)
              refine @goW _ (goS6 @f1 @f2 @z2 @z3 @z5 @hlt ?_)
              refine ⟨by omega, fun c1 hc1 => ?_⟩
              cases getE hc0 hc1
              exact ⟨(), z4⟩
          · intro _ _
            refine @goW _ (goS ?_)
            refine use1 (hfi a _) ?_
            rw [fine_ok hok]
            refine @goW _ (goS ?_)
            refine cutK (σ := Unit) [] [1, 3, 4, 5, 6, 96] (fun _ => [(96, dB false)]) (fun _ => ⟨(b2.n, [dS a.data, dB a.far, dI a.size, dI a.page]) :: (b1.n, [dB true, .sl 5 false (l.map dE8)]) :: S.box, S.acc⟩) (fun _ => True) mx (by kernel_rfl) ?_ ?_
            · refine @goW _ (goS ?_)
              exact ⟨(), trivial⟩
            · intro _ _
              refine @goW _ (goS ?_)
              exact ⟨hlt, f5⟩
      · refine @goW _ (goS ?_)
        refine use1 (sizR w0 (l.map (cellS true)) _ (by omega) (by rw [List.length_map]; exact hl)) ?_
        refine @goW _ (goS ?_)
        refine ⟨fun _ hn => ?_, fun hn => absurd hn (by omega)⟩
        rcases h1 with h | h
        · omega
        · omega
  | false =>
    refine fnS [6,7,10] mx Tryz.func176 rfl rfl (by kernel_rfl) ?_; refine @goW _ (goS1 @Tryz.ntmps176 ?_)
    intro b1
    refine loopN [6, 7, 10] l.length [1, 3] (fun k => [(3, dI k)]) (fun k => ⟨(b1.n, [dB false, .sl 5 false (l.map dE8)]) :: S.box, S.acc⟩) (fun _ => True) mx (by kernel_rfl) ?_ ?_
    · exact @goW _ goT
    · intro k hk' _
      refine @goW _ (goS ?_)
      refine ⟨fun hlt => ⟨hlt, fun a ha => ⟨hlt, fun a0 ha0 b2 => ?_⟩⟩, fun hge => use1 (hcl _) ?_⟩
      · cases getE ha ha0
        have hm := List.mem_of_getElem? ha
        have hok := hk a hm
        have f2 : ((a.key.size : Int) > 16) = False := eq_false (by have := hok.1; omega)
        have f5 : IntKind.i64.wrap ((k : Int) + 1) = ((k + 1 : Nat) : Int) := by rw [w64 (by omega) (by omega)]; rfl
        refine cutK (σ := Unit) [7, 10] [1, 3, 4, 5, 6] (fun _ => [(6, dB (decide (k = 0)))]) (fun _ => ⟨(b2.n, [dS a.data, dB a.far, dI a.size, dI a.page]) :: (b1.n, [dB false, .sl 5 false (l.map dE8)]) :: S.box, S.acc⟩) (fun _ => True) mx (by kernel_rfl) ?_ ?_
        · refine @goW _ (goS ?_)
          exact ⟨(), by omega⟩
        · intro _ _
          refine @goW _ (goS ?_)
          refine cutK (σ := Unit) [10] [1, 3, 4, 5, 6, 66] (fun _ => [(66, dB false)]) (fun _ => ⟨(b2.n, [dS a.data, dB a.far, dI a.size, dI a.page]) :: (b1.n, [dB false, .sl 5 false (l.map dE8)]) :: S.box, S.acc⟩) (fun _ => True) mx (by kernel_rfl) ?_ ?_
          · rcases Nat.eq_zero_or_pos k with z0 | z0
            · have z2 : ((k : Int) > 0) = False := eq_false (by omega)
              have f1 : eqS a.key { data := #[] } = true := eqS_iff.2 ((h0 k a ha).2 ⟨z0, rfl⟩)
              have z5 : decide (k = 0) = true := decide_eq_true z0
              refine @goW _ (goS5 @f1 @f2 @z2 @z5 @hlt ?_)
              exact ⟨(), trivial⟩
            · have z2 : ((k : Int) > 0) = True := eq_true (by omega)
              have z3 : IntKind.i64.wrap ((k : Int) - 1) = ((k - 1 : Nat) : Int) := by rw [w64 (by omega) (by omega)]; omega
              obtain ⟨c0, hc0⟩ : ∃ c0, l[k - 1]? = some c0 := ⟨_, List.getElem?_eq_getElem (by omega)⟩
              have z4 : leS a.key c0.key = false := leS_no.2 (by obtain ⟨u1, rfl⟩ := List.getElem?_eq_some_iff.1 hc0; obtain ⟨u2, rfl⟩ := List.getElem?_eq_some_iff.1 ha; exact List.pairwise_iff_getElem.1 hr _ _ u1 u2 (by omega))
              have f1 : eqS a.key { data := #[] } = false := eqS_no.2 fun e => absurd ((h0 k a ha).1 e).1 (by omega)
              have z5 : decide (k = 0) = false := decide_eq_false (by omega)
              refine @goW _ (goS6 @f1 @f2 @z2 @z3 @z5 @hlt ?_)
              refine ⟨by omega, fun c1 hc1 => ?_⟩
              cases getE hc0 hc1
              exact ⟨(), z4⟩
          · intro _ _
            refine @goW _ (goS ?_)
            refine use1 (hfi a _) ?_
            skip
            refine @goW _ (goS ?_)
            refine cutK (σ := Unit) [] [1, 3, 4, 5, 6, 96] (fun _ => [(96, dB false)]) (fun _ => ⟨(b2.n, [dS a.data, dB a.far, dI a.size, dI a.page]) :: (b1.n, [dB false, .sl 5 false (l.map dE8)]) :: S.box, S.acc⟩) (fun _ => True) mx (by kernel_rfl) ?_ ?_
            · have hok2 := hok.2
              simp only [Bool.false_eq_true, if_false] at hok2
              refine @goW _ (goS ?_)
              refine ⟨fun h => absurd h (by omega), fun _ => ⟨fun h => absurd h (by omega), fun _ => ⟨(), ?_⟩⟩⟩
              rw [hok2.1, hok2.2.1, hok2.2.2.1]; rfl
            · intro _ _
              refine @goW _ (goS ?_)
              exact ⟨hlt, f5⟩
      · refine @goW _ (goS ?_)
        refine use1 (sizR w0 (l.map (cellS false)) _ (by omega) (by rw [List.length_map]; exact hl)) ?_
        refine @goW _ (goS ?_)
        refine ⟨fun _ hn => ?_, fun hn => absurd hn (by omega)⟩
        rcases h1 with h | h
        · omega
        · cases h.1
set_option maxHeartbeats 4000000 in
theorem put8R (w0 : W0) (b : Bool) (l : List E8) (S : St) (hl : l.length ≤ 1048576) (hk : ∀ e, e ∈ l → OkE b e) (hr : l.Pairwise fun x y => ltS x.key y.key = true) (h0 : ∀ (i : Nat) e, l[i]? = some e → (e.key = noS ↔ i = 0 ∧ b = false)) (hs : sizS (l.map (cellS b)) ≤ 122) (h1 : 1 < l.length ∨ (b = true ∧ l.length = 1)) :
    ACall Tryz.prog w0 158 [.agg [dB b, .sl 5 false (l.map dE8)]] S (fun d S' => d = .tup [dS (packS (if b then 1 else 2) (l.map (cellS b))), dI 0] ∧ S' = S) := by
  have hcl := fun S => cellsR w0 b l S hl fun e he => ⟨by have := (hk e he).1; omega, by
    have h := (hk e he).2
    split at h
    · split at h
      · rw [h.1, noS_size]; omega
      · have := h.1; omega
    · rw [h.1, noS_size]; omega⟩
  have hch := fun S => check8R w0 b l S hl hk hr h0 hs h1
  cases b with
  | true =>
    refine fnS [] mx Tryz.func158 rfl rfl (by kernel_rfl) ?_; refine @goW _ (goS1 @Tryz.ntmps158 ?_)
    intro b1
    refine use1 (hch _) ?_
    refine @goW _ (goS ?_)
    refine use1 (hcl _) ?_
    refine @goW _ (goS ?_)
    refine use1 (packR w0 1 (l.map (cellS true)) _ (by decide) hs) ?_
    exact @goW _ goT
  | false =>
    refine fnS [] mx Tryz.func158 rfl rfl (by kernel_rfl) ?_; refine @goW _ (goS1 @Tryz.ntmps158 ?_)
    intro b1
    refine use1 (hch _) ?_
    refine @goW _ (goS ?_)
    refine use1 (hcl _) ?_
    refine @goW _ (goS ?_)
    refine use1 (packR w0 2 (l.map (cellS false)) _ (by decide) hs) ?_
    exact @goW _ goT
end Go.Proofs.YtfieabidajilmaaGreat

namespace Go.Proofs.YtfieabidajilmaaGreat
open Aml Go
set_option linter.unusedVariables false
set_option linter.unusedSimpArgs false
set_option maxRecDepth 100000
/-- How long a part of a value is. -/
def partI (z i : Nat) : Nat := min 119 (z - 119 * i)
/-- A part of a value, and where the next one stands. -/
def chCell (v : ByteArray) (at_ : List Int) (i : Nat) : ByteArray := numS 2 (IntKind.u64.wrap ((at_[i + 1]?).getD 0)) ++ v.extract (119 * i) (119 * i + partI v.size i)
def chainS (v : ByteArray) (at_ : List Int) : List ByteArray := (List.range at_.length).map fun i => packS 3 [chCell v at_ i]
theorem hasR (w0 : W0) (l : List Int) (x : Int) (S : St) (hl : l.length ≤ 1048576) : ACall Tryz.prog w0 184 [dL l, dI x] S (fun d S' => d = dB (decide (x ∈ l)) ∧ S' = S) := by
  have f1 : ∀ k, l[k]? = some x → decide (x ∈ l) = true := fun k h => decide_eq_true (List.mem_of_getElem? h)
  have f2 : (∀ (j : Nat) a, l[j]? = some a → ¬ a = x) → decide (x ∈ l) = false := fun h => decide_eq_false fun hx => by
    obtain ⟨j, hj⟩ := List.mem_iff_getElem?.1 hx
    exact h j x hj rfl
  generalize decide (x ∈ l) = R at *
  refine fnS [] mx Tryz.func184 rfl rfl (by kernel_rfl) ?_; (refine @goW _ ?_; refine goS1 @Tryz.ntmps184 ?_)
  refine loopN [] l.length [0, 1, 5] (fun k => [(5, dI k)]) (fun _ => S) (fun k => ∀ (j : Nat) a, j < k → l[j]? = some a → ¬ a = x) mx (by kernel_rfl) ?_ ?_
  · (refine @goW _ ?_; refine goS ?_)
    exact fun j a h => absurd h (by omega)
  · intro k hk hinv
    (refine @goW _ ?_; refine goS ?_)
    refine ⟨fun hlt => ⟨hlt, fun a ha => ⟨fun he => by subst he; rw [f1 k ha], fun he => ⟨hlt, fun j c hj hc => ?_, by rw [w64 (by omega) (by omega)]; rfl⟩⟩⟩, fun hge => ?_⟩
    · rcases Nat.lt_succ_iff_lt_or_eq.1 hj with h | h
      · exact hinv j c h hc
      · subst h; cases getE ha hc; exact he
    · rw [f2 fun j a ha => hinv j a (by have := (List.getElem?_eq_some_iff.1 ha).1; omega) ha]
theorem partR (w0 : W0) (z i : Nat) (S : St) (hz : z ≤ 1048576) (hi : 119 * i < z) : ACall Tryz.prog w0 186 [dI z, dI i] S (fun d S' => d = dI (partI z i) ∧ S' = S) := by
  have e1 : IntKind.i64.wrap (119 * (i : Int)) = ((119 * i : Nat) : Int) := by rw [w64 (by omega) (by omega)]; omega
  have e2 : IntKind.i64.wrap ((z : Int) - ((119 * i : Nat) : Int)) = ((z - 119 * i : Nat) : Int) := by rw [w64 (by omega) (by omega)]; omega
  refine fnS [] mx Tryz.func186 rfl rfl (by kernel_rfl) ?_; (refine @goW _ ?_; refine goS1 @Tryz.ntmps186 ?_)
  rw [e1, e2]
  unfold partI
  exact ⟨fun h => by omega, fun h => by omega⟩
theorem chCell_size {v : ByteArray} {at_ : List Int} {i : Nat} (hi : 119 * i < v.size) : (chCell v at_ i).size = 2 + partI v.size i := by
  unfold chCell partI
  rw [ByteArray.size_append, numS_size, ByteArray.size_extract]
  omega
set_option maxHeartbeats 8000000 in
theorem put9R (w0 : W0) (v : ByteArray) (at_ : List Int) (S : St) (hv : v.size ≤ 400) (hn : need (v.size : Int) = at_.length) (h0 : at_ ≠ []) (hr : ∀ x, x ∈ at_ → 2 ≤ x ∧ x ≤ 999) (hd : at_.Nodup) :
    ACall Tryz.prog w0 175 [dS v, dL at_] S (fun d S' => d = .tup [.sl 1 false ((chainS v at_).map dS), dI 0] ∧ S' = S) := by
  have hpos := List.length_pos_iff.2 h0
  have hneed : 16 < v.size ∧ 119 * (at_.length - 1) < v.size ∧ at_.length ≤ 4 := by
    unfold need at hn
    split at hn
    · omega
    · omega
  have hcl : (chainS v at_).length = at_.length := by unfold chainS; rw [List.length_map, List.length_range]
  refine fnS [5,8] mx Tryz.func175 rfl rfl (by kernel_rfl) ?_; (refine @goW _ ?_; refine goS1 @Tryz.ntmps175 ?_)
  refine use1 (needR w0 _ _) ?_
  rw [hn]
  (refine @goW _ ?_; refine goS ?_)
  refine ⟨fun h => absurd h (by omega), fun _ => ?_⟩
  refine growK 7 1 rfl (by omega) fun lp => ?_
  refine shrK [8] [] mx (by kernel_rfl) ?_
  (refine @goW _ ?_; refine goS ?_)
  refine loopN [8] at_.length [0, 1, 6, 7, 8] (fun k => [(7, .acc lp.n k), (8, dI k)]) (fun k => ⟨S.box, (lp.n, .arr 1 (((chainS v at_).take k).map dS)) :: S.acc⟩) (fun _ => True) mx (by kernel_rfl) ?_ ?_
  · (refine @goW _ ?_; exact goT)
  · intro k hk' _
    have hml : ((chainS v at_).take k).length = k := by rw [List.length_take]; omega
    (refine @goW _ ?_; refine goS1 @hml ?_)
    refine ⟨fun hlt => ?_, fun hge => ?_⟩
    · obtain ⟨x, hx⟩ : ∃ x, at_[k]? = some x := ⟨_, List.getElem?_eq_getElem hlt⟩
      have hxr := hr x (List.mem_of_getElem? hx)
      refine cutK (σ := Unit) [] [0, 1, 6, 7, 8, 50] (fun _ => [(50, dB false)]) (fun _ => ⟨S.box, (lp.n, .arr 1 (((chainS v at_).take k).map dS)) :: S.acc⟩) (fun _ => True) mx (by kernel_rfl) ?_ ?_
      · (refine @goW _ ?_; refine goS1 @hml ?_)
        refine ⟨hlt, fun a ha => ⟨fun h => ?_, fun _ => ⟨hlt, fun a2 ha2 => ⟨fun h => ?_, fun _ => ⟨by omega, hlt, fun a3 ha3 => ?_⟩⟩⟩⟩⟩
        · cases getE hx ha; omega
        · cases getE hx ha2; omega
        · cases getE hx ha3
          have hno : decide (x ∈ at_.take k) = false := decide_eq_false fun hm => by
            obtain ⟨j, hj⟩ := List.mem_iff_getElem?.1 hm
            rw [List.getElem?_take] at hj
            split at hj
            · rename_i hjk
              obtain ⟨u1, e1⟩ := List.getElem?_eq_some_iff.1 hj
              obtain ⟨u2, e2⟩ := List.getElem?_eq_some_iff.1 hx
              have := (List.pairwise_iff_getElem.1 hd) j k u1 u2 hjk
              exact this (e1.trans e2.symm)
            · cases hj
          refine useQ (hasR w0 (at_.take k) x _ (by rw [List.length_take]; omega)) ?_
          rw [hno]
          (refine @goW _ ?_; refine goS ?_)
          exact ⟨(), trivial⟩
      · intro _ _
        have e1 : IntKind.i64.wrap ((k : Int) + 1) = ((k + 1 : Nat) : Int) := by rw [w64 (by omega) (by omega)]; rfl
        have e2 : IntKind.i64.wrap (119 * (k : Int)) = ((119 * k : Nat) : Int) := by rw [w64 (by omega) (by omega)]; omega
        have hvk : 119 * k < v.size := by omega
        have hpl : partI v.size k ≤ 119 ∧ 119 * k + partI v.size k ≤ v.size := by unfold partI; omega
        have hs : (chainS v at_).take (k + 1) = (chainS v at_).take k ++ [packS 3 [chCell v at_ k]] := by
          rw [List.take_add_one]; unfold chainS; rw [List.getElem?_map, List.getElem?_range hlt]; rfl
        have hcs := chCell_size (at_ := at_) hvk
        have hsz : sizS [chCell v at_ k] ≤ 122 := by simp only [sizS, List.map_cons, List.map_nil, List.sum_cons, List.sum_nil]; omega
        have hpk := fun S => packR w0 3 [chCell v at_ k] S (by decide) hsz
        have hpa := fun S => partR w0 v.size k S (by omega) hvk
        have hc0 : chCell v at_ k = numS 2 (IntKind.u64.wrap ((at_[k + 1]?).getD 0)) ++ v.extract (119 * k) (119 * k + partI v.size k) := rfl
        have hn2 := fun x => numS_size 2 x
        rw [hs]
        generalize packS 3 [chCell v at_ k] = PK at *
        (refine @goW _ ?_; refine goS3 @hml @e1 @e2 ?_)
        have e3 : IntKind.i64.wrap (((119 * k : Nat) : Int) + ((partI v.size k : Nat) : Int)) = ((119 * k + partI v.size k : Nat) : Int) := by rw [w64 (by omega) (by omega)]; omega
        have hes : (v.extract (119 * k) (119 * k + partI v.size k)).size = partI v.size k := by rw [ByteArray.size_extract]; omega
        refine ⟨fun hlt2 => ⟨hlt2, fun a ha => ?_⟩, fun hge2 => ?_⟩
        · rw [ha, Option.getD_some] at hc0
          refine use1 (numR w0 _ 2 _ (by omega) (by omega)) ?_
          (refine @goW _ ?_; refine goS1 @e2 ?_)
          refine use1 (hpa _) ?_
          (refine @goW _ ?_; refine goS1 @e2 ?_)
          rw [e3, Int.toNat_natCast, hn2, hes, ← hc0]
          refine ⟨by omega, by omega, by omega, use1 (hpk _) ?_ ⟨.refl _, .full _ _ _, trivial⟩⟩
          simp (maxDischargeDepth := 12) (maxSteps := 1000000) -implicitDefEqProofs only [go_sem, Nat.reduceAdd, Nat.reduceSub, Nat.reduceMul, Nat.reduceLeDiff, Nat.reduceEqDiff, Nat.reduceGT, Nat.reduceBEq, reduceCtorEq, ↓reduceIte, Int.reduceToNat, Int.reduceLE, Int.reduceLT, Int.reduceNe, Int.reduceEq, hml, e1, List.map_append, List.map_cons, List.map_nil]
          exact ⟨by omega, by unfold maxLen; omega, hlt⟩
        · rw [List.getElem?_eq_none (by omega), Option.getD_none] at hc0
          refine use1 (numR w0 _ 2 _ (by omega) (by omega)) ?_
          (refine @goW _ ?_; refine goS1 @e2 ?_)
          refine use1 (hpa _) ?_
          (refine @goW _ ?_; refine goS1 @e2 ?_)
          rw [e3, Int.toNat_natCast, hn2, hes, ← hc0]
          refine ⟨by omega, by omega, by omega, use1 (hpk _) ?_ ⟨.refl _, .full _ _ _, trivial⟩⟩
          simp (maxDischargeDepth := 12) (maxSteps := 1000000) -implicitDefEqProofs only [go_sem, Nat.reduceAdd, Nat.reduceSub, Nat.reduceMul, Nat.reduceLeDiff, Nat.reduceEqDiff, Nat.reduceGT, Nat.reduceBEq, reduceCtorEq, ↓reduceIte, Int.reduceToNat, Int.reduceLE, Int.reduceLT, Int.reduceNe, Int.reduceEq, hml, e1, List.map_append, List.map_cons, List.map_nil]
          exact ⟨by omega, by unfold maxLen; omega, hlt⟩
    · rw [List.take_of_length_le (by omega)]
      exact .refl _
end Go.Proofs.YtfieabidajilmaaGreat

namespace Go.Proofs.YtfieabidajilmaaGreat
open Aml Go
set_option linter.unusedVariables false
set_option linter.unusedSimpArgs false
set_option maxRecDepth 100000
/-- A page that is written. -/
@[go_sem] def dWr (w : Int × ByteArray) : DV := .agg [dI w.1, dS w.2]
/-- The store in which some pages are left, and some are written. -/
def layS (S : St) (bs lw : Nat) (left : List Int) (ws : List (Int × ByteArray)) : St := ⟨up S.box bs [.acc lw ws.length, .sl 1 false (left.map dI)], up S.acc lw (.arr 2 (ws.map dWr))⟩
structure LayI (S : St) (bs lw : Nat) (left : List Int) (ws : List (Int × ByteArray)) : Prop where
  box : lk S.box bs = some [.acc lw ws.length, .sl 1 false (left.map dI)]
  acc : lk S.acc lw = some (.arr 2 (ws.map dWr))
theorem lay_self {α : Type} {b : Nat} {x : α} : ∀ {l : List (Nat × α)}, lk l b = some x → up l b x = l
  | [], h => rfl
  | (k, y) :: l, h => by
    unfold lk at h
    unfold up
    split
    · rename_i e; rw [if_pos e] at h; cases h; rw [e]
    · rename_i e; rw [if_neg e] at h; rw [lay_self h]
set_option maxHeartbeats 4000000 in
theorem someR (w0 : W0) (bs lw : Nat) (left : List Int) (ws : List (Int × ByteArray)) (n : Nat) (S : St) (h : LayI S bs lw left ws) (hn : n ≤ left.length) (hl : left.length ≤ 1048576) :
    ACall Tryz.prog w0 157 [.v (.pointer (some ⟨bs, 0, none⟩)), dI n] S (fun d S' => d = dL (left.take n) ∧ S' = layS S bs lw (left.drop n) ws) := by
  have hb := h.box
  have ha := h.acc
  refine fnO [] mx Tryz.func157 rfl rfl (by kernel_rfl) ?_; (refine @goW _ ?_; refine goS3 @Tryz.ntmps157 @hb @ha ?_)
  refine ⟨hn, hn, ?_⟩
  unfold layS
  rw [lay_self ha]
set_option maxHeartbeats 4000000 in
theorem writeR (w0 : W0) (bs lw : Nat) (left : List Int) (ws : List (Int × ByteArray)) (p : Int) (b : ByteArray) (S : St) (h : LayI S bs lw left ws) (hl : ws.length ≤ 1048576) :
    ACall Tryz.prog w0 159 [.v (.pointer (some ⟨bs, 0, none⟩)), dI p, dS b] S (fun d S' => S' = layS S bs lw left (ws ++ [(p, b)])) := by
  have hb := h.box
  have ha := h.acc
  refine fnO [] mx Tryz.func159 rfl rfl (by kernel_rfl) ?_; (refine @goW _ ?_; refine goS3 @Tryz.ntmps159 @hb @ha ?_)
  refine ⟨by omega, by unfold maxLen; omega, ?_⟩
  unfold layS
  rw [List.length_append, List.map_append]; rfl
end Go.Proofs.YtfieabidajilmaaGreat

namespace Go.Proofs.YtfieabidajilmaaGreat
open Aml Go
set_option linter.unusedVariables false
set_option linter.unusedSimpArgs false
set_option maxRecDepth 100000
/-- The pages that are left, and what is written. -/
abbrev LS := List Int × List (Int × ByteArray)
/-- A value's pages. -/
def layV (d : ByteArray) (ps : List Int) (q : LS) : List Int × LS :=
  if need (d.size : Int) = 0 ∨ ps ≠ [] then (ps, q) else (q.1.take (need (d.size : Int)), (q.1.drop (need (d.size : Int)), q.2 ++ (q.1.take (need (d.size : Int))).zip (chainS d (q.1.take (need (d.size : Int))))))
theorem lay_id {S : St} {bs lw : Nat} {left : List Int} {ws : List (Int × ByteArray)} (h : LayI S bs lw left ws) : layS S bs lw left ws = S := by
  unfold layS
  rw [lay_self h.box, lay_self h.acc]
/-- What stands of a cell in its node's page. -/
def entE (b : Bool) (c : C) : E8 := if b then (if c.pages = [] then ⟨c.key, c.data, false, 0, 0⟩ else ⟨c.key, noS, true, c.data.size, c.pages.headD 0⟩) else ⟨c.key, noS, false, 0, (kid0 c).page⟩
set_option maxHeartbeats 4000000 in
theorem cell19R (w0 : W0) (b : Bool) (c : C) (S : St) (h : b = false → ∃ k, c.kid = [k]) : ACall Tryz.prog w0 156 [dB b, dC c] S (fun d S' => d = dE8 (entE b c) ∧ S' = S) := by
  cases b with
  | false =>
    obtain ⟨k, hk⟩ := h rfl
    have e : entE false c = ⟨c.key, noS, false, 0, k.page⟩ := by unfold entE; rw [kid0_eq hk]; rfl
    rw [e, dC_eq]
    refine fnS [] mx Tryz.func156 rfl rfl (by kernel_rfl) ?_; (refine @goW _ ?_; refine goS2 @Tryz.ntmps156 @hk ?_)
    intro b1 b2 b3
    exact .refl _
  | true =>
    rw [dC_eq]
    refine fnS [] mx Tryz.func156 rfl rfl (by kernel_rfl) ?_; (refine @goW _ ?_; refine goS1 @Tryz.ntmps156 ?_)
    intro b1 b2 b3
    refine ⟨fun hp => ?_, fun hp => ?_⟩
    · refine ⟨by omega, fun a ha => ?_⟩
      have e : entE true c = ⟨c.key, noS, true, c.data.size, a⟩ := by
        unfold entE
        cases hps : c.pages with
        | nil => rw [hps] at ha; cases ha
        | cons x r => rw [hps] at ha; cases ha; rfl
      rw [e]
      exact .refl _
    · have e : entE true c = ⟨c.key, c.data, false, 0, 0⟩ := by
        unfold entE; rw [if_pos rfl, if_pos (List.eq_nil_of_length_eq_zero (by omega))]
      rw [e]
      exact .refl _
set_option maxHeartbeats 8000000 in
theorem value19R (w0 : W0) (bs lw : Nat) (d : ByteArray) (ps : List Int) (q : LS) (S : St) (h : LayI S bs lw q.1 q.2) (hd : d.size ≤ 400) (hp : ps.length ≤ 1048576) (hq : q.1.length ≤ 65536) (hw : q.2.length ≤ 65536) (hn : need (d.size : Int) ≤ q.1.length ∨ ps ≠ []) (hr : ∀ x, x ∈ q.1 → 2 ≤ x ∧ x ≤ 999) (hu : q.1.Nodup) :
    ACall Tryz.prog w0 155 [.v (.pointer (some ⟨bs, 0, none⟩)), .agg [dS d, dL ps]] S (fun e S' => e = .agg [dS d, dL (layV d ps q).1] ∧ S' = layS S bs lw (layV d ps q).2.1 (layV d ps q).2.2) := by
  obtain ⟨left, ws⟩ := q
  simp only at h hq hw hn hr hu
  have hb := h.box
  have ha := h.acc
  have q1 : need (d.size : Int) = 0 → layV d ps (left, ws) = (ps, (left, ws)) := fun e => by unfold layV; rw [if_pos (.inl e)]
  have q2 : ps ≠ [] → layV d ps (left, ws) = (ps, (left, ws)) := fun e => by unfold layV; rw [if_pos (.inr e)]
  have q3 : need (d.size : Int) ≠ 0 → ps = [] → layV d ps (left, ws) = (left.take (need (d.size : Int)), (left.drop (need (d.size : Int)), ws ++ (left.take (need (d.size : Int))).zip (chainS d (left.take (need (d.size : Int)))))) := fun e f => by unfold layV; rw [if_neg (by simp [e, f])]
  generalize layV d ps (left, ws) = R at *
  refine fnP [5,9] mx Tryz.func155 rfl rfl (by kernel_rfl) ?_; (refine @goW _ ?_; refine goS1 @Tryz.ntmps155 ?_)
  intro b b1
  refine use1 (needR w0 _ _) ?_
  have fin : ∀ B : List (Nat × List DV), Aml.Sub (layS S bs lw left ws) ⟨S.box, S.acc⟩ := fun _ => by rw [lay_id h]; exact .refl _
  (refine @goW _ ?_; refine goS ?_)
  refine ⟨fun hz => ?_, fun hz => ⟨fun hp0 => ?_, fun hp0 => ?_⟩⟩
  · rw [q1 (by omega)]
    refine ⟨_, _, .refl _, ?_, rfl, rfl⟩
    rw [lay_id h]
    exact ⟨(List.sublist_cons_self _ _).trans (List.sublist_cons_self _ _), List.Sublist.refl _⟩
  · rw [q2 fun e => by rw [e] at hp0; simp at hp0]
    refine ⟨_, _, .refl _, ?_, rfl, rfl⟩
    rw [lay_id h]
    exact ⟨(List.sublist_cons_self _ _).trans (List.sublist_cons_self _ _), List.Sublist.refl _⟩
  · have hps : ps = [] := List.eq_nil_of_length_eq_zero (by omega)
    have hne : need (d.size : Int) ≤ left.length := hn.resolve_right fun e => e hps
    rw [q3 (by omega) hps]
    have hI : LayI (⟨(b1.n, [dS ByteArray.empty, .sl 0 true []]) :: (b.n, [dS d, .sl 1 false (ps.map dI)]) :: S.box, S.acc⟩ : St) bs lw left ws := ⟨by (refine @goW _ ?_; exact goT1 @hb), ha⟩
    refine useK (someR w0 bs lw left ws (need (d.size : Int)) _ hI hne (by omega)) ?_
    rintro e S' ⟨rfl, rfl⟩
    have hTl : (left.take (need (d.size : Int))).length = need (d.size : Int) := by rw [List.length_take]; omega
    have hT0 : left.take (need (d.size : Int)) ≠ [] := fun e => by rw [e] at hTl; simp at hTl; omega
    have hTr : ∀ x, x ∈ left.take (need (d.size : Int)) → 2 ≤ x ∧ x ≤ 999 := fun x hx => hr x (List.mem_of_mem_take hx)
    have hTu : (left.take (need (d.size : Int))).Nodup := hu.sublist (List.take_sublist _ _)
    have hput := fun S => put9R w0 d (left.take (need (d.size : Int))) S hd hTl.symm hT0 hTr hTu
    have hcl : (chainS d (left.take (need (d.size : Int)))).length = (left.take (need (d.size : Int))).length := by unfold chainS; rw [List.length_map, List.length_range]
    have hnl := need_le (d.size : Int)
    simp (maxDischargeDepth := 12) (maxSteps := 1000000) -implicitDefEqProofs only [go_sem, Nat.reduceAdd, Nat.reduceSub, Nat.reduceMul, Nat.reduceLeDiff, Nat.reduceEqDiff, Nat.reduceGT, Nat.reduceBEq, reduceCtorEq, ↓reduceIte, Int.reduceToNat, Int.reduceLE, Int.reduceLT, Int.reduceNe, Int.reduceEq, layS, hb]
    generalize left.take (need (d.size : Int)) = T at *
    generalize left.drop (need (d.size : Int)) = L at *
    generalize need (d.size : Int) = nd at *
    generalize hC : chainS d T = Ch at *
    refine shrK [9] [] mx (by kernel_rfl) ?_
    (refine @goW _ ?_; refine goS1 @hb ?_)
    refine use1 (hput _) ?_
    (refine @goW _ ?_; refine goS1 @hb ?_)
    refine loopN [9] T.length [0, 3, 4, 6, 7, 9] (fun k => [(9, dI k)]) (fun k => ⟨(b1.n, [dS ByteArray.empty, .sl 0 true []]) :: (b.n, [dS d, .sl 1 false (ps.map dI)]) :: up S.box bs [.acc lw (ws.length + k), .sl 1 false (L.map dI)], up S.acc lw (.arr 2 ((ws ++ (T.zip Ch).take k).map dWr))⟩) (fun _ => True) mx (by kernel_rfl) ?_ ?_
    · (refine @goW _ ?_; refine goS ?_)
      exact .refl _
    · intro k hk' _
      (refine @goW _ ?_; refine goS1 @hb ?_)
      refine ⟨fun hlt => ?_, fun hge => ?_⟩
      · refine Y.ordK [] [9] [0, 1, 2, 3, 5, 6, 7, 4, 8, 9] mx (by kernel_rfl) ?_
        (refine @goW _ ?_; refine goS1 @hb ?_)
        refine ⟨by omega, fun x hx => ⟨hlt, fun c hc => ?_⟩⟩
        have hzk : (T.zip Ch)[k]? = some (x, c) := List.getElem?_zip_eq_some.2 ⟨hx, hc⟩
        have hzl : ((T.zip Ch).take k).length = k := by rw [List.length_take, List.length_zip]; omega
        have hz1 : (T.zip Ch).take (k + 1) = (T.zip Ch).take k ++ [(x, c)] := by rw [List.take_add_one, hzk]; rfl
        have hwl : (ws ++ (T.zip Ch).take k).length = ws.length + k := by rw [List.length_append, hzl]
        have hI2 : LayI (⟨(b1.n, [dS ByteArray.empty, .sl 0 true []]) :: (b.n, [dS d, .sl 1 false (ps.map dI)]) :: up S.box bs [.acc lw (ws.length + k), .sl 1 false (L.map dI)], up S.acc lw (.arr 2 ((ws ++ (T.zip Ch).take k).map dWr))⟩ : St) bs lw L (ws ++ (T.zip Ch).take k) := ⟨by
            have e : lk (up S.box bs [.acc lw (ws.length + k), .sl 1 false (L.map dI)]) bs = some [.acc lw (ws ++ (T.zip Ch).take k).length, .sl 1 false (L.map dI)] := by rw [lk_up_same, hb, hwl]; rfl
            (refine @goW _ ?_; exact goT2 @hb @e), by show lk (up S.acc lw _) lw = _; rw [lk_up_same, ha]; rfl⟩
        have hwr := writeR w0 bs lw L (ws ++ (T.zip Ch).take k) x c _ hI2 (by omega)
        have hwl2 : (ws ++ (T.zip Ch).take k ++ [(x, c)]).length = ws.length + (k + 1) := by rw [List.length_append, hwl]; rfl
        unfold layS at hwr
        rw [hwl2] at hwr
        rw [List.append_assoc, ← hz1] at hwr
        refine useK hwr ?_
        rintro e S' rfl
        (refine @goW _ ?_; refine goS1 @hb ?_)
        exact ⟨by omega, by rw [w64 (by omega) (by omega)]; rfl⟩
      · have hkl : k = T.length := by omega
        have hzt : (T.zip Ch).take k = T.zip Ch := List.take_of_length_le (by rw [List.length_zip]; omega)
        rw [hzt]
        refine ⟨_, _, .refl _, ?_, rfl, rfl⟩
        have hwl : (ws ++ T.zip Ch).length = ws.length + k := by rw [List.length_append, List.length_zip]; omega
        unfold layS
        rw [hwl]
        exact ⟨(List.sublist_cons_self _ _).trans (List.sublist_cons_self _ _), List.Sublist.refl _⟩
end Go.Proofs.YtfieabidajilmaaGreat

namespace Go.Proofs.YtfieabidajilmaaGreat
open Aml Go Go.RowKit Go.ChangeShapes
set_option linter.unusedVariables false
set_option linter.unusedSimpArgs false
set_option maxRecDepth 100000
end Go.Proofs.YtfieabidajilmaaGreat

namespace Go.Proofs.YtfieabidajilmaaGreat
open Aml Go
set_option linter.unusedVariables false
set_option linter.unusedSimpArgs false
set_option maxRecDepth 100000
/-- A tree without cells has no page. -/
def PZ (n : N) : Prop := n.l = [] → n.page = 0
theorem pz_em : PZ emN := fun _ => rfl
theorem pz_put {key val : ByteArray} {n : N} (h : RootG n) (h0 : key ≠ noS) (h1 : key.size ≤ 16) (h2 : val.size ≤ 400) : PZ (Put key val n) := fun e => by
  have := (root_put (val := val) h0 h1 h2 h).2
  rw [enN_eq, e, List.flatMap_nil] at this
  have := congrArg List.length this
  unfold insE at this
  simp at this
theorem pz_del {key : ByteArray} {n : N} (h : RootG n) (hz : PZ n) : PZ (Del key n) := fun e => by
  cases hf : (findN key n).isSome with
  | true => rw [del_empty h hf e]; rfl
  | false =>
    have : Del key n = n := by unfold Del; rw [if_neg (by rw [hf]; simp)]
    rw [this] at e ⊢
    exact hz e
theorem rise_at {l : List C} (h : Rise l) {i j : Nat} {a b : C} (hij : i < j) (ha : l[i]? = some a) (hb : l[j]? = some b) : ltS a.key b.key = true := by
  obtain ⟨h1, rfl⟩ := List.getElem?_eq_some_iff.1 ha
  obtain ⟨h2, rfl⟩ := List.getElem?_eq_some_iff.1 hb
  exact List.pairwise_iff_getElem.1 h i j h1 h2 hij
end Go.Proofs.YtfieabidajilmaaGreat

namespace Go.Proofs.YtfieabidajilmaaGreat
open Aml Go
set_option linter.unusedVariables false
set_option linter.unusedSimpArgs false
set_option maxRecDepth 100000
/-- A value that may be. -/
def okV (c : C) : Prop := c.data.size ≤ 400 ∧ (c.pages ≠ [] → 16 < c.data.size)
/-- Keys that may stand in a node, from one on, and below another one. -/
structure FitK (b : Bool) (l : List C) (lo hi : ByteArray) : Prop where
  rise : Rise l
  size : ∀ c, c ∈ l → c.key.size ≤ 16
  first : ∀ (i : Nat) c, l[i]? = some c → (c.key = noS ↔ i = 0 ∧ b = false)
  low : ∀ (i : Nat) c, l[i]? = some c → ¬ (i = 0 ∧ b = false) → leS lo c.key = true
  high : hi ≠ noS → ∀ c, c ∈ l → ltS c.key hi = true
theorem noS_ge {a : ByteArray} (h : ltS a noS = true) : False := by
  have := leS_iff.1 (noS_le a)
  rw [h] at this; cases this
theorem fitK_good : ∀ {d : Nat} {n : N} {lo hi : ByteArray}, Good d n → (∀ x, x ∈ enN n → leS lo x.key = true) → (hi ≠ noS → ∀ x, x ∈ enN n → ltS x.key hi = true) → FitK n.leaf n.l lo hi
  | 0, n, lo, hi, h, h1, h2 => by
    rw [h.1]
    rw [en_leaf h.1] at h1 h2
    exact ⟨h.2.1, fun c hc => (h.2.2 c hc).2.1, fun i c hc => ⟨fun e => absurd e (h.2.2 c (List.mem_of_getElem? hc)).1, fun e => by cases e.2⟩, fun i c hc _ => h1 c (List.mem_of_getElem? hc), fun e c hc => h2 e c hc⟩
  | d + 1, n, lo, hi, h, h1, h2 => by
    obtain ⟨hl, hne, hB⟩ := h
    rw [hl]
    have hr : Rise n.l := hB.pw.imp fun h => h.1
    have hin : ∀ c, c ∈ n.l → ∀ x, x ∈ enC false c → x ∈ enN n := fun c hc x hx => by rw [enN_eq, hl]; exact List.mem_flatMap.2 ⟨c, hc, hx⟩
    have hlt : ∀ (i : Nat) c, n.l[i]? = some c → 0 < i → ∃ x, x ∈ enN n ∧ ltS x.key c.key = true := fun i c hc hi => by
      obtain ⟨j, rfl⟩ : ∃ j, i = j + 1 := ⟨i - 1, by omega⟩
      obtain ⟨hi2, rfl⟩ := List.getElem?_eq_some_iff.1 hc
      have hj : n.l[j]? = some n.l[j] := List.getElem?_eq_getElem (by omega)
      obtain ⟨x, hx⟩ := cell_ne (hB.cell _ (List.mem_of_getElem? hj))
      exact ⟨x, hin _ (List.mem_of_getElem? hj) x hx, (List.pairwise_iff_getElem.1 hB.pw j (j + 1) (by omega) hi2 (by omega)).2 x hx⟩
    refine ⟨hr, fun c hc => (hB.cell c hc).1.1, fun i c hc => ⟨fun e => ⟨?_, rfl⟩, fun e => ?_⟩, fun i c hc hi => ?_, fun e c hc => ?_⟩
    · refine Nat.eq_zero_of_not_pos fun hp => ?_
      obtain ⟨x, _, hx⟩ := hlt i c hc hp
      rw [e] at hx
      exact noS_ge hx
    · have := hB.k0
      rw [e.1] at hc
      cases hx : n.l with
      | nil => rw [hx] at hc; cases hc
      | cons a l => rw [hx] at hc this; cases hc; exact this
    · obtain ⟨x, hx, hxc⟩ := hlt i c hc (Nat.pos_of_ne_zero fun e => hi ⟨e, rfl⟩)
      exact ltS_le (leS_lt (h1 x hx) hxc)
    · have hcG := hB.cell c hc
      obtain ⟨x, hx⟩ := cell_ne hcG
      exact leS_lt (hcG.2.1 x hx) (h2 e x (hin c hc x hx))
theorem okV_good {n : N} (h : Good 0 n) : ∀ c, c ∈ n.l → okV c := fun c hc => by
  obtain ⟨_, _, h3, h4, _⟩ := h.2.2 c hc
  exact ⟨h3, h4⟩
end Go.Proofs.YtfieabidajilmaaGreat

namespace Go.Proofs.YtfieabidajilmaaGreat
open Aml Go
set_option linter.unusedVariables false
set_option linter.unusedSimpArgs false
set_option maxRecDepth 100000
/-- A node's page. -/
def pageS (b : Bool) (l : List C) : ByteArray := packS (if b then 1 else 2) ((l.map (entE b)).map (cellS b))
mutual
/-- A tree laid on the pages that are left; what is left then, and what is written. -/
def layN : N → LS → N × LS
  | .mk p b l, q => if p ≠ 0 ∨ (b = true ∧ l = []) then (.mk p b l, q) else
    let r := layCs b l q
    (.mk (r.2.1.headD 0) b r.1, (r.2.1.tail, r.2.2 ++ [(r.2.1.headD 0, pageS b r.1)]))
def layC (b : Bool) : C → LS → C × LS
  | .mk k d ps kid, q => if b then (.mk k d (layV d ps q).1 kid, (layV d ps q).2) else
    let r := layNs kid q
    (.mk k d ps r.1, r.2)
def layCs (b : Bool) : List C → LS → List C × LS
  | [], q => ([], q)
  | c :: l, q =>
    let r := layC b c q
    let s := layCs b l r.2
    (r.1 :: s.1, s.2)
def layNs : List N → LS → List N × LS
  | [], q => ([], q)
  | n :: l, q => ([(layN n q).1], (layN n q).2)
end
theorem layCs_snoc (b : Bool) : ∀ (l : List C) (c : C) (q : LS), layCs b (l ++ [c]) q = ((layCs b l q).1 ++ [(layC b c (layCs b l q).2).1], (layC b c (layCs b l q).2).2)
  | [], c, q => by simp [layCs]
  | a :: l, c, q => by simp only [List.cons_append, layCs, layCs_snoc b l c]
theorem layCs_take {b : Bool} {l : List C} {k : Nat} {c : C} (h : l[k]? = some c) (q : LS) : layCs b (l.take (k + 1)) q = ((layCs b (l.take k) q).1 ++ [(layC b c (layCs b (l.take k) q).2).1], (layC b c (layCs b (l.take k) q).2).2) := by
  rw [List.take_add_one, h, Option.toList_some, layCs_snoc]
theorem layCs_len (b : Bool) : ∀ (l : List C) (q : LS), (layCs b l q).1.length = l.length
  | [], _ => rfl
  | a :: l, q => by simp only [layCs, List.length_cons, layCs_len b l]
theorem layN_eq (n : N) (q : LS) : layN n q = if n.page ≠ 0 ∨ (n.leaf = true ∧ n.l = []) then (n, q) else (.mk ((layCs n.leaf n.l q).2.1.headD 0) n.leaf (layCs n.leaf n.l q).1, ((layCs n.leaf n.l q).2.1.tail, (layCs n.leaf n.l q).2.2 ++ [((layCs n.leaf n.l q).2.1.headD 0, pageS n.leaf (layCs n.leaf n.l q).1)])) := by
  cases n; simp only [layN, N.leaf, N.l, N.page]; rfl
theorem layC_leaf (c : C) (q : LS) : layC true c q = (.mk c.key c.data (layV c.data c.pages q).1 c.kid, (layV c.data c.pages q).2) := by
  cases c; simp only [layC, if_true, C.key, C.data, C.pages, C.kid]
theorem layC_br {c : C} {k : N} (h : c.kid = [k]) (q : LS) : layC false c q = (.mk c.key c.data c.pages [(layN k q).1], (layN k q).2) := by
  cases c with | mk ck cd cp cr =>
  simp only [C.kid] at h; subst h
  simp only [layC, Bool.false_eq_true, if_false, layNs, C.key, C.data, C.pages]
/-- How many pages a value takes: those that are left get fewer by as many. -/
theorem layV_left (d : ByteArray) (ps : List Int) (q : LS) : ∃ m, (layV d ps q).2.1 = q.1.drop m ∧ m = (if ps = [] then need (d.size : Int) else 0) := by
  unfold layV
  by_cases h : ps = []
  · rw [if_pos h]
    split
    · rename_i e
      have e := e.resolve_right (fun f => f h)
      exact ⟨0, by simp, e.symm⟩
    · exact ⟨_, rfl, rfl⟩
  · rw [if_neg h, if_pos (.inr h)]
    exact ⟨0, by simp, rfl⟩
end Go.Proofs.YtfieabidajilmaaGreat

namespace Go.Proofs.YtfieabidajilmaaGreat
open Aml Go
set_option linter.unusedVariables false
set_option linter.unusedSimpArgs false
set_option maxRecDepth 100000

/-- Pages of a value, from one on. -/
def pagesR (from_ : Int) (n : Nat) : List Int := (List.range n).map fun (i : Nat) => from_ + i
def longN (z : Nat) : Nat := if 16 < z then (z + 118) / 119 else 0
mutual
/-- A tree of which all is laid, at pages from one on; the page behind them. -/
def markN : N → Int → N × Int
  | .mk p b l, f =>
    let r := markCs b l f
    if l = [] then (.mk 0 b r.1, r.2) else (.mk r.2 b r.1, r.2 + 1)
def markC (b : Bool) : C → Int → C × Int
  | .mk k d ps kid, f => if b then (.mk k d (if 16 < d.size then pagesR f (longN d.size) else ps) kid, f + longN d.size) else
    let r := markNs kid f
    (.mk k d ps r.1, r.2)
def markCs (b : Bool) : List C → Int → List C × Int
  | [], f => ([], f)
  | c :: l, f =>
    let r := markC b c f
    let q := markCs b l r.2
    (r.1 :: q.1, q.2)
def markNs : List N → Int → List N × Int
  | [], f => ([], f)
  | n :: l, f => ([(markN n f).1], (markN n f).2)
end
theorem markCs_len (b : Bool) : ∀ (l : List C) (f : Int), (markCs b l f).1.length = l.length
  | [], _ => rfl
  | a :: l, f => by simp only [markCs, List.length_cons, markCs_len b l]
theorem markN_eq (n : N) (f : Int) : markN n f = if n.l = [] then (.mk 0 n.leaf (markCs n.leaf n.l f).1, (markCs n.leaf n.l f).2) else (.mk (markCs n.leaf n.l f).2 n.leaf (markCs n.leaf n.l f).1, (markCs n.leaf n.l f).2 + 1) := by
  cases n; simp only [markN, N.leaf, N.l]; rfl
theorem markC_leaf (c : C) (f : Int) : markC true c f = (.mk c.key c.data (if 16 < c.data.size then pagesR f (longN c.data.size) else c.pages) c.kid, f + longN c.data.size) := by
  cases c; simp only [markC, if_true, C.key, C.data, C.pages, C.kid]; rfl
theorem markC_br {c : C} {k : N} (h : c.kid = [k]) (f : Int) : markC false c f = (.mk c.key c.data c.pages [(markN k f).1], (markN k f).2) := by
  cases c with | mk ck cd cp cr =>
  simp only [C.kid] at h; subst h
  simp only [markC, Bool.false_eq_true, if_false, markNs, C.key, C.data, C.pages]
theorem longN_le {z : Nat} (h : z ≤ 400) : longN z ≤ 4 := by unfold longN; split <;> omega
theorem pagesR_succ (f : Int) (q : Nat) : pagesR f (q + 1) = pagesR f q ++ [f + q] := by
  unfold pagesR
  rw [List.range_succ, List.map_append]; rfl
theorem pagesR_len (f : Int) (q : Nat) : (pagesR f q).length = q := by unfold pagesR; simp
end Go.Proofs.YtfieabidajilmaaGreat

namespace Go.Proofs.YtfieabidajilmaaGreat
open Aml Go
set_option linter.unusedVariables false
set_option linter.unusedSimpArgs false
set_option maxRecDepth 100000

theorem mk_short {z : Nat} (h : z ≤ 400) (f : Int) : (pagesR f (longN z)).length ≤ 4 := by rw [pagesR_len]; exact longN_le h
theorem markCs_mem (b : Bool) : ∀ {l : List C} {f : Int} {x : C}, x ∈ (markCs b l f).1 → ∃ c f', c ∈ l ∧ x = (markC b c f').1
  | c :: l, f, x, h => by
    simp only [markCs] at h
    rcases List.mem_cons.1 h with e | h
    · exact ⟨c, f, List.mem_cons_self, e⟩
    · obtain ⟨c', f', h1, h2⟩ := markCs_mem b h
      exact ⟨c', f', List.mem_cons_of_mem _ h1, h2⟩
theorem markN_l (n : N) (f : Int) : (markN n f).1.l = (markCs n.leaf n.l f).1 := by rw [markN_eq]; split <;> rfl
theorem markN_leaf (n : N) (f : Int) : (markN n f).1.leaf = n.leaf := by rw [markN_eq]; split <;> rfl
theorem nd_mark : ∀ {d : Nat} {n : N} (f : Int), Nd d n → Nd d (markN n f).1
  | 0, n, f, h => by
    refine ⟨by rw [markN_leaf]; exact h.1, fun x hx => ?_⟩
    rw [markN_l, h.1] at hx
    obtain ⟨c, f', hc, rfl⟩ := markCs_mem true hx
    obtain ⟨h1, h2⟩ := h.2 c hc
    rw [markC_leaf]
    refine ⟨⟨h1.1, h1.2.1, ?_⟩, h2⟩
    show (if 16 < c.data.size then pagesR f' (longN c.data.size) else c.pages).length ≤ 4
    split
    · exact mk_short h1.2.1 _
    · exact h1.2.2
  | d + 1, n, f, h => by
    refine ⟨by rw [markN_leaf]; exact h.1, ?_, fun x hx => ?_⟩
    · rw [markN_l]
      intro e
      have := markCs_len n.leaf n.l f
      rw [e] at this
      exact h.2.1 (List.eq_nil_of_length_eq_zero this.symm)
    · rw [markN_l, h.1] at hx
      obtain ⟨c, f', hc, rfl⟩ := markCs_mem false hx
      obtain ⟨h1, k, hk, hnd⟩ := h.2.2 c hc
      rw [markC_br hk]
      exact ⟨⟨h1.1, h1.2.1, h1.2.2⟩, _, rfl, nd_mark f' hnd⟩
theorem tot_mark : ∀ {d : Nat} {n : N} (f : Int), Nd d n → totN (markN n f).1 = totN n := by
  have cs : ∀ (b : Bool) (l : List C) (f : Int), (∀ c, c ∈ l → ∀ f, totC (markC b c f).1 = totC c) → tot (markCs b l f).1 = tot l := by
    intro b l
    induction l with
    | nil => intro f _; rfl
    | cons c l ih =>
      intro f h
      simp only [markCs, tot_cons]
      rw [h c List.mem_cons_self, ih _ fun c hc => h c (List.mem_cons_of_mem _ hc)]
  intro d
  induction d with
  | zero =>
    intro n f h
    rw [totN_tot, totN_tot, markN_l, h.1]
    refine cs true n.l f fun c hc f => ?_
    rw [markC_leaf, totC_eq, totC_eq]; rfl
  | succ d ih =>
    intro n f h
    rw [totN_tot, totN_tot, markN_l, h.1]
    refine cs false n.l f fun c hc f => ?_
    obtain ⟨_, k, hk, hnd⟩ := h.2.2 c hc
    rw [markC_br hk, totC_kid hk, totC_kid (k := (markN k f).1) rfl, ih f hnd]
end Go.Proofs.YtfieabidajilmaaGreat

namespace Go.Proofs.YtfieabidajilmaaGreat
open Aml Go
set_option linter.unusedVariables false
set_option linter.unusedSimpArgs false
set_option maxRecDepth 100000

/-- Pages that wait; a pool. -/
structure Wt where
  txn : Int
  pages : List Int
  deriving DecidableEq
structure Pl where
  high : Int
  free : List Int
  wait : List Wt
  deriving DecidableEq
@[go_sem] def dW (w : Wt) : DV := .agg [dU w.txn, .sl 1 false (w.pages.map dI)]
@[go_sem] def dP (p : Pl) : DV := .agg [dI p.high, .sl 1 false (p.free.map dI), .sl 2 false (p.wait.map dW)]
def nW (l : List Wt) : Nat := (l.map fun w => w.pages.length).sum

theorem nW_succ {l : List Wt} {k : Nat} {a : Wt} (h : l[k]? = some a) : nW (l.take (k + 1)) = nW (l.take k) + a.pages.length := by
  unfold nW
  rw [List.take_add_one, h]
  simp
theorem nW_le (l : List Wt) (k : Nat) : nW (l.take k) ≤ nW l := by
  have : nW l = nW (l.take k) + nW (l.drop k) := by
    unfold nW
    rw [← List.sum_append, ← List.map_append, List.take_append_drop]
  omega

set_option maxHeartbeats 400000 in
theorem waiting (w0 : W0) (p : Pl) (S : St) (hl : p.wait.length ≤ 4611686018427387904) (hn : nW p.wait ≤ 4611686018427387904) : ACall Tryz.prog w0 74 [dP p] S (fun d S' => d = dI (nW p.wait) ∧ S' = S) := by
  refine fnS [] mx Tryz.func74 rfl rfl (by kernel_rfl) ?_; refine @goW _ (goS1 @Tryz.ntmps74 ?_)
  intro b
  refine loopN [] p.wait.length [3, 7, 8, 9] (fun k => [(3, dI (nW (p.wait.take k))), (9, dI k)]) (fun _ => S) (fun k => True) mx (by kernel_rfl) ?_ ?_
  · refine @goW _ (goS ?_)
    simp [nW]
  · intro k hk hinv
    refine @goW _ (goS ?_)
    refine ⟨fun hlt => ⟨hlt, fun a ha b' => ?_⟩, fun hge => ?_⟩
    · have h1 := nW_succ ha
      have h2 := nW_le p.wait (k + 1)
      rw [w64 (by omega) (by omega), w64 (by omega) (by omega)]
      omega
    · rw [List.take_of_length_le (by omega)]
end Go.Proofs.YtfieabidajilmaaGreat

namespace Go.Proofs.YtfieabidajilmaaGreat
open Aml Go
set_option linter.unusedVariables false
set_option linter.unusedSimpArgs false
set_option maxRecDepth 100000


/-- How many pages can be taken. -/
def roomZ (p : Pl) (q : Int) : Int := p.free.length + if p.high < q then q - p.high else 0
set_option maxHeartbeats 1000000 in
theorem room (w0 : W0) (p : Pl) (q : Int) (S : St) (h0 : p.free.length ≤ 1048576) (h1 : -1099511627776 ≤ p.high) (h2 : p.high ≤ 1099511627776) (h3 : -1099511627776 ≤ q) (h4 : q ≤ 1099511627776) : ACall Tryz.prog w0 37 [dP p, dI q] S (fun d S' => d = dI (roomZ p q) ∧ S' = S) := by
  refine fnS [] mx Tryz.func37 rfl rfl (by kernel_rfl) ?_; refine @goW _ (goS1 @Tryz.ntmps37 ?_)
  intro b
  unfold roomZ
  rw [w64 (n := q - p.high) (by omega) (by omega), w64 (by omega) (by omega)]
  constructor
  · intro h; rw [if_pos (by omega)]
  · intro h; rw [if_neg (by omega)]; omega
end Go.Proofs.YtfieabidajilmaaGreat

namespace Go.Proofs.YtfieabidajilmaaGreat
open Aml Go
set_option linter.unusedVariables false
set_option linter.unusedSimpArgs false
set_option maxRecDepth 100000

set_option maxHeartbeats 1000000 in
theorem grow0 (w0 : W0) (n : Int) (S : St) (h0 : 0 ≤ n) (h1 : n ≤ 1099511627776) : ACall Tryz.prog w0 139 [.sl 0 true [], dI n] S (fun d S' => ∃ l : FN S.acc, d = .acc l.n 0 ∧ S' = ⟨S.box, (l.n, .arr 1 []) :: S.acc⟩) := by
  refine acall_nil (K' := fun d S' => (d = .sl 0 true [] ∧ S' = S) ∨ ∃ l : FN S.acc, d = .acc l.n 0 ∧ S' = ⟨S.box, (l.n, .arr 1 []) :: S.acc⟩) ?_ 1 (by omega) ?_
  · refine fnO [] mx Tryz.func139 rfl rfl (by kernel_rfl) ?_; refine @goW _ (goS1 @Tryz.ntmps139 ?_)
    have e1 : IntKind.i64.wrap (0 - 0) = 0 := w64 (by omega) (by omega)
    rw [e1, Int.sub_zero, w64 (by omega) (by omega)]
    refine ⟨fun h => by omega, fun h h2 => ⟨by omega, by omega, by omega, fun l => .inl ⟨⟨_, _, _, rfl⟩, by simp, fun l' => ⟨⟨l'.n, l'.h.2.2⟩, rfl, rfl⟩⟩⟩⟩
  · rintro d S' (⟨rfl, rfl⟩ | h)
    · exact .inr ⟨⟨0, rfl⟩, fun l hl => ⟨⟨l, hl⟩, rfl, rfl⟩⟩
    · exact .inl h

def flat (rows : List (List Int)) : List Int := rows.flatten
theorem flat_succ {rows : List (List Int)} {k : Nat} {a : List Int} (h : rows[k]? = some a) : flat (rows.take (k + 1)) = flat (rows.take k) ++ a := by
  unfold flat
  rw [List.take_add_one, h]
  simp
theorem flat_le (rows : List (List Int)) (k : Nat) : (flat (rows.take k)).length ≤ (flat rows).length := by
  have : flat rows = flat (rows.take k) ++ flat (rows.drop k) := by
    unfold flat
    rw [← List.flatten_append, List.take_append_drop]
  rw [this]; simp

set_option maxHeartbeats 1000000 in
theorem concat (w0 : W0) (rows : List (List Int)) (S : St) (h0 : rows.length ≤ 1099511627776) (h1 : (flat rows).length ≤ 1099511627776) :
    ACall Tryz.prog w0 113 [.sl 1 false (rows.map dL)] S (fun d S' => ∃ l : FN S.acc, d = .acc l.n (flat rows).length ∧ S' = ⟨S.box, (l.n, .arr 1 ((flat rows).map dI)) :: S.acc⟩) := by
  refine fnO [] mx Tryz.func113 rfl rfl (by kernel_rfl) ?_; refine @goW _ (goS1 @Tryz.ntmps113 ?_)
  refine loopN [] rows.length [0, 3, 9, 10, 11] (fun k => [(3, dI (flat (rows.take k)).length), (11, dI k)]) (fun _ => S) (fun k => True) mx (by kernel_rfl) ?_ ?_
  · refine @goW _ (goS ?_)
    simp [flat]
  · intro k hk _
    refine @goW _ (goS ?_)
    refine ⟨fun hlt => ⟨hlt, fun a ha => ?_⟩, fun hge => ?_⟩
    · have h2 := flat_succ ha
      have h3 := flat_le rows (k + 1)
      rw [h2, List.length_append] at h3
      rw [w64 (by omega) (by omega)]
      refine ⟨fun h => by omega, fun h => ⟨hlt, ?_, w64 (by omega) (by omega)⟩⟩
      rw [h2, List.length_append]; omega
    · rw [List.take_of_length_le (by omega)]
      refine useK (grow0 w0 (flat rows).length S (by omega) (by omega)) ?_
      rintro d S' ⟨l, rfl, rfl⟩
      refine @goW _ (goS ?_)
      refine loopN [] rows.length [6, 25, 26, 27] (fun k => [(6, .acc l.n (flat (rows.take k)).length), (27, dI k)]) (fun k => ⟨S.box, (l.n, .arr 1 ((flat (rows.take k)).map dI)) :: S.acc⟩) (fun k => True) mx (by kernel_rfl) ?_ ?_
      · refine @goW _ (goS ?_)
        simp [flat, Wk.refl, Sub.refl]
      · intro k hk _
        refine @goW _ (goS ?_)
        refine ⟨fun hlt => ⟨hlt, fun a ha => ?_⟩, fun hge => ⟨l, ?_⟩⟩
        · have h2 := flat_succ ha
          have h3 := flat_le rows (k + 1)
          rw [h2, List.length_append] at h3
          refine ⟨by omega, by unfold maxLen; omega, hlt, ⟨?_, w64 (by omega) (by omega)⟩, ?_⟩
          · rw [h2, List.length_append]; exact .refl _
          · rw [h2]; exact .refl _
        · rw [List.take_of_length_le (by omega)]; exact ⟨rfl, rfl⟩

def pgs (l : List Wt) : List (List Int) := l.map (·.pages)
def listed (p : Pl) : List Int := srt (flat (p.free :: pgs p.wait))
end Go.Proofs.YtfieabidajilmaaGreat

namespace Go.Proofs.YtfieabidajilmaaGreat
open Aml Go
set_option linter.unusedVariables false
set_option linter.unusedSimpArgs false
set_option maxRecDepth 100000

theorem srt_perm (l : List Int) : (srt l).Perm l := List.mergeSort_perm l _
theorem srt_up (l : List Int) : (srt l).Pairwise (· ≤ ·) := by
  have := List.pairwise_mergeSort (le := fun x y : Int => decide (x ≤ y)) (fun a b c h k => by simp at *; omega) (fun a b => by simp; omega) l
  exact this.imp fun h => by simpa using h
theorem srt_eq {a b : List Int} (h1 : a.Pairwise (· ≤ ·)) (h2 : a.Perm b) : a = srt b :=
  List.Perm.eq_of_pairwise (le := (· ≤ ·)) (fun x y _ _ h k => Int.le_antisymm h k) h1 (srt_up b) (h2.trans (srt_perm b).symm)
theorem srt_congr {a b : List Int} (h : a.Perm b) : srt a = srt b := srt_eq (srt_up a) ((srt_perm a).trans h)
theorem srt_insert {p : List Int} {x : Int} {j : Nat} (h1 : ∀ (i : Nat) a, i < j → (srt p)[i]? = some a → a ≤ x) (h2 : ∀ a, (srt p)[j]? = some a → x < a) : (srt p).take j ++ x :: (srt p).drop j = srt (p ++ [x]) := by
  have hp := srt_up p
  refine srt_eq ?_ ?_
  · rw [List.pairwise_append]
    have hs : (srt p).take j ++ (srt p).drop j = srt p := List.take_append_drop _ _
    rw [← hs, List.pairwise_append] at hp
    have hd : ∀ y ∈ (srt p).drop j, x ≤ y := by
      intro y hy
      cases he : (srt p).drop j with
      | nil => rw [he] at hy; cases hy
      | cons z t =>
        have hz : (srt p)[j]? = some z := by
          have := congrArg (fun l => l[0]?) he
          simpa using this
        have hxz := h2 z hz
        have hpd := hp.2.1
        rw [he] at hpd hy
        rcases List.mem_cons.1 hy with rfl | hy
        · omega
        · have := (List.pairwise_cons.1 hpd).1 y hy; omega
    refine ⟨hp.1, List.pairwise_cons.2 ⟨fun y hy => hd y hy, hp.2.1⟩, fun y hy z hz => ?_⟩
    have hyx : y ≤ x := by
      obtain ⟨i, hi⟩ := List.getElem?_of_mem hy
      rw [List.getElem?_take] at hi
      split at hi
      · rename_i hlt; exact h1 i y hlt hi
      · cases hi
    rcases List.mem_cons.1 hz with rfl | hz
    · exact hyx
    · have := hd z hz; omega
  · have hs : (srt p).take j ++ (srt p).drop j = srt p := List.take_append_drop _ _
    have : ((srt p).take j ++ x :: (srt p).drop j).Perm (x :: srt p) := by
      have := List.perm_middle (a := x) (l₁ := (srt p).take j) (l₂ := (srt p).drop j)
      rw [hs] at this; exact this
    exact this.trans (((srt_perm p).cons x).trans (List.perm_append_singleton x p).symm)
theorem take_snoc {α : Type} {l : List α} {k : Nat} {a : α} (h : l[k]? = some a) : l.take (k + 1) = l.take k ++ [a] := by rw [List.take_add_one, h]; rfl

set_option maxHeartbeats 4000000 in
theorem sortedR (w0 : W0) (l : List Int) (S : St) (h0 : l.length ≤ 1048576) :
    ACall Tryz.prog w0 76 [dL l] S (fun d S' => d = dL (srt l) ∧ S' = S) := by
  refine fnS [] mx Tryz.func76 rfl rfl (by kernel_rfl) ?_; refine @goW _ (goS1 @Tryz.ntmps76 ?_)
  refine loopNZ [] [3] l.length [0, 3, 4] (fun k => [(3, dL (srt (l.take k))), (4, dI k)]) (fun _ => S) (fun k => True) mx (by kernel_rfl) ?_ ?_
  · refine @goW _ (goS ?_)
    rw [show srt [] = [] by simp [srt]]
    exact @goW _ goT
  · intro k hk _
    refine @goW _ (goS ?_)
    refine ⟨fun hlt => ?_, fun hge => ?_⟩
    · obtain ⟨x, hx⟩ : ∃ x, l[k]? = some x := ⟨_, List.getElem?_eq_getElem hlt⟩
      have hsl : (srt (l.take k)).length = k := by rw [srt_length, List.length_take]; omega
      refine loopK [] [0, 3, 4, 5] (fun j : Nat => [(5, dI j)]) (fun _ => S) (fun j => j ≤ k ∧ ∀ (i : Nat) a, i < j → (srt (l.take k))[i]? = some a → a ≤ x) (fun j => k - j) 0 mx (by kernel_rfl) ?_ ?_
      · refine @goW _ (goS ?_)
        exact ⟨by omega, fun i a hi => by omega⟩
      · intro j hjj
        have hj := hjj.1
        have hup := hjj.2
        clear hjj
        refine @goW _ (goS ?_)
        have fin : (∀ a, (srt (l.take k))[j]? = some a → x < a) → List.map dI ((srt (l.take k)).take j) ++ [DV.v (.int .i64 x)] ++ List.map dI ((srt (l.take k)).drop j) = List.map dI (srt (l.take (k + 1))) := by
          intro h
          rw [take_snoc hx, ← srt_insert (x := x) (j := j) hup h]
          simp [dI]
        rw [hsl]
        refine ⟨fun h1 => ⟨h1, fun a ha => ⟨hlt, fun y hy => ?_⟩⟩, fun h1 => ?_⟩
        · cases getE hx hy
          refine ⟨fun h2 => ⟨j + 1, ⟨by omega, fun i b hi hb => ?_⟩, by omega, w64 (by omega) (by omega)⟩, fun h2 => ?_⟩
          · by_cases e : i = j
            · subst e; cases getE ha hb; exact h2
            · exact hup i b (by omega) hb
          · refine ⟨by omega, by omega, by unfold maxLen; omega, fun b => ⟨hlt, fun y hy => ?_⟩⟩
            cases getE hx hy
            have f2 := fin (fun b hb => by cases getE ha hb; omega)
            simp only [List.append_assoc] at f2 ⊢
            rw [f2]
            exact ⟨by omega, by unfold maxLen; omega, by omega, by omega, by unfold maxLen; omega, hlt, .refl _, w64 (by omega) (by omega)⟩
        · refine ⟨by omega, by omega, by unfold maxLen; omega, fun b => ⟨hlt, fun y hy => ?_⟩⟩
          cases getE hx hy
          have f2 := fin (fun b hb => by have := (List.getElem?_eq_some_iff.1 hb).1; omega)
          simp only [List.append_assoc] at f2 ⊢
          rw [f2]
          exact ⟨by omega, by unfold maxLen; omega, by omega, by omega, by unfold maxLen; omega, hlt, .refl _, w64 (by omega) (by omega)⟩
    · rw [List.take_of_length_le (by omega)]; exact .refl _
end Go.Proofs.YtfieabidajilmaaGreat

namespace Go.Proofs.YtfieabidajilmaaGreat
open Aml Go
set_option linter.unusedVariables false
set_option linter.unusedSimpArgs false
set_option maxRecDepth 100000

theorem sum_flat {α : Type} (f : α → Nat) (g : N → List α) (l : List N) : ((l.reverse.flatMap g).map f).sum = (l.map fun n => ((g n).map f).sum).sum := by
  induction l with
  | nil => rfl
  | cons a l ih => rw [List.reverse_cons, List.flatMap_append, List.map_append, List.sum_append, ih, List.map_cons, List.sum_cons]; simp; omega
/-- What the nodes below weigh. -/
def wT (ends : N → Bool) (f : N → Nat) (n : N) : Nat := ((visN ends n).map f).sum
theorem wT_eq (ends : N → Bool) (f : N → Nat) (n : N) : wT ends f n = f n + if ends n then 0 else ((kidsOf n).map (wT ends f)).sum := by
  unfold wT
  rw [visN_eq, List.map_cons, List.sum_cons]
  split
  · rfl
  · rw [sum_flat]
theorem wT_le (ends : N → Bool) (f : N → Nat) (hf : ∀ d x, Nd d x → f x ≤ 1 + if x.leaf then 4 * x.l.length else 0) : ∀ (d : Nat) (n : N), Nd d n → wT ends f n ≤ 1 + 5 * totN n
  | 0, n, h => by
    have h1 := hf 0 n h
    have h2 := tot_len n
    rw [wT_eq, kidsOf_leaf h.1]
    rw [h.1, if_pos rfl] at h1
    split <;> simp <;> omega
  | d + 1, n, h => by
    have h1 := hf _ n h
    rw [h.1, if_neg (by simp)] at h1
    rw [wT_eq, kids_nd h, totN_tot]
    have : ∀ l : List C, (∀ c, c ∈ l → c ∈ n.l) → ((l.map kid0).map (wT ends f)).sum ≤ 5 * tot l := by
      intro l
      induction l with
      | nil => intro _; exact Nat.zero_le _
      | cons c l ih =>
        intro hl
        obtain ⟨_, k, hk, hnd⟩ := h.2.2 c (hl c List.mem_cons_self)
        have h1 := ih fun c hc => hl c (List.mem_cons_of_mem _ hc)
        have h2 := wT_le ends f hf d k hnd
        rw [List.map_cons, List.map_cons, List.sum_cons, kid0_eq hk, tot_cons, totC_kid hk]
        omega
    have := this n.l fun _ h => h
    split <;> omega
theorem vis_len (ends : N → Bool) {d : Nat} {n : N} (h : Nd d n) : (visN ends n).length ≤ 1 + 5 * totN n := by
  have := wT_le ends (fun _ => 1) (fun _ _ _ => by omega) d n h
  unfold wT at this
  have e : ∀ l : List N, (l.map fun _ => 1).sum = l.length := fun l => by
    induction l with
    | nil => rfl
    | cons a l ih => rw [List.map_cons, List.sum_cons, ih, List.length_cons]; omega
  rwa [e] at this
theorem vis_mem (ends : N → Bool) : ∀ (d : Nat) (n : N), Nd d n → ∀ x, x ∈ visN ends n → ∃ d', Nd d' x ∧ totN x ≤ totN n
  | 0, n, h, x, hx => by
    rw [visN_eq, kidsOf_leaf h.1] at hx
    have : x = n := by
      rcases List.mem_cons.1 hx with e | hx
      · exact e
      · split at hx <;> cases hx
    subst this
    exact ⟨0, h, Nat.le_refl _⟩
  | d + 1, n, h, x, hx => by
    rw [visN_eq, kids_nd h] at hx
    rcases List.mem_cons.1 hx with rfl | hx
    · exact ⟨_, h, Nat.le_refl _⟩
    · split at hx
      · cases hx
      · obtain ⟨k, hk, hx⟩ := List.mem_flatMap.1 hx
        obtain ⟨c, hc, rfl⟩ := List.mem_map.1 (List.mem_reverse.1 hk)
        obtain ⟨_, k, hkid, hnd⟩ := h.2.2 c hc
        rw [kid0_eq hkid] at hx
        obtain ⟨d', h1, h2⟩ := vis_mem ends d k hnd x hx
        have := tot_kid hc hkid
        exact ⟨d', h1, by omega⟩
theorem vis_l (ends : N → Bool) {d : Nat} {n : N} (h : Nd d n) (x : N) (hx : x ∈ visN ends n) : x.l.length ≤ totN n := by
  obtain ⟨d', h1, h2⟩ := vis_mem ends d n h x hx
  have := tot_len x
  omega
theorem fcS_le (l : List C) : fcS l ≤ 4 * l.length := by
  unfold fcS
  induction l with
  | nil => exact Nat.le_refl _
  | cons c l ih =>
    have : fc1 c ≤ 4 := by unfold fc1; split; exact need_le _; omega
    rw [List.map_cons, List.sum_cons, List.length_cons]; omega
theorem fr1_le (x : N) : fr1 x ≤ 1 + if x.leaf then 4 * x.l.length else 0 := by
  unfold fr1
  split
  · omega
  · split
    · omega
    · split
      · have := fcS_le x.l; omega
      · simp [fcS]
theorem pages_le {l : List C} (h : ∀ c, c ∈ l → Sh c) : (l.flatMap C.pages).length ≤ 4 * l.length := by
  induction l with
  | nil => exact Nat.le_refl _
  | cons c l ih =>
    have h1 := ih fun c hc => h c (List.mem_cons_of_mem _ hc)
    have h2 := (h c List.mem_cons_self).2.2
    rw [List.flatMap_cons, List.length_append, List.length_cons]; omega
theorem pg1_le {d : Nat} {x : N} (h : Nd d x) : (pg1 x).length ≤ 1 + if x.leaf then 4 * x.l.length else 0 := by
  unfold pg1
  rw [List.length_append]
  have h1 : (if x.page ≠ 0 then [x.page] else []).length ≤ 1 := by split <;> simp
  have h2 : ((if x.leaf then x.l else []).flatMap C.pages).length ≤ if x.leaf then 4 * x.l.length else 0 := by
    split
    · exact pages_le (nd_sh h)
    · simp
  omega
theorem pgS_le (ends : N → Bool) {d : Nat} {n : N} (h : Nd d n) : (pgS (visN ends n)).length ≤ 1 + 5 * totN n := by
  have := wT_le ends (fun x => (pg1 x).length) (fun d x hx => pg1_le hx) d n h
  unfold wT at this
  unfold pgS
  rw [List.length_flatMap]
  exact this
/-- What a tree takes. -/
def frT (n : N) : Nat := frS (visN laidB n)
theorem frT_le {d : Nat} {n : N} (h : Nd d n) : frT n ≤ 1 + 5 * totN n := wT_le laidB fr1 (fun _ x _ => fr1_le x) d n h
def rfC (b : Bool) (c : C) : Nat := if b then fc1 c else frT (kid0 c)
def rfS (b : Bool) (l : List C) : Nat := (l.map (rfC b)).sum
theorem rfS_succ {b : Bool} {l : List C} {k : Nat} {c : C} (h : l[k]? = some c) : rfS b (l.take (k + 1)) = rfS b (l.take k) + rfC b c := by
  unfold rfS
  rw [List.take_add_one, h]; simp
theorem rfS_take (b : Bool) (l : List C) (k : Nat) : rfS b (l.take k) ≤ rfS b l := by
  have := congrArg (rfS b) (List.take_append_drop k l)
  simp only [rfS, List.map_append, List.sum_append] at this ⊢
  omega
theorem frT_eq {d : Nat} {n : N} (h : Nd d n) : frT n = if n.page ≠ 0 then 0 else if n.leaf = true ∧ n.l = [] then 0 else 1 + rfS n.leaf n.l := by
  have h1 : frT n = wT laidB fr1 n := rfl
  have e : fr1 n = if n.page ≠ 0 then 0 else if n.leaf = true ∧ n.l = [] then 0 else 1 + fcS (if n.leaf then n.l else []) := rfl
  rw [h1, wT_eq, e]
  by_cases hp : n.page ≠ 0
  · have hb : laidB n = true := decide_eq_true hp
    rw [if_pos hp, if_pos hp, hb]; rfl
  · have hb : laidB n = false := decide_eq_false hp
    rw [if_neg hp, if_neg hp, hb]
    have e2 : ∀ x : Nat, (if false = true then 0 else x) = x := fun x => if_neg (by simp)
    rw [e2]
    by_cases hz : n.leaf = true ∧ n.l = []
    · rw [if_pos hz, if_pos hz, kidsOf_leaf hz.1]; rfl
    · rw [if_neg hz, if_neg hz]
      cases d with
      | zero => rw [kidsOf_leaf h.1, h.1]; rfl
      | succ d =>
        rw [kids_nd h, h.1, List.map_map, show (if false = true then n.l else []) = [] from rfl, show fcS [] = 0 from rfl]
        rfl
set_option maxHeartbeats 4000000 in
theorem freshR (w0 : W0) : ∀ (d : Nat) (n : N) (S : St), Nd d n → totN n ≤ 131072 → ACall Tryz.prog w0 35 [eN n] S (fun e S' => e = dI (frT n) ∧ S' = S) := by
  intro d
  induction d with
  | zero =>
    intro n S hn ht
    have hlf := hn.1
    have hl := tot_len n
    have hq := frT_eq hn
    have hle := frT_le hn
    rw [hlf] at hq
    refine fnS [] mx Tryz.func35 rfl rfl (by kernel_rfl) ?_; refine @goW _ (goS2 @Tryz.ntmps35 @hlf ?_)
    intro b
    refine ⟨fun hp => by rw [hq, if_pos hp]; rfl, fun hp => ⟨fun hl0 => by rw [hq, if_neg hp, if_pos ⟨rfl, List.eq_nil_of_length_eq_zero (by omega)⟩]; rfl, fun hl0 => ?_⟩⟩
    rw [if_neg hp, if_neg (fun e => by rw [e.2] at hl0; exact hl0 rfl)] at hq
    refine loopN [] n.l.length [1, 3, 4] (fun k => [(3, dI ((1 + rfS true (n.l.take k) : Nat) : Int)), (4, dI k)]) (fun k => ⟨(b.n, [dI n.page, dB true, .sl 4 false (n.l.map dC)]) :: S.box, S.acc⟩) (fun _ => True) mx (by kernel_rfl) ?_ ?_
    · refine @goW _ (goS ?_)
      rfl
    · intro k hk _
      have hrt := rfS_take true n.l k
      have hrt1 := rfS_take true n.l (k + 1)
      refine @goW _ (goS ?_)
      refine ⟨fun hlt => ⟨hlt, fun c hc b2 => ⟨fun hp0 => use1 (needR w0 _ _) ?_, fun hp0 => ⟨hlt, ?_, by rw [w64 (by omega) (by omega)]; omega⟩⟩⟩, fun hge => by rw [List.take_of_length_le (by omega), hq]⟩
      · have h1 := rfS_succ (b := true) hc
        have h2 : rfC true c = need (c.data.size : Int) := by
          show fc1 c = _
          exact if_pos (List.eq_nil_of_length_eq_zero (by omega))
        refine @goW _ (goS ?_)
        refine ⟨hlt, by rw [w64 (by omega) (by omega)]; omega, by rw [w64 (by omega) (by omega)]; omega⟩
      · have h1 := rfS_succ (b := true) hc
        have h2 : rfC true c = 0 := by
          show fc1 c = 0
          exact if_neg (fun e => by rw [e] at hp0; exact hp0 rfl)
        omega
  | succ d ih =>
    intro n S hn ht
    have hlf := hn.1
    have hl := tot_len n
    have hq := frT_eq hn
    have hle := frT_le hn
    rw [hlf] at hq
    refine fnS [] mx Tryz.func35 rfl rfl (by kernel_rfl) ?_; refine @goW _ (goS2 @Tryz.ntmps35 @hlf ?_)
    intro b
    refine ⟨fun hp => by rw [hq, if_pos hp]; rfl, fun hp => ?_⟩
    rw [if_neg hp, if_neg (by simp)] at hq
    refine loopN [] n.l.length [1, 3, 4] (fun k => [(3, dI ((1 + rfS false (n.l.take k) : Nat) : Int)), (4, dI k)]) (fun k => ⟨(b.n, [dI n.page, dB false, .sl 4 false (n.l.map dC)]) :: S.box, S.acc⟩) (fun _ => True) mx (by kernel_rfl) ?_ ?_
    · refine @goW _ (goS ?_)
      rfl
    · intro k hk _
      have hrt := rfS_take false n.l k
      have hrt1 := rfS_take false n.l (k + 1)
      refine @goW _ (goS ?_)
      refine ⟨fun hlt => ⟨hlt, fun c hc b2 => ?_⟩, fun hge => by rw [List.take_of_length_le (by omega), hq]⟩
      obtain ⟨_, kid, hkid, hnd⟩ := hn.2.2 c (List.mem_of_getElem? hc)
      have h1 := rfS_succ (b := false) hc
      have h2 : rfC false c = frT kid := by rw [← kid0_eq hkid]; rfl
      have h3 := tot_kid (List.mem_of_getElem? hc) hkid
      rw [hkid]
      refine ⟨by simp, fun kid' hk' => ?_⟩
      cases hk'
      refine use1 (ih kid _ hnd (by omega)) ?_
      refine @goW _ (goS ?_)
      refine ⟨hlt, by rw [w64 (by omega) (by omega)]; omega, by rw [w64 (by omega) (by omega)]; omega⟩
mutual
/-- All pages, as the reference gathers them. -/
def alN : N → List Int
  | .mk p b l => (if p ≠ 0 then [p] else []) ++ alCs b l
def alC (b : Bool) : C → List Int
  | .mk _ _ ps kid => ps ++ if b then [] else alNs kid
def alCs (b : Bool) : List C → List Int
  | [] => []
  | c :: l => alC b c ++ alCs b l
def alNs : List N → List Int
  | [] => []
  | n :: _ => alN n
end
theorem alCs_flat (b : Bool) (l : List C) : alCs b l = l.flatMap (alC b) := by
  induction l with
  | nil => rfl
  | cons c l ih => rw [alCs, ih, List.flatMap_cons]
theorem alN_eq (n : N) : alN n = (if n.page ≠ 0 then [n.page] else []) ++ n.l.flatMap (alC n.leaf) := by
  cases n; rw [alN, alCs_flat]; rfl
theorem alC_leaf (c : C) : alC true c = c.pages := by cases c; simp [alC, C.pages]
theorem alC_br {c : C} {k : N} (h : c.kid = [k]) : alC false c = c.pages ++ alN k := by
  cases c with | mk a b d e =>
  simp only [C.kid_mk] at h
  subst h
  simp [alC, alNs, C.pages]
theorem flat_perm {α β : Type} {f g : α → List β} {l : List α} (h : ∀ a, a ∈ l → (f a).Perm (g a)) : (l.flatMap f).Perm (l.flatMap g) := by
  induction l with
  | nil => exact .refl _
  | cons a l ih =>
    rw [List.flatMap_cons, List.flatMap_cons]
    exact (h a List.mem_cons_self).append (ih fun x hx => h x (List.mem_cons_of_mem _ hx))
theorem al_perm : ∀ (d : Nat) (n : N), Nd d n → (alN n).Perm (pgS (visN noB n))
  | 0, n, h => by
    rw [alN_eq, visN_eq, kidsOf_leaf h.1]
    have : pgS (n :: if noB n = true then [] else List.flatMap (visN noB) [].reverse) = pg1 n := by simp [pgS, noB]
    rw [this]
    unfold pg1
    rw [h.1, if_pos rfl]
    rw [show alC true = C.pages from funext alC_leaf]
  | d + 1, n, h => by
    rw [alN_eq, visN_eq, kids_nd h, h.1]
    have e1 : pgS (n :: if noB n = true then [] else (n.l.map kid0).reverse.flatMap (visN noB)) = pg1 n ++ pgS ((n.l.map kid0).reverse.flatMap (visN noB)) := by simp [pgS, noB]
    have e2 : pg1 n = if n.page ≠ 0 then [n.page] else [] := by unfold pg1; rw [h.1]; simp
    rw [e1, e2]
    refine .append_left _ ?_
    have e3 : ∀ l : List N, pgS (l.flatMap (visN noB)) = l.flatMap fun k => pgS (visN noB k) := fun l => by unfold pgS; rw [List.flatMap_assoc]
    rw [e3]
    refine .trans ?_ (.symm ((List.reverse_perm _).flatMap_right _))
    rw [List.flatMap_map]
    refine flat_perm fun c hc => ?_
    obtain ⟨hs, k, hk, hnd⟩ := h.2.2 c hc
    rw [alC_br hk, kid0_eq hk, List.eq_nil_of_length_eq_zero (Nat.le_zero.1 hs.2.2), List.nil_append]
    exact al_perm d k hnd
end Go.Proofs.YtfieabidajilmaaGreat

namespace Go.Proofs.YtfieabidajilmaaGreat
open Aml Go
set_option linter.unusedVariables false
set_option linter.unusedSimpArgs false
set_option maxRecDepth 100000

theorem al_len {d : Nat} {n : N} (h : Nd d n) : (alN n).length ≤ 1 + 5 * totN n := by
  rw [(al_perm d n h).length_eq]
  exact pgS_le noB h
theorem alT_le (b : Bool) (l : List C) (k : Nat) : ((l.take k).flatMap (alC b)).length ≤ (l.flatMap (alC b)).length := by
  have := congrArg (List.flatMap (alC b)) (List.take_append_drop k l)
  have := congrArg List.length this
  simp only [List.flatMap_append, List.length_append] at this
  omega
theorem alT_succ {b : Bool} {l : List C} {k : Nat} {c : C} (h : l[k]? = some c) : (l.take (k + 1)).flatMap (alC b) = (l.take k).flatMap (alC b) ++ alC b c := by
  rw [List.take_add_one, h]; simp
set_option maxHeartbeats 4000000 in
theorem allR (w0 : W0) : ∀ (d : Nat) (n : N) (S : St), Nd d n → totN n ≤ 131072 → ACall Tryz.prog w0 77 [eN n] S (fun e S' => e = dL (alN n) ∧ S' = S) := by
  intro d
  induction d with
  | zero =>
    intro n S hn ht
    have hlf := hn.1
    have hl := tot_len n
    have hq := alN_eq n
    have hle := al_len hn
    rw [hlf] at hq
    have hm8 : maxLen = 9223372036854775807 := rfl
    refine fnS [2] mx Tryz.func77 rfl rfl (by kernel_rfl) ?_; refine @goW _ (goS2 @Tryz.ntmps77 @hlf ?_)
    intro b
    refine growK 3 1 rfl (by omega) fun lp => ?_
    refine shrK [] [] mx (by kernel_rfl) ?_
    refine @goW _ (goS ?_)
    refine ⟨fun hp => ⟨by omega, ?_⟩, fun hp => ?_⟩
    all_goals
      obtain ⟨P0, hP0⟩ : ∃ P0, P0 = (if n.page ≠ 0 then [n.page] else []) := ⟨_, rfl⟩
      rw [← hP0] at hq
      have hP1 : P0.length ≤ 1 := by rw [hP0]; split <;> simp
      rw [hq, List.length_append] at hle
      refine loopN [] n.l.length [1, 3, 4] (fun k => [(3, .acc lp.n (P0 ++ (n.l.take k).flatMap (alC true)).length), (4, dI k)]) (fun k => ⟨(b.n, [dI n.page, dB true, .sl 4 false (n.l.map dC)]) :: S.box, (lp.n, .arr 1 ((P0 ++ (n.l.take k).flatMap (alC true)).map dI)) :: S.acc⟩) (fun _ => True) mx (by kernel_rfl) ?_ ?_
      · refine @goW _ (goS ?_)
        first
          | (rw [if_pos (show n.page ≠ 0 from hp)] at hP0
             subst hP0
             exact ⟨.refl _, .refl _⟩)
          | (rw [if_neg (show ¬ n.page ≠ 0 from hp)] at hP0
             subst hP0
             exact ⟨.refl _, .refl _⟩)
      · intro k hk _
        have h1 := alT_le true n.l k
        have h2 := alT_le true n.l (k + 1)
        refine @goW _ (goS ?_)
        refine ⟨fun hlt => ⟨hlt, fun c hc => ?_⟩, fun hge => ?_⟩
        · have h3 := alT_succ (b := true) hc
          have h4 := congrArg List.length h3
          rw [List.length_append, alC_leaf] at h4
          refine ⟨by omega, by omega, hlt, ⟨.eq (by rw [h4, Nat.add_assoc]), by rw [w64 (by omega) (by omega)]; omega⟩, ?_⟩
          rw [h3, alC_leaf, List.append_assoc]
          exact .refl _
        · rw [List.take_of_length_le (by omega), hq]
          exact .refl _
  | succ d ih =>
    intro n S hn ht
    have hlf := hn.1
    have hl := tot_len n
    have hq := alN_eq n
    have hle := al_len hn
    rw [hlf] at hq
    have hm8 : maxLen = 9223372036854775807 := rfl
    refine fnS [2] mx Tryz.func77 rfl rfl (by kernel_rfl) ?_; refine @goW _ (goS2 @Tryz.ntmps77 @hlf ?_)
    intro b
    refine growK 3 1 rfl (by omega) fun lp => ?_
    refine shrK [] [] mx (by kernel_rfl) ?_
    refine @goW _ (goS ?_)
    refine ⟨fun hp => ⟨by omega, ?_⟩, fun hp => ?_⟩
    all_goals
      obtain ⟨P0, hP0⟩ : ∃ P0, P0 = (if n.page ≠ 0 then [n.page] else []) := ⟨_, rfl⟩
      rw [← hP0] at hq
      have hP1 : P0.length ≤ 1 := by rw [hP0]; split <;> simp
      rw [hq, List.length_append] at hle
      refine loopN [] n.l.length [1, 3, 4] (fun k => [(3, .acc lp.n (P0 ++ (n.l.take k).flatMap (alC false)).length), (4, dI k)]) (fun k => ⟨(b.n, [dI n.page, dB false, .sl 4 false (n.l.map dC)]) :: S.box, (lp.n, .arr 1 ((P0 ++ (n.l.take k).flatMap (alC false)).map dI)) :: S.acc⟩) (fun _ => True) mx (by kernel_rfl) ?_ ?_
      · refine @goW _ (goS ?_)
        first
          | (rw [if_pos (show n.page ≠ 0 from hp)] at hP0
             subst hP0
             exact ⟨.refl _, .refl _⟩)
          | (rw [if_neg (show ¬ n.page ≠ 0 from hp)] at hP0
             subst hP0
             exact ⟨.refl _, .refl _⟩)
      · intro k hk _
        have h1 := alT_le false n.l k
        have h2 := alT_le false n.l (k + 1)
        refine @goW _ (goS ?_)
        refine ⟨fun hlt => ⟨hlt, fun c hc => ?_⟩, fun hge => ?_⟩
        · obtain ⟨hs, kid, hkid, hnd⟩ := hn.2.2 c (List.mem_of_getElem? hc)
          have hpn : c.pages = [] := List.eq_nil_of_length_eq_zero (Nat.le_zero.1 hs.2.2)
          have htk := tot_kid (List.mem_of_getElem? hc) hkid
          have hkl : ((n.l.take (k + 1)).flatMap (alC false)) = (n.l.take k).flatMap (alC false) ++ alN kid := by rw [alT_succ hc, alC_br hkid, hpn, List.nil_append]
          have hkn := congrArg List.length hkl
          rw [List.length_append] at hkn
          rw [hpn, List.append_nil, List.length_nil, Nat.add_zero]
          refine ⟨by omega, by omega, hlt, fun c2 hc2 => ?_⟩
          rw [hc] at hc2
          cases hc2
          rw [hkid]
          refine ⟨by simp, fun kid2 hkid2 => ?_⟩
          cases hkid2
          refine use1 (ih kid _ hnd (by omega)) ?_
          refine @goW _ (goS ?_)
          refine ⟨by omega, by omega, hlt, ⟨.eq (by rw [hkn, Nat.add_assoc]), by rw [w64 (by omega) (by omega)]; omega⟩, ?_⟩
          rw [hkl, List.append_assoc]
          exact .refl _
        · rw [List.take_of_length_le (by omega), hq]
          exact .refl _
set_option maxHeartbeats 4000000 in
theorem refPagesW (w0 : W0) (d : Nat) (n : N) (S : St) (hn : Nd d n) (ht : totN n ≤ 131072) : ACall Tryz.prog w0 36 [eN n] S (fun e S' => e = dL (pgsT n) ∧ S' = S) := by
  have hle := al_len hn
  refine fnS [] mx Tryz.func36 rfl rfl (by kernel_rfl) ?_; refine @goW _ (goS1 @Tryz.ntmps36 ?_)
  intro b
  refine use1 (allR w0 d n _ hn ht) ?_
  refine @goW _ (goS ?_)
  refine use1 (sortedR w0 (alN n) _ (by omega)) ?_
  refine @goW _ (goS ?_)
  rw [srt_congr (al_perm d n hn)]
  exact .refl _
end Go.Proofs.YtfieabidajilmaaGreat

namespace Go.Proofs.YtfieabidajilmaaGreat
open Aml Go
set_option linter.unusedVariables false
set_option linter.unusedSimpArgs false
set_option maxRecDepth 100000
theorem layCs_left {b : Bool} : ∀ {l : List C} {q : LS}, (∀ c, c ∈ l → ∀ q : LS, (layC b c q).2.1 = q.1.drop (rfC b c)) → (layCs b l q).2.1 = q.1.drop (rfS b l)
  | [], q, _ => by simp [layCs, rfS]
  | c :: l, q, h => by
    have h1 := h c List.mem_cons_self q
    have h2 := layCs_left (l := l) (q := (layC b c q).2) fun c hc => h c (List.mem_cons_of_mem _ hc)
    simp only [layCs]
    rw [h2, h1, List.drop_drop]
    unfold rfS
    rw [List.map_cons, List.sum_cons]
theorem layN_left : ∀ {d : Nat} {n : N} {q : LS}, Nd d n → (layN n q).2.1 = q.1.drop (frT n) := by
  have fin : ∀ {d : Nat} {n : N} {q : LS}, Nd d n → (∀ c, c ∈ n.l → ∀ q : LS, (layC n.leaf c q).2.1 = q.1.drop (rfC n.leaf c)) → (layN n q).2.1 = q.1.drop (frT n) := by
    intro d n q hn h
    rw [layN_eq, frT_eq hn]
    by_cases hp : n.page ≠ 0
    · rw [if_pos (.inl hp), if_pos hp]; simp
    · rw [if_neg hp]
      by_cases hz : n.leaf = true ∧ n.l = []
      · rw [if_pos (.inr hz), if_pos hz]; simp
      · rw [if_neg (fun e => e.elim hp hz), if_neg hz]
        show (layCs n.leaf n.l q).2.1.tail = _
        rw [layCs_left h, List.tail_drop, Nat.add_comm]
  intro d
  induction d with
  | zero =>
    intro n q hn
    refine fin hn fun c hc q => ?_
    rw [hn.1, layC_leaf]
    obtain ⟨m, h1, h2⟩ := layV_left c.data c.pages q
    rw [h1, h2]; rfl
  | succ d ih =>
    intro n q hn
    refine fin hn fun c hc q => ?_
    obtain ⟨_, k, hk, hnd⟩ := hn.2.2 c hc
    rw [hn.1, layC_br hk]
    have : rfC false c = frT k := by rw [← kid0_eq hk]; rfl
    rw [this]
    exact ih hnd
theorem layN_leaf (n : N) (q : LS) : (layN n q).1.leaf = n.leaf := by rw [layN_eq]; split <;> rfl
theorem layN_l (n : N) (q : LS) : (layN n q).1.l = if n.page ≠ 0 ∨ (n.leaf = true ∧ n.l = []) then n.l else (layCs n.leaf n.l q).1 := by rw [layN_eq]; split <;> rfl
theorem lay_keyC (b : Bool) (c : C) (q : LS) : (layC b c q).1.key = c.key ∧ (layC b c q).1.data = c.data := by
  cases c; cases b <;> exact ⟨rfl, rfl⟩
theorem lay_sizeC (b : Bool) (c : C) (q : LS) : sizeC b (layC b c q).1 = sizeC b c := by
  obtain ⟨h1, h2⟩ := lay_keyC b c q
  unfold sizeC; rw [h1, h2]
theorem lay_sizes (n : N) (q : LS) : sizesN (layN n q).1 = sizesN n := by
  unfold sizesN
  rw [layN_leaf, layN_l]
  split
  · rfl
  · have : ∀ (b : Bool) (l : List C) (q : LS), (layCs b l q).1.map (sizeC b) = l.map (sizeC b) := fun b l => by
      induction l with
      | nil => intro q; rfl
      | cons c l ih => intro q; simp only [layCs, List.map_cons, lay_sizeC, ih]
    exact this _ _ _
theorem layCs_mem {b : Bool} : ∀ {l : List C} {q : LS} {x : C}, x ∈ (layCs b l q).1 → ∃ c q', c ∈ l ∧ x = (layC b c q').1
  | [], _, x, h => by cases h
  | c :: l, q, x, h => by
    simp only [layCs] at h
    rcases List.mem_cons.1 h with rfl | h
    · exact ⟨c, q, List.mem_cons_self, rfl⟩
    · obtain ⟨c', q', h1, h2⟩ := layCs_mem h
      exact ⟨c', q', List.mem_cons_of_mem _ h1, h2⟩
theorem lay_keyOf (b : Bool) (l : List C) (q : LS) : keyOf (layCs b l q).1 = keyOf l := by
  cases l with
  | nil => rfl
  | cons c l => exact (lay_keyC b c q).1
/-- The pages of a laid value. -/
theorem layV_pages (d : ByteArray) (ps : List Int) (q : LS) (hd : d.size ≤ 400) : ((layV d ps q).1 = ps ∨ (ps = [] ∧ 16 < d.size)) ∧ (layV d ps q).1.length ≤ max ps.length 4 := by
  unfold layV
  split
  · exact ⟨.inl rfl, by show ps.length ≤ _; omega⟩
  · rename_i h
    have h1 : need (d.size : Int) ≠ 0 := fun e => h (.inl e)
    have h2 : ps = [] := Classical.not_not.1 fun e => h (.inr e)
    have h3 := need_le (d.size : Int)
    refine ⟨.inr ⟨h2, ?_⟩, by show (List.take _ _).length ≤ _; rw [List.length_take]; omega⟩
    unfold need at h1
    split at h1
    · omega
    · exact absurd rfl h1
end Go.Proofs.YtfieabidajilmaaGreat

namespace Go.Proofs.YtfieabidajilmaaGreat
open Aml Go
set_option linter.unusedVariables false
set_option linter.unusedSimpArgs false
set_option maxRecDepth 100000
/-- A laid tree is the tree itself, or its entries are laid. -/
theorem lay_cases (n : N) (q : LS) : (layN n q).1 = n ∨ (layN n q).1.l = (layCs n.leaf n.l q).1 := by
  rw [layN_l, layN_eq]
  split
  · exact .inl rfl
  · exact .inr rfl
theorem nd_lay : ∀ {d : Nat} {n : N} (q : LS), Nd d n → Nd d (layN n q).1
  | 0, n, q, h => by
    rcases lay_cases n q with e | e
    · rw [e]; exact h
    · refine ⟨by rw [layN_leaf]; exact h.1, fun x hx => ?_⟩
      rw [e, h.1] at hx
      obtain ⟨c, q', hc, rfl⟩ := layCs_mem hx
      obtain ⟨h1, h2⟩ := h.2 c hc
      rw [layC_leaf]
      refine ⟨⟨h1.1, h1.2.1, ?_⟩, h2⟩
      have := (layV_pages c.data c.pages q' h1.2.1).2
      have := h1.2.2
      show (layV c.data c.pages q').1.length ≤ 4
      omega
  | d + 1, n, q, h => by
    rcases lay_cases n q with e | e
    · rw [e]; exact h
    · refine ⟨by rw [layN_leaf]; exact h.1, ?_, fun x hx => ?_⟩
      · rw [e]
        intro e
        have := layCs_len n.leaf n.l q
        rw [e] at this
        exact h.2.1 (List.eq_nil_of_length_eq_zero this.symm)
      · rw [e, h.1] at hx
        obtain ⟨c, q', hc, rfl⟩ := layCs_mem hx
        obtain ⟨h1, k, hk, hnd⟩ := h.2.2 c hc
        rw [layC_br hk]
        exact ⟨⟨h1.1, h1.2.1, h1.2.2⟩, _, rfl, nd_lay q' hnd⟩
theorem tot_lay : ∀ {d : Nat} {n : N} (q : LS), Nd d n → totN (layN n q).1 = totN n := by
  have cs : ∀ (b : Bool) (l : List C) (q : LS), (∀ c, c ∈ l → ∀ q, totC (layC b c q).1 = totC c) → tot (layCs b l q).1 = tot l := by
    intro b l
    induction l with
    | nil => intro q _; rfl
    | cons c l ih =>
      intro q h
      simp only [layCs, tot_cons]
      rw [h c List.mem_cons_self, ih _ fun c hc => h c (List.mem_cons_of_mem _ hc)]
  intro d
  induction d with
  | zero =>
    intro n q h
    rcases lay_cases n q with e | e
    · rw [e]
    · rw [totN_tot, totN_tot, e, h.1]
      refine cs true n.l q fun c hc q => ?_
      rw [layC_leaf, totC_eq, totC_eq]; rfl
  | succ d ih =>
    intro n q h
    rcases lay_cases n q with e | e
    · rw [e]
    · rw [totN_tot, totN_tot, e, h.1]
      refine cs false n.l q fun c hc q => ?_
      obtain ⟨_, k, hk, hnd⟩ := h.2.2 c hc
      rw [layC_br hk, totC_kid hk, totC_kid (k := (layN k q).1) rfl, ih q hnd]
/-- A laid tree's entries have the same keys and values. -/
theorem lay_en : ∀ {d : Nat} {n : N} (q : LS), Nd d n → (enN (layN n q).1).map (fun c => (c.key, c.data)) = (enN n).map fun c => (c.key, c.data)
  | 0, n, q, hn => by
    rcases lay_cases n q with e | e
    · rw [e]
    · rw [en_leaf hn.1, en_leaf (by rw [layN_leaf]; exact hn.1), e]
      have : ∀ (b : Bool) (l : List C) (q : LS), (layCs b l q).1.map (fun c => (c.key, c.data)) = l.map fun c => (c.key, c.data) := fun b l => by
        induction l with
        | nil => intro q; rfl
        | cons c l ih =>
          intro q
          obtain ⟨h1, h2⟩ := lay_keyC b c q
          simp only [layCs, List.map_cons, ih, h1, h2]
      exact this _ _ _
  | d + 1, n, q, hn => by
    rcases lay_cases n q with e | e
    · rw [e]
    · rw [enN_eq, enN_eq n, layN_leaf, e, hn.1]
      have : ∀ (l : List C) (q : LS), (∀ c, c ∈ l → c ∈ n.l) → ((layCs false l q).1.flatMap (enC false)).map (fun c => (c.key, c.data)) = (l.flatMap (enC false)).map fun c => (c.key, c.data) := by
        intro l
        induction l with
        | nil => intro q _; rfl
        | cons c l ih =>
          intro q hl
          obtain ⟨hs, k, hk, hnd⟩ := hn.2.2 c (hl c List.mem_cons_self)
          simp only [layCs, List.flatMap_cons, List.map_append]
          rw [ih _ fun c hc => hl c (List.mem_cons_of_mem _ hc), layC_br hk, enC_br (k := (layN k q).1) rfl, enC_br hk, lay_en q hnd]
      exact this n.l q fun _ h => h
theorem lay_in {d : Nat} {n : N} (q : LS) (hn : Nd d n) {x : C} (h : x ∈ enN (layN n q).1) : ∃ y, y ∈ enN n ∧ y.key = x.key ∧ y.data = x.data := by
  have : (x.key, x.data) ∈ (enN (layN n q).1).map fun c => (c.key, c.data) := List.mem_map_of_mem (f := fun c : C => (c.key, c.data)) h
  rw [lay_en q hn] at this
  obtain ⟨y, hy, e⟩ := List.mem_map.1 this
  simp only [Prod.mk.injEq] at e
  exact ⟨y, hy, e.1, e.2⟩
theorem layCs_pw {b : Bool} {R : C → C → Prop} : ∀ {l : List C} {q : LS}, (∀ c, c ∈ l → ∀ c', c' ∈ l → ∀ q q', R c c' → R (layC b c q).1 (layC b c' q').1) → l.Pairwise R → (layCs b l q).1.Pairwise R
  | [], _, _, _ => List.Pairwise.nil
  | c :: l, q, h, hp => by
    rw [List.pairwise_cons] at hp
    simp only [layCs]
    rw [List.pairwise_cons]
    refine ⟨fun x hx => ?_, layCs_pw (fun a ha a' ha' => h a (List.mem_cons_of_mem _ ha) a' (List.mem_cons_of_mem _ ha')) hp.2⟩
    obtain ⟨c', q', hc', rfl⟩ := layCs_mem hx
    exact h c List.mem_cons_self c' (List.mem_cons_of_mem _ hc') q q' (hp.1 c' hc')
theorem good_lay : ∀ {d : Nat} {n : N} (q : LS), Good d n → Good d (layN n q).1
  | 0, n, q, h => by
    rcases lay_cases n q with e | e
    · rw [e]; exact h
    · refine ⟨by rw [layN_leaf]; exact h.1, ?_, fun x hx => ?_⟩
      · rw [e]
        exact layCs_pw (fun c _ c' _ q q' hr => by rw [(lay_keyC _ c q).1, (lay_keyC _ c' q').1]; exact hr) h.2.1
      · rw [e, h.1] at hx
        obtain ⟨c, q', hc, rfl⟩ := layCs_mem hx
        obtain ⟨w1, w2, w3, w4, w5, w6⟩ := h.2.2 c hc
        rw [layC_leaf]
        obtain ⟨v1, v2⟩ := layV_pages c.data c.pages q' w3
        refine ⟨w1, w2, w3, fun z => ?_, ?_, w6⟩
        · show 16 < c.data.size
          rcases v1 with v | v
          · refine w4 fun z' => z ?_
            show (layV c.data c.pages q').1 = []
            rw [v, z']
          · exact v.2
        · show (layV c.data c.pages q').1.length ≤ 4
          omega
  | d + 1, n, q, h => by
    have hB := h.2.2
    have hl := layCs_len n.leaf n.l q
    have hen : ∀ c, c ∈ n.l → ∀ q' x, x ∈ enC false (layC false c q').1 → ∃ y, y ∈ enC false c ∧ y.key = x.key := fun c hc q' x hx => by
      obtain ⟨_, _, k, hk, hg, _⟩ := hB.cell c hc
      rw [layC_br hk, enC_br (k := (layN k q').1) rfl] at hx
      obtain ⟨y, hy, e, _⟩ := lay_in q' (good_nd hg) hx
      exact ⟨y, by rw [enC_br hk]; exact hy, e⟩
    rcases lay_cases n q with e | e
    · rw [e]; exact h
    · refine ⟨by rw [layN_leaf]; exact h.1, ?_, ⟨?_, ?_, fun x hx => ?_⟩⟩
      · rw [e]
        intro e
        rw [e] at hl
        exact h.2.1 (List.eq_nil_of_length_eq_zero hl.symm)
      · rw [e, lay_keyOf]; exact hB.k0
      · rw [e, h.1]
        refine layCs_pw (fun c hc c' hc' q q' hr => ⟨by rw [(lay_keyC _ c q).1, (lay_keyC _ c' q').1]; exact hr.1, fun x hx => ?_⟩) hB.pw
        obtain ⟨y, hy, e⟩ := hen c hc q x hx
        rw [(lay_keyC _ c' q').1, ← e]
        exact hr.2 y hy
      · rw [e, h.1] at hx
        obtain ⟨c, q', hc, rfl⟩ := layCs_mem hx
        obtain ⟨w1, w2, k, hk, hg, hf⟩ := hB.cell c hc
        have hen' := hen c hc q'
        rw [layC_br hk] at hen' ⊢
        refine ⟨w1, fun x hx => ?_, _, rfl, good_lay q' hg, ?_, ?_⟩
        · obtain ⟨y, hy, e⟩ := hen' x hx
          rw [← e]; exact w2 y hy
        · rw [lay_sizes]; exact hf.1
        · rw [lay_sizes]; exact hf.2
theorem root_lay {n : N} (q : LS) (h : RootG n) : RootG (layN n q).1 := by
  obtain ⟨d, h1, h2, h3⟩ := h
  refine ⟨d, good_lay q h1, by rw [lay_sizes]; exact h2, ?_⟩
  rcases lay_cases n q with e | e
  · rw [e]; exact h3
  · rw [layN_leaf, e, layCs_len]; exact h3
end Go.Proofs.YtfieabidajilmaaGreat

namespace Go.Proofs.YtfieabidajilmaaGreat
open Aml Go
set_option linter.unusedVariables false
set_option linter.unusedSimpArgs false
set_option maxRecDepth 100000
theorem perm_4 {α : Type} (a b c d : List α) : ((a ++ b) ++ (c ++ d)).Perm ((a ++ c) ++ (b ++ d)) := by
  rw [List.append_assoc, List.append_assoc]
  refine List.Perm.append_left a ?_
  rw [← List.append_assoc, ← List.append_assoc]
  exact List.Perm.append_right d List.perm_append_comm
theorem layCs_al {b : Bool} : ∀ {l : List C} {q : LS}, (∀ c, c ∈ l → ∀ q : LS, (layC b c q).2.1 = q.1.drop (rfC b c)) → (∀ c, c ∈ l → ∀ q : LS, rfC b c ≤ q.1.length → (∀ p, p ∈ q.1 → p ≠ 0) → (alC b (layC b c q).1).Perm (alC b c ++ q.1.take (rfC b c))) →
    rfS b l ≤ q.1.length → (∀ p, p ∈ q.1 → p ≠ 0) → ((layCs b l q).1.flatMap (alC b)).Perm (l.flatMap (alC b) ++ q.1.take (rfS b l))
  | [], q, _, _, _, _ => by simp [layCs, rfS]
  | c :: l, q, h1, h2, hq, hp => by
    have e : rfS b (c :: l) = rfC b c + rfS b l := by unfold rfS; rw [List.map_cons, List.sum_cons]
    rw [e] at hq ⊢
    have d1 := h1 c List.mem_cons_self q
    have a1 := h2 c List.mem_cons_self q (by omega) hp
    have a2 := layCs_al (l := l) (q := (layC b c q).2) (fun c hc => h1 c (List.mem_cons_of_mem _ hc)) (fun c hc => h2 c (List.mem_cons_of_mem _ hc)) (by rw [d1, List.length_drop]; omega) (by rw [d1]; exact fun p h => hp p (List.mem_of_mem_drop h))
    rw [d1] at a2
    simp only [layCs, List.flatMap_cons]
    rw [List.take_add]
    exact (a1.append a2).trans (perm_4 _ _ _ _)
theorem lay_al : ∀ {d : Nat} {n : N} {q : LS}, Nd d n → frT n ≤ q.1.length → (∀ p, p ∈ q.1 → p ≠ 0) → (alN (layN n q).1).Perm (alN n ++ q.1.take (frT n)) := by
  have fin : ∀ {d : Nat} {n : N} {q : LS}, Nd d n → (∀ c, c ∈ n.l → ∀ q : LS, (layC n.leaf c q).2.1 = q.1.drop (rfC n.leaf c)) → (∀ c, c ∈ n.l → ∀ q : LS, rfC n.leaf c ≤ q.1.length → (∀ p, p ∈ q.1 → p ≠ 0) → (alC n.leaf (layC n.leaf c q).1).Perm (alC n.leaf c ++ q.1.take (rfC n.leaf c))) →
      frT n ≤ q.1.length → (∀ p, p ∈ q.1 → p ≠ 0) → (alN (layN n q).1).Perm (alN n ++ q.1.take (frT n)) := by
    intro d n q hn h1 h2 hq hp
    rw [layN_eq]
    rw [frT_eq hn] at hq ⊢
    by_cases h0 : n.page ≠ 0
    · rw [if_pos (.inl h0), if_pos h0]; simp
    · rw [if_neg h0] at hq ⊢
      by_cases hz : n.leaf = true ∧ n.l = []
      · rw [if_pos (.inr hz), if_pos hz]; simp
      · rw [if_neg hz] at hq
        rw [if_neg (fun e => e.elim h0 hz), if_neg hz]
        have a := layCs_al (l := n.l) (q := q) h1 h2 (by omega) hp
        have dr := layCs_left (l := n.l) (q := q) h1
        have hlt : rfS n.leaf n.l < q.1.length := by omega
        have e1 : (q.1.drop (rfS n.leaf n.l)).headD 0 = q.1[rfS n.leaf n.l] := by
          rw [List.drop_eq_getElem_cons hlt]; rfl
        have e2 : q.1[rfS n.leaf n.l] ≠ 0 := hp _ (List.getElem_mem _)
        have e3 : ∀ l, alN (N.mk q.1[rfS n.leaf n.l] n.leaf l) = [q.1[rfS n.leaf n.l]] ++ l.flatMap (alC n.leaf) := fun l => by
          have : alN (N.mk q.1[rfS n.leaf n.l] n.leaf l) = (if q.1[rfS n.leaf n.l] ≠ 0 then [q.1[rfS n.leaf n.l]] else []) ++ l.flatMap (alC n.leaf) := alN_eq _
          rw [this, if_pos e2]
        have e4 : alN n = n.l.flatMap (alC n.leaf) := by rw [alN_eq, if_neg h0, List.nil_append]
        show (alN (N.mk ((layCs n.leaf n.l q).2.1.headD 0) n.leaf (layCs n.leaf n.l q).1)).Perm _
        rw [dr, e1, e3, e4, Nat.add_comm 1, List.take_add_one, List.getElem?_eq_getElem hlt, Option.toList_some, ← List.append_assoc]
        exact List.perm_append_comm.trans (List.Perm.append_right _ a)
  intro d
  induction d with
  | zero =>
    intro n q hn
    refine fin hn (fun c hc q => ?_) (fun c hc q hq hp => ?_)
    · rw [hn.1, layC_leaf]
      obtain ⟨m, h1, h2⟩ := layV_left c.data c.pages q
      rw [h1, h2]; rfl
    · rw [hn.1] at hq ⊢
      rw [layC_leaf, alC_leaf, alC_leaf]
      show (layV c.data c.pages q).1.Perm (c.pages ++ q.1.take (rfC true c))
      have e : rfC true c = if c.pages = [] then need (c.data.size : Int) else 0 := rfl
      rw [e]
      unfold layV
      by_cases hps : c.pages = []
      · rw [if_pos hps, hps, List.nil_append]
        split
        · rename_i h
          rw [h.resolve_right fun f => f rfl]; exact .refl _
        · exact .refl _
      · rw [if_neg hps, if_pos (.inr hps)]
        simp
  | succ d ih =>
    intro n q hn
    refine fin hn (fun c hc q => ?_) (fun c hc q hq hp => ?_)
    · obtain ⟨_, k, hk, hnd⟩ := hn.2.2 c hc
      rw [hn.1, layC_br hk]
      have : rfC false c = frT k := by rw [← kid0_eq hk]; rfl
      rw [this]
      exact layN_left hnd
    · obtain ⟨_, k, hk, hnd⟩ := hn.2.2 c hc
      have e : rfC false c = frT k := by rw [← kid0_eq hk]; rfl
      rw [hn.1] at hq ⊢
      rw [e] at hq ⊢
      rw [layC_br hk, alC_br hk, alC_br (k := (layN k q).1) rfl, List.append_assoc]
      exact List.Perm.append_left _ (ih hnd hq hp)
/-- What is laid asks no more pages. -/
theorem lay_page {d : Nat} {n : N} {q : LS} (hn : Nd d n) (hq : frT n ≤ q.1.length) (hp : ∀ p, p ∈ q.1 → p ≠ 0) (h : ¬ (n.leaf = true ∧ n.l = [])) : (layN n q).1.page ≠ 0 := by
  rw [layN_eq]
  by_cases h0 : n.page ≠ 0
  · rw [if_pos (.inl h0)]; exact h0
  · rw [if_neg (fun e => e.elim h0 h)]
    show (layCs n.leaf n.l q).2.1.headD 0 ≠ 0
    rw [frT_eq hn, if_neg h0, if_neg h] at hq
    have dr : (layCs n.leaf n.l q).2.1 = q.1.drop (rfS n.leaf n.l) := layCs_left fun c hc q => by
      cases d with
      | zero =>
        rw [hn.1, layC_leaf]
        obtain ⟨m, h1, h2⟩ := layV_left c.data c.pages q
        rw [h1, h2]; rfl
      | succ d =>
        obtain ⟨_, k, hk, hnd⟩ := hn.2.2 c hc
        rw [hn.1, layC_br hk, show rfC false c = frT k by rw [← kid0_eq hk]; rfl]
        exact layN_left hnd
    have hlt : rfS n.leaf n.l < q.1.length := by omega
    rw [dr, List.drop_eq_getElem_cons hlt]
    exact hp _ (List.getElem_mem _)
theorem lay_fr {d : Nat} {n : N} {q : LS} (hn : Nd d n) (hq : frT n ≤ q.1.length) (hp : ∀ p, p ∈ q.1 → p ≠ 0) : frT (layN n q).1 = 0 := by
  rw [frT_eq (nd_lay q hn)]
  by_cases h : n.leaf = true ∧ n.l = []
  · have e : (layN n q).1 = n := by rw [layN_eq, if_pos (.inr h)]
    rw [e, if_pos h]; split <;> rfl
  · rw [if_pos (lay_page hn hq hp h)]
end Go.Proofs.YtfieabidajilmaaGreat

namespace Go.Proofs.YtfieabidajilmaaGreat
open Aml Go
set_option linter.unusedVariables false
set_option linter.unusedSimpArgs false
set_option maxRecDepth 100000

/-- What holds of a tree that isn't laid by what holds of its cells. -/
structure Hered (Q : N → Prop) (q : Bool → C → Prop) : Prop where
  of : ∀ b l, (∀ c, c ∈ l → q b c) → Q (.mk 0 b l)
  to : ∀ n, Q n → ∀ c, c ∈ n.l → q n.leaf c
  kid : ∀ c k, c.kid = [k] → q false c → Q k
  cell : ∀ c k, c.kid = [k] → c.pages = [] → Q k → q false c
section
variable {Q : N → Prop} {q : Bool → C → Prop}
theorem hered_setKey (H : Hered Q q) {d : Nat} {n : N} (hn : Nd d n) (hlf : n.leaf = false) (key : ByteArray) {l : List C} (hl : ∀ c, c ∈ l → c ∈ n.l) (h : ∀ c, c ∈ l → q false c) : ∀ c, c ∈ setKey key l → q false c := by
  cases l with
  | nil => exact h
  | cons a l =>
    intro c hc
    rcases List.mem_cons.1 hc with rfl | hc
    · cases d with
      | zero => have := hn.1; rw [hlf] at this; cases this
      | succ d =>
        obtain ⟨hs, k, hk, _⟩ := hn.2.2 a (hl a List.mem_cons_self)
        exact H.cell _ k hk (List.eq_nil_of_length_eq_zero (Nat.le_zero.1 hs.2.2)) (H.kid a k hk (h a List.mem_cons_self))
    · exact h c (List.mem_cons_of_mem _ hc)
theorem hered_parted (H : Hered Q q) {d : Nat} {n kid : N} {k : Nat} {key : ByteArray} (hk : Nd d kid) (hQ : Q kid) (h : ∀ c, c ∈ n.l → q false c) (hp : n.page = 0) (hl : n.leaf = false) :
    (partedN n kid k key).1.page = 0 ∧ (partedN n kid k key).1.leaf = false ∧ ∀ x, x ∈ (partedN n kid k key).1.l → q false x := by
  unfold partedN
  simp only
  split
  · exact ⟨hp, hl, h⟩
  · refine ⟨rfl, rfl, fun x hx => ?_⟩
    rcases mem_withC hx with hx | hx
    · exact h x hx
    · rcases List.mem_cons.1 hx with rfl | hx
      · exact H.cell _ _ rfl rfl (H.of _ _ fun c hc => H.to kid hQ c (List.mem_of_mem_take hc))
      · rw [List.mem_singleton] at hx; subst hx
        refine H.cell _ _ rfl rfl (H.of _ _ fun c hc => ?_)
        cases hb : kid.leaf with
        | true =>
          rw [hb, if_pos rfl] at hc
          have := H.to kid hQ c (List.mem_of_mem_drop hc)
          rwa [hb] at this
        | false =>
          rw [hb, if_neg (by simp)] at hc
          exact hered_setKey H hk hb noS (fun c hc => List.mem_of_mem_drop hc) (fun c hc => by
            have := H.to kid hQ c (List.mem_of_mem_drop hc)
            rwa [hb] at this) c hc
theorem hered_both (H : Hered Q q) {d : Nat} {a b : N} {key : ByteArray} (ha : Nd d a) (hb : Nd d b) (qa : Q a) (qb : Q b) : Q (bothN a b key) := by
  unfold bothN
  refine H.of _ _ fun c hc => ?_
  rcases List.mem_append.1 hc with hc | hc
  · exact H.to a qa c hc
  · have e := nd_leaf_eq ha hb
    cases hl : b.leaf with
    | true =>
      rw [hl, if_pos rfl] at hc
      have := H.to b qb c hc
      rwa [← e] at this
    | false =>
      rw [hl, if_neg (by simp)] at hc
      rw [e, hl]
      exact hered_setKey H hb hl key (fun c hc => hc) (fun c hc => by
        have := H.to b qb c hc
        rwa [hl] at this) c hc
theorem hered_mend (H : Hered Q q) {d : Nat} {n : N} {k : Nat} (hn : Nd (d + 1) n) (hlt : k < n.l.length) (h : ∀ c, c ∈ n.l → q false c) (hp : n.page = 0) : (mendN n k).page = 0 ∧ (mendN n k).leaf = false ∧ ∀ x, x ∈ (mendN n k).l → q false x := by
  obtain ⟨c, kid, hc, e1, e2, hkid, hkey, hnd⟩ := nd_kid hn hlt
  have hQ := H.kid c kid hkid (h c (List.mem_of_getElem? hc))
  unfold mendN
  simp only [e1, e2]
  split
  · exact hered_parted H hnd hQ h hp hn.1
  · split
    · exact ⟨hp, hn.1, h⟩
    · rename_i h1 h2
      simp only [Bool.or_eq_true, decide_eq_true_eq, not_or] at h2
      have hj : (if k + 1 < n.l.length then k else k - 1) + 1 < n.l.length := by split <;> omega
      generalize (if k + 1 < n.l.length then k else k - 1) = j at *
      obtain ⟨c0, k0, hc0, f1, f2, hk0, hkey0, hnd0⟩ := nd_kid hn (k := j) (by omega)
      obtain ⟨c1, k1, hc1, g1, g2, hk1, hkey1, hnd1⟩ := nd_kid hn hj
      rw [f1, f2, g1, g2]
      have hQb : Q (bothN k0 k1 c1.key) := hered_both H hnd0 hnd1 (H.kid c0 k0 hk0 (h c0 (List.mem_of_getElem? hc0))) (H.kid c1 k1 hk1 (h c1 (List.mem_of_getElem? hc1)))
      refine hered_parted H (nd_both hnd0 hnd1 hkey1) hQb (fun x hx => ?_) rfl rfl
      rcases mem_withC hx with hx | hx
      · rcases mem_withC hx with hx | hx
        · exact h x hx
        · cases hx
      · rw [List.mem_singleton] at hx; subst hx
        exact H.cell _ _ rfl rfl hQb
theorem hered_mk (H : Hered Q q) {n : N} (h : n.page = 0 ∧ n.leaf = false ∧ ∀ x, x ∈ n.l → q false x) : Q n := by
  obtain ⟨h1, h2, h3⟩ := h
  rw [N.eta n, h1, h2]
  exact H.of _ _ h3
theorem hered_put (H : Hered Q q) {key val : ByteArray} (hk : key.size ≤ 16) (hv : val.size ≤ 400) (hq : q true (.mk key val [] [])) : ∀ {d : Nat} {n : N}, Nd d n → Q n → Q (putN key val n)
  | 0, n, h, hQ => by
    rw [putN_leaf _ _ _ h.1]
    refine H.of _ _ fun c hc => ?_
    rcases leafPut_mem hc with hc | rfl
    · have := H.to n hQ c hc
      rwa [h.1] at this
    · exact hq
  | d + 1, n, h, hQ => by
    have hw := way_lt h.2.1 key
    obtain ⟨c, kid, hc, _, _, hkid, hkey, hnd⟩ := nd_kid h hw
    rw [putN_br _ _ _ h.1 hc hkid]
    have hcs : ∀ x, x ∈ n.l → q false x := fun x hx => by have := H.to n hQ x hx; rwa [h.1] at this
    have i1 := hered_put H hk hv hq hnd (H.kid c kid hkid (hcs c (List.mem_of_getElem? hc)))
    have h1 := nd_with h hw 0 (m := [cellN c.key (putN key val kid)]) (.inr (by simp)) fun c' hc' => by
      rw [List.mem_singleton] at hc'; subst hc'; exact cell_ok hkey (nd_put hk hv hnd)
    have h2 := withC_len (m := [cellN c.key (putN key val kid)]) hw
    refine hered_mk H (hered_mend H h1 (by simp only [N.l_mk, List.length_cons, List.length_nil] at *; omega) (fun x hx => ?_) rfl)
    rcases mem_withC hx with hx | hx
    · exact hcs x hx
    · rw [List.mem_singleton] at hx; subst hx
      exact H.cell _ _ rfl rfl i1
theorem hered_without (H : Hered Q q) {key : ByteArray} : ∀ {d : Nat} {n : N}, Nd d n → Q n → Q (withoutN key n)
  | 0, n, h, hQ => by
    rw [withoutN_leaf _ _ h.1]
    refine H.of _ _ fun c hc => ?_
    have := H.to n hQ c (List.mem_filter.1 hc).1
    rwa [h.1] at this
  | d + 1, n, h, hQ => by
    have hw := way_lt h.2.1 key
    obtain ⟨c, kid, hc, _, _, hkid, hkey, hnd⟩ := nd_kid h hw
    obtain ⟨hs, _⟩ := h.2.2 c (List.mem_of_getElem? hc)
    rw [withoutN_br _ _ h.1 hc hkid]
    have hcs : ∀ x, x ∈ n.l → q false x := fun x hx => by have := H.to n hQ x hx; rwa [h.1] at this
    have i1 := hered_without H (key := key) hnd (H.kid c kid hkid (hcs c (List.mem_of_getElem? hc)))
    have h1 := nd_set h hw (c' := .mk c.key c.data c.pages [withoutN key kid]) ⟨⟨hs.1, hs.2.1, hs.2.2⟩, _, rfl, nd_without hnd⟩
    refine hered_mk H (hered_mend H h1 (by simp only [N.l_mk, List.length_set]; exact hw) (fun x hx => ?_) rfl)
    rcases mem_set hx with hx | rfl
    · exact hcs x hx
    · exact H.cell _ _ rfl (List.eq_nil_of_length_eq_zero (Nat.le_zero.1 hs.2.2)) i1
theorem hered_top (H : Hered Q q) : ∀ {d : Nat} {n : N}, Nd d n → Q n → Q (topN n) := by
  have one : ∀ {d : Nat} {n : N}, Nd d n → Q n → Q (if atR (sizesN n) = 0 then n else mendN (.mk 0 false [cellN noS n]) 0) := fun {d n} h hQ => by
    split
    · exact hQ
    · refine hered_mk H (hered_mend H (d := d) (n := .mk 0 false [cellN noS n]) (k := 0) ⟨rfl, by simp [N.l], fun c hc => by
        simp only [N.l_mk, List.mem_singleton] at hc
        subst hc
        exact cell_ok (by rw [noS_size]; omega) h⟩ (by simp [N.l]) (fun x hx => ?_) rfl)
      simp only [N.l_mk, List.mem_singleton] at hx
      subst hx
      exact H.cell _ _ rfl rfl hQ
  intro d
  induction d with
  | zero => intro n h hQ; rw [topN_else _ (.inl h.1)]; exact one h hQ
  | succ d ih =>
    intro n h hQ
    by_cases h1 : n.l.length = 1
    · obtain ⟨c, hc⟩ := List.length_eq_one_iff.1 h1
      have hcm : c ∈ n.l := by rw [hc]; exact List.mem_singleton_self c
      obtain ⟨_, k, hk, hn⟩ := h.2.2 c hcm
      rw [topN_one n h.1 hc hk]
      have := H.to n hQ c hcm
      rw [h.1] at this
      exact ih hn (H.kid c k hk this)
    · rw [topN_else _ (.inr h1)]; exact one h hQ
theorem hered_Put (H : Hered Q q) {key val : ByteArray} (hk : key.size ≤ 16) (hv : val.size ≤ 400) (hq : q true (.mk key val [] [])) {d : Nat} {n : N} (h : Nd d n) (hQ : Q n) : Q (Put key val n) :=
  hered_top H (nd_put hk hv h) (hered_put H hk hv hq h hQ)
theorem hered_Del (H : Hered Q q) {key : ByteArray} {d : Nat} {n : N} (h : Nd d n) (hQ : Q n) : Q (Del key n) := by
  unfold Del
  split
  · exact hered_top H (nd_without h) (hered_without H h hQ)
  · exact hQ
end

/-- How often a page stands below cells. -/
def cnL (p : Int) (b : Bool) (l : List C) : Nat := (l.flatMap (alC b)).count p
theorem cnL_app (p : Int) (b : Bool) (l m : List C) : cnL p b (l ++ m) = cnL p b l + cnL p b m := by unfold cnL; rw [List.flatMap_append, List.count_append]
theorem cnL_cons (p : Int) (b : Bool) (c : C) (l : List C) : cnL p b (c :: l) = (alC b c).count p + cnL p b l := by unfold cnL; rw [List.flatMap_cons, List.count_append]
theorem cnL_nil (p : Int) (b : Bool) : cnL p b [] = 0 := rfl
theorem cnL_split (p : Int) (b : Bool) (l : List C) (i : Nat) : cnL p b (l.take i) + cnL p b (l.drop i) = cnL p b l := by rw [← cnL_app, List.take_append_drop]
theorem cnL_withC {p : Int} {b : Bool} {l m : List C} {i : Nat} {c : C} (h : l[i]? = some c) : cnL p b (withC l i m) + (alC b c).count p = cnL p b l + cnL p b m := by
  have h1 := cnL_split p b l i
  have h2 : l.drop i = c :: l.drop (i + 1) := by
    obtain ⟨hlt, rfl⟩ := List.getElem?_eq_some_iff.1 h
    exact List.drop_eq_getElem_cons hlt
  rw [h2, cnL_cons] at h1
  unfold withC
  rw [cnL_app, cnL_app]
  omega
theorem alC_key (key : ByteArray) (c : C) : alC false (.mk key c.data c.pages c.kid) = alC false c := by cases c; simp [alC, C.pages, C.kid]
theorem cnL_setKey (p : Int) (key : ByteArray) (l : List C) : cnL p false (setKey key l) = cnL p false l := by
  cases l with
  | nil => rfl
  | cons a l => rw [setKey_app, cnL_cons, cnL_cons, alC_key]
theorem al_zero (p : Int) (b : Bool) (l : List C) : (alN (.mk 0 b l)).count p = cnL p b l := by rw [alN_eq]; rfl
theorem al_ge (p : Int) (n : N) : cnL p n.leaf n.l ≤ (alN n).count p := by rw [alN_eq, List.count_append]; exact Nat.le_add_left _ _
theorem alC_cell (key : ByteArray) (k : N) : alC false (cellN key k) = alN k := by rw [alC_br rfl]; rfl
theorem cn_parted {n kid : N} {k : Nat} {c : C} {key : ByteArray} (p : Int) (hc : n.l[k]? = some c) (hk : c.kid = [kid]) (hlf : n.leaf = false) : (alN (partedN n kid k key).1).count p ≤ (alN n).count p := by
  unfold partedN
  simp only
  split
  · exact Nat.le_refl _
  · have h1 := cnL_split p kid.leaf kid.l (atR (sizesN kid))
    have h2 := cnL_withC (p := p) (b := false) (m := [cellN key (.mk 0 kid.leaf (kid.l.take (atR (sizesN kid)))), cellN (keyOf (kid.l.drop (atR (sizesN kid)))) (.mk 0 kid.leaf (if kid.leaf then (kid.l.drop (atR (sizesN kid))) else setKey noS (kid.l.drop (atR (sizesN kid)))))]) hc
    have h3 : cnL p kid.leaf (if kid.leaf then (kid.l.drop (atR (sizesN kid))) else setKey noS (kid.l.drop (atR (sizesN kid)))) = cnL p kid.leaf (kid.l.drop (atR (sizesN kid))) := by
      cases hb : kid.leaf with
      | true => rw [if_pos rfl]
      | false => rw [if_neg (by simp), cnL_setKey]
    rw [cnL_cons, cnL_cons, cnL_nil, alC_cell, alC_cell, al_zero, al_zero, h3, alC_br hk, List.count_append] at h2
    have h4 := al_ge p n
    have h5 := al_ge p kid
    rw [hlf] at h4
    rw [al_zero]
    omega
theorem cn_both (p : Int) {a b : N} {key : ByteArray} (h : a.leaf = b.leaf) : (alN (bothN a b key)).count p ≤ (alN a).count p + (alN b).count p := by
  have h1 := al_ge p a
  have h2 := al_ge p b
  unfold bothN
  rw [al_zero, cnL_app]
  rw [← h] at h2 ⊢
  cases hb : a.leaf with
  | true => rw [hb] at h1 h2; rw [if_pos rfl]; omega
  | false => rw [hb] at h1 h2; rw [if_neg (by simp), cnL_setKey]; omega
theorem cn_mend {d : Nat} {n : N} {k : Nat} (p : Int) (hn : Nd (d + 1) n) (hlt : k < n.l.length) : (alN (mendN n k)).count p ≤ (alN n).count p := by
  obtain ⟨c, kid, hc, e1, e2, hkid, hkey, hnd⟩ := nd_kid hn hlt
  unfold mendN
  simp only [e1, e2]
  split
  · exact cn_parted p hc hkid hn.1
  · split
    · exact Nat.le_refl _
    · rename_i h1 h2
      simp only [Bool.or_eq_true, decide_eq_true_eq, not_or] at h2
      have hj : (if k + 1 < n.l.length then k else k - 1) + 1 < n.l.length := by split <;> omega
      generalize (if k + 1 < n.l.length then k else k - 1) = j at *
      obtain ⟨c0, k0, hc0, f1, f2, hk0, hkey0, hnd0⟩ := nd_kid hn (k := j) (by omega)
      obtain ⟨c1, k1, hc1, g1, g2, hk1, hkey1, hnd1⟩ := nd_kid hn hj
      rw [f1, f2, g1, g2]
      have hwl := withC_len (m := []) hj
      simp only [List.length_nil] at hwl
      have hj2 : j < (withC n.l (j + 1) []).length := by omega
      refine Nat.le_trans (cn_parted p (c := cellN c0.key (bothN k0 k1 c1.key)) (withC_at hj2) rfl rfl) ?_
      have t1 := cnL_withC (p := p) (b := false) (m := []) hc1
      have hat : (withC n.l (j + 1) [])[j]? = some c0 := by
        unfold withC
        rw [List.append_assoc, List.getElem?_append_left (by rw [List.length_take]; omega), List.getElem?_take, if_pos (by omega)]
        exact hc0
      have t2 := cnL_withC (p := p) (b := false) (m := [cellN c0.key (bothN k0 k1 c1.key)]) hat
      have t3 := cn_both p (key := c1.key) (nd_leaf_eq hnd0 hnd1)
      have t4 := al_ge p n
      rw [hn.1] at t4
      rw [cnL_cons, cnL_nil, alC_cell, alC_br hk0, List.count_append] at t2
      rw [cnL_nil, alC_br hk1, List.count_append] at t1
      rw [al_zero]
      omega
theorem cn_leafPut (p : Int) (l : List C) (key val : ByteArray) : cnL p true (leafPut l key val) ≤ cnL p true l := by
  have hnew : (alC true (.mk key val [] [])).count p = 0 := rfl
  have h2 : cnL p true (l.take (idxN l key) ++ [.mk key val [] []] ++ l.drop (idxN l key)) ≤ cnL p true l := by
    have := cnL_split p true l (idxN l key)
    rw [cnL_app, cnL_app, cnL_cons, cnL_nil, hnew]; omega
  unfold leafPut
  simp only
  split
  · rename_i c hc
    split
    · have := cnL_withC (p := p) (b := true) (m := [C.mk key val [] []]) hc
      rw [cnL_cons, cnL_nil, hnew] at this
      omega
    · exact h2
  · exact h2
theorem cn_put {key val : ByteArray} (hk : key.size ≤ 16) (hv : val.size ≤ 400) (p : Int) : ∀ {d : Nat} {n : N}, Nd d n → (alN (putN key val n)).count p ≤ (alN n).count p
  | 0, n, h => by
    rw [putN_leaf _ _ _ h.1, al_zero]
    have := cn_leafPut p n.l key val
    have h4 := al_ge p n
    rw [h.1] at h4
    omega
  | d + 1, n, h => by
    have hw := way_lt h.2.1 key
    obtain ⟨c, kid, hc, _, _, hkid, hkey, hnd⟩ := nd_kid h hw
    rw [putN_br _ _ _ h.1 hc hkid]
    have h1 := nd_with h hw 0 (m := [cellN c.key (putN key val kid)]) (.inr (by simp)) fun c' hc' => by
      rw [List.mem_singleton] at hc'; subst hc'; exact cell_ok hkey (nd_put hk hv hnd)
    have h2 := withC_len (m := [cellN c.key (putN key val kid)]) hw
    refine Nat.le_trans (cn_mend p h1 (by simp only [N.l_mk, List.length_cons, List.length_nil] at *; omega)) ?_
    have t := cnL_withC (p := p) (b := false) (m := [cellN c.key (putN key val kid)]) hc
    have i1 := cn_put hk hv p hnd
    have h4 := al_ge p n
    rw [h.1] at h4
    rw [cnL_cons, cnL_nil, alC_cell, alC_br hkid, List.count_append] at t
    rw [al_zero]
    omega
theorem cn_without {key : ByteArray} (p : Int) : ∀ {d : Nat} {n : N}, Nd d n → (alN (withoutN key n)).count p ≤ (alN n).count p
  | 0, n, h => by
    rw [withoutN_leaf _ _ h.1, al_zero]
    have h4 := al_ge p n
    rw [h.1] at h4
    have : ∀ l : List C, cnL p true (l.filter fun c => !eqS c.key key) ≤ cnL p true l := by
      intro l
      induction l with
      | nil => exact Nat.le_refl _
      | cons c l ih =>
        rw [List.filter_cons, cnL_cons]
        split
        · rw [cnL_cons]; omega
        · omega
    have := this n.l
    omega
  | d + 1, n, h => by
    have hw := way_lt h.2.1 key
    obtain ⟨c, kid, hc, _, _, hkid, hkey, hnd⟩ := nd_kid h hw
    obtain ⟨hs, _⟩ := h.2.2 c (List.mem_of_getElem? hc)
    rw [withoutN_br _ _ h.1 hc hkid]
    have h1 := nd_set h hw (c' := .mk c.key c.data c.pages [withoutN key kid]) ⟨⟨hs.1, hs.2.1, hs.2.2⟩, _, rfl, nd_without hnd⟩
    refine Nat.le_trans (cn_mend p h1 (by simp only [N.l_mk, List.length_set]; exact hw)) ?_
    have e : n.l.set (way n.l key) (.mk c.key c.data c.pages [withoutN key kid]) = withC n.l (way n.l key) [.mk c.key c.data c.pages [withoutN key kid]] := by
      unfold withC
      rw [List.set_eq_take_append_cons_drop, if_pos hw]; simp
    have t := cnL_withC (p := p) (b := false) (m := [.mk c.key c.data c.pages [withoutN key kid]]) hc
    have i1 := cn_without (key := key) p hnd
    have h4 := al_ge p n
    rw [h.1] at h4
    rw [cnL_cons, cnL_nil, alC_br (c := .mk c.key c.data c.pages [withoutN key kid]) rfl, alC_br hkid, List.count_append, List.count_append] at t
    rw [al_zero, e]
    simp only [C.pages_mk] at t
    omega
theorem cn_top (p : Int) {d : Nat} : ∀ {n : N}, Nd d n → (alN (topN n)).count p ≤ (alN n).count p := by
  have one : ∀ {d : Nat} {n : N}, Nd d n → (alN (if atR (sizesN n) = 0 then n else mendN (.mk 0 false [cellN noS n]) 0)).count p ≤ (alN n).count p := fun {d n} h => by
    split
    · exact Nat.le_refl _
    · refine Nat.le_trans (cn_mend p (d := d) (n := .mk 0 false [cellN noS n]) (k := 0) ⟨rfl, by simp [N.l], fun c hc => by
        simp only [N.l_mk, List.mem_singleton] at hc
        subst hc
        exact cell_ok (by rw [noS_size]; omega) h⟩ (by simp [N.l])) ?_
      rw [al_zero, cnL_cons, cnL_nil, alC_cell]
      exact Nat.le_refl _
  induction d with
  | zero => intro n h; rw [topN_else _ (.inl h.1)]; exact one h
  | succ d ih =>
    intro n h
    by_cases h1 : n.l.length = 1
    · obtain ⟨c, hc⟩ := List.length_eq_one_iff.1 h1
      obtain ⟨_, k, hk, hn⟩ := h.2.2 c (by rw [hc]; exact List.mem_singleton_self c)
      rw [topN_one n h.1 hc hk]
      have := ih hn
      have h4 := al_ge p n
      rw [h.1, hc, cnL_cons, cnL_nil, alC_br hk, List.count_append] at h4
      omega
    · rw [topN_else _ (.inr h1)]; exact one h
/-- No page is new. -/
theorem cn_Put {key val : ByteArray} (hk : key.size ≤ 16) (hv : val.size ≤ 400) (p : Int) {d : Nat} {n : N} (h : Nd d n) : (alN (Put key val n)).count p ≤ (alN n).count p :=
  Nat.le_trans (cn_top p (nd_put hk hv h)) (cn_put hk hv p h)
theorem cn_Del {key : ByteArray} (p : Int) {d : Nat} {n : N} (h : Nd d n) : (alN (Del key n)).count p ≤ (alN n).count p := by
  unfold Del
  split
  · exact Nat.le_trans (cn_top p (nd_without h)) (cn_without p h)
  · exact Nat.le_refl _
end Go.Proofs.YtfieabidajilmaaGreat

namespace Go.Proofs.YtfieabidajilmaaGreat
open Aml Go
set_option linter.unusedVariables false
set_option linter.unusedSimpArgs false
set_option maxRecDepth 100000

/-- A step. -/
structure Stp where
  key : ByteArray
  size : Int
  laid : Bool
def emptyN : N := .mk 0 true []
/-- A tree that steps may come to. -/
def StOk (k : Nat) (n : N) : Prop := ∃ d, d ≤ k ∧ Nd d n ∧ totN n ≤ 125 * k
theorem StOk.mono {k m : Nat} {n : N} (h : StOk k n) (hm : k ≤ m) : StOk m n := by
  obtain ⟨d, h1, h2, h3⟩ := h
  exact ⟨d, by omega, h2, by omega⟩
theorem StOk.mark {k : Nat} {n : N} (h : StOk k n) (f : Int) : StOk k (markN n f).1 := by
  obtain ⟨d, h1, h2, h3⟩ := h
  exact ⟨d, h1, nd_mark f h2, by rw [tot_mark f h2]; exact h3⟩
end Go.Proofs.YtfieabidajilmaaGreat

namespace Aml
open Go Go.RowKit
theorem acall_q {P : Program} {w0 : W0} {f : FuncId} {args : List DV} {S : St} {r : DV} (h1 : ACall P w0 f args S (fun d S' => shrT S' d fun d S'' => Wk d r ∧ Sub S S'')) : ACall P w0 f args S (fun d S' => d = r ∧ S' = S) := by
  intro g vs w k1 k2
  refine (h1 g vs w k1 k2).mono ?_
  rintro e w' ⟨v, g', d, S', q1, q2, q3, q4, q5⟩
  obtain ⟨g2, d', S2, p1, p2, p3, p4, p5⟩ := shrT_ok q3 q4 q5
  exact ⟨v, g2, r, S, q1, q2.trans p1, p2.forget p5.box p5.acc, p4 _ _ p3, rfl, rfl⟩
end Aml
namespace Go.Proofs.YtfieabidajilmaaGreat
open Aml Go
set_option linter.unusedVariables false
set_option linter.unusedSimpArgs false
set_option maxRecDepth 100000

/-- Whatever is asked of a tree that steps come to. -/
def Fine (n : N) : Prop := ∃ d, Nd d n ∧ totN n ≤ 131072
theorem pagesQ (w0 : W0) (n : N) (S : St) (h : Fine n) : ACall Tryz.prog w0 71 [eT n] S (fun d S' => d = dL (pgsT n) ∧ S' = S) := by
  obtain ⟨d, hn, ht⟩ := h
  have h1 := vis_len noB hn
  have h2 := pgS_le noB hn
  refine acall_q ((pagesP w0 n S (by omega) (by omega) (fun x hx => Nat.le_trans (vis_l noB hn x hx) (by omega))).mono ?_)
  rintro d S' ⟨m, rfl, rfl⟩
  simp (maxDischargeDepth := 12) (maxSteps := 1000000) -implicitDefEqProofs only [go_sem, Nat.reduceAdd, Nat.reduceSub, Nat.reduceMul, Nat.reduceLeDiff, Nat.reduceEqDiff, Nat.reduceGT, Nat.reduceBEq, reduceCtorEq, ↓reduceIte, Int.reduceToNat, Int.reduceLE, Int.reduceLT, Int.reduceNe, Int.reduceEq, pgsT, srt_length]
theorem freshQ (w0 : W0) (n : N) (S : St) (h : Fine n) : ACall Tryz.prog w0 67 [eT n] S (fun d S' => d = dI (frT n) ∧ S' = S) := by
  obtain ⟨d, hn, ht⟩ := h
  have h1 := vis_len laidB hn
  have h2 := frT_le hn
  exact freshP w0 n S (by omega) (by unfold frT at h2; omega) (fun x hx => Nat.le_trans (vis_l laidB hn x hx) (by omega))
theorem Fine.mark {n : N} (h : Fine n) (f : Int) : Fine (markN n f).1 := by
  obtain ⟨d, hn, ht⟩ := h
  exact ⟨d, nd_mark f hn, by rw [tot_mark f hn]; exact ht⟩
theorem pgs_al {d : Nat} {n : N} (h : Nd d n) : pgsT n = srt (alN n) := (srt_congr (al_perm d n h)).symm
end Go.Proofs.YtfieabidajilmaaGreat

namespace Go.Proofs.YtfieabidajilmaaGreat
open Aml Go
set_option linter.unusedVariables false
set_option linter.unusedSimpArgs false
set_option maxRecDepth 100000

/-- All is laid. -/
inductive FullP : N → Prop
  | leaf (p : Int) (l : List C) (h : p ≠ 0 ↔ l ≠ []) (hc : ∀ c, c ∈ l → c.pages.length = longN c.data.size) : FullP (.mk p true l)
  | br (p : Int) (l : List C) (h : p ≠ 0) (hk : ∀ c, c ∈ l → ∀ k, c.kid = [k] → FullP k) : FullP (.mk p false l)
/-- What is laid is laid whole. -/
inductive LaidP : N → Prop
  | mk (n : N) (h1 : n.page ≠ 0 → FullP n) (h2 : n.leaf = true → ∀ c, c ∈ n.l → c.pages = [] ∨ c.pages.length = longN c.data.size) (h3 : n.leaf = false → ∀ c, c ∈ n.l → ∀ k, c.kid = [k] → LaidP k) : LaidP n
def laidC (b : Bool) (c : C) : Prop := if b then c.pages = [] ∨ c.pages.length = longN c.data.size else ∀ k, c.kid = [k] → LaidP k
theorem laid_hered : Hered LaidP laidC where
  of := fun b l h => .mk _ (fun e => absurd rfl e) (fun hb c hc => by have := h c hc; simp only [N.leaf_mk] at hb; subst hb; exact this) (fun hb c hc => by have := h c hc; simp only [N.leaf_mk] at hb; subst hb; exact this)
  to := fun n h c hc => by
    cases h with | mk _ h1 h2 h3 =>
    unfold laidC
    cases hb : n.leaf with
    | true => rw [if_pos rfl]; exact h2 hb c hc
    | false => rw [if_neg (by simp)]; exact h3 hb c hc
  kid := fun c k hk h => by unfold laidC at h; rw [if_neg (by simp)] at h; exact h k hk
  cell := fun c k hk _ h => by unfold laidC; rw [if_neg (by simp)]; intro k' hk'; rw [hk] at hk'; cases hk'; exact h
theorem full_laid : ∀ {d : Nat} {n : N}, Nd d n → FullP n → LaidP n
  | 0, n, hn, h => .mk n (fun _ => h) (fun hb c hc => by
      cases h with
      | leaf p l h hl => exact .inr (hl c hc)
      | br p l h hk => cases hb) (fun hb => by rw [hn.1] at hb; cases hb)
  | d + 1, n, hn, h => .mk n (fun _ => h) (fun hb => by rw [hn.1] at hb; cases hb) (fun hb c hc k hk => by
      cases h with
      | leaf p l h hl => cases hb
      | br p l h hkk =>
        obtain ⟨_, k', hk', hnd⟩ := hn.2.2 c hc
        rw [hk] at hk'; cases hk'
        exact full_laid hnd (hkk c hc k hk))
mutual
/-- How many pages all of a tree takes. -/
def tN : N → Nat
  | .mk _ b l => if l = [] then 0 else 1 + tCs b l
def tC (b : Bool) : C → Nat
  | .mk _ d _ kid => if b then longN d.size else tNs kid
def tCs (b : Bool) : List C → Nat
  | [] => 0
  | c :: l => tC b c + tCs b l
def tNs : List N → Nat
  | [] => 0
  | n :: _ => tN n
end
theorem need_long {z : Nat} (h : z ≤ 400) : need (z : Int) = longN z := by
  unfold need longN
  by_cases h16 : 16 < z
  · rw [if_pos (by omega), if_pos h16]; omega
  · rw [if_neg (by omega), if_neg h16]
theorem full_page {d : Nat} {n : N} (hn : Nd d n) (h : FullP n) : n.page ≠ 0 ↔ n.l ≠ [] := by
  cases h with
  | leaf p l h hk => exact h
  | br p l h hk =>
    cases d with
    | zero => cases hn.1
    | succ d => exact ⟨fun _ => hn.2.1, fun _ => h⟩
theorem pagesR_app (f : Int) (a b : Nat) : pagesR f (a + b) = pagesR f a ++ pagesR (f + a) b := by
  unfold pagesR
  rw [List.range_add, List.map_append, List.map_map]
  congr 1
  refine List.map_congr_left fun i _ => ?_
  simp only [Function.comp]
  omega
theorem pagesR_rise (f : Int) (k : Nat) : (pagesR f k).Pairwise (· < ·) := by
  unfold pagesR
  rw [List.pairwise_map]
  exact List.Pairwise.imp (fun h => by omega) (List.pairwise_lt_range (n := k))
end Go.Proofs.YtfieabidajilmaaGreat

namespace Go.Proofs.YtfieabidajilmaaGreat
open Aml Go
set_option linter.unusedVariables false
set_option linter.unusedSimpArgs false
set_option maxRecDepth 100000

/-- What is so of the trees of steps. -/
structure RI (q : N × N) : Prop where
  r1 : RootG q.1
  r2 : RootG q.2
  laid : LaidP q.1
  sub : ∀ p, (alN q.1).count p ≤ (alN q.2).count p
  one : ∀ p, (alN q.2).count p ≤ 1
theorem laid_empty : LaidP emptyN := .mk _ (fun e => absurd rfl e) (fun _ c hc => by cases hc) (fun _ c hc => by cases hc)
end Go.Proofs.YtfieabidajilmaaGreat

namespace Go.Proofs.YtfieabidajilmaaGreat
open Aml Go
set_option linter.unusedVariables false
set_option linter.unusedSimpArgs false
set_option maxRecDepth 100000
theorem layCs_memq {b : Bool} : ∀ {l : List C} {q : LS} {x : C}, (∀ c, c ∈ l → ∀ q : LS, (layC b c q).2.1 = q.1.drop (rfC b c)) → rfS b l ≤ q.1.length → x ∈ (layCs b l q).1 →
    ∃ c q', c ∈ l ∧ x = (layC b c q').1 ∧ rfC b c ≤ q'.1.length ∧ ∀ p, p ∈ q'.1 → p ∈ q.1
  | [], _, x, _, _, h => by cases h
  | c :: l, q, x, h1, hq, h => by
    have e : rfS b (c :: l) = rfC b c + rfS b l := by unfold rfS; rw [List.map_cons, List.sum_cons]
    rw [e] at hq
    have d1 := h1 c List.mem_cons_self q
    simp only [layCs] at h
    rcases List.mem_cons.1 h with rfl | h
    · exact ⟨c, q, List.mem_cons_self, rfl, by omega, fun _ h => h⟩
    · obtain ⟨c', q', w1, w2, w3, w4⟩ := layCs_memq (fun c hc => h1 c (List.mem_cons_of_mem _ hc)) (by rw [d1, List.length_drop]; omega) h
      refine ⟨c', q', List.mem_cons_of_mem _ w1, w2, w3, fun p hp => ?_⟩
      have := w4 p hp
      rw [d1] at this
      exact List.mem_of_mem_drop this
/-- What a node's entries take. -/
theorem layC_left {d : Nat} {n : N} (hn : Nd d n) : ∀ c, c ∈ n.l → ∀ q : LS, (layC n.leaf c q).2.1 = q.1.drop (rfC n.leaf c) := fun c hc q => by
  cases d with
  | zero =>
    rw [hn.1, layC_leaf]
    obtain ⟨m, h1, h2⟩ := layV_left c.data c.pages q
    rw [h1, h2]; rfl
  | succ d =>
    obtain ⟨_, k, hk, hnd⟩ := hn.2.2 c hc
    rw [hn.1, layC_br hk, show rfC false c = frT k by rw [← kid0_eq hk]; rfl]
    exact layN_left hnd
theorem layV_full {d : ByteArray} {ps : List Int} {q : LS} (hd : d.size ≤ 400) (h : ps = [] ∨ ps.length = longN d.size) (hq : (if ps = [] then need (d.size : Int) else 0) ≤ q.1.length) : (layV d ps q).1.length = longN d.size := by
  unfold layV
  by_cases hps : ps = []
  · rw [if_pos hps] at hq
    split
    · rename_i z
      rw [← need_long hd, z.resolve_right fun f => f hps, hps]; rfl
    · show (List.take _ _).length = _
      rw [List.length_take, ← need_long hd]; omega
  · rw [if_pos (.inr hps)]
    exact h.resolve_left hps
theorem lay_full : ∀ {d : Nat} {n : N} {q : LS}, Nd d n → LaidP n → frT n ≤ q.1.length → (∀ p, p ∈ q.1 → p ≠ 0) → FullP (layN n q).1
  | d, n, q, hn, hl, hq, hp => by
    by_cases h0 : n.page ≠ 0
    · rw [layN_eq, if_pos (.inl h0)]
      cases hl with | mk _ h1 h2 h3 => exact h1 h0
    · by_cases hz : n.leaf = true ∧ n.l = []
      · rw [layN_eq, if_pos (.inr hz)]
        cases n with | mk p b l =>
        obtain ⟨z1, z2⟩ := hz
        simp only [N.leaf, N.l, N.page] at z1 z2 h0
        subst z1; subst z2
        exact .leaf _ _ ⟨fun e => absurd e h0, fun e => absurd rfl e⟩ fun c hc => by cases hc
      · have hpg := lay_page hn hq hp hz
        have hq' := hq
        rw [frT_eq hn, if_neg h0, if_neg hz] at hq'
        have mem := fun x => layCs_memq (x := x) (layC_left hn) (by omega : rfS n.leaf n.l ≤ q.1.length)
        have hlen := layCs_len n.leaf n.l q
        rw [layN_eq, if_neg (fun e => e.elim h0 hz)] at hpg ⊢
        have hpg : (layCs n.leaf n.l q).2.1.headD 0 ≠ 0 := hpg
        show FullP (.mk ((layCs n.leaf n.l q).2.1.headD 0) n.leaf (layCs n.leaf n.l q).1)
        generalize (layCs n.leaf n.l q).2.1.headD 0 = pg at hpg
        generalize (layCs n.leaf n.l q).1 = l' at mem hlen
        cases hl with | mk _ h1 h2 h3 =>
        cases d with
        | zero =>
          have hb := hn.1
          rw [hb] at mem ⊢
          refine .leaf _ _ ⟨fun _ e => hz ⟨hb, ?_⟩, fun _ => hpg⟩ fun x hx => ?_
          · rw [e] at hlen
            exact List.eq_nil_of_length_eq_zero hlen.symm
          · obtain ⟨c, q', w1, w2, w3, w4⟩ := mem x hx
            rw [w2, layC_leaf]
            exact layV_full (hn.2 c w1).1.2.1 (h2 hb c w1) w3
        | succ d =>
          have hb := hn.1
          rw [hb] at mem ⊢
          refine .br _ _ hpg fun x hx k' hk' => ?_
          obtain ⟨c, q', w1, w2, w3, w4⟩ := mem x hx
          obtain ⟨_, k, hk, hnd⟩ := hn.2.2 c w1
          rw [w2, layC_br hk] at hk'
          have hk' : [(layN k q').1] = [k'] := hk'
          cases hk'
          rw [show rfC false c = frT k by rw [← kid0_eq hk]; rfl] at w3
          exact lay_full hnd (h3 hb c w1 k hk) w3 fun p h => hp p (w4 p h)
  termination_by d => d
end Go.Proofs.YtfieabidajilmaaGreat

namespace Go.Proofs.YtfieabidajilmaaGreat
open Aml Go
set_option linter.unusedVariables false
set_option linter.unusedSimpArgs false
set_option maxRecDepth 100000
theorem okE_leaf {c : C} (hk : c.key.size ≤ 16) (hd : c.data.size ≤ 400) (hl : c.pages.length = longN c.data.size) (hp : ∀ p, p ∈ c.pages → 2 ≤ p ∧ p ≤ 999) : OkE true (entE true c) := by
  unfold entE
  rw [if_pos rfl]
  unfold longN at hl
  cases h : c.pages with
  | nil =>
    rw [if_pos rfl]
    have : c.data.size ≤ 16 := by
      rw [h] at hl
      simp only [List.length_nil] at hl
      split at hl <;> omega
    refine ⟨hk, ?_⟩
    rw [if_pos rfl, if_neg (by simp)]
    exact ⟨this, rfl, rfl⟩
  | cons p ps =>
    rw [if_neg (by simp)]
    have : 16 < c.data.size := by
      rw [h] at hl
      simp only [List.length_cons] at hl
      split at hl <;> omega
    refine ⟨hk, ?_⟩
    rw [if_pos rfl, if_pos rfl]
    have := hp p (by rw [h]; exact List.mem_cons_self)
    refine ⟨rfl, ?_, ?_, this.1, this.2⟩ <;> simp only [] <;> omega
theorem okE_br {c : C} {k : N} (hk : c.key.size ≤ 16) (hkid : c.kid = [k]) (hp : 2 ≤ k.page ∧ k.page ≤ 999) : OkE false (entE false c) := by
  unfold entE
  rw [if_neg (by simp), kid0_eq hkid]
  refine ⟨hk, ?_⟩
  rw [if_neg (by simp)]
  exact ⟨rfl, rfl, rfl, hp.1, hp.2⟩
/-- The pages of a laid tree are its own, or taken. -/
theorem lay_pgs {P : Int → Prop} {d : Nat} {n : N} {q : LS} (hn : Nd d n) (hq : frT n ≤ q.1.length) (h0 : ∀ p, p ∈ q.1 → p ≠ 0) (h1 : ∀ p, p ∈ alN n → P p) (h2 : ∀ p, p ∈ q.1 → P p) : ∀ p, p ∈ alN (layN n q).1 → P p := fun p hp => by
  rcases List.mem_append.1 ((lay_al hn hq h0).mem_iff.1 hp) with h | h
  · exact h1 p h
  · exact h2 p (List.mem_of_mem_take h)
theorem page_al {n : N} (h : n.page ≠ 0) : n.page ∈ alN n := by
  rw [alN_eq, if_pos h]; exact List.mem_append_left _ List.mem_cons_self
end Go.Proofs.YtfieabidajilmaaGreat

namespace Go.Proofs.YtfieabidajilmaaGreat
open Aml Go
set_option linter.unusedVariables false
set_option linter.unusedSimpArgs false
set_option maxRecDepth 100000
/-- What a node needs, to stand on a page. -/
structure Put8 (b : Bool) (l : List C) : Prop where
  ok : ∀ e, e ∈ l.map (entE b) → OkE b e
  rise : (l.map (entE b)).Pairwise fun x y => ltS x.key y.key = true
  first : ∀ (i : Nat) e, (l.map (entE b))[i]? = some e → (e.key = noS ↔ i = 0 ∧ b = false)
  fits : sizS ((l.map (entE b)).map (cellS b)) ≤ 122
  many : 1 < (l.map (entE b)).length ∨ (b = true ∧ (l.map (entE b)).length = 1)
theorem ent_key (b : Bool) (c : C) : (entE b c).key = c.key := by
  unfold entE
  split
  · split <;> rfl
  · rfl
theorem ent_leaf_size {c : C} (h : ShL c) (hf : c.pages.length = longN c.data.size) : (((cellS true (entE true c)).size + 1 : Nat) : Int) = sizeC true c := by
  rw [cellS_size, ent_key]
  have h3 := h.2.2.1
  have hn := need_long h3
  by_cases hp : c.pages = []
  · have h0 : longN c.data.size = 0 := by rw [← hf, hp]; rfl
    have e : entE true c = ⟨c.key, c.data, false, 0, 0⟩ := by unfold entE; rw [if_pos rfl, if_pos hp]
    rw [e]
    unfold sizeC
    simp only [if_true, Bool.false_eq_true, if_false]
    rw [if_neg (by rw [hn, h0]; omega)]
    omega
  · have h0 : longN c.data.size ≠ 0 := by rw [← hf]; exact fun e => hp (List.eq_nil_of_length_eq_zero e)
    have e : entE true c = ⟨c.key, noS, true, c.data.size, c.pages.headD 0⟩ := by unfold entE; rw [if_pos rfl, if_neg hp]
    rw [e]
    unfold sizeC
    simp only [if_true]
    rw [if_pos (.inl (by rw [hn]; omega))]
    omega
theorem ent_br_size (c : C) : (((cellS false (entE false c)).size + 1 : Nat) : Int) = sizeC false c := by
  rw [cellS_size, ent_key]
  unfold sizeC
  simp only [Bool.false_eq_true, if_false]
  omega
theorem siz_sum {b : Bool} : ∀ {l : List C}, (∀ c, c ∈ l → (((cellS b (entE b c)).size + 1 : Nat) : Int) = sizeC b c) → ((sizS ((l.map (entE b)).map (cellS b)) : Nat) : Int) = (l.map (sizeC b)).sum
  | [], _ => rfl
  | c :: l, h => by
    have h1 := h c List.mem_cons_self
    have h2 := siz_sum (l := l) fun c hc => h c (List.mem_cons_of_mem _ hc)
    unfold sizS at h2 ⊢
    rw [List.map_cons, List.map_cons, List.map_cons, List.sum_cons, List.map_cons, List.sum_cons, ← h1, ← h2]
    omega
theorem put8_ok {d : Nat} {n : N} (hg : Good d n) (hf : FullP n) (hp : ∀ p, p ∈ alN n → 2 ≤ p ∧ p ≤ 999) (hs : (sizesN n).sum ≤ 122) (hne : n.l ≠ []) (h2 : n.leaf = true ∨ 2 ≤ n.l.length) : Put8 n.leaf n.l := by
  have hk := fitK_good hg (lo := noS) (hi := noS) (fun x _ => noS_le _) (fun e => absurd rfl e)
  have hpos := List.length_pos_iff.2 hne
  refine ⟨fun e he => ?_, ?_, fun i e he => ?_, ?_, ?_⟩
  · obtain ⟨c, hc, rfl⟩ := List.mem_map.1 he
    cases d with
    | zero =>
      obtain ⟨w1, w2, w3, w4, w5, w6⟩ := hg.2.2 c hc
      rw [alN_eq] at hp
      rw [hg.1] at hp ⊢
      refine okE_leaf w2 w3 ?_ fun p h => hp p (List.mem_append_right _ (List.mem_flatMap.2 ⟨c, hc, by rw [alC_leaf]; exact h⟩))
      cases hf with
      | leaf p l _ hh => exact hh c hc
      | br p l _ _ => cases hg.1
    | succ d =>
      obtain ⟨⟨w1, w2, w3⟩, _, k, hkid, hgk, hfk⟩ := hg.2.2.cell c hc
      rw [alN_eq] at hp
      rw [hg.1] at hp ⊢
      have hfull : FullP k := by
        cases hf with
        | leaf p l _ _ => cases hg.1
        | br p l _ hh => exact hh c hc k hkid
      have hkp := (full_page (good_nd hgk) hfull).2 (fits_ne hfk)
      exact okE_br w1 hkid (hp _ (List.mem_append_right _ (List.mem_flatMap.2 ⟨c, hc, by rw [alC_br hkid]; exact List.mem_append_right _ (page_al hkp)⟩)))
  · rw [List.pairwise_map]
    exact hk.rise.imp fun {a b} h => by rw [ent_key, ent_key]; exact h
  · rw [List.getElem?_map] at he
    cases hc : n.l[i]? with
    | none => rw [hc] at he; cases he
    | some c =>
      rw [hc] at he
      cases he
      rw [ent_key]
      exact hk.first i c hc
  · have : ((sizS ((n.l.map (entE n.leaf)).map (cellS n.leaf)) : Nat) : Int) = (n.l.map (sizeC n.leaf)).sum := siz_sum fun c hc => by
      cases d with
      | zero =>
        rw [hg.1]
        refine ent_leaf_size (hg.2.2 c hc) ?_
        cases hf with
        | leaf p l _ hh => exact hh c hc
        | br p l _ _ => cases hg.1
      | succ d => rw [hg.1]; exact ent_br_size c
    have : (sizesN n).sum = (n.l.map (sizeC n.leaf)).sum := rfl
    omega
  · rw [List.length_map]
    rcases h2 with h | h
    · by_cases h1 : n.l.length = 1
      · exact .inr ⟨h, h1⟩
      · exact .inl (by omega)
    · exact .inl (by omega)
/-- What is written behind it. -/
theorem layV_wr (d : ByteArray) (ps : List Int) (q : LS) : (layV d ps q).2.2.length ≤ q.2.length + (if ps = [] then need (d.size : Int) else 0) := by
  unfold layV
  split
  · show q.2.length ≤ _; omega
  · rename_i h
    rw [if_pos (Classical.not_not.1 fun e => h (.inr e))]
    show (q.2 ++ _).length ≤ _
    rw [List.length_append, List.length_zip, List.length_take]
    omega
theorem layCs_wr {b : Bool} : ∀ {l : List C} {q : LS}, (∀ c, c ∈ l → ∀ q : LS, (layC b c q).2.2.length ≤ q.2.length + rfC b c) → (layCs b l q).2.2.length ≤ q.2.length + rfS b l
  | [], q, _ => by simp [layCs, rfS]
  | c :: l, q, h => by
    have h1 := h c List.mem_cons_self q
    have h2 := layCs_wr (l := l) (q := (layC b c q).2) fun c hc => h c (List.mem_cons_of_mem _ hc)
    have e : rfS b (c :: l) = rfC b c + rfS b l := by unfold rfS; rw [List.map_cons, List.sum_cons]
    simp only [layCs]
    omega
theorem layN_wr : ∀ {d : Nat} {n : N} {q : LS}, Nd d n → (layN n q).2.2.length ≤ q.2.length + frT n := by
  have fin : ∀ {d : Nat} {n : N} {q : LS}, Nd d n → (∀ c, c ∈ n.l → ∀ q : LS, (layC n.leaf c q).2.2.length ≤ q.2.length + rfC n.leaf c) → (layN n q).2.2.length ≤ q.2.length + frT n := by
    intro d n q hn h
    rw [layN_eq, frT_eq hn]
    by_cases hp : n.page ≠ 0
    · rw [if_pos (.inl hp), if_pos hp]; exact Nat.le_refl _
    · rw [if_neg hp]
      by_cases hz : n.leaf = true ∧ n.l = []
      · rw [if_pos (.inr hz), if_pos hz]; exact Nat.le_refl _
      · rw [if_neg (fun e => e.elim hp hz), if_neg hz]
        show ((layCs n.leaf n.l q).2.2 ++ [_]).length ≤ _
        have := layCs_wr (q := q) h
        rw [List.length_append, List.length_singleton]
        omega
  intro d
  induction d with
  | zero =>
    intro n q hn
    refine fin hn fun c hc q => ?_
    rw [hn.1, layC_leaf]
    exact layV_wr c.data c.pages q
  | succ d ih =>
    intro n q hn
    refine fin hn fun c hc q => ?_
    obtain ⟨_, k, hk, hnd⟩ := hn.2.2 c hc
    rw [hn.1, layC_br hk]
    have : rfC false c = frT k := by rw [← kid0_eq hk]; rfl
    rw [this]
    exact ih hnd
theorem layC_wr {d : Nat} {n : N} (hn : Nd d n) : ∀ c, c ∈ n.l → ∀ q : LS, (layC n.leaf c q).2.2.length ≤ q.2.length + rfC n.leaf c := fun c hc q => by
  cases d with
  | zero =>
    rw [hn.1, layC_leaf]
    exact layV_wr c.data c.pages q
  | succ d =>
    obtain ⟨_, k, hk, hnd⟩ := hn.2.2 c hc
    rw [hn.1, layC_br hk, show rfC false c = frT k by rw [← kid0_eq hk]; rfl]
    exact layN_wr hnd
end Go.Proofs.YtfieabidajilmaaGreat

namespace Go.Proofs.YtfieabidajilmaaGreat
open Aml Go
set_option linter.unusedVariables false
set_option linter.unusedSimpArgs false
set_option maxRecDepth 100000
theorem pagesR_mem {f : Int} {k : Nat} {p : Int} (h : p ∈ pagesR f k) : f ≤ p ∧ p < f + k := by
  unfold pagesR at h
  obtain ⟨i, hi, rfl⟩ := List.mem_map.1 h
  have := List.mem_range.1 hi
  omega
theorem pagesR_nd (f : Int) (k : Nat) : (pagesR f k).Nodup := (pagesR_rise f k).imp fun h => by omega
/-- Entries of short values stay as they are. -/
theorem lay_short : ∀ {d : Nat} {n : N} (q : LS), Nd d n → (∀ x, x ∈ enN n → x.data.size ≤ 16) → enN (layN n q).1 = enN n
  | 0, n, q, hn, hs => by
    rcases lay_cases n q with e | e
    · rw [e]
    · rw [en_leaf hn.1] at hs
      rw [en_leaf hn.1, en_leaf (by rw [layN_leaf]; exact hn.1), e, hn.1]
      have : ∀ (l : List C) (q : LS), (∀ c, c ∈ l → c.data.size ≤ 16) → (layCs true l q).1 = l := fun l => by
        induction l with
        | nil => intro q _; rfl
        | cons c l ih =>
          intro q h
          have h0 : need (c.data.size : Int) = 0 := by have := h c List.mem_cons_self; unfold need; rw [if_neg (by omega)]
          have h1 : (layC true c q).1 = c := by
            rw [layC_leaf]
            unfold layV
            rw [if_pos (.inl h0)]
            cases c; rfl
          simp only [layCs]
          rw [ih _ fun c hc => h c (List.mem_cons_of_mem _ hc), h1]
      exact this _ _ hs
  | d + 1, n, q, hn, hs => by
    rcases lay_cases n q with e | e
    · rw [e]
    · rw [enN_eq, hn.1] at hs
      rw [enN_eq, enN_eq n, layN_leaf, e, hn.1]
      have : ∀ (l : List C) (q : LS), (∀ c, c ∈ l → c ∈ n.l) → (layCs false l q).1.flatMap (enC false) = l.flatMap (enC false) := by
        intro l
        induction l with
        | nil => intro q _; rfl
        | cons c l ih =>
          intro q hl
          obtain ⟨hsh, k, hk, hnd⟩ := hn.2.2 c (hl c List.mem_cons_self)
          simp only [layCs, List.flatMap_cons]
          rw [ih _ fun c hc => hl c (List.mem_cons_of_mem _ hc), layC_br hk, enC_br (k := (layN k q).1) rfl, enC_br hk, lay_short q hnd fun x hx => hs x (List.mem_flatMap.2 ⟨c, hl c List.mem_cons_self, by rw [enC_br hk]; exact hx⟩)]
      exact this n.l q fun _ h => h
/-- A tree laid on pages from one on. -/
def layT (n : N) (f : Int) : N := (layN n (pagesR f (frT n), [])).1
def laidL : List C → Int → List C
  | [], _ => []
  | c :: l, f => cellN c.key (layT (kid0 c) f) :: laidL l (f + frT (kid0 c))
def frL (l : List C) : Nat := (l.map fun c => frT (kid0 c)).sum
def frV (q : N × List C) : Nat := frT q.1 + frL q.2
/-- A view laid on pages from one on: its trees, and its directory. -/
def laidQ (q : N × List C) (f : Int) : N × List C := (layT q.1 (f + frL q.2), laidL q.2 f)
def alL (l : List C) : List Int := l.flatMap fun c => alN (kid0 c)
def alV (q : N × List C) : List Int := alN q.1 ++ alL q.2
theorem laidL_snoc : ∀ (l : List C) (c : C) (f : Int), laidL (l ++ [c]) f = laidL l f ++ [cellN c.key (layT (kid0 c) (f + frL l))]
  | [], c, f => by simp [laidL, frL]
  | a :: l, c, f => by
    have e : f + (frT (kid0 a) : Int) + (frL l : Int) = f + (frL (a :: l) : Int) := by
      unfold frL
      rw [List.map_cons, List.sum_cons]
      omega
    simp only [List.cons_append, laidL, laidL_snoc l c]
    rw [e]
theorem frL_snoc (l : List C) (c : C) : frL (l ++ [c]) = frL l + frT (kid0 c) := by simp [frL]
theorem frL_take (l : List C) (k : Nat) : frL (l.take k) ≤ frL l := by
  have := congrArg frL (List.take_append_drop k l)
  simp only [frL, List.map_append, List.sum_append] at this ⊢
  omega
theorem laidL_len : ∀ (l : List C) (f : Int), (laidL l f).length = l.length
  | [], _ => rfl
  | c :: l, f => by simp only [laidL, List.length_cons, laidL_len l]
/-- What holds of a tree that is to be laid. -/
structure TL (n : N) : Prop where
  root : RootG n
  laid : LaidP n
  pz : PZ n
theorem tl_nd {n : N} (h : TL n) : ∃ d, Nd d n := let ⟨d, h1, _⟩ := h.root; ⟨d, good_nd h1⟩
theorem layT_al {n : N} {f : Int} (h : TL n) (hf : 2 ≤ f) : (alN (layT n f)).Perm (alN n ++ pagesR f (frT n)) := by
  obtain ⟨d, hn⟩ := tl_nd h
  have := lay_al (q := (pagesR f (frT n), [])) hn (by rw [pagesR_len]; exact Nat.le_refl _) fun p hp => by have := pagesR_mem hp; omega
  rwa [List.take_of_length_le (by rw [pagesR_len]; exact Nat.le_refl _)] at this
theorem layT_fr {n : N} {f : Int} (h : TL n) (hf : 2 ≤ f) : frT (layT n f) = 0 := by
  obtain ⟨d, hn⟩ := tl_nd h
  exact lay_fr (q := (pagesR f (frT n), [])) hn (by rw [pagesR_len]; exact Nat.le_refl _) fun p hp => by have := pagesR_mem hp; omega
theorem layT_tl {n : N} {f : Int} (h : TL n) (hf : 2 ≤ f) : TL (layT n f) := by
  obtain ⟨d, hn⟩ := tl_nd h
  have hfull := lay_full (q := (pagesR f (frT n), [])) hn h.laid (by rw [pagesR_len]; exact Nat.le_refl _) fun p hp => by have := pagesR_mem hp; omega
  exact ⟨root_lay _ h.root, full_laid (nd_lay _ hn) hfull, fun e => Classical.not_not.1 fun z => (full_page (nd_lay _ hn) hfull).1 z e⟩
theorem layT_tb {k : Nat} {n : N} {f : Int} (h : TB k n) : TB k (layT n f) := by
  obtain ⟨hr, d, hg, hd, ht⟩ := h
  exact ⟨root_lay _ hr, d, good_lay _ hg, hd, by rw [layT, tot_lay _ (good_nd hg)]; exact ht⟩
theorem layT_en {n : N} {f : Int} (h : RootG n) (hs : ∀ x, x ∈ enN n → x.data.size ≤ 16) : enN (layT n f) = enN n := by
  obtain ⟨d, h1, _⟩ := h
  exact lay_short _ (good_nd h1) hs
theorem laidL_mem : ∀ {l : List C} {f : Int} {x : C}, x ∈ laidL l f → ∃ c f', c ∈ l ∧ f ≤ f' ∧ x = cellN c.key (layT (kid0 c) f')
  | [], _, x, h => by cases h
  | c :: l, f, x, h => by
    rcases List.mem_cons.1 h with rfl | h
    · exact ⟨c, f, List.mem_cons_self, Int.le_refl _, rfl⟩
    · obtain ⟨c', f', h1, h2, h3⟩ := laidL_mem h
      exact ⟨c', f', List.mem_cons_of_mem _ h1, by omega, h3⟩
theorem laidL_rise : ∀ {l : List C} {f : Int}, Rise l → Rise (laidL l f)
  | [], _, _ => List.Pairwise.nil
  | c :: l, f, h => by
    unfold Rise at h
    rw [List.pairwise_cons] at h
    refine List.pairwise_cons.2 ⟨fun x hx => ?_, laidL_rise h.2⟩
    obtain ⟨c', f', h1, _, rfl⟩ := laidL_mem hx
    exact h.1 c' h1
theorem laidL_keys : ∀ (l : List C) (f : Int), (laidL l f).map (fun c => C.mk c.key nwS [] []) = l.map fun c => C.mk c.key nwS [] []
  | [], _ => rfl
  | c :: l, f => by simp only [laidL, List.map_cons, laidL_keys l]; rfl
theorem vi_laid {k : Nat} {q : N × List C} {f : Int} (h : VI k q.1 q.2) : VI k (laidQ q f).1 (laidQ q f).2 := by
  refine ⟨layT_tb h.dir, laidL_rise h.rise, fun x hx => ?_, by show (laidL _ _).length ≤ _; rw [laidL_len]; exact h.len, ?_⟩
  · obtain ⟨c, f', h1, _, rfl⟩ := laidL_mem hx
    exact ⟨rfl, layT_tb (h.cell c h1).2.1, (h.cell c h1).2.2⟩
  · show enN (layT _ _) = (laidL _ _).map _
    rw [laidL_keys, layT_en h.dir.1 fun x hx => ?_, h.en]
    rw [h.en] at hx
    obtain ⟨c, _, rfl⟩ := List.mem_map.1 hx
    show nwS.size ≤ 16
    decide
structure TV (q : N × List C) : Prop where
  dir : TL q.1
  cell : ∀ c, c ∈ q.2 → TL (kid0 c)
theorem tv_laid {q : N × List C} {f : Int} (h : TV q) (hf : 2 ≤ f) : TV (laidQ q f) := ⟨layT_tl h.dir (by omega), fun x hx => by
  obtain ⟨c, f', h1, h2, rfl⟩ := laidL_mem hx
  exact layT_tl (h.cell c h1) (by omega)⟩
theorem frL_laid : ∀ {l : List C} {f : Int}, (∀ c, c ∈ l → TL (kid0 c)) → 2 ≤ f → frL (laidL l f) = 0
  | [], _, _, _ => rfl
  | c :: l, f, h, hf => by
    have h1 := frL_laid (l := l) (f := f + frT (kid0 c)) (fun c hc => h c (List.mem_cons_of_mem _ hc)) (by omega)
    have h2 : frT (kid0 (cellN c.key (layT (kid0 c) f))) = 0 := layT_fr (h c List.mem_cons_self) hf
    unfold frL at h1 ⊢
    simp only [laidL, List.map_cons, List.sum_cons]
    rw [h1, h2]
theorem frV_laid {q : N × List C} {f : Int} (h : TV q) (hf : 2 ≤ f) : frV (laidQ q f) = 0 := by
  have h1 : frT (laidQ q f).1 = 0 := layT_fr h.dir (by omega)
  have h2 : frL (laidQ q f).2 = 0 := frL_laid h.cell hf
  unfold frV
  rw [h1, h2]
theorem alL_laid : ∀ {l : List C} {f : Int}, (∀ c, c ∈ l → TL (kid0 c)) → 2 ≤ f → (alL (laidL l f)).Perm (alL l ++ pagesR f (frL l))
  | [], f, _, _ => by simp [laidL, alL, frL, pagesR]
  | c :: l, f, h, hf => by
    have h1 := alL_laid (l := l) (f := f + frT (kid0 c)) (fun c hc => h c (List.mem_cons_of_mem _ hc)) (by omega)
    have h2 := layT_al (f := f) (h c List.mem_cons_self) hf
    have e : frL (c :: l) = frT (kid0 c) + frL l := by unfold frL; rw [List.map_cons, List.sum_cons]
    rw [e, pagesR_app]
    unfold alL at h1 ⊢
    simp only [laidL, List.flatMap_cons]
    exact (h2.append h1).trans (perm_4 _ _ _ _)
theorem alV_laid {q : N × List C} {f : Int} (h : TV q) (hf : 2 ≤ f) : (alV (laidQ q f)).Perm (alV q ++ pagesR f (frV q)) := by
  have h1 := alL_laid (f := f) h.cell hf
  have h2 := layT_al (f := f + frL q.2) h.dir (by omega)
  have e : frV q = frL q.2 + frT q.1 := Nat.add_comm _ _
  rw [e, pagesR_app]
  unfold alV
  show (alN (layT _ _) ++ alL (laidL _ _)).Perm _
  refine (h2.append h1).trans ((perm_4 _ _ _ _).trans (List.Perm.append_left _ List.perm_append_comm))
/-- A view behind steps, the one that was laid last, and the next page. -/
structure BI (k : Nat) (q o : N × List C) (f : Int) : Prop where
  v : VI k q.1 q.2
  w : VI k o.1 o.2
  tv : TV q
  f0 : frV o = 0
  sub : ∀ p, (alV q).count p ≤ (alV o).count p
  one : ∀ p, (alV o).count p ≤ 1
  rng : ∀ p, p ∈ alV o → 2 ≤ p ∧ p < f
  lo : 2 ≤ f
  hi : f ≤ 999
theorem bi_mono {k m : Nat} {q o : N × List C} {f : Int} (h : BI k q o f) (hm : k ≤ m) : BI m q o f := ⟨vi_mono h.v hm, vi_mono h.w hm, h.tv, h.f0, h.sub, h.one, h.rng, h.lo, h.hi⟩
theorem bi_mem {k : Nat} {q o : N × List C} {f : Int} (h : BI k q o f) {p : Int} (hp : p ∈ alV q) : p ∈ alV o :=
  List.count_pos_iff.1 (Nat.lt_of_lt_of_le (List.count_pos_iff.2 hp) (h.sub p))
theorem bi_one {k : Nat} {q o : N × List C} {f : Int} (h : BI k q o f) : (alV q).Nodup := List.nodup_iff_count.2 fun p => Nat.le_trans (h.sub p) (h.one p)
theorem bi_laid {k : Nat} {q o : N × List C} {f : Int} (h : BI k q o f) (hf : f + frV q ≤ 999) : BI k (laidQ q f) (laidQ q f) (f + frV q) := by
  have hp := alV_laid (f := f) h.tv h.lo
  have hlo := h.lo
  refine ⟨vi_laid h.v, vi_laid h.v, tv_laid h.tv h.lo, frV_laid h.tv h.lo, fun p => Nat.le_refl _, fun p => ?_, fun p hm => ?_, by omega, hf⟩
  · rw [hp.count_eq, List.count_append]
    have h1 : (alV q).count p ≤ 1 := Nat.le_trans (h.sub p) (h.one p)
    have h2 : (pagesR f (frV q)).count p ≤ 1 := List.nodup_iff_count.1 (pagesR_nd _ _) p
    rcases Nat.eq_zero_or_pos ((alV q).count p) with z | z
    · omega
    · have a := (h.rng p (bi_mem h (List.count_pos_iff.1 z))).2
      rcases Nat.eq_zero_or_pos ((pagesR f (frV q)).count p) with y | y
      · omega
      · have b := pagesR_mem (List.count_pos_iff.1 y)
        omega
  · rcases List.mem_append.1 (hp.mem_iff.1 hm) with hm | hm
    · have := h.rng p (bi_mem h hm); omega
    · have := pagesR_mem hm; omega
theorem bi_em : BI 0 (emN, []) (emN, []) 2 := ⟨vi_em 0, vi_em 0, ⟨⟨em_root, laid_empty, pz_em⟩, fun c hc => absurd hc List.not_mem_nil⟩, rfl, fun p => Nat.le_refl _, fun p => by show List.count p [] ≤ 1; simp, fun p hp => (by cases hp), by omega, by omega⟩
theorem tl_put {n : N} {key val : ByteArray} (h : TL n) (h0 : key ≠ noS) (h1 : key.size ≤ 16) (h2 : val.size ≤ 400) : TL (Put key val n) := by
  obtain ⟨d, hn⟩ := tl_nd h
  exact ⟨(root_put h0 h1 h2 h.root).1, hered_Put laid_hered h1 h2 (.inl rfl) hn h.laid, pz_put h.root h0 h1 h2⟩
theorem tl_del {n : N} {key : ByteArray} (h : TL n) : TL (Del key n) := by
  obtain ⟨d, hn⟩ := tl_nd h
  exact ⟨(root_del key h.root).1, hered_Del laid_hered hn h.laid, pz_del h.root h.pz⟩
theorem ct_put {n : N} {key val : ByteArray} (h : TL n) (h1 : key.size ≤ 16) (h2 : val.size ≤ 400) (p : Int) : (alN (Put key val n)).count p ≤ (alN n).count p := by
  obtain ⟨d, hn⟩ := tl_nd h
  exact cn_Put h1 h2 p hn
theorem ct_del {n : N} {key : ByteArray} (h : TL n) (p : Int) : (alN (Del key n)).count p ≤ (alN n).count p := by
  obtain ⟨d, hn⟩ := tl_nd h
  exact cn_Del p hn
theorem bi_step {k : Nat} {q o q' : N × List C} {f : Int} (h : BI k q o f) (h1 : VI (k + 1) q'.1 q'.2) (h2 : TV q') (h3 : ∀ p, (alV q').count p ≤ (alV q).count p) : BI (k + 1) q' o f :=
  ⟨h1, vi_mono h.w (by omega), h2, h.f0, fun p => Nat.le_trans (h3 p) (h.sub p), h.one, h.rng, h.lo, h.hi⟩
theorem alL_app (l m : List C) : alL (l ++ m) = alL l ++ alL m := by unfold alL; rw [List.flatMap_append]
theorem bi_mk {k : Nat} {q o : N × List C} {f : Int} (h : BI k q o f) (hk : k ≤ 116) (name : ByteArray) : BI (k + 1) (mkV name q.1 q.2).1 o f := by
  have hv := vi_mk h.v hk name
  refine bi_step h hv ?_ ?_ <;> clear hv
  all_goals
    unfold mkV
    cases hok : okKey name with
    | false => first | exact h.tv | exact fun p => Nat.le_refl _
    | true =>
      cases hh : hasN q.2 name with
      | true => first | exact h.tv | exact fun p => Nat.le_refl _
      | false =>
        obtain ⟨hne, hsz⟩ := okKey_ne hok
        simp only [if_true, if_false, Bool.false_eq_true]
        first
        | refine ⟨tl_put h.tv.dir hne hsz (by decide), fun c hc => ?_⟩
          rw [List.append_assoc] at hc
          rcases List.mem_append.1 hc with hc | hc
          · exact h.tv.cell c (List.mem_of_mem_take hc)
          · rcases List.mem_append.1 hc with hc | hc
            · rw [List.mem_singleton] at hc; subst hc; exact ⟨em_root, laid_empty, pz_em⟩
            · exact h.tv.cell c (List.mem_of_mem_drop hc)
        | intro p
          have a := ct_put (key := name) (val := nwS) h.tv.dir hsz (by decide) p
          have b := congrArg (fun l => (alL l).count p) (List.take_append_drop (idxN q.2 name) q.2)
          simp only [alV, alL_app, List.count_append] at b ⊢
          have e : (alL [cellN name emN]).count p = 0 := by show List.count p [] = 0; simp
          omega
theorem bi_dr {k : Nat} {q o : N × List C} {f : Int} (h : BI k q o f) (hk : k ≤ 116) (name : ByteArray) : BI (k + 1) (drV name q.1 q.2).1 o f := by
  have hv := vi_dr h.v hk name
  refine bi_step h hv ?_ ?_ <;> clear hv
  all_goals
    unfold drV
    cases hh : hasN q.2 name with
    | false => first | exact h.tv | exact fun p => Nat.le_refl _
    | true =>
      simp only [if_true]
      first
      | refine ⟨tl_del h.tv.dir, fun c hc => ?_⟩
        rcases List.mem_append.1 hc with hc | hc
        · exact h.tv.cell c (List.mem_of_mem_take hc)
        · exact h.tv.cell c (List.mem_of_mem_drop hc)
      | intro p
        have a := ct_del (key := name) h.tv.dir p
        have b := congrArg (fun l => (alL l).count p) (List.take_append_drop (idxN q.2 name) q.2)
        have c : (alL (q.2.drop (idxN q.2 name + 1))).count p ≤ (alL (q.2.drop (idxN q.2 name))).count p := by
          rw [← List.drop_drop]
          have := congrArg (fun l => (alL l).count p) (List.take_append_drop 1 (q.2.drop (idxN q.2 name)))
          simp only [alL_app, List.count_append] at this
          omega
        simp only [alV, alL_app, List.count_append] at b ⊢
        omega
theorem bi_ch {k : Nat} {q o : N × List C} {f : Int} (h : BI k q o f) (hk : k ≤ 116) (name : ByteArray) (g : N → N × Int) (hg : ∀ t, TB k t → TB (k + 1) (g t).1) (ht : ∀ t, TL t → TL (g t).1) (hp : ∀ t, TL t → ∀ p, (alN (g t).1).count p ≤ (alN t).count p) : BI (k + 1) (chV name g q.1 q.2).1 o f := by
  have hv := vi_ch h.v hk name g hg
  refine bi_step h hv ?_ ?_ <;> clear hv
  all_goals
    unfold chV
    cases hh : hasN q.2 name with
    | false => first | exact h.tv | exact fun p => Nat.le_refl _
    | true =>
      obtain ⟨c, hc, hck⟩ := has_at hh
      have hm := List.mem_of_getElem? hc
      obtain ⟨hne, hsz⟩ := okKey_ne (h.v.cell c hm).2.2
      rw [hck] at hne hsz
      simp only [if_true, hc]
      split
      · first
        | refine ⟨tl_put h.tv.dir hne hsz (by decide), fun x hx => ?_⟩
          rcases List.mem_or_eq_of_mem_set hx with hx | rfl
          · exact h.tv.cell x hx
          · exact ht _ (h.tv.cell c hm)
        | intro p
          have a := ct_put (key := name) (val := nwS) h.tv.dir hsz (by decide) p
          have b := hp _ (h.tv.cell c hm) p
          obtain ⟨hlt, he⟩ := List.getElem?_eq_some_iff.1 hc
          have e1 : q.2.set (idxN q.2 name) (cellN c.key (g (kid0 c)).1) = q.2.take (idxN q.2 name) ++ cellN c.key (g (kid0 c)).1 :: q.2.drop (idxN q.2 name + 1) := List.set_eq_take_append_cons_drop.trans (if_pos hlt)
          have e2 : q.2 = q.2.take (idxN q.2 name) ++ c :: q.2.drop (idxN q.2 name + 1) := by
            rw [← he, ← List.drop_eq_getElem_cons hlt, List.take_append_drop]
          have e3 : ∀ (x : C) (A B : List C), (alL (A ++ x :: B)).count p = (alL A).count p + (alN (kid0 x)).count p + (alL B).count p := fun x A B => by
            unfold alL
            rw [List.flatMap_append, List.flatMap_cons, List.count_append, List.count_append]
            omega
          have e4 := congrArg (fun l => (alL l).count p) e2
          simp only [e3] at e4
          simp only [alV, List.count_append]
          rw [e1, e3, kid0_cell]
          omega
      · first | exact h.tv | exact fun p => Nat.le_refl _
theorem bi_pu {k : Nat} {q o : N × List C} {f : Int} (h : BI k q o f) (hk : k ≤ 116) (name key val : ByteArray) : BI (k + 1) (puV name key val q.1 q.2).1 o f := by
  unfold puV
  split
  · rename_i hc
    simp only [Bool.and_eq_true, decide_eq_true_eq] at hc
    obtain ⟨hne, hsz⟩ := okKey_ne hc.1
    exact bi_ch h hk name _ (fun t ht => tb_put ht hk hne hsz hc.2) (fun t ht => tl_put ht hne hsz hc.2) fun t ht p => ct_put ht hsz hc.2 p
  · exact bi_mono h (by omega)
theorem bi_de {k : Nat} {q o : N × List C} {f : Int} (h : BI k q o f) (hk : k ≤ 116) (name key : ByteArray) : BI (k + 1) (deV name key q.1 q.2).1 o f := by
  refine bi_ch h hk name _ (fun t ht => ?_) (fun t ht => ?_) fun t ht p => ?_
  · split
    · exact tb_del ht hk
    · exact tb_mono ht (by omega)
  · split
    · exact tl_del ht
    · exact ht
  · split
    · exact ct_del ht p
    · exact Nat.le_refl _
end Go.Proofs.YtfieabidajilmaaGreat

namespace Go.Proofs.YtfieabidajilmaaGreat
open Aml Go
set_option linter.unusedVariables false
set_option linter.unusedSimpArgs false
set_option maxRecDepth 100000
set_option maxHeartbeats 4000000 in
theorem lostEndN (w0 : W0) (b : Nat) (l : List Int) (p : Int) (S : St) (hb : lk S.box b = some [dL l]) (hl : Up l) (h0 : l.length ≤ 1073741824) : ACall Tryz.prog w0 69 [dI p, .v (.pointer (some ⟨b, 0, none⟩))] S (fun d S' => d = dB (decide (p ∈ l)) ∧ S' = S) := by
  refine fnS [] mx Tryz.func69 rfl rfl (by kernel_rfl) ?_; simp only [Tryz.ntmps69, List.length_cons, List.length_nil, Nat.reduceAdd, Nat.reduceSub, List.reduceReplicate, List.cons_append, List.nil_append]; (refine @goW _ ?_; refine goS2 @Tryz.ntmps69 @hb ?_)
  refine use1 (searchW w0 l p S hl h0) ?_
  (refine @goW _ ?_; exact goT)
set_option maxHeartbeats 4000000 in
theorem indexN (w0 : W0) (b m : Nat) (l zs : List Int) (S : St) (hb : lk S.box b = some [dL l]) (hm : lk S.acc m = some (.arr 1 (zs.map dI))) (hl : Up l) (h0 : l.length ≤ 1073741824) (h1 : zs.length ≤ 1073741824) :
    ACall Tryz.prog w0 108 [.acc m zs.length, .v (.func (.func 69) #[] #[.pointer (some ⟨b, 0, none⟩)])] S (fun d S' => d = dI (idxI l zs) ∧ S' = S) := by
  refine fnS [] mx Tryz.func108 rfl rfl (by kernel_rfl) ?_; (refine @goW _ ?_; refine goS3 @Tryz.ntmps108 @hb @hm ?_)
  refine loopN [] zs.length [0, 1, 7, 8] (fun k => [(8, dI k)]) (fun _ => S) (fun k => k ≤ zs.findIdx (hitI l)) mx (by kernel_rfl) ?_ ?_
  · (refine @goW _ ?_; refine goS ?_)
    exact Nat.zero_le _
  · intro k hk hinv
    (refine @goW _ ?_; refine goS2 @hb @hm ?_)
    refine ⟨fun hlt => ⟨hlt, hlt, fun a ha => use1 (lostEndN w0 b l a S hb hl h0) ?_⟩, fun hge => ?_⟩
    · have hak : zs[k] = a := (List.getElem?_eq_some_iff.1 ha).2
      (refine @goW _ ?_; refine goS ?_)
      refine ⟨fun hin => ?_, fun hni => ⟨hlt, ?_, by rw [w64 (by omega) (by omega)]; omega⟩⟩
      · have : ¬ k < zs.findIdx (hitI l) := fun h => by
          have := List.not_of_lt_findIdx h
          rw [hak] at this
          simp [hitI, hin] at this
        unfold idxI
        rw [if_pos (by omega)]; omega
      · rcases Nat.lt_or_ge k (zs.findIdx (hitI l)) with h | h
        · exact h
        · have he : zs.findIdx (hitI l) = k := by omega
          have := List.findIdx_getElem (xs := zs) (p := hitI l) (w := by omega)
          simp only [he, hak] at this
          simp [hitI, hni] at this
    · unfold idxI
      rw [if_neg (by omega)]
set_option maxHeartbeats 4000000 in
theorem deleteN (w0 : W0) (b : Nat) (l zs : List Int) (B : List (Nat × List DV)) (A : List (Nat × Ob)) (m : FN A) (hb : lk B b = some [dL l]) (hl : Up l) (h0 : l.length ≤ 1073741824) (h1 : zs.length ≤ 1073741824) :
    ACall Tryz.prog w0 68 [.acc m.n zs.length, .v (.func (.func 69) #[] #[.pointer (some ⟨b, 0, none⟩)])] ⟨B, (m.n, .arr 1 (zs.map dI)) :: A⟩ (fun d S' => ∃ m' : FN A, d = .acc m'.n (fltI l zs).length ∧ S' = ⟨B, (m'.n, .arr 1 ((fltI l zs).map dI)) :: A⟩) := by
  refine fnO [11] mx Tryz.func68 rfl rfl (by kernel_rfl) ?_; simp (maxDischargeDepth := 12) (maxSteps := 1000000) -implicitDefEqProofs only [Tryz.ntmps68, go_sem, Nat.reduceAdd, Nat.reduceSub, Nat.reduceMul, Nat.reduceLeDiff, Nat.reduceEqDiff, Nat.reduceGT, Nat.reduceBEq, reduceCtorEq, ↓reduceIte, Int.reduceToNat, Int.reduceLE, Int.reduceLT, Int.reduceNe, Int.reduceEq, hb]
  refine .inl (use1 (indexN w0 b m.n l zs _ (by simp (maxDischargeDepth := 12) (maxSteps := 1000000) -implicitDefEqProofs only [go_sem, Nat.reduceAdd, Nat.reduceSub, Nat.reduceMul, Nat.reduceLeDiff, Nat.reduceEqDiff, Nat.reduceGT, Nat.reduceBEq, reduceCtorEq, ↓reduceIte, Int.reduceToNat, Int.reduceLE, Int.reduceLT, Int.reduceNe, Int.reduceEq, hb]) (by simp (maxDischargeDepth := 12) (maxSteps := 1000000) -implicitDefEqProofs only [go_sem, Nat.reduceAdd, Nat.reduceSub, Nat.reduceMul, Nat.reduceLeDiff, Nat.reduceEqDiff, Nat.reduceGT, Nat.reduceBEq, reduceCtorEq, ↓reduceIte, Int.reduceToNat, Int.reduceLE, Int.reduceLT, Int.reduceNe, Int.reduceEq]) hl h0 h1) ?_)
  simp (maxDischargeDepth := 12) (maxSteps := 1000000) -implicitDefEqProofs only [go_sem, Nat.reduceAdd, Nat.reduceSub, Nat.reduceMul, Nat.reduceLeDiff, Nat.reduceEqDiff, Nat.reduceGT, Nat.reduceBEq, reduceCtorEq, ↓reduceIte, Int.reduceToNat, Int.reduceLE, Int.reduceLT, Int.reduceNe, Int.reduceEq, hb]
  refine ⟨fun hm1 => ?_, fun hm1 => ?_⟩
  · have hge : zs.length ≤ zs.findIdx (hitI l) := by
      unfold idxI at hm1
      split at hm1 <;> omega
    have hf : fltI l zs = zs := by
      refine List.filter_eq_self.2 fun a ha => ?_
      obtain ⟨x, hx⟩ := List.mem_iff_getElem?.1 ha
      have hlt := (List.getElem?_eq_some_iff.1 hx).1
      have := List.not_of_lt_findIdx (Nat.lt_of_lt_of_le hlt hge)
      rw [(List.getElem?_eq_some_iff.1 hx).2] at this
      simpa using this
    exact ⟨m, by rw [hf], by rw [hf]⟩
  · have hlt : zs.findIdx (hitI l) < zs.length := by
      unfold idxI at hm1
      split at hm1 <;> first | assumption | exact absurd rfl hm1
    generalize hi0 : zs.findIdx (hitI l) = i0 at hlt
    have hidx : idxI l zs = (i0 : Int) := by unfold idxI; rw [hi0, if_pos hlt]
    have htk : fltI l (zs.take (i0 + 1)) = zs.take i0 := by
      have hx : zs[i0]? = some zs[i0] := List.getElem?_eq_getElem hlt
      have hh := List.findIdx_getElem (xs := zs) (p := hitI l) (w := by omega)
      simp only [hi0] at hh
      rw [List.take_add_one, hx, Option.toList_some]
      unfold fltI
      rw [List.filter_append, List.filter_eq_self.2 fun a ha => ?_]
      · simp [hh]
      · obtain ⟨x, hx⟩ := List.mem_iff_getElem?.1 ha
        rw [List.getElem?_take] at hx
        split at hx
        · rename_i hxi
          have := List.not_of_lt_findIdx (p := hitI l) (xs := zs) (i := x) (by omega)
          rw [(List.getElem?_eq_some_iff.1 hx).2] at this
          simpa using this
        · cases hx
    rw [hidx]
    refine loopK [11] [0, 1, 5, 6] (fun s : Nat × Nat × List Int => [(5, dI s.1), (6, dI s.2.1)]) (fun s => ⟨B, (m.n, .arr 1 (s.2.2.map dI)) :: A⟩) (fun s => s.1 < s.2.1 ∧ s.2.1 ≤ zs.length ∧ s.2.2.length = zs.length ∧ s.2.2.take s.1 = fltI l (zs.take s.2.1) ∧ ∀ x, s.2.1 ≤ x → s.2.2[x]? = zs[x]?) (fun s => zs.length - s.2.1) (i0, i0 + 1, zs) mx (by kernel_rfl) ?_ ?_
    · simp (maxDischargeDepth := 12) (maxSteps := 1000000) -implicitDefEqProofs only [go_sem, Nat.reduceAdd, Nat.reduceSub, Nat.reduceMul, Nat.reduceLeDiff, Nat.reduceEqDiff, Nat.reduceGT, Nat.reduceBEq, reduceCtorEq, ↓reduceIte, Int.reduceToNat, Int.reduceLE, Int.reduceLT, Int.reduceNe, Int.reduceEq]
      exact ⟨⟨by omega, htk.symm⟩, by rw [w64 (by omega) (by omega)]; omega⟩
    · rintro ⟨i, j, xs⟩ ⟨k1, k2, k3, k4, k5⟩
      simp only at k1 k2 k3 k4 k5
      rw [← k3]
      simp (maxDischargeDepth := 12) (maxSteps := 1000000) -implicitDefEqProofs only [go_sem, Nat.reduceAdd, Nat.reduceSub, Nat.reduceMul, Nat.reduceLeDiff, Nat.reduceEqDiff, Nat.reduceGT, Nat.reduceBEq, reduceCtorEq, ↓reduceIte, Int.reduceToNat, Int.reduceLE, Int.reduceLT, Int.reduceNe, Int.reduceEq]
      refine ⟨fun hj => ⟨hj, hj, fun a ha => use1 (lostEndN w0 b l a _ (by simp (maxDischargeDepth := 12) (maxSteps := 1000000) -implicitDefEqProofs only [go_sem, Nat.reduceAdd, Nat.reduceSub, Nat.reduceMul, Nat.reduceLeDiff, Nat.reduceEqDiff, Nat.reduceGT, Nat.reduceBEq, reduceCtorEq, ↓reduceIte, Int.reduceToNat, Int.reduceLE, Int.reduceLT, Int.reduceNe, Int.reduceEq, hb]) hl h0) ?_⟩, fun hj => ?_⟩
      · have hzj : zs[j]? = some a := by rw [← k5 j (Nat.le_refl _)]; exact ha
        have hfj : fltI l (zs.take (j + 1)) = fltI l (zs.take j) ++ (if a ∈ l then [] else [a]) := by
          rw [List.take_add_one, hzj, Option.toList_some]
          unfold fltI
          rw [List.filter_append]
          congr 1
          by_cases h : a ∈ l <;> simp [hitI, h]
        have hset : (xs.map dI).set i (.v (.int .i64 a)) = (xs.set i a).map dI := (List.map_set (f := dI)).symm
        simp (maxDischargeDepth := 12) (maxSteps := 1000000) -implicitDefEqProofs only [go_sem, Nat.reduceAdd, Nat.reduceSub, Nat.reduceMul, Nat.reduceLeDiff, Nat.reduceEqDiff, Nat.reduceGT, Nat.reduceBEq, reduceCtorEq, ↓reduceIte, Int.reduceToNat, Int.reduceLE, Int.reduceLT, Int.reduceNe, Int.reduceEq, hb, hset]
        have hj' : IntKind.i64.wrap ((j : Int) + 1) = ((j + 1 : Nat) : Int) := by rw [w64 (by omega) (by omega)]; omega
        have hi' : IntKind.i64.wrap ((i : Int) + 1) = ((i + 1 : Nat) : Int) := by rw [w64 (by omega) (by omega)]; omega
        refine ⟨fun hni => ⟨by omega, by omega, fun _ _ => ⟨(i + 1, j + 1, xs.set i a), ⟨by simp only; omega, by simp only; omega, by simp, ?_, fun x hx => ?_⟩, by simp only; omega, ⟨hi', hj'⟩, .refl _⟩⟩, fun hin => ⟨(i, j + 1, xs), ⟨by simp only; omega, by simp only; omega, rfl, ?_, fun x hx => k5 x (by simp only at hx; omega)⟩, by simp only; omega, ⟨rfl, hj'⟩, .refl _⟩⟩
        · simp only
          rw [hfj, if_neg hni, ← k4, List.take_add_one, List.getElem?_set_self (by omega), List.take_set_of_le (Nat.le_refl _)]; rfl
        · simp only at hx ⊢
          rw [List.getElem?_set_ne (by omega)]
          exact k5 x (by omega)
        · simp only
          rw [hfj, if_pos (Decidable.not_not.1 hin), List.append_nil, k4]
      · have hjn : j = xs.length := by omega
        have hfin : xs.take i = fltI l zs := by rw [k4, hjn, k3, List.take_length]
        have hfl : (fltI l zs).length = i := by rw [← hfin, List.length_take]; omega
        refine clearR (l := m.n) (k := i) (xs := xs.map dI) ty.k69 ty.z3 (by simp [rc]) rfl (by simp (maxDischargeDepth := 12) (maxSteps := 1000000) -implicitDefEqProofs only [go_sem, Nat.reduceAdd, Nat.reduceSub, Nat.reduceMul, Nat.reduceLeDiff, Nat.reduceEqDiff, Nat.reduceGT, Nat.reduceBEq, reduceCtorEq, ↓reduceIte, Int.reduceToNat, Int.reduceLE, Int.reduceLT, Int.reduceNe, Int.reduceEq]) (by rw [List.length_map]; omega) rfl (by simp [rc]) (by simp [rc]) (by simp [rc]) fun v u => ?_
        simp (maxDischargeDepth := 12) (maxSteps := 1000000) -implicitDefEqProofs only [go_sem, Nat.reduceAdd, Nat.reduceSub, Nat.reduceMul, Nat.reduceLeDiff, Nat.reduceEqDiff, Nat.reduceGT, Nat.reduceBEq, reduceCtorEq, ↓reduceIte, Int.reduceToNat, Int.reduceLE, Int.reduceLT, Int.reduceNe, Int.reduceEq, hb, List.length_map]
        have hT : ((xs.take i).map dI ++ List.replicate (xs.length - i) (DV.v (.int .i64 0))).take i = (fltI l zs).map dI := by
          rw [List.take_append_of_le_length (by rw [List.length_map, List.length_take]; omega), List.take_of_length_le (by rw [List.length_map, List.length_take]; omega), hfin]
        refine .inl ⟨.inr (by omega), ⟨_, _, _, rfl⟩, by rw [List.length_replicate]; omega, fun m' => ⟨⟨m'.n, m'.h.2.2⟩, by rw [hfl]; rfl, ?_⟩⟩
        rw [hT]
        first | done | rfl
theorem has_consN {X T : St} (h : Has X T) {b : Nat} (hb : lk T.box b = none) (ds : List DV) {A : List (Nat × Ob)} (hA : A = T.acc) : Has X ⟨(b, ds) :: T.box, A⟩ := ⟨fun c x hc => by
  have := h.box c x hc
  simp only [lk]
  rw [if_neg (fun e => by rw [e, this] at hb; cases hb)]; exact this, by subst hA; exact h.acc⟩
theorem kp_consN {X T T' : St} (h : Kp X T T') {b : Nat} (hb : lk T'.box b = none) (ds : List DV) {A : List (Nat × Ob)} (hA : A = T'.acc) : Kp X T ⟨(b, ds) :: T'.box, A⟩ := ⟨fun c x hc hx => by
  have := h.box c x hc hx
  simp only [lk]
  rw [if_neg (fun e => by rw [e, this] at hb; cases hb)]; exact this, by subst hA; exact h.acc⟩
theorem up_none {L : List (Nat × List DV)} {b c : Nat} (v : List DV) (h : lk L c = none) : lk (up L b v) c = none := by
  rw [lk_up]; split <;> simp [h]
/-- How many pages trees take together. -/
def sumF (l : List N) : Nat := (l.map frT).sum
theorem sumF_snoc (l : List N) (x : N) : sumF (l ++ [x]) = sumF l + frT x := by simp [sumF]
theorem sumF_pre {l m : List N} (h : l <+: m) : sumF l ≤ sumF m := by
  obtain ⟨t, rfl⟩ := h
  simp [sumF]
theorem sumF_tre (n : N) (l : List C) : sumF (treL n l) = frV (n, l) := by
  unfold sumF treL frV frL
  simp [List.map_map, Function.comp_def]
theorem tre_fine {k : Nat} {n : N} {l : List C} (h : VI k n l) (hk : k ≤ 116) : ∀ x, x ∈ treL n l → Fine x ∧ frT x ≤ 70000 ∧ (pgsT x).length ≤ 70000 := fun x hx => by
  have hx : TB k x := by
    unfold treL at hx
    rcases List.mem_cons.1 hx with rfl | hx
    · exact h.dir
    · obtain ⟨c, hc, rfl⟩ := List.mem_map.1 hx
      exact (h.cell c hc).2.1
  obtain ⟨hr, d, hg, hd, ht⟩ := hx
  have h1 := frT_le (good_nd hg)
  have h2 := pgS_le noB (good_nd hg)
  exact ⟨⟨d, good_nd hg, by omega⟩, by omega, by unfold pgsT; rw [srt_length]; omega⟩
theorem sumF_le : ∀ {l : List N}, (∀ x, x ∈ l → frT x ≤ 70000) → sumF l ≤ 70000 * l.length := fun {l} => by
  induction l with
  | nil => intro _; exact Nat.zero_le _
  | cons c l ih =>
    intro h
    have h1 := ih fun c hc => h c (List.mem_cons_of_mem _ hc)
    have h2 := h c List.mem_cons_self
    unfold sumF at h1 ⊢
    rw [List.map_cons, List.sum_cons, List.length_cons]; omega
theorem flatP_len : ∀ {l : List N}, (∀ x, x ∈ l → (pgsT x).length ≤ 70000) → (flat (l.map pgsT)).length ≤ 70000 * l.length := fun {l} => by
  induction l with
  | nil => intro _; exact Nat.zero_le _
  | cons c l ih =>
    intro h
    have h1 := ih fun c hc => h c (List.mem_cons_of_mem _ hc)
    have h2 := h c List.mem_cons_self
    unfold flat at h1 ⊢
    rw [List.map_cons, List.flatten_cons, List.length_append, List.length_cons]; omega
theorem tre_len (n : N) (l : List C) : (treL n l).length = l.length + 1 := by unfold treL; rw [List.length_cons, List.length_map]
set_option maxHeartbeats 8000000 in
theorem needFreshW (w0 : W0) (k : Nat) (n : N) (l : List C) (S : St) (h : VI k n l) (hk : k ≤ 116) : ACall Tryz.prog w0 30 [eV n l] S (fun d S' => d = dI (frV (n, l)) ∧ S' = S) := by
  have hln := h.len
  have htf := tre_fine h hk
  have hsl := sumF_le (l := treL n l) fun x hx => (htf x hx).2.1
  rw [tre_len] at hsl
  have htre := treesW w0 n l
  have hit := fun w1 y b2 X => iterT w1 y b2 n l X (by omega)
  rw [← sumF_tre]
  refine fnS [] mx Tryz.func30 rfl rfl (by kernel_rfl) ?_; (refine @goW _ ?_; refine goS1 @Tryz.ntmps30 ?_)
  intro b b1
  refine useK (htre _) ?_
  rintro d S' ⟨b3, rfl, rfl⟩
  generalize treL n l = V at *
  generalize rowV n l = R at *
  (refine @goW _ ?_; refine goS ?_)
  refine rangeK [] (fun pre => ⟨(b3.n, R) :: (b1.n, [dI (sumF pre)]) :: (b.n, [dI n.page, dB n.leaf, .sl 1 false (n.l.map fun c => dS c.key), .sl 2 false ((if n.leaf then n.l else []).map dV2), .sl 5 false ((kidsOf n).map dT), .sl 6 false (l.map dBk)]) :: S.box, S.acc⟩) (fun x => [eT x]) V mx (by kernel_rfl) rfl rfl rfl (fun _ => rfl) (fun _ => rfl) (fun _ => rfl) ?_ ?_ ?_
  · intro y w1 hy T hT
    exact hit w1 y b3.n _ (fun _ => by (refine @goW _ ?_; exact goT)) hy T hT
  · intro pre x T hp hT
    have t1 : lk T.box b1.n = some [dI (sumF pre)] := hT.box _ _ (by (refine @goW _ ?_; exact goT))
    have hxV : x ∈ V := by obtain ⟨t, ht⟩ := hp; rw [← ht]; simp
    have hfr := sumF_snoc pre x
    have hfp := sumF_pre hp
    obtain ⟨hfx, hf1, _⟩ := htf x hxV
    have hH : ∀ v, v = (sumF (pre ++ [x]) : Int) → Has _ ⟨up T.box b1.n [dI v], T.acc⟩ := fun v hv => by rw [hv]; exact Has_upd hT _
    have hu : ∀ v : Int, up ((b3.n, R) :: (b1.n, [dI (sumF pre)]) :: (b.n, [dI n.page, dB n.leaf, .sl 1 false (n.l.map fun c => dS c.key), .sl 2 false ((if n.leaf then n.l else []).map dV2), .sl 5 false ((kidsOf n).map dT), .sl 6 false (l.map dBk)]) :: S.box) b1.n [dI v] = (b3.n, R) :: (b1.n, [dI v]) :: (b.n, [dI n.page, dB n.leaf, .sl 1 false (n.l.map fun c => dS c.key), .sl 2 false ((if n.leaf then n.l else []).map dV2), .sl 5 false ((kidsOf n).map dT), .sl 6 false (l.map dBk)]) :: S.box := fun v => by (refine @goW _ ?_; exact goT)
    have hK : ∀ v, Kp ⟨(b3.n, R) :: (b1.n, [dI (sumF pre)]) :: (b.n, [dI n.page, dB n.leaf, .sl 1 false (n.l.map fun c => dS c.key), .sl 2 false ((if n.leaf then n.l else []).map dV2), .sl 5 false ((kidsOf n).map dT), .sl 6 false (l.map dBk)]) :: S.box, S.acc⟩ T ⟨up T.box b1.n v, T.acc⟩ := fun v => Kp.up (by (refine @goW _ ?_; exact goT))
    simp only [hu] at hH
    simp only [setPs]
    (refine @goW _ ?_; refine goS1 @t1 ?_)
    intro b5
    have hb5 : ¬ b5.n = b1.n := fun e => by have := fn_lk b5; rw [e, t1] at this; cases this
    refine useQ (freshQ w0 x _ hfx) ?_
    (refine @goW _ ?_; refine goS2 @t1 @hb5 ?_)
    exact ⟨has_consN (hH _ (by rw [w64 (by omega) (by omega)]; omega)) (up_none _ (fn_lk b5)) _ rfl, kp_consN (hK _) (up_none _ (fn_lk b5)) _ rfl⟩
  · (refine @goW _ ?_; exact goT)
/-- The pages of trees, tree by tree. -/
def pgsV (n : N) (l : List C) : List Int := srt (flat ((treL n l).map pgsT))
set_option maxHeartbeats 1000000 in
theorem togetherN (w0 : W0) (rows : List (List Int)) (S : St) (h0 : rows.length ≤ 1099511627776) (h1 : (flat rows).length ≤ 1099511627776) :
    ACall Tryz.prog w0 72 [.sl 1 false (rows.map dL)] S (fun d S' => ∃ m : FN S.acc, d = .acc m.n (flat rows).length ∧ S' = ⟨S.box, (m.n, .arr 1 ((srt (flat rows)).map dI)) :: S.acc⟩) := by
  refine fnP [] mx Tryz.func72 rfl rfl (by kernel_rfl) ?_; (refine @goW _ ?_; refine goS1 @Tryz.ntmps72 ?_)
  refine useK (concat w0 rows S h0 h1) ?_
  rintro d S' ⟨l, rfl, rfl⟩
  (refine @goW _ ?_; refine goS ?_)
  refine .inl (useK (sort_int w0 (l := l.n) (zs := flat rows) (S := ⟨S.box, (l.n, .arr 1 ((flat rows).map dI)) :: S.acc⟩) (by simp [lk]) (by omega)) ?_)
  rintro d S' ⟨rfl, rfl⟩
  (refine @goW _ ?_; refine goS ?_)
  exact ⟨_, _, .refl _, .refl _, l, rfl, rfl⟩
set_option maxHeartbeats 8000000 in
theorem needPagesW (w0 : W0) (k : Nat) (n : N) (l : List C) (S : St) (h : VI k n l) (hk : k ≤ 116) : ACall Tryz.prog w0 32 [eV n l] S (fun d S' => ∃ m : FN S.acc, d = .acc m.n (flat ((treL n l).map pgsT)).length ∧ S' = ⟨S.box, (m.n, .arr 1 ((pgsV n l).map dI)) :: S.acc⟩) := by
  have hln := h.len
  have htf := tre_fine h hk
  have hfl := flatP_len (l := treL n l) fun x hx => (htf x hx).2.2
  have hVl := tre_len n l
  rw [hVl] at hfl
  have htre := treesW w0 n l
  have hit := fun w1 y b2 X => iterT w1 y b2 n l X (by omega)
  have htg := fun S => togetherN w0 ((treL n l).map pgsT) S (by rw [List.length_map, hVl]; omega) (by omega)
  unfold pgsV
  refine fnP [] mx Tryz.func32 rfl rfl (by kernel_rfl) ?_; (refine @goW _ ?_; refine goS1 @Tryz.ntmps32 ?_)
  intro b b1
  refine useK (htre _) ?_
  rintro d S' ⟨b3, rfl, rfl⟩
  generalize treL n l = V at *
  generalize rowV n l = R at *
  (refine @goW _ ?_; refine goS ?_)
  refine awp_growB b1.n 0 1 (by omega) (ds := [.sl 0 true []]) (by (refine @goW _ ?_; exact goT)) rfl fun lb => ?_
  (refine @goW _ ?_; refine goS ?_)
  refine rangeK [] (fun pre => ⟨(b3.n, R) :: (b1.n, [.acc lb.n pre.length]) :: (b.n, [dI n.page, dB n.leaf, .sl 1 false (n.l.map fun c => dS c.key), .sl 2 false ((if n.leaf then n.l else []).map dV2), .sl 5 false ((kidsOf n).map dT), .sl 6 false (l.map dBk)]) :: S.box, (lb.n, .arr 1 ((pre.map pgsT).map dL)) :: S.acc⟩) (fun x => [eT x]) V mx (by kernel_rfl) rfl rfl rfl (fun _ => rfl) (fun _ => rfl) (fun _ => rfl) ?_ ?_ ?_
  · intro y w1 hy T hT
    exact hit w1 y b3.n _ (fun _ => by (refine @goW _ ?_; exact goT)) hy T hT
  · intro pre x T hp hT
    have t1 : lk T.box b1.n = some [.acc lb.n pre.length] := hT.box _ _ (by (refine @goW _ ?_; exact goT))
    have u1 : lk T.acc lb.n = some (.arr 1 ((pre.map pgsT).map dL)) := hT.acc _ _ (by (refine @goW _ ?_; exact goT))
    have hxV : x ∈ V := by obtain ⟨t, ht⟩ := hp; rw [← ht]; simp
    have hpl := hp.length_le
    rw [List.length_append] at hpl
    obtain ⟨hfx, _, hf1⟩ := htf x hxV
    have hH : ∀ q : List N, q = pre ++ [x] → Has _ ⟨up T.box b1.n [.acc lb.n q.length], up T.acc lb.n (.arr 1 ((q.map pgsT).map dL))⟩ := fun v hv => by rw [hv]; exact Has_upd2 hT _ _
    have hu : ∀ (q : List N), (⟨up ((b3.n, R) :: (b1.n, [.acc lb.n pre.length]) :: (b.n, [dI n.page, dB n.leaf, .sl 1 false (n.l.map fun c => dS c.key), .sl 2 false ((if n.leaf then n.l else []).map dV2), .sl 5 false ((kidsOf n).map dT), .sl 6 false (l.map dBk)]) :: S.box) b1.n [.acc lb.n q.length], up ((lb.n, .arr 1 ((pre.map pgsT).map dL)) :: S.acc) lb.n (.arr 1 ((q.map pgsT).map dL))⟩ : St) = ⟨(b3.n, R) :: (b1.n, [.acc lb.n q.length]) :: (b.n, [dI n.page, dB n.leaf, .sl 1 false (n.l.map fun c => dS c.key), .sl 2 false ((if n.leaf then n.l else []).map dV2), .sl 5 false ((kidsOf n).map dT), .sl 6 false (l.map dBk)]) :: S.box, (lb.n, .arr 1 ((q.map pgsT).map dL)) :: S.acc⟩ := fun v => by (refine @goW _ ?_; exact goT)
    have hK : ∀ v o, Kp ⟨(b3.n, R) :: (b1.n, [.acc lb.n pre.length]) :: (b.n, [dI n.page, dB n.leaf, .sl 1 false (n.l.map fun c => dS c.key), .sl 2 false ((if n.leaf then n.l else []).map dV2), .sl 5 false ((kidsOf n).map dT), .sl 6 false (l.map dBk)]) :: S.box, (lb.n, .arr 1 ((pre.map pgsT).map dL)) :: S.acc⟩ T ⟨up T.box b1.n v, up T.acc lb.n o⟩ := fun v o => Kp_up2 (by (refine @goW _ ?_; exact goT)) (by (refine @goW _ ?_; exact goT))
    simp only [hu] at hH
    simp only [setPs]
    (refine @goW _ ?_; refine goS2 @t1 @u1 ?_)
    intro b5
    have hb5 : ¬ b5.n = b1.n := fun e => by have := fn_lk b5; rw [e, t1] at this; cases this
    have hm8 : maxLen = 9223372036854775807 := rfl
    refine useQ (pagesQ w0 x _ hfx) ?_
    (refine @goW _ ?_; refine goS3 @t1 @u1 @hb5 ?_)
    have hQ := hH (pre ++ [x]) rfl
    rw [List.length_append, List.length_cons, List.length_nil, List.map_append, List.map_append, List.map_cons, List.map_nil, List.map_cons, List.map_nil] at hQ
    refine ⟨by omega, by omega, ?_, kp_consN (hK _ _) (up_none _ (fn_lk b5)) _ rfl⟩
    rw [List.map_append, List.map_append, List.map_cons, List.map_nil, List.map_cons, List.map_nil]
    exact has_consN hQ (up_none _ (fn_lk b5)) _ rfl
  · (refine @goW _ ?_; refine goS ?_)
    refine .inr (useK (htg _) ?_ ⟨.full _ _ _, trivial⟩)
    rintro d S' ⟨m, rfl, rfl⟩
    (refine @goW _ ?_; refine goS ?_)
    exact ⟨_, _, .refl _, .consB (.consB (.consB (.bothA (.consA (.refl _))))), ⟨m.n, m.h.2.2⟩, rfl, rfl⟩
end Go.Proofs.YtfieabidajilmaaGreat

namespace Go.Proofs.YtfieabidajilmaaGreat
open Aml Go
set_option linter.unusedVariables false
set_option linter.unusedSimpArgs false
set_option maxRecDepth 100000
theorem pgsV_len {k : Nat} {n : N} {l : List C} (h : VI k n l) (hk : k ≤ 116) : (pgsV n l).length = (flat ((treL n l).map pgsT)).length ∧ (pgsV n l).length ≤ 70000 * 117 := by
  have hln := h.len
  have hfl := flatP_len (l := treL n l) fun x hx => (tre_fine h hk x hx).2.2
  rw [tre_len] at hfl
  have := srt_length (flat ((treL n l).map pgsT))
  unfold pgsV
  exact ⟨this, by omega⟩
theorem pgsV_up (n : N) (l : List C) : Up (pgsV n l) := srt_Up _
set_option maxHeartbeats 8000000 in
theorem needLostW (w0 : W0) (k : Nat) (n : N) (l : List C) (m : N) (q : List C) (S : St) (ha : VI k n l) (hb : VI k m q) (hk : k ≤ 116) : ACall Tryz.prog w0 31 [eV n l, eV m q] S (fun d S' => d = dL (fltI (pgsV m q) (pgsV n l)) ∧ S' = S) := by
  have hpa := fun S => needPagesW w0 k n l S ha hk
  have hpb := fun S => needPagesW w0 k m q S hb hk
  obtain ⟨la, la2⟩ := pgsV_len ha hk
  obtain ⟨lb, lb2⟩ := pgsV_len hb hk
  rw [← la] at hpa
  rw [← lb] at hpb
  have hub := pgsV_up m q
  generalize pgsV n l = A at *
  generalize pgsV m q = B at *
  refine fnS [2] mx Tryz.func31 rfl rfl (by kernel_rfl) ?_; (refine @goW _ ?_; refine goS1 @Tryz.ntmps31 ?_)
  intro b1 b2
  refine useK (hpb _) ?_
  rintro d S' ⟨m, rfl, rfl⟩
  (refine @goW _ ?_; refine goS ?_)
  intro b3
  refine shrB b3.n 0 (l := m.n) (s := 1) (xs := B.map dI) (ds := [.acc m.n B.length]) (by (refine @goW _ ?_; exact goT)) (by simp) (by (refine @goW _ ?_; exact goT)) ?_
  (refine @goW _ ?_; refine goS ?_)
  refine shrK [] [] mx (by kernel_rfl) ?_
  (refine @goW _ ?_; refine goS ?_)
  refine useK (hpa _) ?_
  rintro d S' ⟨m2, rfl, rfl⟩
  (refine @goW _ ?_; refine goS ?_)
  refine .inl (useK (deleteN w0 b3.n B A _ _ m2 (by (refine @goW _ ?_; exact goT)) hub (by omega) (by omega)) ?_)
  rintro d S' ⟨m3, rfl, rfl⟩
  (refine @goW _ ?_; exact goT)
/-- How many pages a list takes of its own, if some are free, and others wait. -/
def ownB (f w k : Nat) : Bool := decide ((f - k + w + 58) / 59 ≤ k)
def ownN (f w : Nat) : Nat := (List.range (f + w + 1)).findIdx (ownB f w)
theorem own_all (f w : Nat) : ownB f w (f + w) = true := by unfold ownB; simp; omega
theorem own_lt (f w : Nat) : ownN f w < f + w + 1 := by
  have := List.findIdx_lt_length_of_exists (xs := List.range (f + w + 1)) (p := ownB f w) ⟨f + w, List.mem_range.2 (by omega), own_all f w⟩
  rwa [List.length_range] at this
theorem own_is (f w : Nat) : ownB f w (ownN f w) = true := by
  have h := own_lt f w
  have := List.findIdx_getElem (xs := List.range (f + w + 1)) (p := ownB f w) (w := by rw [List.length_range]; exact h)
  rwa [List.getElem_range] at this
theorem own_no {f w k : Nat} (h : k < ownN f w) : ownB f w k = false := by
  have h2 := own_lt f w
  have := List.not_of_lt_findIdx (xs := List.range (f + w + 1)) (p := ownB f w) h
  rw [List.getElem_range] at this
  simpa using this
theorem own_le {f w k : Nat} (h : ownB f w k = true) : ownN f w ≤ k := by
  rcases Nat.lt_or_ge k (ownN f w) with h1 | h1
  · rw [own_no h1] at h; cases h
  · exact h1
theorem own_wait (f w : Nat) : ownN f w ≤ ownN f (w + 1) ∧ ownN f (w + 1) ≤ ownN f w + 1 := by
  have h1 := own_is f w
  have h2 := own_is f (w + 1)
  unfold ownB at h1 h2
  rw [decide_eq_true_eq] at h1 h2
  exact ⟨own_le (by unfold ownB; rw [decide_eq_true_eq]; omega), own_le (by unfold ownB; rw [decide_eq_true_eq]; omega)⟩
theorem own_free (f w : Nat) : ownN f w ≤ ownN (f + 1) w ∧ ownN (f + 1) w ≤ ownN f w + 1 := by
  have h1 := own_is f w
  have h2 := own_is (f + 1) w
  unfold ownB at h1 h2
  rw [decide_eq_true_eq] at h1 h2
  exact ⟨own_le (by unfold ownB; rw [decide_eq_true_eq]; omega), own_le (by unfold ownB; rw [decide_eq_true_eq]; omega)⟩
set_option maxHeartbeats 1000000 in
theorem listNeedW (w0 : W0) (n : Nat) (S : St) (h : n ≤ 1099511627776) : ACall Tryz.prog w0 114 [dI n] S (fun d S' => d = dI ((n + 58) / 59 : Nat) ∧ S' = S) := by
  refine fnS [] mx Tryz.func114 rfl rfl (by kernel_rfl) ?_; (refine @goW _ ?_; refine goS1 @Tryz.ntmps114 ?_)
  refine ⟨fun h1 => by omega, fun h1 => ?_⟩
  have e1 : IntKind.i64.wrap ((n : Int) - 1) = ((n - 1 : Nat) : Int) := by rw [w64 (by omega) (by omega)]; omega
  have e2 : ((n - 1 : Nat) : Int).tdiv 59 = ((n - 1) / 59 : Nat) := rfl
  have e3 : IntKind.i64.wrap (((n - 1) / 59 : Nat) : Int) = (((n - 1) / 59 : Nat) : Int) := w64 (by omega) (by omega)
  rw [e1, e2, e3, w64 (by omega) (by omega)]
  omega
set_option maxHeartbeats 4000000 in
theorem listOwnW (w0 : W0) (a b : Int) (S : St) (h1 : -1099511627776 ≤ a) (h2 : a ≤ 274877906944) (h3 : -1099511627776 ≤ b) (h4 : b ≤ 274877906944) : ACall Tryz.prog w0 73 [dI a, dI b] S (fun d S' => d = dI (ownN a.toNat b.toNat) ∧ S' = S) := by
  have e1 : (if a < 0 then 0 else a) = (a.toNat : Int) := by split <;> omega
  have e2 : (if b < 0 then 0 else b) = (b.toNat : Int) := by split <;> omega
  have hN := fun n h S => listNeedW w0 n S h
  have hl := own_lt a.toNat b.toNat
  have his := own_is a.toNat b.toNat
  have hno := fun k => own_no (f := a.toNat) (w := b.toNat) (k := k)
  have hle := fun k => own_le (f := a.toNat) (w := b.toNat) (k := k)
  have ha : a.toNat ≤ 274877906944 := by omega
  have hb : b.toNat ≤ 274877906944 := by omega
  refine fnS [] mx Tryz.func73 rfl rfl (by kernel_rfl) ?_; (refine @goW _ ?_; refine goS3 @Tryz.ntmps73 @e1 @e2 ?_)
  generalize ownN a.toNat b.toNat = o at *
  generalize a.toNat = f at *
  generalize b.toNat = w at *
  refine loopK [] [0, 1, 5] (fun k : Nat => [(0, dI f), (1, dI w), (5, dI k)]) (fun _ => S) (fun k => k ≤ o) (fun k => f + w + 1 - k) 0 mx (by kernel_rfl) ?_ ?_
  · (refine @goW _ ?_; refine goS ?_)
    exact Nat.zero_le _
  · intro k hk
    have e3 : IntKind.i64.wrap ((f : Int) - k) = (f : Int) - k := w64 (by omega) (by omega)
    have e4 : (if (f : Int) - k < 0 then 0 else (f : Int) - k) = ((f - k : Nat) : Int) := by split <;> omega
    have e5 : IntKind.i64.wrap (((f - k : Nat) : Int) + w) = ((f - k + w : Nat) : Int) := by rw [w64 (by omega) (by omega)]; omega
    (refine @goW _ ?_; refine goS3 @e3 @e4 @e5 ?_)
    refine use1 (hN (f - k + w) (by omega) _) ?_
    (refine @goW _ ?_; refine goS ?_)
    refine ⟨fun hy => ?_, fun hn => ?_⟩
    · have := hle k (by unfold ownB; rw [decide_eq_true_eq]; omega)
      omega
    · refine ⟨k + 1, ?_, by omega, i_oneV k (by omega)⟩
      rcases Nat.lt_or_ge k o with h5 | h5
      · exact h5
      · have : k = o := by omega
        subst this
        unfold ownB at his
        rw [decide_eq_true_eq] at his
        omega
end Go.Proofs.YtfieabidajilmaaGreat

namespace Go.Proofs.YtfieabidajilmaaGreat
open Aml Go
set_option linter.unusedVariables false
set_option linter.unusedSimpArgs false
set_option maxRecDepth 100000
/-- How many pages a commit takes. -/
def needV (q : N × List C) (p : Pl) (b : Nat) : Nat := frV q + ownN (p.free.length - frV q) (nW p.wait + b)
theorem frV_le {k : Nat} {n : N} {l : List C} (h : VI k n l) (hk : k ≤ 116) : frV (n, l) ≤ 70000 * 117 := by
  have hln := h.len
  have hsl := sumF_le (l := treL n l) fun x hx => (tre_fine h hk x hx).2.1
  rw [tre_len, sumF_tre] at hsl
  omega
set_option maxHeartbeats 4000000 in
theorem needNeedW (w0 : W0) (k : Nat) (n : N) (l : List C) (p : Pl) (c : Nat) (S : St) (h : VI k n l) (hk : k ≤ 116) (hf : p.free.length ≤ 500000) (hw : p.wait.length ≤ 500000) (hn : nW p.wait + c ≤ 100000000) : ACall Tryz.prog w0 33 [eV n l, dP p, dI c] S (fun d S' => d = dI (needV (n, l) p c) ∧ S' = S) := by
  have hfr := fun S => needFreshW w0 k n l S h hk
  have hwt := fun S => waiting w0 p S (by omega) (by omega)
  have hfl := frV_le h hk
  have hol := own_lt (p.free.length - frV (n, l)) (nW p.wait + c)
  have how := fun S => listOwnW w0 ((p.free.length : Int) - frV (n, l)) ((nW p.wait + c : Nat) : Int) S (by omega) (by omega) (by omega) (by omega)
  have e1 : ((p.free.length : Int) - frV (n, l)).toNat = p.free.length - frV (n, l) := by omega
  rw [e1, Int.toNat_natCast] at how
  have hdef : needV (n, l) p c = frV (n, l) + ownN (p.free.length - frV (n, l)) (nW p.wait + c) := rfl
  rw [hdef]
  generalize frV (n, l) = F at *
  have e2 : IntKind.i64.wrap ((p.free.length : Int) - F) = (p.free.length : Int) - F := w64 (by omega) (by omega)
  have e3 : IntKind.i64.wrap ((nW p.wait : Int) + c) = ((nW p.wait + c : Nat) : Int) := by rw [w64 (by omega) (by omega)]; omega
  refine fnS [] mx Tryz.func33 rfl rfl (by kernel_rfl) ?_; (refine @goW _ ?_; refine goS1 @Tryz.ntmps33 ?_)
  intro b1 b2
  refine use1 (hfr _) ?_
  (refine @goW _ ?_; refine goS ?_)
  refine useQ (hwt _) ?_
  (refine @goW _ ?_; refine goS2 @e2 @e3 ?_)
  refine useQ (how _) ?_
  (refine @goW _ ?_; refine goS ?_)
  rw [w64 (by omega) (by omega)]; omega
set_option maxHeartbeats 4000000 in
theorem needFitsW (w0 : W0) (k : Nat) (m : N) (q : List C) (n : N) (l : List C) (o : List Int) (p : Pl) (t : Int) (S : St) (h0 : VI k m q) (h : VI k n l) (hk : k ≤ 116) (hf : p.free.length ≤ 500000) (hw : p.wait.length ≤ 500000) (hn : nW p.wait + ((fltI (pgsV n l) (pgsV m q)).length + o.length) ≤ 100000000)
    (h1 : -1099511627776 ≤ p.high) (h2 : p.high ≤ 1099511627776) (h3 : -1099511627776 ≤ t) (h4 : t ≤ 1099511627776) : ACall Tryz.prog w0 34 [eV m q, eV n l, dL o, dP p, dI t] S (fun d S' => d = dB (decide ((needV (n, l) p ((fltI (pgsV n l) (pgsV m q)).length + o.length) : Int) ≤ roomZ p t)) ∧ S' = S) := by
  have hlo := fun S => needLostW w0 k m q n l S h0 h hk
  have hne := fun S => needNeedW w0 k n l p ((fltI (pgsV n l) (pgsV m q)).length + o.length) S h hk hf hw hn
  have hro := fun S => room w0 p t S (by omega) h1 h2 h3 h4
  generalize fltI (pgsV n l) (pgsV m q) = L at *
  generalize needV (n, l) p (L.length + o.length) = Z at *
  have e3 : IntKind.i64.wrap ((L.length : Int) + o.length) = ((L.length + o.length : Nat) : Int) := by rw [w64 (by omega) (by omega)]; omega
  refine fnS [] mx Tryz.func34 rfl rfl (by kernel_rfl) ?_; (refine @goW _ ?_; refine goS1 @Tryz.ntmps34 ?_)
  intro b1 b2 b3
  refine useQ (hlo _) ?_
  (refine @goW _ ?_; refine goS1 @e3 ?_)
  refine useQ (hne _) ?_
  (refine @goW _ ?_; refine goS ?_)
  refine useQ (hro _) ?_
  (refine @goW _ ?_; exact goT)
theorem needPagesQ (w0 : W0) (k : Nat) (n : N) (l : List C) (S : St) (h : VI k n l) (hk : k ≤ 116) : ACall Tryz.prog w0 32 [eV n l] S (fun d S' => d = dL (pgsV n l) ∧ S' = S) := by
  have hl := (pgsV_len h hk).1
  refine acall_q ((needPagesW w0 k n l S h hk).mono (K' := fun d S' => shrT S' d fun d S'' => Wk d (dL (pgsV n l)) ∧ Aml.Sub S S'') ?_)
  rw [← hl]
  generalize pgsV n l = P
  rintro d S' ⟨m, rfl, rfl⟩
  (refine @goW _ ?_; exact goT)
/-- The example's views. -/
def kB : ByteArray := { data := #[98] }
def kK : ByteArray := { data := #[107] }
def kV : ByteArray := { data := #[118] }
theorem ex_e : (puV kB kK kV (mkV kB emN []).1.1 (mkV kB emN []).1.2).2 = 0 := by kernel_rfl
theorem ex_f : frV (puV kB kK kV (mkV kB emN []).1.1 (mkV kB emN []).1.2).1 = 2 := by kernel_rfl
theorem ex_n0 : ownN 0 0 = 0 := by kernel_rfl
theorem ex_n1 : ownN 0 1 = 1 := by kernel_rfl
theorem pgsV_nil {n : N} {l : List C} (h : ((treL n l).flatMap fun n => pgS (visN noB n)) = []) : pgsV n l = [] := by
  have h2 : (flat ((treL n l).map pgsT)).length = 0 := by
    unfold flat
    rw [List.length_flatten, List.map_map]
    have : ∀ V : List N, (V.flatMap fun n => pgS (visN noB n)) = [] → (V.map (List.length ∘ pgsT)).sum = 0 := fun V => by
      induction V with
      | nil => intro _; rfl
      | cons a V ih =>
        intro h
        rw [List.flatMap_cons, List.append_eq_nil_iff] at h
        rw [List.map_cons, List.sum_cons, ih h.2]
        show (pgsT a).length + 0 = 0
        unfold pgsT
        rw [srt_length, h.1]; rfl
    exact this _ h
  unfold pgsV
  exact List.eq_nil_of_length_eq_zero (by rw [srt_length]; exact h2)
theorem ex_p : pgsV (puV kB kK kV (mkV kB emN []).1.1 (mkV kB emN []).1.2).1.1 (puV kB kK kV (mkV kB emN []).1.1 (mkV kB emN []).1.2).1.2 = [] := pgsV_nil (by kernel_rfl)
theorem ex_q : pgsV emN [] = [] := pgsV_nil (by kernel_rfl)
set_option maxHeartbeats 8000000 in
theorem awake22 (w0 : W0) (S : St) : ACall Tryz.prog w0 27 [] S (fun d S' => d = dB true ∧ S' = S) := by
  have v0 := vi_em 0
  have v1 := vi_mk v0 (by omega) kB
  have v2 := vi_pu v1 (by omega) kB kK kV
  have w1 := fun S => makeV w0 0 kB emN [] S v0 (by omega)
  have w2 := fun S => putV w0 1 kB kK kV (mkV kB emN []).1.1 (mkV kB emN []).1.2 S v1 (by omega)
  have he := ex_e
  have hf := ex_f
  have hp := ex_p
  generalize puV kB kK kV (mkV kB emN []).1.1 (mkV kB emN []).1.2 = Q at *
  generalize mkV kB emN [] = R at *
  have hn : ∀ c, needV (Q.1.1, Q.1.2) ⟨2, [], []⟩ c = 2 + ownN 0 c := fun c => by
    have e : frV (Q.1.1, Q.1.2) = 2 := hf
    unfold needV
    rw [e]
    have : nW ([] : List Wt) + c = c := Nat.zero_add c
    rw [this]; rfl
  have wf := fun S => needFreshW w0 2 Q.1.1 Q.1.2 S v2 (by omega)
  rw [show frV (Q.1.1, Q.1.2) = 2 from hf] at wf
  have n0 := fun S => needNeedW w0 2 Q.1.1 Q.1.2 ⟨2, [], []⟩ 0 S v2 (by omega) (by simp) (by simp) (by decide)
  have n1 := fun S => needNeedW w0 2 Q.1.1 Q.1.2 ⟨2, [], []⟩ 1 S v2 (by omega) (by simp) (by simp) (by decide)
  rw [hn, ex_n0] at n0
  rw [hn, ex_n1] at n1
  rw [show (((2 + 0 : Nat) : Int)) = 2 from rfl, show (((0 : Nat) : Int)) = 0 from rfl] at n0
  rw [show (((2 + 1 : Nat) : Int)) = 3 from rfl, show (((1 : Nat) : Int)) = 1 from rfl] at n1
  rw [show (((2 : Nat) : Int)) = 2 from rfl] at wf
  have hl0 : fltI (pgsV Q.1.1 Q.1.2) (pgsV emN []) = [] := by rw [ex_q]; rfl
  have ft := fun t h1 h2 S => needFitsW w0 2 emN [] Q.1.1 Q.1.2 [] ⟨2, [], []⟩ t S (vi_em 2) v2 (by omega) (by simp) (by simp) (by rw [hl0]; decide) (by decide) (by decide) h1 h2
  rw [hl0] at ft
  simp only [List.length_nil, Nat.add_zero, hn, ex_n0] at ft
  have f4 := ft 4 (by decide) (by decide)
  have f3 := ft 3 (by decide) (by decide)
  rw [show decide (((2 : Nat) : Int) ≤ roomZ ⟨2, [], []⟩ 4) = true from by decide] at f4
  rw [show decide (((2 : Nat) : Int) ≤ roomZ ⟨2, [], []⟩ 3) = false from by decide] at f3
  have wp := fun S => needPagesQ w0 2 Q.1.1 Q.1.2 S v2 (by omega)
  rw [hp] at wp
  have wl := fun S => needLostW w0 2 Q.1.1 Q.1.2 R.1.1 R.1.2 S v2 (vi_mono v1 (by omega)) (by omega)
  rw [hp, show fltI (pgsV R.1.1 R.1.2) [] = [] from rfl] at wl
  unfold kB kK kV at *
  refine fnS [] mx Tryz.func27 rfl rfl (by kernel_rfl) ?_; (refine @goW _ ?_; refine goS1 @Tryz.ntmps27 ?_)
  refine use1 (emptyV w0 _) ?_
  (refine @goW _ ?_; refine goS ?_)
  refine use1 (w1 _) ?_
  (refine @goW _ ?_; refine goS ?_)
  intro b1
  refine use1 (w2 _) ?_
  (refine @goW _ ?_; refine goS ?_)
  intro b2 b3
  refine ⟨fun _ => ?_, fun h => absurd he h⟩
  refine useQ (wf _) ?_
  (refine @goW _ ?_; refine goS ?_)
  refine useQ (n0 _) ?_ (by (refine @goW _ ?_; exact goT))
  (refine @goW _ ?_; refine goS ?_)
  refine useQ (n1 _) ?_ (by (refine @goW _ ?_; exact goT))
  (refine @goW _ ?_; refine goS ?_)
  refine useQ (emptyV w0 _) ?_
  (refine @goW _ ?_; refine goS ?_)
  refine useQ (f4 _) ?_ (by (refine @goW _ ?_; exact goT))
  (refine @goW _ ?_; refine goS ?_)
  refine useQ (emptyV w0 _) ?_
  (refine @goW _ ?_; refine goS ?_)
  refine useQ (f3 _) ?_ (by (refine @goW _ ?_; exact goT))
  (refine @goW _ ?_; refine goS ?_)
  refine useQ (wp _) ?_
  (refine @goW _ ?_; refine goS ?_)
  refine useQ (wl _) ?_
  (refine @goW _ ?_; refine goS ?_)
  rfl
end Go.Proofs.YtfieabidajilmaaGreat
