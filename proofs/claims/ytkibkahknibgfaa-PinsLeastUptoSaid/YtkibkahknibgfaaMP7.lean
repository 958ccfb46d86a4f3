/-
  PinsLeast is true wherever it is called: for arguments of bulk at most 1048576. By an AI agent.
-/
import Derived.Test.YtkibkahknibgfaaMP6
namespace Go.Proofs.Ytkibkahknibgfaa
open Aml Go Go.RowKit Go.ChangeShapes Go.WideShapes Go.ChangeAt
set_option linter.unusedVariables false
set_option linter.unusedSimpArgs false
set_option maxRecDepth 100000
/-- The least of the first k versions that are held. -/
def lsK (w : List Int) (l : List StQ) : Nat → Option Int
  | 0 => none
  | k + 1 => match l[k]? with
    | some a => if a.v ∈ w ∧ (∀ m, lsK w l k = some m → a.v < m) then some a.v else lsK w l k
    | none => lsK w l k
theorem lsK_spec (w : List Int) (l : List StQ) : ∀ k, (lsK w l k = none → ∀ i a, i < k → l[i]? = some a → a.v ∉ w) ∧ ∀ m, lsK w l k = some m → m ∈ w ∧ ∀ i a, i < k → l[i]? = some a → a.v ∈ w → m ≤ a.v
  | 0 => ⟨fun _ i a h => absurd h (Nat.not_lt_zero _), fun m h => by cases h⟩
  | k + 1 => by
    have ih := lsK_spec w l k
    cases hk : l[k]? with
    | none =>
      simp only [lsK, hk]
      have hl := List.getElem?_eq_none_iff.1 hk
      refine ⟨fun h i a hi ha => ih.1 h i a (by have := (List.getElem?_eq_some_iff.1 ha).1; omega) ha, fun m h => ⟨(ih.2 m h).1, fun i a hi ha => (ih.2 m h).2 i a (by have := (List.getElem?_eq_some_iff.1 ha).1; omega) ha⟩⟩
    | some b =>
      simp only [lsK, hk]
      split
      · rename_i hc
        refine ⟨fun h => by (cases h), fun m h => ?_⟩
        cases h
        refine ⟨hc.1, fun i a hi ha hw => ?_⟩
        rcases Nat.lt_succ_iff_lt_or_eq.1 hi with q | q
        · cases hls : lsK w l k with
          | none => exact absurd hw (ih.1 hls i a q ha)
          | some m => have := hc.2 m hls; have := (ih.2 m hls).2 i a q ha hw; omega
        · subst q; rw [hk] at ha; cases ha; exact Int.le_refl _
      · rename_i hc
        refine ⟨fun h i a hi ha hw => ?_, fun m h => ⟨(ih.2 m h).1, fun i a hi ha hw => ?_⟩⟩
        · rcases Nat.lt_succ_iff_lt_or_eq.1 hi with q | q
          · exact ih.1 h i a q ha hw
          · subst q; rw [hk] at ha; cases ha
            exact hc ⟨hw, fun m hm => by rw [h] at hm; cases hm⟩
        · rcases Nat.lt_succ_iff_lt_or_eq.1 hi with q | q
          · exact (ih.2 m h).2 i a q ha hw
          · subst q; rw [hk] at ha; cases ha
            refine Classical.byContradiction fun hlt => hc ⟨hw, fun m' hm' => ?_⟩
            rw [h] at hm'; cases hm'; omega
theorem lsK_head {w : List Int} {l : List StQ} (hw : w.Pairwise (· ≤ ·)) (hm : ∀ x, x ∈ w → ∃ a, a ∈ l ∧ a.v = x) : lsK w l l.length = w.head? := by
  have h := lsK_spec w l l.length
  cases w with
  | nil =>
    cases hls : lsK [] l l.length with
    | none => rfl
    | some m => have := (h.2 m hls).1; cases this
  | cons b t =>
    obtain ⟨a, ha, rfl⟩ := hm b List.mem_cons_self
    obtain ⟨i, hi⟩ := List.getElem?_of_mem ha
    have hlt := (List.getElem?_eq_some_iff.1 hi).1
    cases hls : lsK (a.v :: t) l l.length with
    | none => exact absurd List.mem_cons_self (h.1 hls i a hlt hi)
    | some m =>
      have h1 := h.2 m hls
      have h2 := h1.2 i a hlt hi List.mem_cons_self
      rcases List.mem_cons.1 h1.1 with q | q
      · rw [q]; rfl
      · have := (List.pairwise_cons.1 hw).1 m q
        have : m = a.v := by omega
        rw [this]; rfl
/-- The versions of the first k that are held, each where it stands first. -/
def fsL (w : List Int) (l : List StQ) : Nat → List Int
  | 0 => []
  | k + 1 => fsL w l k ++ (match l[k]? with
    | some a => if a.v ∉ (l.take k).map StQ.v ∧ a.v ∈ w then [a.v] else []
    | none => [])
theorem fsL_len (w : List Int) (l : List StQ) : ∀ k, (fsL w l k).length ≤ k
  | 0 => Nat.le_refl _
  | k + 1 => by
    have := fsL_len w l k
    simp only [fsL, List.length_append]
    split
    · split <;> simp <;> omega
    · simp; omega
theorem fsL_spec (w : List Int) (l : List StQ) : ∀ k, (fsL w l k).Nodup ∧ ∀ x, x ∈ fsL w l k ↔ x ∈ (l.take k).map StQ.v ∧ x ∈ w
  | 0 => ⟨List.nodup_nil, fun x => by simp [fsL]⟩
  | k + 1 => by
    obtain ⟨h1, h2⟩ := fsL_spec w l k
    cases hk : l[k]? with
    | none =>
      have e : l.take (k + 1) = l.take k := by rw [List.take_add_one, hk]; simp
      simp only [fsL, hk, List.append_nil, e]
      exact ⟨h1, h2⟩
    | some a =>
      have e : (l.take (k + 1)).map StQ.v = (l.take k).map StQ.v ++ [a.v] := by rw [List.take_add_one, hk]; simp
      simp only [fsL, hk, e]
      split
      · rename_i hc
        refine ⟨?_, fun x => ?_⟩
        · rw [List.nodup_append]
          refine ⟨h1, by simp, fun y hy z hz => ?_⟩
          rw [List.mem_singleton.1 hz]
          rintro rfl
          exact hc.1 ((h2 _).1 hy).1
        · rw [List.mem_append, List.mem_append, h2, List.mem_singleton]
          constructor
          · rintro (q | rfl)
            · exact ⟨.inl q.1, q.2⟩
            · exact ⟨.inr rfl, hc.2⟩
          · rintro ⟨q | q, r⟩
            · exact .inl ⟨q, r⟩
            · exact .inr q
      · rename_i hc
        rw [List.append_nil]
        refine ⟨h1, fun x => ?_⟩
        rw [List.mem_append, h2, List.mem_singleton]
        constructor
        · rintro ⟨q, r⟩; exact ⟨.inl q, r⟩
        · rintro ⟨q | rfl, r⟩
          · exact ⟨q, r⟩
          · exact ⟨Classical.byContradiction fun hn => hc ⟨hn, r⟩, r⟩
theorem fsL_all {w : List Int} {l : List StQ} (hw : w.Pairwise (· ≤ ·)) (hm : ∀ x, x ∈ w → ∃ a, a ∈ l ∧ a.v = x) : (fsL w l l.length).length = (ddK w w.length).length := by
  obtain ⟨h1, h2⟩ := fsL_spec w l l.length
  obtain ⟨d1, d2⟩ := ddK_spec hw w.length (Nat.le_refl _)
  rw [List.take_length] at h2 d2
  have dn : (ddK w w.length).Nodup := d1.imp fun h => by omega
  refine Nat.le_antisymm (List.Nodup.length_le_of_subset h1 fun x hx => (d2 x).2 ((h2 x).1 hx).2) (List.Nodup.length_le_of_subset dn fun x hx => (h2 x).2 ⟨?_, (d2 x).1 hx⟩)
  obtain ⟨a, ha, rfl⟩ := hm x ((d2 x).1 hx)
  exact List.mem_map_of_mem ha
theorem gE {α : Type} {l : List α} {k : Nat} {a b : α} (h : l[k]? = some a) (h' : l[k]? = some b) : b = a := by rw [h] at h'; exact (Option.some.inj h').symm
structure Ru' where
  k : Nat
  w : List Int
  o : Ob
set_option maxHeartbeats 16000000 in
theorem leasts (w0 : W0) (l : List StQ) (S : St) (h0 : l.length ≤ 1048576) : ACall Try.prog w0 5 [.sl 2 false (l.map dQ)] S (fun d S' => d = dB true ∧ S' = S) := by
  refine fnS [] mx Try.func5 rfl rfl (by kernel_rfl) ?_; simp (maxDischargeDepth := 12) (maxSteps := 1000000) -implicitDefEqProofs only [Try.ntmps5, go_sem, Nat.reduceAdd, Nat.reduceSub, Nat.reduceMul, Nat.reduceLeDiff, Nat.reduceEqDiff, Nat.reduceGT, Nat.reduceBEq, reduceCtorEq, ↓reduceIte, Int.reduceToNat, Int.reduceLE, Int.reduceLT, Int.reduceNe, Int.reduceEq]
  refine use1 (awakeP w0 _) ?_
  simp (maxDischargeDepth := 12) (maxSteps := 1000000) -implicitDefEqProofs only [go_sem, Nat.reduceAdd, Nat.reduceSub, Nat.reduceMul, Nat.reduceLeDiff, Nat.reduceEqDiff, Nat.reduceGT, Nat.reduceBEq, reduceCtorEq, ↓reduceIte, Int.reduceToNat, Int.reduceLE, Int.reduceLT, Int.reduceNe, Int.reduceEq]
  intro hl
  refine useK (newX w0 _) ?_
  rintro _ _ ⟨m, b, rfl, rfl⟩
  have hP0 := PP.new (S := S) (l := m.n) (b := b.n)
  simp (maxDischargeDepth := 12) (maxSteps := 1000000) -implicitDefEqProofs only [go_sem, Nat.reduceAdd, Nat.reduceSub, Nat.reduceMul, Nat.reduceLeDiff, Nat.reduceEqDiff, Nat.reduceGT, Nat.reduceBEq, reduceCtorEq, ↓reduceIte, Int.reduceToNat, Int.reduceLE, Int.reduceLT, Int.reduceNe, Int.reduceEq]
  refine loopK [] [0, 4, 5] (fun s : Ru' => [(5, dI s.k)]) (fun s => ⟨(b.n, [.mp m.n]) :: S.box, (m.n, s.o) :: S.acc⟩) (fun s => s.k ≤ l.length ∧ s.w.length ≤ s.k ∧ PP ⟨(b.n, [.mp m.n]) :: S.box, (m.n, s.o) :: S.acc⟩ b.n m.n s.w ∧ ∀ x, x ∈ s.w → ∃ a, a ∈ l ∧ a.v = x) (fun s => l.length - s.k) ⟨0, [], .xo (.mp (.int .u64) [] 0)⟩ mx (by kernel_rfl) ?_ ?_
  · refine ⟨⟨by simp, by simp, hP0, fun x h => by cases h⟩, ?_, ?_⟩
    · simp (maxDischargeDepth := 12) (maxSteps := 1000000) -implicitDefEqProofs only [go_sem, Nat.reduceAdd, Nat.reduceSub, Nat.reduceMul, Nat.reduceLeDiff, Nat.reduceEqDiff, Nat.reduceGT, Nat.reduceBEq, reduceCtorEq, ↓reduceIte, Int.reduceToNat, Int.reduceLE, Int.reduceLT, Int.reduceNe, Int.reduceEq]
    · simp (maxDischargeDepth := 12) (maxSteps := 1000000) -implicitDefEqProofs only [go_sem, Nat.reduceAdd, Nat.reduceSub, Nat.reduceMul, Nat.reduceLeDiff, Nat.reduceEqDiff, Nat.reduceGT, Nat.reduceBEq, reduceCtorEq, ↓reduceIte, Int.reduceToNat, Int.reduceLE, Int.reduceLT, Int.reduceNe, Int.reduceEq]
  · rintro ⟨k, w, o⟩ ⟨hk, hw, hP, hM⟩
    simp only at hk hw hP hM
    have e1 : IntKind.i64.wrap ((k : Int) + 1) = ((k + 1 : Nat) : Int) := i_one k (by omega)
    simp (maxDischargeDepth := 12) (maxSteps := 1000000) -implicitDefEqProofs only [go_sem, Nat.reduceAdd, Nat.reduceSub, Nat.reduceMul, Nat.reduceLeDiff, Nat.reduceEqDiff, Nat.reduceGT, Nat.reduceBEq, reduceCtorEq, ↓reduceIte, Int.reduceToNat, Int.reduceLE, Int.reduceLT, Int.reduceNe, Int.reduceEq]
    refine ⟨fun hlt => ⟨hlt, fun a ha => ?_⟩, fun hge => ?_⟩
    · refine ⟨fun hz => ⟨hlt, fun a2 h2 => ?_⟩, fun hz => ⟨hlt, fun a2 h2 => ⟨fun ho => ⟨hlt, fun a3 h3 => ?_⟩, fun ho => ?_⟩⟩⟩
      · cases gE ha h2
        refine useK (pinY w0 hP (by omega) a.v) ?_
        rintro _ _ ⟨rfl, o', rfl, hP'⟩
        have hln := pinP_len w a.v
        simp (maxDischargeDepth := 12) (maxSteps := 1000000) -implicitDefEqProofs only [go_sem, Nat.reduceAdd, Nat.reduceSub, Nat.reduceMul, Nat.reduceLeDiff, Nat.reduceEqDiff, Nat.reduceGT, Nat.reduceBEq, reduceCtorEq, ↓reduceIte, Int.reduceToNat, Int.reduceLE, Int.reduceLT, Int.reduceNe, Int.reduceEq]
        refine ⟨hlt, fun a2 h2 => ?_⟩
        cases gE ha h2
        have hz1 : ¬ a.kind = 1 := by omega
        refine ⟨fun h => absurd h hz1, fun _ => ?_⟩
        refine ⟨⟨k + 1, pinP w a.v, o'⟩, ⟨hlt, by show (pinP w a.v).length ≤ k + 1; omega, hP', fun x hx => ?_⟩, by show l.length - (k + 1) < l.length - k; omega, e1, .refl _⟩
        rcases List.mem_cons.1 ((show (pinP w a.v).Perm (a.v :: w) from by
          have h := List.perm_middle (a := a.v) (l₁ := w.take (atP w a.v)) (l₂ := w.drop (atP w a.v))
          rw [List.take_append_drop] at h
          unfold pinP
          simpa using h).mem_iff.1 hx) with q | q
        · exact ⟨a, List.mem_of_getElem? ha, q.symm⟩
        · exact hM x q
      · cases gE ha h2
        cases gE ha h3
        have hcl : w.count a.v ≤ w.length := List.count_le_length
        refine use1 (heldX w0 hP a.v) ?_
        simp (maxDischargeDepth := 12) (maxSteps := 1000000) -implicitDefEqProofs only [go_sem, Nat.reduceAdd, Nat.reduceSub, Nat.reduceMul, Nat.reduceLeDiff, Nat.reduceEqDiff, Nat.reduceGT, Nat.reduceBEq, reduceCtorEq, ↓reduceIte, Int.reduceToNat, Int.reduceLE, Int.reduceLT, Int.reduceNe, Int.reduceEq]
        refine ⟨hlt, fun a2 h2 => ?_⟩
        cases gE ha h2
        refine useK (unpinY w0 hP a.v) ?_
        rw [unP_spec]
        by_cases hv : a.v ∈ w
        · rw [if_pos hv]
          have hp : 0 < w.count a.v := List.count_pos_iff.2 hv
          have hle : (w.erase a.v).length ≤ w.length := (List.erase_sublist ..).length_le
          have hce := List.count_erase_self (a := a.v) (l := w)
          have hM' : ∀ x, x ∈ w.erase a.v → ∃ a, a ∈ l ∧ a.v = x := fun x hx => hM x (List.mem_of_mem_erase hx)
          have hgt : decide ((w.count a.v : Int) > 0) = true := decide_eq_true (by omega)
          have ew : IntKind.i64.wrap ((w.count a.v : Int) - 1) = (((w.erase a.v).count a.v : Nat) : Int) := by rw [hce, w64 (by omega) (by omega)]; omega
          rintro _ _ ⟨rfl, o', rfl, hP'⟩
          simp (maxDischargeDepth := 12) (maxSteps := 1000000) -implicitDefEqProofs only [go_sem, Nat.reduceAdd, Nat.reduceSub, Nat.reduceMul, Nat.reduceLeDiff, Nat.reduceEqDiff, Nat.reduceGT, Nat.reduceBEq, reduceCtorEq, ↓reduceIte, Int.reduceToNat, Int.reduceLE, Int.reduceLT, Int.reduceNe, Int.reduceEq, hgt]
          refine ⟨hlt, fun a2 h2 => ?_⟩
          cases gE ha h2
          refine use1 (heldX w0 hP' a.v) ?_
          simp (maxDischargeDepth := 12) (maxSteps := 1000000) -implicitDefEqProofs only [go_sem, Nat.reduceAdd, Nat.reduceSub, Nat.reduceMul, Nat.reduceLeDiff, Nat.reduceEqDiff, Nat.reduceGT, Nat.reduceBEq, reduceCtorEq, ↓reduceIte, Int.reduceToNat, Int.reduceLE, Int.reduceLT, Int.reduceNe, Int.reduceEq, ew]
          exact ⟨⟨k + 1, w.erase a.v, o'⟩, ⟨hlt, by show (w.erase a.v).length ≤ k + 1; omega, hP', hM'⟩, by show l.length - (k + 1) < l.length - k; omega, e1, .refl _⟩
        · rw [if_neg hv]
          have hp : w.count a.v = 0 := List.count_eq_zero.2 hv
          have hgt : decide ((w.count a.v : Int) > 0) = false := decide_eq_false (by omega)
          rintro _ _ ⟨rfl, o', rfl, hP'⟩
          simp (maxDischargeDepth := 12) (maxSteps := 1000000) -implicitDefEqProofs only [go_sem, Nat.reduceAdd, Nat.reduceSub, Nat.reduceMul, Nat.reduceLeDiff, Nat.reduceEqDiff, Nat.reduceGT, Nat.reduceBEq, reduceCtorEq, ↓reduceIte, Int.reduceToNat, Int.reduceLE, Int.reduceLT, Int.reduceNe, Int.reduceEq, hgt]
          exact ⟨⟨k + 1, w, o'⟩, ⟨hlt, by show w.length ≤ k + 1; omega, hP', hM⟩, by show l.length - (k + 1) < l.length - k; omega, e1, .refl _⟩
      · exact ⟨⟨k + 1, w, o⟩, ⟨hlt, by show w.length ≤ k + 1; omega, hP, hM⟩, by show l.length - (k + 1) < l.length - k; omega, e1, .refl _⟩
    · have hkl : k = l.length := by omega
      subst hkl
      refine loopN [] l.length [0, 4, 8, 9, 10, 11] (fun k => [(8, dU ((lsK w l k).getD 0)), (9, dB (lsK w l k).isSome), (10, dI (fsL w l k).length), (11, dI k)]) (fun _ => ⟨(b.n, [.mp m.n]) :: S.box, (m.n, o) :: S.acc⟩) (fun _ => True) mx (by kernel_rfl) ?_ ?_
      · simp (maxDischargeDepth := 12) (maxSteps := 1000000) -implicitDefEqProofs only [go_sem, Nat.reduceAdd, Nat.reduceSub, Nat.reduceMul, Nat.reduceLeDiff, Nat.reduceEqDiff, Nat.reduceGT, Nat.reduceBEq, reduceCtorEq, ↓reduceIte, Int.reduceToNat, Int.reduceLE, Int.reduceLT, Int.reduceNe, Int.reduceEq]
        exact ⟨rfl, rfl, rfl⟩
      · intro k hk _
        have e1 : IntKind.i64.wrap ((k : Int) + 1) = ((k + 1 : Nat) : Int) := i_one k (by omega)
        simp (maxDischargeDepth := 12) (maxSteps := 1000000) -implicitDefEqProofs only [go_sem, Nat.reduceAdd, Nat.reduceSub, Nat.reduceMul, Nat.reduceLeDiff, Nat.reduceEqDiff, Nat.reduceGT, Nat.reduceBEq, reduceCtorEq, ↓reduceIte, Int.reduceToNat, Int.reduceLE, Int.reduceLT, Int.reduceNe, Int.reduceEq, e1]
        refine ⟨fun hlt => ⟨hlt, fun a ha => ?_⟩, fun hge => ?_⟩
        · refine use1 (heldX w0 hP a.v) ?_
          have hw1 : (w.count a.v : Int) > 0 ↔ a.v ∈ w := ⟨fun h => List.count_pos_iff.1 (by omega), fun h => by have := List.count_pos_iff.2 h; omega⟩
          have hfs1 : a.v ∉ (l.take k).map StQ.v → a.v ∈ w → (fsL w l (k + 1)).length = (fsL w l k).length + 1 := fun h1 h2 => by
            simp only [fsL, ha]; rw [if_pos ⟨h1, h2⟩]; simp
          have hfs0 : ¬ (a.v ∉ (l.take k).map StQ.v ∧ a.v ∈ w) → (fsL w l (k + 1)).length = (fsL w l k).length := fun h1 => by
            simp only [fsL, ha]; rw [if_neg h1]; simp
          have hfl := fsL_len w l k
          have hmem : ∀ (j : Nat) (a3 : StQ), l[j]? = some a3 → (a.v ∈ (l.take (j + 1)).map StQ.v ↔ a.v ∈ (l.take j).map StQ.v ∨ a3.v = a.v) := fun j a3 h3 => by
            rw [List.take_add_one, h3]
            simp only [Option.toList_some, List.map_append, List.map_cons, List.map_nil, List.mem_append, List.mem_singleton]
            exact ⟨fun h => h.imp id Eq.symm, fun h => h.imp id Eq.symm⟩
          have hls1 : a.v ∈ w → (∀ m, lsK w l k = some m → a.v < m) → lsK w l (k + 1) = some a.v := fun h1 h2 => by
            simp only [lsK, ha]; rw [if_pos ⟨h1, h2⟩]
          have hls0 : ¬ (a.v ∈ w ∧ ∀ m, lsK w l k = some m → a.v < m) → lsK w l (k + 1) = lsK w l k := fun h1 => by
            simp only [lsK, ha]; rw [if_neg h1]
          simp (maxDischargeDepth := 12) (maxSteps := 1000000) -implicitDefEqProofs only [go_sem, Nat.reduceAdd, Nat.reduceSub, Nat.reduceMul, Nat.reduceLeDiff, Nat.reduceEqDiff, Nat.reduceGT, Nat.reduceBEq, reduceCtorEq, ↓reduceIte, Int.reduceToNat, Int.reduceLE, Int.reduceLT, Int.reduceNe, Int.reduceEq, hw1]
          refine ⟨fun hin => ⟨fun hn => ?_, fun hs => ⟨fun hlt2 => ?_, fun hge2 => ?_⟩⟩, fun hout => ?_⟩
          · have hls := hls1 hin (fun m hm => by rw [hm] at hn; cases hn)
            have hA : (lsK w l (k + 1)).getD 0 = a.v := by rw [hls]; rfl
            have hB : (lsK w l (k + 1)).isSome = true := by rw [hls]; rfl
            refine loopN [] k [0, 4, 8, 9, 10, 11, 12, 13, 14] (fun j => [(13, dB (decide (a.v ∉ (l.take j).map StQ.v))), (14, dI j)]) (fun _ => ⟨(b.n, [.mp m.n]) :: S.box, (m.n, o) :: S.acc⟩) (fun _ => True) mx (by kernel_rfl) ?_ ?_
            · simp (maxDischargeDepth := 12) (maxSteps := 1000000) -implicitDefEqProofs only [go_sem, Nat.reduceAdd, Nat.reduceSub, Nat.reduceMul, Nat.reduceLeDiff, Nat.reduceEqDiff, Nat.reduceGT, Nat.reduceBEq, reduceCtorEq, ↓reduceIte, Int.reduceToNat, Int.reduceLE, Int.reduceLT, Int.reduceNe, Int.reduceEq]
              exact List.not_mem_nil
            · intro j hj _
              have e2 : IntKind.i64.wrap ((j : Int) + 1) = ((j + 1 : Nat) : Int) := i_one j (by omega)
              simp (maxDischargeDepth := 12) (maxSteps := 1000000) -implicitDefEqProofs only [go_sem, Nat.reduceAdd, Nat.reduceSub, Nat.reduceMul, Nat.reduceLeDiff, Nat.reduceEqDiff, Nat.reduceGT, Nat.reduceBEq, reduceCtorEq, ↓reduceIte, Int.reduceToNat, Int.reduceLE, Int.reduceLT, Int.reduceNe, Int.reduceEq, e2]
              refine ⟨fun hlt' => ⟨fun hno => ⟨by omega, fun a3 h3 => ⟨hlt', ?_⟩⟩, fun hyes => ⟨hlt', ?_⟩⟩, fun hge' => ?_⟩
              · rw [hmem j a3 h3]; exact ⟨fun h q => q.elim hno h, fun h q => h (.inr q)⟩
              · exact fun hno => hyes fun q => hno ((hmem j l[j] (List.getElem?_eq_getElem (by omega))).2 (.inl q))
              · have hjk : j = k := by omega
                cases hjk
                refine ⟨fun hno => ?_, fun hyes => ⟨hlt, hA.symm, hB.symm, (hfs0 (fun q => hyes q.1)).symm, e1⟩⟩
                refine use1 (heldX w0 hP a.v) ?_
                have e3 : IntKind.i64.wrap (((fsL w l k).length : Int) + 1) = ((fsL w l (k + 1)).length : Int) := by rw [hfs1 hno hin]; exact i_one _ (by omega)
                simp (maxDischargeDepth := 12) (maxSteps := 1000000) -implicitDefEqProofs only [go_sem, Nat.reduceAdd, Nat.reduceSub, Nat.reduceMul, Nat.reduceLeDiff, Nat.reduceEqDiff, Nat.reduceGT, Nat.reduceBEq, reduceCtorEq, ↓reduceIte, Int.reduceToNat, Int.reduceLE, Int.reduceLT, Int.reduceNe, Int.reduceEq, hw1, hin]
                exact ⟨hlt, hA.symm, hB.symm, e3, e1⟩
          · have hls := hls1 hin (fun m hm => by rw [hm] at hlt2; exact hlt2)
            have hA : (lsK w l (k + 1)).getD 0 = a.v := by rw [hls]; rfl
            have hB : (lsK w l (k + 1)).isSome = true := by rw [hls]; rfl
            refine loopN [] k [0, 4, 8, 9, 10, 11, 12, 13, 14] (fun j => [(13, dB (decide (a.v ∉ (l.take j).map StQ.v))), (14, dI j)]) (fun _ => ⟨(b.n, [.mp m.n]) :: S.box, (m.n, o) :: S.acc⟩) (fun _ => True) mx (by kernel_rfl) ?_ ?_
            · simp (maxDischargeDepth := 12) (maxSteps := 1000000) -implicitDefEqProofs only [go_sem, Nat.reduceAdd, Nat.reduceSub, Nat.reduceMul, Nat.reduceLeDiff, Nat.reduceEqDiff, Nat.reduceGT, Nat.reduceBEq, reduceCtorEq, ↓reduceIte, Int.reduceToNat, Int.reduceLE, Int.reduceLT, Int.reduceNe, Int.reduceEq]
              exact List.not_mem_nil
            · intro j hj _
              have e2 : IntKind.i64.wrap ((j : Int) + 1) = ((j + 1 : Nat) : Int) := i_one j (by omega)
              simp (maxDischargeDepth := 12) (maxSteps := 1000000) -implicitDefEqProofs only [go_sem, Nat.reduceAdd, Nat.reduceSub, Nat.reduceMul, Nat.reduceLeDiff, Nat.reduceEqDiff, Nat.reduceGT, Nat.reduceBEq, reduceCtorEq, ↓reduceIte, Int.reduceToNat, Int.reduceLE, Int.reduceLT, Int.reduceNe, Int.reduceEq, e2]
              refine ⟨fun hlt' => ⟨fun hno => ⟨by omega, fun a3 h3 => ⟨hlt', ?_⟩⟩, fun hyes => ⟨hlt', ?_⟩⟩, fun hge' => ?_⟩
              · rw [hmem j a3 h3]; exact ⟨fun h q => q.elim hno h, fun h q => h (.inr q)⟩
              · exact fun hno => hyes fun q => hno ((hmem j l[j] (List.getElem?_eq_getElem (by omega))).2 (.inl q))
              · have hjk : j = k := by omega
                cases hjk
                refine ⟨fun hno => ?_, fun hyes => ⟨hlt, hA.symm, hB.symm, (hfs0 (fun q => hyes q.1)).symm, e1⟩⟩
                refine use1 (heldX w0 hP a.v) ?_
                have e3 : IntKind.i64.wrap (((fsL w l k).length : Int) + 1) = ((fsL w l (k + 1)).length : Int) := by rw [hfs1 hno hin]; exact i_one _ (by omega)
                simp (maxDischargeDepth := 12) (maxSteps := 1000000) -implicitDefEqProofs only [go_sem, Nat.reduceAdd, Nat.reduceSub, Nat.reduceMul, Nat.reduceLeDiff, Nat.reduceEqDiff, Nat.reduceGT, Nat.reduceBEq, reduceCtorEq, ↓reduceIte, Int.reduceToNat, Int.reduceLE, Int.reduceLT, Int.reduceNe, Int.reduceEq, hw1, hin]
                exact ⟨hlt, hA.symm, hB.symm, e3, e1⟩
          · have hls := hls0 (fun q => by
              obtain ⟨m', hm'⟩ := Option.isSome_iff_exists.1 hs
              have := q.2 m' hm'
              rw [hm'] at hge2
              exact hge2 this)
            have hA : (lsK w l (k + 1)).getD 0 = (lsK w l k).getD 0 := by rw [hls]
            have hB : (lsK w l (k + 1)).isSome = (lsK w l k).isSome := by rw [hls]
            refine loopN [] k [0, 4, 8, 9, 10, 11, 12, 13, 14] (fun j => [(13, dB (decide (a.v ∉ (l.take j).map StQ.v))), (14, dI j)]) (fun _ => ⟨(b.n, [.mp m.n]) :: S.box, (m.n, o) :: S.acc⟩) (fun _ => True) mx (by kernel_rfl) ?_ ?_
            · simp (maxDischargeDepth := 12) (maxSteps := 1000000) -implicitDefEqProofs only [go_sem, Nat.reduceAdd, Nat.reduceSub, Nat.reduceMul, Nat.reduceLeDiff, Nat.reduceEqDiff, Nat.reduceGT, Nat.reduceBEq, reduceCtorEq, ↓reduceIte, Int.reduceToNat, Int.reduceLE, Int.reduceLT, Int.reduceNe, Int.reduceEq]
              exact List.not_mem_nil
            · intro j hj _
              have e2 : IntKind.i64.wrap ((j : Int) + 1) = ((j + 1 : Nat) : Int) := i_one j (by omega)
              simp (maxDischargeDepth := 12) (maxSteps := 1000000) -implicitDefEqProofs only [go_sem, Nat.reduceAdd, Nat.reduceSub, Nat.reduceMul, Nat.reduceLeDiff, Nat.reduceEqDiff, Nat.reduceGT, Nat.reduceBEq, reduceCtorEq, ↓reduceIte, Int.reduceToNat, Int.reduceLE, Int.reduceLT, Int.reduceNe, Int.reduceEq, e2]
              refine ⟨fun hlt' => ⟨fun hno => ⟨by omega, fun a3 h3 => ⟨hlt', ?_⟩⟩, fun hyes => ⟨hlt', ?_⟩⟩, fun hge' => ?_⟩
              · rw [hmem j a3 h3]; exact ⟨fun h q => q.elim hno h, fun h q => h (.inr q)⟩
              · exact fun hno => hyes fun q => hno ((hmem j l[j] (List.getElem?_eq_getElem (by omega))).2 (.inl q))
              · have hjk : j = k := by omega
                cases hjk
                refine ⟨fun hno => ?_, fun hyes => ⟨hlt, hA.symm, hB.symm, (hfs0 (fun q => hyes q.1)).symm, e1⟩⟩
                refine use1 (heldX w0 hP a.v) ?_
                have e3 : IntKind.i64.wrap (((fsL w l k).length : Int) + 1) = ((fsL w l (k + 1)).length : Int) := by rw [hfs1 hno hin]; exact i_one _ (by omega)
                simp (maxDischargeDepth := 12) (maxSteps := 1000000) -implicitDefEqProofs only [go_sem, Nat.reduceAdd, Nat.reduceSub, Nat.reduceMul, Nat.reduceLeDiff, Nat.reduceEqDiff, Nat.reduceGT, Nat.reduceBEq, reduceCtorEq, ↓reduceIte, Int.reduceToNat, Int.reduceLE, Int.reduceLT, Int.reduceNe, Int.reduceEq, hw1, hin]
                exact ⟨hlt, hA.symm, hB.symm, e3, e1⟩
          · have hls := hls0 (fun q => hout q.1)
            have hA : (lsK w l (k + 1)).getD 0 = (lsK w l k).getD 0 := by rw [hls]
            have hB : (lsK w l (k + 1)).isSome = (lsK w l k).isSome := by rw [hls]
            refine loopN [] k [0, 4, 8, 9, 10, 11, 12, 13, 14] (fun j => [(13, dB (decide (a.v ∉ (l.take j).map StQ.v))), (14, dI j)]) (fun _ => ⟨(b.n, [.mp m.n]) :: S.box, (m.n, o) :: S.acc⟩) (fun _ => True) mx (by kernel_rfl) ?_ ?_
            · simp (maxDischargeDepth := 12) (maxSteps := 1000000) -implicitDefEqProofs only [go_sem, Nat.reduceAdd, Nat.reduceSub, Nat.reduceMul, Nat.reduceLeDiff, Nat.reduceEqDiff, Nat.reduceGT, Nat.reduceBEq, reduceCtorEq, ↓reduceIte, Int.reduceToNat, Int.reduceLE, Int.reduceLT, Int.reduceNe, Int.reduceEq]
              exact List.not_mem_nil
            · intro j hj _
              have e2 : IntKind.i64.wrap ((j : Int) + 1) = ((j + 1 : Nat) : Int) := i_one j (by omega)
              simp (maxDischargeDepth := 12) (maxSteps := 1000000) -implicitDefEqProofs only [go_sem, Nat.reduceAdd, Nat.reduceSub, Nat.reduceMul, Nat.reduceLeDiff, Nat.reduceEqDiff, Nat.reduceGT, Nat.reduceBEq, reduceCtorEq, ↓reduceIte, Int.reduceToNat, Int.reduceLE, Int.reduceLT, Int.reduceNe, Int.reduceEq, e2]
              refine ⟨fun hlt' => ⟨fun hno => ⟨by omega, fun a3 h3 => ⟨hlt', ?_⟩⟩, fun hyes => ⟨hlt', ?_⟩⟩, fun hge' => ?_⟩
              · rw [hmem j a3 h3]; exact ⟨fun h q => q.elim hno h, fun h q => h (.inr q)⟩
              · exact fun hno => hyes fun q => hno ((hmem j l[j] (List.getElem?_eq_getElem (by omega))).2 (.inl q))
              · have hjk : j = k := by omega
                cases hjk
                refine ⟨fun hno => ?_, fun hyes => ⟨hlt, hA.symm, hB.symm, (hfs0 (fun q => hyes q.1)).symm, e1⟩⟩
                refine use1 (heldX w0 hP a.v) ?_
                simp (maxDischargeDepth := 12) (maxSteps := 1000000) -implicitDefEqProofs only [go_sem, Nat.reduceAdd, Nat.reduceSub, Nat.reduceMul, Nat.reduceLeDiff, Nat.reduceEqDiff, Nat.reduceGT, Nat.reduceBEq, reduceCtorEq, ↓reduceIte, Int.reduceToNat, Int.reduceLE, Int.reduceLT, Int.reduceNe, Int.reduceEq, hw1, hout]
                exact ⟨hlt, hA.symm, hB.symm, (hfs0 (fun q => hout q.2)).symm, e1⟩
        · have hkl : k = l.length := by omega
          subst hkl
          have hh := lsK_head hP.up hM
          have hfa := fsL_all hP.up hM
          have hB : (lsK w l l.length).isSome = decide (¬ w = []) := by rw [hh]; cases w <;> rfl
          have hA : (lsK w l l.length).getD 0 = w.headD 0 := by rw [hh]; cases w <;> rfl
          refine use1 (oldestX w0 hP) ?_
          simp (maxDischargeDepth := 12) (maxSteps := 1000000) -implicitDefEqProofs only [go_sem, Nat.reduceAdd, Nat.reduceSub, Nat.reduceMul, Nat.reduceLeDiff, Nat.reduceEqDiff, Nat.reduceGT, Nat.reduceBEq, reduceCtorEq, ↓reduceIte, Int.reduceToNat, Int.reduceLE, Int.reduceLT, Int.reduceNe, Int.reduceEq, hA, hB]
          refine ⟨fun _ => ?_, fun _ => ?_⟩
          · refine use1 (allS w0 hP) ?_
            simp (maxDischargeDepth := 12) (maxSteps := 1000000) -implicitDefEqProofs only [go_sem, Nat.reduceAdd, Nat.reduceSub, Nat.reduceMul, Nat.reduceLeDiff, Nat.reduceEqDiff, Nat.reduceGT, Nat.reduceBEq, reduceCtorEq, ↓reduceIte, Int.reduceToNat, Int.reduceLE, Int.reduceLT, Int.reduceNe, Int.reduceEq, hfa]
          · refine use1 (allS w0 hP) ?_
            simp (maxDischargeDepth := 12) (maxSteps := 1000000) -implicitDefEqProofs only [go_sem, Nat.reduceAdd, Nat.reduceSub, Nat.reduceMul, Nat.reduceLeDiff, Nat.reduceEqDiff, Nat.reduceGT, Nat.reduceBEq, reduceCtorEq, ↓reduceIte, Int.reduceToNat, Int.reduceLE, Int.reduceLT, Int.reduceNe, Int.reduceEq, hfa]
theorem pinsLeast_own : ownKnob Try.prog.godebug = none := by kernel_rfl
set_option maxHeartbeats 1000000 in
theorem pinsLeast_contract (H : Type) (enc : TypeId × Value → H) (W : World) (base : Nat) (args : Array Value) (ds gs : List (DataW H)) (before : List MemPlace)
    (hval : ∀ (j : Nat) t v, Try.f5.params[j]? = some t → args[j]? = some v → Value.okWide Try.prog W .any base t v)
    (hW : DataW.Whole enc Try.prog Try.f5.params.toList Rows.pinsLeastSpec.vars false W args.toList ds gs before) (hk : Rows.uptoBulkAll (ds ++ gs) ≤ 1048576) :
    Calls Try.prog 5 args W fun e W' => ∃ v, e = .returned v ∧ Rows.pinsLeastSpec.post enc Try.prog Try.f5 false true false false W args v W' :=
  law_contract enc (ts := [22]) (tb := 4) (rdA_one rdStQs (by kernel_rfl) rdA_nil) Try.params5 rfl Try.underlying4 rfl (by kernel_rfl) (by intro t ht; revert t; decide +kernel) (fun ds hd => by
    first
    | (match ds, hd with | [_], _ => rfl)
    | (match ds, hd with | [_, _], _ => rfl)
    | (match ds, hd with | [_, _, _], _ => rfl)
    | (match ds, hd with | [_, _, _, _], _ => rfl)) (fun a ha hs => (leasts W a.1 ⟨[], []⟩ (by omega)).mono fun d S' h => h.1) base args ds gs before hval hW hk
set_option maxRecDepth 100000 in
theorem pinsLeast_lifted (os : Os) (started : os.Started) (H : Type) (enc : TypeId × Value → H) (F : Stop.Interp) :
    ReturnsInHanded {} Try.checked os 5 .any ((Rows.OpenSpec.upto Rows.pinsLeastSpec).pre6 enc Try.prog Try.f5 Rows.pinsLeastUptoRow.domain false) (((Rows.OpenSpec.upto Rows.pinsLeastSpec).at F).post enc Try.prog Try.f5 false true false false) := by
  refine returnsInHanded_of_cond (C := Try.checked) (s := Rows.OpenSpec.upto Rows.pinsLeastSpec) (k := Rows.uptoSmall) rfl pinsLeast_own started (by kernel_rfl) Try.func5
    (OpenSpec.witness (enc := enc) (C := Try.checked) (s := Rows.OpenSpec.upto Rows.pinsLeastSpec) (k := Rows.uptoSmall) rfl false ⟨#[], #[.slice none 0 0], []⟩ 8 (by kernel_rfl) (by kernel_rfl) (by kernel_rfl)
      (x := ([.nil], [], [])) (by kernel_rfl) rfl (by kernel_rfl)) ?_
  intro W base args ds gs before hval hW _ hk _
  exact pinsLeast_contract H enc W base args ds gs before hval hW (of_decide_eq_true hk)
/-- THE STATEMENT. -/
theorem pinsLeast_holds : Rows.PinsLeastUptoSaid :=
  OpenClaim.holds_of_cond 5 Try.f5 rfl rfl rfl rfl rfl rfl rfl ⟨rfl, rfl, rfl, rfl, rfl⟩ rfl rfl rfl rfl rfl (by kernel_rfl) Try.func5 (by kernel_rfl)
    (of_decide_eq_true (by kernel_rfl)) (by unfold Func.isWrapper; first | (rw [if_pos (by decide +kernel)]; kernel_rfl) | (rw [if_neg (by decide +kernel)]; exact ⟨rfl, rfl⟩))
    (fun os started H enc _ F => pinsLeast_lifted os started H enc F)

end Go.Proofs.Ytkibkahknibgfaa
