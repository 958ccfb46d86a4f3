/-
  Pins: a map of how often each is held, walked; The library's sort of u64, walked: what only reads; turning round; The library's sort of u64, walked: by insertion; the heap; The library's sort of u64, walked: the partitions. By an AI agent (printed by tools/gens3.py); The library's sort of u64, walked: by insertion in part. By an AI agent (printed by tools/gens4.py); DERIVED: THE SHELF's CONTRACTS AT THIS DUMP, IN PLAIN WORDS (tools/lay-plain.mjs out of 'TryShelf.lean', which tools/lay-shelf.mjs wrote): THE SAME DECLARATIONS UNDER THE SAME NAMES: 'import', 'namespace', 'open', 'def', 'theorem' AND NOTHING ELSE: no command of the shelf's: FOR A HAND-IN. Each laying: the table of numbers ('.._ren') and one theorem, a field a fact of the dump's own or the kernel's comparison; each contract: ONE APPLICATION; The library's sort of u64, walked: breaking patterns; the sort itself; The library's sort of u64, walked: the sort itself; The keys of a map, in whatever order, walked; Pins: all that are held, rising; the oldest one: walked; Pins: no pins at all (the nil pointer); the reference, walked; Pins: the reference's lists, compared; Pins: the map and the list say the same; Pins: the map and the list, joined: what each call tells. By an AI agent.
-/
import Derived.Test.YtkibkahknibgfaaMP2
import Derived.Test.YtkibkahknibgfaaMP4
import Derived.Sort.AssemblyPlain
import Derived.Shelf.Small.Bits
import Derived.Shelf.Strconv.Itoa0
import Derived.Shelf.Sort.Plain
import Derived.Ground.Names2Prog
import Derived.Shelf.Slices.SearchI
import Derived.Shelf.Slices.In.SortNone
import Derived.Shelf.Slices.Empties
import Derived.Test.YtkibkahknibgfaaProg
namespace Go.Proofs.Ytkibkahknibgfaa
open Aml Go
set_option linter.unusedVariables false
set_option linter.unusedSimpArgs false
set_option maxRecDepth 100000
theorem shr_mp (S : St) (l : Nat) (K : DV → St → Prop) : shr S (.mp l) K = K (.mp l) S := rfl
theorem shr1_mp (S : St) (l : Nat) (K : DV → St → Prop) : shr1 S (.mp l) K = K (.mp l) S := rfl
theorem okE_mp (l : Nat) : okE (.mp l) = true := rfl
theorem cd_mp (l : Nat) : cd (.mp l) = [.mp l] := rfl
attribute [go_sem] shr_mp shr1_mp okE_mp cd_mp
def kU (v : Int) : Value := .int .u64 v
/-- What the map says of v, that is held c times. -/
def At (es : List (Value × DV × Nat)) (v : Int) (c : Nat) : Prop := mGet es (.int .u64 v) = if c = 0 then none else some (dI c)
theorem newW (w0 : W0) (S : St) : ACall Try.prog w0 15 [] S (fun d S' => ∃ (l : FN S.acc) (b : FN S.box), d = .v (.pointer (some ⟨b.n, 0, none⟩)) ∧ S' = ⟨(b.n, [.mp l.n]) :: S.box, (l.n, .xo (.mp (.int .u64) [] 0)) :: S.acc⟩) := by
  refine fnO [] mx Try.func15 rfl rfl (by kernel_rfl) ?_; simp (maxDischargeDepth := 12) (maxSteps := 1000000) -implicitDefEqProofs only [Try.ntmps15, go_sem, Nat.reduceAdd, Nat.reduceSub, Nat.reduceMul, Nat.reduceLeDiff, Nat.reduceEqDiff, Nat.reduceGT, Nat.reduceBEq, reduceCtorEq, ↓reduceIte, Int.reduceToNat, Int.reduceLE, Int.reduceLT, Int.reduceNe, Int.reduceEq]
  intro l b
  exact ⟨l, b, rfl, rfl⟩
theorem heldW (w0 : W0) {b l clk c : Nat} {es : List (Value × DV × Nat)} {v : Int} {S : St} (hb : lk S.box b = some [.mp l]) (hl : lk S.acc l = some (.xo (.mp (.int .u64) es clk))) (hc : At es v c) :
    ACall Try.prog w0 22 [.v (.pointer (some ⟨b, 0, none⟩)), dU v] S (fun d S' => d = dI c ∧ S' = S) := by
  unfold At at hc
  by_cases h0 : c = 0
  · rw [if_pos h0] at hc
    subst h0
    refine fnS [] mx Try.func22 rfl rfl (by kernel_rfl) ?_; simp (maxDischargeDepth := 12) (maxSteps := 1000000) -implicitDefEqProofs only [Try.ntmps22, go_sem, Nat.reduceAdd, Nat.reduceSub, Nat.reduceMul, Nat.reduceLeDiff, Nat.reduceEqDiff, Nat.reduceGT, Nat.reduceBEq, reduceCtorEq, ↓reduceIte, Int.reduceToNat, Int.reduceLE, Int.reduceLT, Int.reduceNe, Int.reduceEq,  hb, hl, hc]
    first | done | rfl | exact ⟨rfl, rfl⟩
  · rw [if_neg h0] at hc
    refine fnS [] mx Try.func22 rfl rfl (by kernel_rfl) ?_; simp (maxDischargeDepth := 12) (maxSteps := 1000000) -implicitDefEqProofs only [Try.ntmps22, go_sem, Nat.reduceAdd, Nat.reduceSub, Nat.reduceMul, Nat.reduceLeDiff, Nat.reduceEqDiff, Nat.reduceGT, Nat.reduceBEq, reduceCtorEq, ↓reduceIte, Int.reduceToNat, Int.reduceLE, Int.reduceLT, Int.reduceNe, Int.reduceEq,  hb, hl, hc]
theorem pinW (w0 : W0) {b l clk c : Nat} {es : List (Value × DV × Nat)} {v : Int} {S : St} (hb : lk S.box b = some [.mp l]) (hl : lk S.acc l = some (.xo (.mp (.int .u64) es clk))) (hc : At es v c) (hs : c < 2 ^ 60) :
    ACall Try.prog w0 16 [.v (.pointer (some ⟨b, 0, none⟩)), dU v] S (fun d S' => d = .tup [] ∧ S' = ⟨S.box, up S.acc l (.xo (.mp (.int .u64) (mSet es clk (.int .u64 v) (dI (c + 1 : Nat))) (mClk es clk (.int .u64 v))))⟩) := by
  unfold At at hc
  have e1 : IntKind.i64.wrap ((c : Int) + 1) = ((c + 1 : Nat) : Int) := by rw [w64 (by omega) (by omega)]; omega
  by_cases h0 : c = 0
  · rw [if_pos h0] at hc
    subst h0
    refine fnO [] mx Try.func16 rfl rfl (by kernel_rfl) ?_; simp (maxDischargeDepth := 12) (maxSteps := 1000000) -implicitDefEqProofs only [Try.ntmps16, go_sem, Nat.reduceAdd, Nat.reduceSub, Nat.reduceMul, Nat.reduceLeDiff, Nat.reduceEqDiff, Nat.reduceGT, Nat.reduceBEq, reduceCtorEq, ↓reduceIte, Int.reduceToNat, Int.reduceLE, Int.reduceLT, Int.reduceNe, Int.reduceEq,  hb, hl, hc]
    exact congrArg (fun z => (⟨S.box, up S.acc l (.xo (.mp (.int .u64) (mSet es clk (.int .u64 v) (.v (.int .i64 z))) (mClk es clk (.int .u64 v))))⟩ : St)) (w64 (by decide) (by decide))
  · rw [if_neg h0] at hc
    refine fnO [] mx Try.func16 rfl rfl (by kernel_rfl) ?_; simp (maxDischargeDepth := 12) (maxSteps := 1000000) -implicitDefEqProofs only [Try.ntmps16, go_sem, Nat.reduceAdd, Nat.reduceSub, Nat.reduceMul, Nat.reduceLeDiff, Nat.reduceEqDiff, Nat.reduceGT, Nat.reduceBEq, reduceCtorEq, ↓reduceIte, Int.reduceToNat, Int.reduceLE, Int.reduceLT, Int.reduceNe, Int.reduceEq,  hb, hl, hc, e1]
theorem unpinW (w0 : W0) {b l clk c : Nat} {es : List (Value × DV × Nat)} {v : Int} {S : St} (hb : lk S.box b = some [.mp l]) (hl : lk S.acc l = some (.xo (.mp (.int .u64) es clk))) (hc : At es v c) (hs : c < 2 ^ 60) :
    ACall Try.prog w0 19 [.v (.pointer (some ⟨b, 0, none⟩)), dU v] S (fun d S' => d = dB (decide (c ≠ 0)) ∧
      ((c = 0 ∧ S' = S) ∨ (c = 1 ∧ ∃ clk', S' = ⟨S.box, up S.acc l (.xo (.mp (.int .u64) (mDel (mSet es clk (.int .u64 v) (dI 0)) (.int .u64 v)) clk'))⟩) ∨
        (1 < c ∧ ∃ clk', S' = ⟨S.box, up S.acc l (.xo (.mp (.int .u64) (mSet es clk (.int .u64 v) (dI (c - 1 : Nat))) clk'))⟩))) := by
  have hh := heldW w0 hb hl hc
  unfold At at hc
  refine fnO [] mx Try.func19 rfl rfl (by kernel_rfl) ?_; simp (maxDischargeDepth := 12) (maxSteps := 1000000) -implicitDefEqProofs only [Try.ntmps19, go_sem, Nat.reduceAdd, Nat.reduceSub, Nat.reduceMul, Nat.reduceLeDiff, Nat.reduceEqDiff, Nat.reduceGT, Nat.reduceBEq, reduceCtorEq, ↓reduceIte, Int.reduceToNat, Int.reduceLE, Int.reduceLT, Int.reduceNe, Int.reduceEq,  hb]
  refine use1 hh ?_ (by simp (maxDischargeDepth := 12) (maxSteps := 1000000) -implicitDefEqProofs only [go_sem, Nat.reduceAdd, Nat.reduceSub, Nat.reduceMul, Nat.reduceLeDiff, Nat.reduceEqDiff, Nat.reduceGT, Nat.reduceBEq, reduceCtorEq, ↓reduceIte, Int.reduceToNat, Int.reduceLE, Int.reduceLT, Int.reduceNe, Int.reduceEq])
  by_cases h0 : c = 0
  · subst h0
    simp (maxDischargeDepth := 12) (maxSteps := 1000000) -implicitDefEqProofs only [go_sem, Nat.reduceAdd, Nat.reduceSub, Nat.reduceMul, Nat.reduceLeDiff, Nat.reduceEqDiff, Nat.reduceGT, Nat.reduceBEq, reduceCtorEq, ↓reduceIte, Int.reduceToNat, Int.reduceLE, Int.reduceLT, Int.reduceNe, Int.reduceEq]
  · rw [if_neg h0] at hc
    have e1 : IntKind.i64.wrap ((c : Int) - 1) = ((c - 1 : Nat) : Int) := by rw [w64 (by omega) (by omega)]; omega
    have hne : ¬ (c : Int) = 0 := by omega
    simp (maxDischargeDepth := 12) (maxSteps := 1000000) -implicitDefEqProofs only [go_sem, Nat.reduceAdd, Nat.reduceSub, Nat.reduceMul, Nat.reduceLeDiff, Nat.reduceEqDiff, Nat.reduceGT, Nat.reduceBEq, reduceCtorEq, ↓reduceIte, Int.reduceToNat, Int.reduceLE, Int.reduceLT, Int.reduceNe, Int.reduceEq, hb, hl, hc, e1, hne, mGet_set_same, lk_up_same, Option.map_some, up_up]
    have hd : decide (c ≠ 0) = true := by simp [h0]
    refine ⟨fun h => ⟨by rw [hd], .inr (.inl ⟨by omega, mClk es clk (.int .u64 v), ?_⟩)⟩, fun h => ⟨by rw [hd], .inr (.inr ⟨by omega, _, rfl⟩)⟩⟩
    have h1 : ((c - 1 : Nat) : Int) = 0 := h
    rw [h1]
end Go.Proofs.Ytkibkahknibgfaa

namespace Go.Proofs.Ytkibkahknibgfaa
open Aml Go
set_option linter.unusedVariables false
set_option linter.unusedSimpArgs false
set_option maxRecDepth 100000

def rowA {α : Type} (f : α → DV) (d : Array α) : List DV := d.toList.map f
theorem len_row {α : Type} (f : α → DV) (d : Array α) : (rowA f d).length = d.size := by simp [rowA]
theorem ex_row {α : Type} [Inhabited α] (f : α → DV) (d : Array α) (i : Nat) (F : DV → Prop) : exK (rowA f d) i F = (i < d.size ∧ okE (f d[i]!) = true ∧ F (f d[i]!)) := by
  unfold rowA
  rw [q_ex_map]
  refine propext ⟨fun h => ⟨by simpa using h.1, h.2 _ ?_⟩, fun h => ⟨by simpa using h.1, fun a ha => ?_⟩⟩
  · have h1 : i < d.size := by simpa using h.1
    rw [getElem!_pos d i h1]; simp [h1]
  · have h1 : i < d.size := h.1
    rw [getElem!_pos d i h1] at h
    have : a = d[i] := by simpa [h1] using ha.symm
    rw [this]; exact h.2
theorem row_set {α : Type} (f : α → DV) (d : Array α) (i : Nat) (x : α) : (rowA f d).set i (f x) = rowA f (d.setIfInBounds i x) := by simp [rowA, List.map_set]
theorem row_setU (d : Array Int) (i : Nat) (x : Int) : (rowA dU d).set i (.v (.int .u64 x)) = rowA dU (d.setIfInBounds i x) := row_set dU d i x
theorem swp_fold {α : Type} [Inhabited α] (d : Array α) (i j : Nat) : (d.setIfInBounds i d[j]!).setIfInBounds j d[i]! = Go.Sort.swp d i j := rfl
theorem swp_size {α : Type} [Inhabited α] (d : Array α) (i j : Nat) : (Go.Sort.swp d i j).size = d.size := by simp [Go.Sort.swp]
attribute [go_sem] len_row ex_row row_set row_setU lk_up_same up_up Option.map_some Array.size_setIfInBounds swp_fold swp_size

theorem cmpNaNU (w0 : W0) (x : Int) (S : St) : ACall Try.prog w0 136 [dU x] S (fun d S' => d = dB false ∧ S' = S) := by
  refine fnS [] mx Try.func136 rfl rfl (by kernel_rfl) ?_; simp (maxDischargeDepth := 12) (maxSteps := 1000000) -implicitDefEqProofs only [Try.ntmps136, go_sem, Nat.reduceAdd, Nat.reduceSub, Nat.reduceMul, Nat.reduceLeDiff, Nat.reduceEqDiff, Nat.reduceGT, Nat.reduceBEq, reduceCtorEq, ↓reduceIte, Int.reduceToNat, Int.reduceLE, Int.reduceLT, Int.reduceNe, Int.reduceEq]
theorem lessU (w0 : W0) (x y : Int) (S : St) : ACall Try.prog w0 125 [dU x, dU y] S (fun d S' => d = dB (decide (x < y)) ∧ S' = S) := by
  refine fnS [] mx Try.func125 rfl rfl (by kernel_rfl) ?_; simp (maxDischargeDepth := 12) (maxSteps := 1000000) -implicitDefEqProofs only [Try.ntmps125, go_sem, Nat.reduceAdd, Nat.reduceSub, Nat.reduceMul, Nat.reduceLeDiff, Nat.reduceEqDiff, Nat.reduceGT, Nat.reduceBEq, reduceCtorEq, ↓reduceIte, Int.reduceToNat, Int.reduceLE, Int.reduceLT, Int.reduceNe, Int.reduceEq]
  refine use1 (cmpNaNU w0 x _) ?_ (by simp (maxDischargeDepth := 12) (maxSteps := 1000000) -implicitDefEqProofs only [go_sem, Nat.reduceAdd, Nat.reduceSub, Nat.reduceMul, Nat.reduceLeDiff, Nat.reduceEqDiff, Nat.reduceGT, Nat.reduceBEq, reduceCtorEq, ↓reduceIte, Int.reduceToNat, Int.reduceLE, Int.reduceLT, Int.reduceNe, Int.reduceEq])
  simp (maxDischargeDepth := 12) (maxSteps := 1000000) -implicitDefEqProofs only [go_sem, Nat.reduceAdd, Nat.reduceSub, Nat.reduceMul, Nat.reduceLeDiff, Nat.reduceEqDiff, Nat.reduceGT, Nat.reduceBEq, reduceCtorEq, ↓reduceIte, Int.reduceToNat, Int.reduceLE, Int.reduceLT, Int.reduceNe, Int.reduceEq]
theorem order2U (w0 : W0) (d : Array Int) {l s : Nat} {o : Ob} {a b : Nat} {k : Int} {S : St} (hl : lk S.acc l = some o) (hs : lk S.box s = some [dI k]) (ha : a < d.size) (hb : b < d.size) (hd : d.size < 2 ^ 60) :
    ACall Try.prog w0 138 [.acc l d.size, dI a, dI b, .v (.pointer (some ⟨s, 0, none⟩))] (⟨S.box, up S.acc l (.arr 1 (rowA dU (d)))⟩ : St) (fun e S' => ∃ (x y : Nat) (k' : Int), e = .tup [dI x, dI y] ∧ (x = a ∨ x = b) ∧ (y = a ∨ y = b) ∧ S' = ⟨up S.box s [dI k'], up S.acc l (.arr 1 (rowA dU d))⟩) := by
  refine fnO [] mx Try.func138 rfl rfl (by kernel_rfl) ?_; simp (maxDischargeDepth := 12) (maxSteps := 1000000) -implicitDefEqProofs only [Try.ntmps138, go_sem, Nat.reduceAdd, Nat.reduceSub, Nat.reduceMul, Nat.reduceLeDiff, Nat.reduceEqDiff, Nat.reduceGT, Nat.reduceBEq, reduceCtorEq, ↓reduceIte, Int.reduceToNat, Int.reduceLE, Int.reduceLT, Int.reduceNe, Int.reduceEq,  hl, hs, ha, hb]
  refine useQ (lessU w0 _ _ _) ?_
  simp (maxDischargeDepth := 12) (maxSteps := 1000000) -implicitDefEqProofs only [go_sem, Nat.reduceAdd, Nat.reduceSub, Nat.reduceMul, Nat.reduceLeDiff, Nat.reduceEqDiff, Nat.reduceGT, Nat.reduceBEq, reduceCtorEq, ↓reduceIte, Int.reduceToNat, Int.reduceLE, Int.reduceLT, Int.reduceNe, Int.reduceEq, hs]
  refine ⟨fun h => ?_, fun h => ?_⟩
  · exact ⟨b, a, _, rfl, .inr rfl, .inl rfl, rfl⟩
  · exact ⟨a, b, k, rfl, .inl rfl, .inr rfl, by show _ = (⟨up S.box s [dI k], _⟩ : St); rw [up_self hs]⟩
theorem medianU (w0 : W0) (d : Array Int) {l s : Nat} {o : Ob} {a b c : Nat} {k : Int} {S : St} (hl : lk S.acc l = some o) (hs : lk S.box s = some [dI k]) (ha : a < d.size) (hb : b < d.size) (hc : c < d.size) (hd : d.size < 2 ^ 60) :
    ACall Try.prog w0 135 [.acc l d.size, dI a, dI b, dI c, .v (.pointer (some ⟨s, 0, none⟩))] (⟨S.box, up S.acc l (.arr 1 (rowA dU (d)))⟩ : St) (fun e S' => ∃ (x : Nat) (k' : Int), e = dI x ∧ (x = a ∨ x = b ∨ x = c) ∧ S' = ⟨up S.box s [dI k'], up S.acc l (.arr 1 (rowA dU d))⟩) := by
  refine fnO [] mx Try.func135 rfl rfl (by kernel_rfl) ?_; simp (maxDischargeDepth := 12) (maxSteps := 1000000) -implicitDefEqProofs only [Try.ntmps135, go_sem, Nat.reduceAdd, Nat.reduceSub, Nat.reduceMul, Nat.reduceLeDiff, Nat.reduceEqDiff, Nat.reduceGT, Nat.reduceBEq, reduceCtorEq, ↓reduceIte, Int.reduceToNat, Int.reduceLE, Int.reduceLT, Int.reduceNe, Int.reduceEq,  hl]
  refine .inl (useK (order2U w0 d (S := S) hl hs ha hb hd) ?_)
  rintro _ _ ⟨x, y, k1, rfl, hx, hy, rfl⟩
  simp (maxDischargeDepth := 12) (maxSteps := 1000000) -implicitDefEqProofs only [go_sem, Nat.reduceAdd, Nat.reduceSub, Nat.reduceMul, Nat.reduceLeDiff, Nat.reduceEqDiff, Nat.reduceGT, Nat.reduceBEq, reduceCtorEq, ↓reduceIte, Int.reduceToNat, Int.reduceLE, Int.reduceLT, Int.reduceNe, Int.reduceEq, hl]
  refine .inl (useK (order2U w0 d (S := ⟨up S.box s [dI k1], S.acc⟩) (l := l) (s := s) (a := y) (b := c) (k := k1) hl (by rw [lk_up_same, hs]; rfl) (by rcases hy with rfl | rfl <;> assumption) hc hd) ?_)
  rintro _ _ ⟨x2, y2, k2, rfl, hx2, hy2, rfl⟩
  simp (maxDischargeDepth := 12) (maxSteps := 1000000) -implicitDefEqProofs only [go_sem, Nat.reduceAdd, Nat.reduceSub, Nat.reduceMul, Nat.reduceLeDiff, Nat.reduceEqDiff, Nat.reduceGT, Nat.reduceBEq, reduceCtorEq, ↓reduceIte, Int.reduceToNat, Int.reduceLE, Int.reduceLT, Int.reduceNe, Int.reduceEq, hl]
  refine .inl (useK (order2U w0 d (S := ⟨up S.box s [dI k2], S.acc⟩) (l := l) (s := s) (a := x) (b := x2) (k := k2) hl (by rw [lk_up_same, hs]; rfl) (by rcases hx with rfl | rfl <;> assumption) (by rcases hx2 with rfl | rfl <;> rcases hy with rfl | rfl <;> assumption) hd) ?_)
  rintro _ _ ⟨x3, y3, k3, rfl, hx3, hy3, rfl⟩
  simp (maxDischargeDepth := 12) (maxSteps := 1000000) -implicitDefEqProofs only [go_sem, Nat.reduceAdd, Nat.reduceSub, Nat.reduceMul, Nat.reduceLeDiff, Nat.reduceEqDiff, Nat.reduceGT, Nat.reduceBEq, reduceCtorEq, ↓reduceIte, Int.reduceToNat, Int.reduceLE, Int.reduceLT, Int.reduceNe, Int.reduceEq, hl]
  refine ⟨y3, k3, rfl, ?_, rfl⟩
  rcases hy3 with rfl | rfl
  · rcases hx with rfl | rfl
    · exact .inl rfl
    · exact .inr (.inl rfl)
  · rcases hx2 with rfl | rfl
    · rcases hy with rfl | rfl
      · exact .inl rfl
      · exact .inr (.inl rfl)
    · exact .inr (.inr rfl)
theorem medAdjU (w0 : W0) (d : Array Int) {l s : Nat} {o : Ob} {a : Nat} {k : Int} {S : St} (hl : lk S.acc l = some o) (hs : lk S.box s = some [dI k]) (ha : 0 < a) (hb : a + 1 < d.size) (hd : d.size < 2 ^ 60) :
    ACall Try.prog w0 134 [.acc l d.size, dI a, .v (.pointer (some ⟨s, 0, none⟩))] (⟨S.box, up S.acc l (.arr 1 (rowA dU (d)))⟩ : St) (fun e S' => ∃ (x : Nat) (k' : Int), e = dI x ∧ (a - 1 ≤ x ∧ x ≤ a + 1) ∧ S' = ⟨up S.box s [dI k'], up S.acc l (.arr 1 (rowA dU d))⟩) := by
  have e1 : IntKind.i64.wrap ((a : Int) - 1) = ((a - 1 : Nat) : Int) := by rw [w64 (by omega) (by omega)]; omega
  have e2 : IntKind.i64.wrap ((a : Int) + 1) = ((a + 1 : Nat) : Int) := by rw [w64 (by omega) (by omega)]; omega
  refine fnO [] mx Try.func134 rfl rfl (by kernel_rfl) ?_; simp (maxDischargeDepth := 12) (maxSteps := 1000000) -implicitDefEqProofs only [Try.ntmps134, go_sem, Nat.reduceAdd, Nat.reduceSub, Nat.reduceMul, Nat.reduceLeDiff, Nat.reduceEqDiff, Nat.reduceGT, Nat.reduceBEq, reduceCtorEq, ↓reduceIte, Int.reduceToNat, Int.reduceLE, Int.reduceLT, Int.reduceNe, Int.reduceEq,  hl, e1, e2]
  refine .inl (useK (medianU w0 d (S := S) (l := l) (s := s) (a := a - 1) (b := a) (c := a + 1) hl hs (by omega) (by omega) hb hd) ?_)
  rintro _ _ ⟨x, k1, rfl, hx, rfl⟩
  simp (maxDischargeDepth := 12) (maxSteps := 1000000) -implicitDefEqProofs only [go_sem, Nat.reduceAdd, Nat.reduceSub, Nat.reduceMul, Nat.reduceLeDiff, Nat.reduceEqDiff, Nat.reduceGT, Nat.reduceBEq, reduceCtorEq, ↓reduceIte, Int.reduceToNat, Int.reduceLE, Int.reduceLT, Int.reduceNe, Int.reduceEq, hl]
  exact ⟨x, k1, rfl, by omega, rfl⟩
theorem pivotU (w0 : W0) (d : Array Int) {l : Nat} {o : Ob} {a b : Nat} {S : St} (hl : lk S.acc l = some o) (hab : a < b) (hb : b ≤ d.size) (hd : d.size < 2 ^ 60) :
    ACall Try.prog w0 122 [.acc l d.size, dI a, dI b] (⟨S.box, up S.acc l (.arr 1 (rowA dU (d)))⟩ : St) (fun e S' => ∃ (x h : Nat), e = .tup [dI x, dI h] ∧ (a ≤ x ∧ x < b) ∧ S' = (⟨S.box, up S.acc l (.arr 1 (rowA dU (d)))⟩ : St)) := by
  have e1 : IntKind.i64.wrap ((b : Int) - (a : Int)) = ((b - a : Nat) : Int) := by rw [w64 (by omega) (by omega)]; omega
  have e2 : IntKind.i64.wrap (((b - a : Nat) : Int).tdiv 4) = (((b - a) / 4 : Nat) : Int) := by rw [Int.tdiv_eq_ediv_of_nonneg (by omega), w64 (by omega) (by omega)]; omega
  have e3 : ∀ q : Nat, 1 ≤ q → q ≤ 3 → IntKind.i64.wrap ((((b - a) / 4 : Nat) : Int) * (q : Int)) = (((b - a) / 4 * q : Nat) : Int) := fun q h1 h2 => by
    have : (b - a) / 4 * q ≤ (b - a) / 4 * 3 := Nat.mul_le_mul_left _ h2
    rw [w64 (by have : (0 : Int) ≤ (((b - a) / 4 * q : Nat) : Int) := by omega
                rw [← Int.natCast_mul]; omega) (by rw [← Int.natCast_mul]; omega), Int.natCast_mul]
  have e4 : ∀ q : Nat, 1 ≤ q → q ≤ 3 → IntKind.i64.wrap ((a : Int) + (((b - a) / 4 * q : Nat) : Int)) = ((a + (b - a) / 4 * q : Nat) : Int) := fun q h1 h2 => by
    have : (b - a) / 4 * q ≤ (b - a) / 4 * 3 := Nat.mul_le_mul_left _ h2
    rw [w64 (by omega) (by omega)]; omega
  have e31 := e3 1 (by omega) (by omega)
  have e32 := e3 2 (by omega) (by omega)
  have e33 := e3 3 (by omega) (by omega)
  have e41 := e4 1 (by omega) (by omega)
  have e42 := e4 2 (by omega) (by omega)
  have e43 := e4 3 (by omega) (by omega)
  simp only [Int.natCast_one, Int.cast_ofNat_Int] at e31 e32 e33
  refine fnP [] mx Try.func122 rfl rfl (by kernel_rfl) ?_; simp (maxDischargeDepth := 12) (maxSteps := 1000000) -implicitDefEqProofs only [Try.ntmps122, go_sem, Nat.reduceAdd, Nat.reduceSub, Nat.reduceMul, Nat.reduceLeDiff, Nat.reduceEqDiff, Nat.reduceGT, Nat.reduceBEq, reduceCtorEq, ↓reduceIte, Int.reduceToNat, Int.reduceLE, Int.reduceLT, Int.reduceNe, Int.reduceEq,  hl, e1, e2, e31, e32, e33, e41, e42, e43]
  intro s
  have hq : (b - a) / 4 * 4 ≤ b - a := Nat.div_mul_le_self _ _
  have fin : ∀ (x : Nat) (k : Int) (h : Nat), a ≤ x → x < b → ∃ (d' : DV) (S'' : St), Wk (.tup [dI x, dI h]) d' ∧ Aml.Sub S'' ⟨(s.n, [dI k]) :: S.box, up S.acc l (.arr 1 (rowA dU d))⟩ ∧ ∃ (x h : Nat), d' = .tup [dI x, dI h] ∧ (a ≤ x ∧ x < b) ∧ S'' = (⟨S.box, up S.acc l (.arr 1 (rowA dU (d)))⟩ : St) := fun x k h h1 h2 =>
    ⟨_, _, .refl _, (Sub.refl _).consB, x, h, rfl, ⟨h1, h2⟩, rfl⟩
  refine ⟨fun h8 => ⟨fun h50 => ?_, fun h50 => ?_⟩, fun h8 => ?_⟩
  · refine .inl (useK (medAdjU w0 d (S := ⟨(s.n, [dI 0]) :: S.box, S.acc⟩) (l := l) (s := s.n) (k := 0) (a := a + (b - a) / 4 * 1) hl (by simp [lk]) (by omega) (by omega) hd) ?_)
    rintro _ _ ⟨x1, k1, rfl, hx1, rfl⟩
    simp (maxDischargeDepth := 12) (maxSteps := 1000000) -implicitDefEqProofs only [go_sem, Nat.reduceAdd, Nat.reduceSub, Nat.reduceMul, Nat.reduceLeDiff, Nat.reduceEqDiff, Nat.reduceGT, Nat.reduceBEq, reduceCtorEq, ↓reduceIte, Int.reduceToNat, Int.reduceLE, Int.reduceLT, Int.reduceNe, Int.reduceEq, hl]
    refine .inl (useK (medAdjU w0 d (S := ⟨(s.n, [dI k1]) :: S.box, S.acc⟩) (l := l) (s := s.n) (k := k1) (a := a + (b - a) / 4 * 2) hl (by simp [lk]) (by omega) (by omega) hd) ?_)
    rintro _ _ ⟨x2, k2, rfl, hx2, rfl⟩
    simp (maxDischargeDepth := 12) (maxSteps := 1000000) -implicitDefEqProofs only [go_sem, Nat.reduceAdd, Nat.reduceSub, Nat.reduceMul, Nat.reduceLeDiff, Nat.reduceEqDiff, Nat.reduceGT, Nat.reduceBEq, reduceCtorEq, ↓reduceIte, Int.reduceToNat, Int.reduceLE, Int.reduceLT, Int.reduceNe, Int.reduceEq, hl]
    refine .inl (useK (medAdjU w0 d (S := ⟨(s.n, [dI k2]) :: S.box, S.acc⟩) (l := l) (s := s.n) (k := k2) (a := a + (b - a) / 4 * 3) hl (by simp [lk]) (by omega) (by omega) hd) ?_)
    rintro _ _ ⟨x3, k3, rfl, hx3, rfl⟩
    simp (maxDischargeDepth := 12) (maxSteps := 1000000) -implicitDefEqProofs only [go_sem, Nat.reduceAdd, Nat.reduceSub, Nat.reduceMul, Nat.reduceLeDiff, Nat.reduceEqDiff, Nat.reduceGT, Nat.reduceBEq, reduceCtorEq, ↓reduceIte, Int.reduceToNat, Int.reduceLE, Int.reduceLT, Int.reduceNe, Int.reduceEq, hl]
    refine .inl (useK (medianU w0 d (S := ⟨(s.n, [dI k3]) :: S.box, S.acc⟩) (l := l) (s := s.n) (a := x1) (b := x2) (c := x3) (k := k3) hl (by simp [lk]) (by omega) (by omega) (by omega) hd) ?_)
    rintro _ _ ⟨x, k, rfl, hx, rfl⟩
    simp (maxDischargeDepth := 12) (maxSteps := 1000000) -implicitDefEqProofs only [go_sem, Nat.reduceAdd, Nat.reduceSub, Nat.reduceMul, Nat.reduceLeDiff, Nat.reduceEqDiff, Nat.reduceGT, Nat.reduceBEq, reduceCtorEq, ↓reduceIte, Int.reduceToNat, Int.reduceLE, Int.reduceLT, Int.reduceNe, Int.reduceEq, hl]
    have hxa : a ≤ x ∧ x < b := by omega
    exact ⟨fun _ => fin x k 1 hxa.1 hxa.2, fun _ => ⟨fun _ => fin x k 2 hxa.1 hxa.2, fun _ => fin x k 0 hxa.1 hxa.2⟩⟩
  · refine .inl (useK (medianU w0 d (S := ⟨(s.n, [dI 0]) :: S.box, S.acc⟩) (l := l) (s := s.n) (a := a + (b - a) / 4 * 1) (b := a + (b - a) / 4 * 2) (c := a + (b - a) / 4 * 3) (k := 0) hl (by simp [lk]) (by omega) (by omega) (by omega) hd) ?_)
    rintro _ _ ⟨x, k, rfl, hx, rfl⟩
    simp (maxDischargeDepth := 12) (maxSteps := 1000000) -implicitDefEqProofs only [go_sem, Nat.reduceAdd, Nat.reduceSub, Nat.reduceMul, Nat.reduceLeDiff, Nat.reduceEqDiff, Nat.reduceGT, Nat.reduceBEq, reduceCtorEq, ↓reduceIte, Int.reduceToNat, Int.reduceLE, Int.reduceLT, Int.reduceNe, Int.reduceEq, hl]
    have hxa : a ≤ x ∧ x < b := by omega
    exact ⟨fun _ => fin x k 1 hxa.1 hxa.2, fun _ => ⟨fun _ => fin x k 2 hxa.1 hxa.2, fun _ => fin x k 0 hxa.1 hxa.2⟩⟩
  · exact fin _ _ 1 (by omega) (by omega)
theorem reverseU (w0 : W0) (d : Array Int) {l : Nat} {o : Ob} {a b : Nat} {S : St} (hl : lk S.acc l = some o) (hab : a < b) (hb : b ≤ d.size) (hd : d.size < 2 ^ 60) :
    ACall Try.prog w0 123 [.acc l d.size, dI a, dI b] (⟨S.box, up S.acc l (.arr 1 (rowA dU (d)))⟩ : St) (fun e S' => e = .tup [] ∧ S' = (⟨S.box, up S.acc l (.arr 1 (rowA dU (Go.Sort.reverseRange d a b)))⟩ : St)) := by
  have e1 : IntKind.i64.wrap ((b : Int) - 1) = ((b - 1 : Nat) : Int) := by rw [w64 (by omega) (by omega)]; omega
  refine fnO [] mx Try.func123 rfl rfl (by kernel_rfl) ?_; simp (maxDischargeDepth := 12) (maxSteps := 1000000) -implicitDefEqProofs only [Try.ntmps123, go_sem, Nat.reduceAdd, Nat.reduceSub, Nat.reduceMul, Nat.reduceLeDiff, Nat.reduceEqDiff, Nat.reduceGT, Nat.reduceBEq, reduceCtorEq, ↓reduceIte, Int.reduceToNat, Int.reduceLE, Int.reduceLT, Int.reduceNe, Int.reduceEq,  hl, e1]
  refine loopK [3] [0, 6, 7] (fun s : Nat × Nat × Array Int => [(6, dI s.1), (7, dI s.2.1)]) (fun s => (⟨S.box, up S.acc l (.arr 1 (rowA dU (s.2.2)))⟩ : St)) (fun s => s.1 ≤ s.2.1 + 1 ∧ s.2.1 < d.size ∧ s.2.2.size = d.size ∧ Go.Sort.reverseLoop s.1 s.2.1 s.2.2 = Go.Sort.reverseRange d a b) (fun s => s.2.1 - s.1) (a, b - 1, d) mx (by kernel_rfl) ?_ ?_
  · refine ⟨⟨by show a ≤ b - 1 + 1; omega, by show b - 1 < d.size; omega, rfl, rfl⟩, ?_, ?_⟩ <;> simp (maxDischargeDepth := 12) (maxSteps := 1000000) -implicitDefEqProofs only [go_sem, Nat.reduceAdd, Nat.reduceSub, Nat.reduceMul, Nat.reduceLeDiff, Nat.reduceEqDiff, Nat.reduceGT, Nat.reduceBEq, reduceCtorEq, ↓reduceIte, Int.reduceToNat, Int.reduceLE, Int.reduceLT, Int.reduceNe, Int.reduceEq]
  · rintro ⟨i, j, c⟩ ⟨hi, hj, hc, hr⟩
    simp only at hi hj hc hr
    simp (maxDischargeDepth := 12) (maxSteps := 1000000) -implicitDefEqProofs only [go_sem, Nat.reduceAdd, Nat.reduceSub, Nat.reduceMul, Nat.reduceLeDiff, Nat.reduceEqDiff, Nat.reduceGT, Nat.reduceBEq, reduceCtorEq, ↓reduceIte, Int.reduceToNat, Int.reduceLE, Int.reduceLT, Int.reduceNe, Int.reduceEq, hl]
    refine ⟨fun h => lexK mx (by kernel_rfl) ?_, fun h => ?_⟩
    · have e3 : IntKind.i64.wrap ((i : Int) + 1) = ((i + 1 : Nat) : Int) := by rw [w64 (by omega) (by omega)]; omega
      have e4 : IntKind.i64.wrap ((j : Int) - 1) = ((j - 1 : Nat) : Int) := by rw [w64 (by omega) (by omega)]; omega
      have hi' : i < d.size := by omega
      simp (maxDischargeDepth := 12) (maxSteps := 1000000) -implicitDefEqProofs only [go_sem, Nat.reduceAdd, Nat.reduceSub, Nat.reduceMul, Nat.reduceLeDiff, Nat.reduceEqDiff, Nat.reduceGT, Nat.reduceBEq, reduceCtorEq, ↓reduceIte, Int.reduceToNat, Int.reduceLE, Int.reduceLT, Int.reduceNe, Int.reduceEq, hl, hc, hi', hj, e3, e4]
      refine ⟨(i + 1, j - 1, Go.Sort.swp c i j), ⟨by show i + 1 ≤ j - 1 + 1; omega, by show j - 1 < d.size; omega, by rw [swp_size]; exact hc, ?_⟩, by show j - 1 - (i + 1) < j - i; omega, ⟨rfl, rfl⟩, .refl _⟩
      rw [← hr, Go.Sort.reverseLoop.eq_1 i j c, if_pos h]
    · rw [← hr, Go.Sort.reverseLoop.eq_1 i j c, if_neg h]
end Go.Proofs.Ytkibkahknibgfaa

namespace Go.Proofs.Ytkibkahknibgfaa
open Aml Go
set_option linter.unusedVariables false
set_option linter.unusedSimpArgs false
set_option maxRecDepth 100000
theorem i_add (i : Nat) (q : Nat) (h : i < 2 ^ 61) (hq : q ≤ 2 ^ 61) : IntKind.i64.wrap ((i : Int) + (q : Int)) = ((i + q : Nat) : Int) := by rw [w64 (by omega) (by omega)]; omega
theorem i_one (i : Nat) (h : i < 2 ^ 61) : IntKind.i64.wrap ((i : Int) + 1) = ((i + 1 : Nat) : Int) := i_add i 1 h (by decide)
theorem i_pre (i : Nat) (h : i < 2 ^ 61) : IntKind.i64.wrap (((i + 1 : Nat) : Int) - 1) = (i : Int) := by rw [w64 (by omega) (by omega)]; omega
theorem i_sub (i j : Nat) (h : i < 2 ^ 61) (hj : j ≤ i) : IntKind.i64.wrap ((i : Int) - (j : Int)) = ((i - j : Nat) : Int) := by rw [w64 (by omega) (by omega)]; omega
theorem insertU (w0 : W0) (d : Array Int) {l : Nat} {o : Ob} {a b : Nat} {S : St} (hl : lk S.acc l = some o) (hab : a ≤ b) (hb : b ≤ d.size) (hd : d.size < 2 ^ 60) :
    ACall Try.prog w0 119 [.acc l d.size, dI a, dI b] (⟨S.box, up S.acc l (.arr 1 (rowA dU (d)))⟩ : St) (fun e S' => e = .tup [] ∧ S' = (⟨S.box, up S.acc l (.arr 1 (rowA dU (Go.Sort.insertionSort Go.Sort.ltInt d a b)))⟩ : St)) := by
  have e1 := i_one a (by omega)
  refine fnO [] mx Try.func119 rfl rfl (by kernel_rfl) ?_; simp (maxDischargeDepth := 12) (maxSteps := 1000000) -implicitDefEqProofs only [Try.ntmps119, go_sem, Nat.reduceAdd, Nat.reduceSub, Nat.reduceMul, Nat.reduceLeDiff, Nat.reduceEqDiff, Nat.reduceGT, Nat.reduceBEq, reduceCtorEq, ↓reduceIte, Int.reduceToNat, Int.reduceLE, Int.reduceLT, Int.reduceNe, Int.reduceEq,  hl, e1]
  refine loopK [6] [0, 1, 2, 6] (fun s : Nat × Array Int => [(6, dI s.1)]) (fun s => (⟨S.box, up S.acc l (.arr 1 (rowA dU (s.2)))⟩ : St)) (fun s => a < s.1 ∧ s.1 ≤ b + 1 ∧ s.2.size = d.size ∧ Go.Sort.insOuter Go.Sort.ltInt a b s.1 s.2 = Go.Sort.insertionSort Go.Sort.ltInt d a b) (fun s => b + 1 - s.1) (a + 1, d) mx (by kernel_rfl) ?_ ?_
  · refine ⟨⟨by show a < a + 1; omega, by show a + 1 ≤ b + 1; omega, rfl, rfl⟩, ?_, ?_⟩ <;> simp (maxDischargeDepth := 12) (maxSteps := 1000000) -implicitDefEqProofs only [go_sem, Nat.reduceAdd, Nat.reduceSub, Nat.reduceMul, Nat.reduceLeDiff, Nat.reduceEqDiff, Nat.reduceGT, Nat.reduceBEq, reduceCtorEq, ↓reduceIte, Int.reduceToNat, Int.reduceLE, Int.reduceLT, Int.reduceNe, Int.reduceEq]
  · rintro ⟨i, c⟩ ⟨hi, hib, hc, hr⟩
    simp only at hi hib hc hr
    rw [Go.Sort.insOuter.eq_1] at hr
    simp (maxDischargeDepth := 12) (maxSteps := 1000000) -implicitDefEqProofs only [go_sem, Nat.reduceAdd, Nat.reduceSub, Nat.reduceMul, Nat.reduceLeDiff, Nat.reduceEqDiff, Nat.reduceGT, Nat.reduceBEq, reduceCtorEq, ↓reduceIte, Int.reduceToNat, Int.reduceLE, Int.reduceLT, Int.reduceNe, Int.reduceEq, hl]
    refine ⟨fun h => ?_, fun h => ?_⟩
    · rw [if_pos h] at hr
      have e2 := i_one i (by omega)
      refine loopK [6] [0, 1, 2, 6, 7] (fun s : Nat × Array Int => [(7, dI s.1)]) (fun s => (⟨S.box, up S.acc l (.arr 1 (rowA dU (s.2)))⟩ : St)) (fun s => a ≤ s.1 ∧ s.1 ≤ i ∧ s.2.size = d.size ∧ Go.Sort.insInner Go.Sort.ltInt a s.1 s.2 = Go.Sort.insInner Go.Sort.ltInt a i c) (fun s => s.1) (i, c) mx (by kernel_rfl) ?_ ?_
      · refine ⟨⟨by show a ≤ i; omega, by show i ≤ i; omega, hc, rfl⟩, ?_, ?_⟩ <;> simp (maxDischargeDepth := 12) (maxSteps := 1000000) -implicitDefEqProofs only [go_sem, Nat.reduceAdd, Nat.reduceSub, Nat.reduceMul, Nat.reduceLeDiff, Nat.reduceEqDiff, Nat.reduceGT, Nat.reduceBEq, reduceCtorEq, ↓reduceIte, Int.reduceToNat, Int.reduceLE, Int.reduceLT, Int.reduceNe, Int.reduceEq]
      · rintro ⟨j, c2⟩ ⟨hj, hji, hc2, hr2⟩
        simp only at hj hji hc2 hr2
        have nxt : Go.Sort.insInner Go.Sort.ltInt a i c = c2 → ∃ s' : Nat × Array Int, (a < s'.1 ∧ s'.1 ≤ b + 1 ∧ s'.2.size = d.size ∧ Go.Sort.insOuter Go.Sort.ltInt a b s'.1 s'.2 = Go.Sort.insertionSort Go.Sort.ltInt d a b) ∧ b + 1 - s'.1 < b + 1 - i ∧ IntKind.i64.wrap ((i : Int) + 1) = (s'.1 : Int) ∧ Aml.Sub (⟨S.box, up S.acc l (.arr 1 (rowA dU (s'.2)))⟩ : St) (⟨S.box, up S.acc l (.arr 1 (rowA dU (c2)))⟩ : St) := fun he =>
          ⟨(i + 1, c2), ⟨by show a < i + 1; omega, by show i + 1 ≤ b + 1; omega, hc2, by rw [← hr, he]⟩, by show b + 1 - (i + 1) < b + 1 - i; omega, e2, .refl _⟩
        cases j with
        | zero =>
          simp (maxDischargeDepth := 12) (maxSteps := 1000000) -implicitDefEqProofs only [go_sem, Nat.reduceAdd, Nat.reduceSub, Nat.reduceMul, Nat.reduceLeDiff, Nat.reduceEqDiff, Nat.reduceGT, Nat.reduceBEq, reduceCtorEq, ↓reduceIte, Int.reduceToNat, Int.reduceLE, Int.reduceLT, Int.reduceNe, Int.reduceEq, hl, hc2]
          exact ⟨fun h => absurd h (by omega), fun _ => nxt (by rw [← hr2]; rfl)⟩
        | succ j =>
          have e3 := i_pre j (by omega)
          have hj1 : j + 1 < d.size := by omega
          have hj0 : j < d.size := by omega
          rw [Go.Sort.insInner] at hr2
          simp (maxDischargeDepth := 12) (maxSteps := 1000000) -implicitDefEqProofs only [go_sem, Nat.reduceAdd, Nat.reduceSub, Nat.reduceMul, Nat.reduceLeDiff, Nat.reduceEqDiff, Nat.reduceGT, Nat.reduceBEq, reduceCtorEq, ↓reduceIte, Int.reduceToNat, Int.reduceLE, Int.reduceLT, Int.reduceNe, Int.reduceEq, hl, hc2, e3, hj1, hj0]
          refine ⟨fun h3 => useQ (lessU w0 _ _ _) ?_, fun h3 => nxt (by rw [← hr2, if_neg (by simp [h3])])⟩
          simp (maxDischargeDepth := 12) (maxSteps := 1000000) -implicitDefEqProofs only [go_sem, Nat.reduceAdd, Nat.reduceSub, Nat.reduceMul, Nat.reduceLeDiff, Nat.reduceEqDiff, Nat.reduceGT, Nat.reduceBEq, reduceCtorEq, ↓reduceIte, Int.reduceToNat, Int.reduceLE, Int.reduceLT, Int.reduceNe, Int.reduceEq, hl, hc2, e3, hj1, hj0]
          refine ⟨fun h4 => lexK mx (by kernel_rfl) ?_, fun h4 => nxt (by rw [← hr2, if_neg (by simp [Go.Sort.ltInt, h4])])⟩
          simp (maxDischargeDepth := 12) (maxSteps := 1000000) -implicitDefEqProofs only [go_sem, Nat.reduceAdd, Nat.reduceSub, Nat.reduceMul, Nat.reduceLeDiff, Nat.reduceEqDiff, Nat.reduceGT, Nat.reduceBEq, reduceCtorEq, ↓reduceIte, Int.reduceToNat, Int.reduceLE, Int.reduceLT, Int.reduceNe, Int.reduceEq, hl, hc2, e3, hj1, hj0]
          refine ⟨(j, Go.Sort.swp c2 (j + 1) j), ⟨by show a ≤ j; omega, by show j ≤ i; omega, by rw [swp_size]; exact hc2, ?_⟩, by show j < j + 1; omega, rfl, .refl _⟩
          rw [← hr2, if_pos (by simp [Go.Sort.ltInt, h3, h4])]
    · rw [if_neg h] at hr
      rw [← hr]
theorem siftU (w0 : W0) (d : Array Int) {l : Nat} {o : Ob} {lo hi first : Nat} {S : St} (hl : lk S.acc l = some o) (hb : first + hi ≤ d.size) (hlo : lo ≤ d.size) (hd : d.size < 2 ^ 60) :
    ACall Try.prog w0 133 [.acc l d.size, dI lo, dI hi, dI first] (⟨S.box, up S.acc l (.arr 1 (rowA dU (d)))⟩ : St) (fun e S' => e = .tup [] ∧ S' = (⟨S.box, up S.acc l (.arr 1 (rowA dU (Go.Sort.siftDown Go.Sort.ltInt hi first lo d)))⟩ : St)) := by
  refine fnO [] mx Try.func133 rfl rfl (by kernel_rfl) ?_; simp (maxDischargeDepth := 12) (maxSteps := 1000000) -implicitDefEqProofs only [Try.ntmps133, go_sem, Nat.reduceAdd, Nat.reduceSub, Nat.reduceMul, Nat.reduceLeDiff, Nat.reduceEqDiff, Nat.reduceGT, Nat.reduceBEq, reduceCtorEq, ↓reduceIte, Int.reduceToNat, Int.reduceLE, Int.reduceLT, Int.reduceNe, Int.reduceEq,  hl]
  refine loopK [6] [0, 2, 3, 8] (fun s : Nat × Array Int => [(8, dI s.1)]) (fun s => (⟨S.box, up S.acc l (.arr 1 (rowA dU (s.2)))⟩ : St)) (fun s => s.1 ≤ d.size ∧ s.2.size = d.size ∧ Go.Sort.siftDown Go.Sort.ltInt hi first s.1 s.2 = Go.Sort.siftDown Go.Sort.ltInt hi first lo d) (fun s => d.size - s.1) (lo, d) mx (by kernel_rfl) ?_ ?_
  · refine ⟨⟨hlo, rfl, rfl⟩, ?_, ?_⟩ <;> simp (maxDischargeDepth := 12) (maxSteps := 1000000) -implicitDefEqProofs only [go_sem, Nat.reduceAdd, Nat.reduceSub, Nat.reduceMul, Nat.reduceLeDiff, Nat.reduceEqDiff, Nat.reduceGT, Nat.reduceBEq, reduceCtorEq, ↓reduceIte, Int.reduceToNat, Int.reduceLE, Int.reduceLT, Int.reduceNe, Int.reduceEq]
  · rintro ⟨r, c⟩ ⟨hr, hc, he⟩
    simp only at hr hc he
    rw [Go.Sort.siftDown.eq_1] at he
    have e1 : IntKind.i64.wrap ((2 : Int) * (r : Int)) = ((2 * r : Nat) : Int) := by rw [w64 (by omega) (by omega)]; omega
    have e2 := i_one (2 * r) (by omega)
    by_cases h1 : hi ≤ 2 * r + 1
    · rw [dif_pos h1] at he
      simp (maxDischargeDepth := 12) (maxSteps := 1000000) -implicitDefEqProofs only [go_sem, Nat.reduceAdd, Nat.reduceSub, Nat.reduceMul, Nat.reduceLeDiff, Nat.reduceEqDiff, Nat.reduceGT, Nat.reduceBEq, reduceCtorEq, ↓reduceIte, Int.reduceToNat, Int.reduceLE, Int.reduceLT, Int.reduceNe, Int.reduceEq, hl, hc, e1, e2]
      exact ⟨fun _ => by rw [← he], fun h => absurd h1 h⟩
    · rw [dif_neg h1] at he
      have e3 := i_one (2 * r + 1) (by omega)
      have e4 := i_add first (2 * r + 1) (by omega) (by omega)
      have e5 := i_one (first + (2 * r + 1)) (by omega)
      have e6 := i_add first r (by omega) (by omega)
      have e7 := i_add first (2 * r + 1 + 1) (by omega) (by omega)
      have b1 : first + (2 * r + 1) < d.size := by omega
      have b0 : first + r < d.size := by omega
      have nxt : ∀ ch, ch < hi → r < ch → Go.Sort.siftDown Go.Sort.ltInt hi first ch (Go.Sort.swp c (first + r) (first + ch)) = Go.Sort.siftDown Go.Sort.ltInt hi first lo d →
          ∃ s' : Nat × Array Int, (s'.1 ≤ d.size ∧ s'.2.size = d.size ∧ Go.Sort.siftDown Go.Sort.ltInt hi first s'.1 s'.2 = Go.Sort.siftDown Go.Sort.ltInt hi first lo d) ∧ d.size - s'.1 < d.size - r ∧ ch = s'.1 ∧ Aml.Sub (⟨S.box, up S.acc l (.arr 1 (rowA dU (s'.2)))⟩ : St) (⟨S.box, up S.acc l (.arr 1 (rowA dU (Go.Sort.swp c (first + r) (first + ch))))⟩ : St) := fun ch h2 h3 h4 =>
        ⟨(ch, Go.Sort.swp c (first + r) (first + ch)), ⟨by show ch ≤ d.size; omega, by rw [swp_size]; exact hc, h4⟩, by show d.size - ch < d.size - r; omega, rfl, .refl _⟩
      have b1' : first + (2 * r + 1 + 1) < d.size ∨ hi ≤ 2 * r + 1 + 1 := by omega
      simp (maxDischargeDepth := 12) (maxSteps := 1000000) -implicitDefEqProofs only [go_sem, Nat.reduceAdd, Nat.reduceSub, Nat.reduceMul, Nat.reduceLeDiff, Nat.reduceEqDiff, Nat.reduceGT, Nat.reduceBEq, reduceCtorEq, ↓reduceIte, Int.reduceToNat, Int.reduceLE, Int.reduceLT, Int.reduceNe, Int.reduceEq, hl, hc, e1, e2, e3, e4, e5, e6, e7, b1, b0, h1]
      have lowP : ¬ (2 * r + 1 + 1 < hi ∧ c[first + (2 * r + 1)]! < c[first + (2 * r + 1) + 1]!) → (if (!Go.Sort.ltInt c[first + r]! c[first + (2 * r + 1)]!) = true then c else Go.Sort.siftDown Go.Sort.ltInt hi first (2 * r + 1) (Go.Sort.swp c (first + r) (first + (2 * r + 1)))) = Go.Sort.siftDown Go.Sort.ltInt hi first lo d := fun hn => by
        have h := he
        rw [if_neg (show ¬ ((decide (2 * r + 1 + 1 < hi) && Go.Sort.ltInt c[first + (2 * r + 1)]! c[first + (2 * r + 1) + 1]!) = true) by simp only [Go.Sort.ltInt, Bool.and_eq_true, decide_eq_true_eq]; exact hn)] at h
        exact h
      refine ⟨fun h2 => ⟨by omega, by omega, useQ (lessU w0 _ _ _) ?_⟩, fun h2 => ?_⟩
      · have b2 : first + (2 * r + 1 + 1) < d.size := by omega
        simp (maxDischargeDepth := 12) (maxSteps := 1000000) -implicitDefEqProofs only [go_sem, Nat.reduceAdd, Nat.reduceSub, Nat.reduceMul, Nat.reduceLeDiff, Nat.reduceEqDiff, Nat.reduceGT, Nat.reduceBEq, reduceCtorEq, ↓reduceIte, Int.reduceToNat, Int.reduceLE, Int.reduceLT, Int.reduceNe, Int.reduceEq, hl, hc, e1, e2, e3, e4, e5, e6, e7, b1, b0, h1, b2]
        refine ⟨fun h3 => ?_, fun h3 => ?_⟩
        · rw [if_pos (by simp [Go.Sort.ltInt, h2, h3])] at he
          simp only [show 2 * r + 2 = 2 * r + 1 + 1 from rfl] at he
          refine useQ (lessU w0 _ _ _) ?_
          simp (maxDischargeDepth := 12) (maxSteps := 1000000) -implicitDefEqProofs only [go_sem, Nat.reduceAdd, Nat.reduceSub, Nat.reduceMul, Nat.reduceLeDiff, Nat.reduceEqDiff, Nat.reduceGT, Nat.reduceBEq, reduceCtorEq, ↓reduceIte, Int.reduceToNat, Int.reduceLE, Int.reduceLT, Int.reduceNe, Int.reduceEq, hl, hc, e1, e2, e3, e4, e5, e6, e7, b1, b0, h1, b2]
          refine ⟨fun h5 => ?_, fun h5 => lexK mx (by kernel_rfl) ?_⟩
          · rw [← he, if_pos (by simp [Go.Sort.ltInt]; omega)]
          · simp (maxDischargeDepth := 12) (maxSteps := 1000000) -implicitDefEqProofs only [go_sem, Nat.reduceAdd, Nat.reduceSub, Nat.reduceMul, Nat.reduceLeDiff, Nat.reduceEqDiff, Nat.reduceGT, Nat.reduceBEq, reduceCtorEq, ↓reduceIte, Int.reduceToNat, Int.reduceLE, Int.reduceLT, Int.reduceNe, Int.reduceEq, hl, hc, e1, e2, e3, e4, e5, e6, e7, b1, b0, h1, b2]
            refine nxt (2 * r + 1 + 1) (by omega) (by omega) ?_
            rw [← he, if_neg (by simp [Go.Sort.ltInt]; omega), dif_pos h2]
        · have he := lowP (fun h => h3 h.2)
          refine useQ (lessU w0 _ _ _) ?_
          simp (maxDischargeDepth := 12) (maxSteps := 1000000) -implicitDefEqProofs only [go_sem, Nat.reduceAdd, Nat.reduceSub, Nat.reduceMul, Nat.reduceLeDiff, Nat.reduceEqDiff, Nat.reduceGT, Nat.reduceBEq, reduceCtorEq, ↓reduceIte, Int.reduceToNat, Int.reduceLE, Int.reduceLT, Int.reduceNe, Int.reduceEq, hl, hc, e1, e2, e3, e4, e5, e6, e7, b1, b0, h1, b2]
          refine ⟨fun h5 => ?_, fun h5 => lexK mx (by kernel_rfl) ?_⟩
          · rw [← he, if_pos (by simp [Go.Sort.ltInt]; omega)]
          · simp (maxDischargeDepth := 12) (maxSteps := 1000000) -implicitDefEqProofs only [go_sem, Nat.reduceAdd, Nat.reduceSub, Nat.reduceMul, Nat.reduceLeDiff, Nat.reduceEqDiff, Nat.reduceGT, Nat.reduceBEq, reduceCtorEq, ↓reduceIte, Int.reduceToNat, Int.reduceLE, Int.reduceLT, Int.reduceNe, Int.reduceEq, hl, hc, e1, e2, e3, e4, e5, e6, e7, b1, b0, h1, b2]
            refine nxt (2 * r + 1) (by omega) (by omega) ?_
            rw [← he, if_neg (by simp [Go.Sort.ltInt]; omega)]
      · have he := lowP (fun h => h2 h.1)
        refine useQ (lessU w0 _ _ _) ?_
        simp (maxDischargeDepth := 12) (maxSteps := 1000000) -implicitDefEqProofs only [go_sem, Nat.reduceAdd, Nat.reduceSub, Nat.reduceMul, Nat.reduceLeDiff, Nat.reduceEqDiff, Nat.reduceGT, Nat.reduceBEq, reduceCtorEq, ↓reduceIte, Int.reduceToNat, Int.reduceLE, Int.reduceLT, Int.reduceNe, Int.reduceEq, hl, hc, e1, e2, e3, e4, e5, e6, e7, b1, b0, h1]
        refine ⟨fun h5 => ?_, fun h5 => lexK mx (by kernel_rfl) ?_⟩
        · rw [← he, if_pos (by simp [Go.Sort.ltInt]; omega)]
        · simp (maxDischargeDepth := 12) (maxSteps := 1000000) -implicitDefEqProofs only [go_sem, Nat.reduceAdd, Nat.reduceSub, Nat.reduceMul, Nat.reduceLeDiff, Nat.reduceEqDiff, Nat.reduceGT, Nat.reduceBEq, reduceCtorEq, ↓reduceIte, Int.reduceToNat, Int.reduceLE, Int.reduceLT, Int.reduceNe, Int.reduceEq, hl, hc, e1, e2, e3, e4, e5, e6, e7, b1, b0, h1]
          refine nxt (2 * r + 1) (by omega) (by omega) ?_
          rw [← he, if_neg (by simp [Go.Sort.ltInt]; omega)]
theorem siftV (w0 : W0) (d : Array Int) {n : Nat} (hn : d.size = n) {l : Nat} {o : Ob} {lo hi first : Nat} {S : St} (hl : lk S.acc l = some o) (hb : first + hi ≤ n) (hlo : lo ≤ n) (hd : n < 2 ^ 60) :
    ACall Try.prog w0 133 [.acc l n, dI lo, dI hi, dI first] (⟨S.box, up S.acc l (.arr 1 (rowA dU (d)))⟩ : St) (fun e S' => e = .tup [] ∧ S' = (⟨S.box, up S.acc l (.arr 1 (rowA dU (Go.Sort.siftDown Go.Sort.ltInt hi first lo d)))⟩ : St)) := by
  subst hn; exact siftU w0 d hl hb hlo hd
theorem sift_size (hi first : Nat) : ∀ (m r : Nat) (d : Array Int), hi - r ≤ m → (Go.Sort.siftDown Go.Sort.ltInt hi first r d).size = d.size := by
  intro m
  induction m with
  | zero => intro r d h; rw [Go.Sort.siftDown.eq_1, dif_pos (by omega)]
  | succ m ih =>
    intro r d h
    rw [Go.Sort.siftDown.eq_1]
    split
    · rfl
    · split
      · split
        · rfl
        · split
          · rw [ih _ _ (by omega), swp_size]
          · rfl
      · split
        · rfl
        · rw [ih _ _ (by omega), swp_size]
theorem heapU (w0 : W0) (d : Array Int) {l : Nat} {o : Ob} {a b : Nat} {S : St} (hl : lk S.acc l = some o) (hab : a < b) (hb : b ≤ d.size) (hd : d.size < 2 ^ 60) :
    ACall Try.prog w0 120 [.acc l d.size, dI a, dI b] (⟨S.box, up S.acc l (.arr 1 (rowA dU (d)))⟩ : St) (fun e S' => e = .tup [] ∧ S' = (⟨S.box, up S.acc l (.arr 1 (rowA dU (Go.Sort.heapSort Go.Sort.ltInt d a b)))⟩ : St)) := by
  have e1 := i_sub b a (by omega) (by omega)
  have e2 : IntKind.i64.wrap (((b - a : Nat) : Int) - 1) = ((b - a - 1 : Nat) : Int) := by rw [w64 (by omega) (by omega)]; omega
  have e3 : IntKind.i64.wrap (((b - a - 1 : Nat) : Int).tdiv 2) = (((b - a - 1) / 2 : Nat) : Int) := by rw [Int.tdiv_eq_ediv_of_nonneg (by omega), w64 (by omega) (by omega)]; omega
  refine fnO [] mx Try.func120 rfl rfl (by kernel_rfl) ?_; simp (maxDischargeDepth := 12) (maxSteps := 1000000) -implicitDefEqProofs only [Try.ntmps120, go_sem, Nat.reduceAdd, Nat.reduceSub, Nat.reduceMul, Nat.reduceLeDiff, Nat.reduceEqDiff, Nat.reduceGT, Nat.reduceBEq, reduceCtorEq, ↓reduceIte, Int.reduceToNat, Int.reduceLE, Int.reduceLT, Int.reduceNe, Int.reduceEq,  hl, e1, e2, e3]
  refine loopK [] [0, 6, 7, 8, 9] (fun s : Nat × Array Int => [(9, dI ((s.1 : Int) - 1))]) (fun s => (⟨S.box, up S.acc l (.arr 1 (rowA dU (s.2)))⟩ : St)) (fun s => s.1 ≤ b - a ∧ s.2.size = d.size ∧ Go.Sort.heapBuild Go.Sort.ltInt (b - a) a s.1 s.2 = Go.Sort.heapBuild Go.Sort.ltInt (b - a) a ((b - a - 1) / 2 + 1) d) (fun s => s.1) ((b - a - 1) / 2 + 1, d) mx (by kernel_rfl) ?_ ?_
  · refine ⟨⟨by show (b - a - 1) / 2 + 1 ≤ b - a; omega, rfl, rfl⟩, ?_, ?_⟩ <;> simp (maxDischargeDepth := 12) (maxSteps := 1000000) -implicitDefEqProofs only [go_sem, Nat.reduceAdd, Nat.reduceSub, Nat.reduceMul, Nat.reduceLeDiff, Nat.reduceEqDiff, Nat.reduceGT, Nat.reduceBEq, reduceCtorEq, ↓reduceIte, Int.reduceToNat, Int.reduceLE, Int.reduceLT, Int.reduceNe, Int.reduceEq]
    omega
  · rintro ⟨k, c⟩ ⟨hk, hc, he⟩
    simp only at hk hc he
    cases k with
    | zero =>
      simp (maxDischargeDepth := 12) (maxSteps := 1000000) -implicitDefEqProofs only [go_sem, Nat.reduceAdd, Nat.reduceSub, Nat.reduceMul, Nat.reduceLeDiff, Nat.reduceEqDiff, Nat.reduceGT, Nat.reduceBEq, reduceCtorEq, ↓reduceIte, Int.reduceToNat, Int.reduceLE, Int.reduceLT, Int.reduceNe, Int.reduceEq, hl, hc, e2]
      refine ⟨fun h => absurd h (by decide), fun _ => ?_⟩
      refine loopK [10] [0, 6, 7, 10] (fun s : Nat × Array Int => [(10, dI ((s.1 : Int) - 1))]) (fun s => (⟨S.box, up S.acc l (.arr 1 (rowA dU (s.2)))⟩ : St)) (fun s => s.1 ≤ b - a ∧ s.2.size = d.size ∧ Go.Sort.heapPop Go.Sort.ltInt a s.1 s.2 = Go.Sort.heapSort Go.Sort.ltInt d a b) (fun s => s.1) (b - a, c) mx (by kernel_rfl) ?_ ?_
      · refine ⟨⟨Nat.le_refl _, hc, ?_⟩, ?_, ?_⟩
        · show Go.Sort.heapPop Go.Sort.ltInt a (b - a) c = _
          unfold Go.Sort.heapSort
          rw [← he]; rfl
        · simp (maxDischargeDepth := 12) (maxSteps := 1000000) -implicitDefEqProofs only [go_sem, Nat.reduceAdd, Nat.reduceSub, Nat.reduceMul, Nat.reduceLeDiff, Nat.reduceEqDiff, Nat.reduceGT, Nat.reduceBEq, reduceCtorEq, ↓reduceIte, Int.reduceToNat, Int.reduceLE, Int.reduceLT, Int.reduceNe, Int.reduceEq]
          omega
        · simp (maxDischargeDepth := 12) (maxSteps := 1000000) -implicitDefEqProofs only [go_sem, Nat.reduceAdd, Nat.reduceSub, Nat.reduceMul, Nat.reduceLeDiff, Nat.reduceEqDiff, Nat.reduceGT, Nat.reduceBEq, reduceCtorEq, ↓reduceIte, Int.reduceToNat, Int.reduceLE, Int.reduceLT, Int.reduceNe, Int.reduceEq]
      · rintro ⟨k, c⟩ ⟨hk, hc, he⟩
        simp only at hk hc he
        cases k with
        | zero =>
          simp (maxDischargeDepth := 12) (maxSteps := 1000000) -implicitDefEqProofs only [go_sem, Nat.reduceAdd, Nat.reduceSub, Nat.reduceMul, Nat.reduceLeDiff, Nat.reduceEqDiff, Nat.reduceGT, Nat.reduceBEq, reduceCtorEq, ↓reduceIte, Int.reduceToNat, Int.reduceLE, Int.reduceLT, Int.reduceNe, Int.reduceEq, hl, hc]
          refine ⟨fun h => absurd h (by decide), fun _ => ?_⟩
          rw [← he]; rfl
        | succ k =>
          have e5 : ((k + 1 : Nat) : Int) - 1 = (k : Int) := by omega
          have e6 := i_add a k (by omega) (by omega)
          have b0 : a < d.size := by omega
          have b1 : a + k < d.size := by omega
          simp (maxDischargeDepth := 12) (maxSteps := 1000000) -implicitDefEqProofs only [go_sem, Nat.reduceAdd, Nat.reduceSub, Nat.reduceMul, Nat.reduceLeDiff, Nat.reduceEqDiff, Nat.reduceGT, Nat.reduceBEq, reduceCtorEq, ↓reduceIte, Int.reduceToNat, Int.reduceLE, Int.reduceLT, Int.reduceNe, Int.reduceEq, hl, hc, e5, e6]
          refine lexK mx (by kernel_rfl) ?_
          simp (maxDischargeDepth := 12) (maxSteps := 1000000) -implicitDefEqProofs only [go_sem, Nat.reduceAdd, Nat.reduceSub, Nat.reduceMul, Nat.reduceLeDiff, Nat.reduceEqDiff, Nat.reduceGT, Nat.reduceBEq, reduceCtorEq, ↓reduceIte, Int.reduceToNat, Int.reduceLE, Int.reduceLT, Int.reduceNe, Int.reduceEq, hl, hc, e5, e6, b0, b1]
          refine .inl (useK (siftV w0 (Go.Sort.swp c a (a + k)) (n := d.size) (by rw [swp_size]; exact hc) (lo := 0) (hi := k) (first := a) (S := S) hl (by omega) (by omega) hd) ?_)
          rintro _ _ ⟨rfl, rfl⟩
          simp (maxDischargeDepth := 12) (maxSteps := 1000000) -implicitDefEqProofs only [go_sem, Nat.reduceAdd, Nat.reduceSub, Nat.reduceMul, Nat.reduceLeDiff, Nat.reduceEqDiff, Nat.reduceGT, Nat.reduceBEq, reduceCtorEq, ↓reduceIte, Int.reduceToNat, Int.reduceLE, Int.reduceLT, Int.reduceNe, Int.reduceEq, hl]
          refine ⟨(k, _), ⟨by show k ≤ b - a; omega, by show (Go.Sort.siftDown Go.Sort.ltInt k a 0 (Go.Sort.swp c a (a + k))).size = d.size; rw [sift_size _ _ _ _ _ (Nat.le_refl _), swp_size]; exact hc, by rw [← he]; rfl⟩, by show k < k + 1; omega, by rw [w64 (by omega) (by omega)], .refl _⟩
    | succ k =>
      have e4 : IntKind.i64.wrap ((k : Int) - 1) = (k : Int) - 1 := by rw [w64 (by omega) (by omega)]
      have e5 : ((k + 1 : Nat) : Int) - 1 = (k : Int) := by omega
      simp (maxDischargeDepth := 12) (maxSteps := 1000000) -implicitDefEqProofs only [go_sem, Nat.reduceAdd, Nat.reduceSub, Nat.reduceMul, Nat.reduceLeDiff, Nat.reduceEqDiff, Nat.reduceGT, Nat.reduceBEq, reduceCtorEq, ↓reduceIte, Int.reduceToNat, Int.reduceLE, Int.reduceLT, Int.reduceNe, Int.reduceEq, hl, hc, e5]
      refine .inl (useK (siftV w0 c (n := d.size) hc (lo := k) (hi := b - a) (first := a) (S := S) hl (by omega) (by omega) hd) ?_)
      rintro _ _ ⟨rfl, rfl⟩
      simp (maxDischargeDepth := 12) (maxSteps := 1000000) -implicitDefEqProofs only [go_sem, Nat.reduceAdd, Nat.reduceSub, Nat.reduceMul, Nat.reduceLeDiff, Nat.reduceEqDiff, Nat.reduceGT, Nat.reduceBEq, reduceCtorEq, ↓reduceIte, Int.reduceToNat, Int.reduceLE, Int.reduceLT, Int.reduceNe, Int.reduceEq, hl, e4]
      refine ⟨(k, _), ⟨by show k ≤ b - a; omega, by show (Go.Sort.siftDown Go.Sort.ltInt (b - a) a k c).size = d.size; rw [sift_size _ _ _ _ _ (Nat.le_refl _)]; exact hc, by rw [← he]; rfl⟩, by show k < k + 1; omega, rfl, .refl _⟩
end Go.Proofs.Ytkibkahknibgfaa

namespace Go.Proofs.Ytkibkahknibgfaa
open Aml Go
set_option linter.unusedVariables false
set_option linter.unusedSimpArgs false
set_option maxRecDepth 100000
theorem partEqU (w0 : W0) (d : Array Int) {l : Nat} {o : Ob} {a b pv : Nat} {S : St} (hl : lk S.acc l = some o) (hab : a ≤ pv) (hpb : pv < b) (hb : b ≤ d.size) (hd : d.size < 2 ^ 60) :
    ACall Try.prog w0 126 [.acc l d.size, dI a, dI b, dI pv] (⟨S.box, up S.acc l (.arr 1 (rowA dU (d)))⟩ : St) (fun e S' => e = dI (Go.Sort.partitionEqual Go.Sort.ltInt d a b pv).1 ∧ S' = (⟨S.box, up S.acc l (.arr 1 (rowA dU ((Go.Sort.partitionEqual Go.Sort.ltInt d a b pv).2)))⟩ : St)) := by
  have e1 := i_one a (by omega)
  have e2 : IntKind.i64.wrap ((b : Int) - 1) = ((b - 1 : Nat) : Int) := by rw [w64 (by omega) (by omega)]; omega
  have ha' : a < d.size := by omega
  have hp' : pv < d.size := by omega
  refine fnO [1] mx Try.func126 rfl rfl (by kernel_rfl) ?_; simp (maxDischargeDepth := 12) (maxSteps := 1000000) -implicitDefEqProofs only [Try.ntmps126, go_sem, Nat.reduceAdd, Nat.reduceSub, Nat.reduceMul, Nat.reduceLeDiff, Nat.reduceEqDiff, Nat.reduceGT, Nat.reduceBEq, reduceCtorEq, ↓reduceIte, Int.reduceToNat, Int.reduceLE, Int.reduceLT, Int.reduceNe, Int.reduceEq,  hl, e1, e2]
  refine lexK mx (by kernel_rfl) ?_
  simp (maxDischargeDepth := 12) (maxSteps := 1000000) -implicitDefEqProofs only [go_sem, Nat.reduceAdd, Nat.reduceSub, Nat.reduceMul, Nat.reduceLeDiff, Nat.reduceEqDiff, Nat.reduceGT, Nat.reduceBEq, reduceCtorEq, ↓reduceIte, Int.reduceToNat, Int.reduceLE, Int.reduceLT, Int.reduceNe, Int.reduceEq, hl, e1, e2, ha', hp']
  refine loopK [8, 1002, 1004] [0, 1, 9, 10] (fun s : Nat × Nat × Array Int => [(9, dI s.1), (10, dI s.2.1)]) (fun s => (⟨S.box, up S.acc l (.arr 1 (rowA dU (s.2.2)))⟩ : St)) (fun s => a < s.1 ∧ s.1 ≤ s.2.1 + 2 ∧ s.2.1 < b ∧ s.2.2.size = d.size ∧ Go.Sort.partEqLoop Go.Sort.ltInt a s.1 s.2.1 s.2.2 = Go.Sort.partitionEqual Go.Sort.ltInt d a b pv) (fun s => s.2.1 + 1 - s.1) (a + 1, b - 1, Go.Sort.swp d a pv) mx (by kernel_rfl) ?_ ?_
  · refine ⟨⟨by show a < a + 1; omega, by show a + 1 ≤ b - 1 + 2; omega, by show b - 1 < b; omega, swp_size _ _ _, rfl⟩, ?_, ?_⟩ <;> simp (maxDischargeDepth := 12) (maxSteps := 1000000) -implicitDefEqProofs only [go_sem, Nat.reduceAdd, Nat.reduceSub, Nat.reduceMul, Nat.reduceLeDiff, Nat.reduceEqDiff, Nat.reduceGT, Nat.reduceBEq, reduceCtorEq, ↓reduceIte, Int.reduceToNat, Int.reduceLE, Int.reduceLT, Int.reduceNe, Int.reduceEq]
  · rintro ⟨i, j, c⟩ ⟨hi, hij, hj, hc, he⟩
    simp only at hi hij hj hc he
    rw [Go.Sort.partEqLoop_eq] at he
    simp (maxDischargeDepth := 12) (maxSteps := 1000000) -implicitDefEqProofs only [go_sem, Nat.reduceAdd, Nat.reduceSub, Nat.reduceMul, Nat.reduceLeDiff, Nat.reduceEqDiff, Nat.reduceGT, Nat.reduceBEq, reduceCtorEq, ↓reduceIte, Int.reduceToNat, Int.reduceLE, Int.reduceLT, Int.reduceNe, Int.reduceEq, hl]
    refine cutK [] [0, 1, 9, 10] (fun s : Nat => [(9, dI s)]) (fun _ => (⟨S.box, up S.acc l (.arr 1 (rowA dU (c)))⟩ : St)) (fun s => i ≤ s ∧ s ≤ j + 2 ∧ s = Go.Sort.scanUp (fun x => !Go.Sort.ltInt c[a]! x) c j i) mx (by kernel_rfl) ?_ ?_
    · simp (maxDischargeDepth := 12) (maxSteps := 1000000) -implicitDefEqProofs only [go_sem, Nat.reduceAdd, Nat.reduceSub, Nat.reduceMul, Nat.reduceLeDiff, Nat.reduceEqDiff, Nat.reduceGT, Nat.reduceBEq, reduceCtorEq, ↓reduceIte, Int.reduceToNat, Int.reduceLE, Int.reduceLT, Int.reduceNe, Int.reduceEq]
      refine loopK [] [0, 1, 9, 10] (fun s : Nat => [(9, dI s)]) (fun _ => (⟨S.box, up S.acc l (.arr 1 (rowA dU (c)))⟩ : St)) (fun s => i ≤ s ∧ s ≤ j + 2 ∧ Go.Sort.scanUp (fun x => !Go.Sort.ltInt c[a]! x) c j s = Go.Sort.scanUp (fun x => !Go.Sort.ltInt c[a]! x) c j i) (fun s => j + 2 - s) (i) mx (by kernel_rfl) ?_ ?_
      · refine ⟨⟨Nat.le_refl _, hij, rfl⟩, ?_, ?_⟩ <;> simp (maxDischargeDepth := 12) (maxSteps := 1000000) -implicitDefEqProofs only [go_sem, Nat.reduceAdd, Nat.reduceSub, Nat.reduceMul, Nat.reduceLeDiff, Nat.reduceEqDiff, Nat.reduceGT, Nat.reduceBEq, reduceCtorEq, ↓reduceIte, Int.reduceToNat, Int.reduceLE, Int.reduceLT, Int.reduceNe, Int.reduceEq]
      · rintro s ⟨hs1, hs2, hs⟩
        have e3 := i_one s (by omega)
        rw [Go.Sort.scanUp.eq_1] at hs
        by_cases h : s ≤ j
        · have hsd : s < d.size := by omega
          simp (maxDischargeDepth := 12) (maxSteps := 1000000) -implicitDefEqProofs only [go_sem, Nat.reduceAdd, Nat.reduceSub, Nat.reduceMul, Nat.reduceLeDiff, Nat.reduceEqDiff, Nat.reduceGT, Nat.reduceBEq, reduceCtorEq, ↓reduceIte, Int.reduceToNat, Int.reduceLE, Int.reduceLT, Int.reduceNe, Int.reduceEq, hl, hc, ha', e3, hsd, h]
          refine useQ (lessU w0 _ _ _) ?_
          simp (maxDischargeDepth := 12) (maxSteps := 1000000) -implicitDefEqProofs only [go_sem, Nat.reduceAdd, Nat.reduceSub, Nat.reduceMul, Nat.reduceLeDiff, Nat.reduceEqDiff, Nat.reduceGT, Nat.reduceBEq, reduceCtorEq, ↓reduceIte, Int.reduceToNat, Int.reduceLE, Int.reduceLT, Int.reduceNe, Int.reduceEq, hl, hc, ha', e3, hsd, h]
          refine ⟨fun h2 => ?_, fun h2 => ?_⟩
          · rw [if_pos (by simp [Go.Sort.ltInt]; omega)] at hs; exact ⟨s + 1, ⟨by omega, by omega, hs⟩, by omega, rfl⟩
          · rw [if_neg (by simp [Go.Sort.ltInt]; omega)] at hs; exact ⟨s, ⟨hs1, hs2, hs⟩, rfl⟩
        · simp (maxDischargeDepth := 12) (maxSteps := 1000000) -implicitDefEqProofs only [go_sem, Nat.reduceAdd, Nat.reduceSub, Nat.reduceMul, Nat.reduceLeDiff, Nat.reduceEqDiff, Nat.reduceGT, Nat.reduceBEq, reduceCtorEq, ↓reduceIte, Int.reduceToNat, Int.reduceLE, Int.reduceLT, Int.reduceNe, Int.reduceEq, hl, hc, ha', h]
          rw [if_neg (by simp [h])] at hs
          exact ⟨s, ⟨hs1, hs2, hs⟩, rfl⟩
    · rintro i2 ⟨hi1, hij2, hi2⟩
      simp (maxDischargeDepth := 12) (maxSteps := 1000000) -implicitDefEqProofs only [go_sem, Nat.reduceAdd, Nat.reduceSub, Nat.reduceMul, Nat.reduceLeDiff, Nat.reduceEqDiff, Nat.reduceGT, Nat.reduceBEq, reduceCtorEq, ↓reduceIte, Int.reduceToNat, Int.reduceLE, Int.reduceLT, Int.reduceNe, Int.reduceEq, hl]
      refine cutK [] [0, 1, 9, 10] (fun s : Nat => [(10, dI s)]) (fun _ => (⟨S.box, up S.acc l (.arr 1 (rowA dU (c)))⟩ : St)) (fun s => s ≤ j ∧ i2 ≤ s + 2 ∧ s = Go.Sort.scanDown (fun x => Go.Sort.ltInt c[a]! x) c i2 j) mx (by kernel_rfl) ?_ ?_
      · simp (maxDischargeDepth := 12) (maxSteps := 1000000) -implicitDefEqProofs only [go_sem, Nat.reduceAdd, Nat.reduceSub, Nat.reduceMul, Nat.reduceLeDiff, Nat.reduceEqDiff, Nat.reduceGT, Nat.reduceBEq, reduceCtorEq, ↓reduceIte, Int.reduceToNat, Int.reduceLE, Int.reduceLT, Int.reduceNe, Int.reduceEq]
        refine loopK [] [0, 1, 9, 10] (fun s : Nat => [(10, dI s)]) (fun _ => (⟨S.box, up S.acc l (.arr 1 (rowA dU (c)))⟩ : St)) (fun s => s ≤ j ∧ i2 ≤ s + 2 ∧ Go.Sort.scanDown (fun x => Go.Sort.ltInt c[a]! x) c i2 s = Go.Sort.scanDown (fun x => Go.Sort.ltInt c[a]! x) c i2 j) (fun s => s) (j) mx (by kernel_rfl) ?_ ?_
        · refine ⟨⟨Nat.le_refl _, hij2, rfl⟩, ?_, ?_⟩ <;> simp (maxDischargeDepth := 12) (maxSteps := 1000000) -implicitDefEqProofs only [go_sem, Nat.reduceAdd, Nat.reduceSub, Nat.reduceMul, Nat.reduceLeDiff, Nat.reduceEqDiff, Nat.reduceGT, Nat.reduceBEq, reduceCtorEq, ↓reduceIte, Int.reduceToNat, Int.reduceLE, Int.reduceLT, Int.reduceNe, Int.reduceEq]
        · rintro s ⟨hs1, hs2, hs⟩
          by_cases h : i2 ≤ s
          · cases s with
            | zero => exact absurd h (by omega)
            | succ s =>
              have e3 := i_pre s (by omega)
              have hsd : s + 1 < d.size := by omega
              rw [Go.Sort.scanDown] at hs
              simp (maxDischargeDepth := 12) (maxSteps := 1000000) -implicitDefEqProofs only [go_sem, Nat.reduceAdd, Nat.reduceSub, Nat.reduceMul, Nat.reduceLeDiff, Nat.reduceEqDiff, Nat.reduceGT, Nat.reduceBEq, reduceCtorEq, ↓reduceIte, Int.reduceToNat, Int.reduceLE, Int.reduceLT, Int.reduceNe, Int.reduceEq, hl, hc, ha', e3, hsd, h]
              refine useQ (lessU w0 _ _ _) ?_
              simp (maxDischargeDepth := 12) (maxSteps := 1000000) -implicitDefEqProofs only [go_sem, Nat.reduceAdd, Nat.reduceSub, Nat.reduceMul, Nat.reduceLeDiff, Nat.reduceEqDiff, Nat.reduceGT, Nat.reduceBEq, reduceCtorEq, ↓reduceIte, Int.reduceToNat, Int.reduceLE, Int.reduceLT, Int.reduceNe, Int.reduceEq, hl, hc, ha', e3, hsd, h]
              refine ⟨fun h2 => ?_, fun h2 => ?_⟩
              · rw [if_pos (by simp [Go.Sort.ltInt]; omega)] at hs; exact ⟨s, ⟨by omega, by omega, hs⟩, by omega, rfl⟩
              · rw [if_neg (by simp [Go.Sort.ltInt]; omega)] at hs; exact ⟨s + 1, ⟨hs1, hs2, hs⟩, rfl⟩
          · have hs' : s = Go.Sort.scanDown (fun x => Go.Sort.ltInt c[a]! x) c i2 j := by
              rw [← hs]
              cases s with
              | zero => rfl
              | succ s => rw [Go.Sort.scanDown, if_neg (by simp [h])]
            simp (maxDischargeDepth := 12) (maxSteps := 1000000) -implicitDefEqProofs only [go_sem, Nat.reduceAdd, Nat.reduceSub, Nat.reduceMul, Nat.reduceLeDiff, Nat.reduceEqDiff, Nat.reduceGT, Nat.reduceBEq, reduceCtorEq, ↓reduceIte, Int.reduceToNat, Int.reduceLE, Int.reduceLT, Int.reduceNe, Int.reduceEq, hl, hc, ha', h]
            exact ⟨s, ⟨hs1, hs2, hs'⟩, rfl⟩
      · rintro j2 ⟨hj1, hj2, hj3⟩
        rw [← hi2] at he
        skip
        rw [← hj3] at he
        have e3 := i_one i2 (by omega)
        simp (maxDischargeDepth := 12) (maxSteps := 1000000) -implicitDefEqProofs only [go_sem, Nat.reduceAdd, Nat.reduceSub, Nat.reduceMul, Nat.reduceLeDiff, Nat.reduceEqDiff, Nat.reduceGT, Nat.reduceBEq, reduceCtorEq, ↓reduceIte, Int.reduceToNat, Int.reduceLE, Int.reduceLT, Int.reduceNe, Int.reduceEq, hl]
        refine ⟨fun h => ?_, fun h => lexK mx (by kernel_rfl) ?_⟩
        · rw [if_pos (by omega)] at he
          rw [← he]
          exact ⟨rfl, rfl⟩
        · rw [if_neg (by omega)] at he
          have e4 : IntKind.i64.wrap ((j2 : Int) - 1) = ((j2 - 1 : Nat) : Int) := by rw [w64 (by omega) (by omega)]; omega
          have hi2' : i2 < d.size := by omega
          have hj2' : j2 < d.size := by omega
          simp (maxDischargeDepth := 12) (maxSteps := 1000000) -implicitDefEqProofs only [go_sem, Nat.reduceAdd, Nat.reduceSub, Nat.reduceMul, Nat.reduceLeDiff, Nat.reduceEqDiff, Nat.reduceGT, Nat.reduceBEq, reduceCtorEq, ↓reduceIte, Int.reduceToNat, Int.reduceLE, Int.reduceLT, Int.reduceNe, Int.reduceEq, hl, hc, hi2', hj2', e3, e4]
          exact ⟨(i2 + 1, j2 - 1, Go.Sort.swp c i2 j2), ⟨by show a < i2 + 1; omega, by show i2 + 1 ≤ j2 - 1 + 2; omega, by show j2 - 1 < b; omega, by rw [swp_size]; exact hc, he⟩, by show j2 - 1 + 1 - (i2 + 1) < j + 1 - i; omega, ⟨rfl, rfl⟩, .refl _⟩

theorem part_parts (d : Array Int) (a b pv : Nat) : (Go.Sort.partition Go.Sort.ltInt d a b pv).1 = (Go.Sort.partLoop Go.Sort.ltInt a (a + 1) (b - 1) (Go.Sort.swp d a pv)).1 ∧ (Go.Sort.partition Go.Sort.ltInt d a b pv).2.2 = Go.Sort.swp (Go.Sort.partLoop Go.Sort.ltInt a (a + 1) (b - 1) (Go.Sort.swp d a pv)).2 (Go.Sort.partLoop Go.Sort.ltInt a (a + 1) (b - 1) (Go.Sort.swp d a pv)).1 a := ⟨Go.Sort.partition_fst _ d a b pv, Go.Sort.partition_arr _ d a b pv⟩
theorem partU (w0 : W0) (d : Array Int) {l : Nat} {o : Ob} {a b pv : Nat} {S : St} (hl : lk S.acc l = some o) (hab : a ≤ pv) (hpb : pv < b) (hb : b ≤ d.size) (hd : d.size < 2 ^ 60) :
    ACall Try.prog w0 127 [.acc l d.size, dI a, dI b, dI pv] (⟨S.box, up S.acc l (.arr 1 (rowA dU (d)))⟩ : St) (fun e S' => (∃ q, e = .tup [dI (Go.Sort.partition Go.Sort.ltInt d a b pv).1, dB q]) ∧ S' = (⟨S.box, up S.acc l (.arr 1 (rowA dU ((Go.Sort.partition Go.Sort.ltInt d a b pv).2.2)))⟩ : St)) := by
  have e1 := i_one a (by omega)
  have e2 : IntKind.i64.wrap ((b : Int) - 1) = ((b - 1 : Nat) : Int) := by rw [w64 (by omega) (by omega)]; omega
  have ha' : a < d.size := by omega
  have hp' : pv < d.size := by omega
  have hP := part_parts d a b pv
  rw [hP.1, hP.2]
  generalize hc0 : Go.Sort.swp d a pv = c at hP ⊢
  have hc : c.size = d.size := by rw [← hc0, swp_size]
  generalize hR : Go.Sort.partLoop Go.Sort.ltInt a (a + 1) (b - 1) c = R at hP ⊢
  have he := hR
  rw [Go.Sort.partLoop_eq] at he
  have hij : a + 1 ≤ b - 1 + 2 := by omega
  refine fnO [1, 1000, 1002, 8, 10, 21] mx Try.func127 rfl rfl (by kernel_rfl) ?_; simp (maxDischargeDepth := 12) (maxSteps := 1000000) -implicitDefEqProofs only [Try.ntmps127, go_sem, Nat.reduceAdd, Nat.reduceSub, Nat.reduceMul, Nat.reduceLeDiff, Nat.reduceEqDiff, Nat.reduceGT, Nat.reduceBEq, reduceCtorEq, ↓reduceIte, Int.reduceToNat, Int.reduceLE, Int.reduceLT, Int.reduceNe, Int.reduceEq,  hl, e1, e2]
  refine lexK mx (by kernel_rfl) ?_
  simp (maxDischargeDepth := 12) (maxSteps := 1000000) -implicitDefEqProofs only [go_sem, Nat.reduceAdd, Nat.reduceSub, Nat.reduceMul, Nat.reduceLeDiff, Nat.reduceEqDiff, Nat.reduceGT, Nat.reduceBEq, reduceCtorEq, ↓reduceIte, Int.reduceToNat, Int.reduceLE, Int.reduceLT, Int.reduceNe, Int.reduceEq, hl, e1, e2, ha', hp', hc0]
  refine cutK [] [0, 1, 10, 11] (fun s : Nat => [(10, dI s)]) (fun _ => (⟨S.box, up S.acc l (.arr 1 (rowA dU (c)))⟩ : St)) (fun s => (a + 1) ≤ s ∧ s ≤ (b - 1) + 2 ∧ s = Go.Sort.scanUp (fun x => Go.Sort.ltInt x c[a]!) c (b - 1) (a + 1)) mx (by kernel_rfl) ?_ ?_
  · simp (maxDischargeDepth := 12) (maxSteps := 1000000) -implicitDefEqProofs only [go_sem, Nat.reduceAdd, Nat.reduceSub, Nat.reduceMul, Nat.reduceLeDiff, Nat.reduceEqDiff, Nat.reduceGT, Nat.reduceBEq, reduceCtorEq, ↓reduceIte, Int.reduceToNat, Int.reduceLE, Int.reduceLT, Int.reduceNe, Int.reduceEq]
    refine loopK [] [0, 1, 10, 11] (fun s : Nat => [(10, dI s)]) (fun _ => (⟨S.box, up S.acc l (.arr 1 (rowA dU (c)))⟩ : St)) (fun s => (a + 1) ≤ s ∧ s ≤ (b - 1) + 2 ∧ Go.Sort.scanUp (fun x => Go.Sort.ltInt x c[a]!) c (b - 1) s = Go.Sort.scanUp (fun x => Go.Sort.ltInt x c[a]!) c (b - 1) (a + 1)) (fun s => (b - 1) + 2 - s) ((a + 1)) mx (by kernel_rfl) ?_ ?_
    · refine ⟨⟨Nat.le_refl _, hij, rfl⟩, ?_, ?_⟩ <;> simp (maxDischargeDepth := 12) (maxSteps := 1000000) -implicitDefEqProofs only [go_sem, Nat.reduceAdd, Nat.reduceSub, Nat.reduceMul, Nat.reduceLeDiff, Nat.reduceEqDiff, Nat.reduceGT, Nat.reduceBEq, reduceCtorEq, ↓reduceIte, Int.reduceToNat, Int.reduceLE, Int.reduceLT, Int.reduceNe, Int.reduceEq]
    · rintro s ⟨hs1, hs2, hs⟩
      have e3 := i_one s (by omega)
      rw [Go.Sort.scanUp.eq_1] at hs
      by_cases h : s ≤ (b - 1)
      · have hsd : s < d.size := by omega
        simp (maxDischargeDepth := 12) (maxSteps := 1000000) -implicitDefEqProofs only [go_sem, Nat.reduceAdd, Nat.reduceSub, Nat.reduceMul, Nat.reduceLeDiff, Nat.reduceEqDiff, Nat.reduceGT, Nat.reduceBEq, reduceCtorEq, ↓reduceIte, Int.reduceToNat, Int.reduceLE, Int.reduceLT, Int.reduceNe, Int.reduceEq, hl, hc, ha', e3, hsd, h]
        refine useQ (lessU w0 _ _ _) ?_
        simp (maxDischargeDepth := 12) (maxSteps := 1000000) -implicitDefEqProofs only [go_sem, Nat.reduceAdd, Nat.reduceSub, Nat.reduceMul, Nat.reduceLeDiff, Nat.reduceEqDiff, Nat.reduceGT, Nat.reduceBEq, reduceCtorEq, ↓reduceIte, Int.reduceToNat, Int.reduceLE, Int.reduceLT, Int.reduceNe, Int.reduceEq, hl, hc, ha', e3, hsd, h]
        refine ⟨fun h2 => ?_, fun h2 => ?_⟩
        · rw [if_pos (by simp [Go.Sort.ltInt]; omega)] at hs; exact ⟨s + 1, ⟨by omega, by omega, hs⟩, by omega, rfl⟩
        · rw [if_neg (by simp [Go.Sort.ltInt]; omega)] at hs; exact ⟨s, ⟨hs1, hs2, hs⟩, rfl⟩
      · simp (maxDischargeDepth := 12) (maxSteps := 1000000) -implicitDefEqProofs only [go_sem, Nat.reduceAdd, Nat.reduceSub, Nat.reduceMul, Nat.reduceLeDiff, Nat.reduceEqDiff, Nat.reduceGT, Nat.reduceBEq, reduceCtorEq, ↓reduceIte, Int.reduceToNat, Int.reduceLE, Int.reduceLT, Int.reduceNe, Int.reduceEq, hl, hc, ha', h]
        rw [if_neg (by simp [h])] at hs
        exact ⟨s, ⟨hs1, hs2, hs⟩, rfl⟩
  · rintro i2 ⟨hi1, hij2, hi2⟩
    simp (maxDischargeDepth := 12) (maxSteps := 1000000) -implicitDefEqProofs only [go_sem, Nat.reduceAdd, Nat.reduceSub, Nat.reduceMul, Nat.reduceLeDiff, Nat.reduceEqDiff, Nat.reduceGT, Nat.reduceBEq, reduceCtorEq, ↓reduceIte, Int.reduceToNat, Int.reduceLE, Int.reduceLT, Int.reduceNe, Int.reduceEq, hl]
    refine cutK [] [0, 1, 10, 11] (fun s : Nat => [(11, dI s)]) (fun _ => (⟨S.box, up S.acc l (.arr 1 (rowA dU (c)))⟩ : St)) (fun s => s ≤ (b - 1) ∧ i2 ≤ s + 2 ∧ s = Go.Sort.scanDown (fun x => !Go.Sort.ltInt x c[a]!) c i2 (b - 1)) mx (by kernel_rfl) ?_ ?_
    · simp (maxDischargeDepth := 12) (maxSteps := 1000000) -implicitDefEqProofs only [go_sem, Nat.reduceAdd, Nat.reduceSub, Nat.reduceMul, Nat.reduceLeDiff, Nat.reduceEqDiff, Nat.reduceGT, Nat.reduceBEq, reduceCtorEq, ↓reduceIte, Int.reduceToNat, Int.reduceLE, Int.reduceLT, Int.reduceNe, Int.reduceEq]
      refine loopK [] [0, 1, 10, 11] (fun s : Nat => [(11, dI s)]) (fun _ => (⟨S.box, up S.acc l (.arr 1 (rowA dU (c)))⟩ : St)) (fun s => s ≤ (b - 1) ∧ i2 ≤ s + 2 ∧ Go.Sort.scanDown (fun x => !Go.Sort.ltInt x c[a]!) c i2 s = Go.Sort.scanDown (fun x => !Go.Sort.ltInt x c[a]!) c i2 (b - 1)) (fun s => s) ((b - 1)) mx (by kernel_rfl) ?_ ?_
      · refine ⟨⟨Nat.le_refl _, hij2, rfl⟩, ?_, ?_⟩ <;> simp (maxDischargeDepth := 12) (maxSteps := 1000000) -implicitDefEqProofs only [go_sem, Nat.reduceAdd, Nat.reduceSub, Nat.reduceMul, Nat.reduceLeDiff, Nat.reduceEqDiff, Nat.reduceGT, Nat.reduceBEq, reduceCtorEq, ↓reduceIte, Int.reduceToNat, Int.reduceLE, Int.reduceLT, Int.reduceNe, Int.reduceEq]
      · rintro s ⟨hs1, hs2, hs⟩
        by_cases h : i2 ≤ s
        · cases s with
          | zero => exact absurd h (by omega)
          | succ s =>
            have e3 := i_pre s (by omega)
            have hsd : s + 1 < d.size := by omega
            rw [Go.Sort.scanDown] at hs
            simp (maxDischargeDepth := 12) (maxSteps := 1000000) -implicitDefEqProofs only [go_sem, Nat.reduceAdd, Nat.reduceSub, Nat.reduceMul, Nat.reduceLeDiff, Nat.reduceEqDiff, Nat.reduceGT, Nat.reduceBEq, reduceCtorEq, ↓reduceIte, Int.reduceToNat, Int.reduceLE, Int.reduceLT, Int.reduceNe, Int.reduceEq, hl, hc, ha', e3, hsd, h]
            refine useQ (lessU w0 _ _ _) ?_
            simp (maxDischargeDepth := 12) (maxSteps := 1000000) -implicitDefEqProofs only [go_sem, Nat.reduceAdd, Nat.reduceSub, Nat.reduceMul, Nat.reduceLeDiff, Nat.reduceEqDiff, Nat.reduceGT, Nat.reduceBEq, reduceCtorEq, ↓reduceIte, Int.reduceToNat, Int.reduceLE, Int.reduceLT, Int.reduceNe, Int.reduceEq, hl, hc, ha', e3, hsd, h]
            refine ⟨fun h2 => ?_, fun h2 => ?_⟩
            · rw [if_pos (by simp [Go.Sort.ltInt]; omega)] at hs; exact ⟨s, ⟨by omega, by omega, hs⟩, by omega, rfl⟩
            · rw [if_neg (by simp [Go.Sort.ltInt]; omega)] at hs; exact ⟨s + 1, ⟨hs1, hs2, hs⟩, rfl⟩
        · have hs' : s = Go.Sort.scanDown (fun x => !Go.Sort.ltInt x c[a]!) c i2 (b - 1) := by
            rw [← hs]
            cases s with
            | zero => rfl
            | succ s => rw [Go.Sort.scanDown, if_neg (by simp [h])]
          simp (maxDischargeDepth := 12) (maxSteps := 1000000) -implicitDefEqProofs only [go_sem, Nat.reduceAdd, Nat.reduceSub, Nat.reduceMul, Nat.reduceLeDiff, Nat.reduceEqDiff, Nat.reduceGT, Nat.reduceBEq, reduceCtorEq, ↓reduceIte, Int.reduceToNat, Int.reduceLE, Int.reduceLT, Int.reduceNe, Int.reduceEq, hl, hc, ha', h]
          exact ⟨s, ⟨hs1, hs2, hs'⟩, rfl⟩
    · rintro j2 ⟨hj1, hj2, hj3⟩
      rw [← hi2] at he
      rw [← hj3] at he
      have e3 := i_one i2 (by omega)
      simp (maxDischargeDepth := 12) (maxSteps := 1000000) -implicitDefEqProofs only [go_sem, Nat.reduceAdd, Nat.reduceSub, Nat.reduceMul, Nat.reduceLeDiff, Nat.reduceEqDiff, Nat.reduceGT, Nat.reduceBEq, reduceCtorEq, ↓reduceIte, Int.reduceToNat, Int.reduceLE, Int.reduceLT, Int.reduceNe, Int.reduceEq, hl]
      refine ⟨fun h => lexK mx (by kernel_rfl) ?_, fun h => lexK mx (by kernel_rfl) ?_⟩
      · rw [if_pos (by omega)] at he
        have hj2' : j2 < d.size := by omega
        simp (maxDischargeDepth := 12) (maxSteps := 1000000) -implicitDefEqProofs only [go_sem, Nat.reduceAdd, Nat.reduceSub, Nat.reduceMul, Nat.reduceLeDiff, Nat.reduceEqDiff, Nat.reduceGT, Nat.reduceBEq, reduceCtorEq, ↓reduceIte, Int.reduceToNat, Int.reduceLE, Int.reduceLT, Int.reduceNe, Int.reduceEq, hl, hc, ha', hj2']
        rw [← he]
        exact ⟨⟨true, rfl⟩, rfl⟩
      · rw [if_neg (by omega)] at he
        have e4 : IntKind.i64.wrap ((j2 : Int) - 1) = ((j2 - 1 : Nat) : Int) := by rw [w64 (by omega) (by omega)]; omega
        have hi2' : i2 < d.size := by omega
        have hj2' : j2 < d.size := by omega
        simp (maxDischargeDepth := 12) (maxSteps := 1000000) -implicitDefEqProofs only [go_sem, Nat.reduceAdd, Nat.reduceSub, Nat.reduceMul, Nat.reduceLeDiff, Nat.reduceEqDiff, Nat.reduceGT, Nat.reduceBEq, reduceCtorEq, ↓reduceIte, Int.reduceToNat, Int.reduceLE, Int.reduceLT, Int.reduceNe, Int.reduceEq, hl, hc, hi2', hj2', e3, e4]
        clear hij
        refine loopK [18, 1006, 1008] [0, 1, 10, 11] (fun s : Nat × Nat × Array Int => [(10, dI s.1), (11, dI s.2.1)]) (fun s => (⟨S.box, up S.acc l (.arr 1 (rowA dU (s.2.2)))⟩ : St)) (fun s => a < s.1 ∧ s.1 ≤ s.2.1 + 2 ∧ s.2.1 < b ∧ s.2.2.size = d.size ∧ Go.Sort.partLoop Go.Sort.ltInt a s.1 s.2.1 s.2.2 = R) (fun s => s.2.1 + 1 - s.1) (i2 + 1, j2 - 1, Go.Sort.swp c i2 j2) mx (by kernel_rfl) ?_ ?_
        · refine ⟨⟨by show a < i2 + 1; omega, by show i2 + 1 ≤ j2 - 1 + 2; omega, by show j2 - 1 < b; omega, by rw [swp_size]; exact hc, he⟩, ?_, ?_⟩ <;> simp (maxDischargeDepth := 12) (maxSteps := 1000000) -implicitDefEqProofs only [go_sem, Nat.reduceAdd, Nat.reduceSub, Nat.reduceMul, Nat.reduceLeDiff, Nat.reduceEqDiff, Nat.reduceGT, Nat.reduceBEq, reduceCtorEq, ↓reduceIte, Int.reduceToNat, Int.reduceLE, Int.reduceLT, Int.reduceNe, Int.reduceEq]
        · clear he e3 e4 hi2' hj2' hj1 hj2 hj3 hi1 hij2 hi2 h hR hc0 hc
          rintro ⟨i, j, c⟩ ⟨hi, hij, hj, hc, he⟩
          simp only at hi hij hj hc he
          rw [Go.Sort.partLoop_eq] at he
          simp (maxDischargeDepth := 12) (maxSteps := 1000000) -implicitDefEqProofs only [go_sem, Nat.reduceAdd, Nat.reduceSub, Nat.reduceMul, Nat.reduceLeDiff, Nat.reduceEqDiff, Nat.reduceGT, Nat.reduceBEq, reduceCtorEq, ↓reduceIte, Int.reduceToNat, Int.reduceLE, Int.reduceLT, Int.reduceNe, Int.reduceEq, hl]
          refine cutK [] [0, 1, 10, 11] (fun s : Nat => [(10, dI s)]) (fun _ => (⟨S.box, up S.acc l (.arr 1 (rowA dU (c)))⟩ : St)) (fun s => i ≤ s ∧ s ≤ j + 2 ∧ s = Go.Sort.scanUp (fun x => Go.Sort.ltInt x c[a]!) c j i) mx (by kernel_rfl) ?_ ?_
          · simp (maxDischargeDepth := 12) (maxSteps := 1000000) -implicitDefEqProofs only [go_sem, Nat.reduceAdd, Nat.reduceSub, Nat.reduceMul, Nat.reduceLeDiff, Nat.reduceEqDiff, Nat.reduceGT, Nat.reduceBEq, reduceCtorEq, ↓reduceIte, Int.reduceToNat, Int.reduceLE, Int.reduceLT, Int.reduceNe, Int.reduceEq]
            refine loopK [] [0, 1, 10, 11] (fun s : Nat => [(10, dI s)]) (fun _ => (⟨S.box, up S.acc l (.arr 1 (rowA dU (c)))⟩ : St)) (fun s => i ≤ s ∧ s ≤ j + 2 ∧ Go.Sort.scanUp (fun x => Go.Sort.ltInt x c[a]!) c j s = Go.Sort.scanUp (fun x => Go.Sort.ltInt x c[a]!) c j i) (fun s => j + 2 - s) (i) mx (by kernel_rfl) ?_ ?_
            · refine ⟨⟨Nat.le_refl _, hij, rfl⟩, ?_, ?_⟩ <;> simp (maxDischargeDepth := 12) (maxSteps := 1000000) -implicitDefEqProofs only [go_sem, Nat.reduceAdd, Nat.reduceSub, Nat.reduceMul, Nat.reduceLeDiff, Nat.reduceEqDiff, Nat.reduceGT, Nat.reduceBEq, reduceCtorEq, ↓reduceIte, Int.reduceToNat, Int.reduceLE, Int.reduceLT, Int.reduceNe, Int.reduceEq]
            · rintro s ⟨hs1, hs2, hs⟩
              have e3 := i_one s (by omega)
              rw [Go.Sort.scanUp.eq_1] at hs
              by_cases h : s ≤ j
              · have hsd : s < d.size := by omega
                simp (maxDischargeDepth := 12) (maxSteps := 1000000) -implicitDefEqProofs only [go_sem, Nat.reduceAdd, Nat.reduceSub, Nat.reduceMul, Nat.reduceLeDiff, Nat.reduceEqDiff, Nat.reduceGT, Nat.reduceBEq, reduceCtorEq, ↓reduceIte, Int.reduceToNat, Int.reduceLE, Int.reduceLT, Int.reduceNe, Int.reduceEq, hl, hc, ha', e3, hsd, h]
                refine useQ (lessU w0 _ _ _) ?_
                simp (maxDischargeDepth := 12) (maxSteps := 1000000) -implicitDefEqProofs only [go_sem, Nat.reduceAdd, Nat.reduceSub, Nat.reduceMul, Nat.reduceLeDiff, Nat.reduceEqDiff, Nat.reduceGT, Nat.reduceBEq, reduceCtorEq, ↓reduceIte, Int.reduceToNat, Int.reduceLE, Int.reduceLT, Int.reduceNe, Int.reduceEq, hl, hc, ha', e3, hsd, h]
                refine ⟨fun h2 => ?_, fun h2 => ?_⟩
                · rw [if_pos (by simp [Go.Sort.ltInt]; omega)] at hs; exact ⟨s + 1, ⟨by omega, by omega, hs⟩, by omega, rfl⟩
                · rw [if_neg (by simp [Go.Sort.ltInt]; omega)] at hs; exact ⟨s, ⟨hs1, hs2, hs⟩, rfl⟩
              · simp (maxDischargeDepth := 12) (maxSteps := 1000000) -implicitDefEqProofs only [go_sem, Nat.reduceAdd, Nat.reduceSub, Nat.reduceMul, Nat.reduceLeDiff, Nat.reduceEqDiff, Nat.reduceGT, Nat.reduceBEq, reduceCtorEq, ↓reduceIte, Int.reduceToNat, Int.reduceLE, Int.reduceLT, Int.reduceNe, Int.reduceEq, hl, hc, ha', h]
                rw [if_neg (by simp [h])] at hs
                exact ⟨s, ⟨hs1, hs2, hs⟩, rfl⟩
          · rintro i2 ⟨hi1, hij2, hi2⟩
            simp (maxDischargeDepth := 12) (maxSteps := 1000000) -implicitDefEqProofs only [go_sem, Nat.reduceAdd, Nat.reduceSub, Nat.reduceMul, Nat.reduceLeDiff, Nat.reduceEqDiff, Nat.reduceGT, Nat.reduceBEq, reduceCtorEq, ↓reduceIte, Int.reduceToNat, Int.reduceLE, Int.reduceLT, Int.reduceNe, Int.reduceEq, hl]
            refine cutK [] [0, 1, 10, 11] (fun s : Nat => [(11, dI s)]) (fun _ => (⟨S.box, up S.acc l (.arr 1 (rowA dU (c)))⟩ : St)) (fun s => s ≤ j ∧ i2 ≤ s + 2 ∧ s = Go.Sort.scanDown (fun x => !Go.Sort.ltInt x c[a]!) c i2 j) mx (by kernel_rfl) ?_ ?_
            · simp (maxDischargeDepth := 12) (maxSteps := 1000000) -implicitDefEqProofs only [go_sem, Nat.reduceAdd, Nat.reduceSub, Nat.reduceMul, Nat.reduceLeDiff, Nat.reduceEqDiff, Nat.reduceGT, Nat.reduceBEq, reduceCtorEq, ↓reduceIte, Int.reduceToNat, Int.reduceLE, Int.reduceLT, Int.reduceNe, Int.reduceEq]
              refine loopK [] [0, 1, 10, 11] (fun s : Nat => [(11, dI s)]) (fun _ => (⟨S.box, up S.acc l (.arr 1 (rowA dU (c)))⟩ : St)) (fun s => s ≤ j ∧ i2 ≤ s + 2 ∧ Go.Sort.scanDown (fun x => !Go.Sort.ltInt x c[a]!) c i2 s = Go.Sort.scanDown (fun x => !Go.Sort.ltInt x c[a]!) c i2 j) (fun s => s) (j) mx (by kernel_rfl) ?_ ?_
              · refine ⟨⟨Nat.le_refl _, hij2, rfl⟩, ?_, ?_⟩ <;> simp (maxDischargeDepth := 12) (maxSteps := 1000000) -implicitDefEqProofs only [go_sem, Nat.reduceAdd, Nat.reduceSub, Nat.reduceMul, Nat.reduceLeDiff, Nat.reduceEqDiff, Nat.reduceGT, Nat.reduceBEq, reduceCtorEq, ↓reduceIte, Int.reduceToNat, Int.reduceLE, Int.reduceLT, Int.reduceNe, Int.reduceEq]
              · rintro s ⟨hs1, hs2, hs⟩
                by_cases h : i2 ≤ s
                · cases s with
                  | zero => exact absurd h (by omega)
                  | succ s =>
                    have e3 := i_pre s (by omega)
                    have hsd : s + 1 < d.size := by omega
                    rw [Go.Sort.scanDown] at hs
                    simp (maxDischargeDepth := 12) (maxSteps := 1000000) -implicitDefEqProofs only [go_sem, Nat.reduceAdd, Nat.reduceSub, Nat.reduceMul, Nat.reduceLeDiff, Nat.reduceEqDiff, Nat.reduceGT, Nat.reduceBEq, reduceCtorEq, ↓reduceIte, Int.reduceToNat, Int.reduceLE, Int.reduceLT, Int.reduceNe, Int.reduceEq, hl, hc, ha', e3, hsd, h]
                    refine useQ (lessU w0 _ _ _) ?_
                    simp (maxDischargeDepth := 12) (maxSteps := 1000000) -implicitDefEqProofs only [go_sem, Nat.reduceAdd, Nat.reduceSub, Nat.reduceMul, Nat.reduceLeDiff, Nat.reduceEqDiff, Nat.reduceGT, Nat.reduceBEq, reduceCtorEq, ↓reduceIte, Int.reduceToNat, Int.reduceLE, Int.reduceLT, Int.reduceNe, Int.reduceEq, hl, hc, ha', e3, hsd, h]
                    refine ⟨fun h2 => ?_, fun h2 => ?_⟩
                    · rw [if_pos (by simp [Go.Sort.ltInt]; omega)] at hs; exact ⟨s, ⟨by omega, by omega, hs⟩, by omega, rfl⟩
                    · rw [if_neg (by simp [Go.Sort.ltInt]; omega)] at hs; exact ⟨s + 1, ⟨hs1, hs2, hs⟩, rfl⟩
                · have hs' : s = Go.Sort.scanDown (fun x => !Go.Sort.ltInt x c[a]!) c i2 j := by
                    rw [← hs]
                    cases s with
                    | zero => rfl
                    | succ s => rw [Go.Sort.scanDown, if_neg (by simp [h])]
                  simp (maxDischargeDepth := 12) (maxSteps := 1000000) -implicitDefEqProofs only [go_sem, Nat.reduceAdd, Nat.reduceSub, Nat.reduceMul, Nat.reduceLeDiff, Nat.reduceEqDiff, Nat.reduceGT, Nat.reduceBEq, reduceCtorEq, ↓reduceIte, Int.reduceToNat, Int.reduceLE, Int.reduceLT, Int.reduceNe, Int.reduceEq, hl, hc, ha', h]
                  exact ⟨s, ⟨hs1, hs2, hs'⟩, rfl⟩
            · rintro j2 ⟨hj1, hj2, hj3⟩
              rw [← hi2] at he
              rw [← hj3] at he
              have e3 := i_one i2 (by omega)
              simp (maxDischargeDepth := 12) (maxSteps := 1000000) -implicitDefEqProofs only [go_sem, Nat.reduceAdd, Nat.reduceSub, Nat.reduceMul, Nat.reduceLeDiff, Nat.reduceEqDiff, Nat.reduceGT, Nat.reduceBEq, reduceCtorEq, ↓reduceIte, Int.reduceToNat, Int.reduceLE, Int.reduceLT, Int.reduceNe, Int.reduceEq, hl]
              refine ⟨fun h => lexK mx (by kernel_rfl) ?_, fun h => lexK mx (by kernel_rfl) ?_⟩
              · rw [if_pos (by omega)] at he
                have hj2' : j2 < d.size := by omega
                simp (maxDischargeDepth := 12) (maxSteps := 1000000) -implicitDefEqProofs only [go_sem, Nat.reduceAdd, Nat.reduceSub, Nat.reduceMul, Nat.reduceLeDiff, Nat.reduceEqDiff, Nat.reduceGT, Nat.reduceBEq, reduceCtorEq, ↓reduceIte, Int.reduceToNat, Int.reduceLE, Int.reduceLT, Int.reduceNe, Int.reduceEq, hl, hc, ha', hj2']
                rw [← he]
                exact ⟨⟨false, rfl⟩, rfl⟩
              · rw [if_neg (by omega)] at he
                have e4 : IntKind.i64.wrap ((j2 : Int) - 1) = ((j2 - 1 : Nat) : Int) := by rw [w64 (by omega) (by omega)]; omega
                have hi2' : i2 < d.size := by omega
                have hj2' : j2 < d.size := by omega
                simp (maxDischargeDepth := 12) (maxSteps := 1000000) -implicitDefEqProofs only [go_sem, Nat.reduceAdd, Nat.reduceSub, Nat.reduceMul, Nat.reduceLeDiff, Nat.reduceEqDiff, Nat.reduceGT, Nat.reduceBEq, reduceCtorEq, ↓reduceIte, Int.reduceToNat, Int.reduceLE, Int.reduceLT, Int.reduceNe, Int.reduceEq, hl, hc, hi2', hj2', e3, e4]
                exact ⟨(i2 + 1, j2 - 1, Go.Sort.swp c i2 j2), ⟨by show a < i2 + 1; omega, by show i2 + 1 ≤ j2 - 1 + 2; omega, by show j2 - 1 < b; omega, by rw [swp_size]; exact hc, he⟩, by show j2 - 1 + 1 - (i2 + 1) < j + 1 - i; omega, ⟨rfl, rfl⟩, .refl _⟩
end Go.Proofs.Ytkibkahknibgfaa

namespace Go.Proofs.Ytkibkahknibgfaa
open Aml Go
set_option linter.unusedVariables false
set_option linter.unusedSimpArgs false
set_option maxRecDepth 100000
theorem i_prev (i : Nat) (h : i < 2 ^ 61) (h1 : 0 < i) : IntKind.i64.wrap ((i : Int) - 1) = ((i - 1 : Nat) : Int) := by rw [w64 (by omega) (by omega)]; omega
theorem partU_size (lo b i : Nat) (d : Array Int) : ∀ m j, b - j ≤ m → ∀ d : Array Int, (Go.Sort.shiftUp Go.Sort.ltInt b j d).size = d.size := by
  intro m
  induction m with
  | zero => intro j h d; rw [Go.Sort.shiftUp.eq_1, if_neg (by omega)]
  | succ m ih =>
    intro j h d
    rw [Go.Sort.shiftUp.eq_1]
    split
    · split
      · rfl
      · rw [ih _ (by omega), swp_size]
    · rfl
set_option maxHeartbeats 1000000 in
theorem insPartU (w0 : W0) (d : Array Int) {l : Nat} {o : Ob} {a b : Nat} {S : St} (hl : lk S.acc l = some o) (hab : a < b) (hb : b ≤ d.size) (hd : d.size < 2 ^ 60) :
    ACall Try.prog w0 124 [.acc l d.size, dI a, dI b] (⟨S.box, up S.acc l (.arr 1 (rowA dU (d)))⟩ : St) (fun e S' => e = dB (Go.Sort.partialInsertionSort Go.Sort.ltInt d a b).2 ∧ S' = (⟨S.box, up S.acc l (.arr 1 (rowA dU ((Go.Sort.partialInsertionSort Go.Sort.ltInt d a b).1)))⟩ : St)) := by
  have e1 := i_one a (by omega)
  have e0 := i_sub b a (by omega) (by omega)
  unfold Go.Sort.partialInsertionSort
  generalize hR : Go.Sort.partialIns Go.Sort.ltInt a b 5 (a + 1) d = R
  refine fnO [] mx Try.func124 rfl rfl (by kernel_rfl) ?_; simp (maxDischargeDepth := 12) (maxSteps := 1000000) -implicitDefEqProofs only [Try.ntmps124, go_sem, Nat.reduceAdd, Nat.reduceSub, Nat.reduceMul, Nat.reduceLeDiff, Nat.reduceEqDiff, Nat.reduceGT, Nat.reduceBEq, reduceCtorEq, ↓reduceIte, Int.reduceToNat, Int.reduceLE, Int.reduceLT, Int.reduceNe, Int.reduceEq,  hl, e1]
  refine loopK [1002, 1004, 1006, 11] [0, 1, 2, 7, 8] (fun s : Nat × Nat × Array Int => [(7, dI s.2.1), (8, dI s.1)]) (fun s => (⟨S.box, up S.acc l (.arr 1 (rowA dU (s.2.2)))⟩ : St)) (fun s => s.1 ≤ 5 ∧ a < s.2.1 ∧ s.2.1 ≤ b ∧ s.2.2.size = d.size ∧ Go.Sort.partialIns Go.Sort.ltInt a b (5 - s.1) s.2.1 s.2.2 = R) (fun s => 5 - s.1) (0, a + 1, d) mx (by kernel_rfl) ?_ ?_
  · refine ⟨⟨by show 0 ≤ 5; omega, by show a < a + 1; omega, by show a + 1 ≤ b; omega, rfl, hR⟩, ?_, ?_⟩ <;> simp (maxDischargeDepth := 12) (maxSteps := 1000000) -implicitDefEqProofs only [go_sem, Nat.reduceAdd, Nat.reduceSub, Nat.reduceMul, Nat.reduceLeDiff, Nat.reduceEqDiff, Nat.reduceGT, Nat.reduceBEq, reduceCtorEq, ↓reduceIte, Int.reduceToNat, Int.reduceLE, Int.reduceLT, Int.reduceNe, Int.reduceEq]
  · rintro ⟨n, i, c⟩ ⟨hn, hi, hib, hc, he⟩
    simp only at hn hi hib hc he
    simp (maxDischargeDepth := 12) (maxSteps := 1000000) -implicitDefEqProofs only [go_sem, Nat.reduceAdd, Nat.reduceSub, Nat.reduceMul, Nat.reduceLeDiff, Nat.reduceEqDiff, Nat.reduceGT, Nat.reduceBEq, reduceCtorEq, ↓reduceIte, Int.reduceToNat, Int.reduceLE, Int.reduceLT, Int.reduceNe, Int.reduceEq, hl]
    refine ⟨fun h5 => ?_, fun h5 => by
      have : 5 - n = 0 := by omega
      rw [this] at he
      rw [← he]
      exact ⟨rfl, rfl⟩⟩
    have hn1 : 5 - n = (4 - n) + 1 := by omega
    rw [hn1, Go.Sort.partialIns_succ] at he
    unfold Go.Sort.fixUp Go.Sort.fixDown at he
    have en := i_one n (by omega)
    refine cutK [] [0, 1, 2, 7, 8] (fun s : Nat => [(7, dI s)]) (fun _ => (⟨S.box, up S.acc l (.arr 1 (rowA dU (c)))⟩ : St)) (fun s => a < s ∧ s ≤ b ∧ s = Go.Sort.scanSorted Go.Sort.ltInt c b i) mx (by kernel_rfl) ?_ ?_
    · simp (maxDischargeDepth := 12) (maxSteps := 1000000) -implicitDefEqProofs only [go_sem, Nat.reduceAdd, Nat.reduceSub, Nat.reduceMul, Nat.reduceLeDiff, Nat.reduceEqDiff, Nat.reduceGT, Nat.reduceBEq, reduceCtorEq, ↓reduceIte, Int.reduceToNat, Int.reduceLE, Int.reduceLT, Int.reduceNe, Int.reduceEq]
      refine loopK [] [0, 1, 2, 7, 8] (fun s : Nat => [(7, dI s)]) (fun _ => (⟨S.box, up S.acc l (.arr 1 (rowA dU (c)))⟩ : St)) (fun s => a < s ∧ s ≤ b ∧ Go.Sort.scanSorted Go.Sort.ltInt c b s = Go.Sort.scanSorted Go.Sort.ltInt c b i) (fun s => b - s) i mx (by kernel_rfl) ?_ ?_
      · refine ⟨⟨hi, hib, rfl⟩, ?_, ?_⟩ <;> simp (maxDischargeDepth := 12) (maxSteps := 1000000) -implicitDefEqProofs only [go_sem, Nat.reduceAdd, Nat.reduceSub, Nat.reduceMul, Nat.reduceLeDiff, Nat.reduceEqDiff, Nat.reduceGT, Nat.reduceBEq, reduceCtorEq, ↓reduceIte, Int.reduceToNat, Int.reduceLE, Int.reduceLT, Int.reduceNe, Int.reduceEq]
      · rintro s ⟨hs1, hs2, hs⟩
        have e3 := i_one s (by omega)
        have e4 := i_prev s (by omega) (by omega)
        rw [Go.Sort.scanSorted.eq_1] at hs
        by_cases h : s < b
        · have hsd : s < d.size := by omega
          have hsd1 : s - 1 < d.size := by omega
          simp (maxDischargeDepth := 12) (maxSteps := 1000000) -implicitDefEqProofs only [go_sem, Nat.reduceAdd, Nat.reduceSub, Nat.reduceMul, Nat.reduceLeDiff, Nat.reduceEqDiff, Nat.reduceGT, Nat.reduceBEq, reduceCtorEq, ↓reduceIte, Int.reduceToNat, Int.reduceLE, Int.reduceLT, Int.reduceNe, Int.reduceEq, hl, hc, e3, e4, hsd, hsd1, h]
          refine useQ (lessU w0 _ _ _) ?_
          simp (maxDischargeDepth := 12) (maxSteps := 1000000) -implicitDefEqProofs only [go_sem, Nat.reduceAdd, Nat.reduceSub, Nat.reduceMul, Nat.reduceLeDiff, Nat.reduceEqDiff, Nat.reduceGT, Nat.reduceBEq, reduceCtorEq, ↓reduceIte, Int.reduceToNat, Int.reduceLE, Int.reduceLT, Int.reduceNe, Int.reduceEq, hl, hc, e3, e4, hsd, hsd1, h]
          refine ⟨fun h2 => ?_, fun h2 => ?_⟩
          · rw [if_pos (by simp [Go.Sort.ltInt]; omega)] at hs
            exact ⟨s + 1, ⟨by omega, by omega, hs⟩, by omega, rfl⟩
          · rw [if_neg (by simp [Go.Sort.ltInt]; omega)] at hs
            exact ⟨s, ⟨hs1, hs2, hs⟩, rfl⟩
        · simp (maxDischargeDepth := 12) (maxSteps := 1000000) -implicitDefEqProofs only [go_sem, Nat.reduceAdd, Nat.reduceSub, Nat.reduceMul, Nat.reduceLeDiff, Nat.reduceEqDiff, Nat.reduceGT, Nat.reduceBEq, reduceCtorEq, ↓reduceIte, Int.reduceToNat, Int.reduceLE, Int.reduceLT, Int.reduceNe, Int.reduceEq, hl, hc, h]
          rw [if_neg (by simp [h])] at hs
          exact ⟨s, ⟨hs1, hs2, hs⟩, rfl⟩
    · rintro i2 ⟨hi1, hi2, hi3⟩
      rw [← hi3] at he
      have e3 := i_prev i2 (by omega) (by omega)
      simp (maxDischargeDepth := 12) (maxSteps := 1000000) -implicitDefEqProofs only [go_sem, Nat.reduceAdd, Nat.reduceSub, Nat.reduceMul, Nat.reduceLeDiff, Nat.reduceEqDiff, Nat.reduceGT, Nat.reduceBEq, reduceCtorEq, ↓reduceIte, Int.reduceToNat, Int.reduceLE, Int.reduceLT, Int.reduceNe, Int.reduceEq, hl, e0, e3]
      refine ⟨fun h => ?_, fun h => ⟨fun h50 => ?_, fun h50 => lexK mx (by kernel_rfl) ?_⟩⟩
      · rw [if_pos (by omega)] at he
        rw [← he]
        exact ⟨rfl, rfl⟩
      · rw [if_neg (by omega), if_pos (by omega)] at he
        rw [← he]
        exact ⟨rfl, rfl⟩
      · rw [if_neg (by omega), if_neg (by omega)] at he
        have hi2' : i2 < d.size := by omega
        have hi2p : i2 - 1 < d.size := by omega
        have e5 := i_sub i2 a (by omega) (by omega)
        have e6 := i_sub b i2 (by omega) (by omega)
        have e7 := i_one i2 (by omega)
        simp (maxDischargeDepth := 12) (maxSteps := 1000000) -implicitDefEqProofs only [go_sem, Nat.reduceAdd, Nat.reduceSub, Nat.reduceMul, Nat.reduceLeDiff, Nat.reduceEqDiff, Nat.reduceGT, Nat.reduceBEq, reduceCtorEq, ↓reduceIte, Int.reduceToNat, Int.reduceLE, Int.reduceLT, Int.reduceNe, Int.reduceEq, hl, hc, hi2', hi2p, e3, e5]
        generalize hc1 : Go.Sort.swp c i2 (i2 - 1) = c1 at he ⊢
        have hs1 : c1.size = d.size := by rw [← hc1, swp_size]; exact hc
        refine ⟨fun h2 => ?_, fun h2 => ?_⟩
        · refine cutK [] [0, 1, 2, 7, 8] (fun s : Array Int => []) (fun s => (⟨S.box, up S.acc l (.arr 1 (rowA dU (s)))⟩ : St)) (fun s => s.size = d.size ∧ s = Go.Sort.shiftDown Go.Sort.ltInt (i2 - 1) c1) mx (by kernel_rfl) ?_ ?_
          · simp (maxDischargeDepth := 12) (maxSteps := 1000000) -implicitDefEqProofs only [go_sem, Nat.reduceAdd, Nat.reduceSub, Nat.reduceMul, Nat.reduceLeDiff, Nat.reduceEqDiff, Nat.reduceGT, Nat.reduceBEq, reduceCtorEq, ↓reduceIte, Int.reduceToNat, Int.reduceLE, Int.reduceLT, Int.reduceNe, Int.reduceEq, e3]
            refine loopK [17] [0, 1, 2, 7, 8, 9] (fun s : Nat × Array Int => [(9, dI s.1)]) (fun s => (⟨S.box, up S.acc l (.arr 1 (rowA dU (s.2)))⟩ : St)) (fun s => s.1 ≤ i2 - 1 ∧ s.2.size = d.size ∧ Go.Sort.shiftDown Go.Sort.ltInt s.1 s.2 = Go.Sort.shiftDown Go.Sort.ltInt (i2 - 1) c1) (fun s => s.1) (i2 - 1, c1) mx (by kernel_rfl) ?_ ?_
            · refine ⟨⟨Nat.le_refl _, hs1, rfl⟩, ?_, ?_⟩ <;> simp (maxDischargeDepth := 12) (maxSteps := 1000000) -implicitDefEqProofs only [go_sem, Nat.reduceAdd, Nat.reduceSub, Nat.reduceMul, Nat.reduceLeDiff, Nat.reduceEqDiff, Nat.reduceGT, Nat.reduceBEq, reduceCtorEq, ↓reduceIte, Int.reduceToNat, Int.reduceLE, Int.reduceLT, Int.reduceNe, Int.reduceEq]
            · rintro ⟨j, c2⟩ ⟨hj, hc2, hs⟩
              simp only at hj hc2 hs
              cases j with
              | zero =>
                simp (maxDischargeDepth := 12) (maxSteps := 1000000) -implicitDefEqProofs only [go_sem, Nat.reduceAdd, Nat.reduceSub, Nat.reduceMul, Nat.reduceLeDiff, Nat.reduceEqDiff, Nat.reduceGT, Nat.reduceBEq, reduceCtorEq, ↓reduceIte, Int.reduceToNat, Int.reduceLE, Int.reduceLT, Int.reduceNe, Int.reduceEq, hl, hc2]
                exact ⟨fun h => absurd h (by decide), fun _ => ⟨c2, ⟨hc2, hs⟩, .refl _⟩⟩
              | succ j =>
                have e8 := i_pre j (by omega)
                have hj1 : j + 1 < d.size := by omega
                have hj0 : j < d.size := by omega
                have hg : (1 : Int) ≤ ((j + 1 : Nat) : Int) := by omega
                rw [Go.Sort.shiftDown] at hs
                simp (maxDischargeDepth := 12) (maxSteps := 1000000) -implicitDefEqProofs only [go_sem, Nat.reduceAdd, Nat.reduceSub, Nat.reduceMul, Nat.reduceLeDiff, Nat.reduceEqDiff, Nat.reduceGT, Nat.reduceBEq, reduceCtorEq, ↓reduceIte, Int.reduceToNat, Int.reduceLE, Int.reduceLT, Int.reduceNe, Int.reduceEq, hl, hc2, e8, hj1, hj0, hg]
                refine useQ (lessU w0 _ _ _) ?_
                simp (maxDischargeDepth := 12) (maxSteps := 1000000) -implicitDefEqProofs only [go_sem, Nat.reduceAdd, Nat.reduceSub, Nat.reduceMul, Nat.reduceLeDiff, Nat.reduceEqDiff, Nat.reduceGT, Nat.reduceBEq, reduceCtorEq, ↓reduceIte, Int.reduceToNat, Int.reduceLE, Int.reduceLT, Int.reduceNe, Int.reduceEq, hl, hc2, e8, hj1, hj0]
                refine ⟨fun h3 => ?_, fun h3 => lexK mx (by kernel_rfl) ?_⟩
                · rw [if_pos (by simp [Go.Sort.ltInt]; omega)] at hs
                  exact ⟨c2, ⟨hc2, hs⟩, .refl _⟩
                · rw [if_neg (by simp [Go.Sort.ltInt]; omega)] at hs
                  simp (maxDischargeDepth := 12) (maxSteps := 1000000) -implicitDefEqProofs only [go_sem, Nat.reduceAdd, Nat.reduceSub, Nat.reduceMul, Nat.reduceLeDiff, Nat.reduceEqDiff, Nat.reduceGT, Nat.reduceBEq, reduceCtorEq, ↓reduceIte, Int.reduceToNat, Int.reduceLE, Int.reduceLT, Int.reduceNe, Int.reduceEq, hl, hc2, e8, hj1, hj0]
                  exact ⟨(j, Go.Sort.swp c2 (j + 1) j), ⟨by show j ≤ i2 - 1; omega, by rw [swp_size]; exact hc2, hs⟩, by show j < j + 1; omega, rfl, .refl _⟩
          · rintro c2 ⟨hs2, hc2⟩
            rw [if_pos (show i2 - a ≥ 2 by omega), ← hc2] at he
            simp (maxDischargeDepth := 12) (maxSteps := 1000000) -implicitDefEqProofs only [go_sem, Nat.reduceAdd, Nat.reduceSub, Nat.reduceMul, Nat.reduceLeDiff, Nat.reduceEqDiff, Nat.reduceGT, Nat.reduceBEq, reduceCtorEq, ↓reduceIte, Int.reduceToNat, Int.reduceLE, Int.reduceLT, Int.reduceNe, Int.reduceEq, hl, e6]
            refine ⟨fun h3 => ?_, fun h3 => ?_⟩
            · refine cutK [] [0, 1, 2, 7, 8] (fun s : Array Int => []) (fun s => (⟨S.box, up S.acc l (.arr 1 (rowA dU (s)))⟩ : St)) (fun s => s.size = d.size ∧ s = Go.Sort.shiftUp Go.Sort.ltInt b (i2 + 1) c2) mx (by kernel_rfl) ?_ ?_
              · simp (maxDischargeDepth := 12) (maxSteps := 1000000) -implicitDefEqProofs only [go_sem, Nat.reduceAdd, Nat.reduceSub, Nat.reduceMul, Nat.reduceLeDiff, Nat.reduceEqDiff, Nat.reduceGT, Nat.reduceBEq, reduceCtorEq, ↓reduceIte, Int.reduceToNat, Int.reduceLE, Int.reduceLT, Int.reduceNe, Int.reduceEq, e7]
                refine loopK [23] [0, 1, 2, 7, 8, 10] (fun s : Nat × Array Int => [(10, dI s.1)]) (fun s => (⟨S.box, up S.acc l (.arr 1 (rowA dU (s.2)))⟩ : St)) (fun s => i2 < s.1 ∧ s.1 ≤ b ∧ s.2.size = d.size ∧ Go.Sort.shiftUp Go.Sort.ltInt b s.1 s.2 = Go.Sort.shiftUp Go.Sort.ltInt b (i2 + 1) c2) (fun s => b - s.1) (i2 + 1, c2) mx (by kernel_rfl) ?_ ?_
                · refine ⟨⟨by show i2 < i2 + 1; omega, by show i2 + 1 ≤ b; omega, hs2, rfl⟩, ?_, ?_⟩ <;> simp (maxDischargeDepth := 12) (maxSteps := 1000000) -implicitDefEqProofs only [go_sem, Nat.reduceAdd, Nat.reduceSub, Nat.reduceMul, Nat.reduceLeDiff, Nat.reduceEqDiff, Nat.reduceGT, Nat.reduceBEq, reduceCtorEq, ↓reduceIte, Int.reduceToNat, Int.reduceLE, Int.reduceLT, Int.reduceNe, Int.reduceEq]
                · rintro ⟨j, c2⟩ ⟨hj, hjb, hc2, hs⟩
                  simp only at hj hjb hc2 hs
                  have e8 := i_prev j (by omega) (by omega)
                  have e9 := i_one j (by omega)
                  rw [Go.Sort.shiftUp.eq_1] at hs
                  by_cases hjb' : j < b
                  · have hj1 : j < d.size := by omega
                    have hj0 : j - 1 < d.size := by omega
                    rw [if_pos hjb'] at hs
                    simp (maxDischargeDepth := 12) (maxSteps := 1000000) -implicitDefEqProofs only [go_sem, Nat.reduceAdd, Nat.reduceSub, Nat.reduceMul, Nat.reduceLeDiff, Nat.reduceEqDiff, Nat.reduceGT, Nat.reduceBEq, reduceCtorEq, ↓reduceIte, Int.reduceToNat, Int.reduceLE, Int.reduceLT, Int.reduceNe, Int.reduceEq, hl, hc2, e8, e9, hj1, hj0, hjb']
                    refine useQ (lessU w0 _ _ _) ?_
                    simp (maxDischargeDepth := 12) (maxSteps := 1000000) -implicitDefEqProofs only [go_sem, Nat.reduceAdd, Nat.reduceSub, Nat.reduceMul, Nat.reduceLeDiff, Nat.reduceEqDiff, Nat.reduceGT, Nat.reduceBEq, reduceCtorEq, ↓reduceIte, Int.reduceToNat, Int.reduceLE, Int.reduceLT, Int.reduceNe, Int.reduceEq, hl, hc2, e8, e9, hj1, hj0]
                    refine ⟨fun h3 => ?_, fun h3 => lexK mx (by kernel_rfl) ?_⟩
                    · rw [if_pos (by simp [Go.Sort.ltInt]; omega)] at hs
                      exact ⟨c2, ⟨hc2, hs⟩, .refl _⟩
                    · rw [if_neg (by simp [Go.Sort.ltInt]; omega)] at hs
                      simp (maxDischargeDepth := 12) (maxSteps := 1000000) -implicitDefEqProofs only [go_sem, Nat.reduceAdd, Nat.reduceSub, Nat.reduceMul, Nat.reduceLeDiff, Nat.reduceEqDiff, Nat.reduceGT, Nat.reduceBEq, reduceCtorEq, ↓reduceIte, Int.reduceToNat, Int.reduceLE, Int.reduceLT, Int.reduceNe, Int.reduceEq, hl, hc2, e8, e9, hj1, hj0]
                      exact ⟨(j + 1, Go.Sort.swp c2 j (j - 1)), ⟨by show i2 < j + 1; omega, by show j + 1 ≤ b; omega, by rw [swp_size]; exact hc2, hs⟩, by show b - (j + 1) < b - j; omega, rfl, .refl _⟩
                  · rw [if_neg hjb'] at hs
                    simp (maxDischargeDepth := 12) (maxSteps := 1000000) -implicitDefEqProofs only [go_sem, Nat.reduceAdd, Nat.reduceSub, Nat.reduceMul, Nat.reduceLeDiff, Nat.reduceEqDiff, Nat.reduceGT, Nat.reduceBEq, reduceCtorEq, ↓reduceIte, Int.reduceToNat, Int.reduceLE, Int.reduceLT, Int.reduceNe, Int.reduceEq, hl, hc2, hjb']
                    exact ⟨c2, ⟨hc2, hs⟩, .refl _⟩
              · rintro c3 ⟨hs3, hc3⟩
                simp (maxDischargeDepth := 12) (maxSteps := 1000000) -implicitDefEqProofs only [go_sem, Nat.reduceAdd, Nat.reduceSub, Nat.reduceMul, Nat.reduceLeDiff, Nat.reduceEqDiff, Nat.reduceGT, Nat.reduceBEq, reduceCtorEq, ↓reduceIte, Int.reduceToNat, Int.reduceLE, Int.reduceLT, Int.reduceNe, Int.reduceEq, en]
                rw [if_pos (show b - i2 ≥ 2 by omega), ← hc3] at he
                exact ⟨(n + 1, i2, c3), ⟨by show n + 1 ≤ 5; omega, hi1, hi2, hs3, by show Go.Sort.partialIns Go.Sort.ltInt a b (5 - (n + 1)) i2 c3 = R; rw [show 5 - (n + 1) = 4 - n by omega]; exact he⟩, by show 5 - (n + 1) < 5 - n; omega, ⟨rfl, rfl⟩, .refl _⟩
            · rw [if_neg (show ¬ b - i2 ≥ 2 by omega)] at he
              simp (maxDischargeDepth := 12) (maxSteps := 1000000) -implicitDefEqProofs only [go_sem, Nat.reduceAdd, Nat.reduceSub, Nat.reduceMul, Nat.reduceLeDiff, Nat.reduceEqDiff, Nat.reduceGT, Nat.reduceBEq, reduceCtorEq, ↓reduceIte, Int.reduceToNat, Int.reduceLE, Int.reduceLT, Int.reduceNe, Int.reduceEq, en]
              exact ⟨(n + 1, i2, c2), ⟨by show n + 1 ≤ 5; omega, hi1, hi2, hs2, by show Go.Sort.partialIns Go.Sort.ltInt a b (5 - (n + 1)) i2 c2 = R; rw [show 5 - (n + 1) = 4 - n by omega]; exact he⟩, by show 5 - (n + 1) < 5 - n; omega, ⟨rfl, rfl⟩, .refl _⟩
        · rw [if_neg (show ¬ i2 - a ≥ 2 by omega)] at he
          simp (maxDischargeDepth := 12) (maxSteps := 1000000) -implicitDefEqProofs only [go_sem, Nat.reduceAdd, Nat.reduceSub, Nat.reduceMul, Nat.reduceLeDiff, Nat.reduceEqDiff, Nat.reduceGT, Nat.reduceBEq, reduceCtorEq, ↓reduceIte, Int.reduceToNat, Int.reduceLE, Int.reduceLT, Int.reduceNe, Int.reduceEq, hl, e6]
          refine ⟨fun h3 => ?_, fun h3 => ?_⟩
          · refine cutK [] [0, 1, 2, 7, 8] (fun s : Array Int => []) (fun s => (⟨S.box, up S.acc l (.arr 1 (rowA dU (s)))⟩ : St)) (fun s => s.size = d.size ∧ s = Go.Sort.shiftUp Go.Sort.ltInt b (i2 + 1) c1) mx (by kernel_rfl) ?_ ?_
            · simp (maxDischargeDepth := 12) (maxSteps := 1000000) -implicitDefEqProofs only [go_sem, Nat.reduceAdd, Nat.reduceSub, Nat.reduceMul, Nat.reduceLeDiff, Nat.reduceEqDiff, Nat.reduceGT, Nat.reduceBEq, reduceCtorEq, ↓reduceIte, Int.reduceToNat, Int.reduceLE, Int.reduceLT, Int.reduceNe, Int.reduceEq, e7]
              refine loopK [23] [0, 1, 2, 7, 8, 10] (fun s : Nat × Array Int => [(10, dI s.1)]) (fun s => (⟨S.box, up S.acc l (.arr 1 (rowA dU (s.2)))⟩ : St)) (fun s => i2 < s.1 ∧ s.1 ≤ b ∧ s.2.size = d.size ∧ Go.Sort.shiftUp Go.Sort.ltInt b s.1 s.2 = Go.Sort.shiftUp Go.Sort.ltInt b (i2 + 1) c1) (fun s => b - s.1) (i2 + 1, c1) mx (by kernel_rfl) ?_ ?_
              · refine ⟨⟨by show i2 < i2 + 1; omega, by show i2 + 1 ≤ b; omega, hs1, rfl⟩, ?_, ?_⟩ <;> simp (maxDischargeDepth := 12) (maxSteps := 1000000) -implicitDefEqProofs only [go_sem, Nat.reduceAdd, Nat.reduceSub, Nat.reduceMul, Nat.reduceLeDiff, Nat.reduceEqDiff, Nat.reduceGT, Nat.reduceBEq, reduceCtorEq, ↓reduceIte, Int.reduceToNat, Int.reduceLE, Int.reduceLT, Int.reduceNe, Int.reduceEq]
              · rintro ⟨j, c2⟩ ⟨hj, hjb, hc2, hs⟩
                simp only at hj hjb hc2 hs
                have e8 := i_prev j (by omega) (by omega)
                have e9 := i_one j (by omega)
                rw [Go.Sort.shiftUp.eq_1] at hs
                by_cases hjb' : j < b
                · have hj1 : j < d.size := by omega
                  have hj0 : j - 1 < d.size := by omega
                  rw [if_pos hjb'] at hs
                  simp (maxDischargeDepth := 12) (maxSteps := 1000000) -implicitDefEqProofs only [go_sem, Nat.reduceAdd, Nat.reduceSub, Nat.reduceMul, Nat.reduceLeDiff, Nat.reduceEqDiff, Nat.reduceGT, Nat.reduceBEq, reduceCtorEq, ↓reduceIte, Int.reduceToNat, Int.reduceLE, Int.reduceLT, Int.reduceNe, Int.reduceEq, hl, hc2, e8, e9, hj1, hj0, hjb']
                  refine useQ (lessU w0 _ _ _) ?_
                  simp (maxDischargeDepth := 12) (maxSteps := 1000000) -implicitDefEqProofs only [go_sem, Nat.reduceAdd, Nat.reduceSub, Nat.reduceMul, Nat.reduceLeDiff, Nat.reduceEqDiff, Nat.reduceGT, Nat.reduceBEq, reduceCtorEq, ↓reduceIte, Int.reduceToNat, Int.reduceLE, Int.reduceLT, Int.reduceNe, Int.reduceEq, hl, hc2, e8, e9, hj1, hj0]
                  refine ⟨fun h3 => ?_, fun h3 => lexK mx (by kernel_rfl) ?_⟩
                  · rw [if_pos (by simp [Go.Sort.ltInt]; omega)] at hs
                    exact ⟨c2, ⟨hc2, hs⟩, .refl _⟩
                  · rw [if_neg (by simp [Go.Sort.ltInt]; omega)] at hs
                    simp (maxDischargeDepth := 12) (maxSteps := 1000000) -implicitDefEqProofs only [go_sem, Nat.reduceAdd, Nat.reduceSub, Nat.reduceMul, Nat.reduceLeDiff, Nat.reduceEqDiff, Nat.reduceGT, Nat.reduceBEq, reduceCtorEq, ↓reduceIte, Int.reduceToNat, Int.reduceLE, Int.reduceLT, Int.reduceNe, Int.reduceEq, hl, hc2, e8, e9, hj1, hj0]
                    exact ⟨(j + 1, Go.Sort.swp c2 j (j - 1)), ⟨by show i2 < j + 1; omega, by show j + 1 ≤ b; omega, by rw [swp_size]; exact hc2, hs⟩, by show b - (j + 1) < b - j; omega, rfl, .refl _⟩
                · rw [if_neg hjb'] at hs
                  simp (maxDischargeDepth := 12) (maxSteps := 1000000) -implicitDefEqProofs only [go_sem, Nat.reduceAdd, Nat.reduceSub, Nat.reduceMul, Nat.reduceLeDiff, Nat.reduceEqDiff, Nat.reduceGT, Nat.reduceBEq, reduceCtorEq, ↓reduceIte, Int.reduceToNat, Int.reduceLE, Int.reduceLT, Int.reduceNe, Int.reduceEq, hl, hc2, hjb']
                  exact ⟨c2, ⟨hc2, hs⟩, .refl _⟩
            · rintro c3 ⟨hs3, hc3⟩
              simp (maxDischargeDepth := 12) (maxSteps := 1000000) -implicitDefEqProofs only [go_sem, Nat.reduceAdd, Nat.reduceSub, Nat.reduceMul, Nat.reduceLeDiff, Nat.reduceEqDiff, Nat.reduceGT, Nat.reduceBEq, reduceCtorEq, ↓reduceIte, Int.reduceToNat, Int.reduceLE, Int.reduceLT, Int.reduceNe, Int.reduceEq, en]
              rw [if_pos (show b - i2 ≥ 2 by omega), ← hc3] at he
              exact ⟨(n + 1, i2, c3), ⟨by show n + 1 ≤ 5; omega, hi1, hi2, hs3, by show Go.Sort.partialIns Go.Sort.ltInt a b (5 - (n + 1)) i2 c3 = R; rw [show 5 - (n + 1) = 4 - n by omega]; exact he⟩, by show 5 - (n + 1) < 5 - n; omega, ⟨rfl, rfl⟩, .refl _⟩
          · rw [if_neg (show ¬ b - i2 ≥ 2 by omega)] at he
            simp (maxDischargeDepth := 12) (maxSteps := 1000000) -implicitDefEqProofs only [go_sem, Nat.reduceAdd, Nat.reduceSub, Nat.reduceMul, Nat.reduceLeDiff, Nat.reduceEqDiff, Nat.reduceGT, Nat.reduceBEq, reduceCtorEq, ↓reduceIte, Int.reduceToNat, Int.reduceLE, Int.reduceLT, Int.reduceNe, Int.reduceEq, en]
            exact ⟨(n + 1, i2, c1), ⟨by show n + 1 ≤ 5; omega, hi1, hi2, hs1, by show Go.Sort.partialIns Go.Sort.ltInt a b (5 - (n + 1)) i2 c1 = R; rw [show 5 - (n + 1) = 4 - n by omega]; exact he⟩, by show 5 - (n + 1) < 5 - n; omega, ⟨rfl, rfl⟩, .refl _⟩
end Go.Proofs.Ytkibkahknibgfaa

namespace Go.Proofs
open Go.Shelf
def Try.lays128_ren : Go.Shelf.Ren := ⟨fun | 128 => 110 | n => n, fun | 51 => 165 | 3 => 3 | 4 => 4 | 46 => 147 | 5 => 5 | 9 => 9 | n => n, fun | n => n⟩
theorem Try.lays128 : Go.Proofs.Lays.n128 Try.prog Try.lays128_ren := {
  mixed := by kernel_rfl
  f128 := Try.func110.trans (congrArg some (by kernel_rfl))
  t3 := Try.underlying3
  a3 := Try.isAgg3
  z3 := Try.sizeOf3
  v3 := Try.zeroValue3
  t4 := Try.underlying4
  a4 := Try.isAgg4
  z4 := Try.sizeOf4
  v4 := Try.zeroValue4
  t5 := Try.underlying5
  a5 := Try.isAgg5
  z5 := Try.sizeOf5
  v5 := Try.zeroValue5
  t9 := Try.underlying9
  a9 := Try.isAgg9
  z9 := Try.sizeOf9
  v9 := Try.zeroValue9
  t46 := Try.underlying147
  a46 := Try.isAgg147
  z46 := Try.sizeOf147
  v46 := Try.zeroValue147
  t51 := Try.underlying165
  a51 := Try.isAgg165
  z51 := Try.sizeOf165
  v51 := Try.zeroValue165 }
/-- bits.Len32: "Len32 returns the minimum number of bits required to represent x; the result is 0 for x == 0.": IT RETURNS 'Lib.bitLen x'; the world is as it was. ('h0', 'h1': x is a uint32.) (LAID: no walk: one application.) -/
theorem Try.bits_Len32 (x : Int) (w : World) (h0 : 0 ≤ x) (h1 : x ≤ 4294967295) :
    Calls Try.prog 110 #[.int .u32 x] w fun e w' => e = .returned (.int .i64 (Lib.bitLen x.toNat)) ∧ w' = w := Any.bits_Len32 Try.lays128 x w h0 h1
def Try.lays125_ren : Go.Shelf.Ren := ⟨fun | 125 => 89 | 128 => 110 | 129 => 111 | n => n, fun | 46 => 147 | 3 => 3 | 51 => 165 | 53 => 27 | 4 => 4 | 5 => 5 | 9 => 9 | n => n, fun | n => n⟩
theorem Try.lays125 : Go.Proofs.Lays.n125 Try.prog Try.lays125_ren := {
  mixed := by kernel_rfl
  f125 := Try.func89.trans (congrArg some (by kernel_rfl))
  f128 := Try.func110.trans (congrArg some (by kernel_rfl))
  f129 := Try.func111.trans (congrArg some (by kernel_rfl))
  t3 := Try.underlying3
  a3 := Try.isAgg3
  z3 := Try.sizeOf3
  v3 := Try.zeroValue3
  t4 := Try.underlying4
  a4 := Try.isAgg4
  z4 := Try.sizeOf4
  v4 := Try.zeroValue4
  t5 := Try.underlying5
  a5 := Try.isAgg5
  z5 := Try.sizeOf5
  v5 := Try.zeroValue5
  t9 := Try.underlying9
  a9 := Try.isAgg9
  z9 := Try.sizeOf9
  v9 := Try.zeroValue9
  t46 := Try.underlying147
  a46 := Try.isAgg147
  z46 := Try.sizeOf147
  v46 := Try.zeroValue147
  t51 := Try.underlying165
  a51 := Try.isAgg165
  z51 := Try.sizeOf165
  v51 := Try.zeroValue165
  t53 := Try.underlying27
  a53 := Try.isAgg27
  z53 := Try.sizeOf27
  v53 := Try.zeroValue27 }
/-- bits.Len: "Len returns the minimum number of bits required to represent x; the result is 0 for x == 0.": IT RETURNS 'Lib.bitLen x'; the world is as it was. (A uint has 64 bits in the model.) ITS CALLEE bits.Len64 IS MET BY ITS OWN CONTRACT OFF THE SHELF (lay that first). (LAID: no walk: one application.) -/
theorem Try.bits_Len (x : Int) (w : World) (h0 : 0 ≤ x) (h1 : x ≤ 18446744073709551615) :
    Calls Try.prog 89 #[.int .u64 x] w fun e w' => e = .returned (.int .i64 (Lib.bitLen x.toNat)) ∧ w' = w := Any.bits_Len Try.lays125 x w h0 h1
def Try.lays129_ren : Go.Shelf.Ren := ⟨fun | 129 => 111 | n => n, fun | 53 => 27 | 3 => 3 | 4 => 4 | 46 => 147 | 5 => 5 | 9 => 9 | n => n, fun | n => n⟩
theorem Try.lays129 : Go.Proofs.Lays.n129 Try.prog Try.lays129_ren := {
  mixed := by kernel_rfl
  f129 := Try.func111.trans (congrArg some (by kernel_rfl))
  t3 := Try.underlying3
  a3 := Try.isAgg3
  z3 := Try.sizeOf3
  v3 := Try.zeroValue3
  t4 := Try.underlying4
  a4 := Try.isAgg4
  z4 := Try.sizeOf4
  v4 := Try.zeroValue4
  t5 := Try.underlying5
  a5 := Try.isAgg5
  z5 := Try.sizeOf5
  v5 := Try.zeroValue5
  t9 := Try.underlying9
  a9 := Try.isAgg9
  z9 := Try.sizeOf9
  v9 := Try.zeroValue9
  t46 := Try.underlying147
  a46 := Try.isAgg147
  z46 := Try.sizeOf147
  v46 := Try.zeroValue147
  t53 := Try.underlying27
  a53 := Try.isAgg27
  z53 := Try.sizeOf27
  v53 := Try.zeroValue27 }
/-- bits.Len64: "Len64 returns the minimum number of bits required to represent x; the result is 0 for x == 0.": IT RETURNS 'Lib.bitLen x'; the world is as it was. ('h0', 'h1': x is a uint64.) (LAID: no walk: one application.) -/
theorem Try.bits_Len64 (x : Int) (w : World) (h0 : 0 ≤ x) (h1 : x ≤ 18446744073709551615) :
    Calls Try.prog 111 #[.int .u64 x] w fun e w' => e = .returned (.int .i64 (Lib.bitLen x.toNat)) ∧ w' = w := Any.bits_Len64 Try.lays129 x w h0 h1
def Try.lays189_ren : Go.Shelf.Ren := ⟨fun | 189 => 66 | 125 => 89 | 257 => 88 | 128 => 110 | 129 => 111 | 294 => 102 | 295 => 103 | 296 => 104 | 297 => 105 | 298 => 106 | 299 => 107 | 216 => 91 | 300 => 108 | 301 => 109 | 328 => 128 | 329 => 129 | 330 => 130 | 331 => 131 | 332 => 132 | 215 => 112 | 343 => 137 | n => n, fun | 28 => 59 | 3 => 3 | 46 => 147 | 0 => 0 | 51 => 165 | 53 => 27 | 4 => 4 | 183 => 159 | 182 => 158 | 131 => 127 | 5 => 5 | 9 => 9 | 218 => 177 | 222 => 181 | 228 => 185 | 229 => 186 | n => n, fun | n => n⟩
theorem Try.lays189 : Go.Proofs.Lays.n189 Try.prog Try.lays189_ren := {
  mixed := by kernel_rfl
  f125 := Try.func89.trans (congrArg some (by kernel_rfl))
  f128 := Try.func110.trans (congrArg some (by kernel_rfl))
  f129 := Try.func111.trans (congrArg some (by kernel_rfl))
  f189 := Try.func66.trans (congrArg some (by kernel_rfl))
  f215 := Try.func112.trans (congrArg some (by kernel_rfl))
  f216 := Try.func91.trans (congrArg some (by kernel_rfl))
  f257 := Try.func88.trans (congrArg some (by kernel_rfl))
  f294 := Try.func102.trans (congrArg some (by kernel_rfl))
  f295 := Try.func103.trans (congrArg some (by kernel_rfl))
  f296 := Try.func104.trans (congrArg some (by kernel_rfl))
  f297 := Try.func105.trans (congrArg some (by kernel_rfl))
  f298 := Try.func106.trans (congrArg some (by kernel_rfl))
  f299 := Try.func107.trans (congrArg some (by kernel_rfl))
  f300 := Try.func108.trans (congrArg some (by kernel_rfl))
  f301 := Try.func109.trans (congrArg some (by kernel_rfl))
  f328 := Try.func128.trans (congrArg some (by kernel_rfl))
  f329 := Try.func129.trans (congrArg some (by kernel_rfl))
  f330 := Try.func130.trans (congrArg some (by kernel_rfl))
  f331 := Try.func131.trans (congrArg some (by kernel_rfl))
  f332 := Try.func132.trans (congrArg some (by kernel_rfl))
  f343 := Try.func137.trans (congrArg some (by kernel_rfl))
  t0 := Try.underlying0
  a0 := Try.isAgg0
  z0 := Try.sizeOf0
  v0 := Try.zeroValue0
  t3 := Try.underlying3
  a3 := Try.isAgg3
  z3 := Try.sizeOf3
  v3 := Try.zeroValue3
  t4 := Try.underlying4
  a4 := Try.isAgg4
  z4 := Try.sizeOf4
  v4 := Try.zeroValue4
  t5 := Try.underlying5
  a5 := Try.isAgg5
  z5 := Try.sizeOf5
  v5 := Try.zeroValue5
  t9 := Try.underlying9
  a9 := Try.isAgg9
  z9 := Try.sizeOf9
  v9 := Try.zeroValue9
  t28 := Try.underlying59
  a28 := Try.isAgg59
  z28 := Try.sizeOf59
  v28 := Try.zeroValue59
  t46 := Try.underlying147
  a46 := Try.isAgg147
  z46 := Try.sizeOf147
  v46 := Try.zeroValue147
  t51 := Try.underlying165
  a51 := Try.isAgg165
  z51 := Try.sizeOf165
  v51 := Try.zeroValue165
  t53 := Try.underlying27
  a53 := Try.isAgg27
  z53 := Try.sizeOf27
  v53 := Try.zeroValue27
  t131 := Try.underlying127
  a131 := Try.isAgg127
  z131 := Try.sizeOf127
  v131 := Try.zeroValue127
  t182 := Try.underlying158
  a182 := Try.isAgg158
  z182 := Try.sizeOf158
  v182 := Try.zeroValue158
  t183 := Try.underlying159
  a183 := Try.isAgg159
  z183 := Try.sizeOf159
  v183 := Try.zeroValue159
  t218 := Try.underlying177
  a218 := Try.isAgg177
  z218 := Try.sizeOf177
  v218 := Try.zeroValue177
  t222 := Try.underlying181
  a222 := Try.isAgg181
  z222 := Try.sizeOf181
  v222 := Try.zeroValue181
  t228 := Try.underlying185
  a228 := Try.isAgg185
  z228 := Try.sizeOf185
  v228 := Try.zeroValue185
  t229 := Try.underlying186
  a229 := Try.isAgg186
  z229 := Try.sizeOf186
  v229 := Try.zeroValue186 }
open Go.Sort Go.RowKit in
theorem Try.slices_Sort_int (blk off cap : Nat) (zs : List Int) (w : World) (hH : Holds (Value.int .i64) w blk off zs.toArray) (hblk : blk < w.heap.size) (hsz : zs.length < 4611686018427387904) :
    Calls Try.prog 66 #[.slice (some ⟨blk, off, none⟩) zs.length cap] w fun e w' =>
      e = .returned (.tuple #[]) ∧ ∃ n os, w' = grow (putRow (Value.int .i64) (Sort.ahead w n) blk off (zs.mergeSort fun x y => decide (x ≤ y)).toArray) os := Any.slices_Sort_int Try.lays189 blk off cap zs w hH hblk hsz
def Try.laysNm237_ren : Go.Shelf.Ren := ⟨fun | 37 => 112 | n => n, fun | 3 => 3 | 4 => 4 | n => n, fun | n => n⟩
theorem Try.laysNm237 : Go.Proofs.Lays2.n37 Try.prog Try.laysNm237_ren := {
  mixed := by kernel_rfl
  f37 := Try.func112.trans (congrArg some (by kernel_rfl))
  t3 := Try.underlying3
  a3 := Try.isAgg3
  z3 := Try.sizeOf3
  v3 := Try.zeroValue3
  t4 := Try.underlying4
  a4 := Try.isAgg4
  z4 := Try.sizeOf4
  v4 := Try.zeroValue4 }
open Go.RowKit Go.Lib in
/-- cmp.isNaN[int]: 'x != x': false. (LAID: no walk: one application.) -/
theorem Try.cmp_isNaN_int2 (x : Int) (w : World) :
    Calls Try.prog 112 #[.int .i64 x] w fun e w' => e = .returned (.bool false) ∧ w' = w := Any.cmp_isNaN_int2 Try.laysNm237 x w
def Try.laysNm232_ren : Go.Shelf.Ren := ⟨fun | 32 => 92 | n => n, fun | 3 => 3 | 4 => 4 | n => n, fun | n => n⟩
theorem Try.laysNm232 : Go.Proofs.Lays2.n32 Try.prog Try.laysNm232_ren := {
  mixed := by kernel_rfl
  f32 := Try.func92.trans (congrArg some (by kernel_rfl))
  t3 := Try.underlying3
  a3 := Try.isAgg3
  z3 := Try.sizeOf3
  v3 := Try.zeroValue3
  t4 := Try.underlying4
  a4 := Try.isAgg4
  z4 := Try.sizeOf4
  v4 := Try.zeroValue4 }
open Go.RowKit Go.Lib in
/-- slices.isNaN[int]: 'x != x': false. (LAID: no walk: one application.) -/
theorem Try.slices_isNaN_int2 (x : Int) (w : World) :
    Calls Try.prog 92 #[.int .i64 x] w fun e w' => e = .returned (.bool false) ∧ w' = w := Any.slices_isNaN_int2 Try.laysNm232 x w
def Try.laysNm231_ren : Go.Shelf.Ren := ⟨fun | 31 => 91 | 37 => 112 | n => n, fun | 3 => 3 | 4 => 4 | n => n, fun | n => n⟩
theorem Try.laysNm231 : Go.Proofs.Lays2.n31 Try.prog Try.laysNm231_ren := {
  mixed := by kernel_rfl
  f31 := Try.func91.trans (congrArg some (by kernel_rfl))
  f37 := Try.func112.trans (congrArg some (by kernel_rfl))
  t3 := Try.underlying3
  a3 := Try.isAgg3
  z3 := Try.sizeOf3
  v3 := Try.zeroValue3
  t4 := Try.underlying4
  a4 := Try.isAgg4
  z4 := Try.sizeOf4
  v4 := Try.zeroValue4 }
open Go.RowKit Go.Lib in
/-- cmp.Less[int]: "Less reports whether x is less than y.": 'x < y'; the world is as it was. (LAID: no walk: one application.) -/
theorem Try.cmp_Less_int2 (x y : Int) (w : World) :
    Calls Try.prog 91 #[.int .i64 x, .int .i64 y] w fun e w' => e = .returned (.bool (decide (x < y))) ∧ w' = w := Any.cmp_Less_int2 Try.laysNm231 x y w
def Try.laysNm225_ren : Go.Shelf.Ren := ⟨fun | 25 => 71 | 31 => 91 | 32 => 92 | 37 => 112 | n => n, fun | 22 => 59 | 3 => 3 | 4 => 4 | 40 => 147 | 0 => 0 | n => n, fun | n => n⟩
theorem Try.laysNm225 : Go.Proofs.Lays2.n25 Try.prog Try.laysNm225_ren := {
  mixed := by kernel_rfl
  f25 := Try.func71.trans (congrArg some (by kernel_rfl))
  f31 := Try.func91.trans (congrArg some (by kernel_rfl))
  f32 := Try.func92.trans (congrArg some (by kernel_rfl))
  f37 := Try.func112.trans (congrArg some (by kernel_rfl))
  t0 := Try.underlying0
  a0 := Try.isAgg0
  z0 := Try.sizeOf0
  v0 := Try.zeroValue0
  t3 := Try.underlying3
  a3 := Try.isAgg3
  z3 := Try.sizeOf3
  v3 := Try.zeroValue3
  t4 := Try.underlying4
  a4 := Try.isAgg4
  z4 := Try.sizeOf4
  v4 := Try.zeroValue4
  t22 := Try.underlying59
  a22 := Try.isAgg59
  z22 := Try.sizeOf59
  v22 := Try.zeroValue59
  t40 := Try.underlying147
  a40 := Try.isAgg147
  z40 := Try.sizeOf147
  v40 := Try.zeroValue147 }
open Go.RowKit Go.Lib in
/-- slices.BinarySearch at []int: "BinarySearch searches for target in a sorted slice and returns the earliest position where target is found, or the position where target would appear in the sort order; it also returns a bool saying whether the target is really found in the slice. The slice must be sorted in increasing order.": OF A SORTED SLICE IT RETURNS how many elements are less than the target, and whether the target is among the elements; the world is as it was but for the count of draws. 'zs': what the cells behind the slice's address hold; 'zs.take n': its elements. (Of a slice that is not sorted: no contract here.) (LAID: no walk: one application.) -/
theorem Try.slices_BinarySearch_int (b off n c : Nat) (zs : List Int) (x : Int) (w : World) (hz : n ≤ zs.length) (hbig : n < 4611686018427387904) (hc : ∀ j, j < zs.length → w.cell? ⟨b, off + j, none⟩ = some (.int .i64 (zs.getD j 0))) (hs : (zs.take n).Pairwise (· ≤ ·)) :
    Calls Try.prog 71 #[.slice (some ⟨b, off, none⟩) n c, .int .i64 x] w fun e w' => e = .returned (.tuple #[.int .i64 ((zs.take n).countP (· < x) : Nat), .bool ((zs.take n).contains x)]) ∧ ∃ q, w' = w.drewN q := Any.slices_BinarySearch_int Try.laysNm225 b off n c zs x w hz hbig hc hs
open Go.RowKit Go.Sort in
/-- .. and plain. (LAID: no walk: one application.) -/
theorem Try.slices_Sort_int_none (p : Option Addr) (cap : Nat) (w : World) :
    Calls Try.prog 66 #[.slice p 0 cap] w fun e w' => e = .returned (.tuple #[]) ∧ w' = w := Any.slices_Sort_int_none Try.lays189 p cap w
open Go.RowKit Go.Lib in
/-- slices.BinarySearch at []int of no element: position 0, not found; the world is as it was. (LAID: no walk: one application.) -/
theorem Try.slices_BinarySearch_int_empty (a : Option Addr) (c : Nat) (x : Int) (w : World) :
    Calls Try.prog 71 #[.slice a 0 c, .int .i64 x] w fun e w' => e = .returned (.tuple #[.int .i64 0, .bool false]) ∧ w' = w := Any.slices_BinarySearch_int_empty Try.laysNm225 a c x w
end Go.Proofs

namespace Go.Proofs.Ytkibkahknibgfaa
open Aml Go
set_option linter.unusedVariables false
set_option linter.unusedSimpArgs false
set_option maxRecDepth 100000
theorem acall_lib1 {P : Program} {w0 : W0} {f : FuncId} {S : St} {u r : Value} (ho : r.oneCell' = true) (h : ∀ w, Calls P f #[u] w fun e w' => e = .returned r ∧ w' = w) : ACall P w0 f [.v u] S (fun d S' => d = .v r ∧ S' = S) := by
  intro g vs w h1 h2
  obtain ⟨u', us, hvs, hr, h3⟩ := h2.uncons
  have hus : us = [] := List.eq_nil_of_length_eq_zero (by have := h3.len; simpa using this.symm)
  subst hus
  have hu := rep_v hr
  subst hu
  have hvs' : vs = #[u'] := by rw [← Array.toArray_toList (xs := vs), hvs]
  subst hvs'
  refine (h w).mono ?_
  rintro e w' ⟨rfl, rfl⟩
  exact ⟨_, g, _, _, rfl, .refl g, h1, .v _ ho, rfl, rfl⟩
theorem bitLenU (w0 : W0) (n : Nat) (S : St) (h : n < 2 ^ 60) : ACall Try.prog w0 89 [dU n] S (fun d S' => d = dI (Lib.bitLen n) ∧ S' = S) := by
  refine acall_lib1 rfl (fun w => ?_)
  have := Try.bits_Len (n : Int) w (by omega) (by omega)
  simpa using this
theorem pow_bitLen : ∀ (m x : Nat), x ≤ m → 0 < x → x < 2 ^ 64 → 2 ^ Lib.bitLen x ≤ 2 * x := by
  intro m
  induction m with
  | zero => intro x h1 h2; omega
  | succ m ih =>
    intro x h1 h2 h3
    rw [Lib.bitLen_half x (by omega) h3]
    by_cases h : x = 1
    · subst h; decide
    · have := ih (x / 2) (by omega) (by omega) (by omega)
      rw [Nat.pow_add, Nat.pow_one]
      omega
theorem nextU (w0 : W0) {s : Nat} {x : Int} {S : St} (hs : lk S.box s = some [.v (.int .u64 x)]) :
    ACall Try.prog w0 130 [.v (.pointer (some ⟨s, 0, none⟩))] S (fun e S' => ∃ y y' : Int, e = dU y ∧ S' = ⟨up S.box s [.v (.int .u64 y')], S.acc⟩) := by
  refine fnO [] mx Try.func130 rfl rfl (by kernel_rfl) ?_; simp (maxDischargeDepth := 12) (maxSteps := 1000000) -implicitDefEqProofs only [Try.ntmps130, go_sem, Nat.reduceAdd, Nat.reduceSub, Nat.reduceMul, Nat.reduceLeDiff, Nat.reduceEqDiff, Nat.reduceGT, Nat.reduceBEq, reduceCtorEq, ↓reduceIte, Int.reduceToNat, Int.reduceLE, Int.reduceLT, Int.reduceNe, Int.reduceEq,  hs]
  exact ⟨_, _, rfl, rfl⟩
theorem nextPowU (w0 : W0) (n : Nat) (S : St) (h : n < 2 ^ 60) : ACall Try.prog w0 129 [dI n] S (fun d S' => d = dU (2 ^ Lib.bitLen n : Nat) ∧ S' = S) := by
  have e1 : IntKind.u64.wrap (n : Int) = (n : Int) := wu64 (by omega) (by omega)
  have hk : Lib.bitLen n ≤ 60 := by
    by_cases h0 : n = 0
    · subst h0; decide
    · have h1 := pow_bitLen n n (Nat.le_refl _) (by omega) (by omega)
      rcases Nat.lt_or_ge 60 (Lib.bitLen n) with h2 | h2
      · have := Nat.pow_le_pow_right (n := 2) (by omega) h2; omega
      · exact h2
  have hp : 2 ^ Lib.bitLen n ≤ 2 ^ 60 := Nat.pow_le_pow_right (by omega) hk
  have e2 : IntKind.u64.wrap (1 * 2 ^ min (Lib.bitLen n) 64) = ((2 ^ Lib.bitLen n : Nat) : Int) := by
    rw [Nat.min_eq_left (by omega), Int.one_mul, Int.natCast_pow]
    have e : ((2 : Nat) : Int) = 2 := rfl
    rw [e]
    have e3 : (2 : Int) ^ Lib.bitLen n = ((2 ^ Lib.bitLen n : Nat) : Int) := by rw [Int.natCast_pow]; rfl
    rw [e3]
    generalize 2 ^ Lib.bitLen n = M at hp
    exact wu64 (by omega) (by omega)
  refine fnS [] mx Try.func129 rfl rfl (by kernel_rfl) ?_; simp (maxDischargeDepth := 12) (maxSteps := 1000000) -implicitDefEqProofs only [Try.ntmps129, go_sem, Nat.reduceAdd, Nat.reduceSub, Nat.reduceMul, Nat.reduceLeDiff, Nat.reduceEqDiff, Nat.reduceGT, Nat.reduceBEq, reduceCtorEq, ↓reduceIte, Int.reduceToNat, Int.reduceLE, Int.reduceLT, Int.reduceNe, Int.reduceEq,  e1]
  refine use1 (bitLenU w0 n _ h) ?_ (by simp (maxDischargeDepth := 12) (maxSteps := 1000000) -implicitDefEqProofs only [go_sem, Nat.reduceAdd, Nat.reduceSub, Nat.reduceMul, Nat.reduceLeDiff, Nat.reduceEqDiff, Nat.reduceGT, Nat.reduceBEq, reduceCtorEq, ↓reduceIte, Int.reduceToNat, Int.reduceLE, Int.reduceLT, Int.reduceNe, Int.reduceEq])
  simp (maxDischargeDepth := 12) (maxSteps := 1000000) -implicitDefEqProofs only [go_sem, Nat.reduceAdd, Nat.reduceSub, Nat.reduceMul, Nat.reduceLeDiff, Nat.reduceEqDiff, Nat.reduceGT, Nat.reduceBEq, reduceCtorEq, ↓reduceIte, Int.reduceToNat, Int.reduceLE, Int.reduceLT, Int.reduceNe, Int.reduceEq]
  rw [e2]
theorem and_lt (y : Int) (M : Nat) (h0 : 0 < M) (h1 : M ≤ 2 ^ 62) : ∃ z : Nat, z < M ∧ IntKind.i64.wrap (bitD .and .u64 y (IntKind.u64.wrap ((M : Int) - 1))) = (z : Int) := by
  rw [wu64 (by omega) (by omega)]
  have e : bitD .and .u64 y ((M : Int) - 1) = IntKind.u64.wrap ((BitVec.ofInt 64 y &&& BitVec.ofInt 64 ((M : Int) - 1)).toNat : Int) := rfl
  rw [e, BitVec.toNat_and]
  have hb : (BitVec.ofInt 64 ((M : Int) - 1)).toNat = M - 1 := by rw [BitVec.toNat_ofInt]; omega
  have hle : (BitVec.ofInt 64 y).toNat &&& (BitVec.ofInt 64 ((M : Int) - 1)).toNat ≤ M - 1 := by rw [← hb]; exact Nat.and_le_right
  refine ⟨_, Nat.lt_of_le_of_lt hle (by omega), ?_⟩
  rw [wu64 (by omega) (by omega), w64 (by omega) (by omega)]
theorem breakU (w0 : W0) (d : Array Int) {l : Nat} {o : Ob} {a b : Nat} {S : St} (hl : lk S.acc l = some o) (hab : a < b) (hb : b ≤ d.size) (hd : d.size < 2 ^ 60) :
    ACall Try.prog w0 121 [.acc l d.size, dI a, dI b] (⟨S.box, up S.acc l (.arr 1 (rowA dU (d)))⟩ : St) (fun e S' => ∃ d', Go.Sort.PermIn a b d d' ∧ e = .tup [] ∧ S' = (⟨S.box, up S.acc l (.arr 1 (rowA dU (d')))⟩ : St)) := by
  have e1 := i_sub b a (by omega) (by omega)
  have e2 : IntKind.i64.wrap (((b - a : Nat) : Int).tdiv 4) = (((b - a) / 4 : Nat) : Int) := by rw [Int.tdiv_eq_ediv_of_nonneg (by omega), w64 (by omega) (by omega)]; omega
  have e3 : IntKind.i64.wrap ((((b - a) / 4 : Nat) : Int) * 2) = (((b - a) / 4 * 2 : Nat) : Int) := by rw [w64 (by omega) (by omega)]; omega
  have e4 := i_add a ((b - a) / 4 * 2) (by omega) (by omega)
  have e5 := i_one (a + (b - a) / 4 * 2) (by omega)
  refine fnP [] mx Try.func121 rfl rfl (by kernel_rfl) ?_; simp (maxDischargeDepth := 12) (maxSteps := 1000000) -implicitDefEqProofs only [Try.ntmps121, go_sem, Nat.reduceAdd, Nat.reduceSub, Nat.reduceMul, Nat.reduceLeDiff, Nat.reduceEqDiff, Nat.reduceGT, Nat.reduceBEq, reduceCtorEq, ↓reduceIte, Int.reduceToNat, Int.reduceLE, Int.reduceLT, Int.reduceNe, Int.reduceEq,  hl, e1, e2, e3, e4, e5]
  have fin : ∀ (d' : Array Int) (B : List (Nat × List DV)), Go.Sort.PermIn a b d d' → Aml.Sub (⟨S.box, up S.acc l (.arr 1 (rowA dU (d')))⟩ : St) ⟨B, up S.acc l (.arr 1 (rowA dU d'))⟩ → ∃ (x : DV) (S'' : St), Wk (.tup []) x ∧ Aml.Sub S'' ⟨B, up S.acc l (.arr 1 (rowA dU d'))⟩ ∧ ∃ d', Go.Sort.PermIn a b d d' ∧ x = .tup [] ∧ S'' = (⟨S.box, up S.acc l (.arr 1 (rowA dU (d')))⟩ : St) := fun d' B h1 h2 => ⟨_, _, .refl _, h2, d', h1, rfl, rfl⟩
  refine ⟨fun h8 s => ?_, fun h8 => fin d _ (Go.Sort.permIn_refl d a b) (.refl _)⟩
  refine use1 (nextPowU w0 (b - a) _ (by omega)) ?_ (by simp (maxDischargeDepth := 12) (maxSteps := 1000000) -implicitDefEqProofs only [go_sem, Nat.reduceAdd, Nat.reduceSub, Nat.reduceMul, Nat.reduceLeDiff, Nat.reduceEqDiff, Nat.reduceGT, Nat.reduceBEq, reduceCtorEq, ↓reduceIte, Int.reduceToNat, Int.reduceLE, Int.reduceLT, Int.reduceNe, Int.reduceEq])
  have e6 := i_prev (a + (b - a) / 4 * 2) (by omega) (by omega)
  simp (maxDischargeDepth := 12) (maxSteps := 1000000) -implicitDefEqProofs only [go_sem, Nat.reduceAdd, Nat.reduceSub, Nat.reduceMul, Nat.reduceLeDiff, Nat.reduceEqDiff, Nat.reduceGT, Nat.reduceBEq, reduceCtorEq, ↓reduceIte, Int.reduceToNat, Int.reduceLE, Int.reduceLT, Int.reduceNe, Int.reduceEq, hl, e1, e2, e3, e4, e5, e6]
  refine loopK [10] [0, 1, 6, 7, 8, 9] (fun s : Nat × Int × Array Int => [(9, dI s.1)]) (fun t => ⟨(s.n, [.v (.int .u64 t.2.1)]) :: S.box, up S.acc l (.arr 1 (rowA dU t.2.2))⟩) (fun s => a ≤ s.1 ∧ s.1 ≤ a + (b - a) / 4 * 2 + 2 ∧ Go.Sort.PermIn a b d s.2.2) (fun s => b + 2 - s.1) (a + (b - a) / 4 * 2 - 1, IntKind.u64.wrap ((b - a : Nat) : Int), d) mx (by kernel_rfl) ?_ ?_
  · refine ⟨⟨by show a ≤ a + (b - a) / 4 * 2 - 1; omega, by show a + (b - a) / 4 * 2 - 1 ≤ a + (b - a) / 4 * 2 + 2; omega, Go.Sort.permIn_refl d a b⟩, ?_, ?_⟩ <;> simp (maxDischargeDepth := 12) (maxSteps := 1000000) -implicitDefEqProofs only [go_sem, Nat.reduceAdd, Nat.reduceSub, Nat.reduceMul, Nat.reduceLeDiff, Nat.reduceEqDiff, Nat.reduceGT, Nat.reduceBEq, reduceCtorEq, ↓reduceIte, Int.reduceToNat, Int.reduceLE, Int.reduceLT, Int.reduceNe, Int.reduceEq]
  · rintro ⟨q, x, c⟩ ⟨hq, hq2, hp⟩
    simp only at hq hq2 hp
    have hc : c.size = d.size := hp.1
    simp (maxDischargeDepth := 12) (maxSteps := 1000000) -implicitDefEqProofs only [go_sem, Nat.reduceAdd, Nat.reduceSub, Nat.reduceMul, Nat.reduceLeDiff, Nat.reduceEqDiff, Nat.reduceGT, Nat.reduceBEq, reduceCtorEq, ↓reduceIte, Int.reduceToNat, Int.reduceLE, Int.reduceLT, Int.reduceNe, Int.reduceEq, hl, e1, e2, e3, e4, e5]
    refine ⟨fun h => ?_, fun h => fin c _ hp (Sub.refl _).consB⟩
    refine useK (nextU w0 (s := s.n) (x := x) (S := ⟨(s.n, [.v (.int .u64 x)]) :: S.box, up S.acc l (.arr 1 (rowA dU c))⟩) (by simp [lk])) ?_
    rintro _ _ ⟨y, y', rfl, rfl⟩
    simp (maxDischargeDepth := 12) (maxSteps := 1000000) -implicitDefEqProofs only [go_sem, Nat.reduceAdd, Nat.reduceSub, Nat.reduceMul, Nat.reduceLeDiff, Nat.reduceEqDiff, Nat.reduceGT, Nat.reduceBEq, reduceCtorEq, ↓reduceIte, Int.reduceToNat, Int.reduceLE, Int.reduceLT, Int.reduceNe, Int.reduceEq, hl]
    have hM0 : 0 < 2 ^ Lib.bitLen (b - a) := Nat.two_pow_pos _
    have hM1 := pow_bitLen _ (b - a) (Nat.le_refl _) (by omega) (by omega)
    generalize 2 ^ Lib.bitLen (b - a) = M at hM0 hM1 ⊢
    obtain ⟨z, hz, ez⟩ := and_lt y M hM0 (by omega)
    rw [ez]
    have hzs : z < d.size ∨ True := .inr trivial
    have e7 : ((b - a : Nat) : Int) ≤ (z : Int) → IntKind.i64.wrap ((z : Int) - ((b - a : Nat) : Int)) = ((z - (b - a) : Nat) : Int) := fun h => i_sub z (b - a) (by omega) (by omega)
    have nxt : ∀ t : Nat, t < b - a → ∃ s' : Nat × Int × Array Int, (a ≤ s'.1 ∧ s'.1 ≤ a + (b - a) / 4 * 2 + 2 ∧ Go.Sort.PermIn a b d s'.2.2) ∧ b + 2 - s'.1 < b + 2 - q ∧ IntKind.i64.wrap ((q : Int) + 1) = (s'.1 : Int) ∧ Aml.Sub ⟨(s.n, [.v (.int .u64 s'.2.1)]) :: S.box, up S.acc l (.arr 1 (rowA dU s'.2.2))⟩ ⟨(s.n, [.v (.int .u64 y')]) :: S.box, up S.acc l (.arr 1 (rowA dU (Go.Sort.swp c q (a + t))))⟩ := fun t ht =>
      ⟨(q + 1, y', Go.Sort.swp c q (a + t)), ⟨by show a ≤ q + 1; omega, by show q + 1 ≤ _; omega, Go.Sort.permIn_trans _ _ _ a b hp (Go.Sort.swp_permIn c a b q (a + t) hq (by omega) (by omega) (by omega) (by omega))⟩, by show b + 2 - (q + 1) < b + 2 - q; omega, i_one q (by omega), .refl _⟩
    have hqd : q < d.size := by omega
    refine ⟨fun h2 => ?_, fun h2 => ?_⟩
    · rw [e7 h2]
      refine lexK mx (by kernel_rfl) ?_
      have e8 := i_add a (z - (b - a)) (by omega) (by omega)
      have hzd : a + (z - (b - a)) < d.size := by omega
      simp (maxDischargeDepth := 12) (maxSteps := 1000000) -implicitDefEqProofs only [go_sem, Nat.reduceAdd, Nat.reduceSub, Nat.reduceMul, Nat.reduceLeDiff, Nat.reduceEqDiff, Nat.reduceGT, Nat.reduceBEq, reduceCtorEq, ↓reduceIte, Int.reduceToNat, Int.reduceLE, Int.reduceLT, Int.reduceNe, Int.reduceEq, hl, hc, e8, hqd, hzd]
      exact nxt _ (by omega)
    · refine lexK mx (by kernel_rfl) ?_
      have e8 := i_add a z (by omega) (by omega)
      have hzd : a + z < d.size := by omega
      simp (maxDischargeDepth := 12) (maxSteps := 1000000) -implicitDefEqProofs only [go_sem, Nat.reduceAdd, Nat.reduceSub, Nat.reduceMul, Nat.reduceLeDiff, Nat.reduceEqDiff, Nat.reduceGT, Nat.reduceBEq, reduceCtorEq, ↓reduceIte, Int.reduceToNat, Int.reduceLE, Int.reduceLT, Int.reduceNe, Int.reduceEq, hl, hc, e8, hqd, hzd]
      exact nxt _ (by omega)
end Go.Proofs.Ytkibkahknibgfaa

namespace Go.Proofs.Ytkibkahknibgfaa
open Aml Go
set_option linter.unusedVariables false
set_option linter.unusedSimpArgs false
set_option maxRecDepth 100000
/-- The first n pieces of a sequence, and what is behind them. -/
def hd : Nat → Code → Code
  | 0, _ => .skip
  | n + 1, .seq x y => .seq x (hd n y)
  | _ + 1, _ => .skip
def tl : Nat → Code → Code
  | 0, c => c
  | n + 1, .seq _ y => tl n y
  | _ + 1, c => c
section
variable {P : Program} {w0 : W0} {ss : List Nat} {fr : List DV} {S : St} {Q : Exit → List DV → St → Prop}
theorem n_hd_0 (c : Code) : vw P w0 ss (hd 0 c) fr S Q = Q .normal fr S := rfl
theorem n_hd_s (n : Nat) (x y : Code) : vw P w0 ss (hd (n + 1) (.seq x y)) fr S Q = vw P w0 ss x fr S (thenQ (fun fr S => vw P w0 ss (hd n y) fr S Q) Q) := rfl
theorem n_tl_0 (c : Code) : vw P w0 ss (tl 0 c) fr S Q = vw P w0 ss c fr S Q := rfl
theorem n_tl_s (n : Nat) (x y : Code) : vw P w0 ss (tl (n + 1) (.seq x y)) fr S Q = vw P w0 ss (tl n y) fr S Q := rfl
theorem n_ht_0 (k : Nat) (c : Code) : vw P w0 ss (hd k (tl 0 c)) fr S Q = vw P w0 ss (hd k c) fr S Q := rfl
theorem n_ht_s (k n : Nat) (x y : Code) : vw P w0 ss (hd k (tl (n + 1) (.seq x y))) fr S Q = vw P w0 ss (hd k (tl n y)) fr S Q := rfl
theorem n_tt_0 (k : Nat) (c : Code) : vw P w0 ss (tl k (tl 0 c)) fr S Q = vw P w0 ss (tl k c) fr S Q := rfl
theorem n_tt_s (k n : Nat) (x y : Code) : vw P w0 ss (tl k (tl (n + 1) (.seq x y))) fr S Q = vw P w0 ss (tl k (tl n y)) fr S Q := rfl
attribute [go_sem ↓] n_hd_0 n_hd_s n_tl_0 n_tl_s n_ht_0 n_ht_s n_tt_0 n_tt_s
theorem vw_hd (hm : P.follows .mixedOrders = true) {K : List DV → St → Prop} (n : Nat) : ∀ (c : Code) (fr : List DV) (S : St), okC ss (hd n c) = true → (∀ fr S, K fr S → AWp P w0 (tl n c) fr S Q) → vw P w0 ss (hd n c) fr S (thenQ K Q) → AWp P w0 c fr S Q := by
  induction n with
  | zero => intro c fr S _ hK h; exact hK _ _ h
  | succ n ih =>
    intro c fr S ho hK h
    cases c
    case seq x y =>
      simp only [hd, okC, Bool.and_eq_true] at ho
      refine awp_seq ((vw_sound hm x ho.1 h).mono fun e fr S hq => ?_)
      cases e with
      | normal => exact ih y fr S ho.2 hK hq
      | _ => exact hq
    all_goals exact hK _ _ h
/-- A sequence, cut behind n pieces: what is there of the frame is said once more. -/
theorem midK {σ : Type} (n : Nat) (ss : List Nat) (live : List Nat) (vals : σ → List (Nat × DV)) (st : σ → St) (inv : σ → Prop) {c : Code} {fr : List DV} {S : St} {Q : Exit → List DV → St → Prop} (hm : P.follows .mixedOrders = true) (hc : okC ss (hd n c) = true)
    (h1 : vw P w0 ss (hd n c) fr S (thenQ (fun fr' S' => ∃ s, inv s ∧ WkL (wk live fr') (upds (wk live fr) (vals s)) ∧ Aml.Sub (st s) S') Q))
    (h2 : ∀ s, inv s → AWp P w0 (tl n c) (upds (wk live fr) (vals s)) (st s) Q) : AWp P w0 c fr S Q := by
  refine vw_hd hm n c fr S hc ?_ h1
  rintro fr' S' ⟨s, hi, hw, hS⟩
  intro g a w q1 q2 q3
  exact h2 s hi g a w (q1.forget hS.box hS.acc) (hw.spec (repL_wk live q2)) q3
end
theorem swoU : Go.Sort.SWO Go.Sort.ltInt := Go.Sort.swo_ltInt
abbrev BelowU := Go.Sort.Below Go.Sort.ltInt
abbrev SortU := Go.Sort.SortedIn Go.Sort.ltInt
set_option maxHeartbeats 4000000 in
theorem pdqU (w0 : W0) {l : Nat} {o : Ob} {S : St} (hl : lk S.acc l = some o) : ∀ (m : Nat) (d : Array Int) (a b lim : Nat), b - a < m → a ≤ b → b ≤ d.size → d.size < 2 ^ 60 → lim < 2 ^ 60 → BelowU a b d →
    ACall Try.prog w0 101 [.acc l d.size, dI a, dI b, dI lim] (⟨S.box, up S.acc l (.arr 1 (rowA dU (d)))⟩ : St) (fun e S' => ∃ d', Go.Sort.PermIn a b d d' ∧ SortU a b d' ∧ e = .tup [] ∧ S' = (⟨S.box, up S.acc l (.arr 1 (rowA dU (d')))⟩ : St)) := by
  intro m
  induction m with
  | zero => intro d a b lim hm; exact absurd hm (by omega)
  | succ m ih =>
  intro d a b lim hm hab hb hd hlim hB
  refine fnO [] mx Try.func101 rfl rfl (by kernel_rfl) ?_; simp (maxDischargeDepth := 12) (maxSteps := 1000000) -implicitDefEqProofs only [Try.ntmps101, go_sem, Nat.reduceAdd, Nat.reduceSub, Nat.reduceMul, Nat.reduceLeDiff, Nat.reduceEqDiff, Nat.reduceGT, Nat.reduceBEq, reduceCtorEq, ↓reduceIte, Int.reduceToNat, Int.reduceLE, Int.reduceLT, Int.reduceNe, Int.reduceEq,  hl]
  refine loopA [0, 1, 2, 3, 8, 9] (fun s : Nat × Nat × Nat × Bool × Bool × Array Int => [(1, dI s.1), (2, dI s.2.1), (3, dI s.2.2.1), (8, dB s.2.2.2.1), (9, dB s.2.2.2.2.1)]) (fun s => (⟨S.box, up S.acc l (.arr 1 (rowA dU (s.2.2.2.2.2)))⟩ : St)) (fun s => a ≤ s.1 ∧ s.1 ≤ s.2.1 ∧ s.2.1 ≤ b ∧ s.2.2.1 < 2 ^ 60 ∧ Go.Sort.PermIn a b d s.2.2.2.2.2 ∧ BelowU s.1 s.2.1 s.2.2.2.2.2 ∧ ∀ R, Go.Sort.PermIn s.1 s.2.1 s.2.2.2.2.2 R → SortU s.1 s.2.1 R → SortU a b R) (fun s => s.2.1 - s.1) (a, b, lim, true, true, d) ?_ ?_
  · refine ⟨⟨Nat.le_refl _, hab, Nat.le_refl _, hlim, Go.Sort.permIn_refl d a b, hB, fun R _ h => h⟩, ?_, ?_⟩ <;> simp (maxDischargeDepth := 12) (maxSteps := 1000000) -implicitDefEqProofs only [go_sem, Nat.reduceAdd, Nat.reduceSub, Nat.reduceMul, Nat.reduceLeDiff, Nat.reduceEqDiff, Nat.reduceGT, Nat.reduceBEq, reduceCtorEq, ↓reduceIte, Int.reduceToNat, Int.reduceLE, Int.reduceLT, Int.reduceNe, Int.reduceEq]
  rintro ⟨a1, b1, lim1, wb, wp, c0⟩ ⟨ha1, hab1, hb1, hlim1, hp0, hB0, hF0⟩
  simp only at ha1 hab1 hb1 hlim1 hp0 hB0 hF0
  have hc0 : c0.size = d.size := hp0.1
  have e1 := i_sub b1 a1 (by omega) (by omega)
  refine awp_block ?_
  refine midK 7 [] [0, 1, 2, 3, 8, 9, 10, 11] (fun s : Nat × Nat × Array Int => [(3, dI s.2.1), (10, dI (b1 - a1 : Nat)), (11, dI s.1)]) (fun s => (⟨S.box, up S.acc l (.arr 1 (rowA dU (s.2.2)))⟩ : St)) (fun s => 12 < b1 - a1 ∧ a1 ≤ s.1 ∧ s.1 < b1 ∧ s.2.1 < 2 ^ 60 ∧ Go.Sort.PermIn a1 b1 c0 s.2.2) mx (by kernel_rfl) ?_ ?_
  · simp (maxDischargeDepth := 12) (maxSteps := 1000000) -implicitDefEqProofs only [go_sem, Nat.reduceAdd, Nat.reduceSub, Nat.reduceMul, Nat.reduceLeDiff, Nat.reduceEqDiff, Nat.reduceGT, Nat.reduceBEq, reduceCtorEq, ↓reduceIte, Int.reduceToNat, Int.reduceLE, Int.reduceLT, Int.reduceNe, Int.reduceEq, hl, hc0, e1]
    have fin : ∀ c', Go.Sort.PermIn a1 b1 c0 c' → SortU a1 b1 c' → ∃ d', Go.Sort.PermIn a b d d' ∧ SortU a b d' ∧ (⟨S.box, up S.acc l (.arr 1 (rowA dU (c')))⟩ : St) = (⟨S.box, up S.acc l (.arr 1 (rowA dU (d')))⟩ : St) := fun c' h1 h2 => ⟨c', Go.Sort.permIn_trans _ _ _ a b hp0 (Go.Sort.permIn_mono _ _ a1 b1 a b ha1 hb1 (by omega) h1), hF0 c' h1 h2, rfl⟩
    have mid1 : ∀ (c' : Array Int) (x l2 : Nat), Go.Sort.PermIn a1 b1 c0 c' → a1 ≤ x → x < b1 → l2 < 2 ^ 60 ∧ 12 < b1 - a1 → ∃ s : Nat × Nat × Array Int, (12 < b1 - a1 ∧ a1 ≤ s.1 ∧ s.1 < b1 ∧ s.2.1 < 2 ^ 60 ∧ Go.Sort.PermIn a1 b1 c0 s.2.2) ∧ (l2 = s.2.1 ∧ x = s.1) ∧ Aml.Sub (⟨S.box, up S.acc l (.arr 1 (rowA dU (s.2.2)))⟩ : St) (⟨S.box, up S.acc l (.arr 1 (rowA dU (c')))⟩ : St) := fun c' x l2 h1 h2 h3 h4 => ⟨(x, l2, c'), ⟨h4.2, h2, h3, h4.1, h1⟩, ⟨rfl, rfl⟩, .refl _⟩
    have hsc0 := hc0
    have hpc0 := Go.Sort.permIn_refl c0 a1 b1
    refine ⟨fun h12 => ?_, fun h12 => ⟨fun hl0 => ?_, fun hl0 => ⟨fun hwb => ?_, fun hwb => ?_⟩⟩⟩
    · have hi := insertU w0 c0 (a := a1) (b := b1) (S := S) hl (by omega) (by omega) (by omega)
      rw [hc0] at hi
      refine .inl (useK hi ?_)
      rintro _ _ ⟨rfl, rfl⟩
      simp (maxDischargeDepth := 12) (maxSteps := 1000000) -implicitDefEqProofs only [go_sem, Nat.reduceAdd, Nat.reduceSub, Nat.reduceMul, Nat.reduceLeDiff, Nat.reduceEqDiff, Nat.reduceGT, Nat.reduceBEq, reduceCtorEq, ↓reduceIte, Int.reduceToNat, Int.reduceLE, Int.reduceLT, Int.reduceNe, Int.reduceEq, hl]
      have q := Go.Sort.insertionSort_holds swoU c0 a1 b1 (by omega) (by omega)
      exact fin _ q.1 q.2
    · have hi := heapU w0 c0 (a := a1) (b := b1) (S := S) hl (by omega) (by omega) (by omega)
      rw [hc0] at hi
      refine .inl (useK hi ?_)
      rintro _ _ ⟨rfl, rfl⟩
      simp (maxDischargeDepth := 12) (maxSteps := 1000000) -implicitDefEqProofs only [go_sem, Nat.reduceAdd, Nat.reduceSub, Nat.reduceMul, Nat.reduceLeDiff, Nat.reduceEqDiff, Nat.reduceGT, Nat.reduceBEq, reduceCtorEq, ↓reduceIte, Int.reduceToNat, Int.reduceLE, Int.reduceLT, Int.reduceNe, Int.reduceEq, hl]
      have q := Go.Sort.heapSort_holds swoU c0 a1 b1 (by omega) (by omega)
      exact fin _ q.1 q.2
    · have e3 := i_prev b1 (by omega) (by omega)
      have hv := pivotU w0 c0 (a := a1) (b := b1) (S := S) hl (by omega) (by rw [hsc0]; omega) (by rw [hsc0]; omega)
      rw [hsc0] at hv
      refine .inl (useK hv ?_)
      rintro _ _ ⟨x, h, rfl, ⟨hx1, hx2⟩, rfl⟩
      have e4 := i_sub x a1 (by omega) hx1
      have e5 := i_sub (b1 - 1) (x - a1) (by omega) (by omega)
      simp (maxDischargeDepth := 12) (maxSteps := 1000000) -implicitDefEqProofs only [go_sem, Nat.reduceAdd, Nat.reduceSub, Nat.reduceMul, Nat.reduceLeDiff, Nat.reduceEqDiff, Nat.reduceGT, Nat.reduceBEq, reduceCtorEq, ↓reduceIte, Int.reduceToNat, Int.reduceLE, Int.reduceLT, Int.reduceNe, Int.reduceEq, hl, e3, e4, e5, hwb]
      refine ⟨fun h2 => ?_, fun h2 => ?_⟩
      · have hr := reverseU w0 c0 (a := a1) (b := b1) (S := S) hl (by omega) (by rw [hsc0]; omega) (by rw [hsc0]; omega)
        rw [hsc0] at hr
        refine .inl (useK hr ?_)
        rintro _ _ ⟨rfl, rfl⟩
        have hpr : Go.Sort.PermIn a1 b1 c0 (Go.Sort.reverseRange c0 a1 b1) := Go.Sort.permIn_trans _ _ _ a1 b1 hpc0 (Go.Sort.reverseRange_holds c0 a1 b1 (by omega) (by rw [hsc0]; omega))
        generalize Go.Sort.reverseRange c0 a1 b1 = cr at hpr ⊢
        have hscr : cr.size = d.size := by rw [hpr.1]; exact hc0
        simp (maxDischargeDepth := 12) (maxSteps := 1000000) -implicitDefEqProofs only [go_sem, Nat.reduceAdd, Nat.reduceSub, Nat.reduceMul, Nat.reduceLeDiff, Nat.reduceEqDiff, Nat.reduceGT, Nat.reduceBEq, reduceCtorEq, ↓reduceIte, Int.reduceToNat, Int.reduceLE, Int.reduceLT, Int.reduceNe, Int.reduceEq, hl, e3, e4, e5, hwb]
        refine ⟨fun hwp => ?_, fun hwp => ?_⟩
        · have hi := insPartU w0 cr (a := a1) (b := b1) (S := S) hl (by omega) (by rw [hscr]; omega) (by rw [hscr]; omega)
          rw [hscr] at hi
          refine .inl (useK hi ?_)
          rintro _ _ ⟨rfl, rfl⟩
          obtain ⟨q1, q2⟩ := Go.Sort.partialInsertionSort_holds swoU cr a1 b1 (by omega) (by rw [hscr]; omega) (hB0.perm (by omega) hpr)
          simp (maxDischargeDepth := 12) (maxSteps := 1000000) -implicitDefEqProofs only [go_sem, Nat.reduceAdd, Nat.reduceSub, Nat.reduceMul, Nat.reduceLeDiff, Nat.reduceEqDiff, Nat.reduceGT, Nat.reduceBEq, reduceCtorEq, ↓reduceIte, Int.reduceToNat, Int.reduceLE, Int.reduceLT, Int.reduceNe, Int.reduceEq, hl, hwb]
          refine ⟨fun h => fin _ (Go.Sort.permIn_trans _ _ _ a1 b1 hpr q1) (q2 h), fun _ => mid1 _ (b1 - 1 - (x - a1)) lim1 (Go.Sort.permIn_trans _ _ _ a1 b1 hpr q1) (by omega) (by omega) (by omega)⟩
        · exact mid1 _ (b1 - 1 - (x - a1)) lim1 hpr (by omega) (by omega) (by omega)
      · refine ⟨fun hwp => ⟨fun h1 => ?_, fun h1 => ?_⟩, fun hwp => ?_⟩
        · have hi := insPartU w0 c0 (a := a1) (b := b1) (S := S) hl (by omega) (by rw [hsc0]; omega) (by rw [hsc0]; omega)
          rw [hsc0] at hi
          refine .inl (useK hi ?_)
          rintro _ _ ⟨rfl, rfl⟩
          obtain ⟨q1, q2⟩ := Go.Sort.partialInsertionSort_holds swoU c0 a1 b1 (by omega) (by rw [hsc0]; omega) (hB0.perm (by omega) hpc0)
          simp (maxDischargeDepth := 12) (maxSteps := 1000000) -implicitDefEqProofs only [go_sem, Nat.reduceAdd, Nat.reduceSub, Nat.reduceMul, Nat.reduceLeDiff, Nat.reduceEqDiff, Nat.reduceGT, Nat.reduceBEq, reduceCtorEq, ↓reduceIte, Int.reduceToNat, Int.reduceLE, Int.reduceLT, Int.reduceNe, Int.reduceEq, hl, hwb]
          refine ⟨fun h => fin _ (Go.Sort.permIn_trans _ _ _ a1 b1 hpc0 q1) (q2 h), fun _ => mid1 _ x lim1 (Go.Sort.permIn_trans _ _ _ a1 b1 hpc0 q1) (by omega) (by omega) (by omega)⟩
        · exact mid1 _ x lim1 hpc0 hx1 hx2 (by omega)
        · exact mid1 _ x lim1 hpc0 hx1 hx2 (by omega)
    · have e3 := i_prev b1 (by omega) (by omega)
      have hi := breakU w0 c0 (a := a1) (b := b1) (S := S) hl (by omega) (by omega) (by omega)
      rw [hc0] at hi
      refine .inl (useK hi ?_)
      rintro _ _ ⟨cb, hpcb, rfl, rfl⟩
      have hscb : cb.size = d.size := by rw [hpcb.1]; exact hc0
      have e6 := i_prev lim1 (by omega) (by omega)
      simp (maxDischargeDepth := 12) (maxSteps := 1000000) -implicitDefEqProofs only [go_sem, Nat.reduceAdd, Nat.reduceSub, Nat.reduceMul, Nat.reduceLeDiff, Nat.reduceEqDiff, Nat.reduceGT, Nat.reduceBEq, reduceCtorEq, ↓reduceIte, Int.reduceToNat, Int.reduceLE, Int.reduceLT, Int.reduceNe, Int.reduceEq, hl, e6]
      have hv := pivotU w0 cb (a := a1) (b := b1) (S := S) hl (by omega) (by rw [hscb]; omega) (by rw [hscb]; omega)
      rw [hscb] at hv
      refine .inl (useK hv ?_)
      rintro _ _ ⟨x, h, rfl, ⟨hx1, hx2⟩, rfl⟩
      have e4 := i_sub x a1 (by omega) hx1
      have e5 := i_sub (b1 - 1) (x - a1) (by omega) (by omega)
      simp (maxDischargeDepth := 12) (maxSteps := 1000000) -implicitDefEqProofs only [go_sem, Nat.reduceAdd, Nat.reduceSub, Nat.reduceMul, Nat.reduceLeDiff, Nat.reduceEqDiff, Nat.reduceGT, Nat.reduceBEq, reduceCtorEq, ↓reduceIte, Int.reduceToNat, Int.reduceLE, Int.reduceLT, Int.reduceNe, Int.reduceEq, hl, e3, e4, e5, hwb]
      refine ⟨fun h2 => ?_, fun h2 => ?_⟩
      · have hr := reverseU w0 cb (a := a1) (b := b1) (S := S) hl (by omega) (by rw [hscb]; omega) (by rw [hscb]; omega)
        rw [hscb] at hr
        refine .inl (useK hr ?_)
        rintro _ _ ⟨rfl, rfl⟩
        have hpr : Go.Sort.PermIn a1 b1 c0 (Go.Sort.reverseRange cb a1 b1) := Go.Sort.permIn_trans _ _ _ a1 b1 hpcb (Go.Sort.reverseRange_holds cb a1 b1 (by omega) (by rw [hscb]; omega))
        generalize Go.Sort.reverseRange cb a1 b1 = cr at hpr ⊢
        have hscr : cr.size = d.size := by rw [hpr.1]; exact hc0
        simp (maxDischargeDepth := 12) (maxSteps := 1000000) -implicitDefEqProofs only [go_sem, Nat.reduceAdd, Nat.reduceSub, Nat.reduceMul, Nat.reduceLeDiff, Nat.reduceEqDiff, Nat.reduceGT, Nat.reduceBEq, reduceCtorEq, ↓reduceIte, Int.reduceToNat, Int.reduceLE, Int.reduceLT, Int.reduceNe, Int.reduceEq, hl, e3, e4, e5, hwb]
        exact mid1 _ (b1 - 1 - (x - a1)) (lim1 - 1) hpr (by omega) (by omega) (by omega)
      · exact mid1 _ x (lim1 - 1) hpcb hx1 hx2 (by omega)
  · rintro ⟨pv, lim2, c⟩ ⟨h12, hpv1, hpv2, hlim2, hp1⟩
    simp only at h12 hpv1 hpv2 hlim2 hp1
    have hc : c.size = d.size := by rw [hp1.1]; exact hc0
    have hB1 := hB0.perm (by omega) hp1
    have ha1' : a1 < d.size := by omega
    have hap : a1 - 1 < d.size := by omega
    have hpv : pv < d.size := by omega
    refine midK 1 [] [0, 1, 2, 3, 8, 9, 10, 11] (fun s : Unit => []) (fun s => (⟨S.box, up S.acc l (.arr 1 (rowA dU (c)))⟩ : St)) (fun s => True) mx (by kernel_rfl) ?_ ?_
    · by_cases h0 : 0 < a1
      · have e7 := i_prev a1 (by omega) h0
        have hg : (0 : Int) < (a1 : Int) := by omega
        simp (maxDischargeDepth := 12) (maxSteps := 1000000) -implicitDefEqProofs only [go_sem, Nat.reduceAdd, Nat.reduceSub, Nat.reduceMul, Nat.reduceLeDiff, Nat.reduceEqDiff, Nat.reduceGT, Nat.reduceBEq, reduceCtorEq, ↓reduceIte, Int.reduceToNat, Int.reduceLE, Int.reduceLT, Int.reduceNe, Int.reduceEq, hl, hc, e7, hap, hpv, hg]
        refine useQ (lessU w0 _ _ _) ?_
        simp (maxDischargeDepth := 12) (maxSteps := 1000000) -implicitDefEqProofs only [go_sem, Nat.reduceAdd, Nat.reduceSub, Nat.reduceMul, Nat.reduceLeDiff, Nat.reduceEqDiff, Nat.reduceGT, Nat.reduceBEq, reduceCtorEq, ↓reduceIte, Int.reduceToNat, Int.reduceLE, Int.reduceLT, Int.reduceNe, Int.reduceEq, hl, hc, e7, hap, hpv, hg]
        refine ⟨fun h => ?_, fun h => ⟨(), trivial⟩⟩
        have hi := partEqU w0 c (a := a1) (b := b1) (pv := pv) (S := S) hl hpv1 hpv2 (by omega) (by omega)
        rw [hc] at hi
        refine .inl (useK hi ?_)
        rintro _ _ ⟨rfl, rfl⟩
        have hnl : Go.Sort.ltInt c[a1 - 1]! c[pv]! = false := by simp only [Go.Sort.ltInt, decide_eq_false_iff_not]; omega
        have hge : ∀ i, a1 ≤ i → i < b1 → Go.Sort.ltInt c[i]! c[pv]! = false := fun i hi hi' => by
          rcases hB1 with h0' | hB
          · omega
          · exact swoU.ntrans _ _ _ (hB i hi hi') hnl
        have hpe := Go.Sort.partitionEqual_holds Go.Sort.ltInt swoU c a1 b1 pv hpv1 hpv2 (by omega) hge
        have hre := @Go.Sort.round_eq _ _ Go.Sort.ltInt swoU (Go.Sort.partitionEqual_holds Go.Sort.ltInt) c
        generalize hx : Go.Sort.partitionEqual Go.Sort.ltInt c a1 b1 pv = X at hpe ⊢
        obtain ⟨mid, d4⟩ := X
        obtain ⟨r1, r2, r3, r4, r5⟩ := hre h0 hpv1 hpv2 (by omega) hB1 hnl hx
        have hperm : Go.Sort.PermIn a1 b1 c d4 := hpe.2.2.1
        clear hpe hre hx
        simp (maxDischargeDepth := 12) (maxSteps := 1000000) -implicitDefEqProofs only [go_sem, Nat.reduceAdd, Nat.reduceSub, Nat.reduceMul, Nat.reduceLeDiff, Nat.reduceEqDiff, Nat.reduceGT, Nat.reduceBEq, reduceCtorEq, ↓reduceIte, Int.reduceToNat, Int.reduceLE, Int.reduceLT, Int.reduceNe, Int.reduceEq, hl]
        have hp14 := Go.Sort.permIn_trans _ _ _ a1 b1 hp1 hperm
        exact ⟨(mid, b1, lim2, wb, wp, d4), ⟨by show a ≤ mid; omega, r2, hb1, hlim2, Go.Sort.permIn_trans _ _ _ a b hp0 (Go.Sort.permIn_mono _ _ a1 b1 a b ha1 hb1 (by omega) hp14), r4, fun R k1 k2 => hF0 R (Go.Sort.permIn_trans _ _ _ a1 b1 hp1 (r5 R k1 k2).1) (r5 R k1 k2).2⟩, by show b1 - mid < b1 - a1; omega, ⟨rfl, rfl, rfl, rfl, rfl⟩, .refl _⟩
      · have hg : ¬ (0 : Int) < (a1 : Int) := by omega
        simp (maxDischargeDepth := 12) (maxSteps := 1000000) -implicitDefEqProofs only [go_sem, Nat.reduceAdd, Nat.reduceSub, Nat.reduceMul, Nat.reduceLeDiff, Nat.reduceEqDiff, Nat.reduceGT, Nat.reduceBEq, reduceCtorEq, ↓reduceIte, Int.reduceToNat, Int.reduceLE, Int.reduceLT, Int.reduceNe, Int.reduceEq, hl, hc, hg]
        exact ⟨(), trivial⟩
    · rintro ⟨⟩ _
      refine rawK [] mx (by kernel_rfl) ?_
      simp (maxDischargeDepth := 12) (maxSteps := 1000000) -implicitDefEqProofs only [go_sem, Nat.reduceAdd, Nat.reduceSub, Nat.reduceMul, Nat.reduceLeDiff, Nat.reduceEqDiff, Nat.reduceGT, Nat.reduceBEq, reduceCtorEq, ↓reduceIte, Int.reduceToNat, Int.reduceLE, Int.reduceLT, Int.reduceNe, Int.reduceEq, hl, hc]
      have hi := partU w0 c (a := a1) (b := b1) (pv := pv) (S := S) hl hpv1 hpv2 (by omega) (by omega)
      rw [hc] at hi
      have hpe := Go.Sort.partition_holds Go.Sort.ltInt swoU c a1 b1 pv hpv1 hpv2 (by omega)
      have hre := @Go.Sort.round_part _ _ Go.Sort.ltInt swoU (Go.Sort.partition_holds Go.Sort.ltInt) c
      generalize hx : Go.Sort.partition Go.Sort.ltInt c a1 b1 pv = X at hpe hi ⊢
      obtain ⟨mid, ap, d4⟩ := X
      obtain ⟨r1, r2, r3, r4, r4', r5, r6⟩ := hre hpv1 hpv2 (by omega) hB1 hx
      have hperm : Go.Sort.PermIn a1 b1 c d4 := hpe.2.2.1
      clear hpe hre hx
      refine .inl (useK hi ?_)
      rintro _ _ ⟨⟨q, rfl⟩, rfl⟩
      have hd4 : d4.size = d.size := by rw [r3]; exact hc
      have e1' := i_sub mid a1 (by omega) r1
      have e2' := i_sub b1 mid (by omega) (by omega)
      have e3' : IntKind.i64.wrap (((b1 - a1 : Nat) : Int).tdiv 8) = (((b1 - a1) / 8 : Nat) : Int) := by rw [Int.tdiv_eq_ediv_of_nonneg (by omega), w64 (by omega) (by omega)]; omega
      have e4' := i_one mid (by omega)
      have hp14 := Go.Sort.permIn_trans _ _ _ a1 b1 hp1 hperm
      have nx : ∀ L, Go.Sort.PermIn a1 b1 d4 L → Go.Sort.PermIn a b d L := fun L h => Go.Sort.permIn_trans _ _ _ a b hp0 (Go.Sort.permIn_mono _ _ a1 b1 a b ha1 hb1 (by omega) (Go.Sort.permIn_trans _ _ _ a1 b1 hp14 h))
      simp (maxDischargeDepth := 12) (maxSteps := 1000000) -implicitDefEqProofs only [go_sem, Nat.reduceAdd, Nat.reduceSub, Nat.reduceMul, Nat.reduceLeDiff, Nat.reduceEqDiff, Nat.reduceGT, Nat.reduceBEq, reduceCtorEq, ↓reduceIte, Int.reduceToNat, Int.reduceLE, Int.reduceLT, Int.reduceNe, Int.reduceEq, hl, e1', e2', e3', e4']
      refine ⟨fun hlt => ?_, fun hlt => ?_⟩
      · have hi := ih d4 a1 mid lim2 (by omega) r1 (by omega) (by omega) hlim2 r4
        rw [hd4] at hi
        refine .inl (useK hi ?_)
        rintro _ _ ⟨L, l1, l2, rfl, rfl⟩
        simp (maxDischargeDepth := 12) (maxSteps := 1000000) -implicitDefEqProofs only [go_sem, Nat.reduceAdd, Nat.reduceSub, Nat.reduceMul, Nat.reduceLeDiff, Nat.reduceEqDiff, Nat.reduceGT, Nat.reduceBEq, reduceCtorEq, ↓reduceIte, Int.reduceToNat, Int.reduceLE, Int.reduceLT, Int.reduceNe, Int.reduceEq, hl, e1', e2', e3', e4']
        obtain ⟨k1, k2⟩ := r5 L l1 l2
        exact ⟨(mid + 1, b1, lim2, _, q, L), ⟨by show a ≤ mid + 1; omega, by show mid + 1 ≤ b1; omega, hb1, hlim2, nx L (Go.Sort.permIn_mono _ _ a1 mid a1 b1 (Nat.le_refl _) (by omega) (by omega) l1), k1, fun R h1 h2 => hF0 R (Go.Sort.permIn_trans _ _ _ a1 b1 hp1 (k2 R h1 h2).1) (k2 R h1 h2).2⟩, by show b1 - (mid + 1) < b1 - a1; omega, ⟨rfl, rfl, rfl, rfl, rfl⟩, .refl _⟩
      · have hi := ih d4 (mid + 1) b1 lim2 (by omega) (by omega) (by omega) (by omega) hlim2 r4'
        rw [hd4] at hi
        refine .inl (useK hi ?_)
        rintro _ _ ⟨L, l1, l2, rfl, rfl⟩
        simp (maxDischargeDepth := 12) (maxSteps := 1000000) -implicitDefEqProofs only [go_sem, Nat.reduceAdd, Nat.reduceSub, Nat.reduceMul, Nat.reduceLeDiff, Nat.reduceEqDiff, Nat.reduceGT, Nat.reduceBEq, reduceCtorEq, ↓reduceIte, Int.reduceToNat, Int.reduceLE, Int.reduceLT, Int.reduceNe, Int.reduceEq, hl, e1', e2', e3', e4']
        obtain ⟨k1, k2⟩ := r6 L l1 l2
        exact ⟨(a1, mid, lim2, _, q, L), ⟨ha1, r1, by show mid ≤ b; omega, hlim2, nx L (Go.Sort.permIn_mono _ _ (mid + 1) b1 a1 b1 (by omega) (Nat.le_refl _) (by omega) l1), k1, fun R h1 h2 => hF0 R (Go.Sort.permIn_trans _ _ _ a1 b1 hp1 (k2 R h1 h2).1) (k2 R h1 h2).2⟩, by show mid - a1 < b1 - a1; omega, ⟨rfl, rfl, rfl, rfl, rfl⟩, .refl _⟩
/-- slices.Sort at []uint64, of a growing slice. -/
theorem sortU (w0 : W0) (d : Array Int) {l : Nat} {o : Ob} {S : St} (hl : lk S.acc l = some o) (hd : d.size < 2 ^ 60) :
    ACall Try.prog w0 83 [.acc l d.size] (⟨S.box, up S.acc l (.arr 1 (rowA dU (d)))⟩ : St) (fun e S' => ∃ d', Go.Sort.PermIn 0 d.size d d' ∧ SortU 0 d.size d' ∧ e = .tup [] ∧ S' = (⟨S.box, up S.acc l (.arr 1 (rowA dU (d')))⟩ : St)) := by
  have e1 : IntKind.u64.wrap (d.size : Int) = (d.size : Int) := wu64 (by omega) (by omega)
  refine fnO [] mx Try.func83 rfl rfl (by kernel_rfl) ?_; simp (maxDischargeDepth := 12) (maxSteps := 1000000) -implicitDefEqProofs only [Try.ntmps83, go_sem, Nat.reduceAdd, Nat.reduceSub, Nat.reduceMul, Nat.reduceLeDiff, Nat.reduceEqDiff, Nat.reduceGT, Nat.reduceBEq, reduceCtorEq, ↓reduceIte, Int.reduceToNat, Int.reduceLE, Int.reduceLT, Int.reduceNe, Int.reduceEq,  hl, e1]
  refine use1 (bitLenU w0 d.size _ hd) ?_ (by simp (maxDischargeDepth := 12) (maxSteps := 1000000) -implicitDefEqProofs only [go_sem, Nat.reduceAdd, Nat.reduceSub, Nat.reduceMul, Nat.reduceLeDiff, Nat.reduceEqDiff, Nat.reduceGT, Nat.reduceBEq, reduceCtorEq, ↓reduceIte, Int.reduceToNat, Int.reduceLE, Int.reduceLT, Int.reduceNe, Int.reduceEq])
  have hk : Lib.bitLen d.size ≤ 60 := by
    by_cases h0 : d.size = 0
    · rw [h0]; decide
    · have h1 := pow_bitLen d.size d.size (Nat.le_refl _) (by omega) (by omega)
      rcases Nat.lt_or_ge 60 (Lib.bitLen d.size) with h2 | h2
      · have := Nat.pow_le_pow_right (n := 2) (by omega) h2; omega
      · exact h2
  simp (maxDischargeDepth := 12) (maxSteps := 1000000) -implicitDefEqProofs only [go_sem, Nat.reduceAdd, Nat.reduceSub, Nat.reduceMul, Nat.reduceLeDiff, Nat.reduceEqDiff, Nat.reduceGT, Nat.reduceBEq, reduceCtorEq, ↓reduceIte, Int.reduceToNat, Int.reduceLE, Int.reduceLT, Int.reduceNe, Int.reduceEq, hl]
  refine .inl (useK (pdqU w0 hl (d.size + 1) d 0 d.size (Lib.bitLen d.size) (by omega) (by omega) (by omega) hd (by omega) (.inl rfl)) ?_)
  rintro _ _ ⟨d', h1, h2, rfl, rfl⟩
  simp (maxDischargeDepth := 12) (maxSteps := 1000000) -implicitDefEqProofs only [go_sem, Nat.reduceAdd, Nat.reduceSub, Nat.reduceMul, Nat.reduceLeDiff, Nat.reduceEqDiff, Nat.reduceGT, Nat.reduceBEq, reduceCtorEq, ↓reduceIte, Int.reduceToNat, Int.reduceLE, Int.reduceLT, Int.reduceNe, Int.reduceEq, hl]
  exact ⟨d', h1, h2, rfl⟩
end Go.Proofs.Ytkibkahknibgfaa

namespace Go.Proofs.Ytkibkahknibgfaa
open Aml Go
set_option linter.unusedVariables false
set_option linter.unusedSimpArgs false
set_option maxRecDepth 100000
/-- Keys that were, each once. -/
def OkK (es : List (Value × DV × Nat)) (pre : List Int) : Prop := pre.Nodup ∧ ∀ v, v ∈ pre → ∃ e, e ∈ es ∧ e.1 = kU v
def FinK (es : List (Value × DV × Nat)) (V : List Int) : Prop := OkK es V ∧ ∀ e, e ∈ es → ∃ v, v ∈ V ∧ e.1 = kU v
theorem isKey_u {u : Value} (h : isKey (.int .u64) u = true) : ∃ a, u = kU a := by
  cases u <;> simp_all [isKey, kU]
theorem lk_dom' {α : Type} : ∀ {L L' : List (Nat × α)} {n : Nat}, L.map (·.1) = L'.map (·.1) → lk L n = none → lk L' n = none
  | [], [], _, _, _ => rfl
  | [], _ :: _, _, h, _ => by simp at h
  | _ :: _, [], _, h, _ => by simp at h
  | (k, x) :: t, (k', x') :: t', n, h, hn => by
    simp only [List.map_cons, List.cons.injEq] at h
    obtain ⟨e, h⟩ := h
    subst e
    simp only [lk] at hn ⊢
    split at hn
    · cases hn
    · rename_i hne; rw [if_neg hne]; exact lk_dom' h hn
theorem nodup_eq {α β : Type} {f : α → β} : ∀ {l : List α}, (l.map f).Nodup → ∀ {x y : α}, x ∈ l → y ∈ l → f x = f y → x = y
  | [], _, x, y, hx, _, _ => by cases hx
  | z :: l, hn, x, y, hx, hy, e => by
    rw [List.map_cons, List.nodup_cons] at hn
    rcases List.mem_cons.1 hx with h1 | h1
    · rcases List.mem_cons.1 hy with h2 | h2
      · rw [h1, h2]
      · exact absurd (by rw [← h1, e]; exact List.mem_map_of_mem h2) hn.1
    · rcases List.mem_cons.1 hy with h2 | h2
      · exact absurd (by rw [← h2, ← e]; exact List.mem_map_of_mem h1) hn.1
      · exact nodup_eq hn.2 h1 h2 e
theorem nodup_map_inj {α β : Type} {f : α → β} (hf : ∀ x y, f x = f y → x = y) : ∀ {l : List α}, l.Nodup → (l.map f).Nodup
  | [], _ => List.nodup_nil
  | z :: l, hn => by
    rw [List.map_cons, List.nodup_cons]
    rw [List.nodup_cons] at hn
    refine ⟨fun h => ?_, nodup_map_inj hf hn.2⟩
    obtain ⟨y, hy, e⟩ := List.mem_map.1 h
    exact hn.1 (hf _ _ e ▸ hy)
theorem nodup_len {α : Type} : ∀ {l m : List α}, l.Nodup → l ⊆ m → l.length ≤ m.length
  | [], _, _, _ => Nat.zero_le _
  | x :: l, m, hn, h => by
    rw [List.nodup_cons] at hn
    obtain ⟨s, t, rfl⟩ := List.append_of_mem (h (List.mem_cons_self ..))
    have := nodup_len (m := s ++ t) hn.2 fun y hy => by
      have := h (List.mem_cons_of_mem _ hy)
      rw [List.mem_append, List.mem_cons] at this
      rcases this with h1 | rfl | h1
      · exact List.mem_append_left _ h1
      · exact absurd hy hn.1
      · exact List.mem_append_right _ h1
    simp only [List.length_append, List.length_cons] at this ⊢
    omega
theorem keysIter (w1 : W0) (l b m clk : Nat) (es : List (Value × DV × Nat)) (X : List Int → St)
    (hb : ∀ pre, lk (X pre).box b = some [.mp m]) (hm : ∀ pre, lk (X pre).acc m = some (.xo (.mp (.int .u64) es clk)))
    (hda : ∀ pre, (X pre).acc.map (·.1) = (X []).acc.map (·.1)) (hok : MapOk (.int .u64) es clk)
    (hy : YKo Try.prog w1 l X (fun x => [dU x]) (OkK es)) : ∀ T, Has (X []) T → ACall Try.prog w1 84 [.v (.func (.yield l) #[] #[]), .v (.pointer (some ⟨b, 0, none⟩))] T fun _ T' => ∃ V, FinK es V ∧ Has (X V) T' := by
  intro T hT
  have t1 : lk T.box b = some [.mp m] := hT.box _ _ (hb [])
  have t2 : lk T.acc m = some (.xo (.mp (.int .u64) es clk)) := hT.acc _ _ (hm [])
  refine fnO [] mx Try.func84 rfl rfl (by kernel_rfl) ?_; simp (maxDischargeDepth := 12) (maxSteps := 1000000) -implicitDefEqProofs only [Try.ntmps84, go_sem, Nat.reduceAdd, Nat.reduceSub, Nat.reduceMul, Nat.reduceLeDiff, Nat.reduceEqDiff, Nat.reduceGT, Nat.reduceBEq, reduceCtorEq, ↓reduceIte, Int.reduceToNat, Int.reduceLE, Int.reduceLT, Int.reduceNe, Int.reduceEq,  t1, t2]
  intro li
  refine loopK [] [0, 5] (fun s : St × List Int × List Nat => []) (fun s => s.1) (fun s => Has (X s.2.1) s.1 ∧ lk s.1.acc li.n = some (.xo (.it m clk s.2.2 clk)) ∧ lk (X s.2.1).acc li.n = none ∧ OkK es s.2.1 ∧ ∀ e, e ∈ es → (e.2.2 ∈ s.2.2 ↔ ∃ v, v ∈ s.2.1 ∧ e.1 = kU v)) (fun s => es.length - s.2.1.length) (⟨T.box, (li.n, .xo (.it m clk [] clk)) :: T.acc⟩, [], []) mx (by kernel_rfl) ?_ ?_
  · have hnone : lk T.acc li.n = none := nin_lk li.h
    refine ⟨⟨⟨hT.box, fun l' o ho => ?_⟩, by simp [lk], ?_, ⟨List.nodup_nil, fun v hv => by cases hv⟩, fun e _ => ⟨fun h => (by cases h), fun ⟨v, hv, _⟩ => (by cases hv)⟩⟩, ?_, ?_⟩
    · have := hT.acc _ _ ho
      show lk ((li.n, _) :: T.acc) l' = _
      simp only [lk]
      rw [if_neg (fun e => by rw [e, this] at hnone; cases hnone)]; exact this
    · show lk (X []).acc li.n = none
      cases hx : lk (X []).acc li.n with
      | none => rfl
      | some o => rw [hT.acc _ _ hx] at hnone; cases hnone
    · simp (maxDischargeDepth := 12) (maxSteps := 1000000) -implicitDefEqProofs only [go_sem, Nat.reduceAdd, Nat.reduceSub, Nat.reduceMul, Nat.reduceLeDiff, Nat.reduceEqDiff, Nat.reduceGT, Nat.reduceBEq, reduceCtorEq, ↓reduceIte, Int.reduceToNat, Int.reduceLE, Int.reduceLT, Int.reduceNe, Int.reduceEq]
    · exact .refl _
  · rintro ⟨T, pre, seen⟩ ⟨hT', hi, hiX, hOk, hs⟩
    simp only at hT' hi hiX hOk hs
    have u1 : lk T.box b = some [.mp m] := hT'.box _ _ (hb pre)
    have u2 : lk T.acc m = some (.xo (.mp (.int .u64) es clk)) := hT'.acc _ _ (hm pre)
    have hne : ¬ li.n = m := fun e => by rw [e, hm pre] at hiX; cases hiX
    simp (maxDischargeDepth := 12) (maxSteps := 1000000) -implicitDefEqProofs only [go_sem, Nat.reduceAdd, Nat.reduceSub, Nat.reduceMul, Nat.reduceLeDiff, Nat.reduceEqDiff, Nat.reduceGT, Nat.reduceBEq, reduceCtorEq, ↓reduceIte, Int.reduceToNat, Int.reduceLE, Int.reduceLT, Int.reduceNe, Int.reduceEq, u1, u2, hi]
    refine ⟨fun hall => ⟨pre, ⟨hOk, fun e he => (hs e he).1 (hall e he)⟩, hT'⟩, fun e he hns => ?_⟩
    obtain ⟨a, ha⟩ := isKey_u (hok.key e he)
    rw [lk_up_ne hne, u2]
    simp (maxDischargeDepth := 12) (maxSteps := 1000000) -implicitDefEqProofs only [go_sem, Nat.reduceAdd, Nat.reduceSub, Nat.reduceMul, Nat.reduceLeDiff, Nat.reduceEqDiff, Nat.reduceGT, Nat.reduceBEq, reduceCtorEq, ↓reduceIte, Int.reduceToNat, Int.reduceLE, Int.reduceLT, Int.reduceNe, Int.reduceEq]
    refine ⟨e, he, ⟨seen, rfl⟩, ?_⟩
    rw [ha]
    have hnew : a ∉ pre := fun h => hns ((hs e he).2 ⟨a, h, ha⟩)
    have hOk' : OkK es (pre ++ [a]) := ⟨by
      rw [List.nodup_append]
      exact ⟨hOk.1, by simp, fun x hx y hy => by rw [List.mem_singleton.1 hy]; rintro rfl; exact hnew hx⟩, fun v hv => by
      rcases List.mem_append.1 hv with h | h
      · exact hOk.2 v h
      · rw [List.mem_singleton.1 h]; exact ⟨e, he, ha⟩⟩
    have hT1 : Has (X pre) ⟨T.box, up T.acc li.n (.xo (.it m clk (seen ++ [e.2.2]) clk))⟩ := ⟨hT'.box, fun c o hc => by
      rw [lk_up_ne (fun h => by rw [← h, hiX] at hc; cases hc)]; exact hT'.acc c o hc⟩
    simp (maxDischargeDepth := 12) (maxSteps := 1000000) -implicitDefEqProofs only [go_sem, Nat.reduceAdd, Nat.reduceSub, Nat.reduceMul, Nat.reduceLeDiff, Nat.reduceEqDiff, Nat.reduceGT, Nat.reduceBEq, reduceCtorEq, ↓reduceIte, Int.reduceToNat, Int.reduceLE, Int.reduceLT, Int.reduceNe, Int.reduceEq, kU]
    refine useY (hy pre a _ hOk' hT1) ?_
    rintro d T2 ⟨rfl, hT2, hK⟩
    have ui : lk T2.acc li.n = some (.xo (.it m clk (seen ++ [e.2.2]) clk)) := hK.acc _ _ hiX (by rw [lk_up_same, hi]; rfl)
    have hX2 : lk (X (pre ++ [a])).acc li.n = none := lk_dom' ((hda _).trans (hda _).symm) hiX
    have hs2 : ∀ e', e' ∈ es → (e'.2.2 ∈ seen ++ [e.2.2] ↔ ∃ v, v ∈ pre ++ [a] ∧ e'.1 = kU v) := fun e' he' => by
      constructor
      · intro h
        rcases List.mem_append.1 h with h | h
        · obtain ⟨v, h1, h2⟩ := (hs e' he').1 h
          exact ⟨v, List.mem_append_left _ h1, h2⟩
        · have : e' = e := nodup_eq hok.bn he' he (List.mem_singleton.1 h)
          rw [this]; exact ⟨a, by simp, ha⟩
      · rintro ⟨v, h1, h2⟩
        rcases List.mem_append.1 h1 with h | h
        · exact List.mem_append_left _ ((hs e' he').2 ⟨v, h, h2⟩)
        · have : e' = e := nodup_eq hok.nd he' he (by rw [h2, ha, List.mem_singleton.1 h])
          rw [this]; simp
    have hlen : (pre ++ [a]).length ≤ es.length := by
      have h1 : ((pre ++ [a]).map kU).Nodup := nodup_map_inj (fun x y h => by unfold kU at h; cases h; rfl) hOk'.1
      have h2 : ((pre ++ [a]).map kU) ⊆ es.map (·.1) := fun u hu => by
        obtain ⟨v, hv, rfl⟩ := List.mem_map.1 hu
        obtain ⟨e', he', h3⟩ := hOk'.2 v hv
        exact List.mem_map.2 ⟨e', he', h3⟩
      have := nodup_len h1 h2
      simpa using this
    simp (maxDischargeDepth := 12) (maxSteps := 1000000) -implicitDefEqProofs only [go_sem, Nat.reduceAdd, Nat.reduceSub, Nat.reduceMul, Nat.reduceLeDiff, Nat.reduceEqDiff, Nat.reduceGT, Nat.reduceBEq, reduceCtorEq, ↓reduceIte, Int.reduceToNat, Int.reduceLE, Int.reduceLT, Int.reduceNe, Int.reduceEq]
    refine ⟨(T2, pre ++ [a], seen ++ [e.2.2]), ⟨hT2, ui, hX2, hOk', hs2⟩, ?_, .refl _⟩
    show es.length - (pre ++ [a]).length < es.length - pre.length
    rw [List.length_append] at hlen ⊢
    simp only [List.length_cons, List.length_nil] at *
    omega
end Go.Proofs.Ytkibkahknibgfaa

namespace Go.Proofs.Ytkibkahknibgfaa
open Aml Go
set_option linter.unusedVariables false
set_option linter.unusedSimpArgs false
set_option maxRecDepth 100000
theorem lk_upB' (L : List (Nat × List DV)) (b c : Nat) (v : List DV) : lk (up L b v) c = if b = c then (lk L c).map (fun _ => v) else lk L c := by
  split
  · rename_i e; subst e; exact lk_up_same _ _ _
  · rename_i e; exact lk_up_ne e _ _
theorem lk_upA' (L : List (Nat × Ob)) (b c : Nat) (v : Ob) : lk (up L b v) c = if b = c then (lk L c).map (fun _ => v) else lk L c := by
  split
  · rename_i e; subst e; exact lk_up_same _ _ _
  · rename_i e; exact lk_up_ne e _ _
theorem Has_upd' {X T : St} {b : Nat} (h : Has X T) (v : List DV) : Has ⟨up X.box b v, X.acc⟩ ⟨up T.box b v, T.acc⟩ := ⟨fun c x hc => by
  simp only [lk_upB'] at hc ⊢
  split at hc
  · rename_i e
    obtain ⟨y, hy, rfl⟩ := Option.map_eq_some_iff.1 hc
    rw [h.box _ _ hy, if_pos e]; rfl
  · rename_i e
    rw [if_neg e]; exact h.box _ _ hc, h.acc⟩
theorem Has_upd2' {X T : St} {b l : Nat} (h : Has X T) (v : List DV) (o : Ob) : Has ⟨up X.box b v, up X.acc l o⟩ ⟨up T.box b v, up T.acc l o⟩ := ⟨(Has_upd' h v).box, fun c x hc => by
  simp only [lk_upA'] at hc ⊢
  split at hc
  · rename_i e
    obtain ⟨y, hy, rfl⟩ := Option.map_eq_some_iff.1 hc
    rw [h.acc _ _ hy, if_pos e]; rfl
  · rename_i e
    rw [if_neg e]; exact h.acc _ _ hc⟩
theorem Kp_up2' {X T : St} {b l : Nat} {v : List DV} {o : Ob} (hb : ¬ lk X.box b = none) (hl : ¬ lk X.acc l = none) : Kp X T ⟨up T.box b v, up T.acc l o⟩ := ⟨fun c x hc hx => by
  show lk (up T.box b v) c = some x
  rw [lk_up_ne (fun e => hb (by rw [e]; exact hc))]; exact hx, fun c x hc hx => by
  show lk (up T.acc l o) c = some x
  rw [lk_up_ne (fun e => hl (by rw [e]; exact hc))]; exact hx⟩
theorem appendSeqW (w0 : W0) {b m clk : Nat} {es : List (Value × DV × Nat)} {S : St} (hb : lk S.box b = some [.mp m]) (hm : lk S.acc m = some (.xo (.mp (.int .u64) es clk))) (hok : MapOk (.int .u64) es clk) (hlen : es.length ≤ 1048576) :
    ACall Try.prog w0 100 [.sl 0 true [], .v (.func (.func 84) #[] #[.pointer (some ⟨b, 0, none⟩)])] S (fun d S' => ∃ (V : List Int) (r : FN S.acc), FinK es V ∧ d = .acc r.n V.length ∧ S' = ⟨S.box, (r.n, .arr 1 (V.map dU)) :: S.acc⟩) := by
  refine fnP [] mx Try.func100 rfl rfl (by kernel_rfl) ?_; simp (maxDischargeDepth := 12) (maxSteps := 1000000) -implicitDefEqProofs only [Try.ntmps100, go_sem, Nat.reduceAdd, Nat.reduceSub, Nat.reduceMul, Nat.reduceLeDiff, Nat.reduceEqDiff, Nat.reduceGT, Nat.reduceBEq, reduceCtorEq, ↓reduceIte, Int.reduceToNat, Int.reduceLE, Int.reduceLT, Int.reduceNe, Int.reduceEq]
  intro s
  refine awp_growB s.n 0 1 (by omega) (ds := [.sl 0 true []]) (by simp (maxDischargeDepth := 12) (maxSteps := 1000000) -implicitDefEqProofs only [go_sem, Nat.reduceAdd, Nat.reduceSub, Nat.reduceMul, Nat.reduceLeDiff, Nat.reduceEqDiff, Nat.reduceGT, Nat.reduceBEq, reduceCtorEq, ↓reduceIte, Int.reduceToNat, Int.reduceLE, Int.reduceLT, Int.reduceNe, Int.reduceEq]) rfl fun lb => ?_
  simp (maxDischargeDepth := 12) (maxSteps := 1000000) -implicitDefEqProofs only [go_sem, Nat.reduceAdd, Nat.reduceSub, Nat.reduceMul, Nat.reduceLeDiff, Nat.reduceEqDiff, Nat.reduceGT, Nat.reduceBEq, reduceCtorEq, ↓reduceIte, Int.reduceToNat, Int.reduceLE, Int.reduceLT, Int.reduceNe, Int.reduceEq]
  refine rangeO [] (fun pre => ⟨(s.n, [.acc lb.n pre.length]) :: S.box, (lb.n, .arr 1 (pre.map dU)) :: S.acc⟩) (fun x => [dU x]) (OkK es) (FinK es) mx (by kernel_rfl) rfl rfl rfl (fun _ => rfl) (fun _ => rfl) (fun _ => rfl) ?_ ?_ ?_
  · intro l w1 hy T hT
    refine keysIter w1 l b m clk es _ (fun pre => ?_) (fun pre => ?_) (fun _ => rfl) hok hy T hT
    · have hsb : ¬ s.n = b := fun e => by have := nin_lk s.h; rw [e, hb] at this; cases this
      simp (maxDischargeDepth := 12) (maxSteps := 1000000) -implicitDefEqProofs only [go_sem, Nat.reduceAdd, Nat.reduceSub, Nat.reduceMul, Nat.reduceLeDiff, Nat.reduceEqDiff, Nat.reduceGT, Nat.reduceBEq, reduceCtorEq, ↓reduceIte, Int.reduceToNat, Int.reduceLE, Int.reduceLT, Int.reduceNe, Int.reduceEq, hsb, hb]
    · have hsb : ¬ lb.n = m := fun e => by have := nin_lk lb.h; rw [e, hm] at this; cases this
      simp (maxDischargeDepth := 12) (maxSteps := 1000000) -implicitDefEqProofs only [go_sem, Nat.reduceAdd, Nat.reduceSub, Nat.reduceMul, Nat.reduceLeDiff, Nat.reduceEqDiff, Nat.reduceGT, Nat.reduceBEq, reduceCtorEq, ↓reduceIte, Int.reduceToNat, Int.reduceLE, Int.reduceLT, Int.reduceNe, Int.reduceEq, hsb, hm]
  · intro pre x T hOk hT
    have t1 : lk T.box s.n = some [.acc lb.n pre.length] := hT.box _ _ (by simp (maxDischargeDepth := 12) (maxSteps := 1000000) -implicitDefEqProofs only [go_sem, Nat.reduceAdd, Nat.reduceSub, Nat.reduceMul, Nat.reduceLeDiff, Nat.reduceEqDiff, Nat.reduceGT, Nat.reduceBEq, reduceCtorEq, ↓reduceIte, Int.reduceToNat, Int.reduceLE, Int.reduceLT, Int.reduceNe, Int.reduceEq])
    have u1 : lk T.acc lb.n = some (.arr 1 (pre.map dU)) := hT.acc _ _ (by simp (maxDischargeDepth := 12) (maxSteps := 1000000) -implicitDefEqProofs only [go_sem, Nat.reduceAdd, Nat.reduceSub, Nat.reduceMul, Nat.reduceLeDiff, Nat.reduceEqDiff, Nat.reduceGT, Nat.reduceBEq, reduceCtorEq, ↓reduceIte, Int.reduceToNat, Int.reduceLE, Int.reduceLT, Int.reduceNe, Int.reduceEq])
    have hpl : (pre ++ [x]).length ≤ 1048576 := by
      have h1 : ((pre ++ [x]).map kU).Nodup := nodup_map_inj (fun x y h => by unfold kU at h; cases h; rfl) hOk.1
      have h2 : ((pre ++ [x]).map kU) ⊆ es.map (·.1) := fun u hu => by
        obtain ⟨v, hv, rfl⟩ := List.mem_map.1 hu
        obtain ⟨e', he', h3⟩ := hOk.2 v hv
        exact List.mem_map.2 ⟨e', he', h3⟩
      have := nodup_len h1 h2
      simp only [List.length_map] at this
      omega
    rw [List.length_append] at hpl
    simp only [List.length_cons, List.length_nil] at hpl
    have hm8 : maxLen = 9223372036854775807 := rfl
    have hu : (⟨up ((s.n, [.acc lb.n pre.length]) :: S.box) s.n [.acc lb.n (pre ++ [x]).length], up ((lb.n, .arr 1 (pre.map dU)) :: S.acc) lb.n (.arr 1 ((pre ++ [x]).map dU))⟩ : St) = ⟨(s.n, [.acc lb.n (pre ++ [x]).length]) :: S.box, (lb.n, .arr 1 ((pre ++ [x]).map dU)) :: S.acc⟩ := by simp (maxDischargeDepth := 12) (maxSteps := 1000000) -implicitDefEqProofs only [go_sem, Nat.reduceAdd, Nat.reduceSub, Nat.reduceMul, Nat.reduceLeDiff, Nat.reduceEqDiff, Nat.reduceGT, Nat.reduceBEq, reduceCtorEq, ↓reduceIte, Int.reduceToNat, Int.reduceLE, Int.reduceLT, Int.reduceNe, Int.reduceEq]
    have hH := Has_upd2' (b := s.n) (l := lb.n) hT [.acc lb.n (pre ++ [x]).length] (.arr 1 ((pre ++ [x]).map dU))
    have hK : ∀ v o, Kp ⟨(s.n, [.acc lb.n pre.length]) :: S.box, (lb.n, .arr 1 (pre.map dU)) :: S.acc⟩ T ⟨up T.box s.n v, up T.acc lb.n o⟩ := fun v o => Kp_up2' (by simp (maxDischargeDepth := 12) (maxSteps := 1000000) -implicitDefEqProofs only [go_sem, Nat.reduceAdd, Nat.reduceSub, Nat.reduceMul, Nat.reduceLeDiff, Nat.reduceEqDiff, Nat.reduceGT, Nat.reduceBEq, reduceCtorEq, ↓reduceIte, Int.reduceToNat, Int.reduceLE, Int.reduceLT, Int.reduceNe, Int.reduceEq]) (by simp (maxDischargeDepth := 12) (maxSteps := 1000000) -implicitDefEqProofs only [go_sem, Nat.reduceAdd, Nat.reduceSub, Nat.reduceMul, Nat.reduceLeDiff, Nat.reduceEqDiff, Nat.reduceGT, Nat.reduceBEq, reduceCtorEq, ↓reduceIte, Int.reduceToNat, Int.reduceLE, Int.reduceLT, Int.reduceNe, Int.reduceEq])
    simp only [setPs]
    simp (maxDischargeDepth := 12) (maxSteps := 1000000) -implicitDefEqProofs only [go_sem, Nat.reduceAdd, Nat.reduceSub, Nat.reduceMul, Nat.reduceLeDiff, Nat.reduceEqDiff, Nat.reduceGT, Nat.reduceBEq, reduceCtorEq, ↓reduceIte, Int.reduceToNat, Int.reduceLE, Int.reduceLT, Int.reduceNe, Int.reduceEq, t1, u1, hm8]
    have hmap : (pre ++ [x]).map dU = pre.map dU ++ [.v (.int .u64 x)] := by simp [dU]
    have hlen' : (pre ++ [x]).length = pre.length + 1 := by simp
    rw [hu, hmap, hlen'] at hH
    rw [hmap]
    exact ⟨by omega, by omega, hH, hK _ _⟩
  · intro V hV
    simp (maxDischargeDepth := 12) (maxSteps := 1000000) -implicitDefEqProofs only [go_sem, Nat.reduceAdd, Nat.reduceSub, Nat.reduceMul, Nat.reduceLeDiff, Nat.reduceEqDiff, Nat.reduceGT, Nat.reduceBEq, reduceCtorEq, ↓reduceIte, Int.reduceToNat, Int.reduceLE, Int.reduceLT, Int.reduceNe, Int.reduceEq]
    exact ⟨_, _, .refl _, (Sub.refl _).consB, V, lb, hV, rfl, rfl⟩
theorem collectW (w0 : W0) {b m clk : Nat} {es : List (Value × DV × Nat)} {S : St} (hb : lk S.box b = some [.mp m]) (hm : lk S.acc m = some (.xo (.mp (.int .u64) es clk))) (hok : MapOk (.int .u64) es clk) (hlen : es.length ≤ 1048576) :
    ACall Try.prog w0 82 [.v (.func (.func 84) #[] #[.pointer (some ⟨b, 0, none⟩)])] S (fun d S' => ∃ (V : List Int) (r : FN S.acc), FinK es V ∧ d = .acc r.n V.length ∧ S' = ⟨S.box, (r.n, .arr 1 (V.map dU)) :: S.acc⟩) := by
  refine fnO [] mx Try.func82 rfl rfl (by kernel_rfl) ?_; simp (maxDischargeDepth := 12) (maxSteps := 1000000) -implicitDefEqProofs only [Try.ntmps82, go_sem, Nat.reduceAdd, Nat.reduceSub, Nat.reduceMul, Nat.reduceLeDiff, Nat.reduceEqDiff, Nat.reduceGT, Nat.reduceBEq, reduceCtorEq, ↓reduceIte, Int.reduceToNat, Int.reduceLE, Int.reduceLT, Int.reduceNe, Int.reduceEq]
  refine useK (appendSeqW w0 hb hm hok hlen) ?_
  rintro _ _ ⟨V, r, hV, rfl, rfl⟩
  simp (maxDischargeDepth := 12) (maxSteps := 1000000) -implicitDefEqProofs only [go_sem, Nat.reduceAdd, Nat.reduceSub, Nat.reduceMul, Nat.reduceLeDiff, Nat.reduceEqDiff, Nat.reduceGT, Nat.reduceBEq, reduceCtorEq, ↓reduceIte, Int.reduceToNat, Int.reduceLE, Int.reduceLT, Int.reduceNe, Int.reduceEq]
  exact ⟨V, r, hV, rfl, rfl⟩
theorem bx_mp (S : St) (l : Nat) (K : DV → St → Prop) : bxK S (.mp l) K = ∀ b : FN S.box, K (.v (.pointer (some ⟨b.n, 0, none⟩))) ⟨(b.n, [.mp l]) :: S.box, S.acc⟩ := n_bx _
attribute [go_sem] bx_mp
theorem keysW (w0 : W0) {m : Nat} (S : St) : ACall Try.prog w0 58 [.mp m] S (fun d S' => ∃ b : FN S.box, d = .v (.func (.func 84) #[] #[.pointer (some ⟨b.n, 0, none⟩)]) ∧ S' = ⟨(b.n, [.mp m]) :: S.box, S.acc⟩) := by
  refine fnO [] mx Try.func58 rfl rfl (by kernel_rfl) ?_; simp (maxDischargeDepth := 12) (maxSteps := 1000000) -implicitDefEqProofs only [Try.ntmps58, go_sem, Nat.reduceAdd, Nat.reduceSub, Nat.reduceMul, Nat.reduceLeDiff, Nat.reduceEqDiff, Nat.reduceGT, Nat.reduceBEq, reduceCtorEq, ↓reduceIte, Int.reduceToNat, Int.reduceLE, Int.reduceLT, Int.reduceNe, Int.reduceEq]
  intro b
  exact ⟨b, rfl, rfl⟩
theorem sortedW (w0 : W0) {b m clk : Nat} {es : List (Value × DV × Nat)} {S : St} (hb : lk S.box b = some [.mp m]) (hm : lk S.acc m = some (.xo (.mp (.int .u64) es clk))) (hok : MapOk (.int .u64) es clk) (hlen : es.length ≤ 1048576) :
    ACall Try.prog w0 57 [.v (.func (.func 84) #[] #[.pointer (some ⟨b, 0, none⟩)])] S (fun d S' => ∃ (V : List Int) (r : FN S.acc) (d' : Array Int), FinK es V ∧ Go.Sort.PermIn 0 V.length V.toArray d' ∧ SortU 0 V.length d' ∧ d = .acc r.n V.length ∧ S' = ⟨S.box, (r.n, .arr 1 (rowA dU d')) :: S.acc⟩) := by
  refine fnO [] mx Try.func57 rfl rfl (by kernel_rfl) ?_; simp (maxDischargeDepth := 12) (maxSteps := 1000000) -implicitDefEqProofs only [Try.ntmps57, go_sem, Nat.reduceAdd, Nat.reduceSub, Nat.reduceMul, Nat.reduceLeDiff, Nat.reduceEqDiff, Nat.reduceGT, Nat.reduceBEq, reduceCtorEq, ↓reduceIte, Int.reduceToNat, Int.reduceLE, Int.reduceLT, Int.reduceNe, Int.reduceEq]
  refine useK (collectW w0 hb hm hok hlen) ?_
  rintro _ _ ⟨V, r, hV, rfl, rfl⟩
  simp (maxDischargeDepth := 12) (maxSteps := 1000000) -implicitDefEqProofs only [go_sem, Nat.reduceAdd, Nat.reduceSub, Nat.reduceMul, Nat.reduceLeDiff, Nat.reduceEqDiff, Nat.reduceGT, Nat.reduceBEq, reduceCtorEq, ↓reduceIte, Int.reduceToNat, Int.reduceLE, Int.reduceLT, Int.reduceNe, Int.reduceEq]
  have hVl : V.length ≤ es.length := by
    have h1 : (V.map kU).Nodup := nodup_map_inj (fun x y h => by unfold kU at h; cases h; rfl) hV.1.1
    have h2 : (V.map kU) ⊆ es.map (·.1) := fun u hu => by
      obtain ⟨v, hv, rfl⟩ := List.mem_map.1 hu
      obtain ⟨e', he', h3⟩ := hV.1.2 v hv
      exact List.mem_map.2 ⟨e', he', h3⟩
    have := nodup_len h1 h2
    simpa using this
  have hs := sortU w0 V.toArray (l := r.n) (S := ⟨S.box, (r.n, .arr 1 (V.map dU)) :: S.acc⟩) (by simp [lk]; rfl) (by simp; omega)
  have hst : up ((r.n, .arr 1 (V.map dU)) :: S.acc) r.n (.arr 1 (rowA dU V.toArray)) = (r.n, Ob.arr 1 (V.map dU)) :: S.acc := by
    simp (maxDischargeDepth := 12) (maxSteps := 1000000) -implicitDefEqProofs only [go_sem, Nat.reduceAdd, Nat.reduceSub, Nat.reduceMul, Nat.reduceLeDiff, Nat.reduceEqDiff, Nat.reduceGT, Nat.reduceBEq, reduceCtorEq, ↓reduceIte, Int.reduceToNat, Int.reduceLE, Int.reduceLT, Int.reduceNe, Int.reduceEq]
    simp [rowA]
  have hsz : V.toArray.size = V.length := by simp
  rw [hst, hsz] at hs
  refine .inl (useK hs ?_)
  rintro _ _ ⟨d', h1, h2, rfl, rfl⟩
  simp (maxDischargeDepth := 12) (maxSteps := 1000000) -implicitDefEqProofs only [go_sem, Nat.reduceAdd, Nat.reduceSub, Nat.reduceMul, Nat.reduceLeDiff, Nat.reduceEqDiff, Nat.reduceGT, Nat.reduceBEq, reduceCtorEq, ↓reduceIte, Int.reduceToNat, Int.reduceLE, Int.reduceLT, Int.reduceNe, Int.reduceEq]
  exact ⟨V, r, d', hV, h1, h2, rfl, rfl⟩
theorem allW (w0 : W0) {b m clk : Nat} {es : List (Value × DV × Nat)} {S : St} (hb : lk S.box b = some [.mp m]) (hm : lk S.acc m = some (.xo (.mp (.int .u64) es clk))) (hok : MapOk (.int .u64) es clk) (hlen : es.length ≤ 1048576) :
    ACall Try.prog w0 25 [.v (.pointer (some ⟨b, 0, none⟩))] S (fun d S' => ∃ (V : List Int) (r : FN S.acc) (d' : Array Int), FinK es V ∧ Go.Sort.PermIn 0 V.length V.toArray d' ∧ SortU 0 V.length d' ∧ d = .acc r.n V.length ∧ S' = ⟨S.box, (r.n, .arr 1 (rowA dU d')) :: S.acc⟩) := by
  refine fnP [] mx Try.func25 rfl rfl (by kernel_rfl) ?_; simp (maxDischargeDepth := 12) (maxSteps := 1000000) -implicitDefEqProofs only [Try.ntmps25, go_sem, Nat.reduceAdd, Nat.reduceSub, Nat.reduceMul, Nat.reduceLeDiff, Nat.reduceEqDiff, Nat.reduceGT, Nat.reduceBEq, reduceCtorEq, ↓reduceIte, Int.reduceToNat, Int.reduceLE, Int.reduceLT, Int.reduceNe, Int.reduceEq,  hb, hm]
  refine useK (keysW w0 _) ?_
  rintro _ _ ⟨c, rfl, rfl⟩
  simp (maxDischargeDepth := 12) (maxSteps := 1000000) -implicitDefEqProofs only [go_sem, Nat.reduceAdd, Nat.reduceSub, Nat.reduceMul, Nat.reduceLeDiff, Nat.reduceEqDiff, Nat.reduceGT, Nat.reduceBEq, reduceCtorEq, ↓reduceIte, Int.reduceToNat, Int.reduceLE, Int.reduceLT, Int.reduceNe, Int.reduceEq]
  refine useK (sortedW w0 (b := c.n) (m := m) (clk := clk) (es := es) (S := ⟨(c.n, [.mp m]) :: S.box, S.acc⟩) (by simp [lk]) hm hok hlen) ?_
  rintro _ _ ⟨V, r, d', hV, h1, h2, rfl, rfl⟩
  simp (maxDischargeDepth := 12) (maxSteps := 1000000) -implicitDefEqProofs only [go_sem, Nat.reduceAdd, Nat.reduceSub, Nat.reduceMul, Nat.reduceLeDiff, Nat.reduceEqDiff, Nat.reduceGT, Nat.reduceBEq, reduceCtorEq, ↓reduceIte, Int.reduceToNat, Int.reduceLE, Int.reduceLT, Int.reduceNe, Int.reduceEq]
  exact ⟨_, _, .refl _, (Sub.refl _).consB, V, r, d', hV, h1, h2, rfl, rfl⟩
theorem oldestW (w0 : W0) {b m clk : Nat} {es : List (Value × DV × Nat)} {S : St} (hb : lk S.box b = some [.mp m]) (hm : lk S.acc m = some (.xo (.mp (.int .u64) es clk))) (hok : MapOk (.int .u64) es clk) (hlen : es.length ≤ 1048576) :
    ACall Try.prog w0 20 [.v (.pointer (some ⟨b, 0, none⟩))] S (fun d S' => ∃ (V : List Int) (d' : Array Int), FinK es V ∧ Go.Sort.PermIn 0 V.length V.toArray d' ∧ SortU 0 V.length d' ∧ d = (if V.length = 0 then .tup [dU 0, dB false] else .tup [dU d'[0]!, dB true]) ∧ S' = S) := by
  refine fnP [] mx Try.func20 rfl rfl (by kernel_rfl) ?_; simp (maxDischargeDepth := 12) (maxSteps := 1000000) -implicitDefEqProofs only [Try.ntmps20, go_sem, Nat.reduceAdd, Nat.reduceSub, Nat.reduceMul, Nat.reduceLeDiff, Nat.reduceEqDiff, Nat.reduceGT, Nat.reduceBEq, reduceCtorEq, ↓reduceIte, Int.reduceToNat, Int.reduceLE, Int.reduceLT, Int.reduceNe, Int.reduceEq,  hb, hm]
  refine useK (allW w0 hb hm hok hlen) ?_
  rintro _ _ ⟨V, r, d', hV, h1, h2, rfl, rfl⟩
  have hsz : d'.size = V.length := by rw [h1.1]; simp
  simp (maxDischargeDepth := 12) (maxSteps := 1000000) -implicitDefEqProofs only [go_sem, Nat.reduceAdd, Nat.reduceSub, Nat.reduceMul, Nat.reduceLeDiff, Nat.reduceEqDiff, Nat.reduceGT, Nat.reduceBEq, reduceCtorEq, ↓reduceIte, Int.reduceToNat, Int.reduceLE, Int.reduceLT, Int.reduceNe, Int.reduceEq, hsz]
  have sub : Aml.Sub S ⟨S.box, (r.n, .arr 1 (rowA dU d')) :: S.acc⟩ := (Sub.refl S).consA
  exact ⟨fun h => ⟨h, by omega, _, _, .refl _, sub, V, d', hV, h1, h2, by rw [if_neg (by omega)], rfl⟩, fun h => ⟨_, _, .refl _, sub, V, d', hV, h1, h2, by rw [if_pos (by omega)], rfl⟩⟩
end Go.Proofs.Ytkibkahknibgfaa

namespace Go.Proofs.Ytkibkahknibgfaa
open Aml Go
set_option linter.unusedVariables false
set_option linter.unusedSimpArgs false
set_option maxRecDepth 100000
theorem pinN (w0 : W0) (v : Int) (S : St) : ACall Try.prog w0 16 [.v (.pointer none), dU v] S (fun d S' => d = .tup [] ∧ S' = S) := by
  refine fnS [] mx Try.func16 rfl rfl (by kernel_rfl) ?_; simp (maxDischargeDepth := 12) (maxSteps := 1000000) -implicitDefEqProofs only [Try.ntmps16, go_sem, Nat.reduceAdd, Nat.reduceSub, Nat.reduceMul, Nat.reduceLeDiff, Nat.reduceEqDiff, Nat.reduceGT, Nat.reduceBEq, reduceCtorEq, ↓reduceIte, Int.reduceToNat, Int.reduceLE, Int.reduceLT, Int.reduceNe, Int.reduceEq]
theorem heldN (w0 : W0) (v : Int) (S : St) : ACall Try.prog w0 22 [.v (.pointer none), dU v] S (fun d S' => d = dI 0 ∧ S' = S) := by
  refine fnS [] mx Try.func22 rfl rfl (by kernel_rfl) ?_; simp (maxDischargeDepth := 12) (maxSteps := 1000000) -implicitDefEqProofs only [Try.ntmps22, go_sem, Nat.reduceAdd, Nat.reduceSub, Nat.reduceMul, Nat.reduceLeDiff, Nat.reduceEqDiff, Nat.reduceGT, Nat.reduceBEq, reduceCtorEq, ↓reduceIte, Int.reduceToNat, Int.reduceLE, Int.reduceLT, Int.reduceNe, Int.reduceEq]
theorem unpinN (w0 : W0) (v : Int) (S : St) : ACall Try.prog w0 19 [.v (.pointer none), dU v] S (fun d S' => d = dB false ∧ S' = S) := by
  refine fnS [] mx Try.func19 rfl rfl (by kernel_rfl) ?_; simp (maxDischargeDepth := 12) (maxSteps := 1000000) -implicitDefEqProofs only [Try.ntmps19, go_sem, Nat.reduceAdd, Nat.reduceSub, Nat.reduceMul, Nat.reduceLeDiff, Nat.reduceEqDiff, Nat.reduceGT, Nat.reduceBEq, reduceCtorEq, ↓reduceIte, Int.reduceToNat, Int.reduceLE, Int.reduceLT, Int.reduceNe, Int.reduceEq]
  refine use1 (heldN w0 v _) ?_ (by simp (maxDischargeDepth := 12) (maxSteps := 1000000) -implicitDefEqProofs only [go_sem, Nat.reduceAdd, Nat.reduceSub, Nat.reduceMul, Nat.reduceLeDiff, Nat.reduceEqDiff, Nat.reduceGT, Nat.reduceBEq, reduceCtorEq, ↓reduceIte, Int.reduceToNat, Int.reduceLE, Int.reduceLT, Int.reduceNe, Int.reduceEq])
  simp (maxDischargeDepth := 12) (maxSteps := 1000000) -implicitDefEqProofs only [go_sem, Nat.reduceAdd, Nat.reduceSub, Nat.reduceMul, Nat.reduceLeDiff, Nat.reduceEqDiff, Nat.reduceGT, Nat.reduceBEq, reduceCtorEq, ↓reduceIte, Int.reduceToNat, Int.reduceLE, Int.reduceLT, Int.reduceNe, Int.reduceEq]
theorem allN (w0 : W0) (S : St) : ACall Try.prog w0 25 [.v (.pointer none)] S (fun d S' => d = .sl 0 true [] ∧ S' = S) := by
  refine fnS [] mx Try.func25 rfl rfl (by kernel_rfl) ?_; simp (maxDischargeDepth := 12) (maxSteps := 1000000) -implicitDefEqProofs only [Try.ntmps25, go_sem, Nat.reduceAdd, Nat.reduceSub, Nat.reduceMul, Nat.reduceLeDiff, Nat.reduceEqDiff, Nat.reduceGT, Nat.reduceBEq, reduceCtorEq, ↓reduceIte, Int.reduceToNat, Int.reduceLE, Int.reduceLT, Int.reduceNe, Int.reduceEq]
theorem oldestN (w0 : W0) (S : St) : ACall Try.prog w0 20 [.v (.pointer none)] S (fun d S' => d = .tup [dU 0, dB false] ∧ S' = S) := by
  refine fnS [] mx Try.func20 rfl rfl (by kernel_rfl) ?_; simp (maxDischargeDepth := 12) (maxSteps := 1000000) -implicitDefEqProofs only [Try.ntmps20, go_sem, Nat.reduceAdd, Nat.reduceSub, Nat.reduceMul, Nat.reduceLeDiff, Nat.reduceEqDiff, Nat.reduceGT, Nat.reduceBEq, reduceCtorEq, ↓reduceIte, Int.reduceToNat, Int.reduceLE, Int.reduceLT, Int.reduceNe, Int.reduceEq]
  refine use1 (allN w0 _) ?_ (by simp (maxDischargeDepth := 12) (maxSteps := 1000000) -implicitDefEqProofs only [go_sem, Nat.reduceAdd, Nat.reduceSub, Nat.reduceMul, Nat.reduceLeDiff, Nat.reduceEqDiff, Nat.reduceGT, Nat.reduceBEq, reduceCtorEq, ↓reduceIte, Int.reduceToNat, Int.reduceLE, Int.reduceLT, Int.reduceNe, Int.reduceEq])
  simp (maxDischargeDepth := 12) (maxSteps := 1000000) -implicitDefEqProofs only [go_sem, Nat.reduceAdd, Nat.reduceSub, Nat.reduceMul, Nat.reduceLeDiff, Nat.reduceEqDiff, Nat.reduceGT, Nat.reduceBEq, reduceCtorEq, ↓reduceIte, Int.reduceToNat, Int.reduceLE, Int.reduceLT, Int.reduceNe, Int.reduceEq]
  exact fun h => absurd h (by decide)
@[go_sem] def uL (w : List Int) : DV := .sl 1 false (w.map dU)
theorem refHeldW (w0 : W0) (w : List Int) (v : Int) (S : St) (hw : w.length ≤ 1048576) : ACall Try.prog w0 23 [uL w, dU v] S (fun d S' => d = dI (w.count v : Nat) ∧ S' = S) := by
  refine fnS [] mx Try.func23 rfl rfl (by kernel_rfl) ?_; simp (maxDischargeDepth := 12) (maxSteps := 1000000) -implicitDefEqProofs only [Try.ntmps23, go_sem, Nat.reduceAdd, Nat.reduceSub, Nat.reduceMul, Nat.reduceLeDiff, Nat.reduceEqDiff, Nat.reduceGT, Nat.reduceBEq, reduceCtorEq, ↓reduceIte, Int.reduceToNat, Int.reduceLE, Int.reduceLT, Int.reduceNe, Int.reduceEq]
  refine loopN [] w.length [0, 1, 5, 6] (fun k => [(5, dI ((w.take k).count v : Nat)), (6, dI k)]) (fun _ => S) (fun _ => True) mx (by kernel_rfl) ?_ ?_
  · simp (maxDischargeDepth := 12) (maxSteps := 1000000) -implicitDefEqProofs only [go_sem, Nat.reduceAdd, Nat.reduceSub, Nat.reduceMul, Nat.reduceLeDiff, Nat.reduceEqDiff, Nat.reduceGT, Nat.reduceBEq, reduceCtorEq, ↓reduceIte, Int.reduceToNat, Int.reduceLE, Int.reduceLT, Int.reduceNe, Int.reduceEq]
    rfl
  · intro k hk _
    simp (maxDischargeDepth := 12) (maxSteps := 1000000) -implicitDefEqProofs only [go_sem, Nat.reduceAdd, Nat.reduceSub, Nat.reduceMul, Nat.reduceLeDiff, Nat.reduceEqDiff, Nat.reduceGT, Nat.reduceBEq, reduceCtorEq, ↓reduceIte, Int.reduceToNat, Int.reduceLE, Int.reduceLT, Int.reduceNe, Int.reduceEq]
    have hle : (w.take k).count v ≤ 1048576 := Nat.le_trans List.count_le_length (by rw [List.length_take]; omega)
    refine ⟨fun hlt => ⟨hlt, fun a ha => ?_⟩, fun hge => by rw [List.take_of_length_le (by omega)]⟩
    have hc : (w.take (k + 1)).count v = (w.take k).count v + if a = v then 1 else 0 := by
      rw [List.take_add_one, ha, List.count_append]
      by_cases h : a = v
      · subst h; simp
      · simp [h]
    have e1 := fun (i : Nat) (h : i ≤ 1048576) => show IntKind.i64.wrap ((i : Int) + 1) = ((i + 1 : Nat) : Int) from i_one i (by omega)
    refine ⟨fun h => ⟨hlt, ?_, e1 k (by omega)⟩, fun h => ⟨hlt, ?_, e1 k (by omega)⟩⟩
    · rw [hc, if_pos h]; exact e1 _ hle
    · rw [hc, if_neg h]; rfl
theorem refOldestW (w0 : W0) (w : List Int) (S : St) (hw : w.length ≤ 1048576) : ACall Try.prog w0 21 [uL w] S (fun d S' => d = .tup (match w with | [] => [dU 0, dB false] | a :: _ => [dU a, dB true]) ∧ S' = S) := by
  cases w with
  | nil => refine fnS [] mx Try.func21 rfl rfl (by kernel_rfl) ?_; simp (maxDischargeDepth := 12) (maxSteps := 1000000) -implicitDefEqProofs only [Try.ntmps21, go_sem, Nat.reduceAdd, Nat.reduceSub, Nat.reduceMul, Nat.reduceLeDiff, Nat.reduceEqDiff, Nat.reduceGT, Nat.reduceBEq, reduceCtorEq, ↓reduceIte, Int.reduceToNat, Int.reduceLE, Int.reduceLT, Int.reduceNe, Int.reduceEq]
  | cons a t =>
    refine fnS [] mx Try.func21 rfl rfl (by kernel_rfl) ?_; simp (maxDischargeDepth := 12) (maxSteps := 1000000) -implicitDefEqProofs only [Try.ntmps21, go_sem, Nat.reduceAdd, Nat.reduceSub, Nat.reduceMul, Nat.reduceLeDiff, Nat.reduceEqDiff, Nat.reduceGT, Nat.reduceBEq, reduceCtorEq, ↓reduceIte, Int.reduceToNat, Int.reduceLE, Int.reduceLT, Int.reduceNe, Int.reduceEq]
    exact ⟨fun h => absurd h (by omega), fun _ => by omega⟩
theorem takeP_lt {α : Type} {p : α → Bool} : ∀ {l : List α} {k : Nat} {c : α}, k < (l.takeWhile p).length → l[k]? = some c → p c = true
  | [], _, _, h, _ => by simp at h
  | a :: l, k, c, h, hc => by
    rw [List.takeWhile_cons] at h
    cases hp : p a with
    | false => rw [hp] at h; simp at h
    | true =>
      rw [hp] at h
      simp only [if_true, List.length_cons] at h
      cases k with
      | zero => simp at hc; rw [← hc]; exact hp
      | succ k => exact takeP_lt (p := p) (l := l) (k := k) (by omega) (by simpa using hc)
theorem takeP_at {α : Type} {p : α → Bool} : ∀ {l : List α} {c : α}, l[(l.takeWhile p).length]? = some c → p c = false
  | [], _, h => by simp at h
  | a :: l, c, h => by
    rw [List.takeWhile_cons] at h
    cases hp : p a with
    | false => rw [hp] at h; simp at h; rw [← h]; exact hp
    | true => rw [hp] at h; simp only [if_true, List.length_cons, List.getElem?_cons_succ] at h; exact takeP_at h
def atP (w : List Int) (v : Int) : Nat := (w.takeWhile fun x => decide (x ≤ v)).length
def pinP (w : List Int) (v : Int) : List Int := w.take (atP w v) ++ [v] ++ w.drop (atP w v)
theorem refPinW (w0 : W0) (w : List Int) (v : Int) (S : St) (hw : w.length ≤ 1048576) : ACall Try.prog w0 17 [uL w, dU v] S (fun d S' => d = uL (pinP w v) ∧ S' = S) := by
  refine fnS [] mx Try.func17 rfl rfl (by kernel_rfl) ?_; simp (maxDischargeDepth := 12) (maxSteps := 1000000) -implicitDefEqProofs only [Try.ntmps17, go_sem, Nat.reduceAdd, Nat.reduceSub, Nat.reduceMul, Nat.reduceLeDiff, Nat.reduceEqDiff, Nat.reduceGT, Nat.reduceBEq, reduceCtorEq, ↓reduceIte, Int.reduceToNat, Int.reduceLE, Int.reduceLT, Int.reduceNe, Int.reduceEq]
  refine loopN [] (atP w v) [0, 1, 5, 6] (fun k => [(6, dI k)]) (fun _ => S) (fun _ => True) mx (by kernel_rfl) ?_ ?_
  · simp (maxDischargeDepth := 12) (maxSteps := 1000000) -implicitDefEqProofs only [go_sem, Nat.reduceAdd, Nat.reduceSub, Nat.reduceMul, Nat.reduceLeDiff, Nat.reduceEqDiff, Nat.reduceGT, Nat.reduceBEq, reduceCtorEq, ↓reduceIte, Int.reduceToNat, Int.reduceLE, Int.reduceLT, Int.reduceNe, Int.reduceEq]
  · intro k hk _
    simp (maxDischargeDepth := 12) (maxSteps := 1000000) -implicitDefEqProofs only [go_sem, Nat.reduceAdd, Nat.reduceSub, Nat.reduceMul, Nat.reduceLeDiff, Nat.reduceEqDiff, Nat.reduceGT, Nat.reduceBEq, reduceCtorEq, ↓reduceIte, Int.reduceToNat, Int.reduceLE, Int.reduceLT, Int.reduceNe, Int.reduceEq]
    have hat : atP w v ≤ w.length := (List.takeWhile_sublist _).length_le
    have hm8 : maxLen = 9223372036854775807 := rfl
    have fin : k = atP w v → k ≤ w.length ∧ min k w.length * 8 ≤ 140737488355328 ∧ min k w.length ≤ maxLen ∧ ∀ (b : FN S.acc), (min k w.length + 1) * 8 ≤ 140737488355328 ∧ min k w.length + 1 ≤ maxLen ∧ k ≤ w.length ∧ (min k w.length + 1 + (w.length - k)) * 8 ≤ 140737488355328 ∧ min k w.length + 1 + (w.length - k) ≤ maxLen ∧ Wk (.sl 1 false (List.map dU (w.take k) ++ [.v (.int .u64 v)] ++ List.map dU (w.drop k))) (.sl 1 false (List.map dU (pinP w v))) := fun e => by
      refine ⟨by omega, by omega, by omega, fun b => ⟨by omega, by omega, by omega, by omega, by omega, ?_⟩⟩
      have : List.map dU (pinP w v) = List.map dU (w.take k) ++ [.v (.int .u64 v)] ++ List.map dU (w.drop k) := by rw [e]; simp [pinP, dU]
      rw [this]; exact .refl _
    refine ⟨fun hlt => ⟨hlt, fun a ha => ⟨fun hy => ?_, fun hn => ?_⟩⟩, fun hge => fin (by omega)⟩
    · have hne : k ≠ atP w v := by
        rintro rfl
        have := takeP_at (p := fun x : Int => decide (x ≤ v)) ha
        simp [hy] at this
      exact ⟨by omega, i_one k (by omega)⟩
    · refine fin ?_
      rcases Nat.lt_or_ge k (atP w v) with h | h
      · have := takeP_lt (p := fun x : Int => decide (x ≤ v)) h ha
        simp [hn] at this
      · omega
def unP (w : List Int) (v : Int) : List Int × Bool := if (w.takeWhile fun x => decide (x ≠ v)).length < w.length then (w.take (w.takeWhile fun x => decide (x ≠ v)).length ++ w.drop ((w.takeWhile fun x => decide (x ≠ v)).length + 1), true) else (w, false)
theorem refUnpinW (w0 : W0) (w : List Int) (v : Int) (S : St) (hw : w.length ≤ 1048576) : ACall Try.prog w0 18 [uL w, dU v] S (fun d S' => d = .tup [uL (unP w v).1, dB (unP w v).2] ∧ S' = S) := by
  have hat : (w.takeWhile fun x => decide (x ≠ v)).length ≤ w.length := (List.takeWhile_sublist _).length_le
  refine fnS [] mx Try.func18 rfl rfl (by kernel_rfl) ?_; simp (maxDischargeDepth := 12) (maxSteps := 1000000) -implicitDefEqProofs only [Try.ntmps18, go_sem, Nat.reduceAdd, Nat.reduceSub, Nat.reduceMul, Nat.reduceLeDiff, Nat.reduceEqDiff, Nat.reduceGT, Nat.reduceBEq, reduceCtorEq, ↓reduceIte, Int.reduceToNat, Int.reduceLE, Int.reduceLT, Int.reduceNe, Int.reduceEq]
  refine loopN [] (w.takeWhile fun x => decide (x ≠ v)).length [0, 1, 6] (fun k => [(6, dI k)]) (fun _ => S) (fun _ => True) mx (by kernel_rfl) ?_ ?_
  · simp (maxDischargeDepth := 12) (maxSteps := 1000000) -implicitDefEqProofs only [go_sem, Nat.reduceAdd, Nat.reduceSub, Nat.reduceMul, Nat.reduceLeDiff, Nat.reduceEqDiff, Nat.reduceGT, Nat.reduceBEq, reduceCtorEq, ↓reduceIte, Int.reduceToNat, Int.reduceLE, Int.reduceLT, Int.reduceNe, Int.reduceEq]
  · intro k hk _
    have e1 : k < w.length → IntKind.i64.wrap ((k : Int) + 1) = ((k + 1 : Nat) : Int) := fun h => i_one k (by omega)
    have hm8 : maxLen = 9223372036854775807 := rfl
    simp (maxDischargeDepth := 12) (maxSteps := 1000000) -implicitDefEqProofs only [go_sem, Nat.reduceAdd, Nat.reduceSub, Nat.reduceMul, Nat.reduceLeDiff, Nat.reduceEqDiff, Nat.reduceGT, Nat.reduceBEq, reduceCtorEq, ↓reduceIte, Int.reduceToNat, Int.reduceLE, Int.reduceLT, Int.reduceNe, Int.reduceEq]
    refine ⟨fun hlt => ⟨hlt, fun a ha => ⟨fun hy => ?_, fun hn => ?_⟩⟩, fun hge => ?_⟩
    · have hk2 : k = (w.takeWhile fun x => decide (x ≠ v)).length := by
        rcases Nat.lt_or_ge k (w.takeWhile fun x => decide (x ≠ v)).length with h | h
        · have := takeP_lt (p := fun x : Int => decide (x ≠ v)) h ha
          simp [hy] at this
        · omega
      rw [e1 hlt]
      refine ⟨by omega, by omega, by omega, fun b => ⟨by omega, by omega, ?_, ?_, ?_⟩⟩
      · rw [Int.toNat_natCast]; omega
      · rw [Int.toNat_natCast]; omega
      · rw [Int.toNat_natCast]
        have : unP w v = (w.take k ++ w.drop (k + 1), true) := by unfold unP; rw [← hk2, if_pos hlt]
        rw [this]; exact .refl _
    · have hne : k ≠ (w.takeWhile fun x => decide (x ≠ v)).length := by
        rintro rfl
        have := takeP_at (p := fun x : Int => decide (x ≠ v)) ha
        simp [hn] at this
      refine ⟨?_, e1 hlt⟩
      have h2 : k < (w.takeWhile fun x => decide (x ≠ v)).length := by omega
      exact h2
    · have : unP w v = (w, false) := by unfold unP; rw [if_neg (by omega)]
      rw [this]; exact .refl _
end Go.Proofs.Ytkibkahknibgfaa

namespace Go.Proofs.Ytkibkahknibgfaa
open Aml Go
set_option linter.unusedVariables false
set_option linter.unusedSimpArgs false
set_option maxRecDepth 100000
theorem refSameW (w0 : W0) (a b : List Int) (S : St) (ha : a.length ≤ 1048576) : ACall Try.prog w0 24 [uL a, uL b] S (fun d S' => d = dB (decide (a = b)) ∧ S' = S) := by
  refine fnS [] mx Try.func24 rfl rfl (by kernel_rfl) ?_; simp (maxDischargeDepth := 12) (maxSteps := 1000000) -implicitDefEqProofs only [Try.ntmps24, go_sem, Nat.reduceAdd, Nat.reduceSub, Nat.reduceMul, Nat.reduceLeDiff, Nat.reduceEqDiff, Nat.reduceGT, Nat.reduceBEq, reduceCtorEq, ↓reduceIte, Int.reduceToNat, Int.reduceLE, Int.reduceLT, Int.reduceNe, Int.reduceEq]
  refine ⟨fun h => ?_, fun h => ?_⟩
  · rintro rfl; exact absurd rfl h
  · refine loopN [] a.length [0, 1, 5] (fun k => [(5, dI k)]) (fun _ => S) (fun k => a.take k = b.take k) mx (by kernel_rfl) ?_ ?_
    · simp (maxDischargeDepth := 12) (maxSteps := 1000000) -implicitDefEqProofs only [go_sem, Nat.reduceAdd, Nat.reduceSub, Nat.reduceMul, Nat.reduceLeDiff, Nat.reduceEqDiff, Nat.reduceGT, Nat.reduceBEq, reduceCtorEq, ↓reduceIte, Int.reduceToNat, Int.reduceLE, Int.reduceLT, Int.reduceNe, Int.reduceEq]
    · intro k hk hp
      simp (maxDischargeDepth := 12) (maxSteps := 1000000) -implicitDefEqProofs only [go_sem, Nat.reduceAdd, Nat.reduceSub, Nat.reduceMul, Nat.reduceLeDiff, Nat.reduceEqDiff, Nat.reduceGT, Nat.reduceBEq, reduceCtorEq, ↓reduceIte, Int.reduceToNat, Int.reduceLE, Int.reduceLT, Int.reduceNe, Int.reduceEq]
      have hl : a.length = b.length := by omega
      refine ⟨fun hlt => ⟨hlt, fun x hx => ⟨by omega, fun y hy => ⟨fun hn e => ?_, fun hn => ⟨hlt, ?_, i_one k (by omega)⟩⟩⟩⟩, fun hge => ?_⟩
      · rw [e, hy] at hx; cases hx; exact hn rfl
      · rw [List.take_add_one, List.take_add_one, hp, hx, hy]
        have : x = y := by omega
        rw [this]
      · rw [List.take_of_length_le (by omega), List.take_of_length_le (by omega)] at hp; exact hp
/-- Each that isn't the one ahead of it, of the first k. -/
def ddK (w : List Int) : Nat → List Int
  | 0 => []
  | k + 1 => ddK w k ++ (if k = 0 ∨ w[k]? ≠ w[k - 1]? then w[k]?.toList else [])
theorem ddK_len (w : List Int) : ∀ k, (ddK w k).length ≤ k
  | 0 => Nat.le_refl _
  | k + 1 => by
    have := ddK_len w k
    simp only [ddK, List.length_append]
    split
    · cases w[k]? <;> simp <;> omega
    · simp; omega
theorem refAllW (w0 : W0) (w : List Int) (S : St) (hw : w.length ≤ 1048576) : ACall Try.prog w0 26 [uL w] S (fun d S' => d = uL (ddK w w.length) ∧ S' = S) := by
  refine fnS [] mx Try.func26 rfl rfl (by kernel_rfl) ?_; simp (maxDischargeDepth := 12) (maxSteps := 1000000) -implicitDefEqProofs only [Try.ntmps26, go_sem, Nat.reduceAdd, Nat.reduceSub, Nat.reduceMul, Nat.reduceLeDiff, Nat.reduceEqDiff, Nat.reduceGT, Nat.reduceBEq, reduceCtorEq, ↓reduceIte, Int.reduceToNat, Int.reduceLE, Int.reduceLT, Int.reduceNe, Int.reduceEq]
  refine growK 3 1 rfl (by decide) fun l => ?_
  simp (maxDischargeDepth := 12) (maxSteps := 1000000) -implicitDefEqProofs only [go_sem, Nat.reduceAdd, Nat.reduceSub, Nat.reduceMul, Nat.reduceLeDiff, Nat.reduceEqDiff, Nat.reduceGT, Nat.reduceBEq, reduceCtorEq, ↓reduceIte, Int.reduceToNat, Int.reduceLE, Int.reduceLT, Int.reduceNe, Int.reduceEq]
  refine loopN [] w.length [0, 3, 4] (fun k => [(3, .acc l.n (ddK w k).length), (4, dI k)]) (fun k => ⟨S.box, (l.n, .arr 1 ((ddK w k).map dU)) :: S.acc⟩) (fun _ => True) mx (by kernel_rfl) ?_ ?_
  · simp (maxDischargeDepth := 12) (maxSteps := 1000000) -implicitDefEqProofs only [go_sem, Nat.reduceAdd, Nat.reduceSub, Nat.reduceMul, Nat.reduceLeDiff, Nat.reduceEqDiff, Nat.reduceGT, Nat.reduceBEq, reduceCtorEq, ↓reduceIte, Int.reduceToNat, Int.reduceLE, Int.reduceLT, Int.reduceNe, Int.reduceEq]
    exact ⟨.refl _, .refl _⟩
  · intro k hk _
    have hl := ddK_len w k
    have hm8 : maxLen = 9223372036854775807 := rfl
    cases k with
    | zero =>
      simp (maxDischargeDepth := 12) (maxSteps := 1000000) -implicitDefEqProofs only [go_sem, Nat.reduceAdd, Nat.reduceSub, Nat.reduceMul, Nat.reduceLeDiff, Nat.reduceEqDiff, Nat.reduceGT, Nat.reduceBEq, reduceCtorEq, ↓reduceIte, Int.reduceToNat, Int.reduceLE, Int.reduceLT, Int.reduceNe, Int.reduceEq]
      refine ⟨fun h => ⟨h, fun a ha => ⟨by simp [ddK], by simp [ddK]; omega, by omega, ?_⟩⟩, fun h => ?_⟩
      · have e : ddK w 1 = [a] := by simp [ddK, ha]
        rw [e]
        exact ⟨⟨.refl _, by decide⟩, .refl _⟩
      · have : w.length = 0 := by omega
        rw [this]; exact .refl _
    | succ k =>
      have e1 := i_pre k (by omega)
      have e2 := i_one (k + 1) (by omega)
      have hne : ¬ ((k + 1 : Nat) : Int) = 0 := by omega
      simp (maxDischargeDepth := 12) (maxSteps := 1000000) -implicitDefEqProofs only [go_sem, Nat.reduceAdd, Nat.reduceSub, Nat.reduceMul, Nat.reduceLeDiff, Nat.reduceEqDiff, Nat.reduceGT, Nat.reduceBEq, reduceCtorEq, ↓reduceIte, Int.reduceToNat, Int.reduceLE, Int.reduceLT, Int.reduceNe, Int.reduceEq, e1]
      refine ⟨fun hlt => ⟨fun h => absurd h hne, fun _ => ⟨hlt, fun a ha => ⟨by omega, fun b hb => ⟨fun hn => ⟨hlt, fun a' ha' => ⟨by omega, by omega, hlt, ?_⟩⟩, fun hn => ⟨hlt, ?_⟩⟩⟩⟩⟩, fun hge => ?_⟩
      · rw [ha] at ha'; cases ha'
        have e : ddK w (k + 1 + 1) = ddK w (k + 1) ++ [a] := by
          show ddK w (k + 1) ++ (if k + 1 = 0 ∨ w[k + 1]? ≠ w[k + 1 - 1]? then _ else _) = _
          rw [if_pos (.inr (by rw [Nat.add_sub_cancel, ha, hb]; intro h; cases h; exact hn rfl)), ha]; rfl
        rw [e]
        refine ⟨⟨?_, e2⟩, ?_⟩
        · rw [List.length_append]; exact .refl _
        · rw [List.map_append]; exact .refl _
      · have e : ddK w (k + 1 + 1) = ddK w (k + 1) := by
          show ddK w (k + 1) ++ (if k + 1 = 0 ∨ w[k + 1]? ≠ w[k + 1 - 1]? then _ else _) = _
          have : a = b := by omega
          rw [if_neg (by rw [Nat.add_sub_cancel, ha, hb, this]; simp), List.append_nil]
        rw [e]
        exact ⟨⟨.refl _, e2⟩, .refl _⟩
      · have : w.length = k + 1 := by omega
        rw [this]; exact .refl _
end Go.Proofs.Ytkibkahknibgfaa

namespace Go.Proofs.Ytkibkahknibgfaa
open Aml Go
set_option linter.unusedVariables false
set_option linter.unusedSimpArgs false
/-- The map and the list hold the same, each as often. -/
def Inv (es : List (Value × DV × Nat)) (w : List Int) : Prop := ∀ v, At es v (w.count v)
theorem pinP_count (w : List Int) (v x : Int) : (pinP w v).count x = w.count x + if v = x then 1 else 0 := by
  unfold pinP
  have h : w.count x = (w.take (atP w v)).count x + (w.drop (atP w v)).count x := by rw [← List.count_append, List.take_append_drop]
  rw [List.count_append, List.count_append, h]
  by_cases e : v = x
  · subst e; simp; omega
  · simp [e]
theorem inv_nil : Inv [] [] := fun v => by simp [At, mGet]
theorem inv_pin {es : List (Value × DV × Nat)} {w : List Int} (h : Inv es w) (clk : Nat) (v : Int) : Inv (mSet es clk (.int .u64 v) (dI (w.count v + 1 : Nat))) (pinP w v) := fun x => by
  unfold At
  rw [pinP_count]
  by_cases e : v = x
  · subst e
    rw [mGet_set_same, if_pos rfl, if_neg (by omega)]
  · rw [mGet_set_ne _ _ (fun q => by cases q; exact e rfl), if_neg e, Nat.add_zero]
    exact h x
theorem unP_spec : ∀ (w : List Int) (v : Int), unP w v = if v ∈ w then (w.erase v, true) else (w, false)
  | [], v => by simp [unP]
  | a :: t, v => by
    have ih := unP_spec t v
    unfold unP at ih ⊢
    by_cases e : a = v
    · subst e; simp
    · have h1 : (List.takeWhile (fun x => decide (x ≠ v)) (a :: t)) = a :: List.takeWhile (fun x => decide (x ≠ v)) t := by simp [List.takeWhile_cons, e]
      rw [h1]
      simp only [List.length_cons, Nat.add_lt_add_iff_right, List.take_succ_cons, List.drop_succ_cons, List.cons_append]
      have hm : v ∈ a :: t ↔ v ∈ t := by simp [Ne.symm e]
      have he : (a :: t).erase v = a :: t.erase v := by rw [List.erase_cons, if_neg (by simpa using e)]
      by_cases hv : v ∈ t
      · rw [if_pos hv] at ih
        rw [if_pos (hm.2 hv), he]
        split at ih
        · rename_i hl
          rw [if_pos hl]
          have := congrArg Prod.fst ih
          simp only at this
          rw [this]
        · rename_i hl; exact absurd (congrArg Prod.snd ih) (by simp)
      · rw [if_neg hv] at ih
        rw [if_neg (fun h => hv (hm.1 h))]
        split at ih
        · exact absurd (congrArg Prod.snd ih) (by simp)
        · rename_i hl; rw [if_neg hl]
theorem inv_unpin1 {es : List (Value × DV × Nat)} {w : List Int} (h : Inv es w) (clk : Nat) {v : Int} (hc : w.count v = 1) : Inv (mDel (mSet es clk (.int .u64 v) (dI 0)) (.int .u64 v)) (w.erase v) := fun x => by
  unfold At
  by_cases e : v = x
  · subst e
    rw [mGet_del_same, List.count_erase_self, hc]; rfl
  · rw [mGet_del_ne _ (fun q => by cases q; exact e rfl), mGet_set_ne _ _ (fun q => by cases q; exact e rfl), List.count_erase_of_ne (fun q => e q.symm)]
    exact h x
theorem inv_unpin2 {es : List (Value × DV × Nat)} {w : List Int} (h : Inv es w) (clk : Nat) {v : Int} (hc : 1 < w.count v) : Inv (mSet es clk (.int .u64 v) (dI (w.count v - 1 : Nat))) (w.erase v) := fun x => by
  unfold At
  by_cases e : v = x
  · subst e
    rw [mGet_set_same, List.count_erase_self, if_neg (by omega)]
  · rw [mGet_set_ne _ _ (fun q => by cases q; exact e rfl), List.count_erase_of_ne (fun q => e q.symm)]
    exact h x
/-- Two lists that rise, without repeats, of the same members, are one. -/
theorem rise_uniq : ∀ {a b : List Int}, a.Pairwise (· < ·) → b.Pairwise (· < ·) → (∀ x, x ∈ a ↔ x ∈ b) → a = b
  | [], [], _, _, _ => rfl
  | [], y :: _, _, _, h => by have := (h y).2 (by simp); cases this
  | x :: _, [], _, _, h => by have := (h x).1 (by simp); cases this
  | x :: a, y :: b, ha, hb, h => by
    rw [List.pairwise_cons] at ha hb
    have e : x = y := by
      have h1 := (h x).1 (by simp)
      have h2 := (h y).2 (by simp)
      rcases List.mem_cons.1 h1 with q | q
      · exact q
      · rcases List.mem_cons.1 h2 with r | r
        · exact r.symm
        · have := hb.1 _ q; have := ha.1 _ r; omega
    subst e
    rw [rise_uniq ha.2 hb.2 fun z => ⟨fun hz => ?_, fun hz => ?_⟩]
    · rcases List.mem_cons.1 ((h z).1 (List.mem_cons_of_mem _ hz)) with q | q
      · have := ha.1 _ hz; omega
      · exact q
    · rcases List.mem_cons.1 ((h z).2 (List.mem_cons_of_mem _ hz)) with q | q
      · have := hb.1 _ hz; omega
      · exact q
/-- What the sort gives of keys rises without repeats, and has their members. -/
theorem sorted_rise {V : List Int} {d' : Array Int} (hn : V.Nodup) (hp : Go.Sort.PermIn 0 V.length V.toArray d') (hs : SortU 0 V.length d') : d'.toList.Pairwise (· < ·) ∧ ∀ x, x ∈ d'.toList ↔ x ∈ V := by
  have hsz : d'.size = V.length := by rw [hp.1]; simp
  have hperm : d'.toList.Perm V := by
    have h := hp.2.2
    have e1 : (d'.extract 0 V.length).toList = d'.toList := by rw [← hsz]; simp
    have e2 : (V.toArray.extract 0 V.length).toList = V := by simp
    rw [e1, e2] at h
    exact h
  refine ⟨?_, fun x => hperm.mem_iff⟩
  rw [List.pairwise_iff_getElem]
  intro i j hi hj hij
  have hj' : j < d'.size := by simpa using hj
  have h := hs i j (Nat.zero_le _) hij (by omega)
  rw [getElem!_pos d' j hj', getElem!_pos d' i (by omega)] at h
  have h2 : ¬ d'[j] < d'[i] := by simpa [Go.Sort.ltInt] using h
  have hne : d'.toList[i] ≠ d'.toList[j] := fun e => by
    have := (List.nodup_iff_pairwise_ne.1 (hperm.nodup_iff.2 hn))
    rw [List.pairwise_iff_getElem] at this
    exact this i j hi hj hij e
  simp only [Array.getElem_toList] at hne ⊢
  omega
/-- The list rises, with repeats: so does it behind a pin and an unpin. -/
theorem pinP_sorted {w : List Int} (v : Int) (h : w.Pairwise (· ≤ ·)) : (pinP w v).Pairwise (· ≤ ·) := by
  have hsp : w.take (atP w v) ++ w.drop (atP w v) = w := List.take_append_drop _ _
  have h' := h
  rw [← hsp, List.pairwise_append] at h'
  have hlo : ∀ x, x ∈ w.take (atP w v) → x ≤ v := fun x hx => by
    obtain ⟨k, hk⟩ := List.mem_iff_getElem?.1 hx
    rw [List.getElem?_take] at hk
    split at hk
    · rename_i hlt
      have := takeP_lt (p := fun x : Int => decide (x ≤ v)) hlt hk
      simpa using this
    · cases hk
  have hhi : ∀ x, x ∈ w.drop (atP w v) → v ≤ x := fun x hx => by
    cases hd : w.drop (atP w v) with
    | nil => rw [hd] at hx; cases hx
    | cons y t =>
      have hy : w[atP w v]? = some y := by
        have := List.getElem?_drop (xs := w) (i := atP w v) (j := 0)
        rw [hd] at this; simpa using this.symm
      have h1 := takeP_at (p := fun x : Int => decide (x ≤ v)) hy
      have h1 : ¬ y ≤ v := by simpa using h1
      have h2 := h'.2.1
      rw [hd, List.pairwise_cons] at h2
      rw [hd] at hx
      rcases List.mem_cons.1 hx with rfl | hx
      · omega
      · have := h2.1 _ hx; omega
  unfold pinP
  rw [List.pairwise_append, List.pairwise_append]
  refine ⟨⟨h'.1, List.pairwise_singleton _ _, fun a ha b hb => by rw [List.mem_singleton.1 hb]; exact hlo a ha⟩, h'.2.1, fun a ha b hb => ?_⟩
  rcases List.mem_append.1 ha with ha | ha
  · exact h'.2.2 a ha b hb
  · rw [List.mem_singleton.1 ha]; exact hhi b hb
theorem erase_sorted {w : List Int} (v : Int) (h : w.Pairwise (· ≤ ·)) : (w.erase v).Pairwise (· ≤ ·) := h.sublist (List.erase_sublist ..)
theorem ddK_spec {w : List Int} (h : w.Pairwise (· ≤ ·)) : ∀ k, k ≤ w.length → (ddK w k).Pairwise (· < ·) ∧ ∀ x, x ∈ ddK w k ↔ x ∈ w.take k
  | 0, _ => ⟨List.Pairwise.nil, fun x => by simp [ddK]⟩
  | k + 1, hk => by
    obtain ⟨h1, h2⟩ := ddK_spec h k (by omega)
    have hwk : w[k]? = some w[k] := List.getElem?_eq_getElem (by omega)
    have hle : ∀ x, x ∈ w.take k → x ≤ w[k] := fun x hx => by
      obtain ⟨i, hi⟩ := List.mem_iff_getElem?.1 hx
      rw [List.getElem?_take] at hi
      split at hi
      · rename_i hlt
        obtain ⟨hl, rfl⟩ := List.getElem?_eq_some_iff.1 hi
        exact List.pairwise_iff_getElem.1 h i k hl (by omega) hlt
      · cases hi
    simp only [ddK]
    rw [List.take_add_one, hwk]
    by_cases hc : k = 0 ∨ some w[k] ≠ w[k - 1]?
    · rw [if_pos hc]
      refine ⟨?_, fun x => by rw [List.mem_append, List.mem_append, h2]⟩
      rw [List.pairwise_append]
      refine ⟨h1, by simp, fun a ha b hb => ?_⟩
      simp only [Option.toList_some, List.mem_singleton] at hb
      subst hb
      rcases hc with hc | hc
      · subst hc; rw [h2] at ha; simp at ha
      · have hk1 : w[k - 1]? = some w[k - 1] := List.getElem?_eq_getElem (by omega)
        rw [hk1] at hc
        have hne : w[k] ≠ w[k - 1] := fun e => hc (by rw [e])
        have hk0 : k ≠ 0 := fun e => by subst e; rw [h2] at ha; simp at ha
        have hlast : w[k - 1] ≤ w[k] := List.pairwise_iff_getElem.1 h (k - 1) k (by omega) (by omega) (by omega)
        have hale : a ≤ w[k - 1] := by
          obtain ⟨i, hi⟩ := List.mem_iff_getElem?.1 ((h2 a).1 ha)
          rw [List.getElem?_take] at hi
          split at hi
          · rename_i hlt
            obtain ⟨hl, rfl⟩ := List.getElem?_eq_some_iff.1 hi
            rcases Nat.lt_or_ge i (k - 1) with q | q
            · exact List.pairwise_iff_getElem.1 h i (k - 1) hl (by omega) q
            · have : i = k - 1 := by omega
              subst this; exact Int.le_refl _
          · cases hi
        omega
    · rw [if_neg hc, List.append_nil]
      refine ⟨h1, fun x => ?_⟩
      rw [h2, List.mem_append]
      refine ⟨.inl, fun q => q.elim id fun q => ?_⟩
      simp only [Option.toList_some, List.mem_singleton] at q
      subst q
      have hk0 : k ≠ 0 := fun e => hc (.inl e)
      have he : some w[k] = w[k - 1]? := Classical.byContradiction fun e => hc (.inr e)
      exact List.mem_iff_getElem?.2 ⟨k - 1, by rw [List.getElem?_take, if_pos (by omega), ← he]⟩
end Go.Proofs.Ytkibkahknibgfaa

namespace Go.Proofs.Ytkibkahknibgfaa
open Aml Go
set_option linter.unusedVariables false
set_option linter.unusedSimpArgs false
set_option maxRecDepth 100000
theorem inv_mem {es : List (Value × DV × Nat)} {w : List Int} (h : Inv es w) (v : Int) : (∃ e, e ∈ es ∧ e.1 = kU v) ↔ v ∈ w := by
  have hv := h v
  unfold At at hv
  have hn : mGet es (kU v) = none ↔ ¬ v ∈ w := by
    rw [← List.count_eq_zero]
    constructor
    · intro q
      by_cases h0 : w.count v = 0
      · exact h0
      · rw [if_neg h0] at hv
        exact absurd (hv.symm.trans q) (by simp)
    · intro q
      rw [if_pos q] at hv; exact hv
  constructor
  · rintro ⟨e, he, hk⟩
    refine Classical.byContradiction fun q => ?_
    exact mGet_none.1 (hn.2 q) e he hk
  · intro q
    refine Classical.byContradiction fun z => ?_
    exact hn.1 (mGet_none.2 fun e he hk => z ⟨e, he, hk⟩) q
theorem inv_len {es : List (Value × DV × Nat)} {clk : Nat} {w : List Int} (ok : MapOk (.int .u64) es clk) (h : Inv es w) : es.length ≤ w.length := by
  have h2 : es.map (·.1) ⊆ w.map kU := fun u hu => by
    obtain ⟨e, he, rfl⟩ := List.mem_map.1 hu
    obtain ⟨v, hv⟩ := isKey_u (ok.key e he)
    exact List.mem_map.2 ⟨v, (inv_mem h v).1 ⟨e, he, hv⟩, hv.symm⟩
  have := nodup_len ok.nd h2
  simpa using this
theorem fin_mem {es : List (Value × DV × Nat)} {w V : List Int} (h : Inv es w) (hV : FinK es V) (v : Int) : v ∈ V ↔ v ∈ w := by
  rw [← inv_mem h]
  constructor
  · exact hV.1.2 v
  · rintro ⟨e, he, hk⟩
    obtain ⟨v', hv', e2⟩ := hV.2 e he
    rw [hk] at e2
    have : v = v' := by unfold kU at e2; cases e2; rfl
    rw [this]; exact hv'
theorem all_eq {es : List (Value × DV × Nat)} {w V : List Int} {d' : Array Int} (h : Inv es w) (hw : w.Pairwise (· ≤ ·)) (hV : FinK es V) (hp : Go.Sort.PermIn 0 V.length V.toArray d') (hs : SortU 0 V.length d') : d'.toList = ddK w w.length := by
  obtain ⟨s1, s2⟩ := sorted_rise hV.1.1 hp hs
  obtain ⟨t1, t2⟩ := ddK_spec hw w.length (Nat.le_refl _)
  refine rise_uniq s1 t1 fun x => ?_
  rw [s2, t2, List.take_length, fin_mem h hV]
theorem ddK_head (w : List Int) : ∀ k, 0 < k → (ddK w k)[0]? = w[0]?
  | 1, _ => by
    cases w with
    | nil => simp [ddK]
    | cons a t => simp [ddK]
  | k + 2, _ => by
    have ih := ddK_head w (k + 1) (by omega)
    have e : ddK w (k + 2) = ddK w (k + 1) ++ (if k + 1 = 0 ∨ w[k + 1]? ≠ w[k + 1 - 1]? then w[k + 1]?.toList else []) := rfl
    rw [e]
    cases w with
    | nil =>
      have : ddK [] (k + 1) = [] := by
        cases hd : ddK [] (k + 1) with
        | nil => rfl
        | cons x l => rw [hd] at ih; simp at ih
      rw [this]; simp
    | cons a t =>
      cases hd : ddK (a :: t) (k + 1) with
      | nil => rw [hd] at ih; simp at ih
      | cons x l => rw [hd] at ih; simpa using ih
/-- Pins behind a pointer, that hold what a rising list holds. -/
structure PP (S : St) (b m : Nat) (w : List Int) : Prop where
  bx : lk S.box b = some [.mp m]
  up : w.Pairwise (· ≤ ·)
  few : w.length ≤ 1048576
  mp : ∃ es clk, lk S.acc m = some (.xo (.mp (.int .u64) es clk)) ∧ Inv es w
theorem PP.ext {S : St} {b m : Nat} {w : List Int} (h : PP S b m w) {B : List (Nat × List DV)} (hB : Fr S B) : PP ⟨B ++ S.box, S.acc⟩ b m w := ⟨lk_ext hB h.bx, h.up, h.few, h.mp⟩
abbrev pt0 (b : Nat) : DV := .v (.pointer (some ⟨b, 0, none⟩))
theorem heldX (w0 : W0) {b m : Nat} {w : List Int} {S : St} (h : PP S b m w) (v : Int) : ACall Try.prog w0 22 [pt0 b, dU v] S (fun d S' => d = dI (w.count v : Nat) ∧ S' = S) := by
  obtain ⟨es, clk, hm, hi⟩ := h.mp
  exact heldW w0 h.bx hm (hi v)
theorem allX (w0 : W0) {b m : Nat} {w : List Int} {S : St} (h : PP S b m w) : ACall Try.prog w0 25 [pt0 b] S (fun d S' => ∃ r : FN S.acc, d = .acc r.n (ddK w w.length).length ∧ S' = ⟨S.box, (r.n, .arr 1 ((ddK w w.length).map dU)) :: S.acc⟩) := by
  obtain ⟨es, clk, hm, hi⟩ := h.mp
  refine acall_mapOk hm fun hok => ?_
  have hl := inv_len hok hi
  have hf := h.few
  refine ACall.mono (allW w0 h.bx hm hok (by omega)) ?_
  rintro d S' ⟨V, r, d', hV, h1, h2, rfl, rfl⟩
  have e := all_eq hi h.up hV h1 h2
  have e2 : V.length = (ddK w w.length).length := by
    rw [← e]
    have q1 := h1.1
    have q2 : (V.toArray).size = V.length := by simp
    have q3 : d'.toList.length = d'.size := Array.length_toList
    omega
  refine ⟨r, by rw [e2], ?_⟩
  unfold rowA
  rw [← e]
theorem acall_frz {P : Program} {w0 : W0} {f : FuncId} {args : List DV} {S : St} {r : DV} (h1 : ACall P w0 f args S (fun d S' => shrT S' d fun d S'' => Wk d r ∧ Aml.Sub S S'')) : ACall P w0 f args S (fun d S' => d = r ∧ S' = S) := by
  intro g vs w k1 k2
  refine (h1 g vs w k1 k2).mono ?_
  rintro e w' ⟨v, g', d, S', q1, q2, q3, q4, q5⟩
  obtain ⟨g2, d', S2, p1, p2, p3, p4, p5⟩ := shrT_ok q3 q4 q5
  exact ⟨v, g2, r, S, q1, q2.trans p1, p2.forget p5.box p5.acc, p4 _ _ p3, rfl, rfl⟩
theorem allS (w0 : W0) {b m : Nat} {w : List Int} {S : St} (h : PP S b m w) : ACall Try.prog w0 25 [pt0 b] S (fun d S' => d = uL (ddK w w.length) ∧ S' = S) := by
  refine acall_frz (ACall.mono (allX w0 h) ?_)
  rintro d S' ⟨r, rfl, rfl⟩
  simp (maxDischargeDepth := 12) (maxSteps := 1000000) -implicitDefEqProofs only [go_sem, Nat.reduceAdd, Nat.reduceSub, Nat.reduceMul, Nat.reduceLeDiff, Nat.reduceEqDiff, Nat.reduceGT, Nat.reduceBEq, reduceCtorEq, ↓reduceIte, Int.reduceToNat, Int.reduceLE, Int.reduceLT, Int.reduceNe, Int.reduceEq]
theorem oldestX (w0 : W0) {b m : Nat} {w : List Int} {S : St} (h : PP S b m w) : ACall Try.prog w0 20 [pt0 b] S (fun d S' => d = .tup [dU (w.headD 0), dB (decide (w ≠ []))] ∧ S' = S) := by
  obtain ⟨es, clk, hm, hi⟩ := h.mp
  refine acall_mapOk hm fun hok => ?_
  have hl := inv_len hok hi
  have hf := h.few
  refine ACall.mono (oldestW w0 h.bx hm hok (by omega)) ?_
  rintro d S' ⟨V, d', hV, h1, h2, rfl, rfl⟩
  have e := all_eq hi h.up hV h1 h2
  have hsz : d'.size = V.length := by rw [h1.1]; simp
  refine ⟨?_, rfl⟩
  cases w with
  | nil =>
    have : V.length = 0 := by
      rw [← hsz, ← Array.length_toList, e]; rfl
    rw [if_pos this]; rfl
  | cons a t =>
    have hh := ddK_head (a :: t) (a :: t).length (by simp)
    rw [← e] at hh
    have hd : d'[0]? = some a := by simpa using hh
    have hpos : 0 < d'.size := by
      rcases Nat.lt_or_ge 0 d'.size with q | q
      · exact q
      · rw [Array.getElem?_eq_none q] at hd; cases hd
    rw [if_neg (by omega)]
    have : d'[0]! = a := by rw [getElem!_def, hd]
    rw [this]; rfl
theorem refOldestX (w0 : W0) (w : List Int) (S : St) (hw : w.length ≤ 1048576) : ACall Try.prog w0 21 [uL w] S (fun d S' => d = .tup [dU (w.headD 0), dB (decide (w ≠ []))] ∧ S' = S) := by
  refine ACall.mono (refOldestW w0 w S hw) ?_
  rintro d S' ⟨rfl, rfl⟩
  cases w with
  | nil => exact ⟨rfl, rfl⟩
  | cons a t => exact ⟨rfl, rfl⟩
theorem pinX (w0 : W0) {b m : Nat} {w : List Int} {S : St} (h : PP S b m w) (hf : w.length < 1048576) (v : Int) : ACall Try.prog w0 16 [pt0 b, dU v] S (fun d S' => d = .tup [] ∧ ∃ o, S' = ⟨S.box, up S.acc m o⟩ ∧ PP S' b m (pinP w v)) := by
  obtain ⟨es, clk, hm, hi⟩ := h.mp
  have hc : w.count v ≤ w.length := List.count_le_length
  refine ACall.mono (pinW w0 h.bx hm (hi v) (by omega)) ?_
  rintro d S' ⟨rfl, rfl⟩
  refine ⟨rfl, _, rfl, h.bx, pinP_sorted v h.up, ?_, _, _, by rw [lk_up_same, hm]; rfl, inv_pin hi clk v⟩
  have : atP w v ≤ w.length := (List.takeWhile_sublist _).length_le
  unfold pinP
  simp only [List.length_append, List.length_take, List.length_drop, List.length_cons, List.length_nil]
  omega
theorem unpinX (w0 : W0) {b m : Nat} {w : List Int} {S : St} (h : PP S b m w) (v : Int) : ACall Try.prog w0 19 [pt0 b, dU v] S (fun d S' => d = dB (unP w v).2 ∧ ∃ o, S' = ⟨S.box, up S.acc m o⟩ ∧ PP S' b m (unP w v).1) := by
  obtain ⟨es, clk, hm, hi⟩ := h.mp
  have hc : w.count v ≤ w.length := List.count_le_length
  have hf := h.few
  have hl : (w.erase v).length ≤ w.length := (List.erase_sublist ..).length_le
  have hl2 : (w.erase v).length ≤ 1048576 := by omega
  refine ACall.mono (unpinW w0 h.bx hm (hi v) (by omega)) ?_
  rintro d S' ⟨rfl, h2⟩
  rw [unP_spec]
  by_cases hv : v ∈ w
  · have hp : 0 < w.count v := List.count_pos_iff.2 hv
    rw [if_pos hv]
    refine ⟨by rw [decide_eq_true (show w.count v ≠ 0 by omega)], ?_⟩
    rcases h2 with ⟨h0, -⟩ | ⟨h1, clk', rfl⟩ | ⟨h1, clk', rfl⟩
    · omega
    · exact ⟨_, rfl, h.bx, erase_sorted v h.up, hl2, _, _, by rw [lk_up_same, hm]; rfl, inv_unpin1 hi clk h1⟩
    · exact ⟨_, rfl, h.bx, erase_sorted v h.up, hl2, _, _, by rw [lk_up_same, hm]; rfl, inv_unpin2 hi clk h1⟩
  · have hp : w.count v = 0 := List.count_eq_zero.2 hv
    rw [if_neg hv]
    refine ⟨by simp [hp], ?_⟩
    rcases h2 with ⟨h0, rfl⟩ | ⟨h1, -⟩ | ⟨h1, -⟩
    · exact ⟨_, by rw [up_self hm], h⟩
    · omega
    · omega
theorem newX (w0 : W0) (S : St) : ACall Try.prog w0 15 [] S (fun d S' => ∃ (l : FN S.acc) (b : FN S.box), d = pt0 b.n ∧ S' = ⟨(b.n, [.mp l.n]) :: S.box, (l.n, .xo (.mp (.int .u64) [] 0)) :: S.acc⟩) := newW w0 S
theorem PP.new {S : St} {l b : Nat} : PP ⟨(b, [.mp l]) :: S.box, (l, .xo (.mp (.int .u64) [] 0)) :: S.acc⟩ b l [] := ⟨by simp [lk], List.Pairwise.nil, Nat.zero_le _, [], 0, by simp [lk], inv_nil⟩
/-- Two pins: what is done to one leaves the other one as it is. -/
theorem PP_other {S : St} {b m m' : Nat} {w : List Int} (h : PP S b m w) (hne : ¬ m' = m) (o : Ob) : PP ⟨S.box, Aml.up S.acc m' o⟩ b m w := ⟨h.bx, h.up, h.few, by
  obtain ⟨es, clk, hm, hi⟩ := h.mp
  exact ⟨es, clk, by rw [lk_up_ne hne]; exact hm, hi⟩⟩
end Go.Proofs.Ytkibkahknibgfaa
