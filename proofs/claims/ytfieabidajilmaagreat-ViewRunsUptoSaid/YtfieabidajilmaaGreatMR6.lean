/-
  The order of texts; where rows of sizes are parted: plain laws; Trees that may be: their entries, their order, their sizes; mending keeps them: plain laws; Mending, putting and deleting keep trees that may be, and their entries: plain laws; Putting and deleting keep trees that may be; their entries are the old ones with one more, or less: plain laws. By an AI agent.
-/
import Derived.Test.YtfieabidajilmaaGreatMR5
namespace Go.Proofs.YtfieabidajilmaaGreat
open Aml Go
set_option linter.unusedVariables false
set_option linter.unusedSimpArgs false
set_option maxRecDepth 100000

theorem bl_irrefl : ∀ (a : List UInt8), Op.bytesLess a a = false
  | [] => rfl
  | x :: a => by simp [Op.bytesLess, bl_irrefl a]
theorem bl_trans : ∀ {a b c : List UInt8}, Op.bytesLess a b = true → Op.bytesLess b c = true → Op.bytesLess a c = true
  | [], [], _, h, _ => by simp [Op.bytesLess] at h
  | [], _ :: _, [], _, h => by simp [Op.bytesLess] at h
  | [], _ :: _, _ :: _, _, _ => by simp [Op.bytesLess]
  | _ :: _, [], _, h, _ => by simp [Op.bytesLess] at h
  | _ :: _, _ :: _, [], _, h => by simp [Op.bytesLess] at h
  | x :: a, y :: b, z :: c, h1, h2 => by
    simp only [Op.bytesLess, Bool.or_eq_true, decide_eq_true_eq, Bool.and_eq_true, beq_iff_eq] at h1 h2 ⊢
    rcases h1 with h1 | ⟨rfl, h1⟩
    · rcases h2 with h2 | ⟨rfl, h2⟩
      · exact .inl (UInt8.lt_trans h1 h2)
      · exact .inl h1
    · rcases h2 with h2 | ⟨rfl, h2⟩
      · exact .inl h2
      · exact .inr ⟨rfl, bl_trans h1 h2⟩
theorem bl_tri : ∀ (a b : List UInt8), Op.bytesLess a b = true ∨ a = b ∨ Op.bytesLess b a = true
  | [], [] => .inr (.inl rfl)
  | [], _ :: _ => .inl (by simp [Op.bytesLess])
  | _ :: _, [] => .inr (.inr (by simp [Op.bytesLess]))
  | x :: a, y :: b => by
    simp only [Op.bytesLess, Bool.or_eq_true, decide_eq_true_eq, Bool.and_eq_true, beq_iff_eq]
    rcases UInt8.lt_or_lt_of_ne (a := x) (b := y) |> fun f => Classical.em (x = y) |>.elim (fun h => Or.inr h) fun h => Or.inl (f h) with h | rfl
    · rcases h with h | h
      · exact .inl (.inl h)
      · exact .inr (.inr (.inl h))
    · rcases bl_tri a b with h | rfl | h
      · exact .inl (.inr ⟨rfl, h⟩)
      · exact .inr (.inl rfl)
      · exact .inr (.inr (.inr ⟨rfl, h⟩))
theorem ba_ext {a b : ByteArray} (h : a.data.toList = b.data.toList) : a = b := by
  cases a; cases b; simp only [ByteArray.mk.injEq]; exact Array.toList_inj.1 h
theorem eqS_iff {a b : ByteArray} : eqS a b = true ↔ a = b := by
  unfold eqS
  rw [decide_eq_true_eq]
  exact ⟨ba_ext, fun h => h ▸ rfl⟩
theorem eqS_self (a : ByteArray) : eqS a a = true := eqS_iff.2 rfl
theorem eqS_no {a b : ByteArray} : eqS a b = false ↔ a ≠ b := by rw [← Bool.not_eq_true, eqS_iff]
theorem ltS_irrefl (a : ByteArray) : ltS a a = false := bl_irrefl _
theorem ltS_trans {a b c : ByteArray} (h : ltS a b = true) (k : ltS b c = true) : ltS a c = true := bl_trans h k
theorem ltS_tri (a b : ByteArray) : ltS a b = true ∨ a = b ∨ ltS b a = true := (bl_tri a.data.toList b.data.toList).imp id (Or.imp ba_ext id)
theorem ltS_asymm {a b : ByteArray} (h : ltS a b = true) : ltS b a = false := by
  rw [← Bool.not_eq_true]; intro k
  have := ltS_trans h k
  rw [ltS_irrefl] at this; cases this
theorem ltS_ne {a b : ByteArray} (h : ltS a b = true) : a ≠ b := by rintro rfl; rw [ltS_irrefl] at h; cases h
theorem leS_eq (a b : ByteArray) : leS a b = !ltS b a := by
  unfold leS
  rcases ltS_tri a b with h | rfl | h
  · rw [ltS_asymm h, show Op.bytesLess a.data.toList b.data.toList = true from h]; rfl
  · rw [ltS_irrefl]; simp
  · have h1 := ltS_asymm h
    have h2 : ¬ a.data.toList = b.data.toList := fun e => ltS_ne h (ba_ext e).symm
    rw [h, show Op.bytesLess a.data.toList b.data.toList = false from h1, decide_eq_false h2]; rfl
theorem leS_iff {a b : ByteArray} : leS a b = true ↔ ltS b a = false := by rw [leS_eq]; simp
theorem leS_refl (a : ByteArray) : leS a a = true := leS_iff.2 (ltS_irrefl a)
theorem leS_no {a b : ByteArray} : leS a b = false ↔ ltS b a = true := by rw [leS_eq]; simp
theorem ltS_le {a b : ByteArray} (h : ltS a b = true) : leS a b = true := leS_iff.2 (ltS_asymm h)
theorem leS_lt {a b c : ByteArray} (h : leS a b = true) (k : ltS b c = true) : ltS a c = true := by
  rcases ltS_tri a b with h1 | rfl | h1
  · exact ltS_trans h1 k
  · exact k
  · rw [leS_iff.1 h] at h1; cases h1
theorem ltS_leS {a b c : ByteArray} (h : ltS a b = true) (k : leS b c = true) : ltS a c = true := by
  rcases ltS_tri b c with h1 | rfl | h1
  · exact ltS_trans h h1
  · exact h
  · rw [leS_iff.1 k] at h1; cases h1
theorem noS_le (a : ByteArray) : leS noS a = true := by
  rw [leS_iff]; unfold ltS; show Op.bytesLess _ [] = false; cases a.data.toList <;> rfl
/-- One of the places is at least as good as another one. -/
theorem atF_best (l : List Int) : ∀ j p, 1 ≤ p → p ≤ j + 1 → worse l (atF l j) ≤ worse l p
  | 0, p, h1, h2 => by have : p = 1 := by omega
                       subst this; exact Int.le_refl _
  | j + 1, p, h1, h2 => by
    simp only [atF]
    split
    · rename_i h
      rcases Nat.lt_or_ge p (j + 2) with h3 | h3
      · have := atF_best l j p h1 (by omega); omega
      · have : p = j + 2 := by omega
        subst this; exact Int.le_refl _
    · rename_i h
      rcases Nat.lt_or_ge p (j + 2) with h3 | h3
      · exact atF_best l j p h1 (by omega)
      · have : p = j + 2 := by omega
        subst this; omega
theorem sum_take_drop (l : List Int) (p : Nat) : (l.take p).sum + (l.drop p).sum = l.sum := by
  rw [← List.sum_append, List.take_append_drop]
theorem sum_pos {l : List Int} (h : ∀ x, x ∈ l → 0 ≤ x) : 0 ≤ l.sum := by
  induction l with
  | nil => exact Int.le_refl _
  | cons a l ih => have := ih fun x hx => h x (List.mem_cons_of_mem _ hx); have := h a List.mem_cons_self; rw [List.sum_cons]; omega
/-- There is a place at which the parts differ by one cell at most. -/
theorem half {m : Int} (hm : 0 ≤ m) : ∀ (l : List Int), (∀ x, x ∈ l → 0 ≤ x ∧ x ≤ m) → ∀ u : Int, 0 ≤ u → u ≤ 2 * l.sum → ∃ p, p ≤ l.length ∧ 2 * (l.take p).sum ≤ u + m ∧ u ≤ 2 * (l.take p).sum + m := by
  intro l
  induction l with
  | nil => intro _ u h0 h1; exact ⟨0, Nat.le_refl _, by simp at *; omega, by simp at *; omega⟩
  | cons a l ih =>
    intro h u h0 h1
    obtain ⟨a0, am⟩ := h a List.mem_cons_self
    rw [List.sum_cons] at h1
    by_cases ht : u ≤ a
    · exact ⟨0, Nat.zero_le _, by simp; omega, by simp; omega⟩
    · by_cases hta : u ≤ 2 * a
      · exact ⟨1, by simp, by simp; omega, by simp; omega⟩
      · obtain ⟨p, p1, p2, p3⟩ := ih (fun x hx => h x (List.mem_cons_of_mem _ hx)) (u - 2 * a) (by omega) (by omega)
        exact ⟨p + 1, by simp; omega, by rw [List.take_succ_cons, List.sum_cons]; omega, by rw [List.take_succ_cons, List.sum_cons]; omega⟩
/-- Where a row is parted both parts are neither too great nor too small. -/
theorem atR_parts {l : List Int} {m : Int} (h : ∀ x, x ∈ l → 0 ≤ x ∧ x ≤ m) (h0 : 122 < l.sum) (hm0 : 0 ≤ m) (hm : m ≤ 35) :
    1 ≤ atR l ∧ atR l < l.length ∧ 2 * (l.take (atR l)).sum ≤ l.sum + m ∧ 2 * (l.drop (atR l)).sum ≤ l.sum + m := by
  obtain ⟨p, p1, p2, p3⟩ := half hm0 l h l.sum (by omega) (by omega)
  have hp0 : p ≠ 0 := by rintro rfl; simp at p3; omega
  have hpl : p ≠ l.length := by rintro rfl; rw [List.take_length] at p2; omega
  have hb := atF_best l (l.length - 2) p (by omega) (by omega)
  have hat : atR l = atF l (l.length - 2) := by unfold atR; rw [if_neg]; rintro (h | h) <;> omega
  have hle := atF_le l (l.length - 2)
  rw [hat]
  generalize atF l (l.length - 2) = q at *
  have sp := sum_take_drop l p
  have sq := sum_take_drop l q
  refine ⟨hle.1, by omega, ?_, ?_⟩
  · unfold worse at hb
    split at hb <;> split at hb <;> omega
  · unfold worse at hb
    split at hb <;> split at hb <;> omega
theorem atR_zero {l : List Int} (h : l.sum ≤ 122) : atR l = 0 := by unfold atR; rw [if_pos (.inl h)]
end Go.Proofs.YtfieabidajilmaaGreat

namespace Go.Proofs.YtfieabidajilmaaGreat
open Aml Go
set_option linter.unusedVariables false
set_option linter.unusedSimpArgs false
set_option maxRecDepth 100000

mutual
/-- A tree's entries, in its order. -/
def enN : N → List C
  | .mk _ b l => enCs b l
def enC (b : Bool) : C → List C
  | .mk k d ps kid => if b then [.mk k d ps kid] else enNs kid
def enCs (b : Bool) : List C → List C
  | [] => []
  | c :: l => enC b c ++ enCs b l
def enNs : List N → List C
  | [] => []
  | n :: _ => enN n
end
theorem enCs_flat (b : Bool) (l : List C) : enCs b l = l.flatMap (enC b) := by
  induction l with
  | nil => rfl
  | cons c l ih => rw [enCs, ih, List.flatMap_cons]
theorem enN_eq (n : N) : enN n = n.l.flatMap (enC n.leaf) := by cases n; rw [enN, enCs_flat]; rfl
theorem enN_mk (p : Int) (b : Bool) (l : List C) : enN (.mk p b l) = l.flatMap (enC b) := by rw [enN_eq]; rfl
theorem enC_leaf (c : C) : enC true c = [c] := by cases c; rfl
theorem enC_br {c : C} {k : N} (h : c.kid = [k]) : enC false c = enN k := by
  cases c with | mk a b d e =>
  simp only [C.kid_mk] at h
  subst h; rfl
theorem enC_cell (key : ByteArray) (k : N) : enC false (cellN key k) = enN k := enC_br rfl
theorem flat_leaf (l : List C) : l.flatMap (enC true) = l := by
  induction l with
  | nil => rfl
  | cons c l ih => rw [List.flatMap_cons, enC_leaf, ih]; rfl
theorem en_leaf {n : N} (h : n.leaf = true) : enN n = n.l := by rw [enN_eq, h, flat_leaf]

/-- An entry that may be. -/
def ShL (c : C) : Prop := c.key ≠ noS ∧ c.key.size ≤ 16 ∧ c.data.size ≤ 400 ∧ (c.pages ≠ [] → 16 < c.data.size) ∧ c.pages.length ≤ 4 ∧ c.kid = []
/-- A branch's cell. -/
def ShK (c : C) : Prop := c.key.size ≤ 16 ∧ c.data = noS ∧ c.pages = []
/-- A cell ahead of another one, in a branch. -/
def RC (c c' : C) : Prop := ltS c.key c'.key = true ∧ ∀ x, x ∈ enC false c → ltS x.key c'.key = true
def Rise (l : List C) : Prop := l.Pairwise fun a b => ltS a.key b.key = true
def Fits (n : N) : Prop := 30 ≤ (sizesN n).sum ∧ (sizesN n).sum ≤ 122
def CellG (G F : N → Prop) (c : C) : Prop := ShK c ∧ (∀ x, x ∈ enC false c → leS c.key x.key = true) ∧ ∃ k, c.kid = [k] ∧ G k ∧ F k
structure BrG (G : N → Prop) (l : List C) : Prop where
  k0 : keyOf l = noS
  pw : l.Pairwise RC
  cell : ∀ c, c ∈ l → CellG G Fits c
/-- A tree of this depth that may be, but for its root's size. -/
def Good : Nat → N → Prop
  | 0, n => n.leaf = true ∧ Rise n.l ∧ ∀ c, c ∈ n.l → ShL c
  | d + 1, n => n.leaf = false ∧ n.l ≠ [] ∧ BrG (Good d) n.l
/-- A branch of which one kid was changed. -/
structure Pre (d : Nat) (A : List C) (c : C) (B : List C) : Prop where
  k0 : keyOf (A ++ c :: B) = noS
  pw : (A ++ c :: B).Pairwise RC
  ahead : ∀ x, x ∈ A → CellG (Good d) Fits x
  behind : ∀ x, x ∈ B → CellG (Good d) Fits x
  own : CellG (Good d) (fun k => (sizesN k).sum ≤ 167) c

theorem good_nd : ∀ {d : Nat} {n : N}, Good d n → Nd d n
  | 0, n, h => ⟨h.1, fun c hc => by obtain ⟨h1, h2, h3, h4, h5, h6⟩ := h.2.2 c hc; exact ⟨⟨h2, h3, h5⟩, h6⟩⟩
  | d + 1, n, h => ⟨h.1, h.2.1, fun c hc => by
      obtain ⟨⟨h1, h2, h3⟩, h4, k, h5, h6, h7⟩ := h.2.2.cell c hc
      exact ⟨⟨h1, by rw [h2, noS_size]; omega, by rw [h3]; exact Nat.le_refl _⟩, k, h5, good_nd h6⟩⟩
theorem size_br (c : C) : sizeC false c = 4 + c.key.size := rfl
theorem size_leaf {c : C} (h : c.key.size ≤ 16 ∧ c.data.size ≤ 400) : 0 ≤ sizeC true c ∧ sizeC true c ≤ 35 := by
  unfold sizeC need
  simp only [if_true]
  split
  · split <;> omega
  · split <;> omega
theorem sizes_mk (p : Int) (b : Bool) (l : List C) : sizesN (.mk p b l) = l.map (sizeC b) := rfl
theorem good_sizes : ∀ {d : Nat} {n : N}, Good d n → ∀ x, x ∈ sizesN n → 0 ≤ x ∧ x ≤ (if d = 0 then 35 else 20)
  | 0, n, h, x, hx => by
    unfold sizesN at hx
    obtain ⟨c, hc, rfl⟩ := List.mem_map.1 hx
    obtain ⟨h1, h2, h3, _⟩ := h.2.2 c hc
    rw [h.1]
    exact size_leaf ⟨h2, h3⟩
  | d + 1, n, h, x, hx => by
    unfold sizesN at hx
    obtain ⟨c, hc, rfl⟩ := List.mem_map.1 hx
    have := (h.2.2.cell c hc).1.1
    rw [h.1, size_br, if_neg (by omega)]
    omega
theorem fits_ne {n : N} (h : Fits n) : n.l ≠ [] := by
  intro e
  have := h.1
  unfold sizesN at this
  rw [e] at this
  simp at this
theorem good_ne : ∀ {d : Nat} {n : N}, Good d n → n.l ≠ [] → enN n ≠ []
  | 0, n, h, hn => by rw [en_leaf h.1]; exact hn
  | d + 1, n, h, hn => by
    obtain ⟨c, l, hl⟩ : ∃ c l, n.l = c :: l := by cases hx : n.l with | nil => exact absurd hx hn | cons c l => exact ⟨c, l, rfl⟩
    obtain ⟨_, _, k, h5, h6, h7⟩ := h.2.2.cell c (by rw [hl]; exact List.mem_cons_self)
    have := good_ne h6 (fits_ne h7)
    rw [enN_eq, h.1, hl, List.flatMap_cons, enC_br h5]
    intro e
    exact this (List.append_eq_nil_iff.1 e).1
theorem cell_ne {d : Nat} {c : C} (h : CellG (Good d) Fits c) : ∃ x, x ∈ enC false c := by
  obtain ⟨_, _, k, h5, h6, h7⟩ := h
  rw [enC_br h5]
  exact List.exists_mem_of_ne_nil _ (good_ne h6 (fits_ne h7))
theorem setKey_app (key : ByteArray) {a : C} (l : List C) : setKey key (a :: l) = .mk key a.data a.pages a.kid :: l := rfl
theorem enC_setKey (key : ByteArray) (c : C) : enC false (.mk key c.data c.pages c.kid) = enC false c := by cases c; simp [enC, C.kid]
theorem flat_setKey (key : ByteArray) (l : List C) : (setKey key l).flatMap (enC false) = l.flatMap (enC false) := by
  cases l with
  | nil => rfl
  | cons a l => rw [setKey_app, List.flatMap_cons, List.flatMap_cons, enC_setKey]
/-- A branch's first cell has another key. -/
theorem rise_of {G : N → Prop} {l : List C} (h1 : l.Pairwise RC) (h2 : ∀ c, c ∈ l → Rise (enC false c) ∧ ∀ x, x ∈ enC false c → leS c.key x.key = true) : Rise (l.flatMap (enC false)) := by
  unfold Rise
  induction l with
  | nil => exact List.Pairwise.nil
  | cons c l ih =>
    rw [List.pairwise_cons] at h1
    rw [List.flatMap_cons, List.pairwise_append]
    refine ⟨(h2 c List.mem_cons_self).1, ih h1.2 fun x hx => h2 x (List.mem_cons_of_mem _ hx), fun x hx y hy => ?_⟩
    obtain ⟨c', hc', hy⟩ := List.mem_flatMap.1 hy
    exact ltS_leS ((h1.1 c' hc').2 x hx) ((h2 c' (List.mem_cons_of_mem _ hc')).2 y hy)
theorem good_rise : ∀ {d : Nat} {n : N}, Good d n → Rise (enN n)
  | 0, n, h => by rw [en_leaf h.1]; exact h.2.1
  | d + 1, n, h => by
    rw [enN_eq, h.1]
    refine rise_of (G := Good d) h.2.2.pw fun c hc => ?_
    obtain ⟨_, h4, k, h5, h6, h7⟩ := h.2.2.cell c hc
    exact ⟨by rw [enC_br h5]; exact good_rise h6, h4⟩
theorem pw_app {l m : List C} {R : C → C → Prop} : (l ++ m).Pairwise R ↔ l.Pairwise R ∧ m.Pairwise R ∧ ∀ a, a ∈ l → ∀ b, b ∈ m → R a b := List.pairwise_append
theorem withC_app (A : List C) (c : C) (B m : List C) : withC (A ++ c :: B) A.length m = A ++ m ++ B := by
  unfold withC
  rw [List.take_left', List.append_assoc, List.append_assoc, show A.length + 1 = (A ++ [c]).length by simp, show A ++ c :: B = (A ++ [c]) ++ B by simp, List.drop_left']
  · rfl
  · rfl
theorem keyOf_app {A B B' : List C} (h : keyOf B = keyOf B') (hB : B ≠ []) (hB' : B' ≠ []) : keyOf (A ++ B) = keyOf (A ++ B') := by
  cases A with
  | nil => exact h
  | cons a A => rfl
/-- One cell is replaced by some others. -/
theorem br_repl {d : Nat} {A B m : List C} {c : C} (h : Pre d A c B) (hm : m ≠ []) (h0 : keyOf m = c.key) (hp : m.Pairwise RC) (hcell : ∀ x, x ∈ m → CellG (Good d) Fits x) (hle : ∀ x, x ∈ m → leS c.key x.key = true)
    (hU : ∀ b, b ∈ B → ∀ x, x ∈ m → RC x b) : BrG (Good d) (A ++ m ++ B) := by
  obtain ⟨p1, p2, p3⟩ := pw_app.1 h.pw
  rw [List.pairwise_cons] at p2
  refine ⟨?_, ?_, ?_⟩
  · rw [← h.k0, List.append_assoc]
    refine keyOf_app ?_ (by simp [hm]) (by simp)
    cases m with
    | nil => exact absurd rfl hm
    | cons x m => exact h0
  · rw [List.append_assoc, pw_app, pw_app]
    refine ⟨p1, ⟨hp, p2.2, fun x hx b hb => hU b hb x hx⟩, fun a ha x hx => ?_⟩
    rcases List.mem_append.1 hx with hx | hx
    · have := p3 a ha c List.mem_cons_self
      exact ⟨ltS_leS this.1 (hle x hx), fun y hy => ltS_leS (this.2 y hy) (hle x hx)⟩
    · exact p3 a ha x (List.mem_cons_of_mem _ hx)
  · intro x hx
    rcases List.mem_append.1 hx with hx | hx
    · rcases List.mem_append.1 hx with hx | hx
      · exact h.ahead x hx
      · exact hcell x hx
    · exact h.behind x hx
theorem sizes_take (n : N) (i : Nat) : (n.l.take i).map (sizeC n.leaf) = (sizesN n).take i := by unfold sizesN; rw [List.map_take]
theorem sizes_drop (n : N) (i : Nat) : (n.l.drop i).map (sizeC n.leaf) = (sizesN n).drop i := by unfold sizesN; rw [List.map_drop]
/-- A node is parted: both parts, and the key between. -/
theorem part_ok {d : Nat} {n : N} (h : Good d n) (h0 : 122 < (sizesN n).sum) (h1 : (sizesN n).sum ≤ 167) {i : Nat} (hi : i = atR (sizesN n)) {r : List C} (hr : r = n.l.drop i) :
    i ≠ 0 ∧ Good d (.mk 0 n.leaf (n.l.take i)) ∧ Fits (.mk 0 n.leaf (n.l.take i)) ∧ Good d (.mk 0 n.leaf (if n.leaf then r else setKey noS r)) ∧ Fits (.mk 0 n.leaf (if n.leaf then r else setKey noS r)) ∧
    enN (.mk 0 n.leaf (n.l.take i)) ++ enN (.mk 0 n.leaf (if n.leaf then r else setKey noS r)) = enN n ∧ (keyOf r).size ≤ 16 ∧ (∀ x, x ∈ enN (.mk 0 n.leaf (n.l.take i)) → ltS x.key (keyOf r) = true) ∧
    (∀ x, x ∈ enN (.mk 0 n.leaf (if n.leaf then r else setKey noS r)) → leS (keyOf r) x.key = true) ∧ (∃ y, y ∈ enN n ∧ leS (keyOf r) y.key = true) := by
  have hs := good_sizes h
  have hm : ∀ x, x ∈ sizesN n → 0 ≤ x ∧ x ≤ 35 := fun x hx => by have := hs x hx; split at this <;> omega
  obtain ⟨a1, a2, a3, a4⟩ := atR_parts (m := if d = 0 then 35 else 20) hs h0 (by split <;> omega) (by split <;> omega)
  have asum := sum_take_drop (sizesN n) (atR (sizesN n))
  rw [← hi] at a1 a2 a3 a4 asum
  have hlen : (sizesN n).length = n.l.length := by unfold sizesN; rw [List.length_map]
  obtain ⟨c, r', hc⟩ : ∃ c r', r = c :: r' := by
    cases hx : r with
    | nil => have := congrArg List.length (hr.symm.trans hx); rw [List.length_drop] at this; simp at this; omega
    | cons c r' => exact ⟨c, r', rfl⟩
  have happ : n.l.take i ++ (c :: r') = n.l := by rw [← hc, hr, List.take_append_drop]
  have hcm : c ∈ n.l := by rw [← happ]; simp
  have htk : n.l.take i ≠ [] := fun e => by have := congrArg List.length e; rw [List.length_take, List.length_nil] at this; omega
  have st := congrArg List.sum (sizes_take n i)
  have sd := congrArg List.sum (sizes_drop n i)
  rw [← hr] at sd
  cases d with
  | zero =>
    have hlf := h.1
    rw [hlf] at st sd ⊢
    simp only [if_true] at *
    have hrise := h.2.1
    unfold Rise at hrise
    rw [← happ, pw_app] at hrise
    obtain ⟨q1, q2, q3⟩ := hrise
    rw [hc]
    refine ⟨by omega, ⟨rfl, q1, fun x hx => h.2.2 x (List.mem_of_mem_take hx)⟩, ⟨?_, ?_⟩, ⟨rfl, q2, fun x hx => h.2.2 x (by rw [← happ]; exact List.mem_append_right _ hx)⟩, ⟨?_, ?_⟩, ?_, (h.2.2 c hcm).2.1, ?_, ?_, c, by rw [en_leaf hlf]; exact hcm, leS_refl _⟩
    · rw [sizes_mk, st]; omega
    · rw [sizes_mk, st]; omega
    · rw [sizes_mk, ← hc, sd]; omega
    · rw [sizes_mk, ← hc, sd]; omega
    · rw [enN_mk, enN_mk, flat_leaf, flat_leaf, en_leaf hlf, happ]
    · intro x hx
      rw [enN_mk, flat_leaf] at hx
      exact q3 x hx c List.mem_cons_self
    · intro x hx
      rw [enN_mk, flat_leaf] at hx
      rcases List.mem_cons.1 hx with rfl | hx
      · exact leS_refl _
      · rw [List.pairwise_cons] at q2
        exact ltS_le (q2.1 x hx)
  | succ d =>
    have hlf := h.1
    have hB := h.2.2
    rw [hlf] at st sd ⊢
    simp only [Bool.false_eq_true, if_false, show ¬ (d + 1 = 0) by omega] at *
    have hpw := hB.pw
    rw [← happ, pw_app] at hpw
    obtain ⟨q1, q2, q3⟩ := hpw
    rw [List.pairwise_cons] at q2
    have hcG := hB.cell c hcm
    obtain ⟨x0, hx0⟩ := cell_ne hcG
    have hk : ∀ x, x ∈ (c :: r').flatMap (enC false) → leS c.key x.key = true := fun x hx => by
      obtain ⟨c', hc', hx2⟩ := List.mem_flatMap.1 hx
      rcases List.mem_cons.1 hc' with e | hc'
      · rw [e] at hx2; exact hcG.2.1 x hx2
      · exact ltS_le (ltS_leS (q2.1 c' hc').1 ((hB.cell c' (by rw [← happ]; simp [hc'])).2.1 x hx2))
    rw [hc]
    have hsz := hcG.1.1
    have e1 : ((setKey noS (c :: r')).map (sizeC false)).sum = ((c :: r').map (sizeC false)).sum - c.key.size := by
      rw [setKey_app, List.map_cons, List.sum_cons, List.map_cons, List.sum_cons, size_br, size_br, C.key_mk, noS_size]; omega
    have en : (n.l.take i).flatMap (enC false) ++ (c :: r').flatMap (enC false) = enN n := by rw [enN_eq, hlf, ← List.flatMap_append, happ]
    refine ⟨by omega, ⟨rfl, htk, ⟨?_, q1, fun x hx => hB.cell x (List.mem_of_mem_take hx)⟩⟩, ⟨?_, ?_⟩, ⟨rfl, by simp [setKey, N.l], ⟨rfl, ?_, ?_⟩⟩, ⟨?_, ?_⟩, ?_, hsz, ?_, ?_, ?_⟩
    · rw [← hB.k0]
      show keyOf (n.l.take i) = keyOf n.l
      obtain ⟨a, t, ht⟩ : ∃ a t, n.l.take i = a :: t := by cases hx : n.l.take i with | nil => exact absurd hx htk | cons a t => exact ⟨a, t, rfl⟩
      rw [ht] at happ ⊢
      rw [← happ]; rfl
    · rw [sizes_mk, st]; omega
    · rw [sizes_mk, st]; omega
    · show (setKey noS (c :: r')).Pairwise RC
      rw [setKey_app, List.pairwise_cons]
      refine ⟨fun b hb => ⟨leS_lt (noS_le _) (q2.1 b hb).1, fun x hx => ?_⟩, q2.2⟩
      rw [enC_setKey] at hx
      exact (q2.1 b hb).2 x hx
    · intro x hx
      rcases List.mem_cons.1 hx with rfl | hx
      · obtain ⟨⟨w1, w2, w3⟩, w4, w5⟩ := hcG
        exact ⟨⟨by show noS.size ≤ 16; rw [noS_size]; omega, w2, w3⟩, fun y _ => noS_le _, w5⟩
      · exact hB.cell x (by rw [← happ]; simp [hx])
    · rw [sizes_mk, e1, ← hc, sd]; omega
    · rw [sizes_mk, e1, ← hc, sd]; omega
    · rw [enN_mk, enN_mk, flat_setKey, en]
    · intro x hx
      rw [enN_mk] at hx
      obtain ⟨c', hc', hx⟩ := List.mem_flatMap.1 hx
      exact (q3 c' hc' c List.mem_cons_self).2 x hx
    · intro x hx
      rw [enN_mk, flat_setKey] at hx
      exact hk x hx
    · exact ⟨x0, by rw [← en]; exact List.mem_append_right _ (List.mem_flatMap.2 ⟨c, List.mem_cons_self, hx0⟩), hcG.2.1 x0 hx0⟩
/-- A kid is parted, if need be. -/
theorem parted_ok {d : Nat} {p : Int} {A B : List C} {c : C} {kid : N} (h : Pre d A c B) (hk : c.kid = [kid]) {m : N × Bool} (hm : m = partedN (.mk p false (A ++ c :: B)) kid A.length c.key) :
    (m.2 = false ∧ m.1 = .mk p false (A ++ c :: B) ∧ (sizesN kid).sum ≤ 122) ∨ (m.2 = true ∧ m.1.leaf = false ∧ m.1.l.length = A.length + B.length + 2 ∧ BrG (Good d) m.1.l ∧ enN m.1 = (A ++ c :: B).flatMap (enC false) ∧ m.1.page = 0 ∧ (sizesN m.1).sum ≤ ((A ++ c :: B).map (sizeC false)).sum + 20) := by
  obtain ⟨o1, o2, kid', o3, o4, o5⟩ := h.own
  rw [hk] at o3; cases o3
  rw [enC_br hk] at o2
  have hs := good_sizes o4
  rcases Int.lt_or_le 122 (sizesN kid).sum with h0 | h0
  · refine .inr ?_
    obtain ⟨i, hi⟩ : ∃ i, i = atR (sizesN kid) := ⟨_, rfl⟩
    obtain ⟨r, hr⟩ : ∃ r, r = kid.l.drop i := ⟨_, rfl⟩
    obtain ⟨q0, q1, q2, q3, q4, q5, q6, q7, q8, y, q9, q10⟩ := part_ok o4 h0 o5 hi hr
    unfold partedN at hm
    simp only [← hi, if_neg q0, ← hr] at hm
    rw [hm]
    generalize hX : (N.mk 0 kid.leaf (List.take i kid.l)) = X at *
    generalize hY : (N.mk 0 kid.leaf (if kid.leaf = true then r else setKey noS r)) = Y at *
    simp only [N.l_mk, N.leaf_mk, N.page_mk, withC_app]
    have hne : enN X ≠ [] := good_ne q1 (fits_ne q2)
    obtain ⟨x0, hx0⟩ := List.exists_mem_of_ne_nil _ hne
    have hX' : ∀ x, x ∈ enN X → x ∈ enN kid := fun x hx => by rw [← q5]; exact List.mem_append_left _ hx
    have hY' : ∀ x, x ∈ enN Y → x ∈ enN kid := fun x hx => by rw [← q5]; exact List.mem_append_right _ hx
    obtain ⟨p1, p2, p3⟩ := pw_app.1 h.pw
    rw [List.pairwise_cons] at p2
    refine ⟨trivial, trivial, by simp; omega, ?_, ?_, trivial, ?_⟩
    · have hck : ltS c.key (keyOf r) = true := leS_lt (o2 x0 (hX' x0 hx0)) (q7 x0 hx0)
      refine br_repl h (by simp) rfl ?_ ?_ ?_ ?_
      · rw [List.pairwise_cons]
        refine ⟨fun b hb => ?_, List.pairwise_singleton _ _⟩
        rw [List.mem_singleton] at hb; subst hb
        refine ⟨hck, fun x hx => ?_⟩
        rw [enC_cell] at hx
        exact q7 x hx
      · intro x hx
        rcases List.mem_cons.1 hx with rfl | hx
        · exact ⟨⟨o1.1, rfl, rfl⟩, fun x hx => by rw [enC_cell] at hx; exact o2 x (hX' x hx), X, rfl, q1, q2⟩
        · rw [List.mem_singleton] at hx; subst hx
          exact ⟨⟨q6, rfl, rfl⟩, fun x hx => by rw [enC_cell] at hx; exact q8 x hx, Y, rfl, q3, q4⟩
      · intro x hx
        rcases List.mem_cons.1 hx with rfl | hx
        · exact leS_refl _
        · rw [List.mem_singleton] at hx; subst hx
          exact ltS_le hck
      · intro b hb x hx
        have hcb := p2.1 b hb
        rw [RC, enC_br hk] at hcb
        rcases List.mem_cons.1 hx with rfl | hx
        · exact ⟨hcb.1, fun x hx => by rw [enC_cell] at hx; exact hcb.2 x (hX' x hx)⟩
        · rw [List.mem_singleton] at hx; subst hx
          exact ⟨leS_lt q10 (hcb.2 y q9), fun x hx => by rw [enC_cell] at hx; exact hcb.2 x (hY' x hx)⟩
    · rw [enN_mk, List.flatMap_append, List.flatMap_append, List.flatMap_append, List.flatMap_cons, List.flatMap_cons, List.flatMap_cons, List.flatMap_nil, enC_cell, enC_cell, enC_br hk, ← q5]
      simp
    · rw [sizes_mk]
      simp only [List.map_append, List.map_cons, List.map_nil, List.sum_append, List.sum_cons, List.sum_nil, size_br, cellN, C.key_mk]
      omega
  · refine .inl ?_
    unfold partedN at hm
    simp only [atR_zero h0, if_true] at hm
    rw [hm]
    exact ⟨rfl, rfl, h0⟩
end Go.Proofs.YtfieabidajilmaaGreat

namespace Go.Proofs.YtfieabidajilmaaGreat
open Aml Go
set_option linter.unusedVariables false
set_option linter.unusedSimpArgs false
set_option maxRecDepth 100000

theorem pre_good {d : Nat} {A B : List C} {c : C} {kid : N} (h : Pre d A c B) (hk : c.kid = [kid]) (h0 : 30 ≤ (sizesN kid).sum) (h1 : (sizesN kid).sum ≤ 122) : BrG (Good d) (A ++ c :: B) := by
  refine ⟨h.k0, h.pw, fun x hx => ?_⟩
  rcases List.mem_append.1 hx with hx | hx
  · exact h.ahead x hx
  · rcases List.mem_cons.1 hx with rfl | hx
    · obtain ⟨o1, o2, k, o3, o4, o5⟩ := h.own
      rw [hk] at o3; cases o3
      exact ⟨o1, o2, kid, hk, o4, h0, h1⟩
    · exact h.behind x hx
/-- Two neighbours put together. -/
theorem both_ok {d : Nat} {kx ky : N} {key : ByteArray} (hx : Good d kx) (hy : Good d ky) (h1 : ∀ e, e ∈ enN kx → ltS e.key key = true) (h2 : ∀ e, e ∈ enN ky → leS key e.key = true) (hs : key.size ≤ 16) :
    Good d (bothN kx ky key) ∧ enN (bothN kx ky key) = enN kx ++ enN ky ∧ (sizesN kx).sum + (sizesN ky).sum ≤ (sizesN (bothN kx ky key)).sum ∧ (sizesN (bothN kx ky key)).sum ≤ (sizesN kx).sum + (sizesN ky).sum + 16 := by
  cases d with
  | zero =>
    have e : bothN kx ky key = .mk 0 true (kx.l ++ ky.l) := by unfold bothN; rw [hy.1, hx.1, if_pos rfl]
    rw [e, enN_mk, flat_leaf, en_leaf hx.1, en_leaf hy.1, sizes_mk]
    rw [en_leaf hx.1] at h1
    rw [en_leaf hy.1] at h2
    have e1 : sizesN kx = kx.l.map (sizeC true) := by unfold sizesN; rw [hx.1]
    have e2 : sizesN ky = ky.l.map (sizeC true) := by unfold sizesN; rw [hy.1]
    refine ⟨⟨rfl, pw_app.2 ⟨hx.2.1, hy.2.1, fun a ha b hb => ltS_leS (h1 a ha) (h2 b hb)⟩, fun c hc => ?_⟩, rfl, ?_, ?_⟩
    · rcases List.mem_append.1 hc with hc | hc
      · exact hx.2.2 c hc
      · exact hy.2.2 c hc
    · rw [List.map_append, List.sum_append, e1, e2]; omega
    · rw [List.map_append, List.sum_append, e1, e2]; omega
  | succ d =>
    have e : bothN kx ky key = .mk 0 false (kx.l ++ setKey key ky.l) := by unfold bothN; rw [hy.1, hx.1, if_neg (by simp)]
    rw [e, enN_mk, enN_eq kx, enN_eq ky, hx.1, hy.1, sizes_mk, List.flatMap_append, flat_setKey]
    rw [enN_eq, hx.1] at h1
    rw [enN_eq, hy.1] at h2
    have e1 : sizesN kx = kx.l.map (sizeC false) := by unfold sizesN; rw [hx.1]
    have e2 : sizesN ky = ky.l.map (sizeC false) := by unfold sizesN; rw [hy.1]
    have hX := hx.2.2
    have hY := hy.2.2
    obtain ⟨c0, r, hr⟩ : ∃ c0 r, ky.l = c0 :: r := by cases hq : ky.l with | nil => exact absurd hq hy.2.1 | cons a t => exact ⟨a, t, rfl⟩
    have hc0 := hY.cell c0 (by rw [hr]; exact List.mem_cons_self)
    have hp := hY.pw
    have hk0 := hY.k0
    rw [hr, List.pairwise_cons] at hp
    rw [hr] at h2 e2 hk0
    have hk0 : c0.key = noS := hk0
    rw [hr, setKey_app]
    obtain ⟨x0, hx0⟩ := cell_ne hc0
    have hl0 := h2 x0 (List.mem_flatMap.2 ⟨c0, List.mem_cons_self, hx0⟩)
    have hkb : ∀ b, b ∈ r → ltS key b.key = true := fun b hb => leS_lt hl0 ((hp.1 b hb).2 x0 hx0)
    have hle : ∀ b, b ∈ C.mk key c0.data c0.pages c0.kid :: r → leS key b.key = true := fun b hb => by
      rcases List.mem_cons.1 hb with rfl | hb
      · exact leS_refl _
      · exact ltS_le (hkb b hb)
    refine ⟨⟨rfl, by simp [N.l], ?_, ?_, ?_⟩, rfl, ?_, ?_⟩
    · show keyOf (kx.l ++ _) = noS
      rw [← hX.k0]
      cases hq : kx.l with
      | nil => exact absurd hq hx.2.1
      | cons a t => rfl
    · refine pw_app.2 ⟨hX.pw, List.pairwise_cons.2 ⟨fun b hb => ⟨hkb b hb, fun x hx => ?_⟩, hp.2⟩, fun a ha b hb => ?_⟩
      · rw [enC_setKey] at hx
        exact (hp.1 b hb).2 x hx
      · obtain ⟨xa, hxa⟩ := cell_ne (hX.cell a ha)
        have h3 : ∀ x, x ∈ enC false a → ltS x.key key = true := fun x hx => h1 x (List.mem_flatMap.2 ⟨a, ha, hx⟩)
        exact ⟨ltS_leS (leS_lt ((hX.cell a ha).2.1 xa hxa) (h3 xa hxa)) (hle b hb), fun x hx => ltS_leS (h3 x hx) (hle b hb)⟩
    · intro c hc
      rcases List.mem_append.1 hc with hc | hc
      · exact hX.cell c hc
      · rcases List.mem_cons.1 hc with rfl | hc
        · obtain ⟨⟨w1, w2, w3⟩, w4, w5⟩ := hc0
          refine ⟨⟨hs, w2, w3⟩, fun y hy => ?_, w5⟩
          rw [enC_setKey] at hy
          exact h2 y (List.mem_flatMap.2 ⟨c0, List.mem_cons_self, hy⟩)
        · exact hY.cell c (by rw [hr]; exact List.mem_cons_of_mem _ hc)
    · rw [List.map_append, List.sum_append, e1, e2, List.map_cons, List.sum_cons, List.map_cons, List.sum_cons, size_br, size_br, C.key_mk, hk0, noS_size]; omega
    · rw [List.map_append, List.sum_append, e1, e2, List.map_cons, List.sum_cons, List.map_cons, List.sum_cons, size_br, size_br, C.key_mk, hk0, noS_size]; omega
theorem cellAt_app (A : List C) (c : C) (B : List C) : cellAt (A ++ c :: B) A.length = c := cellAt_eq (by simp)
/-- A cell and the next one become one. -/
theorem pre_both {d : Nat} {A B : List C} {x y : C} {kx ky : N} (hk0 : keyOf (A ++ x :: y :: B) = noS) (hpw : (A ++ x :: y :: B).Pairwise RC) (hA : ∀ c, c ∈ A → CellG (Good d) Fits c) (hB : ∀ c, c ∈ B → CellG (Good d) Fits c)
    (hx : CellG (Good d) (fun _ => True) x) (hy : CellG (Good d) (fun _ => True) y) (ex : x.kid = [kx]) (ey : y.kid = [ky]) (hsum : (sizesN kx).sum + (sizesN ky).sum ≤ 151) :
    Pre d A (cellN x.key (bothN kx ky y.key)) B ∧ (A ++ cellN x.key (bothN kx ky y.key) :: B).flatMap (enC false) = (A ++ x :: y :: B).flatMap (enC false) ∧ (sizesN kx).sum + (sizesN ky).sum ≤ (sizesN (bothN kx ky y.key)).sum := by
  obtain ⟨x1, x2, kx', x3, x4, _⟩ := hx
  rw [ex] at x3; cases x3
  obtain ⟨y1, y2, ky', y3, y4, _⟩ := hy
  rw [ey] at y3; cases y3
  rw [enC_br ex] at x2
  rw [enC_br ey] at y2
  obtain ⟨p1, p2, p3⟩ := pw_app.1 hpw
  rw [List.pairwise_cons, List.pairwise_cons] at p2
  obtain ⟨p2, p4, p5⟩ := p2
  have hxy := p2 y List.mem_cons_self
  rw [RC, enC_br ex] at hxy
  obtain ⟨b1, b2, b3, b4⟩ := both_ok x4 y4 hxy.2 y2 y1.1
  refine ⟨⟨?_, ?_, hA, hB, ⟨⟨x1.1, rfl, rfl⟩, fun e he => ?_, _, rfl, b1, by omega⟩⟩, ?_, b3⟩
  · rw [← hk0]; exact keyOf_app rfl (by simp) (by simp)
  · refine pw_app.2 ⟨p1, List.pairwise_cons.2 ⟨fun b hb => ⟨(p2 b (List.mem_cons_of_mem _ hb)).1, fun e he => ?_⟩, p5⟩, fun a ha b hb => ?_⟩
    · rw [enC_cell, b2] at he
      rcases List.mem_append.1 he with he | he
      · have := (p2 b (List.mem_cons_of_mem _ hb)).2
        rw [enC_br ex] at this
        exact this e he
      · have := (p4 b hb).2
        rw [enC_br ey] at this
        exact this e he
    · rcases List.mem_cons.1 hb with rfl | hb
      · exact p3 a ha x List.mem_cons_self
      · exact p3 a ha b (List.mem_cons_of_mem _ (List.mem_cons_of_mem _ hb))
  · rw [enC_cell, b2] at he
    rcases List.mem_append.1 he with he | he
    · exact x2 e he
    · exact ltS_le (ltS_leS hxy.1 (y2 e he))
  · rw [List.flatMap_append, List.flatMap_append, List.flatMap_cons, List.flatMap_cons, List.flatMap_cons, enC_cell, b2, enC_br ex, enC_br ey, List.append_assoc]
theorem cellG_any {G F : N → Prop} {c : C} (h : CellG G F c) : CellG G (fun _ => True) c := by
  obtain ⟨h1, h2, k, h3, h4, h5⟩ := h
  exact ⟨h1, h2, k, h3, h4, trivial⟩
/-- What mending makes of a branch. -/
structure Mended (d : Nat) (L : List C) (m : N) : Prop where
  leaf : m.leaf = false
  page : m.page = 0
  ne : m.l ≠ []
  br : BrG (Good d) m.l
  en : enN m = L.flatMap (enC false)
  sum : (sizesN m).sum ≤ (L.map (sizeC false)).sum + 20
theorem mend_ok {d : Nat} {A B : List C} {c : C} (h : Pre d A c B) (hAB : A ≠ [] ∨ B ≠ []) : Mended d (A ++ c :: B) (mendN (.mk 0 false (A ++ c :: B)) A.length) := by
  obtain ⟨o1, o2, kid, hkid, o4, o5⟩ := h.own
  unfold mendN
  simp only [N.l_mk, cellAt_app, kid0_eq hkid]
  generalize hP : partedN (.mk 0 false (A ++ c :: B)) kid A.length c.key = P
  rcases parted_ok h hkid hP.symm with ⟨q1, q2, q3⟩ | ⟨q1, q2, q3, q4, q5, q6, q7⟩
  · rw [q1, if_neg (by simp)]
    split
    · rename_i hlow
      have h30 : 30 ≤ (sizesN kid).sum := by
        rw [Bool.or_eq_true] at hlow
        rcases hlow with hlow | hlow
        · unfold lowR at hlow
          simp at hlow; omega
        · have h2 : (A ++ c :: B).length < 2 := of_decide_eq_true hlow
          rw [List.length_append, List.length_cons] at h2
          rcases hAB with hA | hB
          · have := List.length_pos_iff.2 hA; omega
          · have := List.length_pos_iff.2 hB; omega
      exact ⟨rfl, rfl, by simp [N.l], pre_good h hkid h30 q3, enN_mk _ _ _, by rw [sizes_mk]; omega⟩
    · rename_i hlow
      have h29 : (sizesN kid).sum ≤ 29 := by
        rw [Bool.or_eq_true, not_or] at hlow
        have := hlow.1
        unfold lowR at this
        simp at this; omega
      -- which neighbour
      have fin : ∀ (A' B' : List C) (x y : C) (kx ky : N), A ++ c :: B = A' ++ x :: y :: B' → x.kid = [kx] → y.kid = [ky] → CellG (Good d) (fun _ => True) x → CellG (Good d) (fun _ => True) y → (∀ e, e ∈ A' → CellG (Good d) Fits e) → (∀ e, e ∈ B' → CellG (Good d) Fits e) →
          30 ≤ (sizesN kx).sum + (sizesN ky).sum → (sizesN kx).sum + (sizesN ky).sum ≤ 151 →
          Mended d (A ++ c :: B) (partedN (.mk 0 false (withC (withC (A ++ c :: B) (A'.length + 1) []) A'.length [cellN (cellAt (A ++ c :: B) A'.length).key (bothN (kid0 (cellAt (A ++ c :: B) A'.length)) (kid0 (cellAt (A ++ c :: B) (A'.length + 1))) (cellAt (A ++ c :: B) (A'.length + 1)).key)])) (bothN (kid0 (cellAt (A ++ c :: B) A'.length)) (kid0 (cellAt (A ++ c :: B) (A'.length + 1))) (cellAt (A ++ c :: B) (A'.length + 1)).key) A'.length (cellAt (A ++ c :: B) A'.length).key).1 := by
        intro A' B' x y kx ky he ex ey hx hy hA' hB' s30 s151
        obtain ⟨b1, b2, b3⟩ := pre_both (by rw [← he]; exact h.k0) (by rw [← he]; exact h.pw) hA' hB' hx hy ex ey s151
        have e1 : cellAt (A' ++ x :: y :: B') (A'.length + 1) = y := by
          have := cellAt_app (A' ++ [x]) y B'
          simpa using this
        have e2 : withC (A' ++ x :: y :: B') (A'.length + 1) [] = A' ++ x :: B' := by
          have := withC_app (A' ++ [x]) y B' []
          simpa using this
        rw [he, cellAt_app, e1, e2, kid0_eq ex, kid0_eq ey, withC_app, List.append_assoc, List.singleton_append]
        generalize hQ : partedN (.mk 0 false (A' ++ cellN x.key (bothN kx ky y.key) :: B')) (bothN kx ky y.key) A'.length x.key = Q
        have hsz : ((A' ++ cellN x.key (bothN kx ky y.key) :: B').map (sizeC false)).sum ≤ ((A' ++ x :: y :: B').map (sizeC false)).sum := by
          simp only [List.map_append, List.map_cons, List.sum_append, List.sum_cons, size_br, cellN, C.key_mk]
          omega
        rcases parted_ok (p := 0) b1 (kid := bothN kx ky y.key) rfl hQ.symm with ⟨r1, r2, r3⟩ | ⟨r1, r2, r3, r4, r5, r6, r7⟩
        · rw [r2]
          exact ⟨rfl, rfl, by simp [N.l], pre_good b1 rfl (by omega) r3, by rw [enN_mk, b2], by rw [sizes_mk]; omega⟩
        · exact ⟨r2, r6, by intro e; rw [e] at r3; simp at r3, r4, by rw [r5, b2], by omega⟩
      have fs : ∀ x kx, CellG (Good d) Fits x → x.kid = [kx] → 30 ≤ (sizesN kx).sum ∧ (sizesN kx).sum ≤ 122 := fun x kx hx ex => by
        obtain ⟨_, _, k, h3, _, h5⟩ := hx
        rw [ex] at h3; cases h3; exact h5
      have s0 : 0 ≤ (sizesN kid).sum := sum_pos fun x hx => (good_sizes o4 x hx).1
      cases B with
      | cons b0 B' =>
        have hb0 := h.behind b0 List.mem_cons_self
        obtain ⟨_, _, kb, hkb, _⟩ := id hb0
        have := fs b0 kb hb0 hkb
        have hlt : A.length + 1 < (A ++ c :: b0 :: B').length := by simp
        simp only [hlt, if_true]
        exact fin A B' c b0 kid kb rfl hkid hkb (cellG_any h.own) (cellG_any hb0) h.ahead (fun e he => h.behind e (List.mem_cons_of_mem _ he)) (by omega) (by omega)
      | nil =>
        have hA : A ≠ [] := hAB.resolve_right (by simp)
        obtain ⟨A', a0, rfl⟩ : ∃ A' a0, A = A' ++ [a0] := ⟨A.dropLast, A.getLast hA, (List.dropLast_concat_getLast hA).symm⟩
        have ha0 := h.ahead a0 (by simp)
        obtain ⟨_, _, ka, hka, _⟩ := id ha0
        have := fs a0 ka ha0 hka
        have hnl : ¬ (A' ++ [a0]).length + 1 < (A' ++ [a0] ++ [c]).length := by simp
        simp only [hnl, if_false]
        have hj : (A' ++ [a0]).length - 1 = A'.length := by simp
        rw [hj]
        exact fin A' [] a0 c ka kid (by simp) hka hkid (cellG_any ha0) (cellG_any h.own) (fun e he => h.ahead e (List.mem_append_left _ he)) (fun e he => by cases he) (by omega) (by omega)
  · rw [q1, if_pos rfl]
    exact ⟨q2, q6, by intro e; rw [e] at q3; simp at q3, q4, q5, q7⟩
end Go.Proofs.YtfieabidajilmaaGreat

namespace Go.Proofs.YtfieabidajilmaaGreat
open Aml Go
set_option linter.unusedVariables false
set_option linter.unusedSimpArgs false
set_option maxRecDepth 100000

def insE (key val : ByteArray) (l : List C) : List C := l.filter (fun c => ltS c.key key) ++ .mk key val [] [] :: l.filter (fun c => ltS key c.key)
def delE (key : ByteArray) (l : List C) : List C := l.filter fun c => !eqS c.key key
theorem flt_all {p : C → Bool} {l : List C} (h : ∀ a, a ∈ l → p a = true) : l.filter p = l := List.filter_eq_self.2 h
theorem flt_no {p : C → Bool} {l : List C} (h : ∀ a, a ∈ l → p a = false) : l.filter p = [] := List.filter_eq_nil_iff.2 fun a ha => by rw [h a ha]; simp
/-- Entries around a key. -/
theorem cut_at (key : ByteArray) : ∀ {l : List C}, Rise l → ∃ A B, l = A ++ B ∧ (∀ a, a ∈ A → ltS a.key key = true) ∧ ∀ b, b ∈ B → ltS b.key key = false
  | [], _ => ⟨[], [], rfl, fun a h => (by cases h), fun a h => (by cases h)⟩
  | c :: l, h => by
    unfold Rise at h
    rw [List.pairwise_cons] at h
    cases hc : ltS c.key key with
    | true =>
      obtain ⟨A, B, rfl, h1, h2⟩ := cut_at key h.2
      exact ⟨c :: A, B, rfl, fun a ha => by
        rcases List.mem_cons.1 ha with rfl | ha
        · exact hc
        · exact h1 a ha, h2⟩
    | false =>
      refine ⟨[], c :: l, rfl, fun a h => (by cases h), fun b hb => ?_⟩
      rcases List.mem_cons.1 hb with rfl | hb
      · exact hc
      · cases hb2 : ltS b.key key with
        | false => rfl
        | true => rw [ltS_trans (h.1 b hb) hb2] at hc; cases hc
theorem idx_app {A B : List C} {key : ByteArray} (h1 : ∀ a, a ∈ A → ltS a.key key = true) (h2 : ∀ b, b ∈ B → ltS b.key key = false) : idxN (A ++ B) key = A.length := by
  unfold idxN
  rw [List.takeWhile_append_of_pos h1]
  cases B with
  | nil => simp
  | cons b B => rw [List.takeWhile_cons, h2 b List.mem_cons_self]; simp
/-- A key is put among a leaf's cells. -/
theorem leafPut_eq {l : List C} (h : Rise l) (key val : ByteArray) : leafPut l key val = insE key val l ∧ ((leafPut l key val).map (sizeC true)).sum ≤ (l.map (sizeC true)).sum + sizeC true (.mk key val [] []) - (if (l.any fun c => eqS c.key key) then ((l.filter fun c => eqS c.key key).map (sizeC true)).sum else 0) := by
  obtain ⟨A, B, rfl, h1, h2⟩ := cut_at key h
  have hA : (A.any fun c => eqS c.key key) = false := List.any_eq_false.2 fun a ha => by
    have := ltS_ne (h1 a ha)
    rw [← eqS_no] at this
    rw [this]; simp
  have hA2 : (A.filter fun c => eqS c.key key) = [] := flt_no fun a ha => by rw [eqS_no]; exact ltS_ne (h1 a ha)
  have hi := idx_app h1 h2
  unfold leafPut insE
  simp only [hi]
  rw [List.filter_append, List.filter_append, flt_all h1, flt_no h2, flt_no (l := A) fun a ha => ltS_asymm (h1 a ha), List.append_nil, List.nil_append, List.any_append, hA, Bool.false_or, List.filter_append, hA2, List.nil_append]
  cases B with
  | nil => simp
  | cons b B =>
    have hb : ∀ b', b' ∈ B → ltS b.key b'.key = true := by
      unfold Rise at h
      rw [pw_app, List.pairwise_cons] at h
      exact h.2.1.1
    have hge := h2 b List.mem_cons_self
    rw [List.getElem?_append_right (Nat.le_refl _), Nat.sub_self, List.getElem?_cons_zero]
    simp only
    by_cases e : b.key = key
    · rw [if_pos (eqS_iff.2 e), withC_app]
      have hB : ∀ b', b' ∈ B → ltS key b'.key = true := fun b' hb' => e ▸ hb b' hb'
      have hB2 : (B.filter fun c => eqS c.key key) = [] := flt_no fun a ha => by rw [eqS_no]; exact (ltS_ne (hB a ha)).symm
      rw [List.filter_cons, e, ltS_irrefl, if_neg (by simp), flt_all hB, List.any_cons, eqS_iff.2 e, Bool.true_or, if_pos rfl, List.filter_cons, if_pos (eqS_iff.2 e), hB2]
      refine ⟨by simp, ?_⟩
      simp only [List.map_append, List.sum_append, List.map_cons, List.map_nil, List.sum_cons, List.sum_nil]
      omega
    · rw [if_neg (by rw [eqS_iff]; exact e)]
      have hlt : ltS key b.key = true := by
        rcases ltS_tri key b.key with h | h | h
        · exact h
        · exact absurd h.symm e
        · rw [hge] at h; cases h
      have hB : ∀ b', b' ∈ b :: B → ltS key b'.key = true := fun b' hb' => by
        rcases List.mem_cons.1 hb' with rfl | hb'
        · exact hlt
        · exact ltS_trans hlt (hb b' hb')
      have hany : ((b :: B).any fun c => eqS c.key key) = false := List.any_eq_false.2 fun a ha => by
        have := (ltS_ne (hB a ha)).symm
        rw [← eqS_no] at this
        rw [this]; simp
      rw [List.take_left', List.drop_left', flt_all hB, hany]
      · refine ⟨by simp, ?_⟩
        simp only [List.map_append, List.sum_append, List.map_cons, List.map_nil, List.sum_cons, List.sum_nil, Bool.false_eq_true, if_false]
        omega
      · rfl
      · rfl
theorem rise_filter {l : List C} (h : Rise l) (p : C → Bool) : Rise (l.filter p) := List.Pairwise.filter p h
theorem rise_ins {l : List C} (h : Rise l) (key val : ByteArray) : Rise (insE key val l) := by
  unfold insE Rise
  rw [pw_app, List.pairwise_cons]
  refine ⟨rise_filter h _, ⟨fun b hb => ?_, rise_filter h _⟩, fun a ha b hb => ?_⟩
  · exact (List.mem_filter.1 hb).2
  · have h1 : ltS a.key key = true := (List.mem_filter.1 ha).2
    rcases List.mem_cons.1 hb with rfl | hb
    · exact h1
    · exact ltS_trans h1 (List.mem_filter.1 hb).2
theorem mem_ins {key val : ByteArray} {l : List C} {x : C} (h : x ∈ insE key val l) : x ∈ l ∨ x = .mk key val [] [] := by
  rcases List.mem_append.1 h with h | h
  · exact .inl (List.mem_filter.1 h).1
  · rcases List.mem_cons.1 h with h | h
    · exact .inr h
    · exact .inl (List.mem_filter.1 h).1
theorem ins_mid {key val : ByteArray} {A B M : List C} (h1 : ∀ a, a ∈ A → ltS a.key key = true) (h2 : ∀ b, b ∈ B → ltS key b.key = true) : insE key val (A ++ M ++ B) = A ++ insE key val M ++ B := by
  unfold insE
  rw [List.filter_append, List.filter_append, List.filter_append, List.filter_append, flt_all h1, flt_no (l := B) fun b hb => ltS_asymm (h2 b hb), flt_no (l := A) fun a ha => ltS_asymm (h1 a ha), flt_all h2]
  simp
theorem del_mid {key : ByteArray} {A B M : List C} (h1 : ∀ a, a ∈ A → ltS a.key key = true) (h2 : ∀ b, b ∈ B → ltS key b.key = true) : delE key (A ++ M ++ B) = A ++ delE key M ++ B := by
  unfold delE
  rw [List.filter_append, List.filter_append, flt_all (l := A) fun a ha => by rw [eqS_no.2 (ltS_ne (h1 a ha))]; rfl, flt_all (l := B) fun b hb => by rw [eqS_no.2 (ltS_ne (h2 b hb)).symm]; rfl]
theorem wayF_spec (l : List C) (key : ByteArray) : ∀ i, i < l.length → (wayF l key i = 0 ∨ ∃ c, l[wayF l key i]? = some c ∧ leS c.key key = true) ∧ ∀ j c, wayF l key i < j → j ≤ i → l[j]? = some c → leS c.key key = false
  | 0, _ => ⟨.inl rfl, fun j c h1 h2 => by simp only [wayF] at h1; omega⟩
  | i + 1, hi => by
    obtain ⟨h1, h2⟩ := wayF_spec l key i (by omega)
    have hx : l[i + 1]? = some l[i + 1] := List.getElem?_eq_getElem hi
    cases hle : leS l[i + 1].key key with
    | true =>
      have e : wayF l key (i + 1) = i + 1 := by simp only [wayF, hx, hle, if_true]
      rw [e]
      exact ⟨.inr ⟨_, hx, hle⟩, fun j c h3 h4 => by omega⟩
    | false =>
      have e : wayF l key (i + 1) = wayF l key i := by simp only [wayF, hx, hle, Bool.false_eq_true, if_false]
      rw [e]
      refine ⟨h1, fun j c h3 h4 hc => ?_⟩
      rcases Nat.lt_or_ge i j with h | h
      · have : j = i + 1 := by omega
        subst this
        rw [hx] at hc; cases hc; exact hle
      · exact h2 j c h3 h hc
/-- The kid that a key goes to. -/
theorem way_split {G : N → Prop} {l : List C} (h : BrG G l) (hn : l ≠ []) (key : ByteArray) : ∃ A c B, l = A ++ c :: B ∧ A.length = way l key ∧ (∀ a, a ∈ A → ∀ x, x ∈ enC false a → ltS x.key key = true) ∧ leS c.key key = true ∧ ∀ b, b ∈ B → ltS key b.key = true := by
  have hpos := List.length_pos_iff.2 hn
  have hw := way_lt hn key
  obtain ⟨h1, h2⟩ := wayF_spec l key (l.length - 1) (by omega)
  have hwd : way l key = wayF l key (l.length - 1) := rfl
  rw [← hwd] at h1 h2
  have hsp : l = l.take (way l key) ++ l[way l key] :: l.drop (way l key + 1) := by
    rw [← List.drop_eq_getElem_cons hw, List.take_append_drop]
  have hle : leS l[way l key].key key = true := by
    rcases h1 with h1 | ⟨c, hc, h1⟩
    · have hk := h.k0
      have : l[way l key].key = noS := by
        rw [← hk]
        cases l with
        | nil => exact absurd rfl hn
        | cons a t => simp [h1, keyOf]
      rw [this]; exact noS_le _
    · rw [List.getElem?_eq_getElem hw] at hc
      cases hc; exact h1
  have hpw := h.pw
  rw [hsp, pw_app] at hpw
  refine ⟨_, _, _, hsp, by rw [List.length_take]; omega, fun a ha x hx => ltS_leS ((hpw.2.2 a ha _ List.mem_cons_self).2 x hx) hle, hle, fun b hb => ?_⟩
  obtain ⟨j, hj⟩ := List.mem_iff_getElem?.1 hb
  rw [List.getElem?_drop] at hj
  exact leS_no.1 (h2 _ b (by omega) (by have := (List.getElem?_eq_some_iff.1 hj).1; omega) hj)
theorem brG_lt {d : Nat} {A B : List C} {c : C} (h : BrG (Good d) (A ++ c :: B)) {key : ByteArray} (hB : ∀ b, b ∈ B → ltS key b.key = true) : ∀ x, x ∈ B.flatMap (enC false) → ltS key x.key = true := fun x hx => by
  obtain ⟨b, hb, hx⟩ := List.mem_flatMap.1 hx
  exact ltS_leS (hB b hb) ((h.cell b (by simp [hb])).2.1 x hx)
theorem fits_two {d : Nat} {k : N} (h : Good d k) (hf : Fits k) : k.leaf = true ∨ 2 ≤ k.l.length := by
  cases d with
  | zero => exact .inl h.1
  | succ d =>
    refine .inr ?_
    have hs := good_sizes h
    rw [if_neg (by omega)] at hs
    have h30 := hf.1
    unfold sizesN at hs h30
    match hl : k.l, hs, h30 with
    | [], _, h30 => simp at h30
    | [c], hs, h30 =>
      have := hs (sizeC k.leaf c) (by simp)
      simp at h30; omega
    | _ :: _ :: _, _, _ => simp
/-- One kid of a branch is another one. -/
theorem pre_kid {d : Nat} {A B : List C} {c : C} {kid : N} (h : BrG (Good d) (A ++ c :: B)) (k' : N) (hg : Good d k') (hs : (sizesN k').sum ≤ 167) (hk : c.kid = [kid]) (hlo : ∀ x, x ∈ enN k' → leS c.key x.key = true) (hup : ∀ x, x ∈ enN k' → ∀ b, b ∈ B → ltS x.key b.key = true) : Pre d A (cellN c.key k') B := by
  obtain ⟨p1, p2, p3⟩ := pw_app.1 h.pw
  rw [List.pairwise_cons] at p2
  refine ⟨?_, pw_app.2 ⟨p1, List.pairwise_cons.2 ⟨fun b hb => ⟨(p2.1 b hb).1, fun x hx => ?_⟩, p2.2⟩, fun a ha b hb => ?_⟩, fun x hx => h.cell x (by simp [hx]), fun x hx => h.cell x (by simp [hx]), ⟨(h.cell c (by simp)).1.1, rfl, rfl⟩, fun x hx => ?_, k', rfl, hg, hs⟩
  · rw [← h.k0]; exact keyOf_app rfl (by simp) (by simp)
  · rw [enC_cell] at hx; exact hup x hx b hb
  · rcases List.mem_cons.1 hb with rfl | hb
    · exact p3 a ha c List.mem_cons_self
    · exact p3 a ha b (List.mem_cons_of_mem _ hb)
  · rw [enC_cell] at hx; exact hlo x hx
theorem Mended.good {d : Nat} {L : List C} {m : N} (h : Mended d L m) : Good (d + 1) m := ⟨h.leaf, h.ne, h.br⟩
theorem sizes_leaf {n : N} (h : n.leaf = true) : sizesN n = n.l.map (sizeC true) := by unfold sizesN; rw [h]
theorem sizes_branch {n : N} (h : n.leaf = false) : sizesN n = n.l.map (sizeC false) := by unfold sizesN; rw [h]
theorem ends_two {A B : List C} {c : C} (h : 2 ≤ (A ++ c :: B).length) : A ≠ [] ∨ B ≠ [] := by
  rcases A with _ | ⟨a, A⟩
  · right; rintro rfl; simp at h
  · exact .inl (by simp)
theorem put_good {key val : ByteArray} (hk0 : key ≠ noS) (hk : key.size ≤ 16) (hv : val.size ≤ 400) : ∀ {d : Nat} {n : N}, Good d n → (sizesN n).sum ≤ 122 → n.leaf = true ∨ 2 ≤ n.l.length → Good d (putN key val n) ∧ (sizesN (putN key val n)).sum ≤ 157 ∧ enN (putN key val n) = insE key val (enN n)
  | 0, n, h, hs, h2 => by
    rw [putN_leaf _ _ _ h.1, en_leaf h.1, enN_mk, flat_leaf, sizes_mk]
    rw [sizes_leaf h.1] at hs
    obtain ⟨e1, e2⟩ := leafPut_eq h.2.1 key val
    have h35 := (size_leaf (c := .mk key val [] []) ⟨hk, hv⟩).2
    refine ⟨⟨rfl, ?_, fun c hc => ?_⟩, ?_, e1⟩
    · show Rise (leafPut n.l key val)
      rw [e1]; exact rise_ins h.2.1 key val
    · rcases leafPut_mem hc with hc | rfl
      · exact h.2.2 c hc
      · exact ⟨hk0, hk, hv, fun e => absurd rfl e, by simp [C.pages], rfl⟩
    · have hpos : 0 ≤ ((n.l.filter fun c => eqS c.key key).map (sizeC true)).sum := sum_pos fun x hx => by
        obtain ⟨c, hc, rfl⟩ := List.mem_map.1 hx
        obtain ⟨_, w2, w3, _⟩ := h.2.2 c (List.mem_filter.1 hc).1
        exact (size_leaf ⟨w2, w3⟩).1
      split at e2 <;> omega
  | d + 1, n, h, hs, h2 => by
    have hB := h.2.2
    have h2 := h2.resolve_left (by rw [h.1]; simp)
    obtain ⟨A, c, B, hl, hw, hA, hc, hBk⟩ := way_split hB h.2.1 key
    have hcl : n.l[way n.l key]? = some c := by rw [← hw]; conv => lhs; rw [hl]
                                                simp
    have hcm : c ∈ n.l := List.mem_of_getElem? hcl
    obtain ⟨o1, o2, kid, hkid, o4, o5⟩ := hB.cell c hcm
    obtain ⟨g1, g2, g3⟩ := put_good hk0 hk hv o4 o5.2 (fits_two o4 o5)
    rw [putN_br _ _ _ h.1 hcl hkid, ← hw]
    rw [sizes_branch h.1] at hs
    have hen : enN n = A.flatMap (enC false) ++ enN kid ++ B.flatMap (enC false) := by rw [enN_eq, h.1, hl, List.flatMap_append, List.flatMap_cons, enC_br hkid, List.append_assoc]
    rw [hl] at hB hs h2 ⊢
    rw [withC_app, List.append_assoc, List.singleton_append]
    rw [enC_br hkid] at o2
    obtain ⟨p1, p2, p3⟩ := pw_app.1 hB.pw
    rw [List.pairwise_cons] at p2
    have hP := pre_kid hB (putN key val kid) g1 (by omega) hkid (fun x hx => by
      rw [g3] at hx
      rcases mem_ins hx with hx | rfl
      · exact o2 x hx
      · exact hc) fun x hx b hb => by
      rw [g3] at hx
      rcases mem_ins hx with hx | rfl
      · exact (p2.1 b hb).2 x (by rw [enC_br hkid]; exact hx)
      · exact hBk b hb
    have hm := mend_ok hP (ends_two h2)
    refine ⟨hm.good, ?_, ?_⟩
    · have := hm.sum
      simp only [List.map_append, List.map_cons, List.sum_append, List.sum_cons, size_br, cellN, C.key_mk] at this hs
      simp only [cellN]
      omega
    · rw [hm.en, hen, ins_mid, List.flatMap_append, List.flatMap_cons, enC_cell, g3, List.append_assoc]
      · intro a ha
        obtain ⟨a', ha', hx⟩ := List.mem_flatMap.1 ha
        exact hA a' ha' a hx
      · exact brG_lt hB hBk
theorem without_good {key : ByteArray} : ∀ {d : Nat} {n : N}, Good d n → (sizesN n).sum ≤ 122 → n.leaf = true ∨ 2 ≤ n.l.length → Good d (withoutN key n) ∧ (sizesN (withoutN key n)).sum ≤ 142 ∧ enN (withoutN key n) = delE key (enN n)
  | 0, n, h, hs, h2 => by
    rw [withoutN_leaf _ _ h.1, en_leaf h.1, enN_mk, flat_leaf, sizes_mk]
    rw [sizes_leaf h.1] at hs
    refine ⟨⟨rfl, rise_filter h.2.1 _, fun c hc => h.2.2 c (List.mem_filter.1 hc).1⟩, ?_, rfl⟩
    have : ∀ l : List C, (∀ c, c ∈ l → ShL c) → ((l.filter fun c => !eqS c.key key).map (sizeC true)).sum ≤ (l.map (sizeC true)).sum := by
      intro l
      induction l with
      | nil => intro _; exact Int.le_refl _
      | cons c l ih =>
        intro hl
        have h1 := ih fun c hc => hl c (List.mem_cons_of_mem _ hc)
        obtain ⟨_, w2, w3, _⟩ := hl c List.mem_cons_self
        have := (size_leaf ⟨w2, w3⟩).1
        rw [List.filter_cons, List.map_cons, List.sum_cons]
        split
        · rw [List.map_cons, List.sum_cons]; omega
        · omega
    have := this n.l h.2.2
    omega
  | d + 1, n, h, hs, h2 => by
    have hB := h.2.2
    have h2 := h2.resolve_left (by rw [h.1]; simp)
    obtain ⟨A, c, B, hl, hw, hA, hc, hBk⟩ := way_split hB h.2.1 key
    have hcl : n.l[way n.l key]? = some c := by rw [← hw]; conv => lhs; rw [hl]
                                                simp
    have hcm : c ∈ n.l := List.mem_of_getElem? hcl
    obtain ⟨o1, o2, kid, hkid, o4, o5⟩ := hB.cell c hcm
    obtain ⟨g1, g2, g3⟩ := without_good (key := key) o4 o5.2 (fits_two o4 o5)
    rw [withoutN_br _ _ h.1 hcl hkid, ← hw]
    rw [sizes_branch h.1] at hs
    have hen : enN n = A.flatMap (enC false) ++ enN kid ++ B.flatMap (enC false) := by rw [enN_eq, h.1, hl, List.flatMap_append, List.flatMap_cons, enC_br hkid, List.append_assoc]
    rw [hl] at hB hs h2 ⊢
    have hset : (A ++ c :: B).set A.length (.mk c.key c.data c.pages [withoutN key kid]) = A ++ cellN c.key (withoutN key kid) :: B := by
      rw [List.set_append_right _ _ (Nat.le_refl _), Nat.sub_self, List.set_cons_zero, o1.2.1, o1.2.2]; rfl
    rw [hset]
    rw [enC_br hkid] at o2
    obtain ⟨p1, p2, p3⟩ := pw_app.1 hB.pw
    rw [List.pairwise_cons] at p2
    have hP := pre_kid hB (withoutN key kid) g1 (by omega) hkid (fun x hx => by
      rw [g3] at hx
      exact o2 x (List.mem_filter.1 hx).1) fun x hx b hb => by
      rw [g3] at hx
      exact (p2.1 b hb).2 x (by rw [enC_br hkid]; exact (List.mem_filter.1 hx).1)
    have hm := mend_ok hP (ends_two h2)
    refine ⟨hm.good, ?_, ?_⟩
    · have := hm.sum
      simp only [List.map_append, List.map_cons, List.sum_append, List.sum_cons, size_br, cellN, C.key_mk] at this hs
      simp only [cellN]
      omega
    · rw [hm.en, hen, del_mid, List.flatMap_append, List.flatMap_cons, enC_cell, g3, List.append_assoc]
      · intro a ha
        obtain ⟨a', ha', hx⟩ := List.mem_flatMap.1 ha
        exact hA a' ha' a hx
      · exact brG_lt hB hBk
/-- A tree that may be. -/
def RootG (n : N) : Prop := ∃ d, Good d n ∧ (sizesN n).sum ≤ 122 ∧ (n.leaf = true ∨ 2 ≤ n.l.length)
theorem top_good : ∀ {d : Nat} {n : N}, Good d n → (sizesN n).sum ≤ 167 → RootG (topN n) ∧ enN (topN n) = enN n := by
  have one : ∀ {d : Nat} {n : N}, Good d n → (sizesN n).sum ≤ 167 → n.leaf = true ∨ n.l.length ≠ 1 → RootG (topN n) ∧ enN (topN n) = enN n := by
    intro d n h hs h1
    rw [topN_else _ h1]
    have hP : Pre d [] (cellN noS n) [] := ⟨rfl, List.pairwise_singleton _ _, fun x hx => (by cases hx), fun x hx => (by cases hx), ⟨by show noS.size ≤ 16; rw [noS_size]; omega, rfl, rfl⟩, fun x hx => noS_le _, n, rfl, h, hs⟩
    rcases parted_ok (p := 0) hP (kid := n) rfl (m := partedN (.mk 0 false [cellN noS n]) n 0 noS) rfl with ⟨q1, q2, q3⟩ | ⟨q1, q2, q3, q4, q5, q6, q7⟩
    · rw [if_pos (atR_zero q3)]
      refine ⟨⟨d, h, q3, ?_⟩, rfl⟩
      rcases h1 with h1 | h1
      · exact .inl h1
      · cases hl : n.leaf with
        | true => exact .inl rfl
        | false =>
          refine .inr ?_
          cases d with
          | zero => have := h.1; rw [hl] at this; cases this
          | succ d => have := List.length_pos_iff.2 h.2.1; omega
    · have hne : atR (sizesN n) ≠ 0 := by
        intro e
        unfold partedN at q1
        simp only [e, if_true] at q1
        cases q1
      rw [if_neg hne]
      have hmd : mendN (.mk 0 false [cellN noS n]) 0 = (partedN (.mk 0 false [cellN noS n]) n 0 noS).1 := by
        have e1 : cellAt [cellN noS n] 0 = cellN noS n := rfl
        have e2 : kid0 (cellN noS n) = n := rfl
        have e3 : (cellN noS n).key = noS := rfl
        unfold mendN
        simp only [N.l_mk, e1, e2, e3]
        rw [if_pos q1]
      rw [hmd]
      have he : enN (partedN (.mk 0 false [cellN noS n]) n 0 noS).1 = enN n := by
        have := q5
        simp only [List.nil_append, List.flatMap_cons, List.flatMap_nil, List.append_nil, enC_cell] at this
        exact this
      have hlen : (partedN (.mk 0 false [cellN noS n]) n 0 noS).1.l.length = 2 := by simpa using q3
      refine ⟨⟨d + 1, ⟨q2, by intro e; rw [e] at hlen; simp at hlen, q4⟩, ?_, .inr (by omega)⟩, he⟩
      have : (sizesN (partedN (.mk 0 false [cellN noS n]) n 0 noS).1).sum ≤ (([] ++ cellN noS n :: []).map (sizeC false)).sum + 20 := q7
      have e4 : (([] ++ cellN noS n :: []).map (sizeC false)).sum = 4 := by
        simp only [List.nil_append, List.map_cons, List.map_nil, List.sum_cons, List.sum_nil, size_br, cellN, C.key_mk, noS_size]; omega
      omega
  intro d
  induction d with
  | zero => intro n h hs; exact one h hs (.inl h.1)
  | succ d ih =>
    intro n h hs
    by_cases h1 : n.l.length = 1
    · obtain ⟨c, hc⟩ := List.length_eq_one_iff.1 h1
      obtain ⟨_, _, k, hk, hg, hf⟩ := h.2.2.cell c (by rw [hc]; exact List.mem_singleton_self c)
      rw [topN_one n h.1 hc hk]
      obtain ⟨i1, i2⟩ := ih hg (by have := hf.2; omega)
      refine ⟨i1, ?_⟩
      rw [i2, enN_eq n, h.1, hc, List.flatMap_cons, List.flatMap_nil, enC_br hk, List.append_nil]
    · exact one h hs (.inr h1)
theorem root_put {key val : ByteArray} (hk0 : key ≠ noS) (hk : key.size ≤ 16) (hv : val.size ≤ 400) {n : N} (h : RootG n) : RootG (Put key val n) ∧ enN (Put key val n) = insE key val (enN n) := by
  obtain ⟨d, h1, h2, h3⟩ := h
  obtain ⟨g1, g2, g3⟩ := put_good hk0 hk hv h1 h2 h3
  obtain ⟨t1, t2⟩ := top_good g1 (by omega)
  exact ⟨t1, t2.trans g3⟩
theorem find_good (key : ByteArray) : ∀ {d : Nat} {n : N}, Good d n → findN key n = ((enN n).find? fun c => eqS c.key key).map C.data
  | 0, n, h => by rw [findN_leaf _ _ h.1, en_leaf h.1]
  | d + 1, n, h => by
    have hB := h.2.2
    obtain ⟨A, c, B, hl, hw, hA, hc, hBk⟩ := way_split hB h.2.1 key
    have hcl : n.l[way n.l key]? = some c := by rw [← hw]; conv => lhs; rw [hl]
                                                simp
    obtain ⟨o1, o2, kid, hkid, o4, o5⟩ := hB.cell c (List.mem_of_getElem? hcl)
    have hen : enN n = A.flatMap (enC false) ++ (enN kid ++ B.flatMap (enC false)) := by rw [enN_eq, h.1, hl, List.flatMap_append, List.flatMap_cons, enC_br hkid]
    rw [findN_br _ _ h.1 hcl hkid, find_good key o4, hen, List.find?_append, List.find?_append]
    rw [hl] at hB
    have f1 : (A.flatMap (enC false)).find? (fun c => eqS c.key key) = none := List.find?_eq_none.2 fun x hx => by
      obtain ⟨a, ha, hx⟩ := List.mem_flatMap.1 hx
      rw [eqS_no.2 (ltS_ne (hA a ha x hx))]; simp
    have f2 : (B.flatMap (enC false)).find? (fun c => eqS c.key key) = none := List.find?_eq_none.2 fun x hx => by
      rw [eqS_no.2 (ltS_ne (brG_lt hB hBk x hx)).symm]; simp
    rw [f1, f2]
    cases (enN kid).find? fun c => eqS c.key key <;> rfl
theorem del_none {key : ByteArray} {l : List C} (h : (l.find? fun c => eqS c.key key) = none) : delE key l = l := flt_all fun a ha => by
  have := List.find?_eq_none.1 h a ha
  simpa using this
theorem root_del (key : ByteArray) {n : N} (h : RootG n) : RootG (Del key n) ∧ enN (Del key n) = delE key (enN n) := by
  obtain ⟨d, h1, h2, h3⟩ := h
  unfold Del
  have hf := find_good key h1
  split
  · obtain ⟨g1, g2, g3⟩ := without_good (key := key) h1 h2 h3
    obtain ⟨t1, t2⟩ := top_good g1 (by omega)
    exact ⟨t1, t2.trans g3⟩
  · rename_i hn
    refine ⟨⟨d, h1, h2, h3⟩, (del_none ?_).symm⟩
    rw [hf] at hn
    cases hx : (enN n).find? fun c => eqS c.key key with
    | none => rfl
    | some c => rw [hx] at hn; simp at hn
end Go.Proofs.YtfieabidajilmaaGreat
